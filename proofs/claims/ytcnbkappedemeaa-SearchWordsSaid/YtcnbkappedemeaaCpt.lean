/- This text walks through Compact of the package slices at rows of words. -/
import Derived.Test.YtcnbkappedemeaaSlc
set_option linter.all false

namespace Go.X
open Go Go.Lib

def cmptGo : WR → List WR → List WR
  | _, [] => []
  | p, y :: r => if y = p then cmptGo p r else y :: cmptGo y r
/-- The rows without equal neighbours. -/
def cmpt : List WR → List WR
  | [] => []
  | x :: r => x :: cmptGo x r
def nthW (l : List WR) (i : Nat) : WR := l.getD i default
theorem nthW_eq {l : List WR} {i : Nat} (h : i < l.length) : nthW l i = l[i] := by
  unfold nthW; rw [List.getD_eq_getElem?_getD, List.getElem?_eq_getElem h]; rfl
theorem wrC_drop (l : List WR) (k : Nat) : (wrC l).drop (k * 4) = wrC (l.drop k) := by
  have h := List.take_append_drop (k * 4) (wrC l)
  rw [wrC_take] at h
  have h2 : wrC l = wrC (l.take k) ++ wrC (l.drop k) := by
    unfold wrC
    rw [← List.flatMap_append, List.take_append_drop]
  have h3 : wrC (l.take k) ++ (wrC l).drop (k * 4) = wrC (l.take k) ++ wrC (l.drop k) := h.trans h2
  exact List.append_cancel_left h3
theorem wr_ext {x y : WR} (h : x.w = y.w ∧ (x.sp = y.sp ∧ x.nm = y.nm ∧ True) ∧ x.n = y.n ∧ True) : x = y := by
  obtain ⟨a, b, c, d⟩ := x
  obtain ⟨a', b', c', d'⟩ := y
  obtain ⟨h1, ⟨h2, h3, _⟩, h4, _⟩ := h
  dsimp only at h1 h2 h3 h4
  subst h1 h2 h3 h4
  rfl
theorem wr_ne {x y : WR} (h : ¬ (x.w = y.w ∧ (x.sp = y.sp ∧ x.nm = y.nm ∧ True) ∧ x.n = y.n ∧ True)) : ¬ x = y := fun e => h (by subst e; exact ⟨rfl, ⟨rfl, rfl, trivial⟩, rfl, trivial⟩)
theorem drop_at {m l : List WR} {d i : Nat} (h : m.drop d = l.drop d) (hi : d ≤ i) (h1 : i < m.length) (h2 : i < l.length) : m[i] = l[i] := by
  have := congrArg (fun x => x[i - d]?) h
  simp only [List.getElem?_drop, show d + (i - d) = i by omega, List.getElem?_eq_getElem h1, List.getElem?_eq_getElem h2] at this
  exact Option.some.inj this
theorem rsub {e : Nat} {a : Option Addr} {n c k : Nat} {m : List WR} {L : List Chunk} {D : List Fact} (hm : Chunk.row e 4 a n c (wrC m) ∈ L) (hn : m.length = n) (hk : k < n) (hc : n ≤ c) : Reads L D e 4 (resl a k c 4) (n - k) (wrC (m.drop k)) := by
  refine .sub a k n c (wrC m) hm ?_ (by omega) ?_
  · exact if_neg (by omega)
  · rw [wrC_drop, List.take_of_length_le]
    rw [wrC_len, List.length_drop]; omega
theorem wr_sub {m : List WR} {k i : Nat} (h : k + i < m.length) : ((wrC (m.drop k)).drop (i * 4 + 0)).take 4 = [.s m[k + i].w, .i .i64 m[k + i].sp, .s m[k + i].nm, .i .i64 m[k + i].n] := by
  rw [wr_get (l := m.drop k) (i := i) (by rw [List.length_drop]; omega)]
  simp

end Go.X

namespace Go.Proofs
open Go Go.X
set_option maxRecDepth 100000
set_option maxHeartbeats 8000000

theorem cptW_ok (a : Option Addr) (c : Nat) (l : List WR) (hl : l.length ≤ 100000) :
    FnS Try.prog 40 [.c (.sl a l.length c)] [.row 39 4 a l.length c (wrC l)] []
      (fun v L D => v = .c (.sl a (cmpt l).length c) ∧ L = [.row 39 4 a (cmpt l).length c (wrC (cmpt l))] ∧ D = []) := by
  by_cases h2 : l.length < 2
  · have he : cmpt l = l := by
      match l, h2 with
      | [], _ => rfl
      | [x], _ => rfl
      | x :: y :: r, h => simp at h; omega
    rw [he]
    refine fn_of_J Try.tyOK 0 Try.func40 (by kernel_rfl) (c := Try.f40.body.getD .skip) (by kernel_rfl) Try.ntmps40 (rs := Try.f40.results.toList) rfl (by simp) (fun G => ?_)
    repeat' first
      | refine J_seq ?_ | refine J_region Try.tyOK ?_ | refine J_block ?_ | refine J_cond ?_ | refine J_ret ?_ | refine J_skip ?_ | refine J_exit ?_ | refine J_scope ?_
      | refine CondP.yes (by omega) ?_ | refine CondP.no (by omega) ?_ | refine CondP.mk (fun h => ?_) (fun h => ?_) | refine EqP.mk rfl ?_ | refine NewP.mk (fun ad => ?_) | refine ArP.exact (by simp only [inR]; omega) ?_ | refine SideP.mk (by first | omega | (dsimp only; omega) | (simp; omega)) ?_
      | refine FinE.mk [_] [] ⟨rfl, rfl, rfl⟩ (Ents.refl _ _)
      | fail
  · generalize hq : cmpt l = q
    refine fn_of_J Try.tyOK 0 Try.func40 (by kernel_rfl) (c := Try.f40.body.getD .skip) (by kernel_rfl) Try.ntmps40 (rs := Try.f40.results.toList) rfl (by simp) (fun G => ?_)
    refine J_cap (List.Mem.head _) (fun hnc _ _ => ?_)
    repeat' first
      | refine J_seq ?_ | refine J_region Try.tyOK ?_ | refine J_block ?_ | refine J_cond ?_ | refine J_ret ?_ | refine J_skip ?_ | refine J_exit ?_ | refine J_scope ?_
      | refine CondP.yes (by omega) ?_ | refine CondP.no (by omega) ?_ | refine CondP.mk (fun h => ?_) (fun h => ?_) | refine EqP.mk rfl ?_ | refine NewP.mk (fun ad => ?_) | refine ArP.exact (by simp only [inR]; omega) ?_ | refine SideP.mk (by first | omega | (dsimp only; omega) | (simp; omega)) ?_
      | fail
    refine J_loop (α := Nat) (fun k => [(0, .c (.sl a l.length c)), (3, .c (.i .i64 k))]) (fun _ => [.row 39 4 a l.length c (wrC l)]) (fun _ => []) 0
      (fun k => 1 ≤ k ∧ k ≤ l.length ∧ q = l.take k ++ cmptGo (nthW l (k - 1)) (l.drop k)) (fun k => l.length - k) (InFam.mk 1 ⟨Nat.le_refl _, by omega, ?_⟩ (by repeat' first | exact SubE.nil | refine SubE.cons rfl ?_ ?_ | exact VEq.refl _ | refine VEq.int (by omega) | refine VEq.sl rfl (by first | rfl | omega | (rw [List.length_append]; rfl) | (simp; omega)) rfl) (Ents.refl _ _)) (fun k hx => ?_)
    · rw [← hq]
      match l, h2 with
      | [], h => simp at h
      | x :: r, _ => rfl
    obtain ⟨hk1, hkn, he⟩ := hx
    by_cases hlt : k < l.length
    · have hg := wr_get hlt
      have hkk : ((k : Int) - 1).toNat = k - 1 := by omega
      have hg1 : ((wrC l).drop (((k : Int) - 1).toNat * 4 + 0)).take 4 = [.s l[k - 1].w, .i .i64 l[k - 1].sp, .s l[k - 1].nm, .i .i64 l[k - 1].n] := by rw [hkk]; exact wr_get (by omega)
      have hn1 : nthW l (k - 1) = l[k - 1] := nthW_eq (by omega)
      have hyes : l[k] = l[k - 1] → q = l.take k ++ cmptGo (nthW l k) (l.drop (k + 1)) := fun h => by
        rw [he, List.drop_eq_getElem_cons hlt, cmptGo, hn1, if_pos h, nthW_eq hlt, h]
      have hno : ¬ l[k] = l[k - 1] → q = l.take (k + 1) ++ cmptGo (nthW l k) (l.drop (k + 1)) := fun h => by
        rw [he, List.drop_eq_getElem_cons hlt, cmptGo, hn1, if_neg h, nthW_eq hlt, List.take_succ_eq_append_getElem hlt, List.append_assoc]
        rfl
      repeat' first
        | refine J_stop (c := .seq (.region 7 _ _) _) ?_
        | refine J_seq ?_ | refine J_region Try.tyOK ?_ | refine J_block ?_ | refine J_cond ?_ | refine J_ret ?_ | refine J_skip ?_ | refine J_exit ?_ | refine J_scope ?_
        | refine CondP.yes (by omega) ?_ | refine CondP.no (by omega) ?_ | refine CondP.mk (fun h => ?_) (fun h => ?_) | refine EqP.mk rfl ?_ | refine NewP.mk (fun ad => ?_) | refine ArP.exact (by simp only [inR]; omega) ?_ | refine SideP.mk (by first | omega | (dsimp only; omega) | (simp; omega)) ?_
        | refine J_drawS (id := 6) Try.tyOK (by kernel_rfl) [0, 0, 3, 7, 0, 0, 32, 112, 240, 511] [0, 1, 2, 3, 4, 5, 6, 7, 8, 9] [] [18, 23] true (by kernel_rfl) ?_ | refine J_drawS (id := 11) Try.tyOK (by kernel_rfl) [0, 0, 3, 7, 0, 0, 32, 112, 240, 511] [0, 1, 2, 3, 4, 5, 6, 7, 8, 9] [] [37, 42] true (by kernel_rfl) ?_ | refine EntP.mk (Ents.ofSub (by repeat (first | exact List.Sublist.slnil | refine List.Sublist.cons_cons _ ?_ | refine List.Sublist.cons _ ?_)) (by first | exact fun _ h => h | exact fun _ _ => trivial | exact fun _ h => h.2 | exact fun _ h => h.2.2.2.2 | exact fun _ h => h.2.2 | exact fun _ h => h.2.2.2 | exact fun _ h => h.2.2.2.2.2 | exact fun _ h => h.2.2.2.2.2.2 | exact fun _ h => h.2.2.2.2.2.2.2 | exact fun _ h => h.2.2.2.2.2.2.2.2 | exact fun _ h => h.2.2.2.2.2.2.2.2.2 | exact fun _ h => h.2.2.2.2.2.2.2.2.2.2 | exact fun _ h => ((allD_append _ _).1 h).2)) ?_ | refine IdxE.mk 39 4 _ (.inl ⟨c, List.Mem.head _⟩) (by omega) (by omega) ?_ | refine LoadE.mk 39 _ _ _ (.inl ⟨c, List.Mem.head _⟩) (by omega) (by omega) (by first | omega | decide) hg ?_ | refine LoadE.mk 39 _ _ _ (.inl ⟨c, List.Mem.head _⟩) (by omega) (by omega) (by first | omega | decide) hg1 ?_ | refine Round.mk (k + 1) (by omega) ⟨by omega, by omega, ?_⟩ (by repeat' first | exact SubE.nil | refine SubE.cons rfl ?_ ?_ | exact VEq.refl _ | refine VEq.int (by omega) | refine VEq.sl rfl (by first | rfl | omega | (rw [List.length_append]; rfl) | (simp; omega)) rfl) (Ents.refl _ _)
        | fail
      · have hxy := wr_ext h
        have hq0 := hyes hxy
        clear hyes hno hg hg1 hn1 hkk he
        refine ⟨?_⟩
        refine J_ent (n' := 0) (env' := [(0, .c (.sl a l.length c)), (3, .c (.i .i64 k))]) (by repeat' first | exact SubE.nil | refine SubE.cons rfl ?_ ?_ | exact VEq.refl _ | refine VEq.int (by omega) | refine VEq.sl rfl (by first | rfl | omega | (rw [List.length_append]; rfl) | (simp; omega)) rfl) (Ents.refl _ _) ?_
        repeat' first
          | refine J_seq ?_ | refine J_region Try.tyOK ?_ | refine J_block ?_ | refine J_cond ?_ | refine J_ret ?_ | refine J_skip ?_ | refine J_exit ?_ | refine J_scope ?_
          | refine CondP.yes (by omega) ?_ | refine CondP.no (by omega) ?_ | refine CondP.mk (fun h => ?_) (fun h => ?_) | refine EqP.mk rfl ?_ | refine NewP.mk (fun ad => ?_) | refine ArP.exact (by simp only [inR]; omega) ?_ | refine SideP.mk (by first | omega | (dsimp only; omega) | (simp; omega)) ?_
          | fail
        refine J_loop (α := Nat × Nat × List WR) (fun x => [(0, .c (.sl a l.length c)), (3, .c (.i .i64 x.2.1)), (4, .c (.sl (resl a k c 4) (l.length - k) (c - k))), (5, .c (.i .i64 x.1))]) (fun x => [.row 39 4 a l.length c (wrC x.2.2)]) (fun _ => []) 0
          (fun x => 1 ≤ x.1 ∧ x.1 ≤ l.length - k ∧ k ≤ x.2.1 ∧ x.2.1 ≤ k + x.1 - 1 ∧ x.2.2.length = l.length ∧ x.2.2.drop (k + x.1 - 1) = l.drop (k + x.1 - 1) ∧ q = x.2.2.take x.2.1 ++ cmptGo (nthW l (k + x.1 - 1)) (l.drop (k + x.1))) (fun x => l.length - x.1) (InFam.mk (1, k, l) ⟨Nat.le_refl _, by dsimp only; omega, Nat.le_refl _, by dsimp only; omega, rfl, rfl, by dsimp only; exact hq0⟩ (by repeat' first | exact SubE.nil | refine SubE.cons rfl ?_ ?_ | exact VEq.refl _ | refine VEq.int (by omega) | refine VEq.sl rfl (by first | rfl | omega | (rw [List.length_append]; rfl) | (simp; omega)) rfl) (Ents.refl _ _)) (fun x hx => ?_)
        obtain ⟨j, i, m⟩ := x
        dsimp only at hx ⊢
        obtain ⟨hj1, hj2, hki, hij, hml, hdr, hq1⟩ := hx
        have hR : Reads [.row 39 4 a l.length c (wrC m)] [] 39 4 (resl a k c 4) (l.length - k) (wrC (m.drop k)) := rsub (List.Mem.head _) hml (by omega) hnc
        by_cases hjl : j < l.length - k
        · have e1 := drop_at hdr (i := k + j) (by omega) (by omega) (by omega)
          have e2 := drop_at hdr (i := k + (j - 1)) (by omega) (by omega) (by omega)
          have hg := wr_sub (m := m) (k := k) (i := j) (by omega)
          rw [e1] at hg
          have hg1 : ((wrC (m.drop k)).drop (((j : Int) - 1).toNat * 4 + 0)).take 4 = [.s l[k + (j - 1)].w, .i .i64 l[k + (j - 1)].sp, .s l[k + (j - 1)].nm, .i .i64 l[k + (j - 1)].n] := by
            rw [show ((j : Int) - 1).toNat = j - 1 by omega]
            have := wr_sub (m := m) (k := k) (i := j - 1) (by omega)
            rw [e2] at this
            exact this
          have hst : setC (i * 4 + 0) (WR.cells l[k + j]) (wrC m) = wrC (m.set i l[k + j]) := wrC_set (by omega) _
          have hn1 : nthW l (k + j - 1) = l[k + (j - 1)] := by rw [nthW_eq (by omega)]; simp only [show k + j - 1 = k + (j - 1) by omega]
          have hyes : l[k + j] = l[k + (j - 1)] → q = m.take i ++ cmptGo (nthW l (k + (j + 1) - 1)) (l.drop (k + (j + 1))) := fun h => by
            rw [hq1, List.drop_eq_getElem_cons (show k + j < l.length by omega), cmptGo, hn1, if_pos h, show k + (j + 1) - 1 = k + j by omega, nthW_eq (by omega), h]
            rfl
          have hno : ¬ l[k + j] = l[k + (j - 1)] → q = (m.set i l[k + j]).take (i + 1) ++ cmptGo (nthW l (k + (j + 1) - 1)) (l.drop (k + (j + 1))) := fun h => by
            rw [hq1, List.drop_eq_getElem_cons (show k + j < l.length by omega), cmptGo, hn1, if_neg h, show k + (j + 1) - 1 = k + j by omega, nthW_eq (by omega), List.take_succ_eq_append_getElem (by rw [List.length_set]; omega), List.append_assoc]
            simp [List.take_set_of_le]
            rfl
          have hdr1 : m.drop (k + (j + 1) - 1) = l.drop (k + (j + 1) - 1) := by
            rw [show k + (j + 1) - 1 = (k + j - 1) + 1 by omega, ← List.drop_drop, hdr, List.drop_drop]
          have hdr2 : (m.set i l[k + j]).drop (k + (j + 1) - 1) = l.drop (k + (j + 1) - 1) := by
            rw [List.drop_set_of_lt (by omega)]; exact hdr1
          repeat' first
            | refine J_seq ?_ | refine J_region Try.tyOK ?_ | refine J_block ?_ | refine J_cond ?_ | refine J_ret ?_ | refine J_skip ?_ | refine J_exit ?_ | refine J_scope ?_
            | refine CondP.yes (by omega) ?_ | refine CondP.no (by omega) ?_ | refine CondP.mk (fun h => ?_) (fun h => ?_) | refine EqP.mk rfl ?_ | refine NewP.mk (fun ad => ?_) | refine ArP.exact (by simp only [inR]; omega) ?_ | refine SideP.mk (by first | omega | (dsimp only; omega) | (simp; omega)) ?_
            | refine J_drawS (id := 6) Try.tyOK (by kernel_rfl) [0, 0, 3, 7, 0, 0, 32, 112, 240, 511] [0, 1, 2, 3, 4, 5, 6, 7, 8, 9] [] [18, 23] true (by kernel_rfl) ?_ | refine J_drawS (id := 11) Try.tyOK (by kernel_rfl) [0, 0, 3, 7, 0, 0, 32, 112, 240, 511] [0, 1, 2, 3, 4, 5, 6, 7, 8, 9] [] [37, 42] true (by kernel_rfl) ?_ | refine EntP.mk (Ents.ofSub (by repeat (first | exact List.Sublist.slnil | refine List.Sublist.cons_cons _ ?_ | refine List.Sublist.cons _ ?_)) (by first | exact fun _ h => h | exact fun _ _ => trivial | exact fun _ h => h.2 | exact fun _ h => h.2.2.2.2 | exact fun _ h => h.2.2 | exact fun _ h => h.2.2.2 | exact fun _ h => h.2.2.2.2.2 | exact fun _ h => h.2.2.2.2.2.2 | exact fun _ h => h.2.2.2.2.2.2.2 | exact fun _ h => h.2.2.2.2.2.2.2.2 | exact fun _ h => h.2.2.2.2.2.2.2.2.2 | exact fun _ h => h.2.2.2.2.2.2.2.2.2.2 | exact fun _ h => ((allD_append _ _).1 h).2)) ?_ | refine IdxE.mk 39 4 _ hR (by omega) (by omega) ?_ | refine IdxE.mk 39 4 _ (.inl ⟨c, List.Mem.head _⟩) (by omega) (by omega) ?_ | refine LoadE.mk 39 _ _ _ hR (by omega) (by omega) (by first | omega | decide) hg ?_ | refine LoadE.mk 39 _ _ _ hR (by omega) (by omega) (by first | omega | decide) hg1 ?_ | refine StoreE.mk [] _ _ _ _ _ _ rfl (by omega) (by omega) (Nat.le_of_ble_eq_true rfl) hst ?_ | refine Round.mk (j + 1, i, m) (by dsimp only; omega) ⟨by dsimp only; omega, by dsimp only; omega, hki, by dsimp only; omega, hml, hdr1, hyes (wr_ext (by assumption))⟩ (by repeat' first | exact SubE.nil | refine SubE.cons rfl ?_ ?_ | exact VEq.refl _ | refine VEq.int (by omega) | refine VEq.sl rfl (by first | rfl | omega | (rw [List.length_append]; rfl) | (simp; omega)) rfl) (Ents.refl _ _) | refine Round.mk (j + 1, i + 1, m.set i l[k + j]) (by dsimp only; omega) ⟨by dsimp only; omega, by dsimp only; omega, by dsimp only; omega, by dsimp only; omega, by rw [List.length_set]; exact hml, hdr2, hno (wr_ne (by assumption))⟩ (by repeat' first | exact SubE.nil | refine SubE.cons rfl ?_ ?_ | exact VEq.refl _ | refine VEq.int (by omega) | refine VEq.sl rfl (by first | rfl | omega | (rw [List.length_append]; rfl) | (simp; omega)) rfl) (Ents.refl _ _)
            | fail
        · have hjn : j = l.length - k := by omega
          subst hjn
          rw [show l.drop (k + (l.length - k)) = [] from List.drop_eq_nil_of_le (by omega)] at hq1
          have hq1 : q = m.take i ++ [] := hq1
          rw [List.append_nil] at hq1
          have hql : q.length = i := by rw [hq1, List.length_take]; omega
          have hwl := wrC_len m
          repeat' first
            | refine J_seq ?_ | refine J_region Try.tyOK ?_ | refine J_block ?_ | refine J_cond ?_ | refine J_ret ?_ | refine J_skip ?_ | refine J_exit ?_ | refine J_scope ?_
            | refine CondP.yes (by omega) ?_ | refine CondP.no (by omega) ?_ | refine CondP.mk (fun h => ?_) (fun h => ?_) | refine EqP.mk rfl ?_ | refine NewP.mk (fun ad => ?_) | refine ArP.exact (by simp only [inR]; omega) ?_ | refine SideP.mk (by first | omega | (dsimp only; omega) | (simp; omega)) ?_
            | refine ClearE.mk [] _ _ _ _ (i : Int).toNat _ _ rfl (if_neg (by omega)) (by omega) ?_ | refine FinE.mk [_] [] ⟨?_, rfl, rfl⟩ ((Ents.rowPre (k := i) (by omega)).trans (Ents.of ?_))
            | fail
          · show V.c (C.sl (resl a 0 c 4) (i : Int).toNat c) = _
            rw [resl0, hql, Int.toNat_natCast]
          · show [Chunk.row _ 4 a i c ((setC ((i : Int).toNat * 4) (repC (l.length - (i : Int).toNat) [C.s [], C.i .i64 0, C.s [], C.i .i64 0]) (wrC m)).take (i * 4))] = _
            rw [Int.toNat_natCast, setC_take (by omega), wrC_take, ← hq1, hql]
      · exact hno (wr_ne h)
    · have hkl : k = l.length := by omega
      subst hkl
      rw [List.take_length, List.drop_length] at he
      have he : q = l ++ [] := he
      rw [List.append_nil] at he
      subst he
      repeat' first
        | refine J_seq ?_ | refine J_region Try.tyOK ?_ | refine J_block ?_ | refine J_cond ?_ | refine J_ret ?_ | refine J_skip ?_ | refine J_exit ?_ | refine J_scope ?_
        | refine CondP.yes (by omega) ?_ | refine CondP.no (by omega) ?_ | refine CondP.mk (fun h => ?_) (fun h => ?_) | refine EqP.mk rfl ?_ | refine NewP.mk (fun ad => ?_) | refine ArP.exact (by simp only [inR]; omega) ?_ | refine SideP.mk (by first | omega | (dsimp only; omega) | (simp; omega)) ?_
        | refine FinE.mk [_] [] ⟨rfl, rfl, rfl⟩ (Ents.refl _ _)
        | fail

end Go.Proofs
