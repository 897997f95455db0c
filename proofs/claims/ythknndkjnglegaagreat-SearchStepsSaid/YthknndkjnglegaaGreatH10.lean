/- This text walks through Compact of the package slices at rows of words. -/
import Derived.Test.YthknndkjnglegaaGreatH09
import Derived.Test.YthknndkjnglegaaGreatH08
import Derived.Shelf.SortM.Plain
import Derived.Shelf.SortM.SortNone
import Derived.Test.YthknndkjnglegaaGreatProg
set_option linter.all false

namespace Go.X
open Go Go.Lib
def cmptGo : WR → List WR → List WR
  | _, [] => []
  | p, y :: r => if y = p then cmptGo p r else y :: cmptGo y r
/-- The rows without equal neighbours. -/
def cmpt : List WR → List WR
  | [] => []
  | x :: r => x :: cmptGo x r
def nthW (l : List WR) (i : Nat) : WR := l.getD i default
theorem nthW_eq {l : List WR} {i : Nat} (h : i < l.length) : nthW l i = l[i] := by
  unfold nthW; rw [List.getD_eq_getElem?_getD, List.getElem?_eq_getElem h]; rfl
theorem wrC_drop (l : List WR) (k : Nat) : (wrC l).drop (k * 4) = wrC (l.drop k) := by
  have h := List.take_append_drop (k * 4) (wrC l)
  rw [wrC_take] at h
  have h2 : wrC l = wrC (l.take k) ++ wrC (l.drop k) := by
    unfold wrC
    rw [← List.flatMap_append, List.take_append_drop]
  have h3 : wrC (l.take k) ++ (wrC l).drop (k * 4) = wrC (l.take k) ++ wrC (l.drop k) := h.trans h2
  exact List.append_cancel_left h3
theorem wr_ext {x y : WR} (h : x.w = y.w ∧ (x.sp = y.sp ∧ x.nm = y.nm ∧ True) ∧ x.n = y.n ∧ True) : x = y := by
  obtain ⟨a, b, c, d⟩ := x
  obtain ⟨a', b', c', d'⟩ := y
  obtain ⟨h1, ⟨h2, h3, _⟩, h4, _⟩ := h
  dsimp only at h1 h2 h3 h4
  subst h1 h2 h3 h4
  rfl
theorem wr_ne {x y : WR} (h : ¬ (x.w = y.w ∧ (x.sp = y.sp ∧ x.nm = y.nm ∧ True) ∧ x.n = y.n ∧ True)) : ¬ x = y := fun e => h (by subst e; exact ⟨rfl, ⟨rfl, rfl, trivial⟩, rfl, trivial⟩)
theorem drop_at {m l : List WR} {d i : Nat} (h : m.drop d = l.drop d) (hi : d ≤ i) (h1 : i < m.length) (h2 : i < l.length) : m[i] = l[i] := by
  have := congrArg (fun x => x[i - d]?) h
  simp only [List.getElem?_drop, show d + (i - d) = i by omega, List.getElem?_eq_getElem h1, List.getElem?_eq_getElem h2] at this
  exact Option.some.inj this
theorem rsub {e : Nat} {a : Option Addr} {n c k : Nat} {m : List WR} {L : List Chunk} {D : List Fact} (hm : Chunk.row e 4 a n c (wrC m) ∈ L) (hn : m.length = n) (hk : k < n) (hc : n ≤ c) : Reads L D e 4 (resl a k c 4) (n - k) (wrC (m.drop k)) := by
  refine .sub a k n c (wrC m) hm ?_ (by omega) ?_
  · exact if_neg (by omega)
  · rw [wrC_drop, List.take_of_length_le]
    rw [wrC_len, List.length_drop]; omega
theorem wr_sub {m : List WR} {k i : Nat} (h : k + i < m.length) : ((wrC (m.drop k)).drop (i * 4 + 0)).take 4 = [.s m[k + i].w, .i .i64 m[k + i].sp, .s m[k + i].nm, .i .i64 m[k + i].n] := by
  rw [wr_get (l := m.drop k) (i := i) (by rw [List.length_drop]; omega)]
  simp
end Go.X
namespace Go.Proofs
open Go Go.X
set_option maxRecDepth 100000
set_option maxHeartbeats 8000000
theorem cptW_ok (a : Option Addr) (c : Nat) (l : List WR) (hl : l.length ≤ 10000000) :
    FnS Tryz.prog 94 [.c (.sl a l.length c)] [.row 60 4 a l.length c (wrC l)] []
      (fun v L D => v = .c (.sl a (cmpt l).length c) ∧ L = [.row 60 4 a (cmpt l).length c (wrC (cmpt l))] ∧ D = []) := by
  by_cases h2 : l.length < 2
  · have he : cmpt l = l := by
      match l, h2 with
      | [], _ => rfl
      | [x], _ => rfl
      | x :: y :: r, h => simp at h; omega
    rw [he]
    refine fn_of_J Tryz.tyOK 0 Tryz.func94 (by kernel_rfl) (c := Tryz.f94.body.getD .skip) (by kernel_rfl) Tryz.ntmps94 (rs := Tryz.f94.results.toList) rfl (by simp) (fun G => ?_)
    repeat' first | refine J_seq ?_ | refine J_region Tryz.tyOK ?_ | refine J_block ?_ | refine J_cond ?_ | refine J_ret ?_ | refine J_skip ?_ | refine J_exit ?_ | refine J_scope ?_ | refine CondP.y ?_ | refine CondP.n ?_ | refine CondP.mk (fun h => ?_) (fun h => ?_) | refine EqP.mk rfl ?_ | refine NewP.mk (fun ad => ?_) | refine ArP.x ?_ | refine SideP.a ?_ | refine FinE.mk [_] [] ⟨rfl, rfl, rfl⟩ (Ents.refl _ _) | fail
  · generalize hq : cmpt l = q
    refine fn_of_J Tryz.tyOK 0 Tryz.func94 (by kernel_rfl) (c := Tryz.f94.body.getD .skip) (by kernel_rfl) Tryz.ntmps94 (rs := Tryz.f94.results.toList) rfl (by simp) (fun G => ?_)
    refine J_cap (List.Mem.head _) (fun hnc _ _ => ?_)
    repeat' first | refine J_seq ?_ | refine J_region Tryz.tyOK ?_ | refine J_block ?_ | refine J_cond ?_ | refine J_ret ?_ | refine J_skip ?_ | refine J_exit ?_ | refine J_scope ?_ | refine CondP.y ?_ | refine CondP.n ?_ | refine CondP.mk (fun h => ?_) (fun h => ?_) | refine EqP.mk rfl ?_ | refine NewP.mk (fun ad => ?_) | refine ArP.x ?_ | refine SideP.a ?_ | fail
    refine J_loop (α := Nat) (fun k => [(0, .c (.sl a l.length c)), (3, .c (.i .i64 k))]) (fun _ => [.row 60 4 a l.length c (wrC l)]) (fun _ => []) 0
      (fun k => 1 ≤ k ∧ k ≤ l.length ∧ q = l.take k ++ cmptGo (nthW l (k - 1)) (l.drop k)) (fun k => l.length - k) (InFam.mk 1 ⟨Nat.le_refl _, by omega, ?_⟩ SubE.a (Ents.refl _ _)) (fun k hx => ?_)
    · rw [← hq]
      match l, h2 with
      | [], h => simp at h
      | x :: r, _ => rfl
    obtain ⟨hk1, hkn, he⟩ := hx
    by_cases hlt : k < l.length
    · have hg := wr_get hlt
      have hkk : ((k : Int) - 1).toNat = k - 1 := by omega
      have hg1 : ((wrC l).drop (((k : Int) - 1).toNat * 4 + 0)).take 4 = [.s l[k - 1].w, .i .i64 l[k - 1].sp, .s l[k - 1].nm, .i .i64 l[k - 1].n] := by rw [hkk]; exact wr_get (by omega)
      have hn1 : nthW l (k - 1) = l[k - 1] := nthW_eq (by omega)
      have hyes : l[k] = l[k - 1] → q = l.take k ++ cmptGo (nthW l k) (l.drop (k + 1)) := fun h => by
        rw [he, List.drop_eq_getElem_cons hlt, cmptGo, hn1, if_pos h, nthW_eq hlt, h]
      have hno : ¬ l[k] = l[k - 1] → q = l.take (k + 1) ++ cmptGo (nthW l k) (l.drop (k + 1)) := fun h => by
        rw [he, List.drop_eq_getElem_cons hlt, cmptGo, hn1, if_neg h, nthW_eq hlt, List.take_succ_eq_append_getElem hlt, List.append_assoc]
        rfl
      repeat' first | refine J_stop (c := .seq (.region 7 _ _) _) ?_ | refine J_seq ?_ | refine J_region Tryz.tyOK ?_ | refine J_block ?_ | refine J_cond ?_ | refine J_ret ?_ | refine J_skip ?_ | refine J_exit ?_ | refine J_scope ?_ | refine CondP.y ?_ | refine CondP.n ?_ | refine CondP.mk (fun h => ?_) (fun h => ?_) | refine EqP.mk rfl ?_ | refine NewP.mk (fun ad => ?_) | refine ArP.x ?_ | refine SideP.a ?_ | refine J_drawS (id := 6) Tryz.tyOK (by kernel_rfl) [0, 0, 3, 7, 0, 0, 32, 112, 240, 511] [0, 1, 2, 3, 4, 5, 6, 7, 8, 9] [] [18, 23] true (by kernel_rfl) ?_ | refine J_drawS (id := 11) Tryz.tyOK (by kernel_rfl) [0, 0, 3, 7, 0, 0, 32, 112, 240, 511] [0, 1, 2, 3, 4, 5, 6, 7, 8, 9] [] [37, 42] true (by kernel_rfl) ?_ | refine EntP.mk Ents.a ?_ | refine IdxE.mk 60 4 _ (.inl ⟨c, List.Mem.head _⟩) (by omega) (by omega) ?_ | refine LoadE.mk 60 _ _ _ (.inl ⟨c, List.Mem.head _⟩) (by omega) (by omega) (by first | omega | decide) hg ?_ | refine LoadE.mk 60 _ _ _ (.inl ⟨c, List.Mem.head _⟩) (by omega) (by omega) (by first | omega | decide) hg1 ?_ | refine Round.mk (k + 1) (by omega) ⟨by omega, by omega, ?_⟩ SubE.a (Ents.refl _ _) | fail
      · have hxy := wr_ext h
        have hq0 := hyes hxy
        clear hyes hno hg hg1 hn1 hkk he
        refine ⟨?_⟩
        refine J_ent (n' := 0) (env' := [(0, .c (.sl a l.length c)), (3, .c (.i .i64 k))]) SubE.a (Ents.refl _ _) ?_
        repeat' first | refine J_seq ?_ | refine J_region Tryz.tyOK ?_ | refine J_block ?_ | refine J_cond ?_ | refine J_ret ?_ | refine J_skip ?_ | refine J_exit ?_ | refine J_scope ?_ | refine CondP.y ?_ | refine CondP.n ?_ | refine CondP.mk (fun h => ?_) (fun h => ?_) | refine EqP.mk rfl ?_ | refine NewP.mk (fun ad => ?_) | refine ArP.x ?_ | refine SideP.a ?_ | fail
        refine J_loop (α := Nat × Nat × List WR) (fun x => [(0, .c (.sl a l.length c)), (3, .c (.i .i64 x.2.1)), (4, .c (.sl (resl a k c 4) (l.length - k) (c - k))), (5, .c (.i .i64 x.1))]) (fun x => [.row 60 4 a l.length c (wrC x.2.2)]) (fun _ => []) 0
          (fun x => 1 ≤ x.1 ∧ x.1 ≤ l.length - k ∧ k ≤ x.2.1 ∧ x.2.1 ≤ k + x.1 - 1 ∧ x.2.2.length = l.length ∧ x.2.2.drop (k + x.1 - 1) = l.drop (k + x.1 - 1) ∧ q = x.2.2.take x.2.1 ++ cmptGo (nthW l (k + x.1 - 1)) (l.drop (k + x.1))) (fun x => l.length - x.1) (InFam.mk (1, k, l) ⟨Nat.le_refl _, by dsimp only; omega, Nat.le_refl _, by dsimp only; omega, rfl, rfl, by dsimp only; exact hq0⟩ SubE.a (Ents.refl _ _)) (fun x hx => ?_)
        obtain ⟨j, i, m⟩ := x
        dsimp only at hx ⊢
        obtain ⟨hj1, hj2, hki, hij, hml, hdr, hq1⟩ := hx
        have hR : Reads [.row 60 4 a l.length c (wrC m)] [] 60 4 (resl a k c 4) (l.length - k) (wrC (m.drop k)) := rsub (List.Mem.head _) hml (by omega) hnc
        by_cases hjl : j < l.length - k
        · have e1 := drop_at hdr (i := k + j) (by omega) (by omega) (by omega)
          have e2 := drop_at hdr (i := k + (j - 1)) (by omega) (by omega) (by omega)
          have hg := wr_sub (m := m) (k := k) (i := j) (by omega)
          rw [e1] at hg
          have hg1 : ((wrC (m.drop k)).drop (((j : Int) - 1).toNat * 4 + 0)).take 4 = [.s l[k + (j - 1)].w, .i .i64 l[k + (j - 1)].sp, .s l[k + (j - 1)].nm, .i .i64 l[k + (j - 1)].n] := by
            rw [show ((j : Int) - 1).toNat = j - 1 by omega]
            have := wr_sub (m := m) (k := k) (i := j - 1) (by omega)
            rw [e2] at this
            exact this
          have hst : setC (i * 4 + 0) (WR.cells l[k + j]) (wrC m) = wrC (m.set i l[k + j]) := wrC_set (by omega) _
          have hn1 : nthW l (k + j - 1) = l[k + (j - 1)] := by rw [nthW_eq (by omega)]; simp only [show k + j - 1 = k + (j - 1) by omega]
          have hyes : l[k + j] = l[k + (j - 1)] → q = m.take i ++ cmptGo (nthW l (k + (j + 1) - 1)) (l.drop (k + (j + 1))) := fun h => by
            rw [hq1, List.drop_eq_getElem_cons (show k + j < l.length by omega), cmptGo, hn1, if_pos h, show k + (j + 1) - 1 = k + j by omega, nthW_eq (by omega), h]
            rfl
          have hno : ¬ l[k + j] = l[k + (j - 1)] → q = (m.set i l[k + j]).take (i + 1) ++ cmptGo (nthW l (k + (j + 1) - 1)) (l.drop (k + (j + 1))) := fun h => by
            rw [hq1, List.drop_eq_getElem_cons (show k + j < l.length by omega), cmptGo, hn1, if_neg h, show k + (j + 1) - 1 = k + j by omega, nthW_eq (by omega), List.take_succ_eq_append_getElem (by rw [List.length_set]; omega), List.append_assoc]
            simp [List.take_set_of_le]
            rfl
          have hdr1 : m.drop (k + (j + 1) - 1) = l.drop (k + (j + 1) - 1) := by
            rw [show k + (j + 1) - 1 = (k + j - 1) + 1 by omega, ← List.drop_drop, hdr, List.drop_drop]
          have hdr2 : (m.set i l[k + j]).drop (k + (j + 1) - 1) = l.drop (k + (j + 1) - 1) := by
            rw [List.drop_set_of_lt (by omega)]; exact hdr1
          repeat' first | refine J_seq ?_ | refine J_region Tryz.tyOK ?_ | refine J_block ?_ | refine J_cond ?_ | refine J_ret ?_ | refine J_skip ?_ | refine J_exit ?_ | refine J_scope ?_ | refine CondP.y ?_ | refine CondP.n ?_ | refine CondP.mk (fun h => ?_) (fun h => ?_) | refine EqP.mk rfl ?_ | refine NewP.mk (fun ad => ?_) | refine ArP.x ?_ | refine SideP.a ?_ | refine J_drawS (id := 6) Tryz.tyOK (by kernel_rfl) [0, 0, 3, 7, 0, 0, 32, 112, 240, 511] [0, 1, 2, 3, 4, 5, 6, 7, 8, 9] [] [18, 23] true (by kernel_rfl) ?_ | refine J_drawS (id := 11) Tryz.tyOK (by kernel_rfl) [0, 0, 3, 7, 0, 0, 32, 112, 240, 511] [0, 1, 2, 3, 4, 5, 6, 7, 8, 9] [] [37, 42] true (by kernel_rfl) ?_ | refine EntP.mk Ents.a ?_ | refine IdxE.mk 60 4 _ hR (by omega) (by omega) ?_ | refine IdxE.mk 60 4 _ (.inl ⟨c, List.Mem.head _⟩) (by omega) (by omega) ?_ | refine LoadE.mk 60 _ _ _ hR (by omega) (by omega) (by first | omega | decide) hg ?_ | refine LoadE.mk 60 _ _ _ hR (by omega) (by omega) (by first | omega | decide) hg1 ?_ | refine StoreE.mk [] _ _ _ _ _ _ rfl (by omega) (by omega) (Nat.le_of_ble_eq_true rfl) hst ?_ | refine Round.mk (j + 1, i, m) (by dsimp only; omega) ⟨by dsimp only; omega, by dsimp only; omega, hki, by dsimp only; omega, hml, hdr1, hyes (wr_ext (by assumption))⟩ SubE.a (Ents.refl _ _) | refine Round.mk (j + 1, i + 1, m.set i l[k + j]) (by dsimp only; omega) ⟨by dsimp only; omega, by dsimp only; omega, by dsimp only; omega, by dsimp only; omega, by rw [List.length_set]; exact hml, hdr2, hno (wr_ne (by assumption))⟩ SubE.a (Ents.refl _ _) | fail
        · have hjn : j = l.length - k := by omega
          subst hjn
          rw [show l.drop (k + (l.length - k)) = [] from List.drop_eq_nil_of_le (by omega)] at hq1
          have hq1 : q = m.take i ++ [] := hq1
          rw [List.append_nil] at hq1
          have hql : q.length = i := by rw [hq1, List.length_take]; omega
          have hwl := wrC_len m
          repeat' first | refine J_seq ?_ | refine J_region Tryz.tyOK ?_ | refine J_block ?_ | refine J_cond ?_ | refine J_ret ?_ | refine J_skip ?_ | refine J_exit ?_ | refine J_scope ?_ | refine CondP.y ?_ | refine CondP.n ?_ | refine CondP.mk (fun h => ?_) (fun h => ?_) | refine EqP.mk rfl ?_ | refine NewP.mk (fun ad => ?_) | refine ArP.x ?_ | refine SideP.a ?_ | refine ClearE.mk [] _ _ _ _ (i : Int).toNat _ _ rfl (if_neg (by omega)) (by omega) ?_ | refine FinE.mk [_] [] ⟨?_, rfl, rfl⟩ ((Ents.rowPre (k := i) (by omega)).trans (Ents.of ?_)) | fail
          · show V.c (C.sl (resl a 0 c 4) (i : Int).toNat c) = _
            rw [resl0, hql, Int.toNat_natCast]
          · show [Chunk.row _ 4 a i c ((setC ((i : Int).toNat * 4) (repC (l.length - (i : Int).toNat) [C.s [], C.i .i64 0, C.s [], C.i .i64 0]) (wrC m)).take (i * 4))] = _
            rw [Int.toNat_natCast, setC_take (by omega), wrC_take, ← hq1, hql]
      · exact hno (wr_ne h)
    · have hkl : k = l.length := by omega
      subst hkl
      rw [List.take_length, List.drop_length] at he
      have he : q = l ++ [] := he
      rw [List.append_nil] at he
      subst he
      repeat' first | refine J_seq ?_ | refine J_region Tryz.tyOK ?_ | refine J_block ?_ | refine J_cond ?_ | refine J_ret ?_ | refine J_skip ?_ | refine J_exit ?_ | refine J_scope ?_ | refine CondP.y ?_ | refine CondP.n ?_ | refine CondP.mk (fun h => ?_) (fun h => ?_) | refine EqP.mk rfl ?_ | refine NewP.mk (fun ad => ?_) | refine ArP.x ?_ | refine SideP.a ?_ | refine FinE.mk [_] [] ⟨rfl, rfl, rfl⟩ (Ents.refl _ _) | fail
end Go.Proofs

/- This text walks through the function Put of the package search. This text holds the plain law of ordered lists: rows added one by one to an ordered list are the rows sorted, without equal ones. -/
namespace Go.X
open Go Go.Lib Go.Proofs
theorem cmpWR_eq (x y : WR) (h : cmpWR x y = 0) : x = y := by
  unfold cmpWR at h
  split at h
  · rename_i h1; exact absurd h h1
  · rename_i h1
    split at h
    · rename_i h2; exact absurd h h2
    · rename_i h2
      have e1 := (cmpB_eq _ _).1 (Classical.not_not.1 h1)
      have e2 := (compareT_eq _ _ _ _).1 (Classical.not_not.1 h2)
      have e3 : x.n = y.n := by 
        unfold Lib.compareInt at h
        split at h
        · omega
        · split at h
          · omega
          · omega
      obtain ⟨a, b, c, d⟩ := x
      obtain ⟨a', b', c', d'⟩ := y
      dsimp only at e1 e2 e3
      obtain ⟨e4, e5⟩ := e2
      subst e1 e4 e5 e3
      rfl
def leW (x y : WR) : Bool := decide (cmpWR x y ≤ 0)
/-- The rows in order, without duplicates. -/
def ordW (l : List WR) : List WR := cmpt (l.mergeSort leW)
theorem leW_total (x y : WR) : (leW x y || leW y x) = true := by
  have := cmp_WR.swap x y
  simp only [leW, Bool.or_eq_true, decide_eq_true_eq]
  omega
theorem leW_trans (x y z : WR) (h1 : leW x y = true) (h2 : leW y z = true) : leW x z = true := by
  simp only [leW, decide_eq_true_eq] at *
  exact cmp_WR.trans x y z h1 h2
theorem sorted_is {l l' : List WR} (hp : l'.Perm l) (hs : l'.Pairwise fun x y => ltOf cmpWR y x = false) : l' = l.mergeSort leW := by
  refine ordL_eq cmp_WR cmpWR_eq (ordL_of cmp_WR hs) ?_ (hp.trans (List.mergeSort_perm l leW).symm)
  refine (List.pairwise_mergeSort leW_trans leW_total l).imp fun {x y} h => ?_
  simpa [leW] using h
theorem cmptGo_len : ∀ (r : List WR) (p : WR), (cmptGo p r).length ≤ r.length
  | [], _ => Nat.le_refl _
  | y :: r, p => by
    simp only [cmptGo]
    split
    · have := cmptGo_len r p; simp; omega
    · have := cmptGo_len r y; simp; omega
theorem cmpt_len (l : List WR) : (cmpt l).length ≤ l.length := by
  cases l with
  | nil => exact Nat.le_refl _
  | cons x r => have := cmptGo_len r x; simp [cmpt]; omega
theorem ordW_len (l : List WR) : (ordW l).length ≤ l.length := by
  have := cmpt_len (l.mergeSort leW)
  rwa [List.length_mergeSort] at this
end Go.X
namespace Go.Proofs
open Go Go.X
set_option maxRecDepth 100000
set_option maxHeartbeats 4000000
theorem ordered_ok (a : Option Addr) (c : Nat) (l : List WR) (hl : l.length ≤ 10000000) :
    FnS Tryz.prog 60 [.c (.sl a l.length c)] [.row 60 4 a l.length c (wrC l)] []
      (fun v L D => v = .c (.sl a (ordW l).length c) ∧ L = [.row 60 4 a (ordW l).length c (wrC (ordW l))] ∧ D = []) := by
  have cs := sortRows_ok a c l (by omega)
  have cc := cptW_ok a c (l.mergeSort leW) (by rw [List.length_mergeSort]; exact hl)
  rw [List.length_mergeSort] at cc
  refine fn_of_J Tryz.tyOK 0 Tryz.func60 (by kernel_rfl) (c := Tryz.f60.body.getD .skip) (by kernel_rfl) Tryz.ntmps60 (rs := Tryz.f60.results.toList) rfl (by simp) (fun G => ?_)
  repeat' first | refine J_seq ?_ | refine J_region Tryz.tyOK ?_ | refine J_block ?_ | refine J_cond ?_ | refine J_ret ?_ | refine J_skip ?_ | refine J_exit ?_ | refine J_scope ?_ | refine CondP.y ?_ | refine CondP.n ?_ | refine CondP.mk (fun h => ?_) (fun h => ?_) | refine EqP.mk rfl ?_ | refine NewP.mk (fun ad => ?_) | refine ArP.x ?_ | refine SideP.a ?_ | refine CallP.mk [_] [] [] _ cs (List.Perm.refl _) (fun _ _ => trivial) (fun v L' D' hq => ?_); obtain ⟨l', hp, hs, rfl, rfl, rfl⟩ := hq; rw [sorted_is hp hs] | refine CallP.mk [_] [] [] _ cc (List.Perm.refl _) (fun _ _ => trivial) (fun v L' D' hq => ?_); obtain ⟨rfl, rfl, rfl⟩ := hq | refine FinE.mk [_] [] ⟨rfl, rfl, rfl⟩ (Ents.refl _ _) | fail
theorem put_ok (e e' : Nat) (a b : Option Addr) (c d : Nat) (l r : List WR) (sp : Int) (nm : List UInt8) (hl : l.length ≤ 5000000) (hr : r.length ≤ 5000000) :
    FnS Tryz.prog 34 [.c (.sl a l.length c), .agg [.i .i64 sp, .s nm], .c (.sl b r.length d)] [] [slFact e 4 a l.length (wrC l), slFact e' 4 b r.length (wrC r)]
      (fun v L D => ∃ a' c', v = .c (.sl a' (ordW ((l.filter fun x => !decide (x.sp = sp ∧ x.nm = nm)) ++ r)).length c') ∧ L = [.row 60 4 a' (ordW ((l.filter fun x => !decide (x.sp = sp ∧ x.nm = nm)) ++ r)).length c' (wrC (ordW ((l.filter fun x => !decide (x.sp = sp ∧ x.nm = nm)) ++ r)))] ∧ D = []) := by
  have c1 := cloneW_ok e a c l (by omega)
  have c2 := fun a c ad => delFn_ok a c l 68 0 ad 0 [.box 0 ad 50 [.i .i64 sp, .s nm]] (fun x => decide (x.sp = sp ∧ x.nm = nm)) (by omega) (fun g _ => putFn_ok g ad sp nm)
  have hfl : (l.filter fun x => !decide (x.sp = sp ∧ x.nm = nm)).length ≤ l.length := List.length_filter_le _ _
  generalize l.filter (fun x => !decide (x.sp = sp ∧ x.nm = nm)) = f at *
  have c3 := fun a c => ordered_ok a c (f ++ r) (by rw [List.length_append]; omega)
  refine fn_of_J Tryz.tyOK 0 Tryz.func34 (by kernel_rfl) (c := Tryz.f34.body.getD .skip) (by kernel_rfl) Tryz.ntmps34 (rs := Tryz.f34.results.toList) rfl (by simp) (fun G => ?_)
  repeat' first | refine J_seq ?_ | refine J_region Tryz.tyOK ?_ | refine J_block ?_ | refine J_cond ?_ | refine J_ret ?_ | refine J_skip ?_ | refine J_exit ?_ | refine J_scope ?_ | refine CondP.y ?_ | refine CondP.n ?_ | refine CondP.mk (fun h => ?_) (fun h => ?_) | refine EqP.mk rfl ?_ | refine NewP.mk (fun ad => ?_) | refine ArP.x ?_ | refine SideP.a ?_ | refine CallP.mk [] [_] [_] _ c1 (List.Perm.refl _) (fun _ h => ⟨h.1, trivial⟩) (fun v L' D' hq => ?_); obtain ⟨a1, k1, rfl, rfl, rfl⟩ := hq | refine CallP.mk [_, _] [] [] _ (c2 _ _ _) (List.Perm.refl _) (fun _ _ => trivial) (fun v L' D' hq => ?_); obtain ⟨rfl, rfl, rfl⟩ := hq | refine AppE.row [] _ (wrC f) (wrC r) r.length rfl (SrcE.sl e' 60 _ b _ d _ rfl rfl (.inr fun m h => h.2.1) (wrC_len r)) (by dsimp only; omega) (fun a' c' => ?_); rw [← List.length_append, show wrC f ++ wrC r = wrC (f ++ r) by simp [wrC]] | refine CallP.mk [_] [_] [] _ (c3 _ _) (List.Perm.refl _) (fun _ _ => trivial) (fun v L' D' hq => ?_); obtain ⟨rfl, rfl, rfl⟩ := hq | refine FinE.mk [_] [] ⟨_, _, rfl, rfl, rfl⟩ ((Ents.sub ⟨[_], List.Perm.swap _ _ _⟩).trans (Ents.facts fun _ _ => trivial)) | fail
end Go.Proofs
namespace Go.X
open Go Go.Lib Go.Proofs
/-- A list in strict order. -/
def StrL {α : Type} (cf : α → α → Int) (l : List α) : Prop := l.Pairwise fun x y => cf x y < 0
theorem strL_eq {α : Type} {cf : α → α → Int} (h : Cmp cf) : ∀ {l l' : List α}, StrL cf l → StrL cf l' → (∀ x, x ∈ l ↔ x ∈ l') → l = l'
  | [], [], _, _, _ => rfl
  | [], y :: s, _, _, hm => by have := (hm y).2 (List.mem_cons_self ..); cases this
  | x :: r, [], _, _, hm => by have := (hm x).1 (List.mem_cons_self ..); cases this
  | x :: r, y :: s, h1, h2, hm => by
    have h1' := List.pairwise_cons.1 h1
    have h2' := List.pairwise_cons.1 h2
    have hxy : x = y := by
      rcases List.mem_cons.1 ((hm x).1 (List.mem_cons_self ..)) with a | a
      · exact a
      rcases List.mem_cons.1 ((hm y).2 (List.mem_cons_self ..)) with b | b
      · exact b.symm
      have c1 := h2'.1 x a
      have c2 := h1'.1 y b
      have := h.swap x y
      omega
    subst hxy
    rw [strL_eq h h1'.2 h2'.2 (fun z => ⟨fun hz => ?_, fun hz => ?_⟩)]
    · rcases List.mem_cons.1 ((hm z).1 (List.mem_cons_of_mem _ hz)) with e | e
      · subst e; have := h1'.1 z hz; have := h.refl z; omega
      · exact e
    · rcases List.mem_cons.1 ((hm z).2 (List.mem_cons_of_mem _ hz)) with e | e
      · subst e; have := h2'.1 z hz; have := h.refl z; omega
      · exact e
theorem Cmp.lt_trans {α : Type} {cf : α → α → Int} (h : Cmp cf) {x y z : α} (h1 : cf x y < 0) (h2 : cf y z ≤ 0) : cf x z < 0 := by
  have a1 := h.swap x z; have a2 := h.swap y z; have a3 := h.swap x y
  have t1 := h.trans x y z (by omega) (by omega)
  have t2 := h.trans y z x
  omega
/-- A row put into a list in order. -/
def addW : List WR → WR → List WR
  | [], r => [r]
  | x :: t, r => if cmpWR x r < 0 then x :: addW t r else if x = r then x :: t else r :: x :: t
theorem addW_len (l : List WR) (r : WR) : (addW l r).length ≤ l.length + 1 := by
  induction l with
  | nil => exact Nat.le_refl _
  | cons x t ih =>
    simp only [addW]
    split
    · simp; omega
    · split <;> simp
theorem addW_mem (l : List WR) (r z : WR) : z ∈ addW l r ↔ z ∈ l ∨ z = r := by
  induction l with
  | nil => simp [addW]
  | cons x t ih =>
    simp only [addW]
    split
    · simp [ih, or_assoc]
    · split
      · rename_i h; subst h; simp
        intro h; exact .inl h
      · simp [or_comm, or_assoc, or_left_comm]
theorem addW_str (l : List WR) (r : WR) (hl : StrL cmpWR l) : StrL cmpWR (addW l r) := by
  induction l with
  | nil => exact List.pairwise_cons.2 ⟨fun _ h => (by cases h), List.Pairwise.nil⟩
  | cons x t ih =>
    have hl' := List.pairwise_cons.1 hl
    simp only [addW]
    split
    · rename_i h
      refine List.pairwise_cons.2 ⟨fun z hz => ?_, ih hl'.2⟩
      rcases (addW_mem t r z).1 hz with hz | hz
      · exact hl'.1 z hz
      · rw [hz]; exact h
    · rename_i h
      split
      · exact hl
      · rename_i hne
        have hs := cmp_WR.swap x r
        have hrx : cmpWR r x < 0 := by
          have : cmpWR r x ≠ 0 := fun e => hne (cmpWR_eq r x e).symm
          omega
        refine List.pairwise_cons.2 ⟨fun z hz => ?_, hl⟩
        rcases List.mem_cons.1 hz with hz | hz
        · rw [hz]; exact hrx
        · exact cmp_WR.lt_trans hrx (by have := hl'.1 z hz; omega)
theorem foldAdd (l : List WR) : ∀ m : List WR, StrL cmpWR m → StrL cmpWR (l.foldl addW m) ∧ ∀ z, z ∈ l.foldl addW m ↔ z ∈ m ∨ z ∈ l := by
  induction l with
  | nil => intro m hm; exact ⟨hm, fun z => by simp⟩
  | cons x t ih =>
    intro m hm
    obtain ⟨h1, h2⟩ := ih (addW m x) (addW_str m x hm)
    refine ⟨h1, fun z => ?_⟩
    rw [List.foldl_cons, h2, addW_mem, List.mem_cons, or_assoc]
theorem cmptGo_str : ∀ (r : List WR) (p : WR), (p :: r).Pairwise (fun x y => cmpWR x y ≤ 0) → StrL cmpWR (p :: cmptGo p r) ∧ ∀ z, z ∈ p :: cmptGo p r ↔ z ∈ p :: r
  | [], p, _ => ⟨List.pairwise_cons.2 ⟨fun _ h => (by cases h), List.Pairwise.nil⟩, fun z => Iff.rfl⟩
  | y :: r, p, h => by
    have h' := List.pairwise_cons.1 h
    simp only [cmptGo]
    split
    · rename_i e
      subst e
      obtain ⟨a, b⟩ := cmptGo_str r y h'.2
      refine ⟨a, fun z => ?_⟩
      rw [b]; simp
    · rename_i e
      obtain ⟨a, b⟩ := cmptGo_str r y h'.2
      have hpy : cmpWR p y < 0 := by
        have := h'.1 y (List.mem_cons_self ..)
        have : cmpWR p y ≠ 0 := fun e' => e (cmpWR_eq p y e').symm
        omega
      refine ⟨List.pairwise_cons.2 ⟨fun z hz => ?_, a⟩, fun z => ?_⟩
      · rcases List.mem_cons.1 hz with hz | hz
        · rw [hz]; exact hpy
        · exact cmp_WR.lt_trans hpy (by have := (List.pairwise_cons.1 a).1 z hz; omega)
      · rw [List.mem_cons, b]; exact List.mem_cons.symm
theorem ordW_str (l : List WR) : StrL cmpWR (ordW l) ∧ ∀ z, z ∈ ordW l ↔ z ∈ l := by
  have hs : (l.mergeSort leW).Pairwise fun x y => cmpWR x y ≤ 0 := (List.pairwise_mergeSort leW_trans leW_total l).imp fun {x y} h => by simpa [leW] using h
  have hm : ∀ z, z ∈ l.mergeSort leW ↔ z ∈ l := fun z => (List.mergeSort_perm l leW).mem_iff
  unfold ordW
  generalize l.mergeSort leW = s at *
  cases s with
  | nil => exact ⟨List.Pairwise.nil, fun z => by rw [← hm]; exact Iff.rfl⟩
  | cons x r =>
    obtain ⟨a, b⟩ := cmptGo_str r x hs
    exact ⟨a, fun z => by rw [← hm]; exact b z⟩
theorem foldAdd_is (l : List WR) : l.foldl addW [] = ordW l := by
  obtain ⟨a, b⟩ := foldAdd l [] List.Pairwise.nil
  obtain ⟨c, d⟩ := ordW_str l
  exact strL_eq cmp_WR a c fun z => by rw [b, d]; simp
theorem ordW_of_str {l : List WR} (h : StrL cmpWR l) : ordW l = l := by
  obtain ⟨a, b⟩ := ordW_str l
  exact strL_eq cmp_WR a h b
end Go.X

/- This text walks through the functions that find the words of a text, in the package search and in the reference of chapter 35. -/
namespace Go.X
open Go Go.Lib
def letB (b : UInt8) : Bool := (decide (97 ≤ (b.toNat : Int)) && decide ((b.toNat : Int) ≤ 122)) || (decide (65 ≤ (b.toNat : Int)) && decide ((b.toNat : Int) ≤ 90)) || (decide (48 ≤ (b.toNat : Int)) && decide ((b.toNat : Int) ≤ 57))
def flushW (w : List UInt8) : List (List UInt8) := if 2 ≤ w.length ∧ w.length ≤ 40 then [w] else []
def wordsR : List UInt8 → List UInt8 → List (List UInt8)
  | cur, [] => flushW cur
  | cur, b :: r => if letB b = true then wordsR (cur ++ [lowB b]) r else flushW cur ++ wordsR [] r
/-- The words of a text. -/
def wordsS (s : List UInt8) : List (List UInt8) := wordsR [] s
theorem flushW_nil : flushW [] = [] := rfl
theorem flushW_len (w : List UInt8) : (flushW w).length ≤ 1 := by unfold flushW; split <;> simp
theorem wordsR_len : ∀ (r cur : List UInt8), (wordsR cur r).length ≤ r.length + 1
  | [], cur => by simp only [wordsR]; have := flushW_len cur; simp; omega
  | b :: r, cur => by
    simp only [wordsR]
    split
    · have := wordsR_len r (cur ++ [lowB b]); simp; omega
    · have := wordsR_len r []; have := flushW_len cur; simp; omega
theorem wordsR_at {s cur : List UInt8} {i : Nat} (h : i < s.length) : wordsR cur (s.drop i) = if letB s[i] = true then wordsR (cur ++ [lowB s[i]]) (s.drop (i + 1)) else flushW cur ++ wordsR [] (s.drop (i + 1)) := by
  rw [List.drop_eq_getElem_cons h, wordsR]
theorem wordsR_end {s cur : List UInt8} {i : Nat} (h : i = s.length) : wordsR cur (s.drop i) = flushW cur ++ wordsR [] (s.drop (i + 1)) := by
  rw [List.drop_eq_nil_of_le (by omega), List.drop_eq_nil_of_le (by omega)]
  simp [wordsR, flushW_nil]
def mixedL (l : List UInt8) (i : Nat) : List UInt8 := (l.take i).map lowB ++ l.drop i
theorem mixedL_get {l : List UInt8} {i : Nat} (h : i < l.length) : ((mixedL l i).map byteC).drop i = byteC l[i] :: (l.drop (i + 1)).map byteC := by
  rw [← List.map_drop, mixedL, List.drop_left' (by simp; omega), List.drop_eq_getElem_cons h, List.map_cons]
theorem mixedL_len {l : List UInt8} {i : Nat} (h : i ≤ l.length) : (mixedL l i).length = l.length := by simp [mixedL]; omega
theorem mixedL_succ {l : List UInt8} {i : Nat} (h : i < l.length) : (mixedL l i).set i (lowB l[i]) = mixedL l (i + 1) := by
  unfold mixedL
  have hlen : ((l.take i).map lowB).length = i := by simp; omega
  rw [List.set_append_right _ _ (by omega), List.take_succ_eq_append_getElem h, hlen, Nat.sub_self, List.drop_eq_getElem_cons h, List.set_cons_zero, List.map_append]
  simp
theorem mixedL_same {l : List UInt8} {i : Nat} (h : i < l.length) (h' : lowB l[i] = l[i]) : mixedL l i = mixedL l (i + 1) := by
  rw [← mixedL_succ h, h']
  have : (mixedL l i)[i]? = some l[i] := by
    unfold mixedL
    rw [List.getElem?_append_right (by simp; omega)]
    simp [Nat.min_eq_left (Nat.le_of_lt h), h]
  obtain ⟨hlt, he⟩ := List.getElem?_eq_some_iff.1 this
  rw [← he, List.set_getElem_self]
end Go.X
namespace Go.Proofs
open Go Go.X
set_option maxRecDepth 100000
set_option maxHeartbeats 4000000
theorem letter_ok (b : UInt8) : FnS Tryz.prog 69 [.c (byteC b)] [] [] (Is (.c (.b (letB b)))) := by
  have hb := b.toNat_lt
  refine fn_of_J Tryz.tyOK 0 Tryz.func69 (by kernel_rfl) (c := Tryz.f69.body.getD .skip) (by kernel_rfl) Tryz.ntmps69 (rs := Tryz.f69.results.toList) rfl (by simp) (fun G => ?_)
  repeat' first | refine J_seq ?_ | refine J_region Tryz.tyOK ?_ | refine J_block ?_ | refine J_cond ?_ | refine J_ret ?_ | refine J_skip ?_ | refine J_exit ?_ | refine J_scope ?_ | refine CondP.y ?_ | refine CondP.n ?_ | refine CondP.mk (fun h => ?_) (fun h => ?_) | refine EqP.mk rfl ?_ | refine NewP.mk (fun ad => ?_) | refine ArP.x ?_ | refine SideP.a ?_ | refine FinE.bool ?_ | fail
  all_goals (unfold letB; (try simp only [Int.toNat_natCast, Int.toNat_zero] at *); simp only [*, decide_true, decide_false, Bool.true_and, Bool.false_and, Bool.and_true, Bool.and_false, Bool.not_true, Bool.not_false, Bool.true_or, Bool.false_or, Bool.or_true, Bool.or_false, not_true, not_false_eq_true, ne_eq, if_true, if_false, Bool.false_eq_true]; first | done | rfl | (simp only [Bool.or_eq_false_iff, Bool.and_eq_false_iff, decide_eq_false_iff_not]; omega))
theorem setC_one' {l : List C} {i : Nat} {x : C} (h : i < l.length) : setC i [x] l = l.set i x := by
  rw [List.set_eq_take_append_cons_drop, if_pos h]; simp [setC]
theorem lowerS_ok (l : List UInt8) (hl : l.length ≤ 1000000) : FnS Tryz.prog 70 [.c (.s l)] [] [] (Is (.c (.s (l.map lowB)))) := by
  refine fn_of_J Tryz.tyOK 0 Tryz.func70 (by kernel_rfl) (c := Tryz.f70.body.getD .skip) (by kernel_rfl) Tryz.ntmps70 (rs := Tryz.f70.results.toList) rfl (by simp) (fun G => ?_)
  repeat' first | refine J_seq ?_ | refine J_region Tryz.tyOK ?_ | refine J_block ?_ | refine J_cond ?_ | refine J_ret ?_ | refine J_skip ?_ | refine J_exit ?_ | refine J_scope ?_ | refine CondP.y ?_ | refine CondP.n ?_ | refine CondP.mk (fun h => ?_) (fun h => ?_) | refine EqP.mk rfl ?_ | refine NewP.mk (fun ad => ?_) | refine ArP.x ?_ | refine SideP.a ?_ | refine NewB.mk (fun ad c => ?_) | fail
  refine J_loop (α := Nat) (fun i => [(10, .c (.i .i64 i)), (9, lenV l.length), (8, .c (.sl (some ⟨ad, 0, none⟩) l.length c)), (3, .c (.sl (some ⟨ad, 0, none⟩) l.length c))])
    (fun i => [.row 5 1 (some ⟨ad, 0, none⟩) l.length c ((mixedL l i).map byteC)]) (fun _ => []) 0 (fun i => i ≤ l.length) (fun i => l.length - i) (InFam.mk 0 (by omega) ?_ (Ents.of (by simp [mixedL]))) (fun i hi => ?_)
  · repeat' first | exact SubE.nil | refine SubE.cons rfl ?_ ?_ | exact VEq.refl _ | refine VEq.int (by omega) | refine VEq.sl rfl (by first | rfl | omega | (rw [List.length_append]; rfl) | (simp; omega)) rfl | fail
  have hrd : Reads [.row 5 1 (some ⟨ad, 0, none⟩) l.length c ((mixedL l i).map byteC)] [] 5 1 (some ⟨ad, 0, none⟩) l.length ((mixedL l i).map byteC) := .inl ⟨c, by simp⟩
  by_cases hlt : i < l.length
  · have hb := (l[i]).toNat_lt
    have hg := mixedL_get hlt
    repeat' first | refine J_seq ?_ | refine J_region Tryz.tyOK ?_ | refine J_block ?_ | refine J_cond ?_ | refine J_ret ?_ | refine J_skip ?_ | refine J_exit ?_ | refine J_scope ?_ | refine CondP.y ?_ | refine CondP.n ?_ | refine CondP.mk (fun h => ?_) (fun h => ?_) | refine EqP.mk rfl ?_ | refine NewP.mk (fun ad => ?_) | refine ArP.x ?_ | refine SideP.a ?_ | refine IdxE.mk 5 1 _ hrd (by omega) (by omega) ?_ | refine LoadE.mk 5 _ _ [byteC l[i]] hrd (by omega) (by omega) (by omega) (by simp [hg]) ?_ | (exfalso; omega) | fail
    · refine StoreE.mk [] [] 5 _ c _ ((mixedL l (i + 1)).map byteC) rfl (by omega) (by omega) (by simp) ?_ ?_
      · rw [← mixedL_succ hlt, List.map_set, ← setC_one' (by simp [mixedL_len hi, hlt]), byteC, lowB_yes (by assumption) (by assumption)]
        simp
        rw [show (l[i].toNat : Int) + 97 - 65 = l[i].toNat + 32 by omega]
      · repeat' first | refine J_seq ?_ | refine J_region Tryz.tyOK ?_ | refine J_block ?_ | refine J_cond ?_ | refine J_ret ?_ | refine J_skip ?_ | refine J_exit ?_ | refine J_scope ?_ | refine CondP.y ?_ | refine CondP.n ?_ | refine CondP.mk (fun h => ?_) (fun h => ?_) | refine EqP.mk rfl ?_ | refine NewP.mk (fun ad => ?_) | refine ArP.x ?_ | refine SideP.a ?_ | fail
        refine Round.mk (i + 1) (by omega) (by omega) ?_ (Ents.refl _ _)
        repeat' first | exact SubE.nil | refine SubE.cons rfl ?_ ?_ | exact VEq.refl _ | refine VEq.int (by omega) | refine VEq.sl rfl (by first | rfl | omega | (rw [List.length_append]; rfl) | (simp; omega)) rfl | fail
    all_goals
      refine Round.mk (i + 1) (by omega) (by omega) ?_ (Ents.of (by rw [mixedL_same hlt (lowB_no (by omega))]))
      repeat' first | exact SubE.nil | refine SubE.cons rfl ?_ ?_ | exact VEq.refl _ | refine VEq.int (by omega) | refine VEq.sl rfl (by first | rfl | omega | (rw [List.length_append]; rfl) | (simp; omega)) rfl | fail
  · have hil : i = l.length := by omega
    subst hil
    repeat' first | refine J_seq ?_ | refine J_region Tryz.tyOK ?_ | refine J_block ?_ | refine J_cond ?_ | refine J_ret ?_ | refine J_skip ?_ | refine J_exit ?_ | refine J_scope ?_ | refine CondP.y ?_ | refine CondP.n ?_ | refine CondP.mk (fun h => ?_) (fun h => ?_) | refine EqP.mk rfl ?_ | refine NewP.mk (fun ad => ?_) | refine ArP.x ?_ | refine SideP.a ?_ | (exfalso; omega) | fail
    refine BytesE.mk 5 (l.map lowB) ?_ ?_
    · have : mixedL l l.length = l.map lowB := by simp [mixedL]
      rw [← this]; exact hrd
    · repeat' first | refine J_seq ?_ | refine J_region Tryz.tyOK ?_ | refine J_block ?_ | refine J_cond ?_ | refine J_ret ?_ | refine J_skip ?_ | refine J_exit ?_ | refine J_scope ?_ | refine CondP.y ?_ | refine CondP.n ?_ | refine CondP.mk (fun h => ?_) (fun h => ?_) | refine EqP.mk rfl ?_ | refine NewP.mk (fun ad => ?_) | refine ArP.x ?_ | refine SideP.a ?_ | exact FinE.is rfl | fail
/-- A list of strings that comes back. -/
def StrP (l : List (List UInt8)) : V → List Chunk → List Fact → Prop := fun v L D => ∃ a c, v = .c (.sl a l.length c) ∧ L = [.row 9 1 a l.length c (l.map C.s)] ∧ D = []
theorem words_ok (s : List UInt8) (hs : s.length ≤ 1000000) : FnS Tryz.prog 36 [.c (.s s)] [] [] (StrP (wordsS s)) := by
  unfold StrP wordsS
  generalize hW : wordsR [] s = W
  have hWl : W.length ≤ 1000001 := by have := wordsR_len s []; rw [hW] at this; omega
  refine fn_of_J Tryz.tyOK 0 Tryz.func36 (by kernel_rfl) (c := Tryz.f36.body.getD .skip) (by kernel_rfl) Tryz.ntmps36 (rs := Tryz.f36.results.toList) rfl (by simp) (fun G => ?_)
  repeat' first | refine J_seq ?_ | refine J_region Tryz.tyOK ?_ | refine J_block ?_ | refine J_cond ?_ | refine J_ret ?_ | refine J_skip ?_ | refine J_exit ?_ | refine J_scope ?_ | refine CondP.y ?_ | refine CondP.n ?_ | refine CondP.mk (fun h => ?_) (fun h => ?_) | refine EqP.mk rfl ?_ | refine NewP.mk (fun ad => ?_) | refine ArP.x ?_ | refine SideP.a ?_ | fail
  refine J_loop (α := Nat × List (List UInt8) × Option Addr × Nat) (fun x => [(0, .c (.s s)), (3, .c (.sl x.2.2.1 x.2.1.length x.2.2.2)), (4, .c (.i .i64 x.1))]) (fun x => [.row 9 1 x.2.2.1 x.2.1.length x.2.2.2 (x.2.1.map C.s)]) (fun _ => []) 0
    (fun x => x.1 ≤ s.length + 1 ∧ W = x.2.1 ++ wordsR [] (s.drop x.1)) (fun x => s.length + 1 - x.1) (InFam.mk (0, [], none, 0) ⟨Nat.zero_le _, by rw [← hW]; rfl⟩ SubE.a Ents.nilRow) (fun x hx => ?_)
  obtain ⟨at_, out, a, c⟩ := x
  dsimp only at hx ⊢
  obtain ⟨hat, he⟩ := hx
  have hol : out.length ≤ 1000001 := by rw [he] at hWl; simp at hWl; omega
  by_cases hlt : at_ < s.length
  · repeat' first | refine J_seq ?_ | refine J_region Tryz.tyOK ?_ | refine J_block ?_ | refine J_cond ?_ | refine J_ret ?_ | refine J_skip ?_ | refine J_exit ?_ | refine J_scope ?_ | refine CondP.y ?_ | refine CondP.n ?_ | refine CondP.mk (fun h => ?_) (fun h => ?_) | refine EqP.mk rfl ?_ | refine NewP.mk (fun ad => ?_) | refine ArP.x ?_ | refine SideP.a ?_ | fail
    refine J_loop (α := Nat) (fun e => [(0, .c (.s s)), (3, .c (.sl a out.length c)), (4, .c (.i .i64 at_)), (5, .c (.i .i64 e))]) (fun _ => [.row 9 1 a out.length c (out.map C.s)]) (fun _ => []) 0
      (fun e => at_ ≤ e ∧ e ≤ s.length ∧ W = out ++ wordsR (((s.drop at_).take (e - at_)).map lowB) (s.drop e)) (fun e => s.length - e) (InFam.mk at_ ⟨Nat.le_refl _, by omega, by rw [Nat.sub_self]; exact he⟩ SubE.a (Ents.refl _ _)) (fun e hx => ?_)
    obtain ⟨hae, hes, he2⟩ := hx
    have hlw : FnS Tryz.prog 70 [.c (.s ((s.take (e : Int).toNat).drop (at_ : Int).toNat))] [] [] (Is (.c (.s (((s.drop at_).take (e - at_)).map lowB)))) := by
      have := lowerS_ok ((s.take (e : Int).toNat).drop (at_ : Int).toNat) (by simp; omega)
      rwa [show ((s.take (e : Int).toNat).drop (at_ : Int).toNat).map lowB = ((s.drop at_).take (e - at_)).map lowB from by simp only [Int.toNat_natCast]; rw [List.drop_take]] at this
    have hlen : (((s.drop at_).take (e - at_)).map lowB).length = e - at_ := by simp; omega
    have hend : ¬ (e < s.length ∧ letB (s.getD (e : Int).toNat 0) = true) → wordsR (((s.drop at_).take (e - at_)).map lowB) (s.drop e) = flushW (((s.drop at_).take (e - at_)).map lowB) ++ wordsR [] (s.drop (e + 1)) := fun hn => by
      by_cases h1 : e < s.length
      · rw [wordsR_at h1, if_neg (fun h2 => hn ⟨h1, by simpa [h1] using h2⟩)]
      · exact wordsR_end (by omega)
    have hin : e < s.length → letB (s.getD (e : Int).toNat 0) = true → wordsR (((s.drop at_).take (e - at_)).map lowB) (s.drop e) = wordsR (((s.drop at_).take (e + 1 - at_)).map lowB) (s.drop (e + 1)) := fun h1 h2 => by
      rw [wordsR_at h1, if_pos (by simpa [h1] using h2)]
      congr 1
      rw [show e + 1 - at_ = (e - at_) + 1 by omega, List.take_succ_eq_append_getElem (by simp; omega), List.map_append]
      simp [show at_ + (e - at_) = e by omega]
    generalize hcur : ((s.drop at_).take (e - at_)).map lowB = cur at *
    have hf1 : (2 ≤ (e : Int) - at_ ∧ (e : Int) - at_ ≤ 40) → flushW cur = [cur] := fun h => if_pos (by omega)
    have hf2 : ¬ (2 ≤ (e : Int) - at_ ∧ (e : Int) - at_ ≤ 40) → flushW cur = [] := fun h => if_neg (by omega)
    repeat' first | refine J_seq ?_ | refine J_region Tryz.tyOK ?_ | refine J_block ?_ | refine J_cond ?_ | refine J_ret ?_ | refine J_skip ?_ | refine J_exit ?_ | refine J_scope ?_ | refine CondP.y ?_ | refine CondP.n ?_ | refine CondP.mk (fun h => ?_) (fun h => ?_) | refine EqP.mk rfl ?_ | refine NewP.mk (fun ad => ?_) | refine ArP.x ?_ | refine SideP.a ?_ | refine CallP.isB (letter_ok (s.getD (e : Int).toNat 0)) (fun hb => ?_) (fun hb => ?_) | refine Round.mk (e + 1) (by omega) ⟨by omega, by omega, by rw [he2, hin (by omega) hb]⟩ SubE.a (Ents.refl _ _) | refine CallP.is hlw ?_ | refine AppE.row [_] [] (out.map C.s) [C.s cur] 1 rfl (SrcE.sl 9 9 _ _ 1 1 _ rfl rfl (.inl ⟨1, List.Mem.head _⟩) rfl) (by dsimp only; omega) (fun a' c' => ?_) | refine Round.mk (e + 1, out ++ [cur], a', c') (by dsimp only; omega) ⟨by dsimp only; omega, ?_⟩ SubE.a (Ents.drop.trans (Ents.of ?_)) | refine Round.mk (e + 1, out, a, c) (by dsimp only; omega) ⟨by dsimp only; omega, ?_⟩ SubE.a (Ents.refl _ _) | fail
    all_goals first
      | (dsimp only; rw [he2, hend (fun h9 => by first | omega | (rw [h9.2] at hb; cases hb)), hf1 (by omega), List.append_assoc])
      | (dsimp only; rw [he2, hend (fun h9 => by first | omega | (rw [h9.2] at hb; cases hb)), hf2 (by omega)]; rfl)
      | (dsimp only; rw [List.length_append, List.map_append]; rfl)
  · have hnil : wordsR [] (s.drop at_) = [] := by rw [List.drop_eq_nil_of_le (by omega)]; rfl
    rw [hnil, List.append_nil] at he
    subst he
    repeat' first | refine J_seq ?_ | refine J_region Tryz.tyOK ?_ | refine J_block ?_ | refine J_cond ?_ | refine J_ret ?_ | refine J_skip ?_ | refine J_exit ?_ | refine J_scope ?_ | refine CondP.y ?_ | refine CondP.n ?_ | refine CondP.mk (fun h => ?_) (fun h => ?_) | refine EqP.mk rfl ?_ | refine NewP.mk (fun ad => ?_) | refine ArP.x ?_ | refine SideP.a ?_ | refine FinE.mk [_] [] ⟨a, c, rfl, rfl, rfl⟩ (Ents.refl _ _) | fail
theorem refWords35_ok (s : List UInt8) (hs : s.length ≤ 1000000) : FnS Tryz.prog 54 [.c (.s s)] [] [] (StrP (wordsS s)) := by
  unfold StrP wordsS
  generalize hW : wordsR [] s = W
  have hWl : W.length ≤ 1000001 := by have := wordsR_len s []; rw [hW] at this; omega
  refine fn_of_J Tryz.tyOK 0 Tryz.func54 (by kernel_rfl) (c := Tryz.f54.body.getD .skip) (by kernel_rfl) Tryz.ntmps54 (rs := Tryz.f54.results.toList) rfl (by simp) (fun G => ?_)
  repeat' first | refine J_seq ?_ | refine J_region Tryz.tyOK ?_ | refine J_block ?_ | refine J_cond ?_ | refine J_ret ?_ | refine J_skip ?_ | refine J_exit ?_ | refine J_scope ?_ | refine CondP.y ?_ | refine CondP.n ?_ | refine CondP.mk (fun h => ?_) (fun h => ?_) | refine EqP.mk rfl ?_ | refine NewP.mk (fun ad => ?_) | refine ArP.x ?_ | refine SideP.a ?_ | fail
  refine J_loop (α := Nat × List (List UInt8) × (Option Addr × Nat) × List UInt8 × Option Addr × Nat) (fun x => [(0, .c (.s s)), (3, .c (.sl x.2.2.1.1 x.2.1.length x.2.2.1.2)), (4, .c (.sl x.2.2.2.2.1 x.2.2.2.1.length x.2.2.2.2.2)), (5, .c (.i .i64 x.1))])
    (fun x => [.row 5 1 x.2.2.2.2.1 x.2.2.2.1.length x.2.2.2.2.2 (x.2.2.2.1.map byteC), .row 9 1 x.2.2.1.1 x.2.1.length x.2.2.1.2 (x.2.1.map C.s)]) (fun _ => []) 0
    (fun x => x.1 ≤ s.length + 1 ∧ (x.1 = s.length + 1 → x.2.2.2.1 = []) ∧ x.2.2.2.1.length ≤ x.1 ∧ W = x.2.1 ++ wordsR x.2.2.2.1 (s.drop x.1)) (fun x => s.length + 1 - x.1) (InFam.mk (0, [], (none, 0), [], none, 0) ⟨Nat.zero_le _, fun _ => rfl, Nat.le_refl _, by rw [← hW]; rfl⟩ SubE.a (Ents.nilRow.trans Ents.nilRow)) (fun x hx => ?_)
  obtain ⟨i, out, ⟨a, c⟩, cur, a2, c2⟩ := x
  dsimp only at hx ⊢
  obtain ⟨hi, hlast, hcl, he⟩ := hx
  have hol : out.length ≤ 1000001 := by rw [he] at hWl; simp at hWl; omega
  by_cases hlt : i < s.length
  · have hat := wordsR_at (cur := cur) hlt
    have hgd : s.getD (i : Int).toNat 0 = s[i] := by simp [hlt]
    have hy := lowB_yes (b := s[i])
    have hn := lowB_no (b := s[i])
    have hbl := (s[i]).toNat_lt
    generalize s[i] = b at *
    have hlet : letB b = true ∨ letB b = false := by cases letB b <;> simp
    have hl1 : (65 ≤ (b.toNat : Int) ∧ (b.toNat : Int) ≤ 90) ∨ (97 ≤ (b.toNat : Int) ∧ (b.toNat : Int) ≤ 122) ∨ (48 ≤ (b.toNat : Int) ∧ (b.toNat : Int) ≤ 57) → letB b = true := fun h => by
      unfold letB
      simp only [Bool.or_eq_true, Bool.and_eq_true, decide_eq_true_eq]
      omega
    have hl2 : ¬ ((65 ≤ (b.toNat : Int) ∧ (b.toNat : Int) ≤ 90) ∨ (97 ≤ (b.toNat : Int) ∧ (b.toNat : Int) ≤ 122) ∨ (48 ≤ (b.toNat : Int) ∧ (b.toNat : Int) ≤ 57)) → ¬ letB b = true := fun h => by
      unfold letB
      simp only [Bool.or_eq_true, Bool.and_eq_true, decide_eq_true_eq]
      omega
    repeat' first | rw [hgd] | refine J_seq ?_ | refine J_region Tryz.tyOK ?_ | refine J_block ?_ | refine J_cond ?_ | refine J_ret ?_ | refine J_skip ?_ | refine J_exit ?_ | refine J_scope ?_ | refine CondP.y ?_ | refine CondP.n ?_ | refine CondP.mk (fun h => ?_) (fun h => ?_) | refine EqP.mk rfl ?_ | refine NewP.mk (fun ad => ?_) | refine ArP.x ?_ | refine SideP.a ?_ | refine AppE.row [_] _ (cur.map byteC) _ 1 rfl (SrcE.sl 5 5 _ _ 1 1 _ rfl rfl (.inl ⟨1, List.Mem.head _⟩) rfl) (by dsimp only; omega) (fun a' c' => ?_) | refine Round.mk (i + 1, out, (a, c), cur ++ [lowB b], a', c') (by dsimp only; omega) ⟨by dsimp only; omega, fun h => by dsimp only at h; omega, by simp; omega, (by dsimp only; rw [he, hat, if_pos (hl1 (by omega))])⟩ SubE.a (Ents.drop.trans (Ents.of ?_)) | refine BytesE.mk 5 cur (.inl ⟨c2, List.Mem.head _⟩) ?_ | refine AppE.row [_, _] [] (out.map C.s) [C.s cur] 1 rfl (SrcE.sl 9 9 _ _ 1 1 _ rfl rfl (.inl ⟨1, List.Mem.head _⟩) rfl) (by dsimp only; omega) (fun a' c' => ?_) | refine Round.mk (i + 1, out ++ [cur], (a', c'), [], none, 0) (by dsimp only; omega) ⟨by dsimp only; omega, fun _ => rfl, Nat.zero_le _, (by dsimp only; rw [he, hat, if_neg (hl2 (by omega)), show flushW cur = [cur] from if_pos (by omega), List.append_assoc])⟩ SubE.a (Ents.drop.trans (Ents.drop.trans ((Ents.nilRow (ety := 5) (esz := 1)).trans (Ents.of ?_)))) | refine Round.mk (i + 1, out, (a, c), [], none, 0) (by dsimp only; omega) ⟨by dsimp only; omega, fun _ => rfl, Nat.zero_le _, (by dsimp only; rw [he, hat, if_neg (hl2 (by omega)), show flushW cur = [] from if_neg (by omega)]; rfl)⟩ SubE.a (Ents.drop.trans Ents.nilRow) | fail
    all_goals first
      | (dsimp only; rw [List.length_append, List.map_append, List.map_cons, byteC, hy (by omega) (by omega)]; rfl)
      | (dsimp only; rw [List.length_append, List.map_append, List.map_cons, hn (by omega)]; rfl)
      | (dsimp only; rw [List.length_append, List.map_append]; rfl)
  · by_cases hil : i = s.length
    · have hat := wordsR_end (cur := cur) hil
      repeat' first | refine J_seq ?_ | refine J_region Tryz.tyOK ?_ | refine J_block ?_ | refine J_cond ?_ | refine J_ret ?_ | refine J_skip ?_ | refine J_exit ?_ | refine J_scope ?_ | refine CondP.y ?_ | refine CondP.n ?_ | refine CondP.mk (fun h => ?_) (fun h => ?_) | refine EqP.mk rfl ?_ | refine NewP.mk (fun ad => ?_) | refine ArP.x ?_ | refine SideP.a ?_ | refine BytesE.mk 5 cur (.inl ⟨c2, List.Mem.head _⟩) ?_ | refine AppE.row [_, _] [] (out.map C.s) [C.s cur] 1 rfl (SrcE.sl 9 9 _ _ 1 1 _ rfl rfl (.inl ⟨1, List.Mem.head _⟩) rfl) (by dsimp only; omega) (fun a' c' => ?_) | refine Round.mk (i + 1, out ++ [cur], (a', c'), [], none, 0) (by dsimp only; omega) ⟨by dsimp only; omega, fun _ => rfl, Nat.zero_le _, (by dsimp only; rw [he, hat, show flushW cur = [cur] from if_pos (by omega), List.append_assoc])⟩ SubE.a (Ents.drop.trans (Ents.drop.trans ((Ents.nilRow (ety := 5) (esz := 1)).trans (Ents.of ?_)))) | refine Round.mk (i + 1, out, (a, c), [], none, 0) (by dsimp only; omega) ⟨by dsimp only; omega, fun _ => rfl, Nat.zero_le _, (by dsimp only; rw [he, hat, show flushW cur = [] from if_neg (by omega)]; rfl)⟩ SubE.a (Ents.drop.trans Ents.nilRow) | fail
      all_goals first
            | (dsimp only; rw [List.length_append, List.map_append]; rfl)
    · have hc0 := hlast (by omega)
      subst hc0
      have hnil : wordsR [] (s.drop i) = [] := by rw [List.drop_eq_nil_of_le (by omega)]; rfl
      rw [hnil, List.append_nil] at he
      subst he
      repeat' first | refine J_seq ?_ | refine J_region Tryz.tyOK ?_ | refine J_block ?_ | refine J_cond ?_ | refine J_ret ?_ | refine J_skip ?_ | refine J_exit ?_ | refine J_scope ?_ | refine CondP.y ?_ | refine CondP.n ?_ | refine CondP.mk (fun h => ?_) (fun h => ?_) | refine EqP.mk rfl ?_ | refine NewP.mk (fun ad => ?_) | refine ArP.x ?_ | refine SideP.a ?_ | refine FinE.mk [_] [] ⟨a, c, rfl, rfl, rfl⟩ Ents.drop | fail
end Go.Proofs

/- This text holds the layings of the kit's contract of slices.Sort at this program (its plain mode). -/
namespace Go.Proofs
open Go.Shelf
def Tryz.sortStr_ren : Go.Shelf.Ren := ⟨fun | 6 => 47 | 8 => 88 | 9 => 87 | 19 => 128 | 20 => 129 | 21 => 119 | 22 => 120 | 23 => 121 | 24 => 122 | 25 => 123 | 26 => 124 | 27 => 125 | 28 => 126 | 29 => 127 | 36 => 163 | 31 => 164 | 32 => 165 | 37 => 166 | 38 => 167 | 39 => 168 | 41 => 187 | n => n, fun | 27 => 29 | 29 => 9 | 3 => 3 | 32 => 122 | 26 => 29 | 0 => 0 | 44 => 184 | 46 => 119 | 4 => 4 | 36 => 178 | 35 => 177 | 41 => 106 | 5 => 5 | 9 => 9 | 53 => 218 | 57 => 222 | 63 => 234 | 64 => 173 | n => n, fun | n => n⟩
theorem Tryz.sortStr : Go.Proofs.SlLaysM.n6 Tryz.prog Tryz.sortStr_ren := {
  mixed := by kernel_rfl
  f6 := ⟨Tryz.f47.name, by decide, Tryz.func47.trans (congrArg some (by kernel_rfl))⟩
  f8 := Tryz.func88.trans (congrArg some (by kernel_rfl))
  f9 := ⟨Tryz.f87.name, by decide, Tryz.func87.trans (congrArg some (by kernel_rfl))⟩
  f19 := Tryz.func128.trans (congrArg some (by kernel_rfl))
  f20 := Tryz.func129.trans (congrArg some (by kernel_rfl))
  f21 := ⟨Tryz.f119.name, by decide, Tryz.func119.trans (congrArg some (by kernel_rfl))⟩
  f22 := ⟨Tryz.f120.name, by decide, Tryz.func120.trans (congrArg some (by kernel_rfl))⟩
  f23 := ⟨Tryz.f121.name, by decide, Tryz.func121.trans (congrArg some (by kernel_rfl))⟩
  f24 := ⟨Tryz.f122.name, by decide, Tryz.func122.trans (congrArg some (by kernel_rfl))⟩
  f25 := ⟨Tryz.f123.name, by decide, Tryz.func123.trans (congrArg some (by kernel_rfl))⟩
  f26 := ⟨Tryz.f124.name, by decide, Tryz.func124.trans (congrArg some (by kernel_rfl))⟩
  f27 := ⟨Tryz.f125.name, by decide, Tryz.func125.trans (congrArg some (by kernel_rfl))⟩
  f28 := ⟨Tryz.f126.name, by decide, Tryz.func126.trans (congrArg some (by kernel_rfl))⟩
  f29 := ⟨Tryz.f127.name, by decide, Tryz.func127.trans (congrArg some (by kernel_rfl))⟩
  f31 := Tryz.func164.trans (congrArg some (by kernel_rfl))
  f32 := Tryz.func165.trans (congrArg some (by kernel_rfl))
  f36 := ⟨Tryz.f163.name, by decide, Tryz.func163.trans (congrArg some (by kernel_rfl))⟩
  f37 := ⟨Tryz.f166.name, by decide, Tryz.func166.trans (congrArg some (by kernel_rfl))⟩
  f38 := ⟨Tryz.f167.name, by decide, Tryz.func167.trans (congrArg some (by kernel_rfl))⟩
  f39 := ⟨Tryz.f168.name, by decide, Tryz.func168.trans (congrArg some (by kernel_rfl))⟩
  f41 := ⟨Tryz.f187.name, by decide, Tryz.func187.trans (congrArg some (by kernel_rfl))⟩
  t0 := Tryz.underlying0
  a0 := Tryz.isAgg0
  z0 := Tryz.sizeOf0
  v0 := Tryz.zeroValue0
  t3 := Tryz.underlying3
  a3 := Tryz.isAgg3
  z3 := Tryz.sizeOf3
  v3 := Tryz.zeroValue3
  t4 := Tryz.underlying4
  a4 := Tryz.isAgg4
  z4 := Tryz.sizeOf4
  v4 := Tryz.zeroValue4
  t5 := Tryz.underlying5
  a5 := Tryz.isAgg5
  z5 := Tryz.sizeOf5
  v5 := Tryz.zeroValue5
  t9 := Tryz.underlying9
  a9 := Tryz.isAgg9
  z9 := Tryz.sizeOf9
  v9 := Tryz.zeroValue9
  t26 := Tryz.underlying29
  a26 := Tryz.isAgg29
  z26 := Tryz.sizeOf29
  v26 := Tryz.zeroValue29
  t27 := Tryz.underlying29
  a27 := Tryz.isAgg29
  z27 := Tryz.sizeOf29
  v27 := Tryz.zeroValue29
  t29 := Tryz.underlying9
  a29 := Tryz.isAgg9
  z29 := Tryz.sizeOf9
  v29 := Tryz.zeroValue9
  t32 := Tryz.underlying122
  a32 := Tryz.isAgg122
  z32 := Tryz.sizeOf122
  v32 := Tryz.zeroValue122
  t35 := Tryz.underlying177
  a35 := Tryz.isAgg177
  z35 := Tryz.sizeOf177
  v35 := Tryz.zeroValue177
  t36 := Tryz.underlying178
  a36 := Tryz.isAgg178
  z36 := Tryz.sizeOf178
  v36 := Tryz.zeroValue178
  t41 := Tryz.underlying106
  a41 := Tryz.isAgg106
  z41 := Tryz.sizeOf106
  v41 := Tryz.zeroValue106
  t44 := Tryz.underlying184
  a44 := Tryz.isAgg184
  z44 := Tryz.sizeOf184
  v44 := Tryz.zeroValue184
  t46 := Tryz.underlying119
  a46 := Tryz.isAgg119
  z46 := Tryz.sizeOf119
  v46 := Tryz.zeroValue119
  t53 := Tryz.underlying218
  a53 := Tryz.isAgg218
  z53 := Tryz.sizeOf218
  v53 := Tryz.zeroValue218
  t57 := Tryz.underlying222
  a57 := Tryz.isAgg222
  z57 := Tryz.sizeOf222
  v57 := Tryz.zeroValue222
  t63 := Tryz.underlying234
  a63 := Tryz.isAgg234
  z63 := Tryz.sizeOf234
  v63 := Tryz.zeroValue234
  t64 := Tryz.underlying173
  a64 := Tryz.isAgg173
  z64 := Tryz.sizeOf173
  v64 := Tryz.zeroValue173 }
end Go.Proofs
