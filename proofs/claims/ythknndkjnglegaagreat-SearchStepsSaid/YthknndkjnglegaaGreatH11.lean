/- This text walks through Compact of the package slices at strings. This text turns the kit's contract of slices.Sort, at strings, into the form of the symbolic executor. -/
import Derived.Test.YthknndkjnglegaaGreatH10
import Derived.Test.YthknndkjnglegaaGreatH08
set_option linter.all false

namespace Go.X
open Go Go.Lib
def sC (l : List (List UInt8)) : List C := l.map C.s
theorem sC_len (l : List (List UInt8)) : (sC l).length = l.length * 1 := by simp [sC]
theorem s_get {l : List (List UInt8)} {i : Nat} (h : i < l.length) : ((sC l).drop (i * 1 + 0)).take 1 = [.s l[i]] := by
  unfold sC
  rw [Nat.mul_one, Nat.add_zero, ← List.map_drop, List.drop_eq_getElem_cons h]
  rfl
theorem sC_take (l : List (List UInt8)) (k : Nat) : (sC l).take (k * 1) = sC (l.take k) := by
  unfold sC
  rw [Nat.mul_one, List.map_take]
theorem sC_set {l : List (List UInt8)} {j : Nat} (hj : j < l.length) (x : List UInt8) : setC (j * 1 + 0) [C.s x] (sC l) = sC (l.set j x) := by
  unfold sC
  rw [Nat.mul_one, Nat.add_zero, List.map_set, List.set_eq_take_append_cons_drop, if_pos (by simpa using hj)]
  simp [setC]
def cmpsGo : List UInt8 → List (List UInt8) → List (List UInt8)
  | _, [] => []
  | p, y :: r => if y = p then cmpsGo p r else y :: cmpsGo y r
/-- The rows without equal neighbours. -/
def cmps : List (List UInt8) → List (List UInt8)
  | [] => []
  | x :: r => x :: cmpsGo x r
def nthS (l : List (List UInt8)) (i : Nat) : List UInt8 := l.getD i default
theorem nthS_eq {l : List (List UInt8)} {i : Nat} (h : i < l.length) : nthS l i = l[i] := by
  unfold nthS; rw [List.getD_eq_getElem?_getD, List.getElem?_eq_getElem h]; rfl
theorem sC_drop (l : List (List UInt8)) (k : Nat) : (sC l).drop (k * 1) = sC (l.drop k) := by
  unfold sC
  rw [Nat.mul_one, List.map_drop]
theorem drop_atS {m l : List (List UInt8)} {d i : Nat} (h : m.drop d = l.drop d) (hi : d ≤ i) (h1 : i < m.length) (h2 : i < l.length) : m[i] = l[i] := by
  have := congrArg (fun x => x[i - d]?) h
  simp only [List.getElem?_drop, show d + (i - d) = i by omega, List.getElem?_eq_getElem h1, List.getElem?_eq_getElem h2] at this
  exact Option.some.inj this
theorem rsubS {e : Nat} {a : Option Addr} {n c k : Nat} {m : List (List UInt8)} {L : List Chunk} {D : List Fact} (hm : Chunk.row e 1 a n c (sC m) ∈ L) (hn : m.length = n) (hk : k < n) (hc : n ≤ c) : Reads L D e 1 (resl a k c 1) (n - k) (sC (m.drop k)) := by
  refine .sub a k n c (sC m) hm ?_ (by omega) ?_
  · exact if_neg (by omega)
  · rw [sC_drop, List.take_of_length_le]
    rw [sC_len, List.length_drop]; omega
theorem s_sub {m : List (List UInt8)} {k i : Nat} (h : k + i < m.length) : ((sC (m.drop k)).drop (i * 1 + 0)).take 1 = [.s m[k + i]] := by
  rw [s_get (l := m.drop k) (i := i) (by rw [List.length_drop]; omega)]
  simp
end Go.X
namespace Go.Proofs
open Go Go.X
set_option maxRecDepth 100000
set_option maxHeartbeats 8000000
theorem cptS_ok (a : Option Addr) (c : Nat) (l : List (List UInt8)) (hl : l.length ≤ 100000) :
    FnS Tryz.prog 48 [.c (.sl a l.length c)] [.row 9 1 a l.length c (sC l)] []
      (fun v L D => v = .c (.sl a (cmps l).length c) ∧ L = [.row 9 1 a (cmps l).length c (sC (cmps l))] ∧ D = []) := by
  by_cases h2 : l.length < 2
  · have he : cmps l = l := by
      match l, h2 with
      | [], _ => rfl
      | [x], _ => rfl
      | x :: y :: r, h => simp at h; omega
    rw [he]
    refine fn_of_J Tryz.tyOK 0 Tryz.func48 (by kernel_rfl) (c := Tryz.f48.body.getD .skip) (by kernel_rfl) Tryz.ntmps48 (rs := Tryz.f48.results.toList) rfl (by simp) (fun G => ?_)
    repeat' first | refine J_seq ?_ | refine J_region Tryz.tyOK ?_ | refine J_block ?_ | refine J_cond ?_ | refine J_ret ?_ | refine J_skip ?_ | refine J_exit ?_ | refine J_scope ?_ | refine CondP.y ?_ | refine CondP.n ?_ | refine CondP.mk (fun h => ?_) (fun h => ?_) | refine EqP.mk rfl ?_ | refine NewP.mk (fun ad => ?_) | refine ArP.x ?_ | refine SideP.a ?_ | refine FinE.mk [_] [] ⟨rfl, rfl, rfl⟩ (Ents.refl _ _) | fail
  · generalize hq : cmps l = q
    refine fn_of_J Tryz.tyOK 0 Tryz.func48 (by kernel_rfl) (c := Tryz.f48.body.getD .skip) (by kernel_rfl) Tryz.ntmps48 (rs := Tryz.f48.results.toList) rfl (by simp) (fun G => ?_)
    refine J_cap (List.Mem.head _) (fun hnc _ _ => ?_)
    repeat' first | refine J_seq ?_ | refine J_region Tryz.tyOK ?_ | refine J_block ?_ | refine J_cond ?_ | refine J_ret ?_ | refine J_skip ?_ | refine J_exit ?_ | refine J_scope ?_ | refine CondP.y ?_ | refine CondP.n ?_ | refine CondP.mk (fun h => ?_) (fun h => ?_) | refine EqP.mk rfl ?_ | refine NewP.mk (fun ad => ?_) | refine ArP.x ?_ | refine SideP.a ?_ | fail
    refine J_loop (α := Nat) (fun k => [(0, .c (.sl a l.length c)), (3, .c (.i .i64 k))]) (fun _ => [.row 9 1 a l.length c (sC l)]) (fun _ => []) 0
      (fun k => 1 ≤ k ∧ k ≤ l.length ∧ q = l.take k ++ cmpsGo (nthS l (k - 1)) (l.drop k)) (fun k => l.length - k) (InFam.mk 1 ⟨Nat.le_refl _, by omega, ?_⟩ SubE.a (Ents.refl _ _)) (fun k hx => ?_)
    · rw [← hq]
      match l, h2 with
      | [], h => simp at h
      | x :: r, _ => rfl
    obtain ⟨hk1, hkn, he⟩ := hx
    by_cases hlt : k < l.length
    · have hg := s_get hlt
      have hkk : ((k : Int) - 1).toNat = k - 1 := by omega
      have hg1 : ((sC l).drop (((k : Int) - 1).toNat * 1 + 0)).take 1 = [.s l[k - 1]] := by rw [hkk]; exact s_get (by omega)
      have hn1 : nthS l (k - 1) = l[k - 1] := nthS_eq (by omega)
      have hyes : l[k] = l[k - 1] → q = l.take k ++ cmpsGo (nthS l k) (l.drop (k + 1)) := fun h => by
        rw [he, List.drop_eq_getElem_cons hlt, cmpsGo, hn1, if_pos h, nthS_eq hlt, h]
      have hno : ¬ l[k] = l[k - 1] → q = l.take (k + 1) ++ cmpsGo (nthS l k) (l.drop (k + 1)) := fun h => by
        rw [he, List.drop_eq_getElem_cons hlt, cmpsGo, hn1, if_neg h, nthS_eq hlt, List.take_succ_eq_append_getElem hlt, List.append_assoc]
        rfl
      repeat' first | refine J_stop (c := .seq (.region 7 _ _) _) ?_ | refine J_seq ?_ | refine J_region Tryz.tyOK ?_ | refine J_block ?_ | refine J_cond ?_ | refine J_ret ?_ | refine J_skip ?_ | refine J_exit ?_ | refine J_scope ?_ | refine CondP.y ?_ | refine CondP.n ?_ | refine CondP.mk (fun h => ?_) (fun h => ?_) | refine EqP.mk rfl ?_ | refine NewP.mk (fun ad => ?_) | refine ArP.x ?_ | refine SideP.a ?_ | refine J_drawS (id := 6) Tryz.tyOK (by kernel_rfl) [0, 0, 3, 7, 0, 0, 32, 112, 240, 511] [0, 1, 2, 3, 4, 5, 6, 7, 8, 9] [] [18, 23] true (by kernel_rfl) ?_ | refine J_drawS (id := 11) Tryz.tyOK (by kernel_rfl) [0, 0, 3, 7, 0, 0, 32, 112, 240, 511] [0, 1, 2, 3, 4, 5, 6, 7, 8, 9] [] [37, 42] true (by kernel_rfl) ?_ | refine EntP.mk Ents.a ?_ | refine IdxE.mk 9 1 _ (.inl ⟨c, List.Mem.head _⟩) (by omega) (by omega) ?_ | refine LoadE.mk 9 _ _ _ (.inl ⟨c, List.Mem.head _⟩) (by omega) (by omega) (by first | omega | decide) hg ?_ | refine LoadE.mk 9 _ _ _ (.inl ⟨c, List.Mem.head _⟩) (by omega) (by omega) (by first | omega | decide) hg1 ?_ | refine Round.mk (k + 1) (by omega) ⟨by omega, by omega, ?_⟩ SubE.a (Ents.refl _ _) | fail
      · have hxy := h
        have hq0 := hyes hxy
        clear hyes hno hg hg1 hn1 hkk he
        refine ⟨?_⟩
        refine J_ent (n' := 0) (env' := [(0, .c (.sl a l.length c)), (3, .c (.i .i64 k))]) SubE.a (Ents.refl _ _) ?_
        repeat' first | refine J_seq ?_ | refine J_region Tryz.tyOK ?_ | refine J_block ?_ | refine J_cond ?_ | refine J_ret ?_ | refine J_skip ?_ | refine J_exit ?_ | refine J_scope ?_ | refine CondP.y ?_ | refine CondP.n ?_ | refine CondP.mk (fun h => ?_) (fun h => ?_) | refine EqP.mk rfl ?_ | refine NewP.mk (fun ad => ?_) | refine ArP.x ?_ | refine SideP.a ?_ | fail
        refine J_loop (α := Nat × Nat × List (List UInt8)) (fun x => [(0, .c (.sl a l.length c)), (3, .c (.i .i64 x.2.1)), (4, .c (.sl (resl a k c 1) (l.length - k) (c - k))), (5, .c (.i .i64 x.1))]) (fun x => [.row 9 1 a l.length c (sC x.2.2)]) (fun _ => []) 0
          (fun x => 1 ≤ x.1 ∧ x.1 ≤ l.length - k ∧ k ≤ x.2.1 ∧ x.2.1 ≤ k + x.1 - 1 ∧ x.2.2.length = l.length ∧ x.2.2.drop (k + x.1 - 1) = l.drop (k + x.1 - 1) ∧ q = x.2.2.take x.2.1 ++ cmpsGo (nthS l (k + x.1 - 1)) (l.drop (k + x.1))) (fun x => l.length - x.1) (InFam.mk (1, k, l) ⟨Nat.le_refl _, by dsimp only; omega, Nat.le_refl _, by dsimp only; omega, rfl, rfl, by dsimp only; exact hq0⟩ SubE.a (Ents.refl _ _)) (fun x hx => ?_)
        obtain ⟨j, i, m⟩ := x
        dsimp only at hx ⊢
        obtain ⟨hj1, hj2, hki, hij, hml, hdr, hq1⟩ := hx
        have hR : Reads [.row 9 1 a l.length c (sC m)] [] 9 1 (resl a k c 1) (l.length - k) (sC (m.drop k)) := rsubS (List.Mem.head _) hml (by omega) hnc
        by_cases hjl : j < l.length - k
        · have e1 := drop_atS hdr (i := k + j) (by omega) (by omega) (by omega)
          have e2 := drop_atS hdr (i := k + (j - 1)) (by omega) (by omega) (by omega)
          have hg := s_sub (m := m) (k := k) (i := j) (by omega)
          rw [e1] at hg
          have hg1 : ((sC (m.drop k)).drop (((j : Int) - 1).toNat * 1 + 0)).take 1 = [.s l[k + (j - 1)]] := by
            rw [show ((j : Int) - 1).toNat = j - 1 by omega]
            have := s_sub (m := m) (k := k) (i := j - 1) (by omega)
            rw [e2] at this
            exact this
          have hst : setC (i * 1 + 0) ([C.s l[k + j]]) (sC m) = sC (m.set i l[k + j]) := sC_set (by omega) _
          have hn1 : nthS l (k + j - 1) = l[k + (j - 1)] := by rw [nthS_eq (by omega)]; simp only [show k + j - 1 = k + (j - 1) by omega]
          have hyes : l[k + j] = l[k + (j - 1)] → q = m.take i ++ cmpsGo (nthS l (k + (j + 1) - 1)) (l.drop (k + (j + 1))) := fun h => by
            rw [hq1, List.drop_eq_getElem_cons (show k + j < l.length by omega), cmpsGo, hn1, if_pos h, show k + (j + 1) - 1 = k + j by omega, nthS_eq (by omega), h]
            rfl
          have hno : ¬ l[k + j] = l[k + (j - 1)] → q = (m.set i l[k + j]).take (i + 1) ++ cmpsGo (nthS l (k + (j + 1) - 1)) (l.drop (k + (j + 1))) := fun h => by
            rw [hq1, List.drop_eq_getElem_cons (show k + j < l.length by omega), cmpsGo, hn1, if_neg h, show k + (j + 1) - 1 = k + j by omega, nthS_eq (by omega), List.take_succ_eq_append_getElem (by rw [List.length_set]; omega), List.append_assoc]
            simp [List.take_set_of_le]
            rfl
          have hdr1 : m.drop (k + (j + 1) - 1) = l.drop (k + (j + 1) - 1) := by
            rw [show k + (j + 1) - 1 = (k + j - 1) + 1 by omega, ← List.drop_drop, hdr, List.drop_drop]
          have hdr2 : (m.set i l[k + j]).drop (k + (j + 1) - 1) = l.drop (k + (j + 1) - 1) := by
            rw [List.drop_set_of_lt (by omega)]; exact hdr1
          repeat' first | refine J_seq ?_ | refine J_region Tryz.tyOK ?_ | refine J_block ?_ | refine J_cond ?_ | refine J_ret ?_ | refine J_skip ?_ | refine J_exit ?_ | refine J_scope ?_ | refine CondP.y ?_ | refine CondP.n ?_ | refine CondP.mk (fun h => ?_) (fun h => ?_) | refine EqP.mk rfl ?_ | refine NewP.mk (fun ad => ?_) | refine ArP.x ?_ | refine SideP.a ?_ | refine J_drawS (id := 6) Tryz.tyOK (by kernel_rfl) [0, 0, 3, 7, 0, 0, 32, 112, 240, 511] [0, 1, 2, 3, 4, 5, 6, 7, 8, 9] [] [18, 23] true (by kernel_rfl) ?_ | refine J_drawS (id := 11) Tryz.tyOK (by kernel_rfl) [0, 0, 3, 7, 0, 0, 32, 112, 240, 511] [0, 1, 2, 3, 4, 5, 6, 7, 8, 9] [] [37, 42] true (by kernel_rfl) ?_ | refine EntP.mk Ents.a ?_ | refine IdxE.mk 9 1 _ hR (by omega) (by omega) ?_ | refine IdxE.mk 9 1 _ (.inl ⟨c, List.Mem.head _⟩) (by omega) (by omega) ?_ | refine LoadE.mk 9 _ _ _ hR (by omega) (by omega) (by first | omega | decide) hg ?_ | refine LoadE.mk 9 _ _ _ hR (by omega) (by omega) (by first | omega | decide) hg1 ?_ | refine StoreE.mk [] _ _ _ _ _ _ rfl (by omega) (by omega) (Nat.le_of_ble_eq_true rfl) hst ?_ | refine Round.mk (j + 1, i, m) (by dsimp only; omega) ⟨by dsimp only; omega, by dsimp only; omega, hki, by dsimp only; omega, hml, hdr1, hyes (by assumption)⟩ SubE.a (Ents.refl _ _) | refine Round.mk (j + 1, i + 1, m.set i l[k + j]) (by dsimp only; omega) ⟨by dsimp only; omega, by dsimp only; omega, by dsimp only; omega, by dsimp only; omega, by rw [List.length_set]; exact hml, hdr2, hno (by assumption)⟩ SubE.a (Ents.refl _ _) | fail
        · have hjn : j = l.length - k := by omega
          subst hjn
          rw [show l.drop (k + (l.length - k)) = [] from List.drop_eq_nil_of_le (by omega)] at hq1
          have hq1 : q = m.take i ++ [] := hq1
          rw [List.append_nil] at hq1
          have hql : q.length = i := by rw [hq1, List.length_take]; omega
          have hwl := sC_len m
          repeat' first | refine J_seq ?_ | refine J_region Tryz.tyOK ?_ | refine J_block ?_ | refine J_cond ?_ | refine J_ret ?_ | refine J_skip ?_ | refine J_exit ?_ | refine J_scope ?_ | refine CondP.y ?_ | refine CondP.n ?_ | refine CondP.mk (fun h => ?_) (fun h => ?_) | refine EqP.mk rfl ?_ | refine NewP.mk (fun ad => ?_) | refine ArP.x ?_ | refine SideP.a ?_ | refine ClearE.mk [] _ _ _ _ (i : Int).toNat _ _ rfl (if_neg (by omega)) (by omega) ?_ | refine FinE.mk [_] [] ⟨?_, rfl, rfl⟩ ((Ents.rowPre (k := i) (by omega)).trans (Ents.of ?_)) | fail
          · show V.c (C.sl (resl a 0 c 1) (i : Int).toNat c) = _
            rw [resl0, hql, Int.toNat_natCast]
          · show [Chunk.row _ 1 a i c ((setC ((i : Int).toNat * 1) (repC (l.length - (i : Int).toNat) [C.s []]) (sC m)).take (i * 1))] = _
            rw [Int.toNat_natCast, setC_take (by omega), sC_take, ← hq1, hql]
      · exact hno (h)
    · have hkl : k = l.length := by omega
      subst hkl
      rw [List.take_length, List.drop_length] at he
      have he : q = l ++ [] := he
      rw [List.append_nil] at he
      subst he
      repeat' first | refine J_seq ?_ | refine J_region Tryz.tyOK ?_ | refine J_block ?_ | refine J_cond ?_ | refine J_ret ?_ | refine J_skip ?_ | refine J_exit ?_ | refine J_scope ?_ | refine CondP.y ?_ | refine CondP.n ?_ | refine CondP.mk (fun h => ?_) (fun h => ?_) | refine EqP.mk rfl ?_ | refine NewP.mk (fun ad => ?_) | refine ArP.x ?_ | refine SideP.a ?_ | refine FinE.mk [_] [] ⟨rfl, rfl, rfl⟩ (Ents.refl _ _) | fail
end Go.Proofs
namespace Go.X
open Go Go.Sort Go.Proofs
theorem flatK_one {α : Type} [Inhabited α] (enc : α → Value) (d : Array α) : flatK (fun x => [enc x]) 1 d = d.map enc := by
  apply Array.ext
  · simp
  · intro i h1 h2
    have hi : i < d.size := by simpa using h2
    have h := get_flatK (fun x => [enc x]) 1 d i (by omega)
    rw [getElem!_pos _ i h1] at h
    rw [h, Nat.div_one, Nat.mod_one, Array.getElem_map, getElem!_pos d i hi]
    rfl
theorem putCells_one {α : Type} [Inhabited α] (enc : α → Value) (off : Nat) (d : Array α) (c : Array Value) : putCells id off (d.map enc) c = putCells enc off d c := by
  unfold putCells
  rw [Array.size_map]
  congr 1
  funext k x
  split
  · rename_i h
    have h1 : k - off < d.size := by omega
    rw [getElem!_pos _ (k - off) (by simpa using h1), getElem!_pos d (k - off) h1, Array.getElem_map]
    rfl
  · rfl
theorem putRow_one {α : Type} [Inhabited α] (enc : α → Value) (w : World) (blk off : Nat) (d : Array α) : putRow enc w blk off d = putRowK (fun x => [enc x]) 1 w blk off d := by
  unfold putRowK
  rw [flatK_one]
  unfold putRow
  congr 1
  funext c
  exact (putCells_one enc off d c).symm
theorem holds_one {α : Type} [Inhabited α] {enc : α → Value} {w : World} {blk off : Nat} {d : Array α} (h : HoldsK (fun x => [enc x]) 1 w blk off d) : Sort.Holds enc w blk off d := by
  intro j hj
  unfold HoldsK at h
  rw [flatK_one] at h
  obtain ⟨h1, h2⟩ := h j (by simpa using hj)
  refine ⟨?_, h2⟩
  rw [h1, getElem!_pos _ j (by simpa using hj), getElem!_pos d j hj, Array.getElem_map]
  rfl
/-- slices.Sort. -/
theorem fn_sort1 {P : Program} {α : Type} [Inhabited α] {fS : FuncId} {ety : Nat} {mk : α → C} {srt : List α → List α} (hF1 : ∀ x, (mk x).one) (hs : ∀ l, (srt l).length = l.length)
    (hn : FnS P fS [.c (.sl none 0 0)] [] [] (fun v L D => v = .t0 ∧ L = [] ∧ D = []))
    (hsort : ∀ (blk cap : Nat) (d : List α) (w : World), Sort.Holds (fun x => (mk x).enc) w blk 0 d.toArray → blk < w.heap.size → d.length < 4611686018427387904 → Calls P fS #[.slice (some ⟨blk, 0, none⟩) d.length cap] w fun e w' => e = .returned (.tuple #[]) ∧ ∃ n os, w' = grow (putRow (fun x => (mk x).enc) (Sort.ahead w n) blk 0 (srt d).toArray) os)
    (a : Option Addr) (c : Nat) (l : List α) (hl : l.length < 4611686018427387904) :
    FnS P fS [.c (.sl a l.length c)] [.row ety 1 a l.length c (l.flatMap fun x => [mk x])] [] (fun v L D => v = .t0 ∧ L = [.row ety 1 a l.length c ((srt l).flatMap fun x => [mk x])] ∧ D = []) := by
  have hF : ∀ x : α, ([mk x] : List C).length = 1 := fun _ => rfl
  have hs0 : srt [] = [] := List.eq_nil_of_length_eq_zero (hs [])
  refine ⟨hn.en, fun w m hh => ?_⟩
  rcases hh.ok.1.2 with ⟨ha, hn0, hc0, hcs⟩ | ⟨b, ha, hrow⟩
  · subst ha hc0
    have hl0 : l = [] := List.eq_nil_of_length_eq_zero hn0
    subst hl0
    refine (hn.run w m ⟨by simp [fps], trivial, fun b o hb => ⟨(hh.im b o hb).1, by simp [fps]⟩, trivial⟩).mono ?_
    rintro e w' ⟨v, L', D', m', he, ⟨rfl, rfl, rfl⟩, h1, h2⟩
    refine ⟨.t0, _, [], m', he, ⟨rfl, rfl, rfl⟩, ⟨by simp [fps, Chunk.fp], ⟨⟨fun x hx => by rw [hs0] at hx; simp at hx, .inl ⟨rfl, rfl, rfl, by rw [hs0]; rfl⟩⟩, trivial⟩, fun b o hb => ⟨(h1.im b o hb).1, by simp [fps, Chunk.fp]⟩, trivial⟩, ⟨h2.size, fun b hb hx => h2.same b hb (by simp [fps]), fun b hb => by simp [fps, Chunk.fp] at hb, h2.im, fun b o ho => ?_, h2.kept⟩⟩
    rcases h2.new b o ho with h3 | h3 | h3
    · exact .inl h3
    · simp [fps] at h3
    · exact .inr (.inr h3)
  · subst ha
    have hb : b < w.heap.size := mem_fps_lt hh.ok b (by simp [fps, Chunk.fp])
    have hlen := hs l
    refine (hsort b c l w (holds_one (enc := fun x => (mk x).enc) (holdsK_of_row hF hrow)) hb hl).mono ?_
    rintro e w' ⟨he, n, os, rfl⟩
    have hrow' := row_sorted hF (m := n) (d' := srt l) (os := os) hlen hrow hb
    rw [putRow_one]
    show ∃ v L' D' m', _
    have hW : grow (putRowK (fun x => [(mk x).enc]) 1 (Sort.ahead w n) b 0 (srt l).toArray) os = sortWorldK (encF fun x => [mk x]) 1 w b 0 n (srt l).toArray os := rfl
    rw [hW]
    rw [hlen] at hrow'
    have hsize : w.heap.size ≤ (sortWorldK (encF fun x => [mk x]) 1 w b 0 n (srt l).toArray os).heap.size := by
      unfold sortWorldK
      rw [size_grow]
      show w.heap.size ≤ (mapBlock (Sort.ahead w n) b _).heap.size + _
      simp only [mapBlock, Array.size_modify]
      exact Nat.le_add_right _ _
    refine ⟨.t0, _, [], m, by rw [he]; rfl, ⟨rfl, rfl, rfl⟩, ⟨by simp [fps, Chunk.fp], ⟨⟨fun x hx => ?_, .inr ⟨b, rfl, hrow'⟩⟩, trivial⟩, fun q o hq => ?_, trivial⟩, ⟨hsize, fun q hq hx => ?_, fun q hq => .inl hq, fun _ _ h => h, fun _ _ h => .inl h, ⟨rfl, rfl, hsize, fun e => absurd e (by decide), fun e => absurd e (by decide)⟩⟩⟩
    · obtain ⟨y, _, hy⟩ := List.mem_flatMap.1 hx
      rw [List.mem_singleton.1 hy]
      exact hF1 y
    · obtain ⟨h1, h2⟩ := hh.im q o hq
      have hne : q ≠ b := fun h => h2 (by simp [fps, Chunk.fp, h])
      refine ⟨?_, by simpa [fps, Chunk.fp] using h2⟩
      rw [sorted_other (Array.getElem?_eq_some_iff.1 h1).1 hne]; exact h1
    · exact sorted_other hq (fun h => hx (by simp [Chunk.fp, fps, h]))
end Go.X
namespace Go.Proofs
open Go Go.X
set_option maxRecDepth 100000
set_option maxHeartbeats 4000000
theorem flat_one {α β : Type} (f : α → β) (l : List α) : (l.flatMap fun x => [f x]) = l.map f := by
  induction l with
  | nil => rfl
  | cons x r ih => rw [List.flatMap_cons, ih]; rfl
/-- Strings in order. -/
def srtS (l : List (List UInt8)) : List (List UInt8) := l.mergeSort fun x y => decide (x ≤ y)
theorem sortS0 : FnS Tryz.prog 47 [.c (.sl none 0 0)] [] [] (fun v L D => v = .t0 ∧ L = [] ∧ D = []) :=
  fn_pure ⟨_, Tryz.func47, by kernel_rfl, by kernel_rfl⟩ (fun w => AnyM.slices_Sort_string_none Tryz.sortStr none 0 w)
theorem sortS_ok (a : Option Addr) (c : Nat) (l : List (List UInt8)) (hl : l.length < 4611686018427387904) :
    FnS Tryz.prog 47 [.c (.sl a l.length c)] [.row 9 1 a l.length c (sC l)] []
      (fun v L D => v = .t0 ∧ L = [.row 9 1 a l.length c (sC (srtS l))] ∧ D = []) := by
  have h := fn_sort1 (P := Tryz.prog) (fS := 47) (ety := 9) (mk := C.s) (srt := srtS) (fun _ => rfl) (fun l => List.length_mergeSort ..) sortS0
    (fun blk cap d w hH hblk hsz => AnyM.slices_Sort_string Tryz.sortStr blk 0 cap d w hH hblk hsz) a c l hl
  simp only [flat_one] at h
  exact h
end Go.Proofs

/- This text walks through the function Rows of the package search. -/
namespace Go.X
open Go Go.Lib
theorem ordW_mem {l m : List WR} (h : ∀ z, z ∈ l ↔ z ∈ m) : ordW l = ordW m := by
  obtain ⟨a, b⟩ := ordW_str l
  obtain ⟨c, d⟩ := ordW_str m
  exact strL_eq cmp_WR a c fun z => by rw [b, d]; exact h z
theorem kvGet_put (kv : Kv) (k : List UInt8) (v : V) (q : List UInt8) : kvGet (kvPut kv k v) q = if q = k then some v else kvGet kv q := by
  induction kv with
  | nil =>
    simp only [kvPut, kvGet]
    by_cases h : q = k
    · rw [if_pos h, if_pos h.symm]
    · rw [if_neg h, if_neg fun e => h e.symm]
  | cons x r ih =>
    simp only [kvPut]
    split
    · rename_i hx
      simp only [kvGet]
      by_cases h : q = k
      · rw [if_pos h, if_pos (hx.trans h.symm)]
      · rw [if_neg h, if_neg fun e => h (e.symm.trans hx), if_neg fun e => h (e.symm.trans hx)]
    · rename_i hx
      simp only [kvGet]
      rw [ih]
      by_cases h : x.1 = q
      · rw [if_pos h, if_neg fun e => hx (h.trans e)]
        exact (if_pos h).symm
      · rw [if_neg h, if_neg h]
theorem kvPut_keys (kv : Kv) (k : List UInt8) (v : V) : ∀ z, z ∈ (kvPut kv k v).map (·.1) → z = k ∨ z ∈ kv.map (·.1) := by
  induction kv with
  | nil => intro z hz; simp only [kvPut, List.map_cons, List.map_nil, List.mem_singleton] at hz; exact .inl hz
  | cons x r ih =>
    intro z hz
    simp only [kvPut] at hz
    split at hz
    · exact .inr hz
    · simp only [List.map_cons, List.mem_cons] at hz ⊢
      rcases hz with hz | hz
      · exact .inr (.inl hz)
      · rcases ih z hz with h | h
        · exact .inl h
        · exact .inr (.inr h)
theorem kvPut_nodup (kv : Kv) (k : List UInt8) (v : V) (h : (kv.map (·.1)).Nodup) : ((kvPut kv k v).map (·.1)).Nodup := by
  induction kv with
  | nil => simp [kvPut]
  | cons x r ih =>
    simp only [List.map_cons, List.nodup_cons] at h
    simp only [kvPut]
    split
    · simp only [List.map_cons, List.nodup_cons]; exact h
    · rename_i hx
      simp only [List.map_cons, List.nodup_cons]
      refine ⟨fun hm => ?_, ih h.2⟩
      rcases kvPut_keys r k v _ hm with e | e
      · exact hx e
      · exact h.1 e
theorem kvPut_len (kv : Kv) (k : List UInt8) (v : V) : (kvPut kv k v).length ≤ kv.length + 1 := by
  induction kv with
  | nil => exact Nat.le_refl _
  | cons x r ih =>
    simp only [kvPut]
    split
    · simp
    · simp; exact ih
theorem kvGet_at {kv : Kv} (h : (kv.map (·.1)).Nodup) : ∀ {i : Nat} (hi : i < kv.length), kvGet kv kv[i].1 = some kv[i].2 := by
  induction kv with
  | nil => intro i hi; simp at hi
  | cons x r ih =>
    intro i hi
    simp only [List.map_cons, List.nodup_cons] at h
    cases i with
    | zero => simp [kvGet]
    | succ i =>
      simp only [List.getElem_cons_succ, kvGet]
      have hi' : i < r.length := by simpa using hi
      rw [if_neg fun e => h.1 (by rw [e]; exact List.mem_map.2 ⟨r[i], List.getElem_mem hi', rfl⟩)]
      exact ih h.2 hi'
theorem kvGet_mem {kv : Kv} {q : List UInt8} {v : V} : kvGet kv q = some v → ∃ i, ∃ h : i < kv.length, kv[i] = (q, v) := by
  induction kv with
  | nil => intro h; cases h
  | cons x r ih =>
    intro h
    simp only [kvGet] at h
    split at h
    · rename_i hx
      refine ⟨0, by simp, ?_⟩
      cases h
      rw [← hx]; rfl
    · obtain ⟨i, hi, he⟩ := ih h
      exact ⟨i + 1, by simpa using hi, by simpa using he⟩
/-- A map counts words. -/
structure CntI (kv : Kv) (d : List (List UInt8)) : Prop where
  nd : (kv.map (·.1)).Nodup
  len : kv.length ≤ d.length
  get : ∀ q, kvGet kv q = if d.count q = 0 then none else some (.c (.i .i64 (d.count q)))
theorem CntI.nil : CntI [] [] := ⟨List.nodup_nil, Nat.le_refl _, fun q => rfl⟩
theorem CntI.step {kv : Kv} {d : List (List UInt8)} (h : CntI kv d) (w : List UInt8) : CntI (kvPut kv w (.c (.i .i64 ((d.count w : Int) + 1)))) (d ++ [w]) := by
  refine ⟨kvPut_nodup _ _ _ h.nd, ?_, fun q => ?_⟩
  · have := kvPut_len kv w (.c (.i .i64 ((d.count w : Int) + 1)))
    have := h.len
    rw [List.length_append]; simp; omega
  · rw [kvGet_put, List.count_append, h.get]
    by_cases hq : q = w
    · subst hq
      rw [if_pos rfl, List.count_singleton_self, if_neg (by omega)]
      rfl
    · rw [if_neg hq, show List.count q [w] = 0 from List.count_eq_zero.2 (by simpa using hq), Nat.add_zero]
theorem CntI.at {kv : Kv} {d : List (List UInt8)} (h : CntI kv d) {i : Nat} (hi : i < kv.length) : ∃ w, w ∈ d ∧ kv[i] = (w, .c (.i .i64 (d.count w))) := by
  have h1 := kvGet_at h.nd hi
  rw [h.get] at h1
  split at h1
  · cases h1
  · rename_i hc
    refine ⟨kv[i].1, ?_, ?_⟩
    · exact List.count_pos_iff.1 (by omega)
    · cases h1' : kv[i] with
      | mk a b =>
        rw [h1'] at h1
        exact congrArg (Prod.mk a) (Option.some.inj h1).symm
theorem CntI.has {kv : Kv} {d : List (List UInt8)} (h : CntI kv d) {w : List UInt8} (hw : w ∈ d) : ∃ i, ∃ hi : i < kv.length, kv[i] = (w, .c (.i .i64 (d.count w))) := by
  have h1 := h.get w
  rw [if_neg (by have := List.count_pos_iff.2 hw; omega)] at h1
  exact kvGet_mem h1
/-- The places of a map that were not yet seen. -/
def unseen (n : Nat) (seen : Array Nat) : List Nat := (List.range n).filter fun i => decide (i ∉ seen.toList)
theorem unseen_nil (n : Nat) : (#[] : Array Nat).size + (unseen n #[]).length = n := by
  have : unseen n #[] = List.range n := List.filter_eq_self.2 (by simp)
  rw [this, List.length_range]; exact Nat.zero_add n
theorem unseen_push {n i : Nat} {seen : Array Nat} (hi : i < n) (hs : i ∉ seen.toList) : (unseen n (seen.push i)).length + 1 = (unseen n seen).length := by
  have h1 : unseen n (seen.push i) = (unseen n seen).erase i := by
    have hnd : (unseen n seen).Nodup := List.Nodup.sublist List.filter_sublist List.nodup_range
    rw [hnd.erase_eq_filter]
    unfold unseen
    rw [List.filter_filter]
    apply List.filter_congr
    intro x _
    simp only [Array.toList_push, List.mem_append, List.mem_singleton, not_or]
    by_cases h : x = i
    · subst h; simp
    · simp [h]
  have hm : i ∈ unseen n seen := List.mem_filter.2 ⟨List.mem_range.2 hi, by simpa using hs⟩
  have hp := List.length_pos_of_mem hm
  rw [h1, List.length_erase_of_mem hm]
  omega
/-- The rows of the words of a page. -/
def rowsW (sp : Int) (nm : List UInt8) (ws : List (List UInt8)) : List WR := ws.map fun w => ⟨w, sp, nm, (ws.count w : Int)⟩
def rowsT (sp : Int) (nm text : List UInt8) : List WR := ordW (rowsW sp nm (wordsS (nm ++ [10] ++ text)))
end Go.X
namespace Go.Proofs
open Go Go.X
set_option maxRecDepth 100000
set_option maxHeartbeats 4000000
theorem rows_ok (sp : Int) (nm text : List UInt8) (hn : nm.length + text.length ≤ 10000) :
    FnS Tryz.prog 26 [.agg [.i .i64 sp, .s nm], .c (.s text)] [] []
      (fun v L D => ∃ a' c', v = .c (.sl a' (rowsT sp nm text).length c') ∧ L = [.row 60 4 a' (rowsT sp nm text).length c' (wrC (rowsT sp nm text))] ∧ D = []) := by
  have hW : ∃ ws, ws = wordsS (nm ++ [10] ++ text) := ⟨_, rfl⟩
  obtain ⟨ws, hW⟩ := hW
  have hwl : ws.length ≤ 10003 := by
    have := wordsR_len (nm ++ [10] ++ text) []
    rw [hW]; unfold wordsS; simp only [List.length_append, List.length_cons, List.length_nil] at this; omega
  have cw := words_ok (nm ++ [10] ++ text) (by simp only [List.length_append, List.length_cons, List.length_nil]; omega)
  unfold rowsT
  rw [← hW] at cw ⊢
  generalize hR : rowsW sp nm ws = R0
  refine fn_of_J Tryz.tyOK 0 Tryz.func26 (by kernel_rfl) (c := Tryz.f26.body.getD .skip) (by kernel_rfl) Tryz.ntmps26 (rs := Tryz.f26.results.toList) rfl (by simp) (fun G => ?_)
  repeat' first | refine J_seq ?_ | refine J_region Tryz.tyOK ?_ | refine J_block ?_ | refine J_cond ?_ | refine J_ret ?_ | refine J_skip ?_ | refine J_exit ?_ | refine J_scope ?_ | refine CondP.y ?_ | refine CondP.n ?_ | refine CondP.mk (fun h => ?_) (fun h => ?_) | refine EqP.mk rfl ?_ | refine NewP.mk (fun ad => ?_) | refine ArP.x ?_ | refine SideP.a ?_ | refine CallP.mk [] [_, _] [] _ cw (List.Perm.refl _) (fun _ _ => trivial) (fun v L' D' hq => ?_); obtain ⟨a1, k1, rfl, rfl, rfl⟩ := hq | fail
  rename_i ad0
  refine J_loop (α := Nat × Kv) (fun x => [(2, .c (.p 0 ad0 0)), (5, .c (.m 1 ad)), (17, .c (.sl a1 ws.length k1)), (18, .c (.i .i64 ws.length)), (19, .c (.i .i64 x.1))]) (fun x => [.row 9 1 a1 ws.length k1 (ws.map C.s), .obj 1 ad (mapO x.2), .box 0 ad0 50 [.i .i64 sp, .s nm]]) (fun _ => []) 2
    (fun x => x.1 ≤ ws.length ∧ CntI x.2 (ws.take x.1)) (fun x => ws.length - x.1) (InFam.mk (0, []) ⟨Nat.zero_le _, CntI.nil⟩ SubE.a (Ents.refl _ _)) (fun x hx => ?_)
  obtain ⟨i, kv⟩ := x
  dsimp only at hx ⊢
  obtain ⟨hi, hc⟩ := hx
  by_cases hlt : i < ws.length
  · have hg : ((ws.map C.s).drop (i * 1 + 0)).take 1 = [.s ws[i]] := s_get hlt
    have hst := hc.step ws[i]
    have hG := hc.get ws[i]
    have hcl : (ws.take i).count ws[i] ≤ i := Nat.le_trans List.count_le_length (by rw [List.length_take]; omega)
    rw [← List.take_succ_eq_append_getElem hlt] at hst
    generalize hn : (ws.take i).count ws[i] = n at *
    generalize ws[i] = w at *
    by_cases hz : n = 0
    · subst hz
      rw [if_pos rfl] at hG
      repeat' first | refine J_seq ?_ | refine J_region Tryz.tyOK ?_ | refine J_block ?_ | refine J_cond ?_ | refine J_ret ?_ | refine J_skip ?_ | refine J_exit ?_ | refine J_scope ?_ | refine CondP.y ?_ | refine CondP.n ?_ | refine CondP.mk (fun h => ?_) (fun h => ?_) | refine EqP.mk rfl ?_ | refine NewP.mk (fun ad => ?_) | refine ArP.x ?_ | refine SideP.a ?_ | refine IdxE.mk 9 1 _ (.inl ⟨k1, List.Mem.head _⟩) (by omega) (by omega) ?_ | refine LoadE.mk 9 _ _ [.s w] (.inl ⟨k1, List.Mem.head _⟩) (by omega) (by omega) (by omega) hg ?_ | refine MapE.mk kv rfl rfl ?_ | refine LookP.mk (fun v hv => absurd (hG.symm.trans hv) (by simp)) (fun _ => ?_) | refine Round.mk (i + 1, kvPut kv w (.c (.i .i64 (((0 : Nat) : Int) + 1)))) (by dsimp only; omega) ⟨by dsimp only; omega, hst⟩ SubE.a (Ents.of rfl) | fail
    · rw [if_neg hz] at hG
      repeat' first | refine J_seq ?_ | refine J_region Tryz.tyOK ?_ | refine J_block ?_ | refine J_cond ?_ | refine J_ret ?_ | refine J_skip ?_ | refine J_exit ?_ | refine J_scope ?_ | refine CondP.y ?_ | refine CondP.n ?_ | refine CondP.mk (fun h => ?_) (fun h => ?_) | refine EqP.mk rfl ?_ | refine NewP.mk (fun ad => ?_) | refine ArP.x ?_ | refine SideP.a ?_ | refine IdxE.mk 9 1 _ (.inl ⟨k1, List.Mem.head _⟩) (by omega) (by omega) ?_ | refine LoadE.mk 9 _ _ [.s w] (.inl ⟨k1, List.Mem.head _⟩) (by omega) (by omega) (by omega) hg ?_ | refine MapE.mk kv rfl rfl ?_ | refine LookP.mk (fun v hv => ?_) (fun hv => absurd (hG.symm.trans hv) (by simp)); cases hG.symm.trans hv | refine Round.mk (i + 1, kvPut kv w (.c (.i .i64 ((n : Int) + 1)))) (by dsimp only; omega) ⟨by dsimp only; omega, hst⟩ SubE.a (Ents.of rfl) | fail
  · have hil : i = ws.length := by omega
    subst hil
    rw [List.take_length] at hc
    have hat := fun i hi => hc.at (i := i) hi
    have hhas := fun w hw => hc.has (w := w) hw
    have hkl := hc.len
    generalize hrw : (fun i : Nat => (⟨((kv[i]?).map (·.1)).getD [], sp, nm, (ws.count (((kv[i]?).map (·.1)).getD []) : Int)⟩ : WR)) = rw at *
    have hrow : ∀ i (hi : i < kv.length), ∃ w, kv[i] = (w, .c (.i .i64 (ws.count w))) ∧ (rw i).cells = [.s w, .i .i64 sp, .s nm, .i .i64 (ws.count w)] := fun i hi => by
      obtain ⟨w, _, he⟩ := hat i hi
      refine ⟨w, he, ?_⟩
      rw [← hrw]
      simp [WR.cells, hi, he]
    have hend : ∀ sn : Array Nat, (∀ i, i < kv.length → i ∈ sn.toList) → (∀ i ∈ sn.toList, i < kv.length) → ordW (sn.toList.map rw) = ordW R0 := fun sn h1 h2 => by
      refine ordW_mem fun z => ?_
      rw [← hR, List.mem_map, rowsW, List.mem_map]
      constructor
      · rintro ⟨i, hi, rfl⟩
        obtain ⟨w, hw, he⟩ := hat i (h2 i hi)
        refine ⟨w, hw, ?_⟩
        rw [← hrw]
        simp [h2 i hi, he]
      · rintro ⟨w, hw, rfl⟩
        obtain ⟨i, hi, he⟩ := hhas w hw
        refine ⟨i, h1 i hi, ?_⟩
        rw [← hrw]
        simp [hi, he]
    clear hat hhas hc cw hW hn hi hlt
    repeat' first | refine J_seq ?_ | refine J_region Tryz.tyOK ?_ | refine J_block ?_ | refine J_cond ?_ | refine J_ret ?_ | refine J_skip ?_ | refine J_exit ?_ | refine J_scope ?_ | refine CondP.y ?_ | refine CondP.n ?_ | refine CondP.mk (fun h => ?_) (fun h => ?_) | refine EqP.mk rfl ?_ | refine NewP.mk (fun ad => ?_) | refine ArP.x ?_ | refine SideP.a ?_ | fail
    rename_i am
    refine J_loop (α := Array Nat × Option Addr × Nat) (fun x => [(2, .c (.p 0 ad0 0)), (8, .c (.sl x.2.1 (x.1.toList.map rw).length x.2.2)), (29, .c (.p 2 ad 0))]) (fun x => [.row 60 4 x.2.1 (x.1.toList.map rw).length x.2.2 (wrC (x.1.toList.map rw)), .obj 2 ad (.mapIter (some am) kv.length x.1 kv.length), .obj 1 am (mapO kv), .box 0 ad0 50 [.i .i64 sp, .s nm]]) (fun _ => []) 3
      (fun x => x.1.size + (unseen kv.length x.1).length = kv.length ∧ ∀ i ∈ x.1.toList, i < kv.length) (fun x => (unseen kv.length x.1).length) (InFam.mk (#[], none, 0) ⟨unseen_nil _, by simp⟩ SubE.a (((Ents.perm (List.Perm.swap _ _ _)).trans Ents.drop).trans (Ents.nilRow (ety := 60) (esz := 4)))) (fun x hx => ?_)
    obtain ⟨sn, b, d⟩ := x
    dsimp only at hx ⊢
    obtain ⟨hsz, hin⟩ := hx
    have hol : (sn.toList.map rw).length ≤ 10003 := by rw [List.length_map, Array.length_toList]; omega
    have co := fun h b d => hend sn h hin ▸ ordered_ok b d (sn.toList.map rw) (by omega)
    have hmem : ∀ x y z : Chunk, Chunk.obj 1 am (gO (fun k => V.c (.s k)) kv) ∈ [x, y, .obj 1 am (mapO kv), z] := fun x y z => by
      rw [← mapO_g]; exact .tail _ (.tail _ (.head _))
    have hlen : ∀ i, ((sn.push i).toList.map rw).length = (sn.toList.map rw).length + 1 := fun i => by simp
    have hpush : ∀ i, i < kv.length → i ∉ sn.toList → (sn.push i).size + (unseen kv.length (sn.push i)).length = kv.length ∧ (∀ j ∈ (sn.push i).toList, j < kv.length) ∧ (unseen kv.length (sn.push i)).length < (unseen kv.length sn).length := fun i hi hni => by
      have := unseen_push hi hni
      refine ⟨by rw [Array.size_push]; omega, fun j hj => ?_, by omega⟩
      rw [Array.toList_push, List.mem_append, List.mem_singleton] at hj
      rcases hj with hj | hj
      · exact hin j hj
      · omega
    repeat' first | refine J_seq ?_ | refine J_region Tryz.tyOK ?_ | refine J_block ?_ | refine J_cond ?_ | refine J_ret ?_ | refine J_skip ?_ | refine J_exit ?_ | refine J_scope ?_ | refine CondP.y ?_ | refine CondP.n ?_ | refine CondP.mk (fun h => ?_) (fun h => ?_) | refine EqP.mk rfl ?_ | refine NewP.mk (fun ad => ?_) | refine ArP.x ?_ | refine SideP.a ?_ | refine NextE.mk 1 _ (fun k => V.c (.s k)) kv (hmem _ _ _) rfl rfl (fun i hi hni => ?_) (fun hall => ?_); try (obtain ⟨w, hw, hrc⟩ := hrow i hi; rw [hw]; have hln := hlen i) | refine EntE.mk 1 _ (fun k => V.c (.s k)) kv (hmem _ _ _) rfl sn i rfl hi ?_; rw [hw] | refine AppE.row [_] _ (wrC (sn.toList.map rw)) (rw i).cells 1 rfl (SrcE.sl 60 60 _ _ 1 1 _ rfl rfl (.inl ⟨1, by rw [hrc]; exact List.Mem.head _⟩) (by rw [hrc]; rfl)) (by dsimp only; omega) (fun a' c' => ?_) | refine Round.mk (sn.push i, a', c') (hpush i hi hni).2.2 ⟨(hpush i hi hni).1, (hpush i hi hni).2.1⟩ (SubE.cons rfl (VEq.refl _) (SubE.cons rfl (VEq.sl rfl (by first | exact hlen i | exact (hlen i).symm) rfl) (SubE.cons rfl (VEq.refl _) SubE.nil))) (Ents.drop.trans (Ents.of ?_)) | refine CallP.mk [_] [_, _, _] [] _ (co hall _ _) (List.Perm.refl _) (fun _ _ => trivial) (fun v L' D' hq => ?_); obtain ⟨rfl, rfl, rfl⟩ := hq | refine FinE.mk [_] [] ⟨_, _, rfl, rfl, rfl⟩ Ents.a | fail
    dsimp only
    rw [Array.toList_push, List.map_append, List.length_append, show wrC (sn.toList.map rw ++ [i].map rw) = wrC (sn.toList.map rw) ++ (rw i).cells by simp [wrC]]
    rfl
end Go.Proofs
