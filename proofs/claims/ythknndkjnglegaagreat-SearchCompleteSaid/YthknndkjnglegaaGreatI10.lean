/- This text walks through the functions that find the words of a text, in the package search and in the reference of chapter 35. -/
import Derived.Test.YthknndkjnglegaaGreatI08
import Derived.Test.YthknndkjnglegaaGreatI09
import Derived.Shelf.SortM.Plain
import Derived.Shelf.SortM.SortNone
import Derived.Test.YthknndkjnglegaaGreatProg
set_option linter.all false

namespace Go.X
open Go Go.Lib
def letB (b : UInt8) : Bool := (decide (97 ≤ (b.toNat : Int)) && decide ((b.toNat : Int) ≤ 122)) || (decide (65 ≤ (b.toNat : Int)) && decide ((b.toNat : Int) ≤ 90)) || (decide (48 ≤ (b.toNat : Int)) && decide ((b.toNat : Int) ≤ 57))
def flushW (w : List UInt8) : List (List UInt8) := if 2 ≤ w.length ∧ w.length ≤ 40 then [w] else []
def wordsR : List UInt8 → List UInt8 → List (List UInt8)
  | cur, [] => flushW cur
  | cur, b :: r => if letB b = true then wordsR (cur ++ [lowB b]) r else flushW cur ++ wordsR [] r
/-- The words of a text. -/
def wordsS (s : List UInt8) : List (List UInt8) := wordsR [] s
theorem flushW_nil : flushW [] = [] := rfl
theorem flushW_len (w : List UInt8) : (flushW w).length ≤ 1 := by unfold flushW; split <;> simp
theorem wordsR_len : ∀ (r cur : List UInt8), (wordsR cur r).length ≤ r.length + 1
  | [], cur => by simp only [wordsR]; have := flushW_len cur; simp; omega
  | b :: r, cur => by
    simp only [wordsR]
    split
    · have := wordsR_len r (cur ++ [lowB b]); simp; omega
    · have := wordsR_len r []; have := flushW_len cur; simp; omega
theorem wordsR_at {s cur : List UInt8} {i : Nat} (h : i < s.length) : wordsR cur (s.drop i) = if letB s[i] = true then wordsR (cur ++ [lowB s[i]]) (s.drop (i + 1)) else flushW cur ++ wordsR [] (s.drop (i + 1)) := by
  rw [List.drop_eq_getElem_cons h, wordsR]
theorem wordsR_end {s cur : List UInt8} {i : Nat} (h : i = s.length) : wordsR cur (s.drop i) = flushW cur ++ wordsR [] (s.drop (i + 1)) := by
  rw [List.drop_eq_nil_of_le (by omega), List.drop_eq_nil_of_le (by omega)]
  simp [wordsR, flushW_nil]
def mixedL (l : List UInt8) (i : Nat) : List UInt8 := (l.take i).map lowB ++ l.drop i
theorem mixedL_get {l : List UInt8} {i : Nat} (h : i < l.length) : ((mixedL l i).map byteC).drop i = byteC l[i] :: (l.drop (i + 1)).map byteC := by
  rw [← List.map_drop, mixedL, List.drop_left' (by simp; omega), List.drop_eq_getElem_cons h, List.map_cons]
theorem mixedL_len {l : List UInt8} {i : Nat} (h : i ≤ l.length) : (mixedL l i).length = l.length := by simp [mixedL]; omega
theorem mixedL_succ {l : List UInt8} {i : Nat} (h : i < l.length) : (mixedL l i).set i (lowB l[i]) = mixedL l (i + 1) := by
  unfold mixedL
  have hlen : ((l.take i).map lowB).length = i := by simp; omega
  rw [List.set_append_right _ _ (by omega), List.take_succ_eq_append_getElem h, hlen, Nat.sub_self, List.drop_eq_getElem_cons h, List.set_cons_zero, List.map_append]
  simp
theorem mixedL_same {l : List UInt8} {i : Nat} (h : i < l.length) (h' : lowB l[i] = l[i]) : mixedL l i = mixedL l (i + 1) := by
  rw [← mixedL_succ h, h']
  have : (mixedL l i)[i]? = some l[i] := by
    unfold mixedL
    rw [List.getElem?_append_right (by simp; omega)]
    simp [Nat.min_eq_left (Nat.le_of_lt h), h]
  obtain ⟨hlt, he⟩ := List.getElem?_eq_some_iff.1 this
  rw [← he, List.set_getElem_self]
end Go.X
namespace Go.Proofs
open Go Go.X
set_option maxRecDepth 100000
set_option maxHeartbeats 4000000
theorem letter_ok (b : UInt8) : FnS Tryz.prog 69 [.c (byteC b)] [] [] (Is (.c (.b (letB b)))) := by
  have hb := b.toNat_lt
  refine fn_of_J Tryz.tyOK 0 Tryz.func69 (by kernel_rfl) (c := Tryz.f69.body.getD .skip) (by kernel_rfl) Tryz.ntmps69 (rs := Tryz.f69.results.toList) rfl (by simp) (fun G => ?_)
  repeat' first | refine J_seq ?_ | refine J_region Tryz.tyOK ?_ | refine J_block ?_ | refine J_cond ?_ | refine J_ret ?_ | refine J_skip ?_ | refine J_exit ?_ | refine J_scope ?_ | refine CondP.y ?_ | refine CondP.n ?_ | refine CondP.mk (fun h => ?_) (fun h => ?_) | refine EqP.mk rfl ?_ | refine NewP.mk (fun ad => ?_) | refine ArP.x ?_ | refine SideP.a ?_ | refine FinE.bool ?_ | fail
  all_goals (unfold letB; (try simp only [Int.toNat_natCast, Int.toNat_zero] at *); simp only [*, decide_true, decide_false, Bool.true_and, Bool.false_and, Bool.and_true, Bool.and_false, Bool.not_true, Bool.not_false, Bool.true_or, Bool.false_or, Bool.or_true, Bool.or_false, not_true, not_false_eq_true, ne_eq, if_true, if_false, Bool.false_eq_true]; first | done | rfl | (simp only [Bool.or_eq_false_iff, Bool.and_eq_false_iff, decide_eq_false_iff_not]; omega))
theorem setC_one' {l : List C} {i : Nat} {x : C} (h : i < l.length) : setC i [x] l = l.set i x := by
  rw [List.set_eq_take_append_cons_drop, if_pos h]; simp [setC]
theorem lowerS_ok (l : List UInt8) (hl : l.length ≤ 1000000) : FnS Tryz.prog 70 [.c (.s l)] [] [] (Is (.c (.s (l.map lowB)))) := by
  refine fn_of_J Tryz.tyOK 0 Tryz.func70 (by kernel_rfl) (c := Tryz.f70.body.getD .skip) (by kernel_rfl) Tryz.ntmps70 (rs := Tryz.f70.results.toList) rfl (by simp) (fun G => ?_)
  repeat' first | refine J_seq ?_ | refine J_region Tryz.tyOK ?_ | refine J_block ?_ | refine J_cond ?_ | refine J_ret ?_ | refine J_skip ?_ | refine J_exit ?_ | refine J_scope ?_ | refine CondP.y ?_ | refine CondP.n ?_ | refine CondP.mk (fun h => ?_) (fun h => ?_) | refine EqP.mk rfl ?_ | refine NewP.mk (fun ad => ?_) | refine ArP.x ?_ | refine SideP.a ?_ | refine NewB.mk (fun ad c => ?_) | fail
  refine J_loop (α := Nat) (fun i => [(10, .c (.i .i64 i)), (9, lenV l.length), (8, .c (.sl (some ⟨ad, 0, none⟩) l.length c)), (3, .c (.sl (some ⟨ad, 0, none⟩) l.length c))])
    (fun i => [.row 5 1 (some ⟨ad, 0, none⟩) l.length c ((mixedL l i).map byteC)]) (fun _ => []) 0 (fun i => i ≤ l.length) (fun i => l.length - i) (InFam.mk 0 (by omega) ?_ (Ents.of (by simp [mixedL]))) (fun i hi => ?_)
  · repeat' first | exact SubE.nil | refine SubE.cons rfl ?_ ?_ | exact VEq.refl _ | refine VEq.int (by omega) | refine VEq.sl rfl (by first | rfl | omega | (rw [List.length_append]; rfl) | (simp; omega)) rfl | fail
  have hrd : Reads [.row 5 1 (some ⟨ad, 0, none⟩) l.length c ((mixedL l i).map byteC)] [] 5 1 (some ⟨ad, 0, none⟩) l.length ((mixedL l i).map byteC) := .inl ⟨c, by simp⟩
  by_cases hlt : i < l.length
  · have hb := (l[i]).toNat_lt
    have hg := mixedL_get hlt
    repeat' first | refine J_seq ?_ | refine J_region Tryz.tyOK ?_ | refine J_block ?_ | refine J_cond ?_ | refine J_ret ?_ | refine J_skip ?_ | refine J_exit ?_ | refine J_scope ?_ | refine CondP.y ?_ | refine CondP.n ?_ | refine CondP.mk (fun h => ?_) (fun h => ?_) | refine EqP.mk rfl ?_ | refine NewP.mk (fun ad => ?_) | refine ArP.x ?_ | refine SideP.a ?_ | refine IdxE.mk 5 1 _ hrd (by omega) (by omega) ?_ | refine LoadE.mk 5 _ _ [byteC l[i]] hrd (by omega) (by omega) (by omega) (by simp [hg]) ?_ | (exfalso; omega) | fail
    · refine StoreE.mk [] [] 5 _ c _ ((mixedL l (i + 1)).map byteC) rfl (by omega) (by omega) (by simp) ?_ ?_
      · rw [← mixedL_succ hlt, List.map_set, ← setC_one' (by simp [mixedL_len hi, hlt]), byteC, lowB_yes (by assumption) (by assumption)]
        simp
        rw [show (l[i].toNat : Int) + 97 - 65 = l[i].toNat + 32 by omega]
      · repeat' first | refine J_seq ?_ | refine J_region Tryz.tyOK ?_ | refine J_block ?_ | refine J_cond ?_ | refine J_ret ?_ | refine J_skip ?_ | refine J_exit ?_ | refine J_scope ?_ | refine CondP.y ?_ | refine CondP.n ?_ | refine CondP.mk (fun h => ?_) (fun h => ?_) | refine EqP.mk rfl ?_ | refine NewP.mk (fun ad => ?_) | refine ArP.x ?_ | refine SideP.a ?_ | fail
        refine Round.mk (i + 1) (by omega) (by omega) ?_ (Ents.refl _ _)
        repeat' first | exact SubE.nil | refine SubE.cons rfl ?_ ?_ | exact VEq.refl _ | refine VEq.int (by omega) | refine VEq.sl rfl (by first | rfl | omega | (rw [List.length_append]; rfl) | (simp; omega)) rfl | fail
    all_goals
      refine Round.mk (i + 1) (by omega) (by omega) ?_ (Ents.of (by rw [mixedL_same hlt (lowB_no (by omega))]))
      repeat' first | exact SubE.nil | refine SubE.cons rfl ?_ ?_ | exact VEq.refl _ | refine VEq.int (by omega) | refine VEq.sl rfl (by first | rfl | omega | (rw [List.length_append]; rfl) | (simp; omega)) rfl | fail
  · have hil : i = l.length := by omega
    subst hil
    repeat' first | refine J_seq ?_ | refine J_region Tryz.tyOK ?_ | refine J_block ?_ | refine J_cond ?_ | refine J_ret ?_ | refine J_skip ?_ | refine J_exit ?_ | refine J_scope ?_ | refine CondP.y ?_ | refine CondP.n ?_ | refine CondP.mk (fun h => ?_) (fun h => ?_) | refine EqP.mk rfl ?_ | refine NewP.mk (fun ad => ?_) | refine ArP.x ?_ | refine SideP.a ?_ | (exfalso; omega) | fail
    refine BytesE.mk 5 (l.map lowB) ?_ ?_
    · have : mixedL l l.length = l.map lowB := by simp [mixedL]
      rw [← this]; exact hrd
    · repeat' first | refine J_seq ?_ | refine J_region Tryz.tyOK ?_ | refine J_block ?_ | refine J_cond ?_ | refine J_ret ?_ | refine J_skip ?_ | refine J_exit ?_ | refine J_scope ?_ | refine CondP.y ?_ | refine CondP.n ?_ | refine CondP.mk (fun h => ?_) (fun h => ?_) | refine EqP.mk rfl ?_ | refine NewP.mk (fun ad => ?_) | refine ArP.x ?_ | refine SideP.a ?_ | exact FinE.is rfl | fail
/-- A list of strings that comes back. -/
def StrP (l : List (List UInt8)) : V → List Chunk → List Fact → Prop := fun v L D => ∃ a c, v = .c (.sl a l.length c) ∧ L = [.row 9 1 a l.length c (l.map C.s)] ∧ D = []
theorem words_ok (s : List UInt8) (hs : s.length ≤ 1000000) : FnS Tryz.prog 36 [.c (.s s)] [] [] (StrP (wordsS s)) := by
  unfold StrP wordsS
  generalize hW : wordsR [] s = W
  have hWl : W.length ≤ 1000001 := by have := wordsR_len s []; rw [hW] at this; omega
  refine fn_of_J Tryz.tyOK 0 Tryz.func36 (by kernel_rfl) (c := Tryz.f36.body.getD .skip) (by kernel_rfl) Tryz.ntmps36 (rs := Tryz.f36.results.toList) rfl (by simp) (fun G => ?_)
  repeat' first | refine J_seq ?_ | refine J_region Tryz.tyOK ?_ | refine J_block ?_ | refine J_cond ?_ | refine J_ret ?_ | refine J_skip ?_ | refine J_exit ?_ | refine J_scope ?_ | refine CondP.y ?_ | refine CondP.n ?_ | refine CondP.mk (fun h => ?_) (fun h => ?_) | refine EqP.mk rfl ?_ | refine NewP.mk (fun ad => ?_) | refine ArP.x ?_ | refine SideP.a ?_ | fail
  refine J_loop (α := Nat × List (List UInt8) × Option Addr × Nat) (fun x => [(0, .c (.s s)), (3, .c (.sl x.2.2.1 x.2.1.length x.2.2.2)), (4, .c (.i .i64 x.1))]) (fun x => [.row 9 1 x.2.2.1 x.2.1.length x.2.2.2 (x.2.1.map C.s)]) (fun _ => []) 0
    (fun x => x.1 ≤ s.length + 1 ∧ W = x.2.1 ++ wordsR [] (s.drop x.1)) (fun x => s.length + 1 - x.1) (InFam.mk (0, [], none, 0) ⟨Nat.zero_le _, by rw [← hW]; rfl⟩ SubE.a Ents.nilRow) (fun x hx => ?_)
  obtain ⟨at_, out, a, c⟩ := x
  dsimp only at hx ⊢
  obtain ⟨hat, he⟩ := hx
  have hol : out.length ≤ 1000001 := by rw [he] at hWl; simp at hWl; omega
  by_cases hlt : at_ < s.length
  · repeat' first | refine J_seq ?_ | refine J_region Tryz.tyOK ?_ | refine J_block ?_ | refine J_cond ?_ | refine J_ret ?_ | refine J_skip ?_ | refine J_exit ?_ | refine J_scope ?_ | refine CondP.y ?_ | refine CondP.n ?_ | refine CondP.mk (fun h => ?_) (fun h => ?_) | refine EqP.mk rfl ?_ | refine NewP.mk (fun ad => ?_) | refine ArP.x ?_ | refine SideP.a ?_ | fail
    refine J_loop (α := Nat) (fun e => [(0, .c (.s s)), (3, .c (.sl a out.length c)), (4, .c (.i .i64 at_)), (5, .c (.i .i64 e))]) (fun _ => [.row 9 1 a out.length c (out.map C.s)]) (fun _ => []) 0
      (fun e => at_ ≤ e ∧ e ≤ s.length ∧ W = out ++ wordsR (((s.drop at_).take (e - at_)).map lowB) (s.drop e)) (fun e => s.length - e) (InFam.mk at_ ⟨Nat.le_refl _, by omega, by rw [Nat.sub_self]; exact he⟩ SubE.a (Ents.refl _ _)) (fun e hx => ?_)
    obtain ⟨hae, hes, he2⟩ := hx
    have hlw : FnS Tryz.prog 70 [.c (.s ((s.take (e : Int).toNat).drop (at_ : Int).toNat))] [] [] (Is (.c (.s (((s.drop at_).take (e - at_)).map lowB)))) := by
      have := lowerS_ok ((s.take (e : Int).toNat).drop (at_ : Int).toNat) (by simp; omega)
      rwa [show ((s.take (e : Int).toNat).drop (at_ : Int).toNat).map lowB = ((s.drop at_).take (e - at_)).map lowB from by simp only [Int.toNat_natCast]; rw [List.drop_take]] at this
    have hlen : (((s.drop at_).take (e - at_)).map lowB).length = e - at_ := by simp; omega
    have hend : ¬ (e < s.length ∧ letB (s.getD (e : Int).toNat 0) = true) → wordsR (((s.drop at_).take (e - at_)).map lowB) (s.drop e) = flushW (((s.drop at_).take (e - at_)).map lowB) ++ wordsR [] (s.drop (e + 1)) := fun hn => by
      by_cases h1 : e < s.length
      · rw [wordsR_at h1, if_neg (fun h2 => hn ⟨h1, by simpa [h1] using h2⟩)]
      · exact wordsR_end (by omega)
    have hin : e < s.length → letB (s.getD (e : Int).toNat 0) = true → wordsR (((s.drop at_).take (e - at_)).map lowB) (s.drop e) = wordsR (((s.drop at_).take (e + 1 - at_)).map lowB) (s.drop (e + 1)) := fun h1 h2 => by
      rw [wordsR_at h1, if_pos (by simpa [h1] using h2)]
      congr 1
      rw [show e + 1 - at_ = (e - at_) + 1 by omega, List.take_succ_eq_append_getElem (by simp; omega), List.map_append]
      simp [show at_ + (e - at_) = e by omega]
    generalize hcur : ((s.drop at_).take (e - at_)).map lowB = cur at *
    have hf1 : (2 ≤ (e : Int) - at_ ∧ (e : Int) - at_ ≤ 40) → flushW cur = [cur] := fun h => if_pos (by omega)
    have hf2 : ¬ (2 ≤ (e : Int) - at_ ∧ (e : Int) - at_ ≤ 40) → flushW cur = [] := fun h => if_neg (by omega)
    repeat' first | refine J_seq ?_ | refine J_region Tryz.tyOK ?_ | refine J_block ?_ | refine J_cond ?_ | refine J_ret ?_ | refine J_skip ?_ | refine J_exit ?_ | refine J_scope ?_ | refine CondP.y ?_ | refine CondP.n ?_ | refine CondP.mk (fun h => ?_) (fun h => ?_) | refine EqP.mk rfl ?_ | refine NewP.mk (fun ad => ?_) | refine ArP.x ?_ | refine SideP.a ?_ | refine CallP.isB (letter_ok (s.getD (e : Int).toNat 0)) (fun hb => ?_) (fun hb => ?_) | refine Round.mk (e + 1) (by omega) ⟨by omega, by omega, by rw [he2, hin (by omega) hb]⟩ SubE.a (Ents.refl _ _) | refine CallP.is hlw ?_ | refine AppE.row [_] [] (out.map C.s) [C.s cur] 1 rfl (SrcE.sl 9 9 _ _ 1 1 _ rfl rfl (.inl ⟨1, List.Mem.head _⟩) rfl) (by dsimp only; omega) (fun a' c' => ?_) | refine Round.mk (e + 1, out ++ [cur], a', c') (by dsimp only; omega) ⟨by dsimp only; omega, ?_⟩ SubE.a (Ents.drop.trans (Ents.of ?_)) | refine Round.mk (e + 1, out, a, c) (by dsimp only; omega) ⟨by dsimp only; omega, ?_⟩ SubE.a (Ents.refl _ _) | fail
    all_goals first
      | (dsimp only; rw [he2, hend (fun h9 => by first | omega | (rw [h9.2] at hb; cases hb)), hf1 (by omega), List.append_assoc])
      | (dsimp only; rw [he2, hend (fun h9 => by first | omega | (rw [h9.2] at hb; cases hb)), hf2 (by omega)]; rfl)
      | (dsimp only; rw [List.length_append, List.map_append]; rfl)
  · have hnil : wordsR [] (s.drop at_) = [] := by rw [List.drop_eq_nil_of_le (by omega)]; rfl
    rw [hnil, List.append_nil] at he
    subst he
    repeat' first | refine J_seq ?_ | refine J_region Tryz.tyOK ?_ | refine J_block ?_ | refine J_cond ?_ | refine J_ret ?_ | refine J_skip ?_ | refine J_exit ?_ | refine J_scope ?_ | refine CondP.y ?_ | refine CondP.n ?_ | refine CondP.mk (fun h => ?_) (fun h => ?_) | refine EqP.mk rfl ?_ | refine NewP.mk (fun ad => ?_) | refine ArP.x ?_ | refine SideP.a ?_ | refine FinE.mk [_] [] ⟨a, c, rfl, rfl, rfl⟩ (Ents.refl _ _) | fail
theorem refWords35_ok (s : List UInt8) (hs : s.length ≤ 1000000) : FnS Tryz.prog 54 [.c (.s s)] [] [] (StrP (wordsS s)) := by
  unfold StrP wordsS
  generalize hW : wordsR [] s = W
  have hWl : W.length ≤ 1000001 := by have := wordsR_len s []; rw [hW] at this; omega
  refine fn_of_J Tryz.tyOK 0 Tryz.func54 (by kernel_rfl) (c := Tryz.f54.body.getD .skip) (by kernel_rfl) Tryz.ntmps54 (rs := Tryz.f54.results.toList) rfl (by simp) (fun G => ?_)
  repeat' first | refine J_seq ?_ | refine J_region Tryz.tyOK ?_ | refine J_block ?_ | refine J_cond ?_ | refine J_ret ?_ | refine J_skip ?_ | refine J_exit ?_ | refine J_scope ?_ | refine CondP.y ?_ | refine CondP.n ?_ | refine CondP.mk (fun h => ?_) (fun h => ?_) | refine EqP.mk rfl ?_ | refine NewP.mk (fun ad => ?_) | refine ArP.x ?_ | refine SideP.a ?_ | fail
  refine J_loop (α := Nat × List (List UInt8) × (Option Addr × Nat) × List UInt8 × Option Addr × Nat) (fun x => [(0, .c (.s s)), (3, .c (.sl x.2.2.1.1 x.2.1.length x.2.2.1.2)), (4, .c (.sl x.2.2.2.2.1 x.2.2.2.1.length x.2.2.2.2.2)), (5, .c (.i .i64 x.1))])
    (fun x => [.row 5 1 x.2.2.2.2.1 x.2.2.2.1.length x.2.2.2.2.2 (x.2.2.2.1.map byteC), .row 9 1 x.2.2.1.1 x.2.1.length x.2.2.1.2 (x.2.1.map C.s)]) (fun _ => []) 0
    (fun x => x.1 ≤ s.length + 1 ∧ (x.1 = s.length + 1 → x.2.2.2.1 = []) ∧ x.2.2.2.1.length ≤ x.1 ∧ W = x.2.1 ++ wordsR x.2.2.2.1 (s.drop x.1)) (fun x => s.length + 1 - x.1) (InFam.mk (0, [], (none, 0), [], none, 0) ⟨Nat.zero_le _, fun _ => rfl, Nat.le_refl _, by rw [← hW]; rfl⟩ SubE.a (Ents.nilRow.trans Ents.nilRow)) (fun x hx => ?_)
  obtain ⟨i, out, ⟨a, c⟩, cur, a2, c2⟩ := x
  dsimp only at hx ⊢
  obtain ⟨hi, hlast, hcl, he⟩ := hx
  have hol : out.length ≤ 1000001 := by rw [he] at hWl; simp at hWl; omega
  by_cases hlt : i < s.length
  · have hat := wordsR_at (cur := cur) hlt
    have hgd : s.getD (i : Int).toNat 0 = s[i] := by simp [hlt]
    have hy := lowB_yes (b := s[i])
    have hn := lowB_no (b := s[i])
    have hbl := (s[i]).toNat_lt
    generalize s[i] = b at *
    have hlet : letB b = true ∨ letB b = false := by cases letB b <;> simp
    have hl1 : (65 ≤ (b.toNat : Int) ∧ (b.toNat : Int) ≤ 90) ∨ (97 ≤ (b.toNat : Int) ∧ (b.toNat : Int) ≤ 122) ∨ (48 ≤ (b.toNat : Int) ∧ (b.toNat : Int) ≤ 57) → letB b = true := fun h => by
      unfold letB
      simp only [Bool.or_eq_true, Bool.and_eq_true, decide_eq_true_eq]
      omega
    have hl2 : ¬ ((65 ≤ (b.toNat : Int) ∧ (b.toNat : Int) ≤ 90) ∨ (97 ≤ (b.toNat : Int) ∧ (b.toNat : Int) ≤ 122) ∨ (48 ≤ (b.toNat : Int) ∧ (b.toNat : Int) ≤ 57)) → ¬ letB b = true := fun h => by
      unfold letB
      simp only [Bool.or_eq_true, Bool.and_eq_true, decide_eq_true_eq]
      omega
    repeat' first | rw [hgd] | refine J_seq ?_ | refine J_region Tryz.tyOK ?_ | refine J_block ?_ | refine J_cond ?_ | refine J_ret ?_ | refine J_skip ?_ | refine J_exit ?_ | refine J_scope ?_ | refine CondP.y ?_ | refine CondP.n ?_ | refine CondP.mk (fun h => ?_) (fun h => ?_) | refine EqP.mk rfl ?_ | refine NewP.mk (fun ad => ?_) | refine ArP.x ?_ | refine SideP.a ?_ | refine AppE.row [_] _ (cur.map byteC) _ 1 rfl (SrcE.sl 5 5 _ _ 1 1 _ rfl rfl (.inl ⟨1, List.Mem.head _⟩) rfl) (by dsimp only; omega) (fun a' c' => ?_) | refine Round.mk (i + 1, out, (a, c), cur ++ [lowB b], a', c') (by dsimp only; omega) ⟨by dsimp only; omega, fun h => by dsimp only at h; omega, by simp; omega, (by dsimp only; rw [he, hat, if_pos (hl1 (by omega))])⟩ SubE.a (Ents.drop.trans (Ents.of ?_)) | refine BytesE.mk 5 cur (.inl ⟨c2, List.Mem.head _⟩) ?_ | refine AppE.row [_, _] [] (out.map C.s) [C.s cur] 1 rfl (SrcE.sl 9 9 _ _ 1 1 _ rfl rfl (.inl ⟨1, List.Mem.head _⟩) rfl) (by dsimp only; omega) (fun a' c' => ?_) | refine Round.mk (i + 1, out ++ [cur], (a', c'), [], none, 0) (by dsimp only; omega) ⟨by dsimp only; omega, fun _ => rfl, Nat.zero_le _, (by dsimp only; rw [he, hat, if_neg (hl2 (by omega)), show flushW cur = [cur] from if_pos (by omega), List.append_assoc])⟩ SubE.a (Ents.drop.trans (Ents.drop.trans ((Ents.nilRow (ety := 5) (esz := 1)).trans (Ents.of ?_)))) | refine Round.mk (i + 1, out, (a, c), [], none, 0) (by dsimp only; omega) ⟨by dsimp only; omega, fun _ => rfl, Nat.zero_le _, (by dsimp only; rw [he, hat, if_neg (hl2 (by omega)), show flushW cur = [] from if_neg (by omega)]; rfl)⟩ SubE.a (Ents.drop.trans Ents.nilRow) | fail
    all_goals first
      | (dsimp only; rw [List.length_append, List.map_append, List.map_cons, byteC, hy (by omega) (by omega)]; rfl)
      | (dsimp only; rw [List.length_append, List.map_append, List.map_cons, hn (by omega)]; rfl)
      | (dsimp only; rw [List.length_append, List.map_append]; rfl)
  · by_cases hil : i = s.length
    · have hat := wordsR_end (cur := cur) hil
      repeat' first | refine J_seq ?_ | refine J_region Tryz.tyOK ?_ | refine J_block ?_ | refine J_cond ?_ | refine J_ret ?_ | refine J_skip ?_ | refine J_exit ?_ | refine J_scope ?_ | refine CondP.y ?_ | refine CondP.n ?_ | refine CondP.mk (fun h => ?_) (fun h => ?_) | refine EqP.mk rfl ?_ | refine NewP.mk (fun ad => ?_) | refine ArP.x ?_ | refine SideP.a ?_ | refine BytesE.mk 5 cur (.inl ⟨c2, List.Mem.head _⟩) ?_ | refine AppE.row [_, _] [] (out.map C.s) [C.s cur] 1 rfl (SrcE.sl 9 9 _ _ 1 1 _ rfl rfl (.inl ⟨1, List.Mem.head _⟩) rfl) (by dsimp only; omega) (fun a' c' => ?_) | refine Round.mk (i + 1, out ++ [cur], (a', c'), [], none, 0) (by dsimp only; omega) ⟨by dsimp only; omega, fun _ => rfl, Nat.zero_le _, (by dsimp only; rw [he, hat, show flushW cur = [cur] from if_pos (by omega), List.append_assoc])⟩ SubE.a (Ents.drop.trans (Ents.drop.trans ((Ents.nilRow (ety := 5) (esz := 1)).trans (Ents.of ?_)))) | refine Round.mk (i + 1, out, (a, c), [], none, 0) (by dsimp only; omega) ⟨by dsimp only; omega, fun _ => rfl, Nat.zero_le _, (by dsimp only; rw [he, hat, show flushW cur = [] from if_neg (by omega)]; rfl)⟩ SubE.a (Ents.drop.trans Ents.nilRow) | fail
      all_goals first
            | (dsimp only; rw [List.length_append, List.map_append]; rfl)
    · have hc0 := hlast (by omega)
      subst hc0
      have hnil : wordsR [] (s.drop i) = [] := by rw [List.drop_eq_nil_of_le (by omega)]; rfl
      rw [hnil, List.append_nil] at he
      subst he
      repeat' first | refine J_seq ?_ | refine J_region Tryz.tyOK ?_ | refine J_block ?_ | refine J_cond ?_ | refine J_ret ?_ | refine J_skip ?_ | refine J_exit ?_ | refine J_scope ?_ | refine CondP.y ?_ | refine CondP.n ?_ | refine CondP.mk (fun h => ?_) (fun h => ?_) | refine EqP.mk rfl ?_ | refine NewP.mk (fun ad => ?_) | refine ArP.x ?_ | refine SideP.a ?_ | refine FinE.mk [_] [] ⟨a, c, rfl, rfl, rfl⟩ Ents.drop | fail
end Go.Proofs

/- This text holds the layings of the kit's contract of slices.Sort at this program (its plain mode). -/
namespace Go.Proofs
open Go.Shelf
def Tryz.sortStr_ren : Go.Shelf.Ren := ⟨fun | 6 => 47 | 8 => 88 | 9 => 87 | 19 => 128 | 20 => 129 | 21 => 119 | 22 => 120 | 23 => 121 | 24 => 122 | 25 => 123 | 26 => 124 | 27 => 125 | 28 => 126 | 29 => 127 | 36 => 163 | 31 => 164 | 32 => 165 | 37 => 166 | 38 => 167 | 39 => 168 | 41 => 187 | n => n, fun | 27 => 29 | 29 => 9 | 3 => 3 | 32 => 122 | 26 => 29 | 0 => 0 | 44 => 184 | 46 => 119 | 4 => 4 | 36 => 178 | 35 => 177 | 41 => 106 | 5 => 5 | 9 => 9 | 53 => 218 | 57 => 222 | 63 => 234 | 64 => 173 | n => n, fun | n => n⟩
theorem Tryz.sortStr : Go.Proofs.SlLaysM.n6 Tryz.prog Tryz.sortStr_ren := {
  mixed := by kernel_rfl
  f6 := ⟨Tryz.f47.name, by decide, Tryz.func47.trans (congrArg some (by kernel_rfl))⟩
  f8 := Tryz.func88.trans (congrArg some (by kernel_rfl))
  f9 := ⟨Tryz.f87.name, by decide, Tryz.func87.trans (congrArg some (by kernel_rfl))⟩
  f19 := Tryz.func128.trans (congrArg some (by kernel_rfl))
  f20 := Tryz.func129.trans (congrArg some (by kernel_rfl))
  f21 := ⟨Tryz.f119.name, by decide, Tryz.func119.trans (congrArg some (by kernel_rfl))⟩
  f22 := ⟨Tryz.f120.name, by decide, Tryz.func120.trans (congrArg some (by kernel_rfl))⟩
  f23 := ⟨Tryz.f121.name, by decide, Tryz.func121.trans (congrArg some (by kernel_rfl))⟩
  f24 := ⟨Tryz.f122.name, by decide, Tryz.func122.trans (congrArg some (by kernel_rfl))⟩
  f25 := ⟨Tryz.f123.name, by decide, Tryz.func123.trans (congrArg some (by kernel_rfl))⟩
  f26 := ⟨Tryz.f124.name, by decide, Tryz.func124.trans (congrArg some (by kernel_rfl))⟩
  f27 := ⟨Tryz.f125.name, by decide, Tryz.func125.trans (congrArg some (by kernel_rfl))⟩
  f28 := ⟨Tryz.f126.name, by decide, Tryz.func126.trans (congrArg some (by kernel_rfl))⟩
  f29 := ⟨Tryz.f127.name, by decide, Tryz.func127.trans (congrArg some (by kernel_rfl))⟩
  f31 := Tryz.func164.trans (congrArg some (by kernel_rfl))
  f32 := Tryz.func165.trans (congrArg some (by kernel_rfl))
  f36 := ⟨Tryz.f163.name, by decide, Tryz.func163.trans (congrArg some (by kernel_rfl))⟩
  f37 := ⟨Tryz.f166.name, by decide, Tryz.func166.trans (congrArg some (by kernel_rfl))⟩
  f38 := ⟨Tryz.f167.name, by decide, Tryz.func167.trans (congrArg some (by kernel_rfl))⟩
  f39 := ⟨Tryz.f168.name, by decide, Tryz.func168.trans (congrArg some (by kernel_rfl))⟩
  f41 := ⟨Tryz.f187.name, by decide, Tryz.func187.trans (congrArg some (by kernel_rfl))⟩
  t0 := Tryz.underlying0
  a0 := Tryz.isAgg0
  z0 := Tryz.sizeOf0
  v0 := Tryz.zeroValue0
  t3 := Tryz.underlying3
  a3 := Tryz.isAgg3
  z3 := Tryz.sizeOf3
  v3 := Tryz.zeroValue3
  t4 := Tryz.underlying4
  a4 := Tryz.isAgg4
  z4 := Tryz.sizeOf4
  v4 := Tryz.zeroValue4
  t5 := Tryz.underlying5
  a5 := Tryz.isAgg5
  z5 := Tryz.sizeOf5
  v5 := Tryz.zeroValue5
  t9 := Tryz.underlying9
  a9 := Tryz.isAgg9
  z9 := Tryz.sizeOf9
  v9 := Tryz.zeroValue9
  t26 := Tryz.underlying29
  a26 := Tryz.isAgg29
  z26 := Tryz.sizeOf29
  v26 := Tryz.zeroValue29
  t27 := Tryz.underlying29
  a27 := Tryz.isAgg29
  z27 := Tryz.sizeOf29
  v27 := Tryz.zeroValue29
  t29 := Tryz.underlying9
  a29 := Tryz.isAgg9
  z29 := Tryz.sizeOf9
  v29 := Tryz.zeroValue9
  t32 := Tryz.underlying122
  a32 := Tryz.isAgg122
  z32 := Tryz.sizeOf122
  v32 := Tryz.zeroValue122
  t35 := Tryz.underlying177
  a35 := Tryz.isAgg177
  z35 := Tryz.sizeOf177
  v35 := Tryz.zeroValue177
  t36 := Tryz.underlying178
  a36 := Tryz.isAgg178
  z36 := Tryz.sizeOf178
  v36 := Tryz.zeroValue178
  t41 := Tryz.underlying106
  a41 := Tryz.isAgg106
  z41 := Tryz.sizeOf106
  v41 := Tryz.zeroValue106
  t44 := Tryz.underlying184
  a44 := Tryz.isAgg184
  z44 := Tryz.sizeOf184
  v44 := Tryz.zeroValue184
  t46 := Tryz.underlying119
  a46 := Tryz.isAgg119
  z46 := Tryz.sizeOf119
  v46 := Tryz.zeroValue119
  t53 := Tryz.underlying218
  a53 := Tryz.isAgg218
  z53 := Tryz.sizeOf218
  v53 := Tryz.zeroValue218
  t57 := Tryz.underlying222
  a57 := Tryz.isAgg222
  z57 := Tryz.sizeOf222
  v57 := Tryz.zeroValue222
  t63 := Tryz.underlying234
  a63 := Tryz.isAgg234
  z63 := Tryz.sizeOf234
  v63 := Tryz.zeroValue234
  t64 := Tryz.underlying173
  a64 := Tryz.isAgg173
  z64 := Tryz.sizeOf173
  v64 := Tryz.zeroValue173 }
end Go.Proofs

/- This text walks through Compact of the package slices at strings. This text turns the kit's contract of slices.Sort, at strings, into the form of the symbolic executor. -/
namespace Go.X
open Go Go.Lib
def sC (l : List (List UInt8)) : List C := l.map C.s
theorem sC_len (l : List (List UInt8)) : (sC l).length = l.length * 1 := by simp [sC]
theorem s_get {l : List (List UInt8)} {i : Nat} (h : i < l.length) : ((sC l).drop (i * 1 + 0)).take 1 = [.s l[i]] := by
  unfold sC
  rw [Nat.mul_one, Nat.add_zero, ← List.map_drop, List.drop_eq_getElem_cons h]
  rfl
theorem sC_take (l : List (List UInt8)) (k : Nat) : (sC l).take (k * 1) = sC (l.take k) := by
  unfold sC
  rw [Nat.mul_one, List.map_take]
theorem sC_set {l : List (List UInt8)} {j : Nat} (hj : j < l.length) (x : List UInt8) : setC (j * 1 + 0) [C.s x] (sC l) = sC (l.set j x) := by
  unfold sC
  rw [Nat.mul_one, Nat.add_zero, List.map_set, List.set_eq_take_append_cons_drop, if_pos (by simpa using hj)]
  simp [setC]
def cmpsGo : List UInt8 → List (List UInt8) → List (List UInt8)
  | _, [] => []
  | p, y :: r => if y = p then cmpsGo p r else y :: cmpsGo y r
/-- The rows without equal neighbours. -/
def cmps : List (List UInt8) → List (List UInt8)
  | [] => []
  | x :: r => x :: cmpsGo x r
def nthS (l : List (List UInt8)) (i : Nat) : List UInt8 := l.getD i default
theorem nthS_eq {l : List (List UInt8)} {i : Nat} (h : i < l.length) : nthS l i = l[i] := by
  unfold nthS; rw [List.getD_eq_getElem?_getD, List.getElem?_eq_getElem h]; rfl
theorem sC_drop (l : List (List UInt8)) (k : Nat) : (sC l).drop (k * 1) = sC (l.drop k) := by
  unfold sC
  rw [Nat.mul_one, List.map_drop]
theorem drop_atS {m l : List (List UInt8)} {d i : Nat} (h : m.drop d = l.drop d) (hi : d ≤ i) (h1 : i < m.length) (h2 : i < l.length) : m[i] = l[i] := by
  have := congrArg (fun x => x[i - d]?) h
  simp only [List.getElem?_drop, show d + (i - d) = i by omega, List.getElem?_eq_getElem h1, List.getElem?_eq_getElem h2] at this
  exact Option.some.inj this
theorem rsubS {e : Nat} {a : Option Addr} {n c k : Nat} {m : List (List UInt8)} {L : List Chunk} {D : List Fact} (hm : Chunk.row e 1 a n c (sC m) ∈ L) (hn : m.length = n) (hk : k < n) (hc : n ≤ c) : Reads L D e 1 (resl a k c 1) (n - k) (sC (m.drop k)) := by
  refine .sub a k n c (sC m) hm ?_ (by omega) ?_
  · exact if_neg (by omega)
  · rw [sC_drop, List.take_of_length_le]
    rw [sC_len, List.length_drop]; omega
theorem s_sub {m : List (List UInt8)} {k i : Nat} (h : k + i < m.length) : ((sC (m.drop k)).drop (i * 1 + 0)).take 1 = [.s m[k + i]] := by
  rw [s_get (l := m.drop k) (i := i) (by rw [List.length_drop]; omega)]
  simp
end Go.X
namespace Go.Proofs
open Go Go.X
set_option maxRecDepth 100000
set_option maxHeartbeats 8000000
theorem cptS_ok (a : Option Addr) (c : Nat) (l : List (List UInt8)) (hl : l.length ≤ 100000) :
    FnS Tryz.prog 48 [.c (.sl a l.length c)] [.row 9 1 a l.length c (sC l)] []
      (fun v L D => v = .c (.sl a (cmps l).length c) ∧ L = [.row 9 1 a (cmps l).length c (sC (cmps l))] ∧ D = []) := by
  by_cases h2 : l.length < 2
  · have he : cmps l = l := by
      match l, h2 with
      | [], _ => rfl
      | [x], _ => rfl
      | x :: y :: r, h => simp at h; omega
    rw [he]
    refine fn_of_J Tryz.tyOK 0 Tryz.func48 (by kernel_rfl) (c := Tryz.f48.body.getD .skip) (by kernel_rfl) Tryz.ntmps48 (rs := Tryz.f48.results.toList) rfl (by simp) (fun G => ?_)
    repeat' first | refine J_seq ?_ | refine J_region Tryz.tyOK ?_ | refine J_block ?_ | refine J_cond ?_ | refine J_ret ?_ | refine J_skip ?_ | refine J_exit ?_ | refine J_scope ?_ | refine CondP.y ?_ | refine CondP.n ?_ | refine CondP.mk (fun h => ?_) (fun h => ?_) | refine EqP.mk rfl ?_ | refine NewP.mk (fun ad => ?_) | refine ArP.x ?_ | refine SideP.a ?_ | refine FinE.mk [_] [] ⟨rfl, rfl, rfl⟩ (Ents.refl _ _) | fail
  · generalize hq : cmps l = q
    refine fn_of_J Tryz.tyOK 0 Tryz.func48 (by kernel_rfl) (c := Tryz.f48.body.getD .skip) (by kernel_rfl) Tryz.ntmps48 (rs := Tryz.f48.results.toList) rfl (by simp) (fun G => ?_)
    refine J_cap (List.Mem.head _) (fun hnc _ _ => ?_)
    repeat' first | refine J_seq ?_ | refine J_region Tryz.tyOK ?_ | refine J_block ?_ | refine J_cond ?_ | refine J_ret ?_ | refine J_skip ?_ | refine J_exit ?_ | refine J_scope ?_ | refine CondP.y ?_ | refine CondP.n ?_ | refine CondP.mk (fun h => ?_) (fun h => ?_) | refine EqP.mk rfl ?_ | refine NewP.mk (fun ad => ?_) | refine ArP.x ?_ | refine SideP.a ?_ | fail
    refine J_loop (α := Nat) (fun k => [(0, .c (.sl a l.length c)), (3, .c (.i .i64 k))]) (fun _ => [.row 9 1 a l.length c (sC l)]) (fun _ => []) 0
      (fun k => 1 ≤ k ∧ k ≤ l.length ∧ q = l.take k ++ cmpsGo (nthS l (k - 1)) (l.drop k)) (fun k => l.length - k) (InFam.mk 1 ⟨Nat.le_refl _, by omega, ?_⟩ SubE.a (Ents.refl _ _)) (fun k hx => ?_)
    · rw [← hq]
      match l, h2 with
      | [], h => simp at h
      | x :: r, _ => rfl
    obtain ⟨hk1, hkn, he⟩ := hx
    by_cases hlt : k < l.length
    · have hg := s_get hlt
      have hkk : ((k : Int) - 1).toNat = k - 1 := by omega
      have hg1 : ((sC l).drop (((k : Int) - 1).toNat * 1 + 0)).take 1 = [.s l[k - 1]] := by rw [hkk]; exact s_get (by omega)
      have hn1 : nthS l (k - 1) = l[k - 1] := nthS_eq (by omega)
      have hyes : l[k] = l[k - 1] → q = l.take k ++ cmpsGo (nthS l k) (l.drop (k + 1)) := fun h => by
        rw [he, List.drop_eq_getElem_cons hlt, cmpsGo, hn1, if_pos h, nthS_eq hlt, h]
      have hno : ¬ l[k] = l[k - 1] → q = l.take (k + 1) ++ cmpsGo (nthS l k) (l.drop (k + 1)) := fun h => by
        rw [he, List.drop_eq_getElem_cons hlt, cmpsGo, hn1, if_neg h, nthS_eq hlt, List.take_succ_eq_append_getElem hlt, List.append_assoc]
        rfl
      repeat' first | refine J_stop (c := .seq (.region 7 _ _) _) ?_ | refine J_seq ?_ | refine J_region Tryz.tyOK ?_ | refine J_block ?_ | refine J_cond ?_ | refine J_ret ?_ | refine J_skip ?_ | refine J_exit ?_ | refine J_scope ?_ | refine CondP.y ?_ | refine CondP.n ?_ | refine CondP.mk (fun h => ?_) (fun h => ?_) | refine EqP.mk rfl ?_ | refine NewP.mk (fun ad => ?_) | refine ArP.x ?_ | refine SideP.a ?_ | refine J_drawS (id := 6) Tryz.tyOK (by kernel_rfl) [0, 0, 3, 7, 0, 0, 32, 112, 240, 511] [0, 1, 2, 3, 4, 5, 6, 7, 8, 9] [] [18, 23] true (by kernel_rfl) ?_ | refine J_drawS (id := 11) Tryz.tyOK (by kernel_rfl) [0, 0, 3, 7, 0, 0, 32, 112, 240, 511] [0, 1, 2, 3, 4, 5, 6, 7, 8, 9] [] [37, 42] true (by kernel_rfl) ?_ | refine EntP.mk Ents.a ?_ | refine IdxE.mk 9 1 _ (.inl ⟨c, List.Mem.head _⟩) (by omega) (by omega) ?_ | refine LoadE.mk 9 _ _ _ (.inl ⟨c, List.Mem.head _⟩) (by omega) (by omega) (by first | omega | decide) hg ?_ | refine LoadE.mk 9 _ _ _ (.inl ⟨c, List.Mem.head _⟩) (by omega) (by omega) (by first | omega | decide) hg1 ?_ | refine Round.mk (k + 1) (by omega) ⟨by omega, by omega, ?_⟩ SubE.a (Ents.refl _ _) | fail
      · have hxy := h
        have hq0 := hyes hxy
        clear hyes hno hg hg1 hn1 hkk he
        refine ⟨?_⟩
        refine J_ent (n' := 0) (env' := [(0, .c (.sl a l.length c)), (3, .c (.i .i64 k))]) SubE.a (Ents.refl _ _) ?_
        repeat' first | refine J_seq ?_ | refine J_region Tryz.tyOK ?_ | refine J_block ?_ | refine J_cond ?_ | refine J_ret ?_ | refine J_skip ?_ | refine J_exit ?_ | refine J_scope ?_ | refine CondP.y ?_ | refine CondP.n ?_ | refine CondP.mk (fun h => ?_) (fun h => ?_) | refine EqP.mk rfl ?_ | refine NewP.mk (fun ad => ?_) | refine ArP.x ?_ | refine SideP.a ?_ | fail
        refine J_loop (α := Nat × Nat × List (List UInt8)) (fun x => [(0, .c (.sl a l.length c)), (3, .c (.i .i64 x.2.1)), (4, .c (.sl (resl a k c 1) (l.length - k) (c - k))), (5, .c (.i .i64 x.1))]) (fun x => [.row 9 1 a l.length c (sC x.2.2)]) (fun _ => []) 0
          (fun x => 1 ≤ x.1 ∧ x.1 ≤ l.length - k ∧ k ≤ x.2.1 ∧ x.2.1 ≤ k + x.1 - 1 ∧ x.2.2.length = l.length ∧ x.2.2.drop (k + x.1 - 1) = l.drop (k + x.1 - 1) ∧ q = x.2.2.take x.2.1 ++ cmpsGo (nthS l (k + x.1 - 1)) (l.drop (k + x.1))) (fun x => l.length - x.1) (InFam.mk (1, k, l) ⟨Nat.le_refl _, by dsimp only; omega, Nat.le_refl _, by dsimp only; omega, rfl, rfl, by dsimp only; exact hq0⟩ SubE.a (Ents.refl _ _)) (fun x hx => ?_)
        obtain ⟨j, i, m⟩ := x
        dsimp only at hx ⊢
        obtain ⟨hj1, hj2, hki, hij, hml, hdr, hq1⟩ := hx
        have hR : Reads [.row 9 1 a l.length c (sC m)] [] 9 1 (resl a k c 1) (l.length - k) (sC (m.drop k)) := rsubS (List.Mem.head _) hml (by omega) hnc
        by_cases hjl : j < l.length - k
        · have e1 := drop_atS hdr (i := k + j) (by omega) (by omega) (by omega)
          have e2 := drop_atS hdr (i := k + (j - 1)) (by omega) (by omega) (by omega)
          have hg := s_sub (m := m) (k := k) (i := j) (by omega)
          rw [e1] at hg
          have hg1 : ((sC (m.drop k)).drop (((j : Int) - 1).toNat * 1 + 0)).take 1 = [.s l[k + (j - 1)]] := by
            rw [show ((j : Int) - 1).toNat = j - 1 by omega]
            have := s_sub (m := m) (k := k) (i := j - 1) (by omega)
            rw [e2] at this
            exact this
          have hst : setC (i * 1 + 0) ([C.s l[k + j]]) (sC m) = sC (m.set i l[k + j]) := sC_set (by omega) _
          have hn1 : nthS l (k + j - 1) = l[k + (j - 1)] := by rw [nthS_eq (by omega)]; simp only [show k + j - 1 = k + (j - 1) by omega]
          have hyes : l[k + j] = l[k + (j - 1)] → q = m.take i ++ cmpsGo (nthS l (k + (j + 1) - 1)) (l.drop (k + (j + 1))) := fun h => by
            rw [hq1, List.drop_eq_getElem_cons (show k + j < l.length by omega), cmpsGo, hn1, if_pos h, show k + (j + 1) - 1 = k + j by omega, nthS_eq (by omega), h]
            rfl
          have hno : ¬ l[k + j] = l[k + (j - 1)] → q = (m.set i l[k + j]).take (i + 1) ++ cmpsGo (nthS l (k + (j + 1) - 1)) (l.drop (k + (j + 1))) := fun h => by
            rw [hq1, List.drop_eq_getElem_cons (show k + j < l.length by omega), cmpsGo, hn1, if_neg h, show k + (j + 1) - 1 = k + j by omega, nthS_eq (by omega), List.take_succ_eq_append_getElem (by rw [List.length_set]; omega), List.append_assoc]
            simp [List.take_set_of_le]
            rfl
          have hdr1 : m.drop (k + (j + 1) - 1) = l.drop (k + (j + 1) - 1) := by
            rw [show k + (j + 1) - 1 = (k + j - 1) + 1 by omega, ← List.drop_drop, hdr, List.drop_drop]
          have hdr2 : (m.set i l[k + j]).drop (k + (j + 1) - 1) = l.drop (k + (j + 1) - 1) := by
            rw [List.drop_set_of_lt (by omega)]; exact hdr1
          repeat' first | refine J_seq ?_ | refine J_region Tryz.tyOK ?_ | refine J_block ?_ | refine J_cond ?_ | refine J_ret ?_ | refine J_skip ?_ | refine J_exit ?_ | refine J_scope ?_ | refine CondP.y ?_ | refine CondP.n ?_ | refine CondP.mk (fun h => ?_) (fun h => ?_) | refine EqP.mk rfl ?_ | refine NewP.mk (fun ad => ?_) | refine ArP.x ?_ | refine SideP.a ?_ | refine J_drawS (id := 6) Tryz.tyOK (by kernel_rfl) [0, 0, 3, 7, 0, 0, 32, 112, 240, 511] [0, 1, 2, 3, 4, 5, 6, 7, 8, 9] [] [18, 23] true (by kernel_rfl) ?_ | refine J_drawS (id := 11) Tryz.tyOK (by kernel_rfl) [0, 0, 3, 7, 0, 0, 32, 112, 240, 511] [0, 1, 2, 3, 4, 5, 6, 7, 8, 9] [] [37, 42] true (by kernel_rfl) ?_ | refine EntP.mk Ents.a ?_ | refine IdxE.mk 9 1 _ hR (by omega) (by omega) ?_ | refine IdxE.mk 9 1 _ (.inl ⟨c, List.Mem.head _⟩) (by omega) (by omega) ?_ | refine LoadE.mk 9 _ _ _ hR (by omega) (by omega) (by first | omega | decide) hg ?_ | refine LoadE.mk 9 _ _ _ hR (by omega) (by omega) (by first | omega | decide) hg1 ?_ | refine StoreE.mk [] _ _ _ _ _ _ rfl (by omega) (by omega) (Nat.le_of_ble_eq_true rfl) hst ?_ | refine Round.mk (j + 1, i, m) (by dsimp only; omega) ⟨by dsimp only; omega, by dsimp only; omega, hki, by dsimp only; omega, hml, hdr1, hyes (by assumption)⟩ SubE.a (Ents.refl _ _) | refine Round.mk (j + 1, i + 1, m.set i l[k + j]) (by dsimp only; omega) ⟨by dsimp only; omega, by dsimp only; omega, by dsimp only; omega, by dsimp only; omega, by rw [List.length_set]; exact hml, hdr2, hno (by assumption)⟩ SubE.a (Ents.refl _ _) | fail
        · have hjn : j = l.length - k := by omega
          subst hjn
          rw [show l.drop (k + (l.length - k)) = [] from List.drop_eq_nil_of_le (by omega)] at hq1
          have hq1 : q = m.take i ++ [] := hq1
          rw [List.append_nil] at hq1
          have hql : q.length = i := by rw [hq1, List.length_take]; omega
          have hwl := sC_len m
          repeat' first | refine J_seq ?_ | refine J_region Tryz.tyOK ?_ | refine J_block ?_ | refine J_cond ?_ | refine J_ret ?_ | refine J_skip ?_ | refine J_exit ?_ | refine J_scope ?_ | refine CondP.y ?_ | refine CondP.n ?_ | refine CondP.mk (fun h => ?_) (fun h => ?_) | refine EqP.mk rfl ?_ | refine NewP.mk (fun ad => ?_) | refine ArP.x ?_ | refine SideP.a ?_ | refine ClearE.mk [] _ _ _ _ (i : Int).toNat _ _ rfl (if_neg (by omega)) (by omega) ?_ | refine FinE.mk [_] [] ⟨?_, rfl, rfl⟩ ((Ents.rowPre (k := i) (by omega)).trans (Ents.of ?_)) | fail
          · show V.c (C.sl (resl a 0 c 1) (i : Int).toNat c) = _
            rw [resl0, hql, Int.toNat_natCast]
          · show [Chunk.row _ 1 a i c ((setC ((i : Int).toNat * 1) (repC (l.length - (i : Int).toNat) [C.s []]) (sC m)).take (i * 1))] = _
            rw [Int.toNat_natCast, setC_take (by omega), sC_take, ← hq1, hql]
      · exact hno (h)
    · have hkl : k = l.length := by omega
      subst hkl
      rw [List.take_length, List.drop_length] at he
      have he : q = l ++ [] := he
      rw [List.append_nil] at he
      subst he
      repeat' first | refine J_seq ?_ | refine J_region Tryz.tyOK ?_ | refine J_block ?_ | refine J_cond ?_ | refine J_ret ?_ | refine J_skip ?_ | refine J_exit ?_ | refine J_scope ?_ | refine CondP.y ?_ | refine CondP.n ?_ | refine CondP.mk (fun h => ?_) (fun h => ?_) | refine EqP.mk rfl ?_ | refine NewP.mk (fun ad => ?_) | refine ArP.x ?_ | refine SideP.a ?_ | refine FinE.mk [_] [] ⟨rfl, rfl, rfl⟩ (Ents.refl _ _) | fail
end Go.Proofs
namespace Go.X
open Go Go.Sort Go.Proofs
theorem flatK_one {α : Type} [Inhabited α] (enc : α → Value) (d : Array α) : flatK (fun x => [enc x]) 1 d = d.map enc := by
  apply Array.ext
  · simp
  · intro i h1 h2
    have hi : i < d.size := by simpa using h2
    have h := get_flatK (fun x => [enc x]) 1 d i (by omega)
    rw [getElem!_pos _ i h1] at h
    rw [h, Nat.div_one, Nat.mod_one, Array.getElem_map, getElem!_pos d i hi]
    rfl
theorem putCells_one {α : Type} [Inhabited α] (enc : α → Value) (off : Nat) (d : Array α) (c : Array Value) : putCells id off (d.map enc) c = putCells enc off d c := by
  unfold putCells
  rw [Array.size_map]
  congr 1
  funext k x
  split
  · rename_i h
    have h1 : k - off < d.size := by omega
    rw [getElem!_pos _ (k - off) (by simpa using h1), getElem!_pos d (k - off) h1, Array.getElem_map]
    rfl
  · rfl
theorem putRow_one {α : Type} [Inhabited α] (enc : α → Value) (w : World) (blk off : Nat) (d : Array α) : putRow enc w blk off d = putRowK (fun x => [enc x]) 1 w blk off d := by
  unfold putRowK
  rw [flatK_one]
  unfold putRow
  congr 1
  funext c
  exact (putCells_one enc off d c).symm
theorem holds_one {α : Type} [Inhabited α] {enc : α → Value} {w : World} {blk off : Nat} {d : Array α} (h : HoldsK (fun x => [enc x]) 1 w blk off d) : Sort.Holds enc w blk off d := by
  intro j hj
  unfold HoldsK at h
  rw [flatK_one] at h
  obtain ⟨h1, h2⟩ := h j (by simpa using hj)
  refine ⟨?_, h2⟩
  rw [h1, getElem!_pos _ j (by simpa using hj), getElem!_pos d j hj, Array.getElem_map]
  rfl
/-- slices.Sort. -/
theorem fn_sort1 {P : Program} {α : Type} [Inhabited α] {fS : FuncId} {ety : Nat} {mk : α → C} {srt : List α → List α} (hF1 : ∀ x, (mk x).one) (hs : ∀ l, (srt l).length = l.length)
    (hn : FnS P fS [.c (.sl none 0 0)] [] [] (fun v L D => v = .t0 ∧ L = [] ∧ D = []))
    (hsort : ∀ (blk cap : Nat) (d : List α) (w : World), Sort.Holds (fun x => (mk x).enc) w blk 0 d.toArray → blk < w.heap.size → d.length < 4611686018427387904 → Calls P fS #[.slice (some ⟨blk, 0, none⟩) d.length cap] w fun e w' => e = .returned (.tuple #[]) ∧ ∃ n os, w' = grow (putRow (fun x => (mk x).enc) (Sort.ahead w n) blk 0 (srt d).toArray) os)
    (a : Option Addr) (c : Nat) (l : List α) (hl : l.length < 4611686018427387904) :
    FnS P fS [.c (.sl a l.length c)] [.row ety 1 a l.length c (l.flatMap fun x => [mk x])] [] (fun v L D => v = .t0 ∧ L = [.row ety 1 a l.length c ((srt l).flatMap fun x => [mk x])] ∧ D = []) := by
  have hF : ∀ x : α, ([mk x] : List C).length = 1 := fun _ => rfl
  have hs0 : srt [] = [] := List.eq_nil_of_length_eq_zero (hs [])
  refine ⟨hn.en, fun w m hh => ?_⟩
  rcases hh.ok.1.2 with ⟨ha, hn0, hc0, hcs⟩ | ⟨b, ha, hrow⟩
  · subst ha hc0
    have hl0 : l = [] := List.eq_nil_of_length_eq_zero hn0
    subst hl0
    refine (hn.run w m ⟨by simp [fps], trivial, fun b o hb => ⟨(hh.im b o hb).1, by simp [fps]⟩, trivial⟩).mono ?_
    rintro e w' ⟨v, L', D', m', he, ⟨rfl, rfl, rfl⟩, h1, h2⟩
    refine ⟨.t0, _, [], m', he, ⟨rfl, rfl, rfl⟩, ⟨by simp [fps, Chunk.fp], ⟨⟨fun x hx => by rw [hs0] at hx; simp at hx, .inl ⟨rfl, rfl, rfl, by rw [hs0]; rfl⟩⟩, trivial⟩, fun b o hb => ⟨(h1.im b o hb).1, by simp [fps, Chunk.fp]⟩, trivial⟩, ⟨h2.size, fun b hb hx => h2.same b hb (by simp [fps]), fun b hb => by simp [fps, Chunk.fp] at hb, h2.im, fun b o ho => ?_, h2.kept⟩⟩
    rcases h2.new b o ho with h3 | h3 | h3
    · exact .inl h3
    · simp [fps] at h3
    · exact .inr (.inr h3)
  · subst ha
    have hb : b < w.heap.size := mem_fps_lt hh.ok b (by simp [fps, Chunk.fp])
    have hlen := hs l
    refine (hsort b c l w (holds_one (enc := fun x => (mk x).enc) (holdsK_of_row hF hrow)) hb hl).mono ?_
    rintro e w' ⟨he, n, os, rfl⟩
    have hrow' := row_sorted hF (m := n) (d' := srt l) (os := os) hlen hrow hb
    rw [putRow_one]
    show ∃ v L' D' m', _
    have hW : grow (putRowK (fun x => [(mk x).enc]) 1 (Sort.ahead w n) b 0 (srt l).toArray) os = sortWorldK (encF fun x => [mk x]) 1 w b 0 n (srt l).toArray os := rfl
    rw [hW]
    rw [hlen] at hrow'
    have hsize : w.heap.size ≤ (sortWorldK (encF fun x => [mk x]) 1 w b 0 n (srt l).toArray os).heap.size := by
      unfold sortWorldK
      rw [size_grow]
      show w.heap.size ≤ (mapBlock (Sort.ahead w n) b _).heap.size + _
      simp only [mapBlock, Array.size_modify]
      exact Nat.le_add_right _ _
    refine ⟨.t0, _, [], m, by rw [he]; rfl, ⟨rfl, rfl, rfl⟩, ⟨by simp [fps, Chunk.fp], ⟨⟨fun x hx => ?_, .inr ⟨b, rfl, hrow'⟩⟩, trivial⟩, fun q o hq => ?_, trivial⟩, ⟨hsize, fun q hq hx => ?_, fun q hq => .inl hq, fun _ _ h => h, fun _ _ h => .inl h, ⟨rfl, rfl, hsize, fun e => absurd e (by decide), fun e => absurd e (by decide)⟩⟩⟩
    · obtain ⟨y, _, hy⟩ := List.mem_flatMap.1 hx
      rw [List.mem_singleton.1 hy]
      exact hF1 y
    · obtain ⟨h1, h2⟩ := hh.im q o hq
      have hne : q ≠ b := fun h => h2 (by simp [fps, Chunk.fp, h])
      refine ⟨?_, by simpa [fps, Chunk.fp] using h2⟩
      rw [sorted_other (Array.getElem?_eq_some_iff.1 h1).1 hne]; exact h1
    · exact sorted_other hq (fun h => hx (by simp [Chunk.fp, fps, h]))
end Go.X
namespace Go.Proofs
open Go Go.X
set_option maxRecDepth 100000
set_option maxHeartbeats 4000000
theorem flat_one {α β : Type} (f : α → β) (l : List α) : (l.flatMap fun x => [f x]) = l.map f := by
  induction l with
  | nil => rfl
  | cons x r ih => rw [List.flatMap_cons, ih]; rfl
/-- Strings in order. -/
def srtS (l : List (List UInt8)) : List (List UInt8) := l.mergeSort fun x y => decide (x ≤ y)
theorem sortS0 : FnS Tryz.prog 47 [.c (.sl none 0 0)] [] [] (fun v L D => v = .t0 ∧ L = [] ∧ D = []) :=
  fn_pure ⟨_, Tryz.func47, by kernel_rfl, by kernel_rfl⟩ (fun w => AnyM.slices_Sort_string_none Tryz.sortStr none 0 w)
theorem sortS_ok (a : Option Addr) (c : Nat) (l : List (List UInt8)) (hl : l.length < 4611686018427387904) :
    FnS Tryz.prog 47 [.c (.sl a l.length c)] [.row 9 1 a l.length c (sC l)] []
      (fun v L D => v = .t0 ∧ L = [.row 9 1 a l.length c (sC (srtS l))] ∧ D = []) := by
  have h := fn_sort1 (P := Tryz.prog) (fS := 47) (ety := 9) (mk := C.s) (srt := srtS) (fun _ => rfl) (fun l => List.length_mergeSort ..) sortS0
    (fun blk cap d w hH hblk hsz => AnyM.slices_Sort_string Tryz.sortStr blk 0 cap d w hH hblk hsz) a c l hl
  simp only [flat_one] at h
  exact h
end Go.Proofs
