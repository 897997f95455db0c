/- This text walks through the functions that find the words of a text, in the package search and in the reference of chapter 35. -/
import Derived.Test.YtcnbkappedemeaaLibc
import Derived.Test.YtcnbkappedemeaaTitle
import Derived.Test.YtcnbkappedemeaaSrch
set_option linter.all false

namespace Go.X
open Go Go.Lib

def letB (b : UInt8) : Bool := (decide (97 ≤ (b.toNat : Int)) && decide ((b.toNat : Int) ≤ 122)) || (decide (65 ≤ (b.toNat : Int)) && decide ((b.toNat : Int) ≤ 90)) || (decide (48 ≤ (b.toNat : Int)) && decide ((b.toNat : Int) ≤ 57))
def flushW (w : List UInt8) : List (List UInt8) := if 2 ≤ w.length ∧ w.length ≤ 40 then [w] else []
def wordsR : List UInt8 → List UInt8 → List (List UInt8)
  | cur, [] => flushW cur
  | cur, b :: r => if letB b = true then wordsR (cur ++ [lowB b]) r else flushW cur ++ wordsR [] r
/-- The words of a text. -/
def wordsS (s : List UInt8) : List (List UInt8) := wordsR [] s

theorem flushW_nil : flushW [] = [] := rfl
theorem flushW_len (w : List UInt8) : (flushW w).length ≤ 1 := by unfold flushW; split <;> simp
theorem wordsR_len : ∀ (r cur : List UInt8), (wordsR cur r).length ≤ r.length + 1
  | [], cur => by simp only [wordsR]; have := flushW_len cur; simp; omega
  | b :: r, cur => by
    simp only [wordsR]
    split
    · have := wordsR_len r (cur ++ [lowB b]); simp; omega
    · have := wordsR_len r []; have := flushW_len cur; simp; omega
theorem wordsR_at {s cur : List UInt8} {i : Nat} (h : i < s.length) : wordsR cur (s.drop i) = if letB s[i] = true then wordsR (cur ++ [lowB s[i]]) (s.drop (i + 1)) else flushW cur ++ wordsR [] (s.drop (i + 1)) := by
  rw [List.drop_eq_getElem_cons h, wordsR]
theorem wordsR_end {s cur : List UInt8} {i : Nat} (h : i = s.length) : wordsR cur (s.drop i) = flushW cur ++ wordsR [] (s.drop (i + 1)) := by
  rw [List.drop_eq_nil_of_le (by omega), List.drop_eq_nil_of_le (by omega)]
  simp [wordsR, flushW_nil]
theorem wordsS_append (a b : List UInt8) : ∀ cur, wordsR cur (a ++ 32 :: b) = wordsR cur a ++ wordsR [] b := by
  induction a with
  | nil => intro cur; simp only [List.nil_append, wordsR]; rw [if_neg (by decide)]
  | cons x r ih =>
    intro cur
    simp only [List.cons_append, wordsR, ih]
    split <;> simp [List.append_assoc]

def mixedL (l : List UInt8) (i : Nat) : List UInt8 := (l.take i).map lowB ++ l.drop i
theorem mixedL_get {l : List UInt8} {i : Nat} (h : i < l.length) : ((mixedL l i).map byteC).drop i = byteC l[i] :: (l.drop (i + 1)).map byteC := by
  rw [← List.map_drop, mixedL, List.drop_left' (by simp; omega), List.drop_eq_getElem_cons h, List.map_cons]
theorem mixedL_len {l : List UInt8} {i : Nat} (h : i ≤ l.length) : (mixedL l i).length = l.length := by simp [mixedL]; omega
theorem mixedL_succ {l : List UInt8} {i : Nat} (h : i < l.length) : (mixedL l i).set i (lowB l[i]) = mixedL l (i + 1) := by
  unfold mixedL
  have hlen : ((l.take i).map lowB).length = i := by simp; omega
  rw [List.set_append_right _ _ (by omega), List.take_succ_eq_append_getElem h, hlen, Nat.sub_self, List.drop_eq_getElem_cons h, List.set_cons_zero, List.map_append]
  simp
theorem mixedL_same {l : List UInt8} {i : Nat} (h : i < l.length) (h' : lowB l[i] = l[i]) : mixedL l i = mixedL l (i + 1) := by
  rw [← mixedL_succ h, h']
  have : (mixedL l i)[i]? = some l[i] := by
    unfold mixedL
    rw [List.getElem?_append_right (by simp; omega)]
    simp [Nat.min_eq_left (Nat.le_of_lt h), h]
  obtain ⟨hlt, he⟩ := List.getElem?_eq_some_iff.1 this
  rw [← he, List.set_getElem_self]

end Go.X

namespace Go.Proofs
open Go Go.X
set_option maxRecDepth 100000
set_option maxHeartbeats 4000000

theorem letter_ok (b : UInt8) : FnS Try.prog 22 [.c (byteC b)] [] [] (Is (.c (.b (letB b)))) := by
  have hb := b.toNat_lt
  refine fn_of_J Try.tyOK 0 Try.func22 (by kernel_rfl) (c := Try.f22.body.getD .skip) (by kernel_rfl) Try.ntmps22 (rs := Try.f22.results.toList) rfl (by simp) (fun G => ?_)
  repeat' first
    | refine J_seq ?_ | refine J_region Try.tyOK ?_ | refine J_block ?_ | refine J_cond ?_ | refine J_ret ?_ | refine J_skip ?_ | refine J_exit ?_ | refine J_scope ?_
    | refine CondP.yes (by omega) ?_ | refine CondP.no (by omega) ?_ | refine CondP.mk (fun h => ?_) (fun h => ?_) | refine EqP.mk rfl ?_ | refine NewP.mk (fun ad => ?_) | refine ArP.exact (by simp only [inR]; omega) ?_ | refine SideP.mk (by first | omega | (dsimp only; omega) | (simp; omega)) ?_
    | refine FinE.bool ?_
    | fail
  all_goals (unfold letB; (try simp only [Int.toNat_natCast, Int.toNat_zero] at *); simp only [*, decide_true, decide_false, Bool.true_and, Bool.false_and, Bool.and_true, Bool.and_false, Bool.not_true, Bool.not_false, Bool.true_or, Bool.false_or, Bool.or_true, Bool.or_false, not_true, not_false_eq_true, ne_eq, if_true, if_false, Bool.false_eq_true]; first | done | rfl | (simp only [Bool.or_eq_false_iff, Bool.and_eq_false_iff, decide_eq_false_iff_not]; omega))

theorem setC_one' {l : List C} {i : Nat} {x : C} (h : i < l.length) : setC i [x] l = l.set i x := by
  rw [List.set_eq_take_append_cons_drop, if_pos h]; simp [setC]

theorem lowerS_ok (l : List UInt8) (hl : l.length ≤ 1000000) : FnS Try.prog 23 [.c (.s l)] [] [] (Is (.c (.s (l.map lowB)))) := by
  refine fn_of_J Try.tyOK 0 Try.func23 (by kernel_rfl) (c := Try.f23.body.getD .skip) (by kernel_rfl) Try.ntmps23 (rs := Try.f23.results.toList) rfl (by simp) (fun G => ?_)
  repeat' first
    | refine J_seq ?_ | refine J_region Try.tyOK ?_ | refine J_block ?_ | refine J_cond ?_ | refine J_ret ?_ | refine J_skip ?_ | refine J_exit ?_ | refine J_scope ?_
    | refine CondP.yes (by omega) ?_ | refine CondP.no (by omega) ?_ | refine CondP.mk (fun h => ?_) (fun h => ?_) | refine EqP.mk rfl ?_ | refine NewP.mk (fun ad => ?_) | refine ArP.exact (by simp only [inR]; omega) ?_ | refine SideP.mk (by first | omega | (dsimp only; omega) | (simp; omega)) ?_
    | refine NewB.mk (fun ad c => ?_)
    | fail
  refine J_loop (α := Nat) (fun i => [(10, .c (.i .i64 i)), (9, lenV l.length), (8, .c (.sl (some ⟨ad, 0, none⟩) l.length c)), (3, .c (.sl (some ⟨ad, 0, none⟩) l.length c))])
    (fun i => [.row 5 1 (some ⟨ad, 0, none⟩) l.length c ((mixedL l i).map byteC)]) (fun _ => []) 0 (fun i => i ≤ l.length) (fun i => l.length - i) (InFam.mk 0 (by omega) ?_ (Ents.of (by simp [mixedL]))) (fun i hi => ?_)
  · repeat' first
      | exact SubE.nil | refine SubE.cons rfl ?_ ?_ | exact VEq.refl _ | refine VEq.int (by omega) | refine VEq.sl rfl (by first | rfl | omega | (rw [List.length_append]; rfl) | (simp; omega)) rfl
      | fail
  have hrd : Reads [.row 5 1 (some ⟨ad, 0, none⟩) l.length c ((mixedL l i).map byteC)] [] 5 1 (some ⟨ad, 0, none⟩) l.length ((mixedL l i).map byteC) := .inl ⟨c, by simp⟩
  by_cases hlt : i < l.length
  · have hb := (l[i]).toNat_lt
    have hg := mixedL_get hlt
    repeat' first
      | refine J_seq ?_ | refine J_region Try.tyOK ?_ | refine J_block ?_ | refine J_cond ?_ | refine J_ret ?_ | refine J_skip ?_ | refine J_exit ?_ | refine J_scope ?_
      | refine CondP.yes (by omega) ?_ | refine CondP.no (by omega) ?_ | refine CondP.mk (fun h => ?_) (fun h => ?_) | refine EqP.mk rfl ?_ | refine NewP.mk (fun ad => ?_) | refine ArP.exact (by simp only [inR]; omega) ?_ | refine SideP.mk (by first | omega | (dsimp only; omega) | (simp; omega)) ?_
      | refine IdxE.mk 5 1 _ hrd (by omega) (by omega) ?_ | refine LoadE.mk 5 _ _ [byteC l[i]] hrd (by omega) (by omega) (by omega) (by simp [hg]) ?_ | (exfalso; omega)
      | fail
    · refine StoreE.mk [] [] 5 _ c _ ((mixedL l (i + 1)).map byteC) rfl (by omega) (by omega) (by simp) ?_ ?_
      · rw [← mixedL_succ hlt, List.map_set, ← setC_one' (by simp [mixedL_len hi, hlt]), byteC, lowB_yes (by assumption) (by assumption)]
        simp
        rw [show (l[i].toNat : Int) + 97 - 65 = l[i].toNat + 32 by omega]
      · repeat' first
          | refine J_seq ?_ | refine J_region Try.tyOK ?_ | refine J_block ?_ | refine J_cond ?_ | refine J_ret ?_ | refine J_skip ?_ | refine J_exit ?_ | refine J_scope ?_
          | refine CondP.yes (by omega) ?_ | refine CondP.no (by omega) ?_ | refine CondP.mk (fun h => ?_) (fun h => ?_) | refine EqP.mk rfl ?_ | refine NewP.mk (fun ad => ?_) | refine ArP.exact (by simp only [inR]; omega) ?_ | refine SideP.mk (by first | omega | (dsimp only; omega) | (simp; omega)) ?_
          | fail
        refine Round.mk (i + 1) (by omega) (by omega) ?_ (Ents.refl _ _)
        repeat' first
          | exact SubE.nil | refine SubE.cons rfl ?_ ?_ | exact VEq.refl _ | refine VEq.int (by omega) | refine VEq.sl rfl (by first | rfl | omega | (rw [List.length_append]; rfl) | (simp; omega)) rfl
          | fail
    all_goals
      refine Round.mk (i + 1) (by omega) (by omega) ?_ (Ents.of (by rw [mixedL_same hlt (lowB_no (by omega))]))
      repeat' first
        | exact SubE.nil | refine SubE.cons rfl ?_ ?_ | exact VEq.refl _ | refine VEq.int (by omega) | refine VEq.sl rfl (by first | rfl | omega | (rw [List.length_append]; rfl) | (simp; omega)) rfl
        | fail
  · have hil : i = l.length := by omega
    subst hil
    repeat' first
      | refine J_seq ?_ | refine J_region Try.tyOK ?_ | refine J_block ?_ | refine J_cond ?_ | refine J_ret ?_ | refine J_skip ?_ | refine J_exit ?_ | refine J_scope ?_
      | refine CondP.yes (by omega) ?_ | refine CondP.no (by omega) ?_ | refine CondP.mk (fun h => ?_) (fun h => ?_) | refine EqP.mk rfl ?_ | refine NewP.mk (fun ad => ?_) | refine ArP.exact (by simp only [inR]; omega) ?_ | refine SideP.mk (by first | omega | (dsimp only; omega) | (simp; omega)) ?_
      | (exfalso; omega)
      | fail
    refine BytesE.mk 5 (l.map lowB) ?_ ?_
    · have : mixedL l l.length = l.map lowB := by simp [mixedL]
      rw [← this]; exact hrd
    · repeat' first
        | refine J_seq ?_ | refine J_region Try.tyOK ?_ | refine J_block ?_ | refine J_cond ?_ | refine J_ret ?_ | refine J_skip ?_ | refine J_exit ?_ | refine J_scope ?_
        | refine CondP.yes (by omega) ?_ | refine CondP.no (by omega) ?_ | refine CondP.mk (fun h => ?_) (fun h => ?_) | refine EqP.mk rfl ?_ | refine NewP.mk (fun ad => ?_) | refine ArP.exact (by simp only [inR]; omega) ?_ | refine SideP.mk (by first | omega | (dsimp only; omega) | (simp; omega)) ?_
        | exact FinE.is rfl
        | fail

/-- A list of strings that comes back. -/
def StrP (l : List (List UInt8)) : V → List Chunk → List Fact → Prop := fun v L D => ∃ a c, v = .c (.sl a l.length c) ∧ L = [.row 9 1 a l.length c (l.map C.s)] ∧ D = []

theorem words_ok (s : List UInt8) (hs : s.length ≤ 1000000) : FnS Try.prog 9 [.c (.s s)] [] [] (StrP (wordsS s)) := by
  unfold StrP wordsS
  generalize hW : wordsR [] s = W
  have hWl : W.length ≤ 1000001 := by have := wordsR_len s []; rw [hW] at this; omega
  refine fn_of_J Try.tyOK 0 Try.func9 (by kernel_rfl) (c := Try.f9.body.getD .skip) (by kernel_rfl) Try.ntmps9 (rs := Try.f9.results.toList) rfl (by simp) (fun G => ?_)
  repeat' first
    | refine J_seq ?_ | refine J_region Try.tyOK ?_ | refine J_block ?_ | refine J_cond ?_ | refine J_ret ?_ | refine J_skip ?_ | refine J_exit ?_ | refine J_scope ?_
    | refine CondP.yes (by omega) ?_ | refine CondP.no (by omega) ?_ | refine CondP.mk (fun h => ?_) (fun h => ?_) | refine EqP.mk rfl ?_ | refine NewP.mk (fun ad => ?_) | refine ArP.exact (by simp only [inR]; omega) ?_ | refine SideP.mk (by first | omega | (dsimp only; omega) | (simp; omega)) ?_
    | fail
  refine J_loop (α := Nat × List (List UInt8) × Option Addr × Nat) (fun x => [(0, .c (.s s)), (3, .c (.sl x.2.2.1 x.2.1.length x.2.2.2)), (4, .c (.i .i64 x.1))]) (fun x => [.row 9 1 x.2.2.1 x.2.1.length x.2.2.2 (x.2.1.map C.s)]) (fun _ => []) 0
    (fun x => x.1 ≤ s.length + 1 ∧ W = x.2.1 ++ wordsR [] (s.drop x.1)) (fun x => s.length + 1 - x.1) (InFam.mk (0, [], none, 0) ⟨Nat.zero_le _, by rw [← hW]; rfl⟩ (by repeat' first | exact SubE.nil | refine SubE.cons rfl ?_ ?_ | exact VEq.refl _ | refine VEq.int (by omega) | refine VEq.sl rfl (by first | rfl | omega | (rw [List.length_append]; rfl) | (simp; omega)) rfl) Ents.nilRow) (fun x hx => ?_)
  obtain ⟨at_, out, a, c⟩ := x
  dsimp only at hx ⊢
  obtain ⟨hat, he⟩ := hx
  have hol : out.length ≤ 1000001 := by rw [he] at hWl; simp at hWl; omega
  by_cases hlt : at_ < s.length
  · repeat' first
      | refine J_seq ?_ | refine J_region Try.tyOK ?_ | refine J_block ?_ | refine J_cond ?_ | refine J_ret ?_ | refine J_skip ?_ | refine J_exit ?_ | refine J_scope ?_
      | refine CondP.yes (by omega) ?_ | refine CondP.no (by omega) ?_ | refine CondP.mk (fun h => ?_) (fun h => ?_) | refine EqP.mk rfl ?_ | refine NewP.mk (fun ad => ?_) | refine ArP.exact (by simp only [inR]; omega) ?_ | refine SideP.mk (by first | omega | (dsimp only; omega) | (simp; omega)) ?_
      | fail
    refine J_loop (α := Nat) (fun e => [(0, .c (.s s)), (3, .c (.sl a out.length c)), (4, .c (.i .i64 at_)), (5, .c (.i .i64 e))]) (fun _ => [.row 9 1 a out.length c (out.map C.s)]) (fun _ => []) 0
      (fun e => at_ ≤ e ∧ e ≤ s.length ∧ W = out ++ wordsR (((s.drop at_).take (e - at_)).map lowB) (s.drop e)) (fun e => s.length - e) (InFam.mk at_ ⟨Nat.le_refl _, by omega, by rw [Nat.sub_self]; exact he⟩ (by repeat' first | exact SubE.nil | refine SubE.cons rfl ?_ ?_ | exact VEq.refl _ | refine VEq.int (by omega) | refine VEq.sl rfl (by first | rfl | omega | (rw [List.length_append]; rfl) | (simp; omega)) rfl) (Ents.refl _ _)) (fun e hx => ?_)
    obtain ⟨hae, hes, he2⟩ := hx
    have hlw : FnS Try.prog 23 [.c (.s ((s.take (e : Int).toNat).drop (at_ : Int).toNat))] [] [] (Is (.c (.s (((s.drop at_).take (e - at_)).map lowB)))) := by
      have := lowerS_ok ((s.take (e : Int).toNat).drop (at_ : Int).toNat) (by simp; omega)
      rwa [show ((s.take (e : Int).toNat).drop (at_ : Int).toNat).map lowB = ((s.drop at_).take (e - at_)).map lowB from by simp only [Int.toNat_natCast]; rw [List.drop_take]] at this
    have hlen : (((s.drop at_).take (e - at_)).map lowB).length = e - at_ := by simp; omega
    have hend : ¬ (e < s.length ∧ letB (s.getD (e : Int).toNat 0) = true) → wordsR (((s.drop at_).take (e - at_)).map lowB) (s.drop e) = flushW (((s.drop at_).take (e - at_)).map lowB) ++ wordsR [] (s.drop (e + 1)) := fun hn => by
      by_cases h1 : e < s.length
      · rw [wordsR_at h1, if_neg (fun h2 => hn ⟨h1, by simpa [h1] using h2⟩)]
      · exact wordsR_end (by omega)
    have hin : e < s.length → letB (s.getD (e : Int).toNat 0) = true → wordsR (((s.drop at_).take (e - at_)).map lowB) (s.drop e) = wordsR (((s.drop at_).take (e + 1 - at_)).map lowB) (s.drop (e + 1)) := fun h1 h2 => by
      rw [wordsR_at h1, if_pos (by simpa [h1] using h2)]
      congr 1
      rw [show e + 1 - at_ = (e - at_) + 1 by omega, List.take_succ_eq_append_getElem (by simp; omega), List.map_append]
      simp [show at_ + (e - at_) = e by omega]
    generalize hcur : ((s.drop at_).take (e - at_)).map lowB = cur at *
    have hf1 : (2 ≤ (e : Int) - at_ ∧ (e : Int) - at_ ≤ 40) → flushW cur = [cur] := fun h => if_pos (by omega)
    have hf2 : ¬ (2 ≤ (e : Int) - at_ ∧ (e : Int) - at_ ≤ 40) → flushW cur = [] := fun h => if_neg (by omega)
    repeat' first
      | refine J_seq ?_ | refine J_region Try.tyOK ?_ | refine J_block ?_ | refine J_cond ?_ | refine J_ret ?_ | refine J_skip ?_ | refine J_exit ?_ | refine J_scope ?_
      | refine CondP.yes (by omega) ?_ | refine CondP.no (by omega) ?_ | refine CondP.mk (fun h => ?_) (fun h => ?_) | refine EqP.mk rfl ?_ | refine NewP.mk (fun ad => ?_) | refine ArP.exact (by simp only [inR]; omega) ?_ | refine SideP.mk (by first | omega | (dsimp only; omega) | (simp; omega)) ?_
      | refine CallP.isB (letter_ok (s.getD (e : Int).toNat 0)) (fun hb => ?_) (fun hb => ?_) | refine Round.mk (e + 1) (by omega) ⟨by omega, by omega, by rw [he2, hin (by omega) hb]⟩ (by repeat' first | exact SubE.nil | refine SubE.cons rfl ?_ ?_ | exact VEq.refl _ | refine VEq.int (by omega) | refine VEq.sl rfl (by first | rfl | omega | (rw [List.length_append]; rfl) | (simp; omega)) rfl) (Ents.refl _ _) | refine CallP.is hlw ?_ | refine AppE.row [_] [] (out.map C.s) [C.s cur] 1 rfl (SrcE.sl 9 9 _ _ 1 1 _ rfl rfl (.inl ⟨1, List.Mem.head _⟩) rfl) (by dsimp only; omega) (fun a' c' => ?_) | refine Round.mk (e + 1, out ++ [cur], a', c') (by dsimp only; omega) ⟨by dsimp only; omega, ?_⟩ (by repeat' first | exact SubE.nil | refine SubE.cons rfl ?_ ?_ | exact VEq.refl _ | refine VEq.int (by omega) | refine VEq.sl rfl (by first | rfl | omega | (rw [List.length_append]; rfl) | (simp; omega)) rfl) (Ents.drop.trans (Ents.of ?_)) | refine Round.mk (e + 1, out, a, c) (by dsimp only; omega) ⟨by dsimp only; omega, ?_⟩ (by repeat' first | exact SubE.nil | refine SubE.cons rfl ?_ ?_ | exact VEq.refl _ | refine VEq.int (by omega) | refine VEq.sl rfl (by first | rfl | omega | (rw [List.length_append]; rfl) | (simp; omega)) rfl) (Ents.refl _ _)
      | fail
    all_goals first
      | (dsimp only; rw [he2, hend (fun h9 => by first | omega | (rw [h9.2] at hb; cases hb)), hf1 (by omega), List.append_assoc])
      | (dsimp only; rw [he2, hend (fun h9 => by first | omega | (rw [h9.2] at hb; cases hb)), hf2 (by omega)]; rfl)
      | (dsimp only; rw [List.length_append, List.map_append]; rfl)
  · have hnil : wordsR [] (s.drop at_) = [] := by rw [List.drop_eq_nil_of_le (by omega)]; rfl
    rw [hnil, List.append_nil] at he
    subst he
    repeat' first
      | refine J_seq ?_ | refine J_region Try.tyOK ?_ | refine J_block ?_ | refine J_cond ?_ | refine J_ret ?_ | refine J_skip ?_ | refine J_exit ?_ | refine J_scope ?_
      | refine CondP.yes (by omega) ?_ | refine CondP.no (by omega) ?_ | refine CondP.mk (fun h => ?_) (fun h => ?_) | refine EqP.mk rfl ?_ | refine NewP.mk (fun ad => ?_) | refine ArP.exact (by simp only [inR]; omega) ?_ | refine SideP.mk (by first | omega | (dsimp only; omega) | (simp; omega)) ?_
      | refine FinE.mk [_] [] ⟨a, c, rfl, rfl, rfl⟩ (Ents.refl _ _)
      | fail

theorem refWords_ok (s : List UInt8) (hs : s.length ≤ 1000000) : FnS Try.prog 10 [.c (.s s)] [] [] (StrP (wordsS s)) := by
  unfold StrP wordsS
  generalize hW : wordsR [] s = W
  have hWl : W.length ≤ 1000001 := by have := wordsR_len s []; rw [hW] at this; omega
  refine fn_of_J Try.tyOK 0 Try.func10 (by kernel_rfl) (c := Try.f10.body.getD .skip) (by kernel_rfl) Try.ntmps10 (rs := Try.f10.results.toList) rfl (by simp) (fun G => ?_)
  repeat' first
    | refine J_seq ?_ | refine J_region Try.tyOK ?_ | refine J_block ?_ | refine J_cond ?_ | refine J_ret ?_ | refine J_skip ?_ | refine J_exit ?_ | refine J_scope ?_
    | refine CondP.yes (by omega) ?_ | refine CondP.no (by omega) ?_ | refine CondP.mk (fun h => ?_) (fun h => ?_) | refine EqP.mk rfl ?_ | refine NewP.mk (fun ad => ?_) | refine ArP.exact (by simp only [inR]; omega) ?_ | refine SideP.mk (by first | omega | (dsimp only; omega) | (simp; omega)) ?_
    | fail
  refine J_loop (α := Nat × List (List UInt8) × (Option Addr × Nat) × List UInt8 × Option Addr × Nat) (fun x => [(0, .c (.s s)), (3, .c (.sl x.2.2.1.1 x.2.1.length x.2.2.1.2)), (4, .c (.sl x.2.2.2.2.1 x.2.2.2.1.length x.2.2.2.2.2)), (5, .c (.i .i64 x.1))])
    (fun x => [.row 5 1 x.2.2.2.2.1 x.2.2.2.1.length x.2.2.2.2.2 (x.2.2.2.1.map byteC), .row 9 1 x.2.2.1.1 x.2.1.length x.2.2.1.2 (x.2.1.map C.s)]) (fun _ => []) 0
    (fun x => x.1 ≤ s.length + 1 ∧ (x.1 = s.length + 1 → x.2.2.2.1 = []) ∧ x.2.2.2.1.length ≤ x.1 ∧ W = x.2.1 ++ wordsR x.2.2.2.1 (s.drop x.1)) (fun x => s.length + 1 - x.1) (InFam.mk (0, [], (none, 0), [], none, 0) ⟨Nat.zero_le _, fun _ => rfl, Nat.le_refl _, by rw [← hW]; rfl⟩ (by repeat' first | exact SubE.nil | refine SubE.cons rfl ?_ ?_ | exact VEq.refl _ | refine VEq.int (by omega) | refine VEq.sl rfl (by first | rfl | omega | (rw [List.length_append]; rfl) | (simp; omega)) rfl) (Ents.nilRow.trans Ents.nilRow)) (fun x hx => ?_)
  obtain ⟨i, out, ⟨a, c⟩, cur, a2, c2⟩ := x
  dsimp only at hx ⊢
  obtain ⟨hi, hlast, hcl, he⟩ := hx
  have hol : out.length ≤ 1000001 := by rw [he] at hWl; simp at hWl; omega
  by_cases hlt : i < s.length
  · have hat := wordsR_at (cur := cur) hlt
    have hgd : s.getD (i : Int).toNat 0 = s[i] := by simp [hlt]
    have hy := lowB_yes (b := s[i])
    have hn := lowB_no (b := s[i])
    have hbl := (s[i]).toNat_lt
    generalize s[i] = b at *
    have hlet : letB b = true ∨ letB b = false := by cases letB b <;> simp
    have hl1 : (65 ≤ (b.toNat : Int) ∧ (b.toNat : Int) ≤ 90) ∨ (97 ≤ (b.toNat : Int) ∧ (b.toNat : Int) ≤ 122) ∨ (48 ≤ (b.toNat : Int) ∧ (b.toNat : Int) ≤ 57) → letB b = true := fun h => by
      unfold letB
      simp only [Bool.or_eq_true, Bool.and_eq_true, decide_eq_true_eq]
      omega
    have hl2 : ¬ ((65 ≤ (b.toNat : Int) ∧ (b.toNat : Int) ≤ 90) ∨ (97 ≤ (b.toNat : Int) ∧ (b.toNat : Int) ≤ 122) ∨ (48 ≤ (b.toNat : Int) ∧ (b.toNat : Int) ≤ 57)) → ¬ letB b = true := fun h => by
      unfold letB
      simp only [Bool.or_eq_true, Bool.and_eq_true, decide_eq_true_eq]
      omega
    repeat' first
      | rw [hgd]
      | refine J_seq ?_ | refine J_region Try.tyOK ?_ | refine J_block ?_ | refine J_cond ?_ | refine J_ret ?_ | refine J_skip ?_ | refine J_exit ?_ | refine J_scope ?_
      | refine CondP.yes (by omega) ?_ | refine CondP.no (by omega) ?_ | refine CondP.mk (fun h => ?_) (fun h => ?_) | refine EqP.mk rfl ?_ | refine NewP.mk (fun ad => ?_) | refine ArP.exact (by simp only [inR]; omega) ?_ | refine SideP.mk (by first | omega | (dsimp only; omega) | (simp; omega)) ?_
      | refine AppE.row [_] _ (cur.map byteC) _ 1 rfl (SrcE.sl 5 5 _ _ 1 1 _ rfl rfl (.inl ⟨1, List.Mem.head _⟩) rfl) (by dsimp only; omega) (fun a' c' => ?_) | refine Round.mk (i + 1, out, (a, c), cur ++ [lowB b], a', c') (by dsimp only; omega) ⟨by dsimp only; omega, fun h => by dsimp only at h; omega, by simp; omega, (by dsimp only; rw [he, hat, if_pos (hl1 (by omega))])⟩ (by repeat' first | exact SubE.nil | refine SubE.cons rfl ?_ ?_ | exact VEq.refl _ | refine VEq.int (by omega) | refine VEq.sl rfl (by first | rfl | omega | (rw [List.length_append]; rfl) | (simp; omega)) rfl) (Ents.drop.trans (Ents.of ?_)) | refine BytesE.mk 5 cur (.inl ⟨c2, List.Mem.head _⟩) ?_ | refine AppE.row [_, _] [] (out.map C.s) [C.s cur] 1 rfl (SrcE.sl 9 9 _ _ 1 1 _ rfl rfl (.inl ⟨1, List.Mem.head _⟩) rfl) (by dsimp only; omega) (fun a' c' => ?_) | refine Round.mk (i + 1, out ++ [cur], (a', c'), [], none, 0) (by dsimp only; omega) ⟨by dsimp only; omega, fun _ => rfl, Nat.zero_le _, (by dsimp only; rw [he, hat, if_neg (hl2 (by omega)), show flushW cur = [cur] from if_pos (by omega), List.append_assoc])⟩ (by repeat' first | exact SubE.nil | refine SubE.cons rfl ?_ ?_ | exact VEq.refl _ | refine VEq.int (by omega) | refine VEq.sl rfl (by first | rfl | omega | (rw [List.length_append]; rfl) | (simp; omega)) rfl) (Ents.drop.trans (Ents.drop.trans ((Ents.nilRow (ety := 5) (esz := 1)).trans (Ents.of ?_)))) | refine Round.mk (i + 1, out, (a, c), [], none, 0) (by dsimp only; omega) ⟨by dsimp only; omega, fun _ => rfl, Nat.zero_le _, (by dsimp only; rw [he, hat, if_neg (hl2 (by omega)), show flushW cur = [] from if_neg (by omega)]; rfl)⟩ (by repeat' first | exact SubE.nil | refine SubE.cons rfl ?_ ?_ | exact VEq.refl _ | refine VEq.int (by omega) | refine VEq.sl rfl (by first | rfl | omega | (rw [List.length_append]; rfl) | (simp; omega)) rfl) (Ents.drop.trans Ents.nilRow)
      | fail
    all_goals first
      | (dsimp only; rw [List.length_append, List.map_append, List.map_cons, byteC, hy (by omega) (by omega)]; rfl)
      | (dsimp only; rw [List.length_append, List.map_append, List.map_cons, hn (by omega)]; rfl)
      | (dsimp only; rw [List.length_append, List.map_append]; rfl)
  · by_cases hil : i = s.length
    · have hat := wordsR_end (cur := cur) hil
      repeat' first
        | refine J_seq ?_ | refine J_region Try.tyOK ?_ | refine J_block ?_ | refine J_cond ?_ | refine J_ret ?_ | refine J_skip ?_ | refine J_exit ?_ | refine J_scope ?_
        | refine CondP.yes (by omega) ?_ | refine CondP.no (by omega) ?_ | refine CondP.mk (fun h => ?_) (fun h => ?_) | refine EqP.mk rfl ?_ | refine NewP.mk (fun ad => ?_) | refine ArP.exact (by simp only [inR]; omega) ?_ | refine SideP.mk (by first | omega | (dsimp only; omega) | (simp; omega)) ?_
        | refine BytesE.mk 5 cur (.inl ⟨c2, List.Mem.head _⟩) ?_ | refine AppE.row [_, _] [] (out.map C.s) [C.s cur] 1 rfl (SrcE.sl 9 9 _ _ 1 1 _ rfl rfl (.inl ⟨1, List.Mem.head _⟩) rfl) (by dsimp only; omega) (fun a' c' => ?_) | refine Round.mk (i + 1, out ++ [cur], (a', c'), [], none, 0) (by dsimp only; omega) ⟨by dsimp only; omega, fun _ => rfl, Nat.zero_le _, (by dsimp only; rw [he, hat, show flushW cur = [cur] from if_pos (by omega), List.append_assoc])⟩ (by repeat' first | exact SubE.nil | refine SubE.cons rfl ?_ ?_ | exact VEq.refl _ | refine VEq.int (by omega) | refine VEq.sl rfl (by first | rfl | omega | (rw [List.length_append]; rfl) | (simp; omega)) rfl) (Ents.drop.trans (Ents.drop.trans ((Ents.nilRow (ety := 5) (esz := 1)).trans (Ents.of ?_)))) | refine Round.mk (i + 1, out, (a, c), [], none, 0) (by dsimp only; omega) ⟨by dsimp only; omega, fun _ => rfl, Nat.zero_le _, (by dsimp only; rw [he, hat, show flushW cur = [] from if_neg (by omega)]; rfl)⟩ (by repeat' first | exact SubE.nil | refine SubE.cons rfl ?_ ?_ | exact VEq.refl _ | refine VEq.int (by omega) | refine VEq.sl rfl (by first | rfl | omega | (rw [List.length_append]; rfl) | (simp; omega)) rfl) (Ents.drop.trans Ents.nilRow)
        | fail
      all_goals first
            | (dsimp only; rw [List.length_append, List.map_append]; rfl)
    · have hc0 := hlast (by omega)
      subst hc0
      have hnil : wordsR [] (s.drop i) = [] := by rw [List.drop_eq_nil_of_le (by omega)]; rfl
      rw [hnil, List.append_nil] at he
      subst he
      repeat' first
        | refine J_seq ?_ | refine J_region Try.tyOK ?_ | refine J_block ?_ | refine J_cond ?_ | refine J_ret ?_ | refine J_skip ?_ | refine J_exit ?_ | refine J_scope ?_
        | refine CondP.yes (by omega) ?_ | refine CondP.no (by omega) ?_ | refine CondP.mk (fun h => ?_) (fun h => ?_) | refine EqP.mk rfl ?_ | refine NewP.mk (fun ad => ?_) | refine ArP.exact (by simp only [inR]; omega) ?_ | refine SideP.mk (by first | omega | (dsimp only; omega) | (simp; omega)) ?_
        | refine FinE.mk [_] [] ⟨a, c, rfl, rfl, rfl⟩ Ents.drop
        | fail

end Go.Proofs
