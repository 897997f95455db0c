/- This text walks through the function Valid of the reference of chapter 1. · This text proves in plain Lean that, in a text without two blanks side by side, leaving out each blank next to a slash is the same as trimming the pieces between the slashes. · This text walks through the function Valid of the package title. · This text walks through the function Parse of the package title, and what it calls. · This text walks through the functions Parse, Format, Compare and Resolve of the package title. · This text walks through the function Parse of the reference of chapter 1. · This text walks through the functions Format and Compare of the package title. · This text walks through the functions Resolve and Ancestors of the package title. · This text walks through the functions Ancestors and Format of the reference of chapter 1. · This text walks through the tape from which statements make inputs, and the titles that it makes. · This text proves, for any program, that a region that draws its order may be executed along a tree of orders: where two operations that work on memory stand in no order, both ways are looked at. No condition. -/
import Derived.Test.YtdnkeinjfddmnaaGreatDoorV06
import Derived.Test.YtdnkeinjfddmnaaGreatDoorV04
set_option linter.all false
namespace Go.Proofs
open Go Go.X
set_option maxRecDepth 100000
theorem refValid_ok (sp : Int) (s : List UInt8) (hs : s.length ≤ 1100000) : FnS Tryz.prog 29 [.agg [.i .i64 sp, .s s]] [] [] (Is (.c (.b (validT sp s)))) := by
  have hcn : (colonNo s : Int) = 0 ↔ colonNo s = 0 := by omega
  have hsl := splitOn_length_le 47 s
  have hml := mem_splitOn_le 47 s
  refine fn_of_J Tryz.tyOK 0 Tryz.func29 (by kernel_rfl) (c := Tryz.f29.body.getD .skip) (by kernel_rfl) Tryz.ntmps29 (rs := Tryz.f29.results.toList) rfl (by simp) (fun G => ?_)
  repeat' first
    | refine J_stop (c := .seq (.seq (.region 4 _ _) _) _) ?_
    | refine J_seq ?_ | refine J_region Tryz.tyOK ?_ | refine J_block ?_ | refine J_cond ?_ | refine J_ret ?_ | refine J_skip ?_ | refine J_exit ?_ | refine J_scope ?_
    | refine CondP.yes (by omega) ?_ | refine CondP.no (by omega) ?_ | refine CondP.mk (fun h => ?_) (fun h => ?_) | refine EqP.mk rfl ?_ | refine NewP.mk (fun ad => ?_) | refine ArP.exact (by simp only [inR]; omega) ?_ | refine SideP.mk (by first | omega | (dsimp only; omega) | (simp; omega)) ?_
    | refine FinE.bool ?_
    | fail
  rotate_right
  · refine ⟨?_⟩
    refine J_seq ?_
    repeat' first
      | refine J_seq ?_ | refine J_region Tryz.tyOK ?_ | refine J_block ?_ | refine J_cond ?_ | refine J_ret ?_ | refine J_skip ?_ | refine J_exit ?_ | refine J_scope ?_
      | refine CondP.yes (by omega) ?_ | refine CondP.no (by omega) ?_ | refine CondP.mk (fun h => ?_) (fun h => ?_) | refine EqP.mk rfl ?_ | refine NewP.mk (fun ad => ?_) | refine ArP.exact (by simp only [inR]; omega) ?_ | refine SideP.mk (by first | omega | (dsimp only; omega) | (simp; omega)) ?_
      | fail
      | fail
    refine J_loop (α := Nat) (fun i => [(3, .c (.s s)), (4, .c (.i .i64 i)), (1, .c (.p 0 ad 0))]) (fun _ => [.box 0 ad 23 [.i .i64 sp, .s s]]) (fun _ => []) 1
      (fun i => i ≤ s.length ∧ cleanB false s = cleanB (pv s i) (s.drop i)) (fun i => s.length - i) (InFam.mk 0 ⟨by omega, by simp [pv]⟩ (by repeat' first | exact SubE.nil | refine SubE.cons rfl ?_ ?_ | exact VEq.refl _ | refine VEq.int (by omega) | refine VEq.sl rfl (by first | rfl | omega | (rw [List.length_append]; rfl) | (simp; omega)) rfl) (Ents.refl _ _)) (fun i hi => ?_)
    obtain ⟨hi, hcl⟩ := hi
    by_cases hlt : i < s.length
    · have hst := clean_step hlt
      have hb := (s.getD i 0).toNat_lt
      have h1 := slice_one hlt
      have c1 : FnS Tryz.prog 46 [.c (.s [60, 62, 91, 93, 123, 125, 124, 35, 95]), .c (.s ((s.take (i + 1)).drop i)), .c (.i .i64 (0 : Nat))] [] [] (Is (.c (.i .i64 (Lib.indexByte [60, 62, 91, 93, 123, 125, 124, 35, 95] (s.getD i 0))))) := by
        rw [h1, ← refIdx_byte]
        exact index_ok _ _ 0 (by decide) (by simp) (by simp) (by decide)
      repeat' first
        | refine J_seq ?_ | refine J_region Tryz.tyOK ?_ | refine J_block ?_ | refine J_cond ?_ | refine J_ret ?_ | refine J_skip ?_ | refine J_exit ?_ | refine J_scope ?_
        | refine CondP.yes (by omega) ?_ | refine CondP.no (by omega) ?_ | refine CondP.mk (fun h => ?_) (fun h => ?_) | refine EqP.mk rfl ?_ | refine NewP.mk (fun ad => ?_) | refine ArP.exact (by simp only [inR]; omega) ?_ | refine SideP.mk (by first | omega | (dsimp only; omega) | (simp; omega)) ?_
        | refine CallP.is c1 ?_ | refine FinE.bool ?_ | refine Round.mk (i + 1) (by omega) ⟨by omega, ?_⟩ (by repeat' first | exact SubE.nil | refine SubE.cons rfl ?_ ?_ | exact VEq.refl _ | refine VEq.int (by omega) | refine VEq.sl rfl (by first | rfl | omega | (rw [List.length_append]; rfl) | (simp; omega)) rfl) (Ents.refl _ _)
        | fail
      all_goals simp only [Int.toNat_natCast] at *
      all_goals first | (show validT sp s = false; have hc : cleanB false s = false := by (rw [hcl, hst]; clear hcl hst; (try simp only [Int.toNat_natCast, Int.toNat_zero] at *); simp only [badB, pv, *, decide_true, decide_false, Bool.true_and, Bool.false_and, Bool.and_true, Bool.and_false, Bool.not_true, Bool.not_false, Bool.true_or, Bool.false_or, Bool.or_true, Bool.or_false, not_true, not_false_eq_true, ne_eq, if_true, if_false, Bool.false_eq_true]; try rfl)
                         simp [validT, hc]) | skip
      all_goals (rw [hcl, hst]; clear hcl hst; (try simp only [Int.toNat_natCast, Int.toNat_zero] at *); simp only [badB, pv, *, decide_true, decide_false, Bool.true_and, Bool.false_and, Bool.and_true, Bool.and_false, Bool.not_true, Bool.not_false, Bool.true_or, Bool.false_or, Bool.or_true, Bool.or_false, not_true, not_false_eq_true, ne_eq, if_true, if_false, Bool.false_eq_true]; try rfl)
    · have hil : i = s.length := by omega
      subst hil
      have hcl' : cleanB false s = true := by rw [hcl]; simp [cleanB]
      clear hcl
      repeat' first
        | refine J_seq ?_ | refine J_region Tryz.tyOK ?_ | refine J_block ?_ | refine J_cond ?_ | refine J_ret ?_ | refine J_skip ?_ | refine J_exit ?_ | refine J_scope ?_
        | refine CondP.yes (by omega) ?_ | refine CondP.no (by omega) ?_ | refine CondP.mk (fun h => ?_) (fun h => ?_) | refine EqP.mk rfl ?_ | refine NewP.mk (fun ad => ?_) | refine ArP.exact (by simp only [inR]; omega) ?_ | refine SideP.mk (by first | omega | (dsimp only; omega) | (simp; omega)) ?_
        | refine CallP.mk [] _ _ _ (parts_ok s hs) (List.Perm.refl _) (fun _ h => h) (fun v L' D' hp => ?_); obtain ⟨a, c, rfl, rfl, rfl⟩ := hp
        | fail
      refine J_loop (α := Nat) (fun i => [(6, .c (.i .i64 i)), (5, .c (.sl a (splitOn 47 s).length c)), (3, .c (.s s)), (1, .c (.p 0 ad 0))])
        (fun _ => [.box 0 ad 23 [.i .i64 sp, .s s]]) (fun _ => [slFact 9 1 a (splitOn 47 s).length ((splitOn 47 s).map C.s)]) 1
        (fun i => i ≤ (splitOn 47 s).length ∧ (splitOn 47 s).all pieceOK = ((splitOn 47 s).drop i).all pieceOK) (fun i => (splitOn 47 s).length - i)
        (InFam.mk 0 ⟨by omega, rfl⟩ (by repeat' first | exact SubE.nil | refine SubE.cons rfl ?_ ?_ | exact VEq.refl _ | refine VEq.int (by omega) | refine VEq.sl rfl (by first | rfl | omega | (rw [List.length_append]; rfl) | (simp; omega)) rfl) Ents.toFact) (fun i hi => ?_)
      obtain ⟨hi, hal⟩ := hi
      by_cases hlt : i < (splitOn 47 s).length
      · have hrd : Reads [.box 0 ad 23 [.i .i64 sp, .s s]] [slFact 9 1 a (splitOn 47 s).length ((splitOn 47 s).map C.s)] 9 1 a (splitOn 47 s).length ((splitOn 47 s).map C.s) :=
          .inr fun m h => h.1
        rw [List.drop_eq_getElem_cons hlt, List.all_cons] at hal
        have hpl := hml _ (List.getElem_mem hlt)
        repeat' first
          | refine J_seq ?_ | refine J_region Tryz.tyOK ?_ | refine J_block ?_ | refine J_cond ?_ | refine J_ret ?_ | refine J_skip ?_ | refine J_exit ?_ | refine J_scope ?_
          | refine CondP.yes (by omega) ?_ | refine CondP.no (by omega) ?_ | refine CondP.mk (fun h => ?_) (fun h => ?_) | refine EqP.mk rfl ?_ | refine NewP.mk (fun ad => ?_) | refine ArP.exact (by simp only [inR]; omega) ?_ | refine SideP.mk (by first | omega | (dsimp only; omega) | (simp; omega)) ?_
          | refine J_draw Tryz.tyOK (by kernel_rfl) [0, 1, 2, 3, 4, 5, 6, 7, 8, 9, 10, 11, 12, 13, 14, 15, 16, 17, 18, 19, 20, 21, 22, 23, 24, 25, 26] [] _ _ (by kernel_rfl) (Ents.refl _ _) ?_ | refine IdxE.mk 9 1 _ hrd (by omega) (by omega) ?_ | refine LoadE.mk 9 _ _ [C.s (splitOn 47 s)[i]] hrd (by omega) (by omega) (by omega) (map_take1 hlt) ?_ | refine SideP.mk (by have := pos_of_ne ‹¬ (splitOn 47 s)[i] = []›; omega) ?_ | refine FinE.bool ?_ | refine Round.mk (i + 1) (by omega) ⟨by omega, ?_⟩ (by repeat' first | exact SubE.nil | refine SubE.cons rfl ?_ ?_ | exact VEq.refl _ | refine VEq.int (by omega) | refine VEq.sl rfl (by first | rfl | omega | (rw [List.length_append]; rfl) | (simp; omega)) rfl) (Ents.refl _ _)
          | fail
        all_goals ((try simp only [Int.toNat_natCast, Int.toNat_zero] at *); simp only [validT, pieceOK, *, decide_true, decide_false, Bool.true_and, Bool.false_and, Bool.and_true, Bool.and_false, Bool.not_true, Bool.not_false, Bool.true_or, Bool.false_or, Bool.or_true, Bool.or_false, not_true, not_false_eq_true, ne_eq, if_true, if_false, Bool.false_eq_true]; try rfl)
      · have hil : i = (splitOn 47 s).length := by omega
        subst hil
        simp only [List.drop_length, List.all_nil] at hal
        have e : ∀ b : Bool, b = (headOK s && (!decide (sp = 0) || !decide (colonNo s ≠ 0))) → validT sp s = b := by
          rintro b rfl
          (try simp only [Int.toNat_natCast, Int.toNat_zero] at *); simp only [validT, *, decide_true, decide_false, Bool.true_and, Bool.false_and, Bool.and_true, Bool.and_false, Bool.not_true, Bool.not_false, Bool.true_or, Bool.false_or, Bool.or_true, Bool.or_false, not_true, not_false_eq_true, ne_eq, if_true, if_false, Bool.false_eq_true]
        clear hal hcl'
        repeat' first
          | refine J_seq ?_ | refine J_region Tryz.tyOK ?_ | refine J_block ?_ | refine J_cond ?_ | refine J_ret ?_ | refine J_skip ?_ | refine J_exit ?_ | refine J_scope ?_
          | refine CondP.yes (by omega) ?_ | refine CondP.no (by omega) ?_ | refine CondP.mk (fun h => ?_) (fun h => ?_) | refine EqP.mk rfl ?_ | refine NewP.mk (fun ad => ?_) | refine ArP.exact (by simp only [inR]; omega) ?_ | refine SideP.mk (by first | omega | (dsimp only; omega) | (simp; omega)) ?_
          | refine FinE.bool (e _ ?_) | refine CallP.is (prefixed_ok s hs) ?_
          | fail
        all_goals (clear e; rw [hcn] at *; (try simp only [Int.toNat_natCast, Int.toNat_zero] at *); simp only [headOK, *, decide_true, decide_false, Bool.true_and, Bool.false_and, Bool.and_true, Bool.and_false, Bool.not_true, Bool.not_false, Bool.true_or, Bool.false_or, Bool.or_true, Bool.or_false, not_true, not_false_eq_true, ne_eq, if_true, if_false, Bool.false_eq_true]; try rfl)
  all_goals ((try simp only [Int.toNat_natCast, Int.toNat_zero] at *); simp only [validT, *, decide_true, decide_false, Bool.true_and, Bool.false_and, Bool.and_true, Bool.and_false, Bool.not_true, Bool.not_false, Bool.true_or, Bool.false_or, Bool.or_true, Bool.or_false, not_true, not_false_eq_true, ne_eq, if_true, if_false, Bool.false_eq_true]; try rfl)
end Go.Proofs
namespace Go.X
open Go.Lib
def ND (t : List UInt8) : Prop := ∀ a b, t ≠ a ++ 32 :: 32 :: b
theorem ND.drop {t : List UInt8} (h : ND t) (n : Nat) : ND (t.drop n) := fun a b he => h (t.take n ++ a) b (by
  rw [List.append_assoc, ← he, List.take_append_drop])
theorem ND.take {t : List UInt8} (h : ND t) (n : Nat) : ND (t.take n) := fun a b he => h a (b ++ t.drop n) (by
  have := congrArg (· ++ t.drop n) he
  simpa using this)
theorem ND.trimSuffix {t : List UInt8} (h : ND t) (p : List UInt8) : ND (trimSuffix t p) := by
  unfold Lib.trimSuffix; split
  · exact h.take _
  · exact h
theorem ND.nil : ND [] := fun a b h => by simp at h
theorem ND.tail {x : UInt8} {t : List UInt8} (h : ND (x :: t)) : ND t := h.drop 1
def ps (t : List UInt8) (i : Nat) : Bool := decide (0 < (i : Int)) && decide (((t.getD ((i : Int) - 1).toNat 0).toNat : Int) = 47)
end Go.X
namespace Go.Proofs
open Go Go.X
set_option maxRecDepth 100000
theorem valid_ok (sp : Int) (s : List UInt8) (hs : s.length ≤ 1100000) : FnS Tryz.prog 80 [.agg [.i .i64 sp, .s s]] [] [gInt 0] (Is (.c (.b (validT sp s)))) := by
  refine fn_of_J Tryz.tyOK 0 Tryz.func80 (by kernel_rfl) (c := Tryz.f80.body.getD .skip) (by kernel_rfl) Tryz.ntmps80 (rs := Tryz.f80.results.toList) rfl (by simp) (fun G => ?_)
  cases hcl : cleanB false s
  · repeat' first
      | refine J_seq ?_ | refine J_region Tryz.tyOK ?_ | refine J_block ?_ | refine J_cond ?_ | refine J_ret ?_ | refine J_skip ?_ | refine J_exit ?_ | refine J_scope ?_
      | refine CondP.yes (by omega) ?_ | refine CondP.no (by omega) ?_ | refine CondP.mk (fun h => ?_) (fun h => ?_) | refine EqP.mk rfl ?_ | refine NewP.mk (fun ad => ?_) | refine ArP.exact (by simp only [inR]; omega) ?_ | refine SideP.mk (by first | omega | (dsimp only; omega) | (simp; omega)) ?_
      | refine CallP.is (clean_ok s hs) ?_ | rw [hcl] | refine FinE.bool ?_
      | fail
    all_goals ((try simp only [Int.toNat_natCast, Int.toNat_zero] at *); simp only [validT, *, decide_true, decide_false, Bool.true_and, Bool.false_and, Bool.and_true, Bool.and_false, Bool.not_true, Bool.not_false, Bool.true_or, Bool.false_or, Bool.or_true, Bool.or_false, not_true, not_false_eq_true, ne_eq, if_true, if_false, Bool.false_eq_true]; try rfl)
  · repeat' first
      | refine J_seq ?_ | refine J_region Tryz.tyOK ?_ | refine J_block ?_ | refine J_cond ?_ | refine J_ret ?_ | refine J_skip ?_ | refine J_exit ?_ | refine J_scope ?_
      | refine CondP.yes (by omega) ?_ | refine CondP.no (by omega) ?_ | refine CondP.mk (fun h => ?_) (fun h => ?_) | refine EqP.mk rfl ?_ | refine NewP.mk (fun ad => ?_) | refine ArP.exact (by simp only [inR]; omega) ?_ | refine SideP.mk (by first | omega | (dsimp only; omega) | (simp; omega)) ?_
      | refine CallP.is (clean_ok s hs) ?_ | rw [hcl] | refine FinE.bool ?_ | refine CallP.mk [] _ _ _ (splitOne_ok s 47 (by omega)) (List.Perm.refl _) (fun _ h => h) (fun v L' D' hp => ?_); obtain ⟨g, rfl, rfl, rfl⟩ := hp
      | fail
    rotate_right
    · refine J_loop (α := Nat) (fun i => [(37, .c (.i .i64 i)), (36, lenV (splitOn 47 s).length), (35, .c (.sl (some ⟨g, 0, none⟩) (splitOn 47 s).length (splitOn 47 s).length)), (3, .c (.s s)), (1, .c (.p 0 ad 0))])
        (fun _ => [.box 0 ad 23 [.i .i64 sp, .s s]]) (fun _ => [slFact 9 1 (some ⟨g, 0, none⟩) (splitOn 47 s).length ((splitOn 47 s).map C.s), gInt 0]) 1
        (fun i => i ≤ (splitOn 47 s).length ∧ (splitOn 47 s).all pieceOK = ((splitOn 47 s).drop i).all pieceOK) (fun i => (splitOn 47 s).length - i)
        (InFam.mk 0 ⟨by omega, rfl⟩ (by repeat' first | exact SubE.nil | refine SubE.cons rfl ?_ ?_ | exact VEq.refl _ | refine VEq.int (by omega) | refine VEq.sl rfl (by first | rfl | omega | (rw [List.length_append]; rfl) | (simp; omega)) rfl) Ents.toFact) (fun i hi => ?_)
      obtain ⟨hi, hal⟩ := hi
      have hsl := splitOn_length_le 47 s
      by_cases hlt : i < (splitOn 47 s).length
      · have hrd : Reads [.box 0 ad 23 [.i .i64 sp, .s s]] [slFact 9 1 (some ⟨g, 0, none⟩) (splitOn 47 s).length ((splitOn 47 s).map C.s), gInt 0] 9 1 (some ⟨g, 0, none⟩) (splitOn 47 s).length ((splitOn 47 s).map C.s) :=
          .inr fun m h => h.1
        rw [List.drop_eq_getElem_cons hlt, List.all_cons] at hal
        have hpl := mem_splitOn_le 47 s _ (List.getElem_mem hlt)
        repeat' first
          | refine J_seq ?_ | refine J_region Tryz.tyOK ?_ | refine J_block ?_ | refine J_cond ?_ | refine J_ret ?_ | refine J_skip ?_ | refine J_exit ?_ | refine J_scope ?_
          | refine CondP.yes (by omega) ?_ | refine CondP.no (by omega) ?_ | refine CondP.mk (fun h => ?_) (fun h => ?_) | refine EqP.mk rfl ?_ | refine NewP.mk (fun ad => ?_) | refine ArP.exact (by simp only [inR]; omega) ?_ | refine SideP.mk (by first | omega | (dsimp only; omega) | (simp; omega)) ?_
          | refine IdxE.mk 9 1 _ hrd (by omega) (by omega) ?_ | refine LoadE.mk 9 _ _ [C.s (splitOn 47 s)[i]] hrd (by omega) (by omega) (by omega) (map_take1 hlt) ?_ | refine SideP.mk (by have := pos_of_ne ‹¬ (splitOn 47 s)[i] = []›; omega) ?_ | refine FinE.bool ?_ | refine Round.mk (i + 1) (by omega) ⟨by omega, ?_⟩ (by repeat' first | exact SubE.nil | refine SubE.cons rfl ?_ ?_ | exact VEq.refl _ | refine VEq.int (by omega) | refine VEq.sl rfl (by first | rfl | omega | (rw [List.length_append]; rfl) | (simp; omega)) rfl) (Ents.refl _ _)
          | fail
        all_goals ((try simp only [Int.toNat_natCast, Int.toNat_zero] at *); simp only [validT, pieceOK, *, decide_true, decide_false, Bool.true_and, Bool.false_and, Bool.and_true, Bool.and_false, Bool.not_true, Bool.not_false, Bool.true_or, Bool.false_or, Bool.or_true, Bool.or_false, not_true, not_false_eq_true, ne_eq, if_true, if_false, Bool.false_eq_true]; try rfl)
      · have hil : i = (splitOn 47 s).length := by omega
        subst hil
        simp only [List.drop_length, List.all_nil] at hal
        have e : ∀ b : Bool, b = (headOK s && (!decide (sp = 0) || !decide (colonNo s ≠ 0))) → validT sp s = b := by
          rintro b rfl
          (try simp only [Int.toNat_natCast, Int.toNat_zero] at *); simp only [validT, *, decide_true, decide_false, Bool.true_and, Bool.false_and, Bool.and_true, Bool.and_false, Bool.not_true, Bool.not_false, Bool.true_or, Bool.false_or, Bool.or_true, Bool.or_false, not_true, not_false_eq_true, ne_eq, if_true, if_false, Bool.false_eq_true]
        cases hn : decide (colonNo s ≠ 0) <;>
        (rw [hn] at e
         repeat' first
           | refine J_seq ?_ | refine J_region Tryz.tyOK ?_ | refine J_block ?_ | refine J_cond ?_ | refine J_ret ?_ | refine J_skip ?_ | refine J_exit ?_ | refine J_scope ?_
           | refine CondP.yes (by omega) ?_ | refine CondP.no (by omega) ?_ | refine CondP.mk (fun h => ?_) (fun h => ?_) | refine EqP.mk rfl ?_ | refine NewP.mk (fun ad => ?_) | refine ArP.exact (by simp only [inR]; omega) ?_ | refine SideP.mk (by first | omega | (dsimp only; omega) | (simp; omega)) ?_
           | refine FinE.bool (e _ ?_) | refine CallP.is (prefix_ok s hs) ?_ | rw [hn]
           | fail
         all_goals (clear e; (try simp only [Int.toNat_natCast, Int.toNat_zero] at *); simp only [headOK, *, decide_true, decide_false, Bool.true_and, Bool.false_and, Bool.and_true, Bool.and_false, Bool.not_true, Bool.not_false, Bool.true_or, Bool.false_or, Bool.or_true, Bool.or_false, not_true, not_false_eq_true, ne_eq, if_true, if_false, Bool.false_eq_true]; try rfl))
    all_goals ((try simp only [Int.toNat_natCast, Int.toNat_zero] at *); simp only [validT, *, decide_true, decide_false, Bool.true_and, Bool.false_and, Bool.and_true, Bool.and_false, Bool.not_true, Bool.not_false, Bool.true_or, Bool.false_or, Bool.or_true, Bool.or_false, not_true, not_false_eq_true, ne_eq, if_true, if_false, Bool.false_eq_true]; try rfl)
end Go.Proofs
namespace Go.Proofs
open Go Go.X
set_option maxRecDepth 100000
end Go.Proofs
namespace Go.Proofs
open Go Go.X
set_option maxRecDepth 100000
end Go.Proofs
namespace Go.Proofs
open Go Go.X
set_option maxRecDepth 100000
end Go.Proofs
namespace Go.Proofs
open Go Go.X
set_option maxRecDepth 100000
theorem spName_idx {sp : Int} (h0 : 0 ≤ sp) (h1 : sp < 6) : ([C.s [], .s (spName 1), .s (spName 2), .s (spName 3), .s (spName 4), .s (spName 5)].drop (sp.toNat * 1)).take 1 = [C.s (spName sp.toNat)] := by
  rcases (by omega : sp = 0 ∨ sp = 1 ∨ sp = 2 ∨ sp = 3 ∨ sp = 4 ∨ sp = 5) with rfl | rfl | rfl | rfl | rfl | rfl <;> rfl
theorem format_ok (sp : Int) (s : List UInt8) (hs : s.length ≤ 1100000) : FnS Tryz.prog 40 [.agg [.i .i64 sp, .s s]] [] [gInt 0] (Is (.c (.s (formatT sp s)))) := by
  have hb := @validT_bounds sp s
  have hn := spName_le sp.toNat
  refine fn_of_J Tryz.tyOK 0 Tryz.func40 (by kernel_rfl) (c := Tryz.f40.body.getD .skip) (by kernel_rfl) Tryz.ntmps40 (rs := Tryz.f40.results.toList) rfl (by simp) (fun G => ?_)
  repeat' first
    | refine J_seq ?_ | refine J_region Tryz.tyOK ?_ | refine J_block ?_ | refine J_cond ?_ | refine J_ret ?_ | refine J_skip ?_ | refine J_exit ?_ | refine J_scope ?_
    | refine CondP.yes (by omega) ?_ | refine CondP.no (by omega) ?_ | refine CondP.mk (fun h => ?_) (fun h => ?_) | refine EqP.mk rfl ?_ | refine NewP.mk (fun ad => ?_) | refine ArP.exact (by simp only [inR]; omega) ?_ | refine SideP.mk (by first | omega | (dsimp only; omega) | (simp; omega)) ?_
    | refine CallP.isB (valid_ok sp s hs) (fun hv => ?_) (fun hv => ?_) | refine FinE.str ?_ | refine J_draw Tryz.tyOK (by kernel_rfl) [0, 1, 2, 3, 4, 5, 6, 7, 8] [] _ _ (by kernel_rfl) (Ents.refl _ _) ?_ | refine CallQ.mk [] _ spaces_ok (fun _ _ => trivial) ?_ | refine IdxA.mk [C.s (spName sp.toNat)] (by have := hb hv; omega) (by have := hb hv; omega) (spName_idx (by have := hb hv; omega) (by have := hb hv; omega)) rfl ?_ | refine SideP.mk (by have := hb hv; simp; omega) ?_
    | fail
  all_goals
    unfold formatT
    repeat (first | rw [if_pos (by assumption)] | rw [if_neg (by assumption)] | rw [if_neg (by simp [*])])
    try rfl
end Go.Proofs
namespace Go.Proofs
open Go Go.X
set_option maxRecDepth 100000
end Go.Proofs
namespace Go.Proofs
open Go Go.X
set_option maxRecDepth 100000
theorem refFormat_ok (sp : Int) (s : List UInt8) (hs : s.length ≤ 1100000) : FnS Tryz.prog 45 [.agg [.i .i64 sp, .s s]] [] [] (Is (.c (.s (formatT sp s)))) := by
  have hb := @validT_bounds sp s
  have hn := spName_le sp.toNat
  refine fn_of_J Tryz.tyOK 0 Tryz.func45 (by kernel_rfl) (c := Tryz.f45.body.getD .skip) (by kernel_rfl) Tryz.ntmps45 (rs := Tryz.f45.results.toList) rfl (by simp) (fun G => ?_)
  repeat' first
    | refine J_seq ?_ | refine J_region Tryz.tyOK ?_ | refine J_block ?_ | refine J_cond ?_ | refine J_ret ?_ | refine J_skip ?_ | refine J_exit ?_ | refine J_scope ?_
    | refine CondP.yes (by omega) ?_ | refine CondP.no (by omega) ?_ | refine CondP.mk (fun h => ?_) (fun h => ?_) | refine EqP.mk rfl ?_ | refine NewP.mk (fun ad => ?_) | refine ArP.exact (by simp only [inR]; omega) ?_ | refine SideP.mk (by first | omega | (dsimp only; omega) | (simp; omega)) ?_
    | refine CallP.isB (refValid_ok sp s hs) (fun hv => ?_) (fun hv => ?_) | refine FinE.str ?_ | refine J_draw Tryz.tyOK (by kernel_rfl) [0, 1, 2, 3, 4, 5, 6, 7] [] _ _ (by kernel_rfl) (Ents.refl _ _) ?_ | refine CallQ.mk [] _ (spaceName_ok _) (fun _ _ => trivial) ?_ | refine SideP.mk (by have := hb hv; simp; omega) ?_
    | fail
  all_goals
    unfold formatT
    repeat (first | rw [if_pos (by assumption)] | rw [if_neg (by assumption)] | rw [if_neg (by simp [*])])
    try rfl
end Go.Proofs
namespace Go.Proofs
open Go Go.X
set_option maxRecDepth 100000
def tapeVal (x : Int) : Int := bitsV .and .i64 x 16777215
theorem bitsAnd_range (x : Int) (k : Nat) (hk : k < 2 ^ 62) : 0 ≤ bitsV .and .i64 x k ∧ bitsV .and .i64 x k ≤ k := by
  have h1 : (BitVec.ofInt 64 x &&& BitVec.ofInt 64 (k : Int)).toNat ≤ k := by
    have h2 : (BitVec.ofInt 64 (k : Int)).toNat = k := by
      rw [BitVec.toNat_ofInt]; simp; omega
    rw [BitVec.toNat_and, h2]
    exact Nat.and_le_right
  have e : bitsV .and .i64 x k = IntKind.i64.wrap (BitVec.ofInt 64 x &&& BitVec.ofInt 64 (k : Int)).toNat := rfl
  rw [e, wrap_of_inR (by simp only [inR]; omega)]
  omega
theorem tapeVal_range (x : Int) : 0 ≤ tapeVal x ∧ tapeVal x ≤ 16777215 := bitsAnd_range x 16777215 (by decide)
def tNext (l : List Int) (at_ : Nat) (n : Int) : Int := if at_ < l.length then (tapeVal (l.getD at_ 0)).tmod n else 0
def tAt (l : List Int) (at_ : Nat) : Nat := if at_ < l.length then at_ + 1 else at_
theorem tNext_range (l : List Int) (at_ : Nat) {n : Int} (hn : 0 < n) : 0 ≤ tNext l at_ n ∧ tNext l at_ n < n := by
  unfold tNext
  split
  · have h := tapeVal_range (l.getD at_ 0)
    exact ⟨Int.tmod_nonneg _ h.1, Int.tmod_lt_of_pos _ hn⟩
  · omega
theorem tAt_le {l : List Int} {at_ : Nat} (h : at_ ≤ l.length) : tAt l at_ ≤ l.length := by unfold tAt; split <;> omega
abbrev tapeC (ad : Nat) (a : Option Addr) (n c at_ : Nat) : Chunk := .box 1000 ad 57 [.sl a n c, .i .i64 at_]
theorem new_ok (a : Option Addr) (n c : Nat) : FnS Tryz.prog 12 [.c (.sl a n c)] [] [] (fun v L D => ∃ ad, v = .c (.p 1000 ad 0) ∧ L = [tapeC ad a n c 0] ∧ D = []) := by
  refine fn_of_J Tryz.tyOK 1000 Tryz.func12 (by kernel_rfl) (c := Tryz.f12.body.getD .skip) (by kernel_rfl) Tryz.ntmps12 (rs := Tryz.f12.results.toList) rfl (by simp) (fun G => ?_)
  repeat' first
    | refine J_seq ?_ | refine J_region Tryz.tyOK ?_ | refine J_block ?_ | refine J_cond ?_ | refine J_ret ?_ | refine J_skip ?_ | refine J_exit ?_ | refine J_scope ?_
    | refine CondP.yes (by omega) ?_ | refine CondP.no (by omega) ?_ | refine CondP.mk (fun h => ?_) (fun h => ?_) | refine EqP.mk rfl ?_ | refine NewP.mk (fun ad => ?_) | refine ArP.exact (by simp only [inR]; omega) ?_ | refine SideP.mk (by first | omega | (dsimp only; omega) | (simp; omega)) ?_
    | exact FinE.mk _ [] ⟨_, rfl, rfl, rfl⟩ (Ents.refl _ _)
    | fail
theorem next_ok (e : Nat) (a : Option Addr) (c ad at_ : Nat) (l : List Int) (n : Int) (hn : 0 < n) (hat : at_ ≤ l.length) (hl : l.length ≤ maxLen) : FnS Tryz.prog 35 [.c (.p 1000 ad 0), .c (.i .i64 n)] [tapeC ad a l.length c at_] [slFact e 1 a l.length (l.map (C.i .i64))]
    (fun v L D => v = .c (.i .i64 (tNext l at_ n)) ∧ L = [tapeC ad a l.length c (tAt l at_)] ∧ D = []) := by
  simp only [maxLen] at hl
  have hrd : ∀ L, Reads L [slFact e 1 a l.length (l.map (C.i .i64))] e 1 a l.length (l.map (C.i .i64)) := fun L => .inr fun m h => h.1
  have hx := tapeVal_range (l.getD at_ 0)
  unfold tNext tAt
  by_cases hlt : at_ < l.length
  · have hg : ((l.map (C.i .i64)).drop (at_ * 1 + 0)).take 1 = [C.i .i64 (l.getD at_ 0)] := by rw [map_take1 hlt]; simp [hlt]
    rw [if_pos hlt, if_pos hlt]
    refine fn_of_J Tryz.tyOK 0 Tryz.func35 (by kernel_rfl) (c := Tryz.f35.body.getD .skip) (by kernel_rfl) Tryz.ntmps35 (rs := Tryz.f35.results.toList) rfl (by simp) (fun G => ?_)
    repeat' first
      | refine J_seq ?_ | refine J_region Tryz.tyOK ?_ | refine J_block ?_ | refine J_cond ?_ | refine J_ret ?_ | refine J_skip ?_ | refine J_exit ?_ | refine J_scope ?_
      | refine CondP.yes (by omega) ?_ | refine CondP.no (by omega) ?_ | refine CondP.mk (fun h => ?_) (fun h => ?_) | refine EqP.mk rfl ?_ | refine NewP.mk (fun ad => ?_) | refine ArP.exact (by simp only [inR]; omega) ?_ | refine SideP.mk (by first | omega | (dsimp only; omega) | (simp; omega)) ?_
      | refine J_drawS (id := 1) Tryz.tyOK (by kernel_rfl) [0, 1, 3, 7, 0, 16, 48, 112, 240, 511] [0, 1, 2, 3, 4, 5, 6, 7, 8, 9] [] [0] true (by kernel_rfl) ?_ | refine J_drawS (id := 3) Tryz.tyOK (by kernel_rfl) [0, 1, 3, 7, 0, 16, 48, 112, 255, 511, 1023, 2047] [0, 1, 2, 3, 4, 5, 6, 7, 8, 9, 10, 11] [] [0, 24] true (by kernel_rfl) ?_ | refine EntP.mk (Ents.ofSub (by repeat (first | exact List.Sublist.slnil | refine List.Sublist.cons_cons _ ?_ | refine List.Sublist.cons _ ?_)) (by first | exact fun _ h => h | exact fun _ _ => trivial | exact fun _ h => h.2 | exact fun _ h => h.2.2.2.2 | exact fun _ h => h.2.2 | exact fun _ h => h.2.2.2 | exact fun _ h => h.2.2.2.2.2 | exact fun _ h => h.2.2.2.2.2.2 | exact fun _ h => h.2.2.2.2.2.2.2 | exact fun _ h => h.2.2.2.2.2.2.2.2 | exact fun _ h => h.2.2.2.2.2.2.2.2.2 | exact fun _ h => h.2.2.2.2.2.2.2.2.2.2 | exact fun _ h => ((allD_append _ _).1 h).2)) ?_ | refine IdxE.mk e 1 _ (hrd _) (by omega) (by omega) ?_ | refine LoadE.mk e _ _ _ (hrd _) (by omega) (by omega) (by omega) hg ?_
      | fail
    refine FinE.mk _ [] ⟨rfl, rfl, rfl⟩ ((Ents.of ?_).trans (Ents.facts fun _ _ => trivial))
    rfl
  · rw [if_neg hlt, if_neg hlt]
    refine fn_of_J Tryz.tyOK 0 Tryz.func35 (by kernel_rfl) (c := Tryz.f35.body.getD .skip) (by kernel_rfl) Tryz.ntmps35 (rs := Tryz.f35.results.toList) rfl (by simp) (fun G => ?_)
    repeat' first
      | refine J_seq ?_ | refine J_region Tryz.tyOK ?_ | refine J_block ?_ | refine J_cond ?_ | refine J_ret ?_ | refine J_skip ?_ | refine J_exit ?_ | refine J_scope ?_
      | refine CondP.yes (by omega) ?_ | refine CondP.no (by omega) ?_ | refine CondP.mk (fun h => ?_) (fun h => ?_) | refine EqP.mk rfl ?_ | refine NewP.mk (fun ad => ?_) | refine ArP.exact (by simp only [inR]; omega) ?_ | refine SideP.mk (by first | omega | (dsimp only; omega) | (simp; omega)) ?_
      | refine J_drawS (id := 1) Tryz.tyOK (by kernel_rfl) [0, 1, 3, 7, 0, 16, 48, 112, 240, 511] [0, 1, 2, 3, 4, 5, 6, 7, 8, 9] [] [0] true (by kernel_rfl) ?_ | refine J_drawS (id := 3) Tryz.tyOK (by kernel_rfl) [0, 1, 3, 7, 0, 16, 48, 112, 255, 511, 1023, 2047] [0, 1, 2, 3, 4, 5, 6, 7, 8, 9, 10, 11] [] [0, 24] true (by kernel_rfl) ?_ | refine EntP.mk (Ents.ofSub (by repeat (first | exact List.Sublist.slnil | refine List.Sublist.cons_cons _ ?_ | refine List.Sublist.cons _ ?_)) (by first | exact fun _ h => h | exact fun _ _ => trivial | exact fun _ h => h.2 | exact fun _ h => h.2.2.2.2 | exact fun _ h => h.2.2 | exact fun _ h => h.2.2.2 | exact fun _ h => h.2.2.2.2.2 | exact fun _ h => h.2.2.2.2.2.2 | exact fun _ h => h.2.2.2.2.2.2.2 | exact fun _ h => h.2.2.2.2.2.2.2.2 | exact fun _ h => h.2.2.2.2.2.2.2.2.2 | exact fun _ h => h.2.2.2.2.2.2.2.2.2.2 | exact fun _ h => ((allD_append _ _).1 h).2)) ?_ | exact FinE.mk _ [] ⟨rfl, rfl, rfl⟩ (Ents.facts fun _ _ => trivial)
      | fail
theorem of_ok (e e2 : Nat) (a b : Option Addr) (c d m ad at_ : Nat) (l : List Int) (xs : List (List UInt8)) (hm : m = xs.length) (h0 : 0 < m) (hat : at_ ≤ l.length) (hl : l.length ≤ maxLen) :
    FnS Tryz.prog 36 [.c (.p 1000 ad 0), .c (.sl b m d)] [tapeC ad a l.length c at_] [slFact e 1 a l.length (l.map (C.i .i64)), slFact e2 1 b m (xs.map C.s)]
    (fun v L D => v = .c (.s (xs.getD (tNext l at_ m).toNat [])) ∧ L = [tapeC ad a l.length c (tAt l at_)] ∧ D = []) := by
  subst hm
  have hr := tNext_range l at_ (n := (xs.length : Int)) (by omega)
  have c1 := next_ok e a c ad at_ l xs.length (by omega) hat hl
  generalize tNext l at_ xs.length = k at *
  have hg : ((xs.map C.s).drop (k.toNat * 1 + 0)).take 1 = [C.s (xs.getD k.toNat [])] := by rw [map_take1 (by omega)]; simp [show k.toNat < xs.length by omega]
  have hrd : ∀ L D, Reads L (D ++ [slFact e 1 a l.length (l.map (C.i .i64)), slFact e2 1 b xs.length (xs.map C.s)]) e2 1 b xs.length (xs.map C.s) := fun L D => .inr fun m h => ((allD_append _ _).1 h).2.2.1
  refine fn_of_J Tryz.tyOK 0 Tryz.func36 (by kernel_rfl) (c := Tryz.f36.body.getD .skip) (by kernel_rfl) Tryz.ntmps36 (rs := Tryz.f36.results.toList) rfl (by simp) (fun G => ?_)
  repeat' first
    | refine J_seq ?_ | refine J_region Tryz.tyOK ?_ | refine J_block ?_ | refine J_cond ?_ | refine J_ret ?_ | refine J_skip ?_ | refine J_exit ?_ | refine J_scope ?_
    | refine CondP.yes (by omega) ?_ | refine CondP.no (by omega) ?_ | refine CondP.mk (fun h => ?_) (fun h => ?_) | refine EqP.mk rfl ?_ | refine NewP.mk (fun ad => ?_) | refine ArP.exact (by simp only [inR]; omega) ?_ | refine SideP.mk (by first | omega | (dsimp only; omega) | (simp; omega)) ?_
    | refine CallP.mk [_] [] [_] _ c1 (by simp) (fun _ h => ⟨h.1, trivial⟩) (fun v L' D' hp => ?_); obtain ⟨rfl, rfl, rfl⟩ := hp | refine IdxE.mk e2 1 _ (hrd _ []) (by omega) (by omega) ?_ | refine LoadE.mk e2 _ _ _ (hrd _ []) (by omega) (by omega) (by omega) hg ?_ | exact FinE.mk _ [] ⟨rfl, rfl, rfl⟩ (Ents.facts fun _ _ => trivial)
    | fail
def tapeNames : List (List UInt8) := [[65], [66], [65, 47, 66], [67], [84], [85, 47, 120], [65, 47, 66, 47, 99], [76, 111, 110, 103, 32, 110, 97, 109, 101], [49], [88]]
theorem tapeTitle_ok (e : Nat) (a : Option Addr) (c ad at_ : Nat) (l : List Int) (hat : at_ ≤ l.length) (hl : l.length ≤ maxLen) : FnS Tryz.prog 13 [.c (.p 1000 ad 0)] [tapeC ad a l.length c at_] [slFact e 1 a l.length (l.map (C.i .i64))]
    (fun v L D => v = .agg [.i .i64 (tNext l at_ 6), .s (tapeNames.getD (tNext l (tAt l at_) 10).toNat [])] ∧ L = [tapeC ad a l.length c (tAt l (tAt l at_))] ∧ D = []) := by
  have c1 := next_ok e a c ad at_ l 6 (by omega) hat hl
  have c2 := fun b d => of_ok e 9 a b c d 10 ad (tAt l at_) l tapeNames rfl (by decide) (tAt_le hat) hl
  refine fn_of_J Tryz.tyOK 2000 Tryz.func13 (by kernel_rfl) (c := Tryz.f13.body.getD .skip) (by kernel_rfl) Tryz.ntmps13 (rs := Tryz.f13.results.toList) rfl (by simp) (fun G => ?_)
  repeat' first
    | refine J_seq ?_ | refine J_region Tryz.tyOK ?_ | refine J_block ?_ | refine J_cond ?_ | refine J_ret ?_ | refine J_skip ?_ | refine J_exit ?_ | refine J_scope ?_
    | refine CondP.yes (by omega) ?_ | refine CondP.no (by omega) ?_ | refine CondP.mk (fun h => ?_) (fun h => ?_) | refine EqP.mk rfl ?_ | refine NewP.mk (fun ad => ?_) | refine ArP.exact (by simp only [inR]; omega) ?_ | refine SideP.mk (by first | omega | (dsimp only; omega) | (simp; omega)) ?_
    | refine CallP.mk [_] [_] [_] _ c1 (List.Perm.swap _ _ _) (fun _ h => h) (fun v L' D' hp => ?_); obtain ⟨rfl, rfl, rfl⟩ := hp | refine CallP.mkE [_] [_] _ _ _ (c2 _ _) (Ents.toFact.trans (Ents.refl _ _)) (fun _ h => ⟨h.2.1, h.1, trivial⟩) (fun v L' D' hp => ?_); obtain ⟨rfl, rfl, rfl⟩ := hp | refine FinE.mk _ [] ⟨rfl, rfl, rfl⟩ ((Ents.perm (List.Perm.swap _ _ _)).trans (Ents.drop.trans (Ents.facts fun _ _ => trivial)))
    | fail
end Go.Proofs
namespace Go.X
open Go
variable [Sm : Inhabited Manner] [Df : Inhabited (List Deferred)]
variable {P : Program} {G : Ent} {ops : Array Oper} {eff : Nat → Bool} {z : Nat} {L0 : List Chunk} {D0 : List Fact} {Te : Act → List Chunk → List Fact → Prop} {dep : Nat → Nat → Bool}
inductive Plan where
  | leaf (r : List Nat)
  | node (pre : List Nat) (e1 : Nat) (p1 : Plan) (e2 : Nat) (p2 : Plan)
  | node3 (pre : List Nat) (e1 : Nat) (p1 : Plan) (e2 : Nat) (p2 : Plan) (e3 : Nat) (p3 : Plan)
def Plan.flat : Plan → List Nat
  | .leaf r => r
  | .node pre e1 p1 _ _ => pre ++ e1 :: p1.flat
  | .node3 pre e1 p1 _ _ _ _ => pre ++ e1 :: p1.flat
def ndB : List Nat → Bool
  | [] => true
  | x :: r => !r.contains x && ndB r
theorem nd_spec : ∀ {l : List Nat}, ndB l = true → l.Nodup
  | [], _ => .nil
  | x :: r, h => by
    simp only [ndB, Bool.and_eq_true, Bool.not_eq_true'] at h
    exact List.nodup_cons.2 ⟨contains_not h.1, nd_spec h.2⟩
def apartB (ops : Array Oper) (j k : Nat) : Bool := j != k && !directB ops j k
theorem apart_spec {j k : Nat} (h : apartB ops j k = true) : j ≠ k ∧ directB ops j k = false := by
  simp only [apartB, Bool.and_eq_true, bne_iff_ne, Bool.not_eq_true'] at h; exact h
end Go.X
