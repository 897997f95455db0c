/- This text walks through the function Valid of the package title. -/
import Derived.Test.YtdnkeinjfddmnaaGreatDoorWTitle
set_option linter.all false

namespace Go.Proofs
open Go Go.X
set_option maxRecDepth 100000

theorem valid_ok (sp : Int) (s : List UInt8) (hs : s.length ≤ 1000000) : FnS Tryz.prog 80 [.agg [.i .i64 sp, .s s]] [] [gInt 0] (Is (.c (.b (validT sp s)))) := by
  refine fn_of_J Tryz.tyOK 0 Tryz.func80 (by kernel_rfl) (c := Tryz.f80.body.getD .skip) (by kernel_rfl) Tryz.ntmps80 (rs := Tryz.f80.results.toList) rfl (by simp) (fun G => ?_)
  cases hcl : cleanB false s
  · repeat' first
      | refine J_seq ?_ | refine J_region Tryz.tyOK ?_ | refine J_block ?_ | refine J_cond ?_ | refine J_ret ?_ | refine J_skip ?_ | refine J_exit ?_ | refine J_scope ?_
      | refine CondP.yes (by omega) ?_ | refine CondP.no (by omega) ?_ | refine CondP.mk (fun h => ?_) (fun h => ?_) | refine EqP.mk rfl ?_ | refine NewP.mk (fun ad => ?_) | refine ArP.exact (by simp only [inR]; omega) ?_ | refine SideP.mk (by first | omega | (dsimp only; omega) | (simp; omega)) ?_
      | refine CallP.is (clean_ok s hs) ?_ | rw [hcl] | refine FinE.bool ?_
      | fail
    all_goals ((try simp only [Int.toNat_natCast, Int.toNat_zero] at *); simp only [validT, *, decide_true, decide_false, Bool.true_and, Bool.false_and, Bool.and_true, Bool.and_false, Bool.not_true, Bool.not_false, Bool.true_or, Bool.false_or, Bool.or_true, Bool.or_false, not_true, not_false_eq_true, ne_eq, if_true, if_false, Bool.false_eq_true]; try rfl)
  · repeat' first
      | refine J_seq ?_ | refine J_region Tryz.tyOK ?_ | refine J_block ?_ | refine J_cond ?_ | refine J_ret ?_ | refine J_skip ?_ | refine J_exit ?_ | refine J_scope ?_
      | refine CondP.yes (by omega) ?_ | refine CondP.no (by omega) ?_ | refine CondP.mk (fun h => ?_) (fun h => ?_) | refine EqP.mk rfl ?_ | refine NewP.mk (fun ad => ?_) | refine ArP.exact (by simp only [inR]; omega) ?_ | refine SideP.mk (by first | omega | (dsimp only; omega) | (simp; omega)) ?_
      | refine CallP.is (clean_ok s hs) ?_ | rw [hcl] | refine FinE.bool ?_ | refine CallP.mk [] _ _ _ (splitOne_ok s 47 (by omega)) (List.Perm.refl _) (fun _ h => h) (fun v L' D' hp => ?_); obtain ⟨g, rfl, rfl, rfl⟩ := hp
      | fail
    rotate_right
    · refine J_loop (α := Nat) (fun i => [(37, .c (.i .i64 i)), (36, lenV (splitOn 47 s).length), (35, .c (.sl (some ⟨g, 0, none⟩) (splitOn 47 s).length (splitOn 47 s).length)), (3, .c (.s s)), (1, .c (.p 0 ad 0))])
        (fun _ => [.box 0 ad 23 [.i .i64 sp, .s s]]) (fun _ => [slFact 9 1 (some ⟨g, 0, none⟩) (splitOn 47 s).length ((splitOn 47 s).map C.s), gInt 0]) 1
        (fun i => i ≤ (splitOn 47 s).length ∧ (splitOn 47 s).all pieceOK = ((splitOn 47 s).drop i).all pieceOK) (fun i => (splitOn 47 s).length - i)
        (InFam.mk 0 ⟨by omega, rfl⟩ (by repeat' first | exact SubE.nil | refine SubE.cons rfl ?_ ?_ | exact VEq.refl _ | refine VEq.int (by omega) | refine VEq.sl rfl (by first | rfl | omega | (rw [List.length_append]; rfl) | (simp; omega)) rfl) Ents.toFact) (fun i hi => ?_)
      obtain ⟨hi, hal⟩ := hi
      have hsl := splitOn_length_le 47 s
      by_cases hlt : i < (splitOn 47 s).length
      · have hrd : Reads [.box 0 ad 23 [.i .i64 sp, .s s]] [slFact 9 1 (some ⟨g, 0, none⟩) (splitOn 47 s).length ((splitOn 47 s).map C.s), gInt 0] 9 1 (some ⟨g, 0, none⟩) (splitOn 47 s).length ((splitOn 47 s).map C.s) :=
          .inr fun m h => h.1
        rw [List.drop_eq_getElem_cons hlt, List.all_cons] at hal
        have hpl := mem_splitOn_le 47 s _ (List.getElem_mem hlt)
        repeat' first
          | refine J_seq ?_ | refine J_region Tryz.tyOK ?_ | refine J_block ?_ | refine J_cond ?_ | refine J_ret ?_ | refine J_skip ?_ | refine J_exit ?_ | refine J_scope ?_
          | refine CondP.yes (by omega) ?_ | refine CondP.no (by omega) ?_ | refine CondP.mk (fun h => ?_) (fun h => ?_) | refine EqP.mk rfl ?_ | refine NewP.mk (fun ad => ?_) | refine ArP.exact (by simp only [inR]; omega) ?_ | refine SideP.mk (by first | omega | (dsimp only; omega) | (simp; omega)) ?_
          | refine IdxE.mk 9 1 _ hrd (by omega) (by omega) ?_ | refine LoadE.mk 9 _ _ [C.s (splitOn 47 s)[i]] hrd (by omega) (by omega) (by omega) (map_take1 hlt) ?_ | refine SideP.mk (by have := pos_of_ne ‹¬ (splitOn 47 s)[i] = []›; omega) ?_ | refine FinE.bool ?_ | refine Round.mk (i + 1) (by omega) ⟨by omega, ?_⟩ (by repeat' first | exact SubE.nil | refine SubE.cons rfl ?_ ?_ | exact VEq.refl _ | refine VEq.int (by omega) | refine VEq.sl rfl (by first | rfl | omega | (rw [List.length_append]; rfl) | (simp; omega)) rfl) (Ents.refl _ _)
          | fail
        all_goals ((try simp only [Int.toNat_natCast, Int.toNat_zero] at *); simp only [validT, pieceOK, *, decide_true, decide_false, Bool.true_and, Bool.false_and, Bool.and_true, Bool.and_false, Bool.not_true, Bool.not_false, Bool.true_or, Bool.false_or, Bool.or_true, Bool.or_false, not_true, not_false_eq_true, ne_eq, if_true, if_false, Bool.false_eq_true]; try rfl)
      · have hil : i = (splitOn 47 s).length := by omega
        subst hil
        simp only [List.drop_length, List.all_nil] at hal
        have e : ∀ b : Bool, b = (headOK s && (!decide (sp = 0) || !decide (colonNo s ≠ 0))) → validT sp s = b := by
          rintro b rfl
          (try simp only [Int.toNat_natCast, Int.toNat_zero] at *); simp only [validT, *, decide_true, decide_false, Bool.true_and, Bool.false_and, Bool.and_true, Bool.and_false, Bool.not_true, Bool.not_false, Bool.true_or, Bool.false_or, Bool.or_true, Bool.or_false, not_true, not_false_eq_true, ne_eq, if_true, if_false, Bool.false_eq_true]
        cases hn : decide (colonNo s ≠ 0) <;>
        (rw [hn] at e
         repeat' first
           | refine J_seq ?_ | refine J_region Tryz.tyOK ?_ | refine J_block ?_ | refine J_cond ?_ | refine J_ret ?_ | refine J_skip ?_ | refine J_exit ?_ | refine J_scope ?_
           | refine CondP.yes (by omega) ?_ | refine CondP.no (by omega) ?_ | refine CondP.mk (fun h => ?_) (fun h => ?_) | refine EqP.mk rfl ?_ | refine NewP.mk (fun ad => ?_) | refine ArP.exact (by simp only [inR]; omega) ?_ | refine SideP.mk (by first | omega | (dsimp only; omega) | (simp; omega)) ?_
           | refine FinE.bool (e _ ?_) | refine CallP.is (prefix_ok s hs) ?_ | rw [hn]
           | fail
         all_goals (clear e; (try simp only [Int.toNat_natCast, Int.toNat_zero] at *); simp only [headOK, *, decide_true, decide_false, Bool.true_and, Bool.false_and, Bool.and_true, Bool.and_false, Bool.not_true, Bool.not_false, Bool.true_or, Bool.false_or, Bool.or_true, Bool.or_false, not_true, not_false_eq_true, ne_eq, if_true, if_false, Bool.false_eq_true]; try rfl))
    all_goals ((try simp only [Int.toNat_natCast, Int.toNat_zero] at *); simp only [validT, *, decide_true, decide_false, Bool.true_and, Bool.false_and, Bool.and_true, Bool.and_false, Bool.not_true, Bool.not_false, Bool.true_or, Bool.false_or, Bool.or_true, Bool.or_false, not_true, not_false_eq_true, ne_eq, if_true, if_false, Bool.false_eq_true]; try rfl)

end Go.Proofs
