/- This text walks through the functions prefixed, cut, blanks and Parts of the reference of chapter 1. -/
import Derived.Test.YtdnkeinjfddmnaaGreatDoorRef1a
set_option linter.all false

namespace Go.Proofs
open Go Go.X
set_option maxRecDepth 100000

theorem prefixed_ok (s : List UInt8) (hs : s.length ≤ 1000000) : FnS Tryz.prog 69 [.c (.s s)] [] []
    (Is (.t2 (.c (.i .i64 (colonNo s))) (.c (.i .i64 (if colonNo s = 0 then 0 else ((cutAt 58 s).1.length : Int)))))) := by
  have c1 := index_ok s [58] 0 hs (by decide) (by decide) (by omega)
  have hr : refIdx s [58] 0 = if (cutAt 58 s).2.2 = true then ((cutAt 58 s).1.length : Int) else -1 := by
    rw [← index_cut]
    unfold refIdx
    rw [List.drop_zero]
    split
    · rename_i h; rw [h]
    · omega
  rw [hr] at c1
  have hl := cutAt_len1 58 s
  cases hc : (cutAt 58 s).2.2 with
  | false =>
    have e : colonNo s = 0 := by simp [colonNo, hc]
    rw [hc, if_neg (by decide)] at c1
    rw [e]
    refine fn_of_J Tryz.tyOK 0 Tryz.func69 (by kernel_rfl) (c := Tryz.f69.body.getD .skip) (by kernel_rfl) Tryz.ntmps69 (rs := Tryz.f69.results.toList) rfl (by simp) (fun G => ?_)
    repeat' first
      | refine J_seq ?_ | refine J_region Tryz.tyOK ?_ | refine J_block ?_ | refine J_cond ?_ | refine J_ret ?_ | refine J_skip ?_ | refine J_exit ?_ | refine J_scope ?_
      | refine CondP.yes (by omega) ?_ | refine CondP.no (by omega) ?_ | refine CondP.mk (fun h => ?_) (fun h => ?_) | refine EqP.mk rfl ?_ | refine NewP.mk (fun ad => ?_) | refine ArP.exact (by simp only [inR]; omega) ?_ | refine SideP.mk (by first | omega | (dsimp only; omega) | (simp; omega)) ?_
      | refine CallP.is c1 ?_ | refine FinE.is ?_
      | fail
    all_goals rfl
  | true =>
    have e : colonNo s = spaceNo (noEnd (cutAt 58 s).1) := by rw [noEnd_eq]; simp [colonNo, hc]
    have ht := cutAt_take 58 s
    rw [hc, if_pos rfl] at c1
    rw [e]
    generalize (cutAt 58 s).1 = p at *
    obtain ⟨q, hq⟩ : ∃ q, noEnd p = q := ⟨_, rfl⟩
    have hql : q.length ≤ p.length := by
      rw [← hq]; unfold noEnd; split
      · simp
      · exact Nat.le_refl _
    rw [hq]
    refine fn_of_J Tryz.tyOK 0 Tryz.func69 (by kernel_rfl) (c := Tryz.f69.body.getD .skip) (by kernel_rfl) Tryz.ntmps69 (rs := Tryz.f69.results.toList) rfl (by simp) (fun G => ?_)
    repeat' first
      | refine J_cut (x := .seq (.region 5 _ _) _) (α := Unit) (fun _ => [(0, .c (.s s)), (4, .c (.i .i64 p.length)), (5, .c (.s q))]) (fun _ => []) (fun _ => []) 0 (fun _ => True) ?_ (fun _ _ => ?_) | refine J_cut (x := .region 4 _ _) (α := Unit) (fun _ => [(0, .c (.s s)), (4, .c (.i .i64 p.length)), (5, .c (.s p))]) (fun _ => []) (fun _ => []) 0 (fun _ => True) ?_ (fun _ _ => ?_)
      | refine J_seq ?_ | refine J_region Tryz.tyOK ?_ | refine J_block ?_ | refine J_cond ?_ | refine J_ret ?_ | refine J_skip ?_ | refine J_exit ?_ | refine J_scope ?_
      | refine CondP.yes (by omega) ?_ | refine CondP.no (by omega) ?_ | refine CondP.mk (fun h => ?_) (fun h => ?_) | refine EqP.mk rfl ?_ | refine NewP.mk (fun ad => ?_) | refine ArP.exact (by simp only [inR]; omega) ?_ | refine SideP.mk (by first | omega | (dsimp only; omega) | (simp; omega)) ?_
      | refine CallP.is c1 ?_ | refine FinE.is ?_ | refine InFam.mk () trivial (SubE.cons rfl (VEq.refl _) (SubE.cons rfl (VEq.refl _) (SubE.cons rfl (VEq.str ?_) SubE.nil))) (Ents.refl _ _) | refine J_rounds 6 ?_ | refine JR_succ ?_ | refine CallP.is (spaceName_ok _) ?_ | refine CallP.isB (sameLetters_ok q _ (by omega)) (fun h => ?_) (fun h => ?_)
      | fail
    · exact ht
    · rw [← hq]; unfold noEnd; (try simp only [Int.toNat_natCast, Int.toNat_zero] at *); simp only [*, decide_true, decide_false, Bool.true_and, Bool.false_and, Bool.and_true, Bool.and_false, Bool.not_true, Bool.not_false, Bool.true_or, Bool.false_or, Bool.or_true, Bool.or_false, not_true, not_false_eq_true, ne_eq, if_true, if_false, Bool.false_eq_true]
    · rw [← hq]; unfold noEnd; (try simp only [Int.toNat_natCast, Int.toNat_zero] at *); simp only [*, decide_true, decide_false, Bool.true_and, Bool.false_and, Bool.and_true, Bool.and_false, Bool.not_true, Bool.not_false, Bool.true_or, Bool.false_or, Bool.or_true, Bool.or_false, not_true, not_false_eq_true, ne_eq, if_true, if_false, Bool.false_eq_true]
    · rw [← hq]; unfold noEnd; (try simp only [Int.toNat_natCast, Int.toNat_zero] at *); simp only [*, decide_true, decide_false, Bool.true_and, Bool.false_and, Bool.and_true, Bool.and_false, Bool.not_true, Bool.not_false, Bool.true_or, Bool.false_or, Bool.or_true, Bool.or_false, not_true, not_false_eq_true, ne_eq, if_true, if_false, Bool.false_eq_true]
    all_goals
      have hk : ∃ k, spaceNo q = k := ⟨_, rfl⟩
      obtain ⟨k, hk⟩ := hk
      have hk' := hk
      unfold spaceNo at hk
      repeat (first | rw [if_pos (of_decide_eq_true (by assumption))] at hk | rw [if_neg (of_decide_eq_false (by assumption))] at hk)
      subst hk
      rw [hk']
      rfl

end Go.Proofs
