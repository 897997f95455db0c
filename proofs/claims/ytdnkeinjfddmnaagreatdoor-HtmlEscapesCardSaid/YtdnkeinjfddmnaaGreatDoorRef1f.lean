/- This text walks through the functions Ancestors and Format of the reference of chapter 1. -/
import Derived.Test.YtdnkeinjfddmnaaGreatDoorRef1e
import Derived.Test.YtdnkeinjfddmnaaGreatDoorWResolve
set_option linter.all false

namespace Go.Proofs
open Go Go.X
set_option maxRecDepth 100000

theorem refFormat_ok (sp : Int) (s : List UInt8) (hs : s.length ≤ 1000000) : FnS Tryz.prog 45 [.agg [.i .i64 sp, .s s]] [] [] (Is (.c (.s (formatT sp s)))) := by
  have hb := @validT_bounds sp s
  have hn := spName_le sp.toNat
  refine fn_of_J Tryz.tyOK 0 Tryz.func45 (by kernel_rfl) (c := Tryz.f45.body.getD .skip) (by kernel_rfl) Tryz.ntmps45 (rs := Tryz.f45.results.toList) rfl (by simp) (fun G => ?_)
  repeat' first
    | refine J_seq ?_ | refine J_region Tryz.tyOK ?_ | refine J_block ?_ | refine J_cond ?_ | refine J_ret ?_ | refine J_skip ?_ | refine J_exit ?_ | refine J_scope ?_
    | refine CondP.yes (by omega) ?_ | refine CondP.no (by omega) ?_ | refine CondP.mk (fun h => ?_) (fun h => ?_) | refine EqP.mk rfl ?_ | refine NewP.mk (fun ad => ?_) | refine ArP.exact (by simp only [inR]; omega) ?_ | refine SideP.mk (by first | omega | (dsimp only; omega) | (simp; omega)) ?_
    | refine CallP.isB (refValid_ok sp s hs) (fun hv => ?_) (fun hv => ?_) | refine FinE.str ?_ | refine J_draw Tryz.tyOK (by kernel_rfl) [0, 1, 2, 3, 4, 5, 6, 7] [] _ _ (by kernel_rfl) (Ents.refl _ _) ?_ | refine CallQ.mk [] _ (spaceName_ok _) (fun _ _ => trivial) ?_ | refine SideP.mk (by have := hb hv; simp; omega) ?_
    | fail
  all_goals
    unfold formatT
    repeat (first | rw [if_pos (by assumption)] | rw [if_neg (by assumption)] | rw [if_neg (by simp [*])])
    try rfl
end Go.Proofs
