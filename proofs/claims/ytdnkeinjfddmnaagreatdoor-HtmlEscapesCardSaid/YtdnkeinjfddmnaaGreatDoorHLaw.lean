/- This text walks through the sanity check of chapter 20 and the functions of its laws on texts and paths. -/
import Derived.Test.YtdnkeinjfddmnaaGreatDoorHKn
import Derived.Test.YtdnkeinjfddmnaaGreatDoorHEscL
import Derived.Test.YtdnkeinjfddmnaaGreatDoorHEsc
import Derived.Test.YtdnkeinjfddmnaaGreatDoorHRef
set_option linter.all false

namespace Go.Proofs
open Go Go.X
set_option maxRecDepth 100000

theorem known_para : pOpen ++ escT [97, 60, 98] ++ pEnd = [60, 112, 62, 97, 38, 108, 116, 59, 98, 60, 47, 112, 62, 10] := by decide
theorem known_path : pathT 0 [65, 32, 98] = [47, 119, 105, 107, 105, 47, 65, 95, 98] := by decide +kernel

theorem known_ok : FnS Tryz.prog 11 [] [] [gInt 0] (Is (.c (.b true))) := by
  have hp := paragraph_ok [97, 60, 98]
  have hpa := path_ok 0 [65, 32, 98] (by decide)
  rw [known_path] at hpa
  have he := escape_ok [38] (by decide)
  refine fn_of_J Tryz.tyOK 0 Tryz.func11 (by kernel_rfl) (c := Tryz.f11.body.getD .skip) (by kernel_rfl) Tryz.ntmps11 (rs := Tryz.f11.results.toList) rfl (by simp) (fun G => ?_)
  repeat' first
    | refine CondP.yes known_para ?_ | refine CondP.yes rfl ?_
    | refine J_seq ?_ | refine J_region Tryz.tyOK ?_ | refine J_block ?_ | refine J_cond ?_ | refine J_ret ?_ | refine J_skip ?_ | refine J_exit ?_ | refine J_scope ?_
    | refine CondP.yes (by omega) ?_ | refine CondP.no (by omega) ?_ | refine CondP.mk (fun h => ?_) (fun h => ?_) | refine EqP.mk rfl ?_ | refine NewP.mk (fun ad => ?_) | refine ArP.exact (by simp only [inR]; omega) ?_ | refine SideP.mk (by first | omega | (dsimp only; omega) | (simp; omega)) ?_
    | (refine CallP.mk [] _ _ _ hp (List.Perm.refl _) (fun _ _ => trivial) (fun v L' D' hq => ?_); obtain ⟨ba, ia, bc, ic, rfl, rfl, rfl⟩ := hq) | refine CallP.is (renderPara ba ia bc ic [97, 60, 98] (by decide)) ?_ (fun _ h => ⟨h.1, h.2.1, trivial⟩) | refine CallP.is hpa ?_ (fun _ h => ⟨h.2.2.1, trivial⟩) | refine CallP.is he ?_ | refine FinE.bool rfl
    | fail
  all_goals trace_state

theorem htmlEscapes_law (a b : List UInt8) : FnS Tryz.prog 5 [.c (.s a), .c (.s b)] [] [gInt 0] (Is (.c (.b true))) := by
  have hinj : escT a = escT b ↔ a = b := ⟨escT_inj, fun h => by rw [h]⟩
  have happ := escT_append a b
  have h1 := escT_le a
  have h2 := escT_le b
  by_cases hla : a.length ≤ 300
  · by_cases hlb : b.length ≤ 300
    · have ea := escape_ok a (by omega)
      have eb := escape_ok b (by omega)
      have eab := escape_ok (a ++ b) (by rw [List.length_append]; omega)
      rw [happ] at eab
      refine fn_of_J Tryz.tyOK 0 Tryz.func5 (by kernel_rfl) (c := Tryz.f5.body.getD .skip) (by kernel_rfl) Tryz.ntmps5 (rs := Tryz.f5.results.toList) rfl (by simp) (fun G => ?_)
      by_cases he : a = b
      · have he2 := hinj.2 he
        repeat' first
          | refine CondP.yes rfl ?_ | refine CondP.yes he2 ?_ | refine CondP.yes he ?_
          | refine J_seq ?_ | refine J_region Tryz.tyOK ?_ | refine J_block ?_ | refine J_cond ?_ | refine J_ret ?_ | refine J_skip ?_ | refine J_exit ?_ | refine J_scope ?_
          | refine CondP.yes (by omega) ?_ | refine CondP.no (by omega) ?_ | refine CondP.mk (fun h => ?_) (fun h => ?_) | refine EqP.mk rfl ?_ | refine NewP.mk (fun ad => ?_) | refine ArP.exact (by simp only [inR]; omega) ?_ | refine SideP.mk (by first | omega | (dsimp only; omega) | (simp; omega)) ?_
          | refine CallP.is ea ?_ | refine CallP.is eb ?_ | refine CallP.is eab ?_ | refine CallP.is known_ok ?_ | refine FinE.bool rfl
          | fail
        all_goals trace_state
      · have he2 := fun h => he (hinj.1 h)
        repeat' first
          | refine CondP.yes rfl ?_ | refine CondP.no he2 ?_ | refine CondP.no he ?_
          | refine J_seq ?_ | refine J_region Tryz.tyOK ?_ | refine J_block ?_ | refine J_cond ?_ | refine J_ret ?_ | refine J_skip ?_ | refine J_exit ?_ | refine J_scope ?_
          | refine CondP.yes (by omega) ?_ | refine CondP.no (by omega) ?_ | refine CondP.mk (fun h => ?_) (fun h => ?_) | refine EqP.mk rfl ?_ | refine NewP.mk (fun ad => ?_) | refine ArP.exact (by simp only [inR]; omega) ?_ | refine SideP.mk (by first | omega | (dsimp only; omega) | (simp; omega)) ?_
          | refine CallP.is ea ?_ | refine CallP.is eb ?_ | refine CallP.is eab ?_ | refine CallP.is known_ok ?_ | refine FinE.bool rfl
          | fail
        all_goals trace_state
    · refine fn_of_J Tryz.tyOK 0 Tryz.func5 (by kernel_rfl) (c := Tryz.f5.body.getD .skip) (by kernel_rfl) Tryz.ntmps5 (rs := Tryz.f5.results.toList) rfl (by simp) (fun G => ?_)
      repeat' first
        | refine J_seq ?_ | refine J_region Tryz.tyOK ?_ | refine J_block ?_ | refine J_cond ?_ | refine J_ret ?_ | refine J_skip ?_ | refine J_exit ?_ | refine J_scope ?_
        | refine CondP.yes (by omega) ?_ | refine CondP.no (by omega) ?_ | refine CondP.mk (fun h => ?_) (fun h => ?_) | refine EqP.mk rfl ?_ | refine NewP.mk (fun ad => ?_) | refine ArP.exact (by simp only [inR]; omega) ?_ | refine SideP.mk (by first | omega | (dsimp only; omega) | (simp; omega)) ?_
        | refine CallP.is known_ok ?_ | refine FinE.bool rfl
        | fail
  · refine fn_of_J Tryz.tyOK 0 Tryz.func5 (by kernel_rfl) (c := Tryz.f5.body.getD .skip) (by kernel_rfl) Tryz.ntmps5 (rs := Tryz.f5.results.toList) rfl (by simp) (fun G => ?_)
    repeat' first
      | refine J_seq ?_ | refine J_region Tryz.tyOK ?_ | refine J_block ?_ | refine J_cond ?_ | refine J_ret ?_ | refine J_skip ?_ | refine J_exit ?_ | refine J_scope ?_
      | refine CondP.yes (by omega) ?_ | refine CondP.no (by omega) ?_ | refine CondP.mk (fun h => ?_) (fun h => ?_) | refine EqP.mk rfl ?_ | refine NewP.mk (fun ad => ?_) | refine ArP.exact (by simp only [inR]; omega) ?_ | refine SideP.mk (by first | omega | (dsimp only; omega) | (simp; omega)) ?_
      | refine CallP.is known_ok ?_ | refine FinE.bool rfl
      | fail

end Go.Proofs
