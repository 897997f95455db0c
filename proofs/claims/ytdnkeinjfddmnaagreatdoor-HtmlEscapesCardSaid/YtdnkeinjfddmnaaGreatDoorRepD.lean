/- This text gives the contract of buildOnce: the replacer's algorithm is built. -/
import Derived.Test.YtdnkeinjfddmnaaGreatDoorRepC
set_option linter.all false

namespace Go.Proofs
open Go Go.X
set_option maxRecDepth 100000

/-- The algorithm that stands for the parts t. -/
def RT.val (t : RT) : C := .raw (.iface 200 (.pointer (some ⟨t.g, 0, none⟩)))

def BuiltQ : C → C → List Chunk → List Fact → Prop := fun r z R D => R = [] ∧ z = .sl none 0 0 ∧ ∃ t : RT, r = t.val ∧ ∃ D', D = t.facts ++ D'

theorem buildOnce_ok (ab : Nat) (a0 : Option Addr) (c0 : Nat) : FnS Tryz.prog 78 [.c (.p 0 ab 0)] [rb ab 0 1 (.raw .nilIface) (.sl a0 8 c0)] [slFact 9 1 a0 8 strs8] (BuiltP ab 0 1 BuiltQ) := by
  have c1 := build_ok ab a0 c0
  refine fn_of_J Tryz.tyOK 7000 Tryz.func78 (by kernel_rfl) (c := Tryz.f78.body.getD .skip) (by kernel_rfl) Tryz.ntmps78 (rs := Tryz.f78.results.toList) rfl (by simp) (fun G => ?_)
  repeat' first
    | refine J_seq ?_ | refine J_region Tryz.tyOK ?_ | refine J_block ?_ | refine J_cond ?_ | refine J_ret ?_ | refine J_skip ?_ | refine J_exit ?_ | refine J_scope ?_
    | refine CondP.yes (by omega) ?_ | refine CondP.no (by omega) ?_ | refine CondP.mk (fun h => ?_) (fun h => ?_) | refine EqP.mk rfl ?_ | refine NewP.mk (fun ad => ?_) | refine ArP.exact (by simp only [inR]; omega) ?_ | refine SideP.mk (by first | omega | (dsimp only; omega) | (simp; omega)) ?_
    | refine CallP.mk [_] [] _ _ c1 (List.Perm.refl _) (fun _ h => h) (fun v L' D' hp => ?_); obtain ⟨t, rfl, rfl, rfl⟩ := hp | refine FinE.mk [rb ab 0 1 t.val (.sl none 0 0)] _ ⟨_, _, [], rfl, rfl, rfl, rfl, t, rfl, _, rfl⟩ (Ents.refl _ _)
    | fail

theorem onceDone_ok (ab : Nat) (a0 : Option Addr) (c0 : Nat) : FnS Tryz.prog 77 [.c (.p 0 ab 0), onceF ab] [rb ab 0 0 (.raw .nilIface) (.sl a0 8 c0)] [slFact 9 1 a0 8 strs8] (BuiltP ab 1 0 BuiltQ) :=
  onceDo_ok ab _ _ [] _ BuiltQ (buildOnce_ok ab a0 c0) fun r z R D1 ⟨h1, h2, t, h3, D', h4⟩ => ⟨h1, h2, t, h3, D' ++ [slFact 9 1 a0 8 strs8], by subst h4; exact List.append_assoc _ _ _⟩

end Go.Proofs
