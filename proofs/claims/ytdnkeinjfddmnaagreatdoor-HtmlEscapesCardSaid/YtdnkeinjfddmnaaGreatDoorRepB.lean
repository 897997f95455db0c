/- This text gives the contracts of the Once: doSlow and Do, where the function has not been called yet. -/
import Derived.Test.YtdnkeinjfddmnaaGreatDoorRepA
set_option linter.all false

namespace Go.Proofs
open Go Go.X
set_option maxRecDepth 100000

/-- The function value that the replacer hands to its Once. -/
def onceF (ab : Nat) : V := .c (.raw (.func (.func 78) #[(V.c (.p 0 ab 0)).enc] #[]))

/-- What is built: behind the call the lock is free and the word says that it was called. -/
def BuiltP (ab : Nat) (d m : Int) (Q : C → C → List Chunk → List Fact → Prop) : V → List Chunk → List Fact → Prop := fun v L D => ∃ r z R, v = .t0 ∧ L = rb ab d m r z :: R ∧ Q r z R D

theorem doSlow_ok (ab : Nat) (r z : C) (R : List Chunk) (D : List Fact) (Q : C → C → List Chunk → List Fact → Prop)
    (hf : FnS Tryz.prog 78 [.c (.p 0 ab 0)] (rb ab 0 1 r z :: R) D (BuiltP ab 0 1 Q)) (hQ : ∀ r z R D1, Q r z R D1 → Q r z R (D1 ++ D)) :
    FnS Tryz.prog 114 [.c (.p 0 ab 0), onceF ab] (rb ab 0 0 r z :: R) D (BuiltP ab 1 0 Q) := by
  have c1 := lock_ok ab r z
  have c2 := boolLoad_ok ab 1 r z
  refine fn_of_JD 7000 Tryz.func114 (by kernel_rfl) (c := Tryz.f114.body.getD .skip) (by kernel_rfl) Tryz.ntmps114 (by simp) (fun G => ?_)
  have hres : ∀ tmps w, (results Tryz.f114 tmps).run Tryz.prog w = .ok (.tuple #[]) w := fun tmps w => by simp [results, Tryz.results114]
  refine JD_seq ?_
  repeat' first
    | refine J_seq ?_ | refine J_region Tryz.tyOK ?_ | refine J_block ?_ | refine J_cond ?_ | refine J_ret ?_ | refine J_skip ?_ | refine J_exit ?_ | refine J_scope ?_
    | refine CondP.yes (by omega) ?_ | refine CondP.no (by omega) ?_ | refine CondP.mk (fun h => ?_) (fun h => ?_) | refine EqP.mk rfl ?_ | refine NewP.mk (fun ad => ?_) | refine ArP.exact (by simp only [inR]; omega) ?_ | refine SideP.mk (by first | omega | (dsimp only; omega) | (simp; omega)) ?_
    | refine CallP.mk [_] _ [] _ c1 (List.Perm.refl _) (fun _ _ => trivial) (fun v L' D' hp => ?_); obtain ⟨rfl, rfl, rfl⟩ := hp
    | fail
  refine JD_defer Tryz.tyOK ?_
  letI i1 : Inhabited (List Deferred) := dfI [(153, [.c (.p 0 ab 1)])]
  refine JD_seq ?_
  repeat' first
    | refine J_seq ?_ | refine J_region Tryz.tyOK ?_ | refine J_block ?_ | refine J_cond ?_ | refine J_ret ?_ | refine J_skip ?_ | refine J_exit ?_ | refine J_scope ?_
    | refine CondP.yes (by omega) ?_ | refine CondP.no (by omega) ?_ | refine CondP.mk (fun h => ?_) (fun h => ?_) | refine EqP.mk rfl ?_ | refine NewP.mk (fun ad => ?_) | refine ArP.exact (by simp only [inR]; omega) ?_ | refine SideP.mk (by first | omega | (dsimp only; omega) | (simp; omega)) ?_
    | refine CallP.mk [_] _ [] _ c2 (List.Perm.refl _) (fun _ _ => trivial) (fun v L' D' hp => ?_); obtain ⟨rfl, rfl, rfl⟩ := hp
    | fail
  refine JD_cond ?_
  refine JD_defer Tryz.tyOK ?_
  letI i2 : Inhabited (List Deferred) := dfI [(154, [.c (.p 0 ab 0), .c (.b true)]), (153, [.c (.p 0 ab 1)])]
  refine JD_end hres ?_
  repeat' first
    | refine J_seq ?_ | refine J_region Tryz.tyOK ?_ | refine J_block ?_ | refine J_cond ?_ | refine J_ret ?_ | refine J_skip ?_ | refine J_exit ?_ | refine J_scope ?_
    | refine CondP.yes (by omega) ?_ | refine CondP.no (by omega) ?_ | refine CondP.mk (fun h => ?_) (fun h => ?_) | refine EqP.mk rfl ?_ | refine NewP.mk (fun ad => ?_) | refine ArP.exact (by simp only [inR]; omega) ?_ | refine SideP.mk (by first | omega | (dsimp only; omega) | (simp; omega)) ?_
    | refine BoundP.mk [.c (.p 0 ab 0)] rfl rfl ?_ | refine CallP.mk _ [] _ _ hf (by simp) (fun _ h => h) (fun v L' D' hp => ?_)
    | fail
  obtain ⟨r1, z1, R1, rfl, rfl, hq⟩ := hp
  refine LvP.cons [_] _ [] _ (boolStoreD_ok ab r1 z1) (List.Perm.refl _) (fun _ _ => trivial) (fun v L' D' hp => ?_)
  obtain ⟨rfl, rfl, rfl⟩ := hp
  refine LvP.cons [_] _ [] _ (unlockD_ok ab r1 z1) (List.Perm.refl _) (fun _ _ => trivial) (fun v L' D' hp => ?_)
  obtain ⟨rfl, rfl, rfl⟩ := hp
  exact LvP.nil _ _ ⟨_, _, Ents.refl _ _, r1, z1, R1 ++ [], rfl, by simp, by simpa using hQ _ _ _ _ hq⟩

theorem onceDo_ok (ab : Nat) (r z : C) (R : List Chunk) (D : List Fact) (Q : C → C → List Chunk → List Fact → Prop)
    (hf : FnS Tryz.prog 78 [.c (.p 0 ab 0)] (rb ab 0 1 r z :: R) D (BuiltP ab 0 1 Q)) (hQ : ∀ r z R D1, Q r z R D1 → Q r z R (D1 ++ D)) :
    FnS Tryz.prog 77 [.c (.p 0 ab 0), onceF ab] (rb ab 0 0 r z :: R) D (BuiltP ab 1 0 Q) := by
  have c1 := boolLoad_ok ab 0 r z
  have c2 := doSlow_ok ab r z R D Q hf hQ
  refine fn_of_J Tryz.tyOK 7000 Tryz.func77 (by kernel_rfl) (c := Tryz.f77.body.getD .skip) (by kernel_rfl) Tryz.ntmps77 (rs := Tryz.f77.results.toList) rfl (by simp) (fun G => ?_)
  repeat' first
    | refine J_seq ?_ | refine J_region Tryz.tyOK ?_ | refine J_block ?_ | refine J_cond ?_ | refine J_ret ?_ | refine J_skip ?_ | refine J_exit ?_ | refine J_scope ?_
    | refine CondP.yes (by omega) ?_ | refine CondP.no (by omega) ?_ | refine CondP.mk (fun h => ?_) (fun h => ?_) | refine EqP.mk rfl ?_ | refine NewP.mk (fun ad => ?_) | refine ArP.exact (by simp only [inR]; omega) ?_ | refine SideP.mk (by first | omega | (dsimp only; omega) | (simp; omega)) ?_
    | refine CallP.mk [_] _ [] _ c1 (List.Perm.refl _) (fun _ _ => trivial) (fun v L' D' hp => ?_); obtain ⟨rfl, rfl, rfl⟩ := hp | refine CallP.mk _ [] _ _ c2 (by simp) (fun _ h => h) (fun v L' D' hp => ?_)
    | fail
  obtain ⟨r1, z1, R1, rfl, rfl, hq⟩ := hp
  exact FinE.mk _ _ ⟨r1, z1, R1 ++ [], rfl, by simp, by simpa using hQ _ _ _ _ hq⟩ (Ents.refl _ _)

end Go.Proofs
