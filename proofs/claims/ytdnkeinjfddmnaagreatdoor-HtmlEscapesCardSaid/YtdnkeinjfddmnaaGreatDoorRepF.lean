/- This text gives the contract of html.Escape. -/
import Derived.Test.YtdnkeinjfddmnaaGreatDoorRepE
set_option linter.all false

namespace Go.X
open Go
/-- A type's method, out of one closed fact. -/
theorem MethOK.of {P : Program} {t e : TypeId} {name : String} {f : FuncId} (h : ((P.info? t).bind fun i => (i.methods.find? (·.name == name)).map fun m => (m.path.toList.length, m.func)) = some (0, some (f, true))) (hu : P.underlying t = some (.pointer e)) : MethOK P t name f := by
  cases hi : P.info? t with
  | none => rw [hi] at h; cases h
  | some i =>
    rw [hi] at h
    cases hm : i.methods.find? (·.name == name) with
    | none => simp [hm] at h
    | some m =>
      simp only [Option.bind_some, hm, Option.map_some, Option.some.injEq, Prod.mk.injEq] at h
      exact MethOK.ptr hi hm (List.eq_nil_of_length_eq_zero h.1) h.2 hu
end Go.X

namespace Go.Proofs
open Go Go.X
set_option maxRecDepth 100000

theorem repMeth : MethOK Tryz.prog 200 "Replace" 235 :=
  MethOK.of (e := 199) (by kernel_rfl) (by kernel_rfl)

theorem RT.val_enc (t : RT) : (V.c t.val).enc = .iface 200 (repR t).enc := by
  simp [RT.val, repR, V.enc, C.enc, elemAddr]

theorem allD_app {m : Im} : ∀ {A B : List Fact}, allD m (A ++ B) → allD m A
  | [], _, _ => trivial
  | _ :: _, _, h => ⟨h.1, allD_app h.2⟩

theorem replacer_ok (ab : Nat) (a0 : Option Addr) (c0 : Nat) (s : List UInt8) (hs : s.length ≤ 1000000000) : FnS Tryz.prog 38 [.c (.p 0 ab 0), .c (.s s)] [rb ab 0 0 (.raw .nilIface) (.sl a0 8 c0)] [slFact 9 1 a0 8 strs8] (Is (.c (.s (escT s)))) := by
  have c1 := onceDone_ok ab a0 c0
  unfold rb
  refine fn_of_J Tryz.tyOK 7000 Tryz.func38 (by kernel_rfl) (c := Tryz.f38.body.getD .skip) (by kernel_rfl) Tryz.ntmps38 (rs := Tryz.f38.results.toList) rfl (by simp) (fun G => ?_)
  repeat' first
    | refine J_seq ?_ | refine J_region Tryz.tyOK ?_ | refine J_block ?_ | refine J_cond ?_ | refine J_ret ?_ | refine J_skip ?_ | refine J_exit ?_ | refine J_scope ?_
    | refine CondP.yes (by omega) ?_ | refine CondP.no (by omega) ?_ | refine CondP.mk (fun h => ?_) (fun h => ?_) | refine EqP.mk rfl ?_ | refine NewP.mk (fun ad => ?_) | refine ArP.exact (by simp only [inR]; omega) ?_ | refine SideP.mk (by first | omega | (dsimp only; omega) | (simp; omega)) ?_
    | refine CallP.mk [_] [] [_] _ c1 (List.Perm.refl _) (fun _ h => h) (fun v L' D' hp => ?_); obtain ⟨r, z, R, rfl, rfl, rfl, rfl, t, rfl, D1, rfl⟩ := hp | refine InvP.mk 200 (repR t) 235 t.val_enc repMeth ?_ | refine CallP.is (repReplace_ok t s hs) ?_ (fun _ h => allD_app (allD_app h)) | refine FinE.str rfl
    | fail

theorem escape_ok (s : List UInt8) (hs : s.length ≤ 1000000000) : FnS Tryz.prog 14 [.c (.s s)] [] [] (Is (.c (.s (escT s)))) := by
  refine fn_of_J Tryz.tyOK 7000 Tryz.func14 (by kernel_rfl) (c := Tryz.f14.body.getD .skip) (by kernel_rfl) Tryz.ntmps14 (rs := Tryz.f14.results.toList) rfl (by simp) (fun G => ?_)
  repeat' first
    | refine J_seq ?_ | refine J_region Tryz.tyOK ?_ | refine J_block ?_ | refine J_cond ?_ | refine J_ret ?_ | refine J_skip ?_ | refine J_exit ?_ | refine J_scope ?_
    | refine CondP.yes (by omega) ?_ | refine CondP.no (by omega) ?_ | refine CondP.mk (fun h => ?_) (fun h => ?_) | refine EqP.mk rfl ?_ | refine NewP.mk (fun ad => ?_) | refine ArP.exact (by simp only [inR]; omega) ?_ | refine SideP.mk (by first | omega | (dsimp only; omega) | (simp; omega)) ?_
    | (refine CallP.mkE [] _ [_] _ _ (newReplacer_ok _ _) Ents.toFact (fun _ h => ⟨h.1, trivial⟩) (fun v L' D' hp => ?_); obtain ⟨ab, a', c', rfl, rfl, rfl⟩ := hp) | (refine CallP.mkE [_] [] [_] _ _ (replacer_ok _ _ _ s hs) ((Ents.perm (List.Perm.swap _ _ _)).trans Ents.toFact) (fun _ h => ⟨h.1, trivial⟩) (fun v L' D' hp => ?_); obtain ⟨rfl, rfl, rfl⟩ := hp) | refine FinE.str rfl
    | fail

end Go.Proofs
