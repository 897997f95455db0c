/- This text proves the statement StateFull for every input: the call returns true, and leaves its arguments alone. -/
import Derived.Test.YtcddpbpbebkdmaaGreatDoorK17
import Derived.Test.YtcddpbpbebkdmaaGreatDoorKxCoStFu
import Derived.Test.YtcddpbpbebkdmaaGreatDoorKxPFu
set_option linter.all false
namespace Go.Proofs.YtcddpbpbebkdmaaGreatDoor
open Go Go.X Go.ChangeShapes Go.WideShapes Go.ChangeAt Go.RowKit
set_option maxRecDepth 100000

namespace stateFull
theorem reads (os : Os) {H : Type} (enc : TypeId × Value → H) : ∃ places, DataW.whole enc Tryz.prog ((Z2 os).forCall (fun _ _ => 0) ⟨#[], #[.int .i64 0, .int .i64 0], []⟩).memory Tryz.f13.params.toList Rows.stateFullSpec.vars false (#[.int .i64 0, .int .i64 0] : Array Value).toList 8 = some ([.lit (.int .i64 0), .lit (.int .i64 0)], [], places) :=
  ⟨[], by kernel_rfl⟩
theorem contract (H : Type) (enc : TypeId × Value → H) (W : World) (base : Nat) (args : Array Value) (ds gs : List (DataW H)) (before : List MemPlace) (hlm : laidMetH Tryz.prog Rows.stateFullRow.laid W)
    (hval : ∀ (j : Nat) t v, Tryz.f13.params[j]? = some t → args[j]? = some v → Value.okWide Tryz.prog W .any base t v)
    (hW : DataW.Whole enc Tryz.prog Tryz.f13.params.toList Rows.stateFullSpec.vars false W args.toList ds gs before) (hsh : W.ShapedOpen Tryz.prog) :
    Calls Tryz.prog 13 args W fun e W' => ∃ v, e = .returned v ∧ Rows.stateFullSpec.post enc Tryz.prog Tryz.f13 false true false false W args v W' := by
  have hW' := hW
  obtain ⟨p, q, hA0, hV, rfl, hfz, hnd⟩ := hW
  have hA : DataW.TrodAll enc Tryz.prog W 0 (fun _ => true) true Tryz.f13.params.toList args.toList ds p := hA0
  rw [Tryz.params13] at hA hval
  obtain ⟨v0, vs0, d0, ds0, p0, q0, hargs0, rfl, rfl, h0, r0⟩ := trodAll_cons hA
  obtain ⟨v1, vs1, d1, ds1, p1, q1, hargs1, rfl, rfl, h1, r1⟩ := trodAll_cons r0
  obtain ⟨rfl, rfl, rfl⟩ := trodAll_nil r1
  obtain rfl : args = #[v0, v1] := by cases args; simp_all
  obtain ⟨z, hqz, rfl⟩ := Q6 (QQ (t := 3) rfl).2.2.2 (by simp) (hval 0 _ v0 rfl rfl) h0 (Q1 Tryz.underlying3)
  obtain ⟨w, hqw, rfl⟩ := Q6 (QQ (t := 3) rfl).2.2.2 (by simp) (hval 1 _ v1 rfl rfl) h1 (Q1 Tryz.underlying3)
  exact YM KE (by rw [Tryz.params13]; decide +kernel) rfl (by kernel_rfl) Tryz.underlying4 hW' rfl rfl (show QI _ [gM, XH] from ⟨(KU hsh).1, WB hlm rfl, trivial⟩) (stateFull_ok z w)

theorem lifted (os : Os) (started : os.Started) (H : Type) (enc : TypeId × Value → H) (F : Stop.Interp) :
    ReturnsInHanded {} Tryz.checked os 13 .any ((OpenSpec.ofChange Rows.stateFullSpec).preRow enc Tryz.prog Tryz.f13 Rows.stateFullRow.domain false Rows.stateFullRow.laid) (((OpenSpec.ofChange Rows.stateFullSpec).at F).post enc Tryz.prog Tryz.f13 false true false false) := by
  obtain ⟨places, hx⟩ := reads os enc
  refine returnsInHanded_of_row (C := Tryz.checked) (s := (OpenSpec.ofChange Rows.stateFullSpec)) own started (by kernel_rfl) Tryz.func13
    (witness_row_at (enc := enc) (C := Tryz.checked) false (Z2 os) #[.int .i64 0, .int .i64 0] rfl (Wt os _) (Wu os _) (by kernel_rfl)
      (OpenSpec.preRow_of_cond 8 hx (by kernel_rfl) (fun k hk => by cases hk) (by kernel_rfl) (V4 os _))) ?_
  intro W base args ds gs before hval hW _ _ _ hlm hsh _
  exact contract H enc W base args ds gs before hlm hval hW hsh

theorem said : Rows.StateFullSaid :=
  OpenClaim.holds_of_cond 13 Tryz.f13 rfl rfl rfl rfl rfl rfl rfl ⟨rfl, rfl, rfl, rfl, rfl⟩ rfl rfl rfl rfl rfl (by kernel_rfl) Tryz.func13 (Hm KE xK V6 inPlaceT unfT recT varsT V7 V8 xM (by kernel_rfl))
    (of_decide_eq_true (by kernel_rfl)) (by unfold Func.isWrapper; first | (rw [if_pos (by decide +kernel)]; kernel_rfl) | (rw [if_neg (by decide +kernel)]; exact ⟨rfl, rfl⟩))
    (fun os started H enc _ F => by rw [OpenClaim.pre_eq_preRow]; exact lifted os started H enc F)

theorem plain (f : FuncId) (fn : Func) (hf : Tryz.pinned.checked.prog.funcNamed Rows.stateFullRow.func = some f) (hfn : Tryz.pinned.checked.prog.funcs[f]? = some fn) :
    false = Tryz.pinned.checked.prog.looks [] ∧ ∀ (j : Nat) t, fn.params[j]? = some t → Tryz.pinned.checked.prog.wantsStandIn t = false := by
  obtain rfl : f = 13 := Option.some.inj ((show Tryz.prog.funcNamed Rows.stateFullRow.func = some 13 by kernel_rfl).symm.trans hf) |>.symm
  obtain rfl : fn = Tryz.f13 := (Option.some.inj (Tryz.func13.symm.trans hfn)).symm
  refine ⟨V2, fun j t ht => ?_⟩
  rw [Tryz.params13] at ht
  have hm := Array.mem_of_getElem? ht
  have hall : ∀ t ∈ (#[3, 3] : Array Nat), Tryz.prog.wantsStandIn t = false := by decide +kernel
  exact hall t hm

theorem card : Rows.StateFullCardSaid :=
  Claim7.holds_tied_plain_at .later [] _ _ _ _ said (fun _ h => by cases h) wfT (fun _ h => by cases h) stateFull_row_tie rfl ⟨rfl, rfl⟩ xL rfl plain goesT
end stateFull
end Go.Proofs.YtcddpbpbebkdmaaGreatDoor
