/- This text proves the statement StateMoves for every input: the call returns true, and leaves its arguments alone. -/
import Derived.Test.YtcddpbpbebkdmaaGreatDoorK17
import Derived.Test.YtcddpbpbebkdmaaGreatDoorKxCoStMo
import Derived.Test.YtcddpbpbebkdmaaGreatDoorKxPMo
set_option linter.all false
namespace Go.Proofs.YtcddpbpbebkdmaaGreatDoor
open Go Go.X Go.ChangeShapes Go.WideShapes Go.ChangeAt Go.RowKit
set_option maxRecDepth 100000

namespace stateMoves
theorem reads (os : Os) {H : Type} (enc : TypeId × Value → H) : ∃ places, DataW.whole enc Tryz.prog ((Z2 os).forCall (fun _ _ => 0) ⟨#[], #[.slice none 0 0, .int .i64 0, .int .i64 0, .bool false], []⟩).memory Tryz.f9.params.toList Rows.stateMovesSpec.vars false (#[.slice none 0 0, .int .i64 0, .int .i64 0, .bool false] : Array Value).toList 8 = some ([.nil, .lit (.int .i64 0), .lit (.int .i64 0), .lit (.bool false)], [], places) :=
  ⟨[], by kernel_rfl⟩
theorem contract (H : Type) (enc : TypeId × Value → H) (W : World) (base : Nat) (args : Array Value) (ds gs : List (DataW H)) (before : List MemPlace) (hlm : laidMetH Tryz.prog Rows.stateMovesRow.laid W)
    (hval : ∀ (j : Nat) t v, Tryz.f9.params[j]? = some t → args[j]? = some v → Value.okWide Tryz.prog W .any base t v)
    (hW : DataW.Whole enc Tryz.prog Tryz.f9.params.toList Rows.stateMovesSpec.vars false W args.toList ds gs before) (hsh : W.ShapedOpen Tryz.prog) :
    Calls Tryz.prog 9 args W fun e W' => ∃ v, e = .returned v ∧ Rows.stateMovesSpec.post enc Tryz.prog Tryz.f9 false true false false W args v W' := by
  have hW' := hW
  obtain ⟨p, q, hA0, hV, rfl, hfz, hnd⟩ := hW
  have hA : DataW.TrodAll enc Tryz.prog W 0 (fun _ => true) true Tryz.f9.params.toList args.toList ds p := hA0
  rw [Tryz.params9] at hA hval
  obtain ⟨v0, vs0, d0, ds0, p0, q0, hargs0, rfl, rfl, h0, r0⟩ := trodAll_cons hA
  obtain ⟨v1, vs1, d1, ds1, p1, q1, hargs1, rfl, rfl, h1, r1⟩ := trodAll_cons r0
  obtain ⟨v2, vs2, d2, ds2, p2, q2, hargs2, rfl, rfl, h2, r2⟩ := trodAll_cons r1
  obtain ⟨v3, vs3, d3, ds3, p3, q3, hargs3, rfl, rfl, h3, r3⟩ := trodAll_cons r2
  obtain ⟨rfl, rfl, rfl⟩ := trodAll_nil r3
  obtain rfl : args = #[v0, v1, v2, v3] := by cases args; simp_all
  obtain ⟨x, hqx, rfl⟩ := Q6 (QQ (t := 28) rfl).2.2.2 (by simp) (hval 0 _ v0 rfl rfl) h0 (JP)
  obtain ⟨w, hqw, rfl⟩ := Q6 (QQ (t := 3) rfl).2.2.2 (by simp) (hval 1 _ v1 rfl rfl) h1 (Q1 Tryz.underlying3)
  obtain ⟨z, hqz, rfl⟩ := Q6 (QQ (t := 3) rfl).2.2.2 (by simp) (hval 2 _ v2 rfl rfl) h2 (Q1 Tryz.underlying3)
  obtain ⟨b, hqb, rfl⟩ := Q6 (QQ (t := 4) rfl).2.2.2 (by simp) (hval 3 _ v3 rfl rfl) h3 (openS_boolM Tryz.underlying4)
  obtain ⟨xd, xn, xc, l⟩ := x
  obtain ⟨e1, hn1, hl1, hf1⟩ := Ye hqx
  subst hn1
  exact YM KE (by rw [Tryz.params9]; decide +kernel) rfl (by kernel_rfl) Tryz.underlying4 hW' rfl rfl (show QI _ [Zj e1 xd l, gM, XH] from ⟨hf1, (KU hsh).1, WB hlm rfl, trivial⟩) (stateMoves_ok e1 xd xc l hl1 w z b)

theorem lifted (os : Os) (started : os.Started) (H : Type) (enc : TypeId × Value → H) (F : Stop.Interp) :
    ReturnsInHanded {} Tryz.checked os 9 .any ((OpenSpec.ofChange Rows.stateMovesSpec).preRow enc Tryz.prog Tryz.f9 Rows.stateMovesRow.domain false Rows.stateMovesRow.laid) (((OpenSpec.ofChange Rows.stateMovesSpec).at F).post enc Tryz.prog Tryz.f9 false true false false) := by
  obtain ⟨places, hx⟩ := reads os enc
  refine returnsInHanded_of_row (C := Tryz.checked) (s := (OpenSpec.ofChange Rows.stateMovesSpec)) own started (by kernel_rfl) Tryz.func9
    (witness_row_at (enc := enc) (C := Tryz.checked) false (Z2 os) #[.slice none 0 0, .int .i64 0, .int .i64 0, .bool false] rfl (Wt os _) (Wu os _) (by kernel_rfl)
      (OpenSpec.preRow_of_cond 8 hx (by kernel_rfl) (fun k hk => by cases hk) (by kernel_rfl) (V4 os _))) ?_
  intro W base args ds gs before hval hW _ _ _ hlm hsh _
  exact contract H enc W base args ds gs before hlm hval hW hsh

theorem said : Rows.StateMovesSaid :=
  OpenClaim.holds_of_cond 9 Tryz.f9 rfl rfl rfl rfl rfl rfl rfl ⟨rfl, rfl, rfl, rfl, rfl⟩ rfl rfl rfl rfl rfl (by kernel_rfl) Tryz.func9 (Hm KE xK V6 inPlaceT unfT recT varsT V7 V8 xM (by kernel_rfl))
    (of_decide_eq_true (by kernel_rfl)) (by unfold Func.isWrapper; first | (rw [if_pos (by decide +kernel)]; kernel_rfl) | (rw [if_neg (by decide +kernel)]; exact ⟨rfl, rfl⟩))
    (fun os started H enc _ F => by rw [OpenClaim.pre_eq_preRow]; exact lifted os started H enc F)

theorem plain (f : FuncId) (fn : Func) (hf : Tryz.pinned.checked.prog.funcNamed Rows.stateMovesRow.func = some f) (hfn : Tryz.pinned.checked.prog.funcs[f]? = some fn) :
    false = Tryz.pinned.checked.prog.looks [] ∧ ∀ (j : Nat) t, fn.params[j]? = some t → Tryz.pinned.checked.prog.wantsStandIn t = false := by
  obtain rfl : f = 9 := Option.some.inj ((show Tryz.prog.funcNamed Rows.stateMovesRow.func = some 9 by kernel_rfl).symm.trans hf) |>.symm
  obtain rfl : fn = Tryz.f9 := (Option.some.inj (Tryz.func9.symm.trans hfn)).symm
  refine ⟨V2, fun j t ht => ?_⟩
  rw [Tryz.params9] at ht
  have hm := Array.mem_of_getElem? ht
  have hall : ∀ t ∈ (#[28, 3, 3, 4] : Array Nat), Tryz.prog.wantsStandIn t = false := by decide +kernel
  exact hall t hm

theorem card : Rows.StateMovesCardSaid :=
  Claim7.holds_tied_plain_at .later [] _ _ _ _ said (fun _ h => by cases h) wfT (fun _ h => by cases h) stateMoves_row_tie rfl ⟨rfl, rfl⟩ xL rfl plain goesT
end stateMoves
end Go.Proofs.YtcddpbpbebkdmaaGreatDoor
