/- This text proves the statements SearchRows and SearchSteps for every input: the call returns true, and leaves its arguments alone. -/
import Derived.Test.YthknndkjnglegaaGreatH08
import Derived.Test.YthknndkjnglegaaGreatH26
import Derived.Test.YthknndkjnglegaaGreatH27
set_option linter.all false

namespace Go.Proofs.YthknndkjnglegaaGreat
open Go Go.X Go.ChangeShapes Go.WideShapes Go.ChangeAt Go.RowKit
set_option maxRecDepth 100000

namespace searchRows
theorem reads (os : Os) {H : Type} (enc : TypeId × Value → H) : ∃ places, DataW.whole enc Tryz.prog ((laidWorld os).forCall (fun _ _ => 0) ⟨#[], #[.agg #[.int .i64 0, .string ⟨#[]⟩], .string ⟨#[]⟩, .agg #[.int .i64 0, .int .i64 0, .slice none 0 0, .slice none 0 0, .slice none 0 0, .int .i64 0, .slice none 0 0, .slice none 0 0], .slice none 0 0], []⟩).memory Tryz.f5.params.toList Rows.searchRowsSpec.vars false (#[.agg #[.int .i64 0, .string ⟨#[]⟩], .string ⟨#[]⟩, .agg #[.int .i64 0, .int .i64 0, .slice none 0 0, .slice none 0 0, .slice none 0 0, .int .i64 0, .slice none 0 0, .slice none 0 0], .slice none 0 0] : Array Value).toList 8 = some ([.agg [.lit (.int .i64 0), .lit (.string [])], .lit (.string []), .agg [.lit (.int .i64 0), .lit (.int .i64 0), .nil, .nil, .nil, .lit (.int .i64 0), .nil, .nil], .nil], [], places) :=
  ⟨[], by kernel_rfl⟩
theorem contract (H : Type) (enc : TypeId × Value → H) (W : World) (base : Nat) (args : Array Value) (ds gs : List (DataW H)) (before : List MemPlace)
    (hval : ∀ (j : Nat) t v, Tryz.f5.params[j]? = some t → args[j]? = some v → Value.okWide Tryz.prog W .any base t v)
    (hW : DataW.Whole enc Tryz.prog Tryz.f5.params.toList Rows.searchRowsSpec.vars false W args.toList ds gs before) (hsh : W.ShapedOpen Tryz.prog) :
    Calls Tryz.prog 5 args W fun e W' => ∃ v, e = .returned v ∧ Rows.searchRowsSpec.post enc Tryz.prog Tryz.f5 false true false false W args v W' := by
  have hW' := hW
  obtain ⟨p, q, hA0, hV, rfl, hfz, hnd⟩ := hW
  have hA : DataW.TrodAll enc Tryz.prog W 0 (fun _ => true) true Tryz.f5.params.toList args.toList ds p := hA0
  rw [Tryz.params5] at hA hval
  obtain ⟨v0, vs0, d0, ds0, p0, q0, hargs0, rfl, rfl, h0, r0⟩ := trodAll_cons hA
  obtain ⟨v1, vs1, d1, ds1, p1, q1, hargs1, rfl, rfl, h1, r1⟩ := trodAll_cons r0
  obtain ⟨v2, vs2, d2, ds2, p2, q2, hargs2, rfl, rfl, h2, r2⟩ := trodAll_cons r1
  obtain ⟨v3, vs3, d3, ds3, p3, q3, hargs3, rfl, rfl, h3, r3⟩ := trodAll_cons r2
  obtain ⟨rfl, rfl, rfl⟩ := trodAll_nil r3
  obtain rfl : args = #[v0, v1, v2, v3] := by cases args; simp_all
  obtain ⟨t, hqt, rfl⟩ := open_arg (okTy (t := 50) rfl).2.2.2 (by simp) (hval 0 _ v0 rfl rfl) h0 (open_title)
  obtain ⟨tx, hqtx, rfl⟩ := open_arg (okTy (t := 9) rfl).2.2.2 (by simp) (hval 1 _ v1 rfl rfl) h1 (openS_str Tryz.underlying9)
  obtain ⟨b, hqb, evb⟩ := open_arg (okTy (t := 42) rfl).2.2.2 (by simp) (hval 2 _ v2 rfl rfl) h2 (open_sta)
  obtain ⟨x, hqx, rfl⟩ := open_arg (okTy (t := 33) rfl).2.2.2 (by simp) (hval 3 _ v3 rfl rfl) h3 (open_ints)
  obtain ⟨sp, nm, u⟩ := t
  obtain ⟨s, hc, hb1, hb2, hb3, hb4, hsf⟩ := state_of hqb
  have ev2 : v2 = (V.agg s.cells).enc := evb.trans (congrArg (fun l => (V.agg l).enc) hc)
  clear evb
  subst ev2
  obtain ⟨xd, xn, xc, l⟩ := x
  obtain ⟨e1, hn1, hl1, hf1⟩ := ints_of hqx
  subst hn1
  exact law_calls laidOut (by rw [Tryz.params5]; decide +kernel) rfl (by kernel_rfl) Tryz.underlying4 hW' rfl rfl (show allD _ [stF s, intsF e1 xd l] from ⟨hsf, hf1, trivial⟩) (searchRows_ok e1 xd xc sp nm tx s l hl1 hb1 hb2 hb3 hb4)

theorem lifted (os : Os) (started : os.Started) (H : Type) (enc : TypeId × Value → H) (F : Stop.Interp) :
    ReturnsInHanded {} Tryz.checked os 5 .any ((OpenSpec.ofChange Rows.searchRowsSpec).preRow enc Tryz.prog Tryz.f5 Rows.searchRowsRow.domain false Rows.searchRowsRow.laid) (((OpenSpec.ofChange Rows.searchRowsSpec).at F).post enc Tryz.prog Tryz.f5 false true false false) := by
  obtain ⟨places, hx⟩ := reads os enc
  refine returnsInHanded_of_row (C := Tryz.checked) (s := (OpenSpec.ofChange Rows.searchRowsSpec)) own started (by kernel_rfl) Tryz.func5
    (witness_row_at (enc := enc) (C := Tryz.checked) false (laidWorld os) #[.agg #[.int .i64 0, .string ⟨#[]⟩], .string ⟨#[]⟩, .agg #[.int .i64 0, .int .i64 0, .slice none 0 0, .slice none 0 0, .slice none 0 0, .int .i64 0, .slice none 0 0, .slice none 0 0], .slice none 0 0] rfl (world_vars os _) (world_rest os _) (by kernel_rfl)
      (OpenSpec.preRow_of_cond 8 hx (by kernel_rfl) (fun k hk => by cases hk) (by kernel_rfl) (laid_met os _))) ?_
  intro W base args ds gs before hval hW _ _ _ _ hsh _
  exact contract H enc W base args ds gs before hval hW hsh

theorem said : Rows.SearchRowsSaid :=
  OpenClaim.holds_of_cond 5 Tryz.f5 rfl rfl rfl rfl rfl rfl rfl ⟨rfl, rfl, rfl, rfl, rfl⟩ rfl rfl rfl rfl rfl (by kernel_rfl) Tryz.func5 (by kernel_rfl)
    (of_decide_eq_true (by kernel_rfl)) (by unfold Func.isWrapper; first | (rw [if_pos (by decide +kernel)]; kernel_rfl) | (rw [if_neg (by decide +kernel)]; exact ⟨rfl, rfl⟩))
    (fun os started H enc _ F => by rw [OpenClaim.pre_eq_preRow]; exact lifted os started H enc F)

end searchRows

namespace searchSteps
theorem reads (os : Os) {H : Type} (enc : TypeId × Value → H) : ∃ places, DataW.whole enc Tryz.prog ((laidWorld os).forCall (fun _ _ => 0) ⟨#[], #[.slice none 0 0, .slice none 0 0, .int .i64 0], []⟩).memory Tryz.f7.params.toList Rows.searchStepsSpec.vars false (#[.slice none 0 0, .slice none 0 0, .int .i64 0] : Array Value).toList 8 = some ([.nil, .nil, .lit (.int .i64 0)], [], places) :=
  ⟨[], by kernel_rfl⟩
theorem contract (H : Type) (enc : TypeId × Value → H) (W : World) (base : Nat) (args : Array Value) (ds gs : List (DataW H)) (before : List MemPlace)
    (hval : ∀ (j : Nat) t v, Tryz.f7.params[j]? = some t → args[j]? = some v → Value.okWide Tryz.prog W .any base t v)
    (hW : DataW.Whole enc Tryz.prog Tryz.f7.params.toList Rows.searchStepsSpec.vars false W args.toList ds gs before) (hsh : W.ShapedOpen Tryz.prog) :
    Calls Tryz.prog 7 args W fun e W' => ∃ v, e = .returned v ∧ Rows.searchStepsSpec.post enc Tryz.prog Tryz.f7 false true false false W args v W' := by
  have hW' := hW
  obtain ⟨p, q, hA0, hV, rfl, hfz, hnd⟩ := hW
  have hA : DataW.TrodAll enc Tryz.prog W 0 (fun _ => true) true Tryz.f7.params.toList args.toList ds p := hA0
  rw [Tryz.params7] at hA hval
  obtain ⟨v0, vs0, d0, ds0, p0, q0, hargs0, rfl, rfl, h0, r0⟩ := trodAll_cons hA
  obtain ⟨v1, vs1, d1, ds1, p1, q1, hargs1, rfl, rfl, h1, r1⟩ := trodAll_cons r0
  obtain ⟨v2, vs2, d2, ds2, p2, q2, hargs2, rfl, rfl, h2, r2⟩ := trodAll_cons r1
  obtain ⟨rfl, rfl, rfl⟩ := trodAll_nil r2
  obtain rfl : args = #[v0, v1, v2] := by cases args; simp_all
  obtain ⟨x, hqx, rfl⟩ := open_arg (okTy (t := 33) rfl).2.2.2 (by simp) (hval 0 _ v0 rfl rfl) h0 (open_ints)
  obtain ⟨y, hqy, rfl⟩ := open_arg (okTy (t := 33) rfl).2.2.2 (by simp) (hval 1 _ v1 rfl rfl) h1 (open_ints)
  obtain ⟨w, hqw, rfl⟩ := open_arg (okTy (t := 3) rfl).2.2.2 (by simp) (hval 2 _ v2 rfl rfl) h2 (openS_int Tryz.underlying3)
  obtain ⟨xd, xn, xc, l⟩ := x
  obtain ⟨e1, hn1, hl1, hf1⟩ := ints_of hqx
  subst hn1
  obtain ⟨yd, yn, yc, m⟩ := y
  obtain ⟨e2, hn2, hl2, hf2⟩ := ints_of hqy
  subst hn2
  exact law_calls laidOut (by rw [Tryz.params7]; decide +kernel) rfl (by kernel_rfl) Tryz.underlying4 hW' rfl rfl (show allD _ [intsF e1 xd l, intsF e2 yd m] from ⟨hf1, hf2, trivial⟩) (searchSteps_ok e1 e2 xd yd xc yc l m w hl1 hl2)

theorem lifted (os : Os) (started : os.Started) (H : Type) (enc : TypeId × Value → H) (F : Stop.Interp) :
    ReturnsInHanded {} Tryz.checked os 7 .any ((OpenSpec.ofChange Rows.searchStepsSpec).preRow enc Tryz.prog Tryz.f7 Rows.searchStepsRow.domain false Rows.searchStepsRow.laid) (((OpenSpec.ofChange Rows.searchStepsSpec).at F).post enc Tryz.prog Tryz.f7 false true false false) := by
  obtain ⟨places, hx⟩ := reads os enc
  refine returnsInHanded_of_row (C := Tryz.checked) (s := (OpenSpec.ofChange Rows.searchStepsSpec)) own started (by kernel_rfl) Tryz.func7
    (witness_row_at (enc := enc) (C := Tryz.checked) false (laidWorld os) #[.slice none 0 0, .slice none 0 0, .int .i64 0] rfl (world_vars os _) (world_rest os _) (by kernel_rfl)
      (OpenSpec.preRow_of_cond 8 hx (by kernel_rfl) (fun k hk => by cases hk) (by kernel_rfl) (laid_met os _))) ?_
  intro W base args ds gs before hval hW _ _ _ _ hsh _
  exact contract H enc W base args ds gs before hval hW hsh

theorem said : Rows.SearchStepsSaid :=
  OpenClaim.holds_of_cond 7 Tryz.f7 rfl rfl rfl rfl rfl rfl rfl ⟨rfl, rfl, rfl, rfl, rfl⟩ rfl rfl rfl rfl rfl (by kernel_rfl) Tryz.func7 (by kernel_rfl)
    (of_decide_eq_true (by kernel_rfl)) (by unfold Func.isWrapper; first | (rw [if_pos (by decide +kernel)]; kernel_rfl) | (rw [if_neg (by decide +kernel)]; exact ⟨rfl, rfl⟩))
    (fun os started H enc _ F => by rw [OpenClaim.pre_eq_preRow]; exact lifted os started H enc F)

end searchSteps
end Go.Proofs.YthknndkjnglegaaGreat
