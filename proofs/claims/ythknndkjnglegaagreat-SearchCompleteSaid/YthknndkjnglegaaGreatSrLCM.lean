/- This text proves the statement SearchComplete for every input: the call returns true, and leaves its arguments alone. -/
import Derived.Test.YthknndkjnglegaaGreatI08
import Derived.Test.YthknndkjnglegaaGreatI26
set_option linter.all false

namespace Go.Proofs.YthknndkjnglegaaGreat
open Go Go.X Go.ChangeShapes Go.WideShapes Go.ChangeAt Go.RowKit
set_option maxRecDepth 100000

namespace searchComplete
theorem reads (os : Os) {H : Type} (enc : TypeId × Value → H) : ∃ places, DataW.whole enc Tryz.prog ((laidWorld os).forCall (fun _ _ => 0) ⟨#[], #[.slice none 0 0, .slice none 0 0, .int .i64 0, .int .i64 0], []⟩).memory Tryz.f6.params.toList Rows.searchCompleteSpec.vars false (#[.slice none 0 0, .slice none 0 0, .int .i64 0, .int .i64 0] : Array Value).toList 8 = some ([.nil, .nil, .lit (.int .i64 0), .lit (.int .i64 0)], [], places) :=
  ⟨[], by kernel_rfl⟩
theorem contract (H : Type) (enc : TypeId × Value → H) (W : World) (base : Nat) (args : Array Value) (ds gs : List (DataW H)) (before : List MemPlace)
    (hval : ∀ (j : Nat) t v, Tryz.f6.params[j]? = some t → args[j]? = some v → Value.okWide Tryz.prog W .any base t v)
    (hW : DataW.Whole enc Tryz.prog Tryz.f6.params.toList Rows.searchCompleteSpec.vars false W args.toList ds gs before) (hsh : W.ShapedOpen Tryz.prog) :
    Calls Tryz.prog 6 args W fun e W' => ∃ v, e = .returned v ∧ Rows.searchCompleteSpec.post enc Tryz.prog Tryz.f6 false true false false W args v W' := by
  have hW' := hW
  obtain ⟨p, q, hA0, hV, rfl, hfz, hnd⟩ := hW
  have hA : DataW.TrodAll enc Tryz.prog W 0 (fun _ => true) true Tryz.f6.params.toList args.toList ds p := hA0
  rw [Tryz.params6] at hA hval
  obtain ⟨v0, vs0, d0, ds0, p0, q0, hargs0, rfl, rfl, h0, r0⟩ := trodAll_cons hA
  obtain ⟨v1, vs1, d1, ds1, p1, q1, hargs1, rfl, rfl, h1, r1⟩ := trodAll_cons r0
  obtain ⟨v2, vs2, d2, ds2, p2, q2, hargs2, rfl, rfl, h2, r2⟩ := trodAll_cons r1
  obtain ⟨v3, vs3, d3, ds3, p3, q3, hargs3, rfl, rfl, h3, r3⟩ := trodAll_cons r2
  obtain ⟨rfl, rfl, rfl⟩ := trodAll_nil r3
  obtain rfl : args = #[v0, v1, v2, v3] := by cases args; simp_all
  obtain ⟨x, hqx, rfl⟩ := open_arg (okTy (t := 33) rfl).2.2.2 (by simp) (hval 0 _ v0 rfl rfl) h0 (open_ints)
  obtain ⟨y, hqy, rfl⟩ := open_arg (okTy (t := 33) rfl).2.2.2 (by simp) (hval 1 _ v1 rfl rfl) h1 (open_ints)
  obtain ⟨w, hqw, rfl⟩ := open_arg (okTy (t := 3) rfl).2.2.2 (by simp) (hval 2 _ v2 rfl rfl) h2 (openS_int Tryz.underlying3)
  obtain ⟨z, hqz, rfl⟩ := open_arg (okTy (t := 3) rfl).2.2.2 (by simp) (hval 3 _ v3 rfl rfl) h3 (openS_int Tryz.underlying3)
  obtain ⟨xd, xn, xc, l⟩ := x
  obtain ⟨e1, hn1, hl1, hf1⟩ := ints_of hqx
  subst hn1
  obtain ⟨yd, yn, yc, q⟩ := y
  obtain ⟨e2, hn2, hl2, hf2⟩ := ints_of hqy
  subst hn2
  exact law_calls laidOut (by rw [Tryz.params6]; decide +kernel) rfl (by kernel_rfl) Tryz.underlying4 hW' rfl rfl (show allD _ [intsF e1 xd l, intsF e2 yd q] from ⟨hf1, hf2, trivial⟩) (searchComplete_ok e1 e2 xd yd xc yc l q w z hl1 hl2)

theorem lifted (os : Os) (started : os.Started) (H : Type) (enc : TypeId × Value → H) (F : Stop.Interp) :
    ReturnsInHanded {} Tryz.checked os 6 .any ((OpenSpec.ofChange Rows.searchCompleteSpec).preRow enc Tryz.prog Tryz.f6 Rows.searchCompleteRow.domain false Rows.searchCompleteRow.laid) (((OpenSpec.ofChange Rows.searchCompleteSpec).at F).post enc Tryz.prog Tryz.f6 false true false false) := by
  obtain ⟨places, hx⟩ := reads os enc
  refine returnsInHanded_of_row (C := Tryz.checked) (s := (OpenSpec.ofChange Rows.searchCompleteSpec)) own started (by kernel_rfl) Tryz.func6
    (witness_row_at (enc := enc) (C := Tryz.checked) false (laidWorld os) #[.slice none 0 0, .slice none 0 0, .int .i64 0, .int .i64 0] rfl (world_vars os _) (world_rest os _) (by kernel_rfl)
      (OpenSpec.preRow_of_cond 8 hx (by kernel_rfl) (fun k hk => by cases hk) (by kernel_rfl) (laid_met os _))) ?_
  intro W base args ds gs before hval hW _ _ _ _ hsh _
  exact contract H enc W base args ds gs before hval hW hsh

theorem said : Rows.SearchCompleteSaid :=
  OpenClaim.holds_of_cond 6 Tryz.f6 rfl rfl rfl rfl rfl rfl rfl ⟨rfl, rfl, rfl, rfl, rfl⟩ rfl rfl rfl rfl rfl (by kernel_rfl) Tryz.func6 (by kernel_rfl)
    (of_decide_eq_true (by kernel_rfl)) (by unfold Func.isWrapper; first | (rw [if_pos (by decide +kernel)]; kernel_rfl) | (rw [if_neg (by decide +kernel)]; exact ⟨rfl, rfl⟩))
    (fun os started H enc _ F => by rw [OpenClaim.pre_eq_preRow]; exact lifted os started H enc F)

end searchComplete
end Go.Proofs.YthknndkjnglegaaGreat
