/- This text proves the statements SearchWords and SearchPuts for every input: the call returns true, and leaves its arguments alone. -/
import Derived.Test.YtcnbkappedemeaaBase
import Derived.Test.YtcnbkappedemeaaSrLaw
import Derived.Test.YtcnbkappedemeaaSrArg
set_option linter.all false

namespace Go.Proofs.Ytcnbkappedemeaa
open Go Go.X Go.ChangeShapes Go.WideShapes Go.ChangeAt Go.RowKit
set_option maxRecDepth 100000

namespace searchWords
theorem reads (os : Os) {H : Type} (enc : TypeId × Value → H) : ∃ places, DataW.whole enc Try.prog ((laidWorld os).forCall (fun _ _ => 0) ⟨#[], #[.string ⟨#[]⟩, .slice none 0 0], []⟩).memory Try.f3.params.toList Rows.searchWordsSpec.vars false (#[.string ⟨#[]⟩, .slice none 0 0] : Array Value).toList 8 = some ([.lit (.string []), .nil], [], places) :=
  ⟨[], by kernel_rfl⟩
theorem contract (H : Type) (enc : TypeId × Value → H) (W : World) (base : Nat) (args : Array Value) (ds gs : List (DataW H)) (before : List MemPlace)
    (hval : ∀ (j : Nat) t v, Try.f3.params[j]? = some t → args[j]? = some v → Value.okWide Try.prog W .any base t v)
    (hW : DataW.Whole enc Try.prog Try.f3.params.toList Rows.searchWordsSpec.vars false W args.toList ds gs before) (hsh : W.ShapedOpen Try.prog) :
    Calls Try.prog 3 args W fun e W' => ∃ v, e = .returned v ∧ Rows.searchWordsSpec.post enc Try.prog Try.f3 false true false false W args v W' := by
  have hW' := hW
  obtain ⟨p, q, hA0, hV, rfl, hfz, hnd⟩ := hW
  have hA : DataW.TrodAll enc Try.prog W 0 (fun _ => true) true Try.f3.params.toList args.toList ds p := hA0
  rw [Try.params3] at hA hval
  obtain ⟨v0, vs0, d0, ds0, p0, q0, hargs0, rfl, rfl, h0, r0⟩ := trodAll_cons hA
  obtain ⟨v1, vs1, d1, ds1, p1, q1, hargs1, rfl, rfl, h1, r1⟩ := trodAll_cons r0
  obtain ⟨rfl, rfl, rfl⟩ := trodAll_nil r1
  obtain rfl : args = #[v0, v1] := by cases args; simp_all
  obtain ⟨s, hqs, rfl⟩ := open_arg (okTy (t := 9) rfl).2.2.2 (by simp) (hval 0 _ v0 rfl rfl) h0 (openS_str Try.underlying9)
  obtain ⟨b, hqb, rfl⟩ := open_arg (okTy (t := 22) rfl).2.2.2 (by simp) (hval 1 _ v1 rfl rfl) h1 (open_ints)
  obtain ⟨bd, bn, bc, l⟩ := b
  obtain ⟨e, hn, hl, hf⟩ := ints_of hqb
  subst hn
  exact law_calls laidOut (by rw [Try.params3]; decide +kernel) rfl (by kernel_rfl) Try.underlying4 hW' rfl rfl (show allD _ [intsF e bd l] from ⟨hf, trivial⟩) (searchWords_ok e bd bc l s hl)

theorem lifted (os : Os) (started : os.Started) (H : Type) (enc : TypeId × Value → H) (F : Stop.Interp) :
    ReturnsInHanded {} Try.checked os 3 .any ((OpenSpec.ofChange Rows.searchWordsSpec).preRow enc Try.prog Try.f3 Rows.searchWordsRow.domain false Rows.searchWordsRow.laid) (((OpenSpec.ofChange Rows.searchWordsSpec).at F).post enc Try.prog Try.f3 false true false false) := by
  obtain ⟨places, hx⟩ := reads os enc
  refine returnsInHanded_of_row (C := Try.checked) (s := (OpenSpec.ofChange Rows.searchWordsSpec)) own started (by kernel_rfl) Try.func3
    (witness_row_at (enc := enc) (C := Try.checked) false (laidWorld os) #[.string ⟨#[]⟩, .slice none 0 0] rfl (world_vars os _) (world_rest os _) (by kernel_rfl)
      (OpenSpec.preRow_of_cond 8 hx (by kernel_rfl) (fun k hk => by cases hk) (by kernel_rfl) (laid_met os _))) ?_
  intro W base args ds gs before hval hW _ _ _ _ hsh _
  exact contract H enc W base args ds gs before hval hW hsh

theorem said : Rows.SearchWordsSaid :=
  OpenClaim.holds_of_cond 3 Try.f3 rfl rfl rfl rfl rfl rfl rfl ⟨rfl, rfl, rfl, rfl, rfl⟩ rfl rfl rfl rfl rfl (by kernel_rfl) Try.func3 (by kernel_rfl)
    (of_decide_eq_true (by kernel_rfl)) (by unfold Func.isWrapper; first | (rw [if_pos (by decide +kernel)]; kernel_rfl) | (rw [if_neg (by decide +kernel)]; exact ⟨rfl, rfl⟩))
    (fun os started H enc _ F => by rw [OpenClaim.pre_eq_preRow]; exact lifted os started H enc F)

end searchWords

namespace searchPuts
theorem reads (os : Os) {H : Type} (enc : TypeId × Value → H) : ∃ places, DataW.whole enc Try.prog ((laidWorld os).forCall (fun _ _ => 0) ⟨#[], #[.slice none 0 0, .slice none 0 0, .agg #[.int .i64 0, .string ⟨#[]⟩], .slice none 0 0, .slice none 0 0, .int .i64 0], []⟩).memory Try.f4.params.toList Rows.searchPutsSpec.vars false (#[.slice none 0 0, .slice none 0 0, .agg #[.int .i64 0, .string ⟨#[]⟩], .slice none 0 0, .slice none 0 0, .int .i64 0] : Array Value).toList 8 = some ([.nil, .nil, .agg [.lit (.int .i64 0), .lit (.string [])], .nil, .nil, .lit (.int .i64 0)], [], places) :=
  ⟨[], by kernel_rfl⟩
theorem contract (H : Type) (enc : TypeId × Value → H) (W : World) (base : Nat) (args : Array Value) (ds gs : List (DataW H)) (before : List MemPlace)
    (hval : ∀ (j : Nat) t v, Try.f4.params[j]? = some t → args[j]? = some v → Value.okWide Try.prog W .any base t v)
    (hW : DataW.Whole enc Try.prog Try.f4.params.toList Rows.searchPutsSpec.vars false W args.toList ds gs before) (hsh : W.ShapedOpen Try.prog) :
    Calls Try.prog 4 args W fun e W' => ∃ v, e = .returned v ∧ Rows.searchPutsSpec.post enc Try.prog Try.f4 false true false false W args v W' := by
  have hW' := hW
  obtain ⟨p, q, hA0, hV, rfl, hfz, hnd⟩ := hW
  have hA : DataW.TrodAll enc Try.prog W 0 (fun _ => true) true Try.f4.params.toList args.toList ds p := hA0
  rw [Try.params4] at hA hval
  obtain ⟨v0, vs0, d0, ds0, p0, q0, hargs0, rfl, rfl, h0, r0⟩ := trodAll_cons hA
  obtain ⟨v1, vs1, d1, ds1, p1, q1, hargs1, rfl, rfl, h1, r1⟩ := trodAll_cons r0
  obtain ⟨v2, vs2, d2, ds2, p2, q2, hargs2, rfl, rfl, h2, r2⟩ := trodAll_cons r1
  obtain ⟨v3, vs3, d3, ds3, p3, q3, hargs3, rfl, rfl, h3, r3⟩ := trodAll_cons r2
  obtain ⟨v4, vs4, d4, ds4, p4, q4, hargs4, rfl, rfl, h4, r4⟩ := trodAll_cons r3
  obtain ⟨v5, vs5, d5, ds5, p5, q5, hargs5, rfl, rfl, h5, r5⟩ := trodAll_cons r4
  obtain ⟨rfl, rfl, rfl⟩ := trodAll_nil r5
  obtain rfl : args = #[v0, v1, v2, v3, v4, v5] := by cases args; simp_all
  obtain ⟨a, hqa, rfl⟩ := open_arg (okTy (t := 31) rfl).2.2.2 (by simp) (hval 0 _ v0 rfl rfl) h0 (open_rows)
  obtain ⟨b, hqb, rfl⟩ := open_arg (okTy (t := 31) rfl).2.2.2 (by simp) (hval 1 _ v1 rfl rfl) h1 (open_rows)
  obtain ⟨t, hqt, rfl⟩ := open_arg (okTy (t := 33) rfl).2.2.2 (by simp) (hval 2 _ v2 rfl rfl) h2 (open_title)
  obtain ⟨x, hqx, rfl⟩ := open_arg (okTy (t := 22) rfl).2.2.2 (by simp) (hval 3 _ v3 rfl rfl) h3 (open_ints)
  obtain ⟨y, hqy, rfl⟩ := open_arg (okTy (t := 22) rfl).2.2.2 (by simp) (hval 4 _ v4 rfl rfl) h4 (open_ints)
  obtain ⟨z, hqz, rfl⟩ := open_arg (okTy (t := 3) rfl).2.2.2 (by simp) (hval 5 _ v5 rfl rfl) h5 (openS_int Try.underlying3)
  obtain ⟨ad, an, ac, a0⟩ := a
  obtain ⟨A, e1, hn1, hl1, hf1⟩ := rows_of hqa
  subst hn1
  obtain ⟨bd, bn, bc, b0⟩ := b
  obtain ⟨B, e2, hn2, hl2, hf2⟩ := rows_of hqb
  subst hn2
  obtain ⟨xd, xn, xc, l⟩ := x
  obtain ⟨e3, hn3, hl3, hf3⟩ := ints_of hqx
  subst hn3
  obtain ⟨yd, yn, yc, m⟩ := y
  obtain ⟨e4, hn4, hl4, hf4⟩ := ints_of hqy
  subst hn4
  obtain ⟨sp, nm, u⟩ := t
  exact law_calls laidOut (by rw [Try.params4]; decide +kernel) rfl (by kernel_rfl) Try.underlying4 hW' rfl rfl (show allD _ [slFact e1 4 ad A.length (wrC A), slFact e2 4 bd B.length (wrC B), intsF e3 xd l, intsF e4 yd m] from ⟨hf1, hf2, hf3, hf4, trivial⟩) (searchPuts_ok e1 e2 e3 e4 ad bd xd yd ac bc xc yc A B sp nm l m z hl3 hl4)

theorem lifted (os : Os) (started : os.Started) (H : Type) (enc : TypeId × Value → H) (F : Stop.Interp) :
    ReturnsInHanded {} Try.checked os 4 .any ((OpenSpec.ofChange Rows.searchPutsSpec).preRow enc Try.prog Try.f4 Rows.searchPutsRow.domain false Rows.searchPutsRow.laid) (((OpenSpec.ofChange Rows.searchPutsSpec).at F).post enc Try.prog Try.f4 false true false false) := by
  obtain ⟨places, hx⟩ := reads os enc
  refine returnsInHanded_of_row (C := Try.checked) (s := (OpenSpec.ofChange Rows.searchPutsSpec)) own started (by kernel_rfl) Try.func4
    (witness_row_at (enc := enc) (C := Try.checked) false (laidWorld os) #[.slice none 0 0, .slice none 0 0, .agg #[.int .i64 0, .string ⟨#[]⟩], .slice none 0 0, .slice none 0 0, .int .i64 0] rfl (world_vars os _) (world_rest os _) (by kernel_rfl)
      (OpenSpec.preRow_of_cond 8 hx (by kernel_rfl) (fun k hk => by cases hk) (by kernel_rfl) (laid_met os _))) ?_
  intro W base args ds gs before hval hW _ _ _ _ hsh _
  exact contract H enc W base args ds gs before hval hW hsh

theorem said : Rows.SearchPutsSaid :=
  OpenClaim.holds_of_cond 4 Try.f4 rfl rfl rfl rfl rfl rfl rfl ⟨rfl, rfl, rfl, rfl, rfl⟩ rfl rfl rfl rfl rfl (by kernel_rfl) Try.func4 (by kernel_rfl)
    (of_decide_eq_true (by kernel_rfl)) (by unfold Func.isWrapper; first | (rw [if_pos (by decide +kernel)]; kernel_rfl) | (rw [if_neg (by decide +kernel)]; exact ⟨rfl, rfl⟩))
    (fun os started H enc _ F => by rw [OpenClaim.pre_eq_preRow]; exact lifted os started H enc F)

end searchPuts
end Go.Proofs.Ytcnbkappedemeaa
