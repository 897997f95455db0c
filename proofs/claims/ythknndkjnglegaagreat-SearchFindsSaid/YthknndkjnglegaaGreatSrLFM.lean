/- This text proves the statements SearchVisible and SearchFinds for every input: the call returns true, and leaves its arguments alone. -/
import Derived.Test.YthknndkjnglegaaGreatG08
import Derived.Test.YthknndkjnglegaaGreatG28
set_option linter.all false

namespace Go.Proofs.YthknndkjnglegaaGreat
open Go Go.X Go.ChangeShapes Go.WideShapes Go.ChangeAt Go.RowKit
set_option maxRecDepth 100000

namespace searchVisible
theorem reads (os : Os) {H : Type} (enc : TypeId × Value → H) : ∃ places, DataW.whole enc Tryz.prog ((laidWorld os).forCall (fun _ _ => 0) ⟨#[], #[.slice none 0 0, .slice none 0 0, .slice none 0 0, .int .i64 0], []⟩).memory Tryz.f4.params.toList Rows.searchVisibleSpec.vars false (#[.slice none 0 0, .slice none 0 0, .slice none 0 0, .int .i64 0] : Array Value).toList 8 = some ([.nil, .nil, .nil, .lit (.int .i64 0)], [], places) :=
  ⟨[], by kernel_rfl⟩
theorem contract (H : Type) (enc : TypeId × Value → H) (W : World) (base : Nat) (args : Array Value) (ds gs : List (DataW H)) (before : List MemPlace)
    (hval : ∀ (j : Nat) t v, Tryz.f4.params[j]? = some t → args[j]? = some v → Value.okWide Tryz.prog W .any base t v)
    (hW : DataW.Whole enc Tryz.prog Tryz.f4.params.toList Rows.searchVisibleSpec.vars false W args.toList ds gs before) (hsh : W.ShapedOpen Tryz.prog) :
    Calls Tryz.prog 4 args W fun e W' => ∃ v, e = .returned v ∧ Rows.searchVisibleSpec.post enc Tryz.prog Tryz.f4 false true false false W args v W' := by
  have hW' := hW
  obtain ⟨p, q, hA0, hV, rfl, hfz, hnd⟩ := hW
  have hA : DataW.TrodAll enc Tryz.prog W 0 (fun _ => true) true Tryz.f4.params.toList args.toList ds p := hA0
  rw [Tryz.params4] at hA hval
  obtain ⟨v0, vs0, d0, ds0, p0, q0, hargs0, rfl, rfl, h0, r0⟩ := trodAll_cons hA
  obtain ⟨v1, vs1, d1, ds1, p1, q1, hargs1, rfl, rfl, h1, r1⟩ := trodAll_cons r0
  obtain ⟨v2, vs2, d2, ds2, p2, q2, hargs2, rfl, rfl, h2, r2⟩ := trodAll_cons r1
  obtain ⟨v3, vs3, d3, ds3, p3, q3, hargs3, rfl, rfl, h3, r3⟩ := trodAll_cons r2
  obtain ⟨rfl, rfl, rfl⟩ := trodAll_nil r3
  obtain rfl : args = #[v0, v1, v2, v3] := by cases args; simp_all
  obtain ⟨x, hqx, rfl⟩ := open_arg (okTy (t := 33) rfl).2.2.2 (by simp) (hval 0 _ v0 rfl rfl) h0 (open_ints)
  obtain ⟨y, hqy, rfl⟩ := open_arg (okTy (t := 33) rfl).2.2.2 (by simp) (hval 1 _ v1 rfl rfl) h1 (open_ints)
  obtain ⟨z, hqz, rfl⟩ := open_arg (okTy (t := 33) rfl).2.2.2 (by simp) (hval 2 _ v2 rfl rfl) h2 (open_ints)
  obtain ⟨w, hqw, rfl⟩ := open_arg (okTy (t := 3) rfl).2.2.2 (by simp) (hval 3 _ v3 rfl rfl) h3 (openS_int Tryz.underlying3)
  obtain ⟨xd, xn, xc, l⟩ := x
  obtain ⟨e1, hn1, hl1, hf1⟩ := ints_of hqx
  subst hn1
  obtain ⟨yd, yn, yc, m⟩ := y
  obtain ⟨e2, hn2, hl2, hf2⟩ := ints_of hqy
  subst hn2
  obtain ⟨zd, zn, zc, q⟩ := z
  obtain ⟨e3, hn3, hl3, hf3⟩ := ints_of hqz
  subst hn3
  exact law_calls laidOut (by rw [Tryz.params4]; decide +kernel) rfl (by kernel_rfl) Tryz.underlying4 hW' rfl rfl (show allD _ [intsF e1 xd l, intsF e2 yd m, intsF e3 zd q] from ⟨hf1, hf2, hf3, trivial⟩) (searchVisible_ok e1 e2 e3 xd yd zd xc yc zc l m q w hl1 hl2 hl3)

theorem lifted (os : Os) (started : os.Started) (H : Type) (enc : TypeId × Value → H) (F : Stop.Interp) :
    ReturnsInHanded {} Tryz.checked os 4 .any ((OpenSpec.ofChange Rows.searchVisibleSpec).preRow enc Tryz.prog Tryz.f4 Rows.searchVisibleRow.domain false Rows.searchVisibleRow.laid) (((OpenSpec.ofChange Rows.searchVisibleSpec).at F).post enc Tryz.prog Tryz.f4 false true false false) := by
  obtain ⟨places, hx⟩ := reads os enc
  refine returnsInHanded_of_row (C := Tryz.checked) (s := (OpenSpec.ofChange Rows.searchVisibleSpec)) own started (by kernel_rfl) Tryz.func4
    (witness_row_at (enc := enc) (C := Tryz.checked) false (laidWorld os) #[.slice none 0 0, .slice none 0 0, .slice none 0 0, .int .i64 0] rfl (world_vars os _) (world_rest os _) (by kernel_rfl)
      (OpenSpec.preRow_of_cond 8 hx (by kernel_rfl) (fun k hk => by cases hk) (by kernel_rfl) (laid_met os _))) ?_
  intro W base args ds gs before hval hW _ _ _ _ hsh _
  exact contract H enc W base args ds gs before hval hW hsh

theorem said : Rows.SearchVisibleSaid :=
  OpenClaim.holds_of_cond 4 Tryz.f4 rfl rfl rfl rfl rfl rfl rfl ⟨rfl, rfl, rfl, rfl, rfl⟩ rfl rfl rfl rfl rfl (by kernel_rfl) Tryz.func4 (by kernel_rfl)
    (of_decide_eq_true (by kernel_rfl)) (by unfold Func.isWrapper; first | (rw [if_pos (by decide +kernel)]; kernel_rfl) | (rw [if_neg (by decide +kernel)]; exact ⟨rfl, rfl⟩))
    (fun os started H enc _ F => by rw [OpenClaim.pre_eq_preRow]; exact lifted os started H enc F)

end searchVisible

namespace searchFinds
theorem reads (os : Os) {H : Type} (enc : TypeId × Value → H) : ∃ places, DataW.whole enc Tryz.prog ((laidWorld os).forCall (fun _ _ => 0) ⟨#[], #[.slice none 0 0, .agg #[.slice none 0 0, .slice none 0 0, .slice none 0 0, .slice none 0 0, .slice none 0 0, .int .i64 0, .slice none 0 0], .string ⟨#[]⟩, .slice none 0 0, .slice none 0 0, .slice none 0 0, .int .i64 0], []⟩).memory Tryz.f3.params.toList Rows.searchFindsSpec.vars false (#[.slice none 0 0, .agg #[.slice none 0 0, .slice none 0 0, .slice none 0 0, .slice none 0 0, .slice none 0 0, .int .i64 0, .slice none 0 0], .string ⟨#[]⟩, .slice none 0 0, .slice none 0 0, .slice none 0 0, .int .i64 0] : Array Value).toList 8 = some ([.nil, .agg [.nil, .agg [.nil, .nil, .nil], .nil, .lit (.int .i64 0), .nil], .lit (.string []), .nil, .nil, .nil, .lit (.int .i64 0)], [], places) :=
  ⟨[], by kernel_rfl⟩
theorem contract (H : Type) (enc : TypeId × Value → H) (W : World) (base : Nat) (args : Array Value) (ds gs : List (DataW H)) (before : List MemPlace)
    (hval : ∀ (j : Nat) t v, Tryz.f3.params[j]? = some t → args[j]? = some v → Value.okWide Tryz.prog W .any base t v)
    (hW : DataW.Whole enc Tryz.prog Tryz.f3.params.toList Rows.searchFindsSpec.vars false W args.toList ds gs before) (hsh : W.ShapedOpen Tryz.prog) :
    Calls Tryz.prog 3 args W fun e W' => ∃ v, e = .returned v ∧ Rows.searchFindsSpec.post enc Tryz.prog Tryz.f3 false true false false W args v W' := by
  have hW' := hW
  obtain ⟨p, q, hA0, hV, rfl, hfz, hnd⟩ := hW
  have hA : DataW.TrodAll enc Tryz.prog W 0 (fun _ => true) true Tryz.f3.params.toList args.toList ds p := hA0
  rw [Tryz.params3] at hA hval
  obtain ⟨v0, vs0, d0, ds0, p0, q0, hargs0, rfl, rfl, h0, r0⟩ := trodAll_cons hA
  obtain ⟨v1, vs1, d1, ds1, p1, q1, hargs1, rfl, rfl, h1, r1⟩ := trodAll_cons r0
  obtain ⟨v2, vs2, d2, ds2, p2, q2, hargs2, rfl, rfl, h2, r2⟩ := trodAll_cons r1
  obtain ⟨v3, vs3, d3, ds3, p3, q3, hargs3, rfl, rfl, h3, r3⟩ := trodAll_cons r2
  obtain ⟨v4, vs4, d4, ds4, p4, q4, hargs4, rfl, rfl, h4, r4⟩ := trodAll_cons r3
  obtain ⟨v5, vs5, d5, ds5, p5, q5, hargs5, rfl, rfl, h5, r5⟩ := trodAll_cons r4
  obtain ⟨v6, vs6, d6, ds6, p6, q6, hargs6, rfl, rfl, h6, r6⟩ := trodAll_cons r5
  obtain ⟨rfl, rfl, rfl⟩ := trodAll_nil r6
  obtain rfl : args = #[v0, v1, v2, v3, v4, v5, v6] := by cases args; simp_all
  obtain ⟨a, hqa, rfl⟩ := open_arg (okTy (t := 22) rfl).2.2.2 (by simp) (hval 0 _ v0 rfl rfl) h0 (open_rows)
  obtain ⟨b, hqb, evb⟩ := open_arg (okTy (t := 32) rfl).2.2.2 (by simp) (hval 1 _ v1 rfl rfl) h1 (open_vie)
  obtain ⟨tx, hqtx, rfl⟩ := open_arg (okTy (t := 9) rfl).2.2.2 (by simp) (hval 2 _ v2 rfl rfl) h2 (openS_str Tryz.underlying9)
  obtain ⟨x, hqx, rfl⟩ := open_arg (okTy (t := 33) rfl).2.2.2 (by simp) (hval 3 _ v3 rfl rfl) h3 (open_ints)
  obtain ⟨y, hqy, rfl⟩ := open_arg (okTy (t := 33) rfl).2.2.2 (by simp) (hval 4 _ v4 rfl rfl) h4 (open_ints)
  obtain ⟨z, hqz, rfl⟩ := open_arg (okTy (t := 33) rfl).2.2.2 (by simp) (hval 5 _ v5 rfl rfl) h5 (open_ints)
  obtain ⟨w, hqw, rfl⟩ := open_arg (okTy (t := 3) rfl).2.2.2 (by simp) (hval 6 _ v6 rfl rfl) h6 (openS_int Tryz.underlying3)
  obtain ⟨ad, an, ac, a0⟩ := a
  obtain ⟨A, e0, hn0, hl0, hf0⟩ := rows_of hqa
  subst hn0
  obtain ⟨ps, pa, pc, vt, hc, hpl, hpf⟩ := view_of hqb
  have ev2 : v1 = (V.agg [.sl pa ps.length pc, slK vt.gs, slK vt.rs, slK vt.us, slK vt.gp, .i .i64 vt.ck, slK vt.fx]).enc := evb.trans (congrArg (fun l => (V.agg l).enc) hc)
  clear evb
  subst ev2
  obtain ⟨xd, xn, xc, l⟩ := x
  obtain ⟨e1, hn1, hl1, hf1⟩ := ints_of hqx
  subst hn1
  obtain ⟨yd, yn, yc, m⟩ := y
  obtain ⟨e2, hn2, hl2, hf2⟩ := ints_of hqy
  subst hn2
  obtain ⟨zd, zn, zc, q⟩ := z
  obtain ⟨e3, hn3, hl3, hf3⟩ := ints_of hqz
  subst hn3
  exact law_calls laidOut (by rw [Tryz.params3]; decide +kernel) rfl (by kernel_rfl) Tryz.underlying4 hW' rfl rfl (show allD _ [slFact e0 4 ad A.length (wrC A), slFact 0 4 pa ps.length (pgC ps), intsF e1 xd l, intsF e2 yd m, intsF e3 zd q] from ⟨hf0, hpf, hf1, hf2, hf3, trivial⟩) (searchFinds_ok e0 0 e1 e2 e3 ad pa xd yd zd ac pc xc yc zc A ps vt tx l m q w (le63 hl0) hpl hl1 hl2 hl3)

theorem lifted (os : Os) (started : os.Started) (H : Type) (enc : TypeId × Value → H) (F : Stop.Interp) :
    ReturnsInHanded {} Tryz.checked os 3 .any ((OpenSpec.ofChange Rows.searchFindsSpec).preRow enc Tryz.prog Tryz.f3 Rows.searchFindsRow.domain false Rows.searchFindsRow.laid) (((OpenSpec.ofChange Rows.searchFindsSpec).at F).post enc Tryz.prog Tryz.f3 false true false false) := by
  obtain ⟨places, hx⟩ := reads os enc
  refine returnsInHanded_of_row (C := Tryz.checked) (s := (OpenSpec.ofChange Rows.searchFindsSpec)) own started (by kernel_rfl) Tryz.func3
    (witness_row_at (enc := enc) (C := Tryz.checked) false (laidWorld os) #[.slice none 0 0, .agg #[.slice none 0 0, .slice none 0 0, .slice none 0 0, .slice none 0 0, .slice none 0 0, .int .i64 0, .slice none 0 0], .string ⟨#[]⟩, .slice none 0 0, .slice none 0 0, .slice none 0 0, .int .i64 0] rfl (world_vars os _) (world_rest os _) (by kernel_rfl)
      (OpenSpec.preRow_of_cond 8 hx (by kernel_rfl) (fun k hk => by cases hk) (by kernel_rfl) (laid_met os _))) ?_
  intro W base args ds gs before hval hW _ _ _ _ hsh _
  exact contract H enc W base args ds gs before hval hW hsh

theorem said : Rows.SearchFindsSaid :=
  OpenClaim.holds_of_cond 3 Tryz.f3 rfl rfl rfl rfl rfl rfl rfl ⟨rfl, rfl, rfl, rfl, rfl⟩ rfl rfl rfl rfl rfl (by kernel_rfl) Tryz.func3 (by kernel_rfl)
    (of_decide_eq_true (by kernel_rfl)) (by unfold Func.isWrapper; first | (rw [if_pos (by decide +kernel)]; kernel_rfl) | (rw [if_neg (by decide +kernel)]; exact ⟨rfl, rfl⟩))
    (fun os started H enc _ F => by rw [OpenClaim.pre_eq_preRow]; exact lifted os started H enc F)

end searchFinds
end Go.Proofs.YthknndkjnglegaaGreat
