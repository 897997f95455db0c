/- This text walks through Hex and Path of the references. · This text walks through the sanity check of chapter 20 and the functions of its laws on texts and paths. -/
import Derived.Test.YtdnkeinjfddmnaaGreatDoorQ07
import Derived.Test.YtdnkeinjfddmnaaGreatDoorQ08
import Derived.Test.YtdnkeinjfddmnaaGreatDoorQ06
set_option linter.all false

namespace Go.Proofs
open Go Go.X
set_option maxRecDepth 100000

theorem refHex_ok (y : UInt8) : FnS Tryz.prog 47 [.c (byteC y)] [] [] (Is (.c (.s (hexB y)))) := by
  have hy := y.toNat_lt
  have hq : (y.toNat : Int).tdiv 16 = ((y.toNat / 16 : Nat) : Int) := by
    rw [Int.tdiv_eq_ediv_of_nonneg (by omega)]; omega
  have hm : (y.toNat : Int).tmod 16 = ((y.toNat % 16 : Nat) : Int) := by
    rw [Int.tmod_eq_emod_of_nonneg (by omega)]; omega
  refine fn_of_J Tryz.tyOK 0 Tryz.func47 (by kernel_rfl) (c := Tryz.f47.body.getD .skip) (by kernel_rfl) Tryz.ntmps47 (rs := Tryz.f47.results.toList) rfl (by simp) (fun G => ?_)
  repeat' first
    | refine J_seq ?_ | refine J_region Tryz.tyOK ?_ | refine J_block ?_ | refine J_cond ?_ | refine J_ret ?_ | refine J_skip ?_ | refine J_exit ?_ | refine J_scope ?_
    | refine CondP.yes (by omega) ?_ | refine CondP.no (by omega) ?_ | refine CondP.mk (fun h => ?_) (fun h => ?_) | refine EqP.mk rfl ?_ | refine NewP.mk (fun ad => ?_) | refine ArP.exact (by simp only [inR]; omega) ?_ | refine SideP.mk (by first | omega | (dsimp only; omega) | (simp; omega)) ?_
    | refine J_drawU (id := 2) Tryz.tyOK (by kernel_rfl) [0, 0, 2, 0, 8, 24, 63, 0, 0, 256, 0, 1024, 3072, 8064, 16383, 32767] (.leaf [0, 1, 2, 3, 4, 5, 6, 7, 8, 9, 10, 11, 12, 13, 14, 15]) [] [] 16 true (by kernel_rfl) ?_ | refine TwoP.mk ?_ ?_ | refine GoP.mk (by repeat (first | exact List.Sublist.slnil | refine List.Sublist.cons_cons _ ?_ | refine List.Sublist.cons _ ?_)) (by first | exact fun _ h => h | exact fun _ h => h.2 | exact fun _ h => ((allD_append _ _).1 h).2) ?_ | exact trivial | refine EntP.mk (Ents.ofSub (by repeat (first | exact List.Sublist.slnil | refine List.Sublist.cons_cons _ ?_ | refine List.Sublist.cons _ ?_)) (by first | exact fun _ h => h | exact fun _ _ => trivial | exact fun _ h => h.2 | exact fun _ h => h.2.2.2.2 | exact fun _ h => h.2.2 | exact fun _ h => h.2.2.2 | exact fun _ h => h.2.2.2.2.2 | exact fun _ h => h.2.2.2.2.2.2 | exact fun _ h => h.2.2.2.2.2.2.2 | exact fun _ h => h.2.2.2.2.2.2.2.2 | exact fun _ h => h.2.2.2.2.2.2.2.2.2 | exact fun _ h => h.2.2.2.2.2.2.2.2.2.2 | exact fun _ h => ((allD_append _ _).1 h).2)) ?_ | refine SideP.mk (by decide) ?_ | rw [hq] | rw [hm] | refine SideP.mk (by show _ ∧ _ ∧ _ ≤ (16 : Int); omega) ?_ | refine ArP.exact (by simp only [inR]; rw [hq]; omega) ?_ | refine SideP.mk (by rw [hm]; show _ ∧ _ ∧ _ ≤ (16 : Int); omega) ?_ | refine FinE.str ?_
    | fail
  show hexB y = (hexS.take (y.toNat / 16 + 1)).drop (y.toNat / 16) ++ (hexS.take (y.toNat % 16 + 1)).drop (y.toNat % 16)
  rw [slice_one (s := hexS) (by show _ < 16; omega), slice_one (s := hexS) (by show _ < 16; omega)]
  rfl

set_option maxHeartbeats 1000000 in
theorem refPath_ok (sp : Int) (nm : List UInt8) (hn : nm.length ≤ 1000000) : FnS Tryz.prog 17 [.agg [.i .i64 sp, .s nm]] [] [] (Is (.c (.s (pathT sp nm)))) := by
  have hfl := formatT_le sp nm
  have hf := refFormat_ok sp nm hn
  unfold pathT
  generalize formatT sp nm = s at *
  refine fn_of_J Tryz.tyOK 0 Tryz.func17 (by kernel_rfl) (c := Tryz.f17.body.getD .skip) (by kernel_rfl) Tryz.ntmps17 (rs := Tryz.f17.results.toList) rfl (by simp) (fun G => ?_)
  repeat' first
    | refine J_seq ?_ | refine J_region Tryz.tyOK ?_ | refine J_block ?_ | refine J_cond ?_ | refine J_ret ?_ | refine J_skip ?_ | refine J_exit ?_ | refine J_scope ?_
    | refine CondP.yes (by omega) ?_ | refine CondP.no (by omega) ?_ | refine CondP.mk (fun h => ?_) (fun h => ?_) | refine EqP.mk rfl ?_ | refine NewP.mk (fun ad => ?_) | refine ArP.exact (by simp only [inR]; omega) ?_ | refine SideP.mk (by first | omega | (dsimp only; omega) | (simp; omega)) ?_
    | refine CallP.is hf ?_
    | fail
  refine J_loop (α := Nat × List UInt8) (fun x => [(3, .c (.s s)), (4, .c (.s x.2)), (5, .c (.i .i64 x.1))]) (fun _ => []) (fun _ => []) 0 (fun x => x.1 ≤ s.length ∧ x.2 = wikiS ++ pathS (s.take x.1)) (fun x => s.length - x.1)
    (InFam.mk (0, wikiS) ⟨Nat.zero_le _, rfl⟩ (by repeat' first | exact SubE.nil | refine SubE.cons rfl ?_ ?_ | exact VEq.refl _ | refine VEq.int (by omega) | refine VEq.sl rfl (by first | rfl | omega | (rw [List.length_append]; rfl) | (simp; omega)) rfl) Ents.dropAll) (fun x hx => ?_)
  obtain ⟨i, o⟩ := x
  obtain ⟨hi, ho⟩ := hx
  dsimp only at hi ho ⊢
  by_cases hlt : i < s.length
  · have hst : wikiS ++ pathS (s.take (i + 1)) = o ++ pathB s[i] := by rw [pathS_take_succ hlt, ho, List.append_assoc]
    have hol : o.length ≤ 6 + 3 * 109 := by
      have := pathS_le (s.take i)
      rw [ho, List.length_append]
      simp only [List.length_take] at this
      have : wikiS.length = 6 := rfl
      omega
    have hgd : (s.getD (Int.toNat (i : Int)) 0) = s[i] := by simp [hlt]
    have hgd2 : s.getD i 0 = s[i] := by simp [hlt]
    have h1 := slice_one hlt
    rw [hgd2] at h1
    have hx := refIdx_byte punctS s[i]
    have hidx := index_ok punctS [s[i]] 0 (by decide) (Nat.le_refl 1) (by show 1 ≤ 1000000; decide) (Nat.zero_le _)
    rw [hx] at hidx
    generalize s[i] = y at *
    have h1' : (s.take (Int.toNat ((i : Int) + 1))).drop (Int.toNat (i : Int)) = [y] := h1
    have hy := y.toNat_lt
    have hgn : (s.getD (Int.toNat (i : Int)) 0).toNat = y.toNat := by rw [hgd]
    repeat' first
      | refine J_seq ?_ | refine J_region Tryz.tyOK ?_ | refine J_block ?_ | refine J_cond ?_ | refine J_ret ?_ | refine J_skip ?_ | refine J_exit ?_ | refine J_scope ?_
      | refine CondP.yes (by omega) ?_ | refine CondP.no (by omega) ?_ | refine CondP.mk (fun h => ?_) (fun h => ?_) | refine EqP.mk rfl ?_ | refine NewP.mk (fun ad => ?_) | refine ArP.exact (by simp only [inR]; omega) ?_ | refine SideP.mk (by first | omega | (dsimp only; omega) | (simp; omega)) ?_
      | rw [hgd] | rw [h1'] | refine CallP.is hidx ?_ | refine CallP.is (refHex_ok y) ?_ | refine SideP.mk (by rw [List.length_append]; show _ + 1 + 2 ≤ _; omega) ?_ | refine Round.mk (i + 1, o ++ [95]) (by dsimp only; omega) ⟨by dsimp only; omega, pathStep32 hst (by omega)⟩ (by repeat' first | exact SubE.nil | refine SubE.cons rfl ?_ ?_ | exact VEq.refl _ | refine VEq.int (by omega) | refine VEq.sl rfl (by first | rfl | omega | (rw [List.length_append]; rfl) | (simp; omega)) rfl) (Ents.refl _ _) | refine Round.mk (i + 1, o ++ [y]) (by dsimp only; omega) ⟨by dsimp only; omega, pathStepK hst (by omega) (by unfold keepP; omega)⟩ (by repeat' first | exact SubE.nil | refine SubE.cons rfl ?_ ?_ | exact VEq.refl _ | refine VEq.int (by omega) | refine VEq.sl rfl (by first | rfl | omega | (rw [List.length_append]; rfl) | (simp; omega)) rfl) (Ents.refl _ _) | refine Round.mk (i + 1, o ++ [37] ++ hexB y) (by dsimp only; omega) ⟨by dsimp only; omega, (by rw [List.append_assoc]; exact pathStepH hst (by omega) (by unfold keepP; omega))⟩ (by repeat' first | exact SubE.nil | refine SubE.cons rfl ?_ ?_ | exact VEq.refl _ | refine VEq.int (by omega) | refine VEq.sl rfl (by first | rfl | omega | (rw [List.length_append]; rfl) | (simp; omega)) rfl) (Ents.refl _ _)
      | fail
  · have hil : i = s.length := by omega
    subst hil
    rw [List.take_length] at ho
    subst ho
    repeat' first
      | refine J_seq ?_ | refine J_region Tryz.tyOK ?_ | refine J_block ?_ | refine J_cond ?_ | refine J_ret ?_ | refine J_skip ?_ | refine J_exit ?_ | refine J_scope ?_
      | refine CondP.yes (by omega) ?_ | refine CondP.no (by omega) ?_ | refine CondP.mk (fun h => ?_) (fun h => ?_) | refine EqP.mk rfl ?_ | refine NewP.mk (fun ad => ?_) | refine ArP.exact (by simp only [inR]; omega) ?_ | refine SideP.mk (by first | omega | (dsimp only; omega) | (simp; omega)) ?_
      | refine FinE.str rfl
      | fail

end Go.Proofs

namespace Go.Proofs
open Go Go.X
set_option maxRecDepth 100000

theorem known_para : pOpen ++ escT [97, 60, 98] ++ pEnd = [60, 112, 62, 97, 38, 108, 116, 59, 98, 60, 47, 112, 62, 10] := by decide
theorem known_path : pathT 0 [65, 32, 98] = [47, 119, 105, 107, 105, 47, 65, 95, 98] := by decide +kernel

theorem known_ok : FnS Tryz.prog 11 [] [] [gInt 0] (Is (.c (.b true))) := by
  have hp := paragraph_ok [97, 60, 98]
  have hpa := path_ok 0 [65, 32, 98] (by decide)
  rw [known_path] at hpa
  have he := escape_ok [38] (by decide)
  refine fn_of_J Tryz.tyOK 0 Tryz.func11 (by kernel_rfl) (c := Tryz.f11.body.getD .skip) (by kernel_rfl) Tryz.ntmps11 (rs := Tryz.f11.results.toList) rfl (by simp) (fun G => ?_)
  repeat' first
    | refine CondP.yes known_para ?_ | refine CondP.yes rfl ?_
    | refine J_seq ?_ | refine J_region Tryz.tyOK ?_ | refine J_block ?_ | refine J_cond ?_ | refine J_ret ?_ | refine J_skip ?_ | refine J_exit ?_ | refine J_scope ?_
    | refine CondP.yes (by omega) ?_ | refine CondP.no (by omega) ?_ | refine CondP.mk (fun h => ?_) (fun h => ?_) | refine EqP.mk rfl ?_ | refine NewP.mk (fun ad => ?_) | refine ArP.exact (by simp only [inR]; omega) ?_ | refine SideP.mk (by first | omega | (dsimp only; omega) | (simp; omega)) ?_
    | (refine CallP.mk [] _ _ _ hp (List.Perm.refl _) (fun _ _ => trivial) (fun v L' D' hq => ?_); obtain ⟨ba, ia, bc, ic, rfl, rfl, rfl⟩ := hq) | refine CallP.is (renderPara ba ia bc ic [97, 60, 98] (by decide)) ?_ (fun _ h => ⟨h.1, h.2.1, trivial⟩) | refine CallP.is hpa ?_ (fun _ h => ⟨h.2.2.1, trivial⟩) | refine CallP.is he ?_ | refine FinE.bool rfl
    | fail
  all_goals trace_state

theorem htmlEscapes_law (a b : List UInt8) : FnS Tryz.prog 5 [.c (.s a), .c (.s b)] [] [gInt 0] (Is (.c (.b true))) := by
  have hinj : escT a = escT b ↔ a = b := ⟨escT_inj, fun h => by rw [h]⟩
  have happ := escT_append a b
  have h1 := escT_le a
  have h2 := escT_le b
  by_cases hla : a.length ≤ 300
  · by_cases hlb : b.length ≤ 300
    · have ea := escape_ok a (by omega)
      have eb := escape_ok b (by omega)
      have eab := escape_ok (a ++ b) (by rw [List.length_append]; omega)
      rw [happ] at eab
      refine fn_of_J Tryz.tyOK 0 Tryz.func5 (by kernel_rfl) (c := Tryz.f5.body.getD .skip) (by kernel_rfl) Tryz.ntmps5 (rs := Tryz.f5.results.toList) rfl (by simp) (fun G => ?_)
      by_cases he : a = b
      · have he2 := hinj.2 he
        repeat' first
          | refine CondP.yes rfl ?_ | refine CondP.yes he2 ?_ | refine CondP.yes he ?_
          | refine J_seq ?_ | refine J_region Tryz.tyOK ?_ | refine J_block ?_ | refine J_cond ?_ | refine J_ret ?_ | refine J_skip ?_ | refine J_exit ?_ | refine J_scope ?_
          | refine CondP.yes (by omega) ?_ | refine CondP.no (by omega) ?_ | refine CondP.mk (fun h => ?_) (fun h => ?_) | refine EqP.mk rfl ?_ | refine NewP.mk (fun ad => ?_) | refine ArP.exact (by simp only [inR]; omega) ?_ | refine SideP.mk (by first | omega | (dsimp only; omega) | (simp; omega)) ?_
          | refine CallP.is ea ?_ | refine CallP.is eb ?_ | refine CallP.is eab ?_ | refine CallP.is known_ok ?_ | refine FinE.bool rfl
          | fail
        all_goals trace_state
      · have he2 := fun h => he (hinj.1 h)
        repeat' first
          | refine CondP.yes rfl ?_ | refine CondP.no he2 ?_ | refine CondP.no he ?_
          | refine J_seq ?_ | refine J_region Tryz.tyOK ?_ | refine J_block ?_ | refine J_cond ?_ | refine J_ret ?_ | refine J_skip ?_ | refine J_exit ?_ | refine J_scope ?_
          | refine CondP.yes (by omega) ?_ | refine CondP.no (by omega) ?_ | refine CondP.mk (fun h => ?_) (fun h => ?_) | refine EqP.mk rfl ?_ | refine NewP.mk (fun ad => ?_) | refine ArP.exact (by simp only [inR]; omega) ?_ | refine SideP.mk (by first | omega | (dsimp only; omega) | (simp; omega)) ?_
          | refine CallP.is ea ?_ | refine CallP.is eb ?_ | refine CallP.is eab ?_ | refine CallP.is known_ok ?_ | refine FinE.bool rfl
          | fail
        all_goals trace_state
    · refine fn_of_J Tryz.tyOK 0 Tryz.func5 (by kernel_rfl) (c := Tryz.f5.body.getD .skip) (by kernel_rfl) Tryz.ntmps5 (rs := Tryz.f5.results.toList) rfl (by simp) (fun G => ?_)
      repeat' first
        | refine J_seq ?_ | refine J_region Tryz.tyOK ?_ | refine J_block ?_ | refine J_cond ?_ | refine J_ret ?_ | refine J_skip ?_ | refine J_exit ?_ | refine J_scope ?_
        | refine CondP.yes (by omega) ?_ | refine CondP.no (by omega) ?_ | refine CondP.mk (fun h => ?_) (fun h => ?_) | refine EqP.mk rfl ?_ | refine NewP.mk (fun ad => ?_) | refine ArP.exact (by simp only [inR]; omega) ?_ | refine SideP.mk (by first | omega | (dsimp only; omega) | (simp; omega)) ?_
        | refine CallP.is known_ok ?_ | refine FinE.bool rfl
        | fail
  · refine fn_of_J Tryz.tyOK 0 Tryz.func5 (by kernel_rfl) (c := Tryz.f5.body.getD .skip) (by kernel_rfl) Tryz.ntmps5 (rs := Tryz.f5.results.toList) rfl (by simp) (fun G => ?_)
    repeat' first
      | refine J_seq ?_ | refine J_region Tryz.tyOK ?_ | refine J_block ?_ | refine J_cond ?_ | refine J_ret ?_ | refine J_skip ?_ | refine J_exit ?_ | refine J_scope ?_
      | refine CondP.yes (by omega) ?_ | refine CondP.no (by omega) ?_ | refine CondP.mk (fun h => ?_) (fun h => ?_) | refine EqP.mk rfl ?_ | refine NewP.mk (fun ad => ?_) | refine ArP.exact (by simp only [inR]; omega) ?_ | refine SideP.mk (by first | omega | (dsimp only; omega) | (simp; omega)) ?_
      | refine CallP.is known_ok ?_ | refine FinE.bool rfl
      | fail

end Go.Proofs
