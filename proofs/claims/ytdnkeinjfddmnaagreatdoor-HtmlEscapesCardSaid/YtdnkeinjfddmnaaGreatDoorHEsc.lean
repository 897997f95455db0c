/- This text walks through the reference's Escape: it computes the escaped string too. -/
import Derived.Test.YtdnkeinjfddmnaaGreatDoorRepF
import Derived.Test.YtdnkeinjfddmnaaGreatDoorRef1c
set_option linter.all false

namespace Go.Proofs
open Go Go.X
set_option maxRecDepth 100000

theorem escStep38 {o r : List UInt8} {x y : UInt8} (hst : r = o ++ escB y) (hg : x = y) (h : (x.toNat : Int) = 38) : o ++ eAmp = r := by
  subst hg
  have hy : x = 38 := byte_is (n := 38) (by decide) h
  subst hy; rw [hst]; rfl
theorem escStep60 {o r : List UInt8} {x y : UInt8} (hst : r = o ++ escB y) (hg : x = y) (h : (x.toNat : Int) = 60) : o ++ eLt = r := by
  subst hg
  have hy : x = 60 := byte_is (n := 60) (by decide) h
  subst hy; rw [hst]; rfl
theorem escStep62 {o r : List UInt8} {x y : UInt8} (hst : r = o ++ escB y) (hg : x = y) (h : (x.toNat : Int) = 62) : o ++ eGt = r := by
  subst hg
  have hy : x = 62 := byte_is (n := 62) (by decide) h
  subst hy; rw [hst]; rfl
theorem escStep34 {o r : List UInt8} {x y : UInt8} (hst : r = o ++ escB y) (hg : x = y) (h : (x.toNat : Int) = 34) : o ++ eQuot = r := by
  subst hg
  have hy : x = 34 := byte_is (n := 34) (by decide) h
  subst hy; rw [hst]; rfl
theorem escStepN {o r : List UInt8} {x y : UInt8} (hst : r = o ++ escB y) (hg : x = y) (h1 : ¬ (x.toNat : Int) = 38) (h2 : ¬ (x.toNat : Int) = 60) (h3 : ¬ (x.toNat : Int) = 62) (h4 : ¬ (x.toNat : Int) = 34) : o ++ [y] = r := by
  subst hg
  have n1 : ¬ x = 38 := byte_not (n := 38) (by decide) h1
  have n2 : ¬ x = 60 := byte_not (n := 60) (by decide) h2
  have n3 : ¬ x = 62 := byte_not (n := 62) (by decide) h3
  have n4 : ¬ x = 34 := byte_not (n := 34) (by decide) h4
  rw [hst]; simp [escB, n1, n2, n3, n4]

theorem refEscape_ok (s : List UInt8) (hs : s.length ≤ 1000000) : FnS Tryz.prog 15 [.c (.s s)] [] [] (Is (.c (.s (escT s)))) := by
  have hle := escT_le s
  refine fn_of_J Tryz.tyOK 0 Tryz.func15 (by kernel_rfl) (c := Tryz.f15.body.getD .skip) (by kernel_rfl) Tryz.ntmps15 (rs := Tryz.f15.results.toList) rfl (by simp) (fun G => ?_)
  repeat' first
    | refine J_seq ?_ | refine J_region Tryz.tyOK ?_ | refine J_block ?_ | refine J_cond ?_ | refine J_ret ?_ | refine J_skip ?_ | refine J_exit ?_ | refine J_scope ?_
    | refine CondP.yes (by omega) ?_ | refine CondP.no (by omega) ?_ | refine CondP.mk (fun h => ?_) (fun h => ?_) | refine EqP.mk rfl ?_ | refine NewP.mk (fun ad => ?_) | refine ArP.exact (by simp only [inR]; omega) ?_ | refine SideP.mk (by first | omega | (dsimp only; omega) | (simp; omega)) ?_
    | fail
  refine J_loop (α := Nat × List UInt8) (fun x => [(0, .c (.s s)), (3, .c (.s x.2)), (4, .c (.i .i64 x.1))]) (fun _ => []) (fun _ => []) 0 (fun x => x.1 ≤ s.length ∧ x.2 = escT (s.take x.1)) (fun x => s.length - x.1)
    (InFam.mk (0, []) ⟨Nat.zero_le _, rfl⟩ (by repeat' first | exact SubE.nil | refine SubE.cons rfl ?_ ?_ | exact VEq.refl _ | refine VEq.int (by omega) | refine VEq.sl rfl (by first | rfl | omega | (rw [List.length_append]; rfl) | (simp; omega)) rfl) (Ents.refl _ _)) (fun x hx => ?_)
  obtain ⟨i, o⟩ := x
  obtain ⟨hi, ho⟩ := hx
  dsimp only at hi ho ⊢
  by_cases hlt : i < s.length
  · have hst := escT_take_succ hlt
    have htl := escT_take_le s i
    rw [← ho] at hst htl
    have hgd : (s.getD (Int.toNat (i : Int)) 0) = s[i] := by simp [hlt]
    have h1 := slice_one hlt
    have hgd2 : s.getD i 0 = s[i] := by simp [hlt]
    rw [hgd2] at h1
    generalize s[i] = y at *
    have h1' : (s.take (Int.toNat ((i : Int) + 1))).drop (Int.toNat (i : Int)) = [y] := h1
    repeat' first
      | refine J_seq ?_ | refine J_region Tryz.tyOK ?_ | refine J_block ?_ | refine J_cond ?_ | refine J_ret ?_ | refine J_skip ?_ | refine J_exit ?_ | refine J_scope ?_
      | refine CondP.yes (by omega) ?_ | refine CondP.no (by omega) ?_ | refine CondP.mk (fun h => ?_) (fun h => ?_) | refine EqP.mk rfl ?_ | refine NewP.mk (fun ad => ?_) | refine ArP.exact (by simp only [inR]; omega) ?_ | refine SideP.mk (by first | omega | (dsimp only; omega) | (simp; omega)) ?_
      | rw [hgd] | refine Round.mk (i + 1, o ++ eAmp) (by dsimp only; omega) ⟨by dsimp only; omega, escStep38 hst hgd h⟩ (by repeat' first | exact SubE.nil | refine SubE.cons rfl ?_ ?_ | exact VEq.refl _ | refine VEq.int (by omega) | refine VEq.sl rfl (by first | rfl | omega | (rw [List.length_append]; rfl) | (simp; omega)) rfl) (Ents.refl _ _) | refine Round.mk (i + 1, o ++ eLt) (by dsimp only; omega) ⟨by dsimp only; omega, escStep60 hst hgd h⟩ (by repeat' first | exact SubE.nil | refine SubE.cons rfl ?_ ?_ | exact VEq.refl _ | refine VEq.int (by omega) | refine VEq.sl rfl (by first | rfl | omega | (rw [List.length_append]; rfl) | (simp; omega)) rfl) (Ents.refl _ _) | refine Round.mk (i + 1, o ++ eGt) (by dsimp only; omega) ⟨by dsimp only; omega, escStep62 hst hgd h⟩ (by repeat' first | exact SubE.nil | refine SubE.cons rfl ?_ ?_ | exact VEq.refl _ | refine VEq.int (by omega) | refine VEq.sl rfl (by first | rfl | omega | (rw [List.length_append]; rfl) | (simp; omega)) rfl) (Ents.refl _ _) | refine Round.mk (i + 1, o ++ eQuot) (by dsimp only; omega) ⟨by dsimp only; omega, escStep34 hst hgd h⟩ (by repeat' first | exact SubE.nil | refine SubE.cons rfl ?_ ?_ | exact VEq.refl _ | refine VEq.int (by omega) | refine VEq.sl rfl (by first | rfl | omega | (rw [List.length_append]; rfl) | (simp; omega)) rfl) (Ents.refl _ _) | rw [h1'] | refine Round.mk (i + 1, o ++ [y]) (by dsimp only; omega) ⟨by dsimp only; omega, escStepN hst hgd (by assumption) (by assumption) (by assumption) (by assumption)⟩ (by repeat' first | exact SubE.nil | refine SubE.cons rfl ?_ ?_ | exact VEq.refl _ | refine VEq.int (by omega) | refine VEq.sl rfl (by first | rfl | omega | (rw [List.length_append]; rfl) | (simp; omega)) rfl) (Ents.refl _ _)
      | fail
  · have hil : i = s.length := by omega
    subst hil
    rw [List.take_length] at ho
    subst ho
    repeat' first
      | refine J_seq ?_ | refine J_region Tryz.tyOK ?_ | refine J_block ?_ | refine J_cond ?_ | refine J_ret ?_ | refine J_skip ?_ | refine J_exit ?_ | refine J_scope ?_
      | refine CondP.yes (by omega) ?_ | refine CondP.no (by omega) ?_ | refine CondP.mk (fun h => ?_) (fun h => ?_) | refine EqP.mk rfl ?_ | refine NewP.mk (fun ad => ?_) | refine ArP.exact (by simp only [inR]; omega) ?_ | refine SideP.mk (by first | omega | (dsimp only; omega) | (simp; omega)) ?_
      | refine FinE.str rfl
      | fail

end Go.Proofs
