/- This text walks through the small functions of the reference of chapter 1. -/
import Derived.Test.YtdnkeinjfddmnaaGreatDoorWTitle
import Derived.Test.YtdnkeinjfddmnaaGreatDoorRefStr
set_option linter.all false

namespace Go.Proofs
open Go Go.X
set_option maxRecDepth 100000

theorem lower_ok (b : UInt8) : FnS Tryz.prog 135 [.c (byteC b)] [] [] (Is (.c (byteC (lowB b)))) := by
  have hb := b.toNat_lt
  refine fn_of_J Tryz.tyOK 0 Tryz.func135 (by kernel_rfl) (c := Tryz.f135.body.getD .skip) (by kernel_rfl) Tryz.ntmps135 (rs := Tryz.f135.results.toList) rfl (by simp) (fun G => ?_)
  repeat' first
    | refine J_seq ?_ | refine J_region Tryz.tyOK ?_ | refine J_block ?_ | refine J_cond ?_ | refine J_ret ?_ | refine J_skip ?_ | refine J_exit ?_ | refine J_scope ?_
    | refine CondP.yes (by omega) ?_ | refine CondP.no (by omega) ?_ | refine CondP.mk (fun h => ?_) (fun h => ?_) | refine EqP.mk rfl ?_ | refine NewP.mk (fun ad => ?_) | refine ArP.exact (by simp only [inR]; omega) ?_ | refine SideP.mk (by first | omega | (dsimp only; omega) | (simp; omega)) ?_
    | refine FinE.is ?_
    | fail
  · rw [byteC, lowB_yes (by assumption) (by assumption)]
  · rw [lowB_no (by omega)]
  · rw [lowB_no (by omega)]

theorem low_same {a b : UInt8} : ((lowB a).toNat : Int) = (lowB b).toNat ↔ lowB a = lowB b :=
  ⟨fun h => UInt8.toNat_inj.1 (by omega), fun h => by rw [h]⟩

theorem map_take_succ {f : UInt8 → UInt8} {a : List UInt8} {i : Nat} (h : i < a.length) : (a.take (i + 1)).map f = (a.take i).map f ++ [f (a.getD i 0)] := by
  rw [List.take_succ_eq_append_getElem h, List.map_append]; simp [h]

theorem sameLetters_ok (a b : List UInt8) (ha : a.length ≤ 1000000) : FnS Tryz.prog 103 [.c (.s a), .c (.s b)] [] [] (Is (.c (.b (decide (a.map lowB = b.map lowB))))) := by
  refine fn_of_J Tryz.tyOK 0 Tryz.func103 (by kernel_rfl) (c := Tryz.f103.body.getD .skip) (by kernel_rfl) Tryz.ntmps103 (rs := Tryz.f103.results.toList) rfl (by simp) (fun G => ?_)
  repeat' first
    | refine J_stop (c := .seq (.seq (.region 3 _ _) _) _) ?_
    | refine J_seq ?_ | refine J_region Tryz.tyOK ?_ | refine J_block ?_ | refine J_cond ?_ | refine J_ret ?_ | refine J_skip ?_ | refine J_exit ?_ | refine J_scope ?_
    | refine CondP.yes (by omega) ?_ | refine CondP.no (by omega) ?_ | refine CondP.mk (fun h => ?_) (fun h => ?_) | refine EqP.mk rfl ?_ | refine NewP.mk (fun ad => ?_) | refine ArP.exact (by simp only [inR]; omega) ?_ | refine SideP.mk (by first | omega | (dsimp only; omega) | (simp; omega)) ?_
    | refine FinE.bool ?_
    | fail
  rotate_left
  · refine decide_eq_false fun h => ?_
    have := congrArg List.length h
    simp at this; omega
  refine ⟨?_⟩
  refine J_seq ?_
  repeat' first
    | refine J_seq ?_ | refine J_region Tryz.tyOK ?_ | refine J_block ?_ | refine J_cond ?_ | refine J_ret ?_ | refine J_skip ?_ | refine J_exit ?_ | refine J_scope ?_
    | refine CondP.yes (by omega) ?_ | refine CondP.no (by omega) ?_ | refine CondP.mk (fun h => ?_) (fun h => ?_) | refine EqP.mk rfl ?_ | refine NewP.mk (fun ad => ?_) | refine ArP.exact (by simp only [inR]; omega) ?_ | refine SideP.mk (by first | omega | (dsimp only; omega) | (simp; omega)) ?_
    | fail
    | fail
  refine J_loop (α := Nat) (fun i => [(0, .c (.s a)), (1, .c (.s b)), (5, .c (.i .i64 i))]) (fun _ => []) (fun _ => []) 0 (fun i => i ≤ a.length ∧ (a.take i).map lowB = (b.take i).map lowB) (fun i => a.length - i)
    (InFam.mk 0 ⟨by omega, rfl⟩ (by repeat' first | exact SubE.nil | refine SubE.cons rfl ?_ ?_ | exact VEq.refl _ | refine VEq.int (by omega) | refine VEq.sl rfl (by first | rfl | omega | (rw [List.length_append]; rfl) | (simp; omega)) rfl) (Ents.refl _ _)) (fun i hi => ?_)
  obtain ⟨hi, hal⟩ := hi
  by_cases hlt : i < a.length
  · have h1 := map_take_succ (f := lowB) hlt
    have h2 := map_take_succ (f := lowB) (a := b) (i := i) (by omega)
    repeat' first
      | refine J_seq ?_ | refine J_region Tryz.tyOK ?_ | refine J_block ?_ | refine J_cond ?_ | refine J_ret ?_ | refine J_skip ?_ | refine J_exit ?_ | refine J_scope ?_
      | refine CondP.yes (by omega) ?_ | refine CondP.no (by omega) ?_ | refine CondP.mk (fun h => ?_) (fun h => ?_) | refine EqP.mk rfl ?_ | refine NewP.mk (fun ad => ?_) | refine ArP.exact (by simp only [inR]; omega) ?_ | refine SideP.mk (by first | omega | (dsimp only; omega) | (simp; omega)) ?_
      | refine J_draw Tryz.tyOK (by kernel_rfl) [0, 1, 2, 3, 4, 5, 6, 7, 8] [] _ _ (by kernel_rfl) (Ents.refl _ _) ?_ | refine CallQ.mk [] _ (lower_ok _) (fun _ _ => trivial) ?_ | refine Round.mk (i + 1) (by omega) ⟨by omega, ?_⟩ (by repeat' first | exact SubE.nil | refine SubE.cons rfl ?_ ?_ | exact VEq.refl _ | refine VEq.int (by omega) | refine VEq.sl rfl (by first | rfl | omega | (rw [List.length_append]; rfl) | (simp; omega)) rfl) (Ents.refl _ _) | refine FinE.bool ?_
      | fail
    · have h5 : lowB (a.getD i 0) = lowB (b.getD i 0) := low_same.1 (by assumption)
      rw [h1, h2, hal, h5]
    · refine decide_eq_false fun hh => ?_
      have h3 : (a.take (i + 1)).map lowB = (b.take (i + 1)).map lowB := by rw [List.map_take, List.map_take, hh]
      rw [h1, h2, hal] at h3
      have h4 := List.append_cancel_left h3
      simp only [List.cons.injEq, and_true] at h4
      have h5 := low_same.2 h4
      exact absurd h5 (by assumption)
  · have hil : i = a.length := by omega
    subst hil
    repeat' first
      | refine J_seq ?_ | refine J_region Tryz.tyOK ?_ | refine J_block ?_ | refine J_cond ?_ | refine J_ret ?_ | refine J_skip ?_ | refine J_exit ?_ | refine J_scope ?_
      | refine CondP.yes (by omega) ?_ | refine CondP.no (by omega) ?_ | refine CondP.mk (fun h => ?_) (fun h => ?_) | refine EqP.mk rfl ?_ | refine NewP.mk (fun ad => ?_) | refine ArP.exact (by simp only [inR]; omega) ?_ | refine SideP.mk (by first | omega | (dsimp only; omega) | (simp; omega)) ?_
      | refine FinE.bool ?_
      | fail
    refine decide_eq_true ?_
    rw [List.take_length, List.take_of_length_le (by omega)] at hal
    exact hal

theorem spaceName_ok (n : Int) : FnS Tryz.prog 83 [.c (.i .i64 n)] [] [] (Is (.c (.s (spName n.toNat)))) := by
  have hlo : n < 0 → spName n.toNat = [] := fun h => by rw [show n.toNat = 0 by omega]; rfl
  have hhi : 6 ≤ n → spName n.toNat = [] := fun h => by
    obtain ⟨k, hk⟩ : ∃ k, n.toNat = k + 6 := ⟨n.toNat - 6, by omega⟩
    rw [hk]; rfl
  have hid : 0 ≤ n → n < 6 → ([C.s [], .s (spName 1), .s (spName 2), .s (spName 3), .s (spName 4), .s (spName 5)].drop (n.toNat * 1 + 0)).take 1 = [C.s (spName n.toNat)] := fun h0 h1 => by
    rcases (by omega : n = 0 ∨ n = 1 ∨ n = 2 ∨ n = 3 ∨ n = 4 ∨ n = 5) with rfl | rfl | rfl | rfl | rfl | rfl <;> rfl
  refine fn_of_J Tryz.tyOK 0 Tryz.func83 (by kernel_rfl) (c := Tryz.f83.body.getD .skip) (by kernel_rfl) Tryz.ntmps83 (rs := Tryz.f83.results.toList) rfl (by simp) (fun G => ?_)
  repeat' first
    | refine J_seq ?_ | refine J_region Tryz.tyOK ?_ | refine J_block ?_ | refine J_cond ?_ | refine J_ret ?_ | refine J_skip ?_ | refine J_exit ?_ | refine J_scope ?_
    | refine CondP.yes (by omega) ?_ | refine CondP.no (by omega) ?_ | refine CondP.mk (fun h => ?_) (fun h => ?_) | refine EqP.mk rfl ?_ | refine NewP.mk (fun ad => ?_) | refine ArP.exact (by simp only [inR]; omega) ?_ | refine SideP.mk (by first | omega | (dsimp only; omega) | (simp; omega)) ?_
    | refine FinE.str ?_ | refine IdxE.mk 9 1 _ (.inl ⟨6, List.Mem.head _⟩) (by omega) (by omega) ?_ | refine LoadE.mk 9 6 [C.s [], .s (spName 1), .s (spName 2), .s (spName 3), .s (spName 4), .s (spName 5)] [C.s (spName n.toNat)] (.inl ⟨6, List.Mem.head _⟩) (by omega) (by omega) (by omega) (hid (by omega) (by omega)) ?_
    | fail
  · exact hlo (by omega)
  · exact hhi (by omega)
  · rfl

theorem index_ok (s t : List UInt8) (i0 : Nat) (hs : s.length ≤ 1000000) (ht1 : 1 ≤ t.length) (ht : t.length ≤ 1000000) (hi0 : i0 ≤ s.length) : FnS Tryz.prog 46 [.c (.s s), .c (.s t), .c (.i .i64 i0)] [] [] (Is (.c (.i .i64 (refIdx s t i0)))) := by
  refine fn_of_J Tryz.tyOK 0 Tryz.func46 (by kernel_rfl) (c := Tryz.f46.body.getD .skip) (by kernel_rfl) Tryz.ntmps46 (rs := Tryz.f46.results.toList) rfl (by simp) (fun G => ?_)
  refine J_seq ?_
  repeat' first
    | refine J_stop (c := .seq (.seq (.region 1 _ _) _) _) ?_
    | refine J_seq ?_ | refine J_region Tryz.tyOK ?_ | refine J_block ?_ | refine J_cond ?_ | refine J_ret ?_ | refine J_skip ?_ | refine J_exit ?_ | refine J_scope ?_
    | refine CondP.yes (by omega) ?_ | refine CondP.no (by omega) ?_ | refine CondP.mk (fun h => ?_) (fun h => ?_) | refine EqP.mk rfl ?_ | refine NewP.mk (fun ad => ?_) | refine ArP.exact (by simp only [inR]; omega) ?_ | refine SideP.mk (by first | omega | (dsimp only; omega) | (simp; omega)) ?_
    | fail
    | fail
  refine ⟨?_⟩
  refine J_seq ?_
  repeat' first
    | refine J_seq ?_ | refine J_region Tryz.tyOK ?_ | refine J_block ?_ | refine J_cond ?_ | refine J_ret ?_ | refine J_skip ?_ | refine J_exit ?_ | refine J_scope ?_
    | refine CondP.yes (by omega) ?_ | refine CondP.no (by omega) ?_ | refine CondP.mk (fun h => ?_) (fun h => ?_) | refine EqP.mk rfl ?_ | refine NewP.mk (fun ad => ?_) | refine ArP.exact (by simp only [inR]; omega) ?_ | refine SideP.mk (by first | omega | (dsimp only; omega) | (simp; omega)) ?_
    | fail
    | fail
  refine J_loop (α := Nat) (fun i => [(0, .c (.s s)), (1, .c (.s t)), (7, .c (.i .i64 i))]) (fun _ => []) (fun _ => []) 0 (fun i => i ≤ s.length ∧ refIdx s t i0 = refIdx s t i) (fun i => s.length - i)
    (InFam.mk i0 ⟨by omega, rfl⟩ (by repeat' first | exact SubE.nil | refine SubE.cons rfl ?_ ?_ | exact VEq.refl _ | refine VEq.int (by omega) | refine VEq.sl rfl (by first | rfl | omega | (rw [List.length_append]; rfl) | (simp; omega)) rfl) (Ents.refl _ _)) (fun i hi => ?_)
  obtain ⟨hi, hal⟩ := hi
  by_cases hle : i + t.length ≤ s.length
  · have h1 := refIdx_hit (s := s) (t := t) (i := i) ht1 hle
    have h2 := refIdx_miss (s := s) (t := t) (i := i) ht1 hle
    repeat' first
      | refine J_seq ?_ | refine J_region Tryz.tyOK ?_ | refine J_block ?_ | refine J_cond ?_ | refine J_ret ?_ | refine J_skip ?_ | refine J_exit ?_ | refine J_scope ?_
      | refine CondP.yes (by omega) ?_ | refine CondP.no (by omega) ?_ | refine CondP.mk (fun h => ?_) (fun h => ?_) | refine EqP.mk rfl ?_ | refine NewP.mk (fun ad => ?_) | refine ArP.exact (by simp only [inR]; omega) ?_ | refine SideP.mk (by first | omega | (dsimp only; omega) | (simp; omega)) ?_
      | refine Round.mk (i + 1) (by omega) ⟨by omega, ?_⟩ (by repeat' first | exact SubE.nil | refine SubE.cons rfl ?_ ?_ | exact VEq.refl _ | refine VEq.int (by omega) | refine VEq.sl rfl (by first | rfl | omega | (rw [List.length_append]; rfl) | (simp; omega)) rfl) (Ents.refl _ _) | refine FinE.int ?_
      | fail
    · rw [hal]; exact h1 (by assumption)
    · rw [hal]; exact h2 (by assumption)
  · repeat' first
      | refine J_seq ?_ | refine J_region Tryz.tyOK ?_ | refine J_block ?_ | refine J_cond ?_ | refine J_ret ?_ | refine J_skip ?_ | refine J_exit ?_ | refine J_scope ?_
      | refine CondP.yes (by omega) ?_ | refine CondP.no (by omega) ?_ | refine CondP.mk (fun h => ?_) (fun h => ?_) | refine EqP.mk rfl ?_ | refine NewP.mk (fun ad => ?_) | refine ArP.exact (by simp only [inR]; omega) ?_ | refine SideP.mk (by first | omega | (dsimp only; omega) | (simp; omega)) ?_
      | refine FinE.int ?_
      | fail
    rw [hal, refIdx_end ht1 hle]

end Go.Proofs
