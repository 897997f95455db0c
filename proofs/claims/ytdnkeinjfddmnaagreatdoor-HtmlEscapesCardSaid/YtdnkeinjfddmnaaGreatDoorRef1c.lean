/- This text walks through the functions blanks and Parts of the reference of chapter 1. -/
import Derived.Test.YtdnkeinjfddmnaaGreatDoorRef1b
set_option linter.all false

namespace Go.Proofs
open Go Go.X
set_option maxRecDepth 100000

theorem set_last {α : Type} {A : List α} (h : A ≠ []) (x : α) : A.set ((A.length : Int) - 1).toNat x = A.dropLast ++ [x] := by
  rcases List.eq_nil_or_concat A with rfl | ⟨q, y, rfl⟩
  · exact absurd rfl h
  · have e : (((q.concat y).length : Int) - 1).toNat = q.length := by simp
    rw [e]
    simp [List.concat_eq_append]

theorem byte_is {x : UInt8} {n : Nat} (hn : n < 256) (h : (x.toNat : Int) = (n : Int)) : x = UInt8.ofNat n := by
  apply UInt8.toNat_inj.1
  have e : (UInt8.ofNat n).toNat = n % 256 := by simp
  rw [e, Nat.mod_eq_of_lt hn]; omega
theorem byte_not {x : UInt8} {n : Nat} (hn : n < 256) (h : ¬ (x.toNat : Int) = (n : Int)) : ¬ x = UInt8.ofNat n := fun hx => by
  have e : (UInt8.ofNat n).toNat = n % 256 := by simp
  rw [hx, e, Nat.mod_eq_of_lt hn] at h
  exact h rfl

theorem parts_ok (s : List UInt8) (hs : s.length ≤ 1000000) : FnS Tryz.prog 68 [.c (.s s)] [] []
    (fun v L D => ∃ a c, v = .c (.sl a (splitOn 47 s).length c) ∧ L = [.row 9 1 a (splitOn 47 s).length c ((splitOn 47 s).map C.s)] ∧ D = []) := by
  refine fn_of_J Tryz.tyOK 0 Tryz.func68 (by kernel_rfl) (c := Tryz.f68.body.getD .skip) (by kernel_rfl) Tryz.ntmps68 (rs := Tryz.f68.results.toList) rfl (by simp) (fun G => ?_)
  refine J_seq ?_
  repeat' first
    | refine J_stop (c := .seq (.seq (.region 2 _ _) _) _) ?_
    | refine J_seq ?_ | refine J_region Tryz.tyOK ?_ | refine J_block ?_ | refine J_cond ?_ | refine J_ret ?_ | refine J_skip ?_ | refine J_exit ?_ | refine J_scope ?_
    | refine CondP.yes (by omega) ?_ | refine CondP.no (by omega) ?_ | refine CondP.mk (fun h => ?_) (fun h => ?_) | refine EqP.mk rfl ?_ | refine NewP.mk (fun ad => ?_) | refine ArP.exact (by simp only [inR]; omega) ?_ | refine SideP.mk (by first | omega | (dsimp only; omega) | (simp; omega)) ?_
    | fail
    | fail
  refine ⟨?_⟩
  refine J_seq ?_
  repeat' first
    | refine J_seq ?_ | refine J_region Tryz.tyOK ?_ | refine J_block ?_ | refine J_cond ?_ | refine J_ret ?_ | refine J_skip ?_ | refine J_exit ?_ | refine J_scope ?_
    | refine CondP.yes (by omega) ?_ | refine CondP.no (by omega) ?_ | refine CondP.mk (fun h => ?_) (fun h => ?_) | refine EqP.mk rfl ?_ | refine NewP.mk (fun ad => ?_) | refine ArP.exact (by simp only [inR]; omega) ?_ | refine SideP.mk (by first | omega | (dsimp only; omega) | (simp; omega)) ?_
    | fail
    | fail
  refine J_loop (α := Nat × Option Addr × Nat) (fun x => [(0, .c (.s s)), (3, .c (.sl x.2.1 (splitOn 47 (s.take x.1)).length x.2.2)), (4, .c (.i .i64 x.1))])
    (fun x => [.row 9 1 x.2.1 (splitOn 47 (s.take x.1)).length x.2.2 ((splitOn 47 (s.take x.1)).map C.s)]) (fun _ => []) 0 (fun x => x.1 ≤ s.length) (fun x => s.length - x.1)
    (InFam.mk (0, some ⟨ad, 0, none⟩, 1) (by simp) (by repeat' first | exact SubE.nil | refine SubE.cons rfl ?_ ?_ | exact VEq.refl _ | refine VEq.int (by omega) | refine VEq.sl rfl (by first | rfl | omega | (rw [List.length_append]; rfl) | (simp; omega)) rfl) (Ents.refl _ _)) (fun x hi => ?_)
  obtain ⟨i, a, c⟩ := x
  dsimp only at hi ⊢
  have hsl := splitOn_length_le 47 (s.take i)
  have hsn := splitOn_ne 47 (s.take i)
  have hml := mem_splitOn_le 47 (s.take i)
  have htl : (s.take i).length = i := by simp; omega
  by_cases hlt : i < s.length
  · have hgi : s[i] = s.getD i 0 := by simp [hlt]
    have hst : splitOn 47 (s.take (i + 1)) = if s.getD i 0 = 47 then splitOn 47 (s.take i) ++ [[]] else (splitOn 47 (s.take i)).dropLast ++ [(splitOn 47 (s.take i)).getLastD [] ++ [s.getD i 0]] := by
      rw [List.take_succ_eq_append_getElem hlt, hgi, splitOn_snoc]
    have h1 := slice_one hlt
    have hl1 : ((s.take (i + 1)).drop i).length = 1 := by rw [h1]; rfl
    generalize splitOn 47 (s.take i) = A at *
    have hA := List.length_pos_iff.2 hsn
    have hrd : Reads [.row 9 1 a A.length c (A.map C.s)] [] 9 1 a A.length (A.map C.s) := .inl ⟨c, List.Mem.head _⟩
    have hla : (((A.map C.s).drop (((A.length : Int) - 1).toNat * 1 + 0)).take 1) = [C.s (A.getLastD [])] := by
      have e : ((A.length : Int) - 1).toNat = A.length - 1 := by omega
      rw [e, map_take1 (by omega)]
      simp only [List.getLastD_eq_getLast?, List.getLast?_eq_getElem?]
      rw [List.getElem?_eq_getElem (by omega)]; rfl
    have hll : (A.getLastD []).length ≤ i := by
      have := hml (A.getLastD []) (by rw [List.getLastD_eq_getLast?, List.getLast?_eq_some_getLast hsn]; exact List.getLast_mem hsn)
      omega
    repeat' first
      | refine J_seq ?_ | refine J_region Tryz.tyOK ?_ | refine J_block ?_ | refine J_cond ?_ | refine J_ret ?_ | refine J_skip ?_ | refine J_exit ?_ | refine J_scope ?_
      | refine CondP.yes (by omega) ?_ | refine CondP.no (by omega) ?_ | refine CondP.mk (fun h => ?_) (fun h => ?_) | refine EqP.mk rfl ?_ | refine NewP.mk (fun ad => ?_) | refine ArP.exact (by simp only [inR]; omega) ?_ | refine SideP.mk (by first | omega | (dsimp only; omega) | (simp; omega)) ?_
      | refine J_draw Tryz.tyOK (by kernel_rfl) [0, 1, 2, 3, 4, 5, 6, 7, 10, 11, 12, 13, 14, 8, 9, 15, 16, 17] [8, 9, 16, 17] [] [] (by kernel_rfl) Ents.dropAll ?_ | refine EntP.mk Ents.dropAll ?_ | refine IdxE.mk 9 1 _ hrd (by omega) (by omega) ?_ | refine LoadE.mk 9 _ _ _ hrd (by omega) (by omega) (by omega) hla ?_ | refine AppE.row [_] [] (A.map C.s) [C.s []] 1 rfl (SrcE.sl 9 9 _ _ 1 1 _ rfl rfl (.inl ⟨1, List.Mem.head _⟩) rfl) (by dsimp only; omega) (fun a' c' => ?_) | refine SideP.mk (Nat.le_trans (Nat.add_le_add hll (Nat.le_of_eq hl1)) (by omega)) ?_ | refine StoreE.mk [] [] 9 _ _ (A.map C.s) _ rfl (by omega) (by omega) (by simp) (setC_map (f := C.s) (by omega)) ?_ | refine Round.mk (i + 1, a', c') (by simp; omega) (by simp; omega) ?_ ?_ | refine Round.mk (i + 1, a, c) (by simp; omega) (by simp; omega) ?_ ?_
      | fail
    all_goals
      dsimp only
      first
        | (have h47 : s.getD i 0 = 47 := byte_is (n := 47) (by decide) (by assumption)
           rw [hst, if_pos h47])
        | (have h47 : ¬ s.getD i 0 = 47 := byte_not (n := 47) (by decide) (by assumption)
           rw [hst, if_neg h47])
      first
        | refine Ents.drop.trans (Ents.of (by rw [List.map_append, List.length_append]; rfl))
        | (refine Ents.of ?_
           have hs2 := set_last hsn (A.getLastD [] ++ (s.take (i + 1)).drop i)
           rw [h1] at hs2
           rw [← hs2, List.length_set, ← h1]
           rfl)
        | skip
    repeat' first
      | exact SubE.nil | refine SubE.cons rfl ?_ ?_ | exact VEq.refl _ | refine VEq.int (by omega) | refine VEq.sl rfl (by first | rfl | omega | (rw [List.length_append]; rfl) | (simp; omega)) rfl
      | fail
    repeat' first
      | exact SubE.nil | refine SubE.cons rfl ?_ ?_ | exact VEq.refl _ | refine VEq.int (by omega) | refine VEq.sl rfl (by first | rfl | omega | (rw [List.length_append]; rfl) | (simp; omega)) rfl
      | fail
  · have hil : i = s.length := by omega
    subst hil
    rw [List.take_length]
    repeat' first
      | refine J_seq ?_ | refine J_region Tryz.tyOK ?_ | refine J_block ?_ | refine J_cond ?_ | refine J_ret ?_ | refine J_skip ?_ | refine J_exit ?_ | refine J_scope ?_
      | refine CondP.yes (by omega) ?_ | refine CondP.no (by omega) ?_ | refine CondP.mk (fun h => ?_) (fun h => ?_) | refine EqP.mk rfl ?_ | refine NewP.mk (fun ad => ?_) | refine ArP.exact (by simp only [inR]; omega) ?_ | refine SideP.mk (by first | omega | (dsimp only; omega) | (simp; omega)) ?_
      | fail
      | fail
    exact FinE.mk [_] [] ⟨a, c, rfl, rfl, rfl⟩ (Ents.refl _ _)

end Go.Proofs
