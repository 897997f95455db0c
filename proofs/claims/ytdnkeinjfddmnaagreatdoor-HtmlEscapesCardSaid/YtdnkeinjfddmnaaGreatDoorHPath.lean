/- This text walks through html.Path. -/
import Derived.Test.YtdnkeinjfddmnaaGreatDoorBldH
import Derived.Test.YtdnkeinjfddmnaaGreatDoorHPl
import Derived.Test.YtdnkeinjfddmnaaGreatDoorWFormat
import Derived.Test.YtdnkeinjfddmnaaGreatDoorDrawU
set_option linter.all false

namespace Go.Proofs
open Go Go.X
set_option maxRecDepth 100000

theorem shr4 (y : UInt8) : ((y.toNat : Int).fdiv (2 ^ min (Int.toNat 4) IntKind.u8.bits)) = ((y.toNat / 16 : Nat) : Int) := by
  show (y.toNat : Int).fdiv 16 = _
  rw [Int.fdiv_eq_ediv_of_nonneg _ (by decide)]
  omega
theorem and15_all : ∀ n : Fin 256, bitsV .and .u8 ((n.val : Nat) : Int) 15 = ((n.val % 16 : Nat) : Int) := by decide
theorem and15 (y : UInt8) : bitsV .and .u8 (y.toNat : Int) 15 = ((y.toNat % 16 : Nat) : Int) := and15_all ⟨y.toNat, y.toNat_lt⟩

set_option maxHeartbeats 1000000 in
theorem path_ok (sp : Int) (nm : List UInt8) (hn : nm.length ≤ 1000000) : FnS Tryz.prog 16 [.agg [.i .i64 sp, .s nm]] [] [gInt 0] (Is (.c (.s (pathT sp nm)))) := by
  have hfl := formatT_le sp nm
  have hf := format_ok sp nm hn
  unfold pathT
  generalize formatT sp nm = s at *
  refine fn_of_J Tryz.tyOK 0 Tryz.func16 (by kernel_rfl) (c := Tryz.f16.body.getD .skip) (by kernel_rfl) Tryz.ntmps16 (rs := Tryz.f16.results.toList) rfl (by simp) (fun G => ?_)
  repeat' first
    | refine J_seq ?_ | refine J_region Tryz.tyOK ?_ | refine J_block ?_ | refine J_cond ?_ | refine J_ret ?_ | refine J_skip ?_ | refine J_exit ?_ | refine J_scope ?_
    | refine CondP.yes (by omega) ?_ | refine CondP.no (by omega) ?_ | refine CondP.mk (fun h => ?_) (fun h => ?_) | refine EqP.mk rfl ?_ | refine NewP.mk (fun ad => ?_) | refine ArP.exact (by simp only [inR]; omega) ?_ | refine SideP.mk (by first | omega | (dsimp only; omega) | (simp; omega)) ?_
    | refine CallP.is hf ?_ | (refine CallP.mk [_] [_] [] _ (bwString_ok 1 _ _ none 0 [] wikiS [] bty0 (by decide) (by decide)) (List.Perm.refl _) (fun _ _ => trivial) (fun v L' D' hp => ?_); obtain ⟨a0, c0, rfl, rfl, rfl⟩ := hp) | refine NewB.mk (fun ad2 c2 => ?_)
    | fail
  refine J_loop (α := Nat × List UInt8 × Option Addr × Nat) (fun x => [(3, .c (.p 1 ad 0)), (9, .c (.sl (some ⟨ad2, 0, none⟩) s.length c2)), (10, lenV s.length), (11, .c (.i .i64 x.1))])
    (fun x => bw 1 ad 66 x.2.2.1 x.2.2.2 x.2.1 []) (fun _ => [slFact 5 1 (some ⟨ad2, 0, none⟩) s.length (s.map byteC)]) 7000 (fun x => x.1 ≤ s.length ∧ x.2.1 = wikiS ++ pathS (s.take x.1)) (fun x => s.length - x.1)
    (InFam.mk (0, wikiS, a0, c0) ⟨Nat.zero_le _, rfl⟩ (by repeat' first | exact SubE.nil | refine SubE.cons rfl ?_ ?_ | exact VEq.refl _ | refine VEq.int (by omega) | refine VEq.sl rfl (by first | rfl | omega | (rw [List.length_append]; rfl) | (simp; omega)) rfl) (Ents.toFact.trans ((Ents.sub ⟨_, List.perm_append_comm⟩).trans (Ents.facts fun _ h => ⟨h.1, trivial⟩)))) (fun x hx => ?_)
  obtain ⟨i, o, a, c⟩ := x
  obtain ⟨hi, ho⟩ := hx
  dsimp only at hi ho ⊢
  by_cases hlt : i < s.length
  · have hst : wikiS ++ pathS (s.take (i + 1)) = o ++ pathB s[i] := by rw [pathS_take_succ hlt, ho, List.append_assoc]
    have hol : o.length ≤ 6 + 3 * 109 := by
      have := pathS_le (s.take i)
      rw [ho, List.length_append]
      simp only [List.length_take] at this
      have : wikiS.length = 6 := rfl
      omega
    have hrd : ∀ L, Reads L [slFact 5 1 (some ⟨ad2, 0, none⟩) s.length (s.map byteC)] 5 1 (some ⟨ad2, 0, none⟩) s.length (s.map byteC) := fun _ => .inr fun _ h => h.1
    have hld : ((s.map byteC).drop (Int.toNat (i : Int) * 1 + 0)).take 1 = [byteC s[i]] := by
      simp only [Int.toNat_natCast, Nat.mul_one, Nat.add_zero]
      rw [List.drop_eq_getElem_cons (by simpa using hlt)]
      simp
    generalize s[i] = y at *
    have hy := y.toNat_lt
    repeat' first
      | refine J_seq ?_ | refine J_region Tryz.tyOK ?_ | refine J_block ?_ | refine J_cond ?_ | refine J_ret ?_ | refine J_skip ?_ | refine J_exit ?_ | refine J_scope ?_
      | refine CondP.yes (by omega) ?_ | refine CondP.no (by omega) ?_ | refine CondP.mk (fun h => ?_) (fun h => ?_) | refine EqP.mk rfl ?_ | refine NewP.mk (fun ad => ?_) | refine ArP.exact (by simp only [inR]; omega) ?_ | refine SideP.mk (by first | omega | (dsimp only; omega) | (simp; omega)) ?_
      | refine IdxE.mk 5 1 _ (hrd _) (by omega) (by omega) ?_ | refine LoadE.mk 5 s.length _ [byteC y] (hrd _) (by omega) (by omega) (by decide) (by exact hld) ?_ | refine CallP.is (indexByte_ok punctS y) ?_ | refine J_drawU (id := 6) Tryz.tyOK (by kernel_rfl) [0, 1, 3, 0, 8, 24, 63, 127] (.fork [0, 1, 2, 3, 4, 5] (.alt 6 (.leaf [7]) (.stop))) [6, 7] [] 7 false (by kernel_rfl) ?_ | refine TwoP.mk ?_ ?_ | refine GoP.mk (by repeat (first | exact keepC_sub _ _ _ | exact List.Sublist.slnil | refine List.Sublist.cons_cons _ ?_ | refine List.Sublist.cons _ ?_)) (by first | exact fun _ h => h | exact fun _ h => h.2 | exact fun _ h => ((allD_append _ _).1 h).2) ?_ | exact trivial | refine EntP.mk (Ents.ofSub (by repeat (first | exact keepC_sub _ _ _ | exact List.Sublist.slnil | refine List.Sublist.cons_cons _ ?_ | refine List.Sublist.cons _ ?_)) (by first | exact fun _ h => h | exact fun _ _ => trivial | exact fun _ h => h.2 | exact fun _ h => h.2.2.2.2 | exact fun _ h => h.2.2 | exact fun _ h => h.2.2.2 | exact fun _ h => h.2.2.2.2.2 | exact fun _ h => h.2.2.2.2.2.2 | exact fun _ h => h.2.2.2.2.2.2.2 | exact fun _ h => h.2.2.2.2.2.2.2.2 | exact fun _ h => h.2.2.2.2.2.2.2.2.2 | exact fun _ h => h.2.2.2.2.2.2.2.2.2.2 | exact fun _ h => ((allD_append _ _).1 h).2)) ?_ | (refine CallP.mk _ [] [] _ (bwByte_ok 1 _ _ a c o 95 [] bty0 (by omega)) (by simp) (fun _ _ => trivial) (fun v L' D' hp => ?_); obtain ⟨a', c', rfl, rfl, rfl⟩ := hp) | (refine CallP.mk _ [] [] _ (bwByte_ok 1 _ _ a c o y [] bty0 (by omega)) (by simp) (fun _ _ => trivial) (fun v L' D' hp => ?_); obtain ⟨a', c', rfl, rfl, rfl⟩ := hp) | rw [shr4] | rw [and15] | refine SideP.mk (by show _ ∧ _ < (16 : Int); omega) ?_ | refine SideP.mk (by rw [and15]; show _ ∧ _ < (16 : Int); omega) ?_ | (refine CallP.mkE _ [] [_] _ _ (bwWrite_ok 1 _ _ a c o (37 :: hexB y) _ _ [] bty0 (by simp) (by show _ + 3 ≤ _; omega)) (Ents.toFact.trans (Ents.of (List.append_nil _).symm)) (fun _ h => ⟨h.1, trivial⟩) (fun v L' D' hp => ?_); obtain ⟨a', c', rfl, rfl, rfl⟩ := hp) | refine Round.mk (i + 1, o ++ [95], a', c') (by dsimp only; omega) ⟨by dsimp only; omega, pathStep32 hst (by omega)⟩ (by repeat' first | exact SubE.nil | refine SubE.cons rfl ?_ ?_ | exact VEq.refl _ | refine VEq.int (by omega) | refine VEq.sl rfl (by first | rfl | omega | (rw [List.length_append]; rfl) | (simp; omega)) rfl) (Ents.of (List.append_nil _)) | refine Round.mk (i + 1, o ++ [y], a', c') (by dsimp only; omega) ⟨by dsimp only; omega, pathStepK hst (by omega) (by unfold keepP; omega)⟩ (by repeat' first | exact SubE.nil | refine SubE.cons rfl ?_ ?_ | exact VEq.refl _ | refine VEq.int (by omega) | refine VEq.sl rfl (by first | rfl | omega | (rw [List.length_append]; rfl) | (simp; omega)) rfl) (Ents.of (List.append_nil _)) | refine Round.mk (i + 1, o ++ 37 :: hexB y, a', c') (by dsimp only; omega) ⟨by dsimp only; omega, pathStepH hst (by omega) (by unfold keepP; omega)⟩ (by repeat' first | exact SubE.nil | refine SubE.cons rfl ?_ ?_ | exact VEq.refl _ | refine VEq.int (by omega) | refine VEq.sl rfl (by first | rfl | omega | (rw [List.length_append]; rfl) | (simp; omega)) rfl) ((Ents.of (List.append_nil _)).trans (Ents.facts fun _ h => ⟨h.2.1, trivial⟩))
      | fail
  · have hil : i = s.length := by omega
    subst hil
    rw [List.take_length] at ho
    subst ho
    repeat' first
      | refine J_seq ?_ | refine J_region Tryz.tyOK ?_ | refine J_block ?_ | refine J_cond ?_ | refine J_ret ?_ | refine J_skip ?_ | refine J_exit ?_ | refine J_scope ?_
      | refine CondP.yes (by omega) ?_ | refine CondP.no (by omega) ?_ | refine CondP.mk (fun h => ?_) (fun h => ?_) | refine EqP.mk rfl ?_ | refine NewP.mk (fun ad => ?_) | refine ArP.exact (by simp only [inR]; omega) ?_ | refine SideP.mk (by first | omega | (dsimp only; omega) | (simp; omega)) ?_
      | refine CallP.mk _ [] [] _ (bwText_ok 1 _ 66 a c (wikiS ++ pathS s) []) (by simp) (fun _ _ => trivial) (fun v L' D' hp => ?_); obtain ⟨rfl, rfl, rfl⟩ := hp | refine FinE.str rfl
      | fail

end Go.Proofs
