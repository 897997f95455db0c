/- This text walks through the function Parse of the package title, and what it calls. -/
import Derived.Test.YtabmiagnfihleaaGreatDoorWValid
set_option linter.all false

namespace Go.Proofs
open Go Go.X
set_option maxRecDepth 100000

theorem single_ok (s : List UInt8) (hs : s.length ≤ 1000000) : FnS Tryz.prog 85 [.c (.s s)] [] [] (Is (.c (.s (singleB s)))) := by
  refine fn_of_J Tryz.tyOK 0 Tryz.func85 (by kernel_rfl) (c := Tryz.f85.body.getD .skip) (by kernel_rfl) Tryz.ntmps85 (rs := Tryz.f85.results.toList) rfl (by simp) (fun G => ?_)
  repeat' first
    | refine J_seq ?_ | refine J_region Tryz.tyOK ?_ | refine J_block ?_ | refine J_cond ?_ | refine J_ret ?_ | refine J_skip ?_ | refine J_exit ?_ | refine J_scope ?_
    | refine CondP.yes (by omega) ?_ | refine CondP.no (by omega) ?_ | refine CondP.mk (fun h => ?_) (fun h => ?_) | refine EqP.mk rfl ?_ | refine NewP.mk (fun ad => ?_) | refine ArP.exact (by simp only [inR]; omega) ?_ | refine SideP.mk (by first | omega | (dsimp only; omega) | (simp; omega)) ?_
    | refine NewP.mk (fun ad => ?_)
    | fail
  refine J_loop (α := Nat × Option Addr × Nat) (fun x => [(0, .c (.s s)), (3, .c (.sl x.2.1 (outB s x.1).length x.2.2)), (4, .c (.i .i64 x.1))])
    (fun x => [.row 5 1 x.2.1 (outB s x.1).length x.2.2 ((outB s x.1).map byteC)]) (fun _ => []) 0 (fun x => x.1 ≤ s.length) (fun x => s.length - x.1)
    (InFam.mk (0, some ⟨ad, 0, none⟩, s.length) (by simp) (by repeat' first | exact SubE.nil | refine SubE.cons rfl ?_ ?_ | exact VEq.refl _ | refine VEq.int (by omega) | refine VEq.sl rfl (by first | rfl | omega | (rw [List.length_append]; rfl) | (simp; omega)) rfl) (Ents.refl _ _)) (fun x hi => ?_)
  obtain ⟨i, a, c⟩ := x
  dsimp only at hi ⊢
  have hol := outB_le hi
  have hrd : Reads [.row 5 1 a (outB s i).length c ((outB s i).map byteC)] [] 5 1 a (outB s i).length ((outB s i).map byteC) := .inl ⟨c, by simp⟩
  by_cases hlt : i < s.length
  · have hst := outB_succ hlt
    have hb := (s.getD i 0).toNat_lt
    have hstep := stepB_le (outB s i) (s.getD i 0)
    repeat' first
      | refine J_seq ?_ | refine J_region Tryz.tyOK ?_ | refine J_block ?_ | refine J_cond ?_ | refine J_ret ?_ | refine J_skip ?_ | refine J_exit ?_ | refine J_scope ?_
      | refine CondP.yes (by omega) ?_ | refine CondP.no (by omega) ?_ | refine CondP.mk (fun h => ?_) (fun h => ?_) | refine EqP.mk rfl ?_ | refine NewP.mk (fun ad => ?_) | refine ArP.exact (by simp only [inR]; omega) ?_ | refine SideP.mk (by first | omega | (dsimp only; omega) | (simp; omega)) ?_
      | refine IdxE.mk 5 1 _ hrd (by omega) (by omega) ?_ | refine LoadE.mk 5 _ _ _ hrd (by omega) (by omega) (by omega) (byte_take1 (by omega)) ?_ | refine AppE.row [_] [] ((outB s i).map byteC) [byteC (s.getD i 0)] 1 rfl (SrcE.sl 5 5 _ _ 1 1 _ rfl rfl (.inl ⟨1, List.Mem.head _⟩) rfl) (by simp; omega) (fun a' c' => ?_) | refine Round.mk (i + 1, a', c') (by simp; omega) (by simp; omega) ?_ ?_ | refine Round.mk (i + 1, a, c) (by simp; omega) (by simp; omega) ?_ ?_
      | fail
    all_goals
      first
        | (have e : outB s (i + 1) = outB s i := by rw [hst]; clear hst; (try simp only [Int.toNat_natCast, Int.toNat_zero] at *); simp only [stepB, *, decide_true, decide_false, Bool.true_and, Bool.false_and, Bool.and_true, Bool.and_false, Bool.not_true, Bool.not_false, Bool.true_or, Bool.false_or, Bool.or_true, Bool.or_false, not_true, not_false_eq_true, ne_eq, if_true, if_false, Bool.false_eq_true]; try rfl
           dsimp only; rw [e])
        | (have e : outB s (i + 1) = outB s i ++ [s.getD i 0] := by rw [hst]; clear hst; (try simp only [Int.toNat_natCast, Int.toNat_zero] at *); simp only [stepB, *, decide_true, decide_false, Bool.true_and, Bool.false_and, Bool.and_true, Bool.and_false, Bool.not_true, Bool.not_false, Bool.true_or, Bool.false_or, Bool.or_true, Bool.or_false, not_true, not_false_eq_true, ne_eq, if_true, if_false, Bool.false_eq_true]; try rfl
           dsimp only; rw [e])
      first
        | exact Ents.refl _ _
        | refine Ents.drop.trans (Ents.of (by rw [List.map_append, List.length_append]; rfl))
        | skip
      repeat' first
        | exact SubE.nil | refine SubE.cons rfl ?_ ?_ | exact VEq.refl _ | refine VEq.int (by omega) | refine VEq.sl rfl (by first | rfl | omega | (rw [List.length_append]; rfl) | (simp; omega)) rfl
        | fail
  · have hil : i = s.length := by omega
    subst hil
    repeat' first
      | refine J_seq ?_ | refine J_region Tryz.tyOK ?_ | refine J_block ?_ | refine J_cond ?_ | refine J_ret ?_ | refine J_skip ?_ | refine J_exit ?_ | refine J_scope ?_
      | refine CondP.yes (by omega) ?_ | refine CondP.no (by omega) ?_ | refine CondP.mk (fun h => ?_) (fun h => ?_) | refine EqP.mk rfl ?_ | refine NewP.mk (fun ad => ?_) | refine ArP.exact (by simp only [inR]; omega) ?_ | refine SideP.mk (by first | omega | (dsimp only; omega) | (simp; omega)) ?_
      | refine BytesE.mk 5 (outB s s.length) hrd ?_ | refine CallP.is (trimSuffix_ok (outB s s.length) [32] (by omega)) ?_ | refine FinE.str ?_
      | fail
    all_goals rw [outB_all, singleB]

theorem slashes_ok (s : List UInt8) (hs : s.length ≤ 1000000) : FnS Tryz.prog 89 [.c (.s s)] [] [gInt 0] (Is (.c (.s (slashesB s)))) := by
  have hsl := splitOn_length_le 47 s
  have hA : (slashPieces s).length = (splitOn 47 s).length := slashPieces_len s
  have hmem := slashPieces_mem s
  have hle := slashesB_le s
  refine fn_of_J Tryz.tyOK 0 Tryz.func89 (by kernel_rfl) (c := Tryz.f89.body.getD .skip) (by kernel_rfl) Tryz.ntmps89 (rs := Tryz.f89.results.toList) rfl (by simp) (fun G => ?_)
  repeat' first
    | refine J_seq ?_ | refine J_region Tryz.tyOK ?_ | refine J_block ?_ | refine J_cond ?_ | refine J_ret ?_ | refine J_skip ?_ | refine J_exit ?_ | refine J_scope ?_
    | refine CondP.yes (by omega) ?_ | refine CondP.no (by omega) ?_ | refine CondP.mk (fun h => ?_) (fun h => ?_) | refine EqP.mk rfl ?_ | refine NewP.mk (fun ad => ?_) | refine ArP.exact (by simp only [inR]; omega) ?_ | refine SideP.mk (by first | omega | (dsimp only; omega) | (simp; omega)) ?_
    | refine CallP.mk [] _ _ _ (splitOne_ok s 47 (by omega)) (List.Perm.refl _) (fun _ h => h) (fun v L' D' hp => ?_); obtain ⟨g, rfl, rfl, rfl⟩ := hp
    | fail
  refine J_loop (α := Nat) (fun i => [(9, .c (.i .i64 i)), (8, lenV (splitOn 47 s).length), (3, .c (.sl (some ⟨g, 0, none⟩) (splitOn 47 s).length (splitOn 47 s).length))])
    (fun i => [.row 9 1 (some ⟨g, 0, none⟩) (splitOn 47 s).length (splitOn 47 s).length (((slashPieces s).take i ++ (splitOn 47 s).drop i).map C.s)]) (fun _ => [gInt 0]) 0
    (fun i => i ≤ (splitOn 47 s).length) (fun i => (splitOn 47 s).length - i) (InFam.mk 0 (by omega) (by repeat' first | exact SubE.nil | refine SubE.cons rfl ?_ ?_ | exact VEq.refl _ | refine VEq.int (by omega) | refine VEq.sl rfl (by first | rfl | omega | (rw [List.length_append]; rfl) | (simp; omega)) rfl) (Ents.refl _ _)) (fun i hi => ?_)
  by_cases hlt : i < (splitOn 47 s).length
  · have hmx := mix_len (i := i) hA
    have hget := mix_get hA hlt
    have hset := mix_set hA (i := i) (by omega)
    have hpl := mem_splitOn_le 47 s _ (List.getElem_mem hlt)
    rw [slashPieces_get s (by omega) hlt] at hset
    generalize hB : (slashPieces s).take i ++ (splitOn 47 s).drop i = B at *
    have hrd1 : Reads [.row 9 1 (some ⟨g, 0, none⟩) (splitOn 47 s).length (splitOn 47 s).length (B.map C.s)] [gInt 0] 9 1 (some ⟨g, 0, none⟩) (splitOn 47 s).length (B.map C.s) := .inl ⟨_, List.Mem.head _⟩
    have hrd2 : ∀ x, Reads [.row 9 1 (some ⟨g, 0, none⟩) (splitOn 47 s).length (splitOn 47 s).length ((B.set i x).map C.s)] [gInt 0] 9 1 (some ⟨g, 0, none⟩) (splitOn 47 s).length ((B.set i x).map C.s) := fun x => .inl ⟨_, List.Mem.head _⟩
    have hl1 : ((B.map C.s).drop (i * 1 + 0)).take 1 = [C.s (splitOn 47 s)[i]] := by rw [map_take1 (by omega), hget]
    have hl2 : ∀ x, (((B.set i x).map C.s).drop (i * 1 + 0)).take 1 = [C.s x] := fun x => by rw [map_take1 (by simp; omega), List.getElem_set_self]
    have hself : B.set i (splitOn 47 s)[i] = B := by rw [← hget (by omega)]; exact List.set_getElem_self _
    repeat' first
      | refine J_seq ?_ | refine J_region Tryz.tyOK ?_ | refine J_block ?_ | refine J_cond ?_ | refine J_ret ?_ | refine J_skip ?_ | refine J_exit ?_ | refine J_scope ?_
      | refine CondP.yes (by omega) ?_ | refine CondP.no (by omega) ?_ | refine CondP.mk (fun h => ?_) (fun h => ?_) | refine EqP.mk rfl ?_ | refine NewP.mk (fun ad => ?_) | refine ArP.exact (by simp only [inR]; omega) ?_ | refine SideP.mk (by first | omega | (dsimp only; omega) | (simp; omega)) ?_
      | refine IdxE.mk 9 1 _ hrd1 (by omega) (by omega) ?_ | refine IdxE.mk 9 1 _ (hrd2 _) (by omega) (by omega) ?_ | refine LoadE.mk 9 _ _ [C.s (splitOn 47 s)[i]] hrd1 (by omega) (by omega) (by omega) hl1 ?_ | refine LoadE.mk 9 _ _ [C.s _] (hrd2 _) (by omega) (by omega) (by omega) (hl2 _) ?_ | refine CallP.is (trimLeft_ok _ 32 (by decide)) ?_ | refine CallP.is (trimRight_ok _ 32 (by decide) (by have := trimLeftB_le (splitOn 47 s)[i] 32; omega)) ?_ | refine StoreE.mk [] [] 9 _ _ (B.map C.s) _ rfl (by omega) (by omega) (by simp) (setC_map (f := C.s) (by omega)) ?_ | refine StoreE.mk [] [] 9 _ _ ((B.set i _).map C.s) _ rfl (by omega) (by omega) (by simp) (setC_map (f := C.s) (by simp; omega)) ?_ | refine Round.mk (i + 1) (by omega) (by omega) (by repeat' first | exact SubE.nil | refine SubE.cons rfl ?_ ?_ | exact VEq.refl _ | refine VEq.int (by omega) | refine VEq.sl rfl (by first | rfl | omega | (rw [List.length_append]; rfl) | (simp; omega)) rfl) (Ents.of ?_)
      | fail
    all_goals
      rw [← hset]
      clear hset hl1 hl2 hrd1 hrd2 hget hB
      simp only [slP, *, if_true, if_false, List.set_set, List.nil_append, Int.toNat_natCast]
  · have hil : i = (splitOn 47 s).length := by omega
    have hall := mix_all hil hA
    rw [hall]
    have hjl : (joinOn 47 (slashPieces s)).length ≤ 140737488355328 := by
      have h3 : (s.length + 1) * (s.length + 1) ≤ 1000001 * 1000001 := Nat.mul_le_mul (by omega) (by omega)
      unfold slashesB at hle
      omega
    refine J_mem (n' := 0) Ents.toFact ?_
    repeat' first
      | refine J_seq ?_ | refine J_region Tryz.tyOK ?_ | refine J_block ?_ | refine J_cond ?_ | refine J_ret ?_ | refine J_skip ?_ | refine J_exit ?_ | refine J_scope ?_
      | refine CondP.yes (by omega) ?_ | refine CondP.no (by omega) ?_ | refine CondP.mk (fun h => ?_) (fun h => ?_) | refine EqP.mk rfl ?_ | refine NewP.mk (fun ad => ?_) | refine ArP.exact (by simp only [inR]; omega) ?_ | refine SideP.mk (by first | omega | (dsimp only; omega) | (simp; omega)) ?_
      | refine CallP.is (joinOne_ok (some ⟨g, 0, none⟩) _ _ (slashPieces s) 47 (by omega) (by omega) (by omega) hjl) ?_ | refine FinE.str ?_
      | fail
    all_goals rfl

end Go.Proofs
