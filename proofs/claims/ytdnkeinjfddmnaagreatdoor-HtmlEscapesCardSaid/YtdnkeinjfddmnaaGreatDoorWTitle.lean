/- This text walks through the functions of the package title, and shows what each computes. -/
import Derived.Test.YtdnkeinjfddmnaaGreatDoorLibc
import Derived.Test.YtdnkeinjfddmnaaGreatDoorTitle
set_option linter.all false

namespace Go.Proofs
open Go Go.X
set_option maxRecDepth 100000

theorem drop_take1 {α : Type} {l : List α} {i : Nat} (h : i < l.length) : (l.drop i).take 1 = [l[i]] := by
  rw [List.drop_eq_getElem_cons h]; rfl
theorem setC_one {l : List C} {i : Nat} {x : C} (h : i < l.length) : setC i [x] l = l.set i x := by
  rw [List.set_eq_take_append_cons_drop, if_pos h]; simp [setC]

def mixed (l : List UInt8) (i : Nat) : List UInt8 := (l.take i).map lowB ++ l.drop i
theorem mixed_get {l : List UInt8} {i : Nat} (h : i < l.length) : ((mixed l i).map byteC).drop i = byteC l[i] :: (l.drop (i + 1)).map byteC := by
  rw [← List.map_drop, mixed, List.drop_left' (by simp; omega), List.drop_eq_getElem_cons h, List.map_cons]
theorem mixed_len {l : List UInt8} {i : Nat} (h : i ≤ l.length) : (mixed l i).length = l.length := by simp [mixed]; omega
theorem mixed_succ {l : List UInt8} {i : Nat} (h : i < l.length) : (mixed l i).set i (lowB l[i]) = mixed l (i + 1) := by
  unfold mixed
  have hlen : ((l.take i).map lowB).length = i := by simp; omega
  rw [List.set_append_right _ _ (by omega), List.take_succ_eq_append_getElem h, hlen, Nat.sub_self, List.drop_eq_getElem_cons h, List.set_cons_zero, List.map_append]
  simp
theorem mixed_same {l : List UInt8} {i : Nat} (h : i < l.length) (h' : lowB l[i] = l[i]) : mixed l i = mixed l (i + 1) := by
  rw [← mixed_succ h, h']
  have := mixed_get h
  have hi : (mixed l i)[i]? = some l[i] := by
    have h2 := congrArg (fun x => x[0]?) this
    simp only [List.getElem?_drop, Nat.add_zero, List.getElem?_cons_zero, List.getElem?_map] at h2
    cases hx : (mixed l i)[i]? with
    | none => rw [hx] at h2; simp at h2
    | some u =>
      rw [hx] at h2
      simp [byteC] at h2
      have : u.toNat = l[i].toNat := by omega
      rw [UInt8.toNat_inj.1 this]
  obtain ⟨hlt, he⟩ := List.getElem?_eq_some_iff.1 hi
  rw [← he, List.set_getElem_self]

theorem fold_ok (l : List UInt8) (hl : l.length ≤ 1000000) : FnS Tryz.prog 159 [.c (.s l)] [] [] (Is (.c (.s (l.map lowB)))) := by
  refine fn_of_J Tryz.tyOK 0 Tryz.func159 (by kernel_rfl) (c := Tryz.f159.body.getD .skip) (by kernel_rfl) Tryz.ntmps159 (rs := Tryz.f159.results.toList) rfl (by simp) (fun G => ?_)
  repeat' first
    | refine J_seq ?_ | refine J_region Tryz.tyOK ?_ | refine J_block ?_ | refine J_cond ?_ | refine J_ret ?_ | refine J_skip ?_ | refine J_exit ?_ | refine J_scope ?_
    | refine CondP.yes (by omega) ?_ | refine CondP.no (by omega) ?_ | refine CondP.mk (fun h => ?_) (fun h => ?_) | refine EqP.mk rfl ?_ | refine NewP.mk (fun ad => ?_) | refine ArP.exact (by simp only [inR]; omega) ?_ | refine SideP.mk (by first | omega | (dsimp only; omega) | (simp; omega)) ?_
    | refine NewB.mk (fun ad c => ?_)
    | fail
  refine J_loop (α := Nat) (fun i => [(10, .c (.i .i64 i)), (9, lenV l.length), (8, .c (.sl (some ⟨ad, 0, none⟩) l.length c)), (3, .c (.sl (some ⟨ad, 0, none⟩) l.length c))])
    (fun i => [.row 5 1 (some ⟨ad, 0, none⟩) l.length c ((mixed l i).map byteC)]) (fun _ => []) 0 (fun i => i ≤ l.length) (fun i => l.length - i) (InFam.mk 0 (by omega) ?_ (Ents.of (by simp [mixed]))) (fun i hi => ?_)
  · repeat' first
      | exact SubE.nil | refine SubE.cons rfl ?_ ?_ | exact VEq.refl _ | refine VEq.int (by omega) | refine VEq.sl rfl (by first | rfl | omega | (rw [List.length_append]; rfl) | (simp; omega)) rfl
      | fail
  have hrd : Reads [.row 5 1 (some ⟨ad, 0, none⟩) l.length c ((mixed l i).map byteC)] [] 5 1 (some ⟨ad, 0, none⟩) l.length ((mixed l i).map byteC) := .inl ⟨c, by simp⟩
  by_cases hlt : i < l.length
  · have hb := (l[i]).toNat_lt
    have hg := mixed_get hlt
    repeat' first
      | refine J_seq ?_ | refine J_region Tryz.tyOK ?_ | refine J_block ?_ | refine J_cond ?_ | refine J_ret ?_ | refine J_skip ?_ | refine J_exit ?_ | refine J_scope ?_
      | refine CondP.yes (by omega) ?_ | refine CondP.no (by omega) ?_ | refine CondP.mk (fun h => ?_) (fun h => ?_) | refine EqP.mk rfl ?_ | refine NewP.mk (fun ad => ?_) | refine ArP.exact (by simp only [inR]; omega) ?_ | refine SideP.mk (by first | omega | (dsimp only; omega) | (simp; omega)) ?_
      | refine IdxE.mk 5 1 _ hrd (by omega) (by omega) ?_ | refine LoadE.mk 5 _ _ [byteC l[i]] hrd (by omega) (by omega) (by omega) (by simp [hg]) ?_ | (exfalso; omega)
      | fail
    · refine StoreE.mk [] [] 5 _ c _ ((mixed l (i + 1)).map byteC) rfl (by omega) (by omega) (by simp) ?_ ?_
      · rw [← mixed_succ hlt, List.map_set, ← setC_one (by simp [mixed_len hi, hlt]), byteC, lowB_yes (by assumption) (by assumption)]
        simp
      · repeat' first
          | refine J_seq ?_ | refine J_region Tryz.tyOK ?_ | refine J_block ?_ | refine J_cond ?_ | refine J_ret ?_ | refine J_skip ?_ | refine J_exit ?_ | refine J_scope ?_
          | refine CondP.yes (by omega) ?_ | refine CondP.no (by omega) ?_ | refine CondP.mk (fun h => ?_) (fun h => ?_) | refine EqP.mk rfl ?_ | refine NewP.mk (fun ad => ?_) | refine ArP.exact (by simp only [inR]; omega) ?_ | refine SideP.mk (by first | omega | (dsimp only; omega) | (simp; omega)) ?_
          | fail
        refine Round.mk (i + 1) (by omega) (by omega) ?_ (Ents.refl _ _)
        repeat' first
          | exact SubE.nil | refine SubE.cons rfl ?_ ?_ | exact VEq.refl _ | refine VEq.int (by omega) | refine VEq.sl rfl (by first | rfl | omega | (rw [List.length_append]; rfl) | (simp; omega)) rfl
          | fail
    all_goals
      refine Round.mk (i + 1) (by omega) (by omega) ?_ (Ents.of (by rw [mixed_same hlt (lowB_no (by omega))]))
      repeat' first
        | exact SubE.nil | refine SubE.cons rfl ?_ ?_ | exact VEq.refl _ | refine VEq.int (by omega) | refine VEq.sl rfl (by first | rfl | omega | (rw [List.length_append]; rfl) | (simp; omega)) rfl
        | fail
  · have hil : i = l.length := by omega
    subst hil
    repeat' first
      | refine J_seq ?_ | refine J_region Tryz.tyOK ?_ | refine J_block ?_ | refine J_cond ?_ | refine J_ret ?_ | refine J_skip ?_ | refine J_exit ?_ | refine J_scope ?_
      | refine CondP.yes (by omega) ?_ | refine CondP.no (by omega) ?_ | refine CondP.mk (fun h => ?_) (fun h => ?_) | refine EqP.mk rfl ?_ | refine NewP.mk (fun ad => ?_) | refine ArP.exact (by simp only [inR]; omega) ?_ | refine SideP.mk (by first | omega | (dsimp only; omega) | (simp; omega)) ?_
      | (exfalso; omega)
      | fail
    refine BytesE.mk 5 (l.map lowB) ?_ ?_
    · have : mixed l l.length = l.map lowB := by simp [mixed]
      rw [← this]; exact hrd
    · repeat' first
        | refine J_seq ?_ | refine J_region Tryz.tyOK ?_ | refine J_block ?_ | refine J_cond ?_ | refine J_ret ?_ | refine J_skip ?_ | refine J_exit ?_ | refine J_scope ?_
        | refine CondP.yes (by omega) ?_ | refine CondP.no (by omega) ?_ | refine CondP.mk (fun h => ?_) (fun h => ?_) | refine EqP.mk rfl ?_ | refine NewP.mk (fun ad => ?_) | refine ArP.exact (by simp only [inR]; omega) ?_ | refine SideP.mk (by first | omega | (dsimp only; omega) | (simp; omega)) ?_
        | exact FinE.is rfl
        | fail

theorem spaces_ok : FnS Tryz.prog 81 [] [] [] (Is (.agg [.s [], .s (spName 1), .s (spName 2), .s (spName 3), .s (spName 4), .s (spName 5)])) := by
  refine fn_of_J Tryz.tyOK 0 Tryz.func81 (by kernel_rfl) (c := Tryz.f81.body.getD .skip) (by kernel_rfl) Tryz.ntmps81 (rs := Tryz.f81.results.toList) rfl (by simp) (fun G => ?_)
  repeat' first
    | refine J_seq ?_ | refine J_region Tryz.tyOK ?_ | refine J_block ?_ | refine J_cond ?_ | refine J_ret ?_ | refine J_skip ?_ | refine J_exit ?_ | refine J_scope ?_
    | refine CondP.yes (by omega) ?_ | refine CondP.no (by omega) ?_ | refine CondP.mk (fun h => ?_) (fun h => ?_) | refine EqP.mk rfl ?_ | refine NewP.mk (fun ad => ?_) | refine ArP.exact (by simp only [inR]; omega) ?_ | refine SideP.mk (by first | omega | (dsimp only; omega) | (simp; omega)) ?_
    | exact FinE.is rfl
    | fail

theorem prefix_ok (s : List UInt8) (hs : s.length ≤ 1000000) : FnS Tryz.prog 119 [.c (.s s)] [] [gInt 0]
    (Is (.t3 (.c (.i .i64 (colonNo s))) (.c (.s (if colonNo s = 0 then [] else behind s))) (.c (.b (decide (colonNo s ≠ 0)))))) := by
  have h1 := cutAt_len1 58 s
  have h2 := trimSuffix_le (cutAt 58 s).1 [32]
  cases hc : (cutAt 58 s).2.2 with
  | false =>
    have e : colonNo s = 0 := by simp [colonNo, hc]
    refine fn_of_J Tryz.tyOK 0 Tryz.func119 (by kernel_rfl) (c := Tryz.f119.body.getD .skip) (by kernel_rfl) Tryz.ntmps119 (rs := Tryz.f119.results.toList) rfl (by simp) (fun G => ?_)
    repeat' first
      | refine J_seq ?_ | refine J_region Tryz.tyOK ?_ | refine J_block ?_ | refine J_cond ?_ | refine J_ret ?_ | refine J_skip ?_ | refine J_exit ?_ | refine J_scope ?_
      | refine CondP.yes (by omega) ?_ | refine CondP.no (by omega) ?_ | refine CondP.mk (fun h => ?_) (fun h => ?_) | refine EqP.mk rfl ?_ | refine NewP.mk (fun ad => ?_) | refine ArP.exact (by simp only [inR]; omega) ?_ | refine SideP.mk (by first | omega | (dsimp only; omega) | (simp; omega)) ?_
      | refine CallP.is (cutOne_ok s 58 (by omega)) ?_ | rw [hc]
      | fail
    refine FinE.is ?_
    simp only [e]; rfl
  | true =>
    have e : colonNo s = spaceNo (Lib.trimSuffix (cutAt 58 s).1 [32]) := by simp [colonNo, hc]
    refine fn_of_J Tryz.tyOK 0 Tryz.func119 (by kernel_rfl) (c := Tryz.f119.body.getD .skip) (by kernel_rfl) Tryz.ntmps119 (rs := Tryz.f119.results.toList) rfl (by simp) (fun G => ?_)
    repeat' first
      | refine J_seq ?_ | refine J_region Tryz.tyOK ?_ | refine J_block ?_ | refine J_cond ?_ | refine J_ret ?_ | refine J_skip ?_ | refine J_exit ?_ | refine J_scope ?_
      | refine CondP.yes (by omega) ?_ | refine CondP.no (by omega) ?_ | refine CondP.mk (fun h => ?_) (fun h => ?_) | refine EqP.mk rfl ?_ | refine NewP.mk (fun ad => ?_) | refine ArP.exact (by simp only [inR]; omega) ?_ | refine SideP.mk (by first | omega | (dsimp only; omega) | (simp; omega)) ?_
      | refine CallP.is (cutOne_ok s 58 (by omega)) ?_ | rw [hc] | refine CallP.is (trimSuffix_ok _ [32] (by omega)) ?_ | refine CallP.is (fold_ok _ (Nat.le_trans h2 (Nat.le_trans h1 hs))) ?_ | refine CallP.is (fold_ok _ (by decide)) ?_ | refine CallP.is spaces_ok ?_ | refine J_rounds 7 ?_ | refine JR_succ ?_ | refine IdxA.mk _ (by omega) (by omega) rfl rfl ?_ | refine FinE.is ?_
      | fail
    all_goals
      have hk := e
      unfold spaceNo at hk
      repeat (first | rw [if_pos (by assumption)] at hk | rw [if_neg (by assumption)] at hk)
      simp only [hk]
      rfl

def pv (s : List UInt8) (i : Nat) : Bool := decide (0 < (i : Int)) && decide (((s.getD ((i : Int) - 1).toNat 0).toNat : Int) = 32)
theorem drop_getD {s : List UInt8} {i : Nat} (h : i < s.length) : s.drop i = s.getD i 0 :: s.drop (i + 1) := by
  rw [List.drop_eq_getElem_cons h]; simp [h]
theorem clean_step {s : List UInt8} {i : Nat} (h : i < s.length) :
    cleanB (pv s i) (s.drop i) = (!badB (s.getD i 0) && !(pv s i && decide (((s.getD i 0).toNat : Int) = 32)) && cleanB (pv s (i + 1)) (s.drop (i + 1))) := by
  have e : pv s (i + 1) = ((s.getD i 0).toNat == 32) := by
    have h1 : (((i + 1 : Nat) : Int) - 1).toNat = i := by omega
    have h2 : (0 : Int) < ((i + 1 : Nat) : Int) := by omega
    unfold pv
    rw [h1, decide_eq_true h2, Bool.true_and]
    rw [Bool.eq_iff_iff]; simp; omega
  have e2 : decide (((s.getD i 0).toNat : Int) = 32) = ((s.getD i 0).toNat == 32) := by rw [Bool.eq_iff_iff]; simp; omega
  rw [drop_getD h, cleanB, e, e2]

theorem clean_ok (s : List UInt8) (hs : s.length ≤ 1000000) : FnS Tryz.prog 117 [.c (.s s)] [] [] (Is (.c (.b (cleanB false s)))) := by
  refine fn_of_J Tryz.tyOK 0 Tryz.func117 (by kernel_rfl) (c := Tryz.f117.body.getD .skip) (by kernel_rfl) Tryz.ntmps117 (rs := Tryz.f117.results.toList) rfl (by simp) (fun G => ?_)
  repeat' first
    | refine J_seq ?_ | refine J_region Tryz.tyOK ?_ | refine J_block ?_ | refine J_cond ?_ | refine J_ret ?_ | refine J_skip ?_ | refine J_exit ?_ | refine J_scope ?_
    | refine CondP.yes (by omega) ?_ | refine CondP.no (by omega) ?_ | refine CondP.mk (fun h => ?_) (fun h => ?_) | refine EqP.mk rfl ?_ | refine NewP.mk (fun ad => ?_) | refine ArP.exact (by simp only [inR]; omega) ?_ | refine SideP.mk (by first | omega | (dsimp only; omega) | (simp; omega)) ?_
    | fail
  refine J_loop (α := Nat) (fun i => [(0, .c (.s s)), (3, .c (.i .i64 i))]) (fun _ => []) (fun _ => []) 0 (fun i => i ≤ s.length ∧ cleanB false s = cleanB (pv s i) (s.drop i)) (fun i => s.length - i)
    (InFam.mk 0 ⟨by omega, by simp [pv]⟩ ?_ (Ents.refl _ _)) (fun i hi => ?_)
  · repeat' first
      | exact SubE.nil | refine SubE.cons rfl ?_ ?_ | exact VEq.refl _ | refine VEq.int (by omega) | refine VEq.sl rfl (by first | rfl | omega | (rw [List.length_append]; rfl) | (simp; omega)) rfl
      | fail
  obtain ⟨hi, hcl⟩ := hi
  by_cases hlt : i < s.length
  · have hst := clean_step hlt
    have hb := (s.getD i 0).toNat_lt
    repeat' first
      | refine J_seq ?_ | refine J_region Tryz.tyOK ?_ | refine J_block ?_ | refine J_cond ?_ | refine J_ret ?_ | refine J_skip ?_ | refine J_exit ?_ | refine J_scope ?_
      | refine CondP.yes (by omega) ?_ | refine CondP.no (by omega) ?_ | refine CondP.mk (fun h => ?_) (fun h => ?_) | refine EqP.mk rfl ?_ | refine NewP.mk (fun ad => ?_) | refine ArP.exact (by simp only [inR]; omega) ?_ | refine SideP.mk (by first | omega | (dsimp only; omega) | (simp; omega)) ?_
      | refine CallP.is (indexByte_ok [60, 62, 91, 93, 123, 125, 124, 35, 95] (s.getD i 0)) ?_ | refine FinE.bool ?_ | refine Round.mk (i + 1) (by omega) ⟨by omega, ?_⟩ (by repeat' first | exact SubE.nil | refine SubE.cons rfl ?_ ?_ | exact VEq.refl _ | refine VEq.int (by omega) | refine VEq.sl rfl (by first | rfl | omega | (rw [List.length_append]; rfl) | (simp; omega)) rfl) (Ents.refl _ _)
      | fail
    all_goals simp only [Int.toNat_natCast] at *
    all_goals rw [hcl, hst]
    all_goals (clear hcl hst; (try simp only [Int.toNat_natCast, Int.toNat_zero] at *); simp only [badB, pv, *, decide_true, decide_false, Bool.true_and, Bool.false_and, Bool.and_true, Bool.and_false, Bool.not_true, Bool.not_false, Bool.true_or, Bool.false_or, Bool.or_true, Bool.or_false, not_true, not_false_eq_true, ne_eq, if_true, if_false, Bool.false_eq_true]; try rfl)
  · have hil : i = s.length := by omega
    subst hil
    repeat' first
      | refine J_seq ?_ | refine J_region Tryz.tyOK ?_ | refine J_block ?_ | refine J_cond ?_ | refine J_ret ?_ | refine J_skip ?_ | refine J_exit ?_ | refine J_scope ?_
      | refine CondP.yes (by omega) ?_ | refine CondP.no (by omega) ?_ | refine CondP.mk (fun h => ?_) (fun h => ?_) | refine EqP.mk rfl ?_ | refine NewP.mk (fun ad => ?_) | refine ArP.exact (by simp only [inR]; omega) ?_ | refine SideP.mk (by first | omega | (dsimp only; omega) | (simp; omega)) ?_
      | refine FinE.bool ?_
      | fail
    rw [hcl]; simp [cleanB]

end Go.Proofs
