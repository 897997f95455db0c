/- This text walks through the function Parse of the reference of chapter 1. -/
import Derived.Test.YtcgagjbkfgaacaaGreatDoorRef1d
import Derived.Test.YtcgagjbkfgaacaaGreatDoorSlash
import Derived.Test.YtcgagjbkfgaacaaGreatDoorWParse2
set_option linter.all false

namespace Go.Proofs
open Go Go.X
set_option maxRecDepth 100000

theorem nd_colon {t : List UInt8} (h : ND t) : ND (noColon t) := by
  unfold noColon; split
  · exact (h.drop 1).trimPrefix _
  · exact h
theorem nd_behind {t : List UInt8} (h : ND t) : ND (behind t) := by
  unfold behind
  by_cases hc : (cutAt 58 t).2.2 = true
  · rw [← (cutAt_drop 58 t hc).1]; exact h.drop _
  · have : ∀ s : List UInt8, ¬ (cutAt 58 s).2.2 = true → (cutAt 58 s).2.1 = [] := by
      intro s
      induction s with
      | nil => intro _; rfl
      | cons x r ih =>
        intro hn
        simp only [cutAt] at hn ⊢
        split
        · rename_i hx; rw [if_pos hx] at hn; simp at hn
        · rename_i hx; rw [if_neg hx] at hn; exact ih hn
    rw [this t hc]; exact ND.nil
theorem nd_space {t : List UInt8} (h : ND t) : ND (noSpace t) := by
  unfold noSpace; split
  · exact (nd_behind h).trimPrefix _
  · exact h

theorem upB_eq (t : List UInt8) : upB t = if (decide (0 < (t.length : Int)) && decide (97 ≤ ((t.getD 0 0).toNat : Int)) && decide (((t.getD 0 0).toNat : Int) ≤ 122)) = true then [t.getD 0 0 - 32] ++ t.drop 1 else t := by
  have : (!decide (t = [])) = decide (0 < (t.length : Int)) := by
    cases t with
    | nil => rfl
    | cons x r => simp
  unfold upB
  rw [this]

def prefV (n k : Nat) : Bool → V
  | true => .t2 (.c (.i .i64 n)) (.c (.i .i64 k))
  | false => .t2 (.c (.i .i64 0)) (.c (.i .i64 0))

theorem refParse_ok (s : List UInt8) (hs : s.length ≤ 1000000) : FnS Tryz.prog 83 [.c (.s s)] [] [] (Is (parseV (parseT s))) := by
  have hu : (usc s).length = s.length := by simp [usc]
  have c1 := blanks_ok s hs
  have n1 := ND.single (usc s)
  obtain ⟨t1, ht1⟩ : ∃ t, singleB (usc s) = t := ⟨_, rfl⟩
  have h1 : t1.length ≤ s.length := by have := singleB_le (usc s); rw [ht1] at this; omega
  rw [ht1] at c1 n1
  obtain ⟨t2, ht2⟩ : ∃ t, noColon t1 = t := ⟨_, rfl⟩
  have h2 : t2.length ≤ t1.length := by rw [← ht2]; exact noColon_le _
  have n2 : ND t2 := by rw [← ht2]; exact nd_colon n1
  obtain ⟨t3, ht3⟩ : ∃ t, noSpace t2 = t := ⟨_, rfl⟩
  have h3 : t3.length ≤ t2.length := by rw [← ht3]; exact noSpace_le _
  have n3 : ND t3 := by rw [← ht3]; exact nd_space n2
  obtain ⟨t4, ht4⟩ : ∃ t, slashesB t3 = t := ⟨_, rfl⟩
  have h4 : t4.length ≤ t3.length := by rw [← ht4]; exact slashesB_short _
  have e4 : dropR false t3 = t4 := by rw [← ht4, slashes_eq t3 n3]
  obtain ⟨t5, ht5⟩ : ∃ t, upB t4 = t := ⟨_, rfl⟩
  have h5 : t5.length = t4.length := by rw [← ht5]; exact upB_len _
  have hn : nameP s = t5 := by unfold nameP; simp only [ht1, ht2, ht3, ht4, ht5]
  have hsp : spaceP s = colonNo t2 := by unfold spaceP; simp only [ht1, ht2]
  have hbe : colonNo t2 ≠ 0 → (t2.drop ((cutAt 58 t2).1.length + 1)) = behind t2 ∧ (cutAt 58 t2).1.length < t2.length := fun h => by
    have hc : (cutAt 58 t2).2.2 = true := by
      cases hx : (cutAt 58 t2).2.2 with
      | true => rfl
      | false => exfalso; apply h; simp [colonNo, hx]
    exact cutAt_drop 58 t2 hc
  have hpos : ([58] : List UInt8).isPrefixOf t1 = (decide (0 < (t1.length : Int)) && decide (((t1.getD 0 0).toNat : Int) = 58)) := by
    cases t1 with
    | nil => rfl
    | cons x r =>
      have h6 : (((x :: r).getD 0 0).toNat : Int) = 58 ↔ x = 58 := by rw [List.getD_cons_zero]; exact byte_iff (n := 58) (by decide)
      have h7 : (0 : Int) < ((x :: r).length : Int) := by simp
      rw [decide_eq_true h7, Bool.true_and, Bool.eq_iff_iff, decide_eq_true_eq, h6]
      simp only [List.isPrefixOf, Bool.and_true, beq_iff_eq]
      exact eq_comm
  obtain ⟨k, hk⟩ : ∃ k : Int, (if colonNo t2 = 0 then (0 : Int) else ((cutAt 58 t2).1.length : Int)) = k := ⟨_, rfl⟩
  have c3 := prefixed_ok t2 (by omega)
  rw [hk] at c3
  have hkr : 0 ≤ k ∧ k ≤ t2.length := by
    have := cutAt_len1 58 t2
    rw [← hk]; split <;> omega
  have c5 : 0 < (colonNo t2 : Int) → FnS Tryz.prog 113 [.c (.s t2), .c (.i .i64 (k + 1))] [] [] (Is (.c (.s t3))) := fun h => by
    have h0 : colonNo t2 ≠ 0 := by omega
    rw [if_neg h0] at hk
    have c := cut_fn_ok t2 ((cutAt 58 t2).1.length + 1) (by omega) (by have := (hbe h0).2; omega)
    rw [(hbe h0).1] at c
    have e : noSpace t2 = Lib.trimPrefix (behind t2) [32] := by unfold noSpace; rw [if_pos (decide_eq_true h0)]
    rw [← e, ht3] at c
    rw [← hk]
    exact c
  unfold parseT
  rw [hn, hsp]
  refine fn_of_J Tryz.tyOK 0 Tryz.func83 (by kernel_rfl) (c := Tryz.f83.body.getD .skip) (by kernel_rfl) Tryz.ntmps83 (rs := Tryz.f83.results.toList) rfl (by simp) (fun G => ?_)
  repeat' first
    | refine J_cut (x := .seq (.region 2 _ _) _) (α := Unit) (fun _ => [(0, .c (.s t2)), (2, .c (.p 0 ad 0)), (3, .c (.i .i64 0))]) (fun _ => [.box 0 ad 46 [.i .i64 0, .s []]]) (fun _ => []) 1 (fun _ => True) ?_ (fun _ _ => ?_) | refine J_stop (c := .seq (.region 4 _ _) _) ?_
    | refine J_seq ?_ | refine J_region Tryz.tyOK ?_ | refine J_block ?_ | refine J_cond ?_ | refine J_ret ?_ | refine J_skip ?_ | refine J_exit ?_ | refine J_scope ?_
    | refine CondP.yes (by omega) ?_ | refine CondP.no (by omega) ?_ | refine CondP.mk (fun h => ?_) (fun h => ?_) | refine EqP.mk rfl ?_ | refine NewP.mk (fun ad => ?_) | refine ArP.exact (by simp only [inR]; omega) ?_ | refine SideP.mk (by first | omega | (dsimp only; omega) | (simp; omega)) ?_
    | refine CallP.is c1 ?_ | refine CallP.is (cut_fn_ok t1 1 (by omega) (by omega)) ?_ | refine InFam.mk () trivial (SubE.cons rfl (VEq.str ?_) (by repeat' first | exact SubE.nil | refine SubE.cons rfl ?_ ?_ | exact VEq.refl _ | refine VEq.int (by omega) | refine VEq.sl rfl (by first | rfl | omega | (rw [List.length_append]; rfl) | (simp; omega)) rfl)) (Ents.refl _ _)
    | fail
  · rw [← ht2, noColon, hpos]; (try simp only [Int.toNat_natCast, Int.toNat_zero] at *); simp only [*, decide_true, decide_false, Bool.true_and, Bool.false_and, Bool.and_true, Bool.and_false, Bool.not_true, Bool.not_false, Bool.true_or, Bool.false_or, Bool.or_true, Bool.or_false, not_true, not_false_eq_true, ne_eq, if_true, if_false, Bool.false_eq_true]
  · rw [← ht2, noColon, hpos]; (try simp only [Int.toNat_natCast, Int.toNat_zero] at *); simp only [*, decide_true, decide_false, Bool.true_and, Bool.false_and, Bool.and_true, Bool.and_false, Bool.not_true, Bool.not_false, Bool.true_or, Bool.false_or, Bool.or_true, Bool.or_false, not_true, not_false_eq_true, ne_eq, if_true, if_false, Bool.false_eq_true]
  · rw [← ht2, noColon, hpos]; (try simp only [Int.toNat_natCast, Int.toNat_zero] at *); simp only [*, decide_true, decide_false, Bool.true_and, Bool.false_and, Bool.and_true, Bool.and_false, Bool.not_true, Bool.not_false, Bool.true_or, Bool.false_or, Bool.or_true, Bool.or_false, not_true, not_false_eq_true, ne_eq, if_true, if_false, Bool.false_eq_true]
  refine ⟨?_⟩
  repeat' first
    | refine J_cut (x := .seq (.region 5 _ _) _) (α := Unit) (fun _ => [(0, .c (.s t3)), (2, .c (.p 0 ad 0)), (3, .c (.i .i64 0)), (4, .c (.i .i64 (colonNo t2)))]) (fun _ => [.box 0 ad 46 [.i .i64 0, .s []]]) (fun _ => []) 1 (fun _ => True) ?_ (fun _ _ => ?_) | refine J_stop (c := .seq (.seq (.region 8 _ _) _) _) ?_
    | refine J_seq ?_ | refine J_region Tryz.tyOK ?_ | refine J_block ?_ | refine J_cond ?_ | refine J_ret ?_ | refine J_skip ?_ | refine J_exit ?_ | refine J_scope ?_
    | refine CondP.yes (by omega) ?_ | refine CondP.no (by omega) ?_ | refine CondP.mk (fun h => ?_) (fun h => ?_) | refine EqP.mk rfl ?_ | refine NewP.mk (fun ad => ?_) | refine ArP.exact (by simp only [inR]; omega) ?_ | refine SideP.mk (by first | omega | (dsimp only; omega) | (simp; omega)) ?_
    | refine CallP.is c3 ?_ | refine CallP.is (c5 (by omega)) ?_ | refine InFam.mk () trivial (SubE.cons rfl (VEq.str ?_) (by repeat' first | exact SubE.nil | refine SubE.cons rfl ?_ ?_ | exact VEq.refl _ | refine VEq.int (by omega) | refine VEq.sl rfl (by first | rfl | omega | (rw [List.length_append]; rfl) | (simp; omega)) rfl)) (Ents.refl _ _)
    | fail
  · rfl
  · rw [← ht3, noSpace, if_neg]
    have h0 : ¬ 0 < (colonNo t2 : Int) := by assumption
    simp; omega
  refine ⟨?_⟩
  refine J_seq ?_
  repeat' first
    | refine J_seq ?_ | refine J_region Tryz.tyOK ?_ | refine J_block ?_ | refine J_cond ?_ | refine J_ret ?_ | refine J_skip ?_ | refine J_exit ?_ | refine J_scope ?_
    | refine CondP.yes (by omega) ?_ | refine CondP.no (by omega) ?_ | refine CondP.mk (fun h => ?_) (fun h => ?_) | refine EqP.mk rfl ?_ | refine NewP.mk (fun ad => ?_) | refine ArP.exact (by simp only [inR]; omega) ?_ | refine SideP.mk (by first | omega | (dsimp only; omega) | (simp; omega)) ?_
    | fail
    | fail
  refine J_loop (α := Nat × List UInt8) (fun x => [(0, .c (.s t3)), (2, .c (.p 0 ad 0)), (3, .c (.i .i64 0)), (4, .c (.i .i64 (colonNo t2))), (6, .c (.s x.2)), (7, .c (.i .i64 x.1))]) (fun _ => [.box 0 ad 46 [.i .i64 0, .s []]]) (fun _ => []) 1
    (fun x => x.1 ≤ t3.length ∧ x.2.length ≤ x.1 ∧ t4 = x.2 ++ dropR (ps t3 x.1) (t3.drop x.1)) (fun x => t3.length - x.1)
    (InFam.mk (0, []) ⟨by simp, by simp, by rw [← e4]; simp [ps]⟩ (by repeat' first | exact SubE.nil | refine SubE.cons rfl ?_ ?_ | exact VEq.refl _ | refine VEq.int (by omega) | refine VEq.sl rfl (by first | rfl | omega | (rw [List.length_append]; rfl) | (simp; omega)) rfl) (Ents.refl _ _)) (fun x hi => ?_)
  obtain ⟨i, o⟩ := x
  obtain ⟨hi, hol, he⟩ := hi
  dsimp only at hi hol he ⊢
  by_cases hlt : i < t3.length
  · have hst := dropR_step hlt
    have hs1 := slice_one hlt
    have hsl : ((t3.take (i + 1)).drop i).length = 1 := by rw [hs1]; rfl
    repeat' first
      | refine J_seq ?_ | refine J_region Tryz.tyOK ?_ | refine J_block ?_ | refine J_cond ?_ | refine J_ret ?_ | refine J_skip ?_ | refine J_exit ?_ | refine J_scope ?_
      | refine CondP.yes (by omega) ?_ | refine CondP.no (by omega) ?_ | refine CondP.mk (fun h => ?_) (fun h => ?_) | refine EqP.mk rfl ?_ | refine NewP.mk (fun ad => ?_) | refine ArP.exact (by simp only [inR]; omega) ?_ | refine SideP.mk (by first | omega | (dsimp only; omega) | (simp; omega)) ?_
      | refine Round.mk (i + 1, o ++ (t3.take (i + 1)).drop i) (by simp; omega) ⟨by simp; omega, by rw [List.length_append, hsl]; simp; omega, ?_⟩ (SubE.cons rfl (VEq.refl _) (SubE.cons rfl (VEq.refl _) (SubE.cons rfl (VEq.refl _) (SubE.cons rfl (VEq.refl _) (SubE.cons rfl (VEq.refl _) (SubE.cons rfl (VEq.int (by omega)) SubE.nil)))))) (Ents.refl _ _) | refine Round.mk (i + 1, o) (by simp; omega) ⟨by simp; omega, by simp; omega, ?_⟩ (SubE.cons rfl (VEq.refl _) (SubE.cons rfl (VEq.refl _) (SubE.cons rfl (VEq.refl _) (SubE.cons rfl (VEq.refl _) (SubE.cons rfl (VEq.refl _) (SubE.cons rfl (VEq.int (by omega)) SubE.nil)))))) (Ents.refl _ _) | refine SideP.mk (Nat.le_trans (Nat.add_le_add hol (Nat.le_of_eq hsl)) (by omega)) ?_
      | fail
    all_goals simp only [Int.toNat_natCast] at *
    all_goals
      obtain ⟨b, hsk⟩ : ∃ b, skipB t3 i = b := ⟨_, rfl⟩
      rw [hsk] at hst
      unfold skipB ps at hsk
      have he' := he
      have hst' := hst
      clear he hst e4 ht4 hk
      simp only [*, decide_true, decide_false, Bool.true_and, Bool.false_and, Bool.and_true, Bool.and_false, Bool.true_or, Bool.false_or, Bool.or_true, Bool.or_false] at hsk
      subst hsk
      rw [he', hst']
      simp only [if_true, Bool.false_eq_true, if_false]
      try (rw [hs1, List.append_assoc]; rfl)
  · have hil : i = t3.length := by omega
    subst hil
    have ho : o = t4 := by rw [he, List.drop_length]; simp [dropR]
    subst ho
    repeat' first
      | refine J_stop (c := .seq (.seq (.region 13 _ _) _) _) ?_
      | refine J_seq ?_ | refine J_region Tryz.tyOK ?_ | refine J_block ?_ | refine J_cond ?_ | refine J_ret ?_ | refine J_skip ?_ | refine J_exit ?_ | refine J_scope ?_
      | refine CondP.yes (by omega) ?_ | refine CondP.no (by omega) ?_ | refine CondP.mk (fun h => ?_) (fun h => ?_) | refine EqP.mk rfl ?_ | refine NewP.mk (fun ad => ?_) | refine ArP.exact (by simp only [inR]; omega) ?_ | refine SideP.mk (by first | omega | (dsimp only; omega) | (simp; omega)) ?_
      | fail
      | fail
    refine ⟨?_⟩
    have h0 : o.length ≤ 1000000 := by omega
    refine J_cut (x := .seq (.region 13 _ _) _) (α := Unit) (fun _ => [(2, .c (.p 0 ad 0)), (3, .c (.i .i64 0)), (4, .c (.i .i64 (colonNo t2))), (6, .c (.s t5))]) (fun _ => [.box 0 ad 46 [.i .i64 0, .s []]]) (fun _ => []) 1 (fun _ => True) ?_ (fun _ _ => ?_)
    · rw [upB_eq] at ht5
      clear hn hsp hbe hpos hk hkr c1 c3 c5 n1 n2 n3 e4 ht1 ht2 ht3 ht4 hu he
      repeat' first
        | refine J_seq ?_ | refine J_region Tryz.tyOK ?_ | refine J_block ?_ | refine J_cond ?_ | refine J_ret ?_ | refine J_skip ?_ | refine J_exit ?_ | refine J_scope ?_
        | refine CondP.yes (by omega) ?_ | refine CondP.no (by omega) ?_ | refine CondP.mk (fun h => ?_) (fun h => ?_) | refine EqP.mk rfl ?_ | refine NewP.mk (fun ad => ?_) | refine ArP.exact (by simp only [inR]; omega) ?_ | refine SideP.mk (by first | omega | (dsimp only; omega) | (simp; omega)) ?_
        | refine J_draw Tryz.tyOK (by kernel_rfl) [0, 1, 2, 5, 6, 3, 4, 7, 8] [3, 4] [] [] (by kernel_rfl) Ents.dropAll ?_ | refine EntP.mk Ents.dropAll ?_ | refine BytesE.mk 5 [o.getD 0 0 - 32] (.inl ⟨1, by rw [← up_byte (by assumption)]; exact List.Mem.head _⟩) ?_ | refine InFam.mk () trivial (SubE.cons rfl (VEq.refl _) (SubE.cons rfl (VEq.refl _) (SubE.cons rfl (VEq.refl _) (SubE.cons rfl (VEq.str ?_) SubE.nil)))) (Ents.refl _ _) | refine InFam.mk () trivial (SubE.cons rfl (VEq.refl _) (SubE.cons rfl (VEq.refl _) (SubE.cons rfl (VEq.refl _) (SubE.cons rfl (VEq.str ?_) SubE.nil)))) Ents.drop
        | fail
      all_goals
        try simp only [Int.toNat_natCast, Int.toNat_zero] at *
        rw [← ht5]
        clear ht5 h5 hol hi hlt h1 h2 h3 h4
        simp only [*, decide_true, decide_false, Bool.true_and, Bool.false_and, Bool.and_true, Bool.and_false, if_true, if_false, Bool.false_eq_true]
        try rfl
    · clear hn hsp hbe hpos hk hkr c1 c3 c5 n1 n2 n3 e4 ht1 ht2 ht3 ht4 hu ht5 he
      repeat' first
        | refine J_seq ?_ | refine J_region Tryz.tyOK ?_ | refine J_block ?_ | refine J_cond ?_ | refine J_ret ?_ | refine J_skip ?_ | refine J_exit ?_ | refine J_scope ?_
        | refine CondP.yes (by omega) ?_ | refine CondP.no (by omega) ?_ | refine CondP.mk (fun h => ?_) (fun h => ?_) | refine EqP.mk rfl ?_ | refine NewP.mk (fun ad => ?_) | refine ArP.exact (by simp only [inR]; omega) ?_ | refine SideP.mk (by first | omega | (dsimp only; omega) | (simp; omega)) ?_
        | refine CallP.isB (refValid_ok (colonNo t2) t5 (by omega)) (fun hv => ?_) (fun hv => ?_) | refine FinE.is ?_
        | fail
      all_goals (clear h5 h4; (try simp only [Int.toNat_natCast, Int.toNat_zero] at *); simp only [if_true, if_false, *, decide_true, decide_false, Bool.true_and, Bool.false_and, Bool.and_true, Bool.and_false, Bool.not_true, Bool.not_false, Bool.true_or, Bool.false_or, Bool.or_true, Bool.or_false, not_true, not_false_eq_true, ne_eq, if_true, if_false, Bool.false_eq_true]; rfl)


end Go.Proofs
