/- This text walks through the functions Parse, Format, Compare and Resolve of the package title. -/
import Derived.Test.YtabmiagnfihleaaGreatDoorWParse
set_option linter.all false

namespace Go.Proofs
open Go Go.X
set_option maxRecDepth 100000

def titleV (sp : Int) (s : List UInt8) : V := .agg [.i .i64 sp, .s s]
def parseV (r : Int × List UInt8 × Int) : V := .t2 (.agg [.i .i64 r.1, .s r.2.1]) (.c (.i .i64 r.2.2))

theorem up_byte {x : UInt8} (h : 97 ≤ (x.toNat : Int)) : [C.i .u8 ((x.toNat : Int) - 32)] = [x - 32].map byteC := by
  have : (x - 32).toNat = x.toNat - 32 := by
    rw [UInt8.toNat_sub_of_le]
    · rfl
    · rw [UInt8.le_iff_toNat_le]; simp; omega
  simp only [List.map_cons, List.map_nil, byteC, this]
  congr 2
  omega

theorem parse_ok (s : List UInt8) (hs : s.length ≤ 1000000) : FnS Tryz.prog 68 [.c (.s s)] [] [gInt 0] (Is (parseV (parseT s))) := by
  have hu : (usc s).length = s.length := by simp [usc]
  obtain ⟨t1, ht1⟩ : ∃ t, singleB (usc s) = t := ⟨_, rfl⟩
  have h1 : t1.length ≤ s.length := by have := singleB_le (usc s); rw [ht1] at this; omega
  obtain ⟨t2, ht2⟩ : ∃ t, noColon t1 = t := ⟨_, rfl⟩
  have h2 : t2.length ≤ t1.length := by rw [← ht2]; exact noColon_le _
  obtain ⟨t3, ht3⟩ : ∃ t, noSpace t2 = t := ⟨_, rfl⟩
  have h3 : t3.length ≤ t2.length := by rw [← ht3]; exact noSpace_le _
  obtain ⟨t4, ht4⟩ : ∃ t, slashesB t3 = t := ⟨_, rfl⟩
  have h4 : t4.length ≤ t3.length := by rw [← ht4]; exact slashesB_short _
  obtain ⟨t5, ht5⟩ : ∃ t, upB t4 = t := ⟨_, rfl⟩
  have h5 : t5.length = t4.length := by rw [← ht5]; exact upB_len _
  have hn : nameP s = t5 := by simp only [nameP, ht1, ht2, ht3, ht4, ht5]
  have hsp : spaceP s = colonNo t2 := by simp only [spaceP, ht1, ht2]
  have c1 : FnS Tryz.prog 85 [.c (.s (usc s))] [] [] (Is (.c (.s t1))) := by rw [← ht1]; exact single_ok (usc s) (by omega)
  have c4 : FnS Tryz.prog 89 [.c (.s t3)] [] [gInt 0] (Is (.c (.s t4))) := by rw [← ht4]; exact slashes_ok t3 (by omega)
  unfold parseT
  rw [hn, hsp]
  refine fn_of_J Tryz.tyOK 0 Tryz.func68 (by kernel_rfl) (c := Tryz.f68.body.getD .skip) (by kernel_rfl) Tryz.ntmps68 (rs := Tryz.f68.results.toList) rfl (by simp) (fun G => ?_)
  have hpos : ([58] : List UInt8).isPrefixOf t1 = true → 1 ≤ t1.length := by cases t1 <;> simp [List.isPrefixOf]
  repeat' first
    | refine J_cut (x := .seq (.region 2 _ _) _) (α := Unit) (fun _ => [(0, .c (.s t2)), (2, .c (.p 0 ad 0)), (3, .c (.i .i64 0))]) (fun _ => [.box 0 ad 38 [.i .i64 0, .s []]]) (fun _ => [gInt 0]) 1 (fun _ => True) ?_ (fun _ _ => ?_) | refine J_stop (c := .seq (.seq (.region 5 _ _) _) _) ?_
    | refine J_seq ?_ | refine J_region Tryz.tyOK ?_ | refine J_block ?_ | refine J_cond ?_ | refine J_ret ?_ | refine J_skip ?_ | refine J_exit ?_ | refine J_scope ?_
    | refine CondP.yes (by omega) ?_ | refine CondP.no (by omega) ?_ | refine CondP.mk (fun h => ?_) (fun h => ?_) | refine EqP.mk rfl ?_ | refine NewP.mk (fun ad => ?_) | refine ArP.exact (by simp only [inR]; omega) ?_ | refine SideP.mk (by first | omega | (dsimp only; omega) | (simp; omega)) ?_
    | refine CallP.is (replaceOne_ok s 95 32 (by decide) (by omega)) ?_ | refine CallP.is c1 ?_ | refine CallP.isB (hasPrefix_ok t1 [58]) (fun hp => ?_) (fun hp => ?_) | refine SideP.mk (by have := hpos hp; omega) ?_ | refine CallP.is (trimPrefix_ok _ [32]) ?_ | refine InFam.mk () trivial (SubE.cons rfl (VEq.str ?_) (by repeat' first | exact SubE.nil | refine SubE.cons rfl ?_ ?_ | exact VEq.refl _ | refine VEq.int (by omega) | refine VEq.sl rfl (by first | rfl | omega | (rw [List.length_append]; rfl) | (simp; omega)) rfl)) (Ents.refl _ _)
    | fail
  · rw [← ht2, noColon, if_pos hp]; rfl
  · rw [← ht2, noColon, if_neg (by simp [hp])]
  rename_i ad0 _ _
  refine ⟨?_⟩
  refine J_cut (x := .seq (.region 5 _ _) _) (α := Unit) (fun _ => [(0, .c (.s t3)), (2, .c (.p 0 ad0 0)), (3, .c (.i .i64 0)), (4, .c (.p 1 ad 0))]) (fun _ => [.box 1 ad 38 [.i .i64 (colonNo t2), .s []], .box 0 ad0 38 [.i .i64 0, .s []]]) (fun _ => [gInt 0]) 2 (fun _ => True) ?_ (fun _ _ => ?_)
  · repeat' first
      | refine J_seq ?_ | refine J_region Tryz.tyOK ?_ | refine J_block ?_ | refine J_cond ?_ | refine J_ret ?_ | refine J_skip ?_ | refine J_exit ?_ | refine J_scope ?_
      | refine CondP.yes (by omega) ?_ | refine CondP.no (by omega) ?_ | refine CondP.mk (fun h => ?_) (fun h => ?_) | refine EqP.mk rfl ?_ | refine NewP.mk (fun ad => ?_) | refine ArP.exact (by simp only [inR]; omega) ?_ | refine SideP.mk (by first | omega | (dsimp only; omega) | (simp; omega)) ?_
      | refine CallP.isF _ (fun b => .t3 (.c (.i .i64 (colonNo t2))) (.c (.s (if colonNo t2 = 0 then [] else behind t2))) (.c (.b b))) (prefix_ok t2 (by omega)) (fun hp => ?_) (fun hp => ?_) | refine CallP.is (trimPrefix_ok _ [32]) ?_ | refine InFam.mk () trivial (SubE.cons rfl (VEq.str ?_) (by repeat' first | exact SubE.nil | refine SubE.cons rfl ?_ ?_ | exact VEq.refl _ | refine VEq.int (by omega) | refine VEq.sl rfl (by first | rfl | omega | (rw [List.length_append]; rfl) | (simp; omega)) rfl)) (Ents.of ?_)
      | fail
    · rw [← ht3, noSpace, if_pos hp, if_neg (by simpa using hp)]
    · rfl
    · rw [← ht3, noSpace, if_neg (by simp [hp])]
    · have h0 : colonNo t2 = 0 := by simpa using hp
      rw [h0]; rfl
  repeat' first
    | refine J_stop (c := .seq (.seq (.region 12 _ _) _) _) ?_ | refine J_cut (x := .seq (.region 9 _ _) _) (α := Unit) (fun _ => [(0, .c (.s t5)), (2, .c (.p 0 ad0 0)), (3, .c (.i .i64 0)), (4, .c (.p 1 ad 0))]) (fun _ => [.box 1 ad 38 [.i .i64 (colonNo t2), .s []], .box 0 ad0 38 [.i .i64 0, .s []]]) (fun _ => [gInt 0]) 2 (fun _ => True) ?_ (fun _ _ => ?_)
    | refine J_seq ?_ | refine J_region Tryz.tyOK ?_ | refine J_block ?_ | refine J_cond ?_ | refine J_ret ?_ | refine J_skip ?_ | refine J_exit ?_ | refine J_scope ?_
    | refine CondP.yes (by omega) ?_ | refine CondP.no (by omega) ?_ | refine CondP.mk (fun h => ?_) (fun h => ?_) | refine EqP.mk rfl ?_ | refine NewP.mk (fun ad => ?_) | refine ArP.exact (by simp only [inR]; omega) ?_ | refine SideP.mk (by first | omega | (dsimp only; omega) | (simp; omega)) ?_
    | refine CallP.is c4 ?_ | refine SideP.mk (by have := pos_of_ne ‹¬ t4 = []›; omega) ?_ | refine InFam.mk () trivial (SubE.cons rfl (VEq.str ?_) (by repeat' first | exact SubE.nil | refine SubE.cons rfl ?_ ?_ | exact VEq.refl _ | refine VEq.int (by omega) | refine VEq.sl rfl (by first | rfl | omega | (rw [List.length_append]; rfl) | (simp; omega)) rfl)) (Ents.refl _ _) | refine J_draw Tryz.tyOK (by kernel_rfl) [0, 1, 2, 5, 6, 3, 4, 7, 8] [3, 4] [] [] (by kernel_rfl) (Ents.dropAll.trans (Ents.facts fun _ _ => trivial)) ?_ | refine EntP.mk (Ents.dropAll.trans (Ents.facts fun _ _ => trivial)) ?_ | refine BytesE.mk 5 [t4.getD 0 0 - 32] (.inl ⟨1, by rw [← up_byte (by assumption)]; exact List.Mem.head _⟩) ?_ | refine InFam.mk () trivial (SubE.cons rfl (VEq.str ?_) (by repeat' first | exact SubE.nil | refine SubE.cons rfl ?_ ?_ | exact VEq.refl _ | refine VEq.int (by omega) | refine VEq.sl rfl (by first | rfl | omega | (rw [List.length_append]; rfl) | (simp; omega)) rfl)) Ents.drop
    | fail
  all_goals first
    | (rw [← ht5, upB, if_neg (by (try simp only [Int.toNat_natCast, Int.toNat_zero] at *); simp only [*, decide_true, decide_false, Bool.true_and, Bool.false_and, Bool.and_true, Bool.and_false, Bool.not_true, Bool.not_false, Bool.true_or, Bool.false_or, Bool.or_true, Bool.or_false, not_true, not_false_eq_true, ne_eq, if_true, if_false, Bool.false_eq_true]; try decide)]; done)
    | (rw [← ht5, upB, if_pos (by (try simp only [Int.toNat_natCast, Int.toNat_zero] at *); simp only [*, decide_true, decide_false, Bool.true_and, Bool.false_and, Bool.and_true, Bool.and_false, Bool.not_true, Bool.not_false, Bool.true_or, Bool.false_or, Bool.or_true, Bool.or_false, not_true, not_false_eq_true, ne_eq, if_true, if_false, Bool.false_eq_true]; try decide)]; rfl)
    | skip
  refine ⟨?_⟩
  repeat' first
    | refine J_seq ?_ | refine J_region Tryz.tyOK ?_ | refine J_block ?_ | refine J_cond ?_ | refine J_ret ?_ | refine J_skip ?_ | refine J_exit ?_ | refine J_scope ?_
    | refine CondP.yes (by omega) ?_ | refine CondP.no (by omega) ?_ | refine CondP.mk (fun h => ?_) (fun h => ?_) | refine EqP.mk rfl ?_ | refine NewP.mk (fun ad => ?_) | refine ArP.exact (by simp only [inR]; omega) ?_ | refine SideP.mk (by first | omega | (dsimp only; omega) | (simp; omega)) ?_
    | refine CallP.isB (valid_ok (colonNo t2) t5 (by omega)) (fun hv => ?_) (fun hv => ?_) | refine FinE.is ?_
    | fail
  all_goals (clear h5 h4; (try simp only [Int.toNat_natCast, Int.toNat_zero] at *); simp only [if_true, if_false, *, decide_true, decide_false, Bool.true_and, Bool.false_and, Bool.and_true, Bool.and_false, Bool.not_true, Bool.not_false, Bool.true_or, Bool.false_or, Bool.or_true, Bool.or_false, not_true, not_false_eq_true, ne_eq, if_true, if_false, Bool.false_eq_true]; rfl)

end Go.Proofs
