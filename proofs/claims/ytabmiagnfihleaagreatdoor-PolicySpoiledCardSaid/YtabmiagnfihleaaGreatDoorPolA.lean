/- This text walks through the functions of the package policy and of the reference of chapter 12 on names and groups. -/
import Derived.Test.YtabmiagnfihleaaGreatDoorPol
import Derived.Test.YtabmiagnfihleaaGreatDoorLibc
set_option linter.all false

namespace Go.Proofs
open Go Go.X
set_option maxRecDepth 100000

theorem all_drop {α : Type} {p : α → Bool} {s : List α} {i : Nat} (h : i < s.length) : (s.drop i).all p = (p s[i] && (s.drop (i + 1)).all p) := by
  rw [List.drop_eq_getElem_cons h, List.all_cons]

theorem nameB_F {c : UInt8} (h : ((c.toNat : Int) < 97 ∨ 122 < (c.toNat : Int)) ∧ ((c.toNat : Int) < 48 ∨ 57 < (c.toNat : Int)) ∧ (c.toNat : Int) ≠ 45 ∧ (c.toNat : Int) ≠ 95) : nameB c = false := by
  unfold nameB; simp only [h.1, h.2.1, h.2.2.1, h.2.2.2, Bool.not_eq_false', ← Bool.decide_or, decide_true, decide_false, Bool.not_false, Bool.and_self]
theorem nameB_T {c : UInt8} (h : ¬ (((c.toNat : Int) < 97 ∨ 122 < (c.toNat : Int)) ∧ ((c.toNat : Int) < 48 ∨ 57 < (c.toNat : Int)) ∧ (c.toNat : Int) ≠ 45 ∧ (c.toNat : Int) ≠ 95)) : nameB c = true := by
  cases hn : nameB c with
  | true => rfl
  | false =>
    unfold nameB at hn
    simp only [Bool.not_eq_false', ← Bool.decide_or, Bool.and_eq_true, decide_eq_true_eq, Bool.not_eq_true', decide_eq_false_iff_not] at hn
    exact absurd ⟨hn.1.1.1, hn.1.1.2, hn.1.2, hn.2⟩ h

theorem polIsName_ok (s : Bs) (hs : s.length ≤ 9223372036854775807) : FnS Tryz.prog 14 [.c (.s s)] [] [] (Is (.c (.b (isNameT s)))) := by
  refine fn_of_J Tryz.tyOK 0 Tryz.func14 (by kernel_rfl) (c := Tryz.f14.body.getD .skip) (by kernel_rfl) Tryz.ntmps14 (rs := Tryz.f14.results.toList) rfl (by simp) (fun G => ?_)
  repeat' first
    | refine J_stop (c := .seq (.seq (.region 3 _ _) _) _) ?_
    | refine J_seq ?_ | refine J_region Tryz.tyOK ?_ | refine J_block ?_ | refine J_cond ?_ | refine J_ret ?_ | refine J_skip ?_ | refine J_exit ?_ | refine J_scope ?_
    | refine CondP.yes (by omega) ?_ | refine CondP.no (by omega) ?_ | refine CondP.mk (fun h => ?_) (fun h => ?_) | refine EqP.mk rfl ?_ | refine NewP.mk (fun ad => ?_) | refine ArP.exact (by simp only [inR]; omega) ?_ | refine SideP.mk (by first | omega | (dsimp only; omega) | (simp; omega)) ?_
    | refine FinE.bool ?_
    | fail
  rotate_right
  · refine ⟨?_⟩
    refine J_seq ?_
    repeat' first
      | refine J_seq ?_ | refine J_region Tryz.tyOK ?_ | refine J_block ?_ | refine J_cond ?_ | refine J_ret ?_ | refine J_skip ?_ | refine J_exit ?_ | refine J_scope ?_
      | refine CondP.yes (by omega) ?_ | refine CondP.no (by omega) ?_ | refine CondP.mk (fun h => ?_) (fun h => ?_) | refine EqP.mk rfl ?_ | refine NewP.mk (fun ad => ?_) | refine ArP.exact (by simp only [inR]; omega) ?_ | refine SideP.mk (by first | omega | (dsimp only; omega) | (simp; omega)) ?_
      | fail
    refine J_loop (α := Nat) (fun i => [(0, .c (.s s)), (24, .c (.i .i64 s.length)), (25, .c (.i .i64 i))]) (fun _ => []) (fun _ => []) 0 (fun i => i ≤ s.length ∧ s.all nameB = (s.drop i).all nameB) (fun i => s.length - i)
      (InFam.mk 0 ⟨by omega, rfl⟩ (by repeat' first | exact SubE.nil | refine SubE.cons rfl ?_ ?_ | exact VEq.refl _ | refine VEq.int (by omega) | refine VEq.sl rfl (by first | rfl | omega | (rw [List.length_append]; rfl) | (simp; omega)) rfl) (Ents.refl _ _)) (fun i hi => ?_)
    obtain ⟨hi, hal⟩ := hi
    by_cases hlt : i < s.length
    · rw [all_drop hlt] at hal
      have hg : s[i] = s.getD i 0 := by simp [hlt]
      rw [hg] at hal
      have hb := (s.getD i 0).toNat_lt
      repeat' first
        | refine J_seq ?_ | refine J_region Tryz.tyOK ?_ | refine J_block ?_ | refine J_cond ?_ | refine J_ret ?_ | refine J_skip ?_ | refine J_exit ?_ | refine J_scope ?_
        | refine CondP.yes (by omega) ?_ | refine CondP.no (by omega) ?_ | refine CondP.mk (fun h => ?_) (fun h => ?_) | refine EqP.mk rfl ?_ | refine NewP.mk (fun ad => ?_) | refine ArP.exact (by simp only [inR]; omega) ?_ | refine SideP.mk (by first | omega | (dsimp only; omega) | (simp; omega)) ?_
        | refine FinE.bool ?_ | refine Round.mk (i + 1) (by omega) ⟨by omega, ?_⟩ (by repeat' first | exact SubE.nil | refine SubE.cons rfl ?_ ?_ | exact VEq.refl _ | refine VEq.int (by omega) | refine VEq.sl rfl (by first | rfl | omega | (rw [List.length_append]; rfl) | (simp; omega)) rfl) (Ents.refl _ _)
        | fail
      all_goals simp only [Int.toNat_natCast] at *
      all_goals first
        | (rw [hal, nameB_T (by omega), Bool.true_and])
        | (have hn : nameB (s.getD i 0) = false := nameB_F (by omega)
           rw [hn, Bool.false_and] at hal
           unfold isNameT; rw [hal, Bool.and_false])
    · have hil : i = s.length := by omega
      subst hil
      simp only [List.drop_length, List.all_nil] at hal
      repeat' first
        | refine J_seq ?_ | refine J_region Tryz.tyOK ?_ | refine J_block ?_ | refine J_cond ?_ | refine J_ret ?_ | refine J_skip ?_ | refine J_exit ?_ | refine J_scope ?_
        | refine CondP.yes (by omega) ?_ | refine CondP.no (by omega) ?_ | refine CondP.mk (fun h => ?_) (fun h => ?_) | refine EqP.mk rfl ?_ | refine NewP.mk (fun ad => ?_) | refine ArP.exact (by simp only [inR]; omega) ?_ | refine SideP.mk (by first | omega | (dsimp only; omega) | (simp; omega)) ?_
        | refine FinE.bool ?_
        | fail
      (try simp only [Int.toNat_natCast, Int.toNat_zero] at *); simp only [isNameT, *, decide_true, decide_false, Bool.true_and, Bool.false_and, Bool.and_true, Bool.and_false, Bool.not_true, Bool.not_false, Bool.true_or, Bool.false_or, Bool.or_true, Bool.or_false, not_true, not_false_eq_true, ne_eq, if_true, if_false, Bool.false_eq_true]
  all_goals ((try simp only [Int.toNat_natCast, Int.toNat_zero] at *); simp only [isNameT, *, decide_true, decide_false, Bool.true_and, Bool.false_and, Bool.and_true, Bool.and_false, Bool.not_true, Bool.not_false, Bool.true_or, Bool.false_or, Bool.or_true, Bool.or_false, not_true, not_false_eq_true, ne_eq, if_true, if_false, Bool.false_eq_true]; try rfl)

theorem refIsName_ok (s : Bs) (hs : s.length ≤ 9223372036854775807) : FnS Tryz.prog 33 [.c (.s s)] [] [] (Is (.c (.b (isNameT s)))) := by
  refine fn_of_J Tryz.tyOK 0 Tryz.func33 (by kernel_rfl) (c := Tryz.f33.body.getD .skip) (by kernel_rfl) Tryz.ntmps33 (rs := Tryz.f33.results.toList) rfl (by simp) (fun G => ?_)
  repeat' first
    | refine J_stop (c := .seq (.seq (.region 3 _ _) _) _) ?_
    | refine J_seq ?_ | refine J_region Tryz.tyOK ?_ | refine J_block ?_ | refine J_cond ?_ | refine J_ret ?_ | refine J_skip ?_ | refine J_exit ?_ | refine J_scope ?_
    | refine CondP.yes (by omega) ?_ | refine CondP.no (by omega) ?_ | refine CondP.mk (fun h => ?_) (fun h => ?_) | refine EqP.mk rfl ?_ | refine NewP.mk (fun ad => ?_) | refine ArP.exact (by simp only [inR]; omega) ?_ | refine SideP.mk (by first | omega | (dsimp only; omega) | (simp; omega)) ?_
    | refine FinE.bool ?_
    | fail
  rotate_right
  · refine ⟨?_⟩
    refine J_seq ?_
    repeat' first
      | refine J_seq ?_ | refine J_region Tryz.tyOK ?_ | refine J_block ?_ | refine J_cond ?_ | refine J_ret ?_ | refine J_skip ?_ | refine J_exit ?_ | refine J_scope ?_
      | refine CondP.yes (by omega) ?_ | refine CondP.no (by omega) ?_ | refine CondP.mk (fun h => ?_) (fun h => ?_) | refine EqP.mk rfl ?_ | refine NewP.mk (fun ad => ?_) | refine ArP.exact (by simp only [inR]; omega) ?_ | refine SideP.mk (by first | omega | (dsimp only; omega) | (simp; omega)) ?_
      | fail
    refine J_loop (α := Nat) (fun i => [(0, .c (.s s)), (3, .c (.i .i64 i))]) (fun _ => []) (fun _ => []) 0 (fun i => i ≤ s.length ∧ s.all nameB = (s.drop i).all nameB) (fun i => s.length - i)
      (InFam.mk 0 ⟨by omega, rfl⟩ (by repeat' first | exact SubE.nil | refine SubE.cons rfl ?_ ?_ | exact VEq.refl _ | refine VEq.int (by omega) | refine VEq.sl rfl (by first | rfl | omega | (rw [List.length_append]; rfl) | (simp; omega)) rfl) (Ents.refl _ _)) (fun i hi => ?_)
    obtain ⟨hi, hal⟩ := hi
    by_cases hlt : i < s.length
    · rw [all_drop hlt] at hal
      have hg : s[i] = s.getD i 0 := by simp [hlt]
      rw [hg] at hal
      have hb := (s.getD i 0).toNat_lt
      repeat' first
        | refine J_seq ?_ | refine J_region Tryz.tyOK ?_ | refine J_block ?_ | refine J_cond ?_ | refine J_ret ?_ | refine J_skip ?_ | refine J_exit ?_ | refine J_scope ?_
        | refine CondP.yes (by omega) ?_ | refine CondP.no (by omega) ?_ | refine CondP.mk (fun h => ?_) (fun h => ?_) | refine EqP.mk rfl ?_ | refine NewP.mk (fun ad => ?_) | refine ArP.exact (by simp only [inR]; omega) ?_ | refine SideP.mk (by first | omega | (dsimp only; omega) | (simp; omega)) ?_
        | refine FinE.bool ?_ | refine Round.mk (i + 1) (by omega) ⟨by omega, ?_⟩ (by repeat' first | exact SubE.nil | refine SubE.cons rfl ?_ ?_ | exact VEq.refl _ | refine VEq.int (by omega) | refine VEq.sl rfl (by first | rfl | omega | (rw [List.length_append]; rfl) | (simp; omega)) rfl) (Ents.refl _ _)
        | fail
      all_goals simp only [Int.toNat_natCast] at *
      all_goals first
        | (rw [hal, nameB_T (by omega), Bool.true_and])
        | (have hn : nameB (s.getD i 0) = false := nameB_F (by omega)
           rw [hn, Bool.false_and] at hal
           unfold isNameT; rw [hal, Bool.and_false])
    · have hil : i = s.length := by omega
      subst hil
      simp only [List.drop_length, List.all_nil] at hal
      repeat' first
        | refine J_seq ?_ | refine J_region Tryz.tyOK ?_ | refine J_block ?_ | refine J_cond ?_ | refine J_ret ?_ | refine J_skip ?_ | refine J_exit ?_ | refine J_scope ?_
        | refine CondP.yes (by omega) ?_ | refine CondP.no (by omega) ?_ | refine CondP.mk (fun h => ?_) (fun h => ?_) | refine EqP.mk rfl ?_ | refine NewP.mk (fun ad => ?_) | refine ArP.exact (by simp only [inR]; omega) ?_ | refine SideP.mk (by first | omega | (dsimp only; omega) | (simp; omega)) ?_
        | refine FinE.bool ?_
        | fail
      (try simp only [Int.toNat_natCast, Int.toNat_zero] at *); simp only [isNameT, *, decide_true, decide_false, Bool.true_and, Bool.false_and, Bool.and_true, Bool.and_false, Bool.not_true, Bool.not_false, Bool.true_or, Bool.false_or, Bool.or_true, Bool.or_false, not_true, not_false_eq_true, ne_eq, if_true, if_false, Bool.false_eq_true]
  all_goals ((try simp only [Int.toNat_natCast, Int.toNat_zero] at *); simp only [isNameT, *, decide_true, decide_false, Bool.true_and, Bool.false_and, Bool.and_true, Bool.and_false, Bool.not_true, Bool.not_false, Bool.true_or, Bool.false_or, Bool.or_true, Bool.or_false, not_true, not_false_eq_true, ne_eq, if_true, if_false, Bool.false_eq_true]; try rfl)

theorem polBuiltIn_ok (s : Bs) : FnS Tryz.prog 25 [.c (.s s)] [] [] (Is (.c (.b (builtT s)))) := by
  refine fn_of_J Tryz.tyOK 0 Tryz.func25 (by kernel_rfl) (c := Tryz.f25.body.getD .skip) (by kernel_rfl) Tryz.ntmps25 (rs := Tryz.f25.results.toList) rfl (by simp) (fun G => ?_)
  repeat' first
    | refine J_seq ?_ | refine J_region Tryz.tyOK ?_ | refine J_block ?_ | refine J_cond ?_ | refine J_ret ?_ | refine J_skip ?_ | refine J_exit ?_ | refine J_scope ?_
    | refine CondP.yes (by omega) ?_ | refine CondP.no (by omega) ?_ | refine CondP.mk (fun h => ?_) (fun h => ?_) | refine EqP.mk rfl ?_ | refine NewP.mk (fun ad => ?_) | refine ArP.exact (by simp only [inR]; omega) ?_ | refine SideP.mk (by first | omega | (dsimp only; omega) | (simp; omega)) ?_
    | refine FinE.bool ?_
    | fail
  all_goals (unfold builtT bAll bUsers; first | (rw [decide_eq_true (by assumption)]; rfl) | (rw [decide_eq_false (by assumption), decide_eq_true (by assumption)]; rfl) | (rw [decide_eq_false (by assumption), decide_eq_false (by assumption)]; rfl))
theorem refBuiltIn_ok (s : Bs) : FnS Tryz.prog 34 [.c (.s s)] [] [] (Is (.c (.b (builtT s)))) := by
  refine fn_of_J Tryz.tyOK 0 Tryz.func34 (by kernel_rfl) (c := Tryz.f34.body.getD .skip) (by kernel_rfl) Tryz.ntmps34 (rs := Tryz.f34.results.toList) rfl (by simp) (fun G => ?_)
  repeat' first
    | refine J_seq ?_ | refine J_region Tryz.tyOK ?_ | refine J_block ?_ | refine J_cond ?_ | refine J_ret ?_ | refine J_skip ?_ | refine J_exit ?_ | refine J_scope ?_
    | refine CondP.yes (by omega) ?_ | refine CondP.no (by omega) ?_ | refine CondP.mk (fun h => ?_) (fun h => ?_) | refine EqP.mk rfl ?_ | refine NewP.mk (fun ad => ?_) | refine ArP.exact (by simp only [inR]; omega) ?_ | refine SideP.mk (by first | omega | (dsimp only; omega) | (simp; omega)) ?_
    | refine FinE.bool ?_
    | fail
  all_goals (unfold builtT bAll bUsers; first | (rw [decide_eq_true (by assumption)]; rfl) | (rw [decide_eq_false (by assumption), decide_eq_true (by assumption)]; rfl) | (rw [decide_eq_false (by assumption), decide_eq_false (by assumption)]; rfl))

/-! ### Groups that exist -/

theorem any_take_succ {α : Type} {p : α → Bool} {l : List α} {i : Nat} (h : i < l.length) : (l.take (i + 1)).any p = ((l.take i).any p || p l[i]) := by
  rw [List.take_succ_eq_append_getElem h, List.any_append]; simp

theorem indexFunc_ok (e : Nat) (a : Option Addr) (c : Nat) (gs : List GrpM) (f id ad off : Nat) (Lc : List Chunk) (pred : Bs → Bool) (hl : gs.length ≤ 9223372036854775807)
    (hf : ∀ g ∈ gs, FnS Tryz.prog f [.agg g.cells, .c (.p id ad off)] Lc [] (fun v L D => v = .c (.b (pred g.name)) ∧ L = Lc ∧ D = [])) :
    FnS Tryz.prog 44 [.c (.sl a gs.length c), .c (.fn f [(id, ad, off)])] Lc [slFact e 2 a gs.length (gsC gs)]
      (fun v L D => ∃ k : Int, v = .c (.i .i64 k) ∧ decide (0 ≤ k) = gs.any (fun g => pred g.name) ∧ L = Lc ∧ D = []) := by
  have hrd : ∀ L, Reads L [slFact e 2 a gs.length (gsC gs)] e 2 a gs.length (gsC gs) := fun L => .inr fun m h => h.1
  have hz : ∀ g : GrpM, g.cells.length = 2 := fun _ => rfl
  refine fn_of_J Tryz.tyOK 5000 Tryz.func44 (by kernel_rfl) (c := Tryz.f44.body.getD .skip) (by kernel_rfl) Tryz.ntmps44 (rs := Tryz.f44.results.toList) rfl (by simp) (fun G => ?_)
  refine J_seq ?_
  repeat' first
    | refine J_seq ?_ | refine J_region Tryz.tyOK ?_ | refine J_block ?_ | refine J_cond ?_ | refine J_ret ?_ | refine J_skip ?_ | refine J_exit ?_ | refine J_scope ?_
    | refine CondP.yes (by omega) ?_ | refine CondP.no (by omega) ?_ | refine CondP.mk (fun h => ?_) (fun h => ?_) | refine EqP.mk rfl ?_ | refine NewP.mk (fun ad => ?_) | refine ArP.exact (by simp only [inR]; omega) ?_ | refine SideP.mk (by first | omega | (dsimp only; omega) | (simp; omega)) ?_
    | fail
  refine J_loop (α := Nat) (fun i => [(0, .c (.sl a gs.length c)), (1, .c (.fn f [(id, ad, off)])), (7, .c (.i .i64 gs.length)), (8, .c (.i .i64 i))]) (fun _ => Lc) (fun _ => [slFact e 2 a gs.length (gsC gs)]) 5000
    (fun i => i ≤ gs.length ∧ (gs.take i).any (fun g => pred g.name) = false) (fun i => gs.length - i) (InFam.mk 0 ⟨by omega, rfl⟩ (by repeat' first | exact SubE.nil | refine SubE.cons rfl ?_ ?_ | exact VEq.refl _ | refine VEq.int (by omega) | refine VEq.sl rfl (by first | rfl | omega | (rw [List.length_append]; rfl) | (simp; omega)) rfl) (Ents.refl _ _)) (fun i hi => ?_)
  obtain ⟨hi, hal⟩ := hi
  by_cases hlt : i < gs.length
  · have hany := any_take_succ (p := fun g : GrpM => pred g.name) hlt
    rw [hal, Bool.false_or] at hany
    have hcall := hf gs[i] (List.getElem_mem hlt)
    have hg : ((gsC gs).drop (i * 2 + 0)).take 2 = gs[i].cells := by rw [gsC, flat_get hz hlt (by omega)]; rfl
    have hall : gs.any (fun g => pred g.name) = ((gs.take (i + 1)).any (fun g => pred g.name) || (gs.drop (i + 1)).any (fun g => pred g.name)) := by rw [← List.any_append, List.take_append_drop]
    cases hp : pred gs[i].name with
    | false =>
      rw [hp] at hcall hany
      repeat' first
        | refine J_seq ?_ | refine J_region Tryz.tyOK ?_ | refine J_block ?_ | refine J_cond ?_ | refine J_ret ?_ | refine J_skip ?_ | refine J_exit ?_ | refine J_scope ?_
        | refine CondP.yes (by omega) ?_ | refine CondP.no (by omega) ?_ | refine CondP.mk (fun h => ?_) (fun h => ?_) | refine EqP.mk rfl ?_ | refine NewP.mk (fun ad => ?_) | refine ArP.exact (by simp only [inR]; omega) ?_ | refine SideP.mk (by first | omega | (dsimp only; omega) | (simp; omega)) ?_
        | refine IdxE.mk e 2 _ (hrd _) (by omega) (by omega) ?_ | refine LoadE.mk e _ _ _ (hrd _) (by omega) (by omega) (by decide) hg ?_ | refine CallP.mk Lc [] [] _ hcall (by simp) (fun _ _ => trivial) (fun v L' D' hp => ?_); obtain ⟨rfl, rfl, rfl⟩ := hp | refine Round.mk (i + 1) (by omega) ⟨by omega, hany⟩ (by repeat' first | exact SubE.nil | refine SubE.cons rfl ?_ ?_ | exact VEq.refl _ | refine VEq.int (by omega) | refine VEq.sl rfl (by first | rfl | omega | (rw [List.length_append]; rfl) | (simp; omega)) rfl) (Ents.of (by simp))
        | fail
    | true =>
      rw [hp] at hcall hany
      rw [hany, Bool.true_or] at hall
      repeat' first
        | refine J_seq ?_ | refine J_region Tryz.tyOK ?_ | refine J_block ?_ | refine J_cond ?_ | refine J_ret ?_ | refine J_skip ?_ | refine J_exit ?_ | refine J_scope ?_
        | refine CondP.yes (by omega) ?_ | refine CondP.no (by omega) ?_ | refine CondP.mk (fun h => ?_) (fun h => ?_) | refine EqP.mk rfl ?_ | refine NewP.mk (fun ad => ?_) | refine ArP.exact (by simp only [inR]; omega) ?_ | refine SideP.mk (by first | omega | (dsimp only; omega) | (simp; omega)) ?_
        | refine IdxE.mk e 2 _ (hrd _) (by omega) (by omega) ?_ | refine LoadE.mk e _ _ _ (hrd _) (by omega) (by omega) (by decide) hg ?_ | refine CallP.mk Lc [] [] _ hcall (by simp) (fun _ _ => trivial) (fun v L' D' hp => ?_); obtain ⟨rfl, rfl, rfl⟩ := hp | refine FinE.mk _ [] ⟨_, rfl, ?_, rfl, rfl⟩ ((Ents.of (by simp)).trans (Ents.facts fun _ _ => trivial))
        | fail
      rw [hall]
      exact decide_eq_true (by omega)
  · have hil : i = gs.length := by omega
    subst hil
    rw [List.take_length] at hal
    repeat' first
      | refine J_seq ?_ | refine J_region Tryz.tyOK ?_ | refine J_block ?_ | refine J_cond ?_ | refine J_ret ?_ | refine J_skip ?_ | refine J_exit ?_ | refine J_scope ?_
      | refine CondP.yes (by omega) ?_ | refine CondP.no (by omega) ?_ | refine CondP.mk (fun h => ?_) (fun h => ?_) | refine EqP.mk rfl ?_ | refine NewP.mk (fun ad => ?_) | refine ArP.exact (by simp only [inR]; omega) ?_ | refine SideP.mk (by first | omega | (dsimp only; omega) | (simp; omega)) ?_
      | refine FinE.mk _ [] ⟨_, rfl, ?_, rfl, rfl⟩ (Ents.facts fun _ _ => trivial)
      | fail
    rw [hal]; rfl

theorem containsFunc_ok (e : Nat) (a : Option Addr) (c : Nat) (gs : List GrpM) (f id ad off : Nat) (Lc : List Chunk) (pred : Bs → Bool) (hl : gs.length ≤ 9223372036854775807)
    (hf : ∀ g ∈ gs, FnS Tryz.prog f [.agg g.cells, .c (.p id ad off)] Lc [] (fun v L D => v = .c (.b (pred g.name)) ∧ L = Lc ∧ D = [])) :
    FnS Tryz.prog 26 [.c (.sl a gs.length c), .c (.fn f [(id, ad, off)])] Lc [slFact e 2 a gs.length (gsC gs)]
      (fun v L D => v = .c (.b (gs.any fun g => pred g.name)) ∧ L = Lc ∧ D = []) := by
  have c1 := indexFunc_ok e a c gs f id ad off Lc pred hl hf
  refine fn_of_J Tryz.tyOK 5000 Tryz.func26 (by kernel_rfl) (c := Tryz.f26.body.getD .skip) (by kernel_rfl) Tryz.ntmps26 (rs := Tryz.f26.results.toList) rfl (by simp) (fun G => ?_)
  repeat' first
    | refine J_seq ?_ | refine J_region Tryz.tyOK ?_ | refine J_block ?_ | refine J_cond ?_ | refine J_ret ?_ | refine J_skip ?_ | refine J_exit ?_ | refine J_scope ?_
    | refine CondP.yes (by omega) ?_ | refine CondP.no (by omega) ?_ | refine CondP.mk (fun h => ?_) (fun h => ?_) | refine EqP.mk rfl ?_ | refine NewP.mk (fun ad => ?_) | refine ArP.exact (by simp only [inR]; omega) ?_ | refine SideP.mk (by first | omega | (dsimp only; omega) | (simp; omega)) ?_
    | refine CallP.mk Lc [] _ _ c1 (by simp) (fun _ h => h) (fun v L' D' hp => ?_); obtain ⟨k, rfl, hk, rfl, rfl⟩ := hp | refine FinE.mk _ [] ⟨?_, rfl, rfl⟩ ((Ents.of (by simp)).trans (Ents.facts fun _ _ => trivial))
    | fail
  all_goals (rw [← hk]; first | rw [decide_eq_true (by assumption)] | rw [decide_eq_false (by assumption)])

theorem existsFn_ok (g : GrpM) (id ad : Nat) (s : Bs) : FnS Tryz.prog 46 [.agg g.cells, .c (.p 1 ad 0)] [.box 1 ad 9 [.s s]] [] (fun v L D => v = .c (.b (decide (g.name = s))) ∧ L = [.box 1 ad 9 [.s s]] ∧ D = []) := by
  refine fn_of_J Tryz.tyOK 7000 Tryz.func46 (by kernel_rfl) (c := Tryz.f46.body.getD .skip) (by kernel_rfl) Tryz.ntmps46 (rs := Tryz.f46.results.toList) rfl (by simp) (fun G => ?_)
  repeat' first
    | refine J_seq ?_ | refine J_region Tryz.tyOK ?_ | refine J_block ?_ | refine J_cond ?_ | refine J_ret ?_ | refine J_skip ?_ | refine J_exit ?_ | refine J_scope ?_
    | refine CondP.yes (by omega) ?_ | refine CondP.no (by omega) ?_ | refine CondP.mk (fun h => ?_) (fun h => ?_) | refine EqP.mk rfl ?_ | refine NewP.mk (fun ad => ?_) | refine ArP.exact (by simp only [inR]; omega) ?_ | refine SideP.mk (by first | omega | (dsimp only; omega) | (simp; omega)) ?_
    | refine FinE.mk [_] [] ⟨?_, rfl, rfl⟩ Ents.drop
    | fail
  · rw [decide_eq_true (by assumption)]
  · rw [decide_eq_false (by assumption)]

theorem aheadFn_ok (g x : GrpM) (ad : Nat) : FnS Tryz.prog 27 [.agg g.cells, .c (.p 1 ad 0)] [.box 1 ad 35 x.cells] [] (fun v L D => v = .c (.b (decide (g.name = x.name))) ∧ L = [.box 1 ad 35 x.cells] ∧ D = []) := by
  refine fn_of_J Tryz.tyOK 7000 Tryz.func27 (by kernel_rfl) (c := Tryz.f27.body.getD .skip) (by kernel_rfl) Tryz.ntmps27 (rs := Tryz.f27.results.toList) rfl (by simp) (fun G => ?_)
  repeat' first
    | refine J_seq ?_ | refine J_region Tryz.tyOK ?_ | refine J_block ?_ | refine J_cond ?_ | refine J_ret ?_ | refine J_skip ?_ | refine J_exit ?_ | refine J_scope ?_
    | refine CondP.yes (by omega) ?_ | refine CondP.no (by omega) ?_ | refine CondP.mk (fun h => ?_) (fun h => ?_) | refine EqP.mk rfl ?_ | refine NewP.mk (fun ad => ?_) | refine ArP.exact (by simp only [inR]; omega) ?_ | refine SideP.mk (by first | omega | (dsimp only; omega) | (simp; omega)) ?_
    | refine FinE.mk [_] [] ⟨?_, rfl, rfl⟩ Ents.drop
    | fail
  · rw [decide_eq_true (by assumption)]
  · rw [decide_eq_false (by assumption)]

/-- A policy as it lies in memory. -/
structure PolM where
  ga : Option Addr
  gc : Nat
  gs : List GrpM
  ra : Option Addr
  rc : Nat
  rs : List Rul
  xa : Option Addr
  xc : Nat
  xs : List Grd
def PolM.cells (p : PolM) : List C := [.sl p.ga p.gs.length p.gc, .sl p.ra p.rs.length p.rc, .sl p.xa p.xs.length p.xc]
/-- What is known of its memory. -/
def PolM.facts (p : PolM) : List Fact := [slFact 0 2 p.ga p.gs.length (gsC p.gs), memsF p.gs, slFact 0 6 p.ra p.rs.length (rsC p.rs), slFact 0 5 p.xa p.xs.length (xsC p.xs)]
def names (gs : List GrpM) : List Bs := gs.map (·.name)
theorem names_any (gs : List GrpM) (s : Bs) : (gs.any fun g => decide (g.name = s)) = (names gs).any fun x => decide (x = s) := by
  simp [names, List.any_map, Function.comp_def]

theorem polExists_ok (p : PolM) (s : Bs) (hl : p.gs.length ≤ 9223372036854775807) : FnS Tryz.prog 29 [.agg p.cells, .c (.s s)] [] p.facts (Is (.c (.b (existsT (names p.gs) s)))) := by
  have c2 := fun ad => containsFunc_ok 0 p.ga p.gc p.gs 46 1 ad 0 [.box 1 ad 9 [.s s]] (fun n => decide (n = s)) hl (fun g _ => existsFn_ok g 1 ad s)
  refine fn_of_J Tryz.tyOK 0 Tryz.func29 (by kernel_rfl) (c := Tryz.f29.body.getD .skip) (by kernel_rfl) Tryz.ntmps29 (rs := Tryz.f29.results.toList) rfl (by simp) (fun G => ?_)
  repeat' first
    | refine J_seq ?_ | refine J_region Tryz.tyOK ?_ | refine J_block ?_ | refine J_cond ?_ | refine J_ret ?_ | refine J_skip ?_ | refine J_exit ?_ | refine J_scope ?_
    | refine CondP.yes (by omega) ?_ | refine CondP.no (by omega) ?_ | refine CondP.mk (fun h => ?_) (fun h => ?_) | refine EqP.mk rfl ?_ | refine NewP.mk (fun ad => ?_) | refine ArP.exact (by simp only [inR]; omega) ?_ | refine SideP.mk (by first | omega | (dsimp only; omega) | (simp; omega)) ?_
    | refine CallP.isB (polBuiltIn_ok s) (fun hb => ?_) (fun hb => ?_) | refine CallP.mk [_] [_] [slFact 0 2 p.ga p.gs.length (gsC p.gs)] _ (c2 _) (List.Perm.refl _) (fun _ h => ⟨h.1, trivial⟩) (fun v L' D' hp => ?_); obtain ⟨rfl, rfl, rfl⟩ := hp | refine FinE.bool ?_
    | fail
  all_goals (unfold existsT; rw [hb]; first | rw [Bool.true_or] | (rw [names_any, Bool.false_or]))

end Go.Proofs
