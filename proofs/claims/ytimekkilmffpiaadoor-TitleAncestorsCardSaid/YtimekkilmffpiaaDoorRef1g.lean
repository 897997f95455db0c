/- This text walks through the functions Compare, Skip, Resolve and SameTitles of the reference of chapter 1. -/
import Derived.Test.YtimekkilmffpiaaDoorRef1f
import Derived.Test.YtimekkilmffpiaaDoorOrd
set_option linter.all false

namespace Go.Proofs
open Go Go.X
set_option maxRecDepth 100000

theorem refCompare_ok (a : Int) (x : List UInt8) (b : Int) (y : List UInt8) : FnS Tryd.prog 27 [.agg [.i .i64 a, .s x], .agg [.i .i64 b, .s y]] [] [] (Is (.c (.i .i64 (compareT a x b y)))) := by
  have hl := less_cmp x y
  have he := cmpB_eq x y
  have hr := cmpB_range x y
  have hi := cmpI a b
  obtain ⟨k, hk⟩ : ∃ k, compareT a x b y = k := ⟨_, rfl⟩
  have hk' := hk
  unfold compareT at hk
  rw [hk']
  refine fn_of_J Tryd.tyOK 0 Tryd.func27 (by kernel_rfl) (c := Tryd.f27.body.getD .skip) (by kernel_rfl) Tryd.ntmps27 (rs := Tryd.f27.results.toList) rfl (by simp) (fun G => ?_)
  repeat' first
    | refine J_seq ?_ | refine J_region Tryd.tyOK ?_ | refine J_block ?_ | refine J_cond ?_ | refine J_ret ?_ | refine J_skip ?_ | refine J_exit ?_
    | refine CondP.yes (by omega) ?_ | refine CondP.no (by omega) ?_ | refine CondP.mk (fun h => ?_) (fun h => ?_) | refine EqP.mk rfl ?_ | refine NewP.mk (fun ad => ?_) | refine ArP.exact (by simp only [inR]; omega) ?_ | refine SideP.mk (by first | omega | (dsimp only; omega) | (simp; omega)) ?_
    | refine FinE.int ?_
    | fail
  all_goals
    rcases hi with ⟨h0, h1⟩ | ⟨h0, h1⟩ | ⟨h0, h1⟩
    all_goals
      rw [h1] at hk
      simp at hk
      first | omega | (simp_all; done) | (simp_all; omega)

/-- How many bytes ahead are blanks or underscores. -/
def skipN (s : List UInt8) : Nat := (s.takeWhile fun b => b == 32 || b == 95).length

theorem skipN_le (s : List UInt8) : skipN s ≤ s.length := (List.takeWhile_sublist _).length_le
theorem skip_drop (s : List UInt8) : Lib.trimLeftS s [32, 95] = s.drop (skipN s) := by
  unfold Lib.trimLeftS skipN
  induction s with
  | nil => rfl
  | cons x r ih =>
    simp only [List.dropWhile_cons, List.takeWhile_cons]
    have e : [32, 95].contains x = (x == 32 || x == 95) := by simp only [List.contains, List.elem]; cases (x == 32) <;> cases (x == 95) <;> rfl
    cases hx : (x == 32 || x == 95) with
    | true => rw [e, hx]; simpa using ih
    | false => rw [e, hx]; rfl

theorem skip_yes {s : List UInt8} {i : Nat} (hi : i < s.length) (h : s.getD i 0 = 32 ∨ s.getD i 0 = 95) : i + skipN (s.drop i) = i + 1 + skipN (s.drop (i + 1)) := by
  have hd : s.drop i = s.getD i 0 :: s.drop (i + 1) := by rw [List.drop_eq_getElem_cons hi]; simp [hi]
  rw [hd]
  unfold skipN
  rw [List.takeWhile_cons, if_pos (by simpa using h)]
  simp; omega
theorem skip_no {s : List UInt8} {i : Nat} (h : i < s.length → s.getD i 0 ≠ 32 ∧ s.getD i 0 ≠ 95) : skipN (s.drop i) = 0 := by
  by_cases hi : i < s.length
  · have hd : s.drop i = s.getD i 0 :: s.drop (i + 1) := by rw [List.drop_eq_getElem_cons hi]; simp [hi]
    have := h hi
    rw [hd]
    unfold skipN
    rw [List.takeWhile_cons, if_neg (by simpa using this)]
    rfl
  · rw [List.drop_of_length_le (by omega)]; rfl

theorem refSkip_ok (s : List UInt8) (hs : s.length ≤ 1000000) : FnS Tryd.prog 44 [.c (.s s), .c (.b false)] [] [] (Is (.c (.i .i64 (skipN s)))) := by
  refine fn_of_J Tryd.tyOK 0 Tryd.func44 (by kernel_rfl) (c := Tryd.f44.body.getD .skip) (by kernel_rfl) Tryd.ntmps44 (rs := Tryd.f44.results.toList) rfl (by simp) (fun G => ?_)
  refine J_seq ?_
  repeat' first
    | refine J_stop (c := .seq (.block _ _) _) ?_
    | refine J_seq ?_ | refine J_region Tryd.tyOK ?_ | refine J_block ?_ | refine J_cond ?_ | refine J_ret ?_ | refine J_skip ?_ | refine J_exit ?_
    | refine CondP.yes (by omega) ?_ | refine CondP.no (by omega) ?_ | refine CondP.mk (fun h => ?_) (fun h => ?_) | refine EqP.mk rfl ?_ | refine NewP.mk (fun ad => ?_) | refine ArP.exact (by simp only [inR]; omega) ?_ | refine SideP.mk (by first | omega | (dsimp only; omega) | (simp; omega)) ?_
    | fail
    | fail
  refine ⟨?_⟩
  refine J_seq ?_
  refine J_block ?_
  refine J_loop (α := Nat) (fun i => [(0, .c (.s s)), (1, .c (.b false)), (5, .c (.i .i64 i))]) (fun _ => []) (fun _ => []) 0 (fun i => i ≤ s.length ∧ skipN s = i + skipN (s.drop i)) (fun i => s.length - i)
    (InFam.mk 0 ⟨by omega, by simp⟩ (by repeat' first | exact SubE.nil | refine SubE.cons rfl ?_ ?_ | exact VEq.refl _ | refine VEq.int (by omega) | refine VEq.sl rfl (by first | rfl | omega | (rw [List.length_append]; rfl) | (simp; omega)) rfl) (Ents.refl _ _)) (fun i hi => ?_)
  obtain ⟨hi, hal⟩ := hi
  repeat' first
    | refine J_seq ?_ | refine J_region Tryd.tyOK ?_ | refine J_block ?_ | refine J_cond ?_ | refine J_ret ?_ | refine J_skip ?_ | refine J_exit ?_
    | refine CondP.yes (by omega) ?_ | refine CondP.no (by omega) ?_ | refine CondP.mk (fun h => ?_) (fun h => ?_) | refine EqP.mk rfl ?_ | refine NewP.mk (fun ad => ?_) | refine ArP.exact (by simp only [inR]; omega) ?_ | refine SideP.mk (by first | omega | (dsimp only; omega) | (simp; omega)) ?_
    | refine Round.mk (i + 1) (by omega) ⟨by omega, ?_⟩ (by repeat' first | exact SubE.nil | refine SubE.cons rfl ?_ ?_ | exact VEq.refl _ | refine VEq.int (by omega) | refine VEq.sl rfl (by first | rfl | omega | (rw [List.length_append]; rfl) | (simp; omega)) rfl) (Ents.refl _ _) | refine FinE.int ?_
    | fail
  all_goals try simp only [Int.toNat_natCast] at *
  · rw [hal]; exact skip_yes (by omega) (.inl ((byte_iff (n := 32) (by decide)).1 (by assumption)))
  · rw [hal]; exact skip_yes (by omega) (.inr ((byte_iff (n := 95) (by decide)).1 (by assumption)))
  · rw [hal, skip_no fun _ => ⟨fun h => absurd ((byte_iff (n := 32) (by decide)).2 h) (by assumption), fun h => absurd ((byte_iff (n := 95) (by decide)).2 h) (by assumption)⟩]; omega
  · rw [hal, skip_no fun h => by omega]; omega

theorem refResolve_ok (sp : Int) (n s : List UInt8) (hn : n.length ≤ 1000) (hs : s.length ≤ 1000) : FnS Tryd.prog 20 [.agg [.i .i64 sp, .s n], .c (.s s)] [] [] (Is (parseV (resolveT sp n s))) := by
  have h1 := skipN_le s
  have h2 := formatT_le sp n
  have hd := skip_drop s
  have hp : ([47] : List UInt8).isPrefixOf (s.drop (skipN s)) = (decide ((skipN s : Int) < (s.length : Int)) && decide (((s.getD (skipN s : Int).toNat 0).toNat : Int) = 47)) := by
    by_cases hi : skipN s < s.length
    · have e : s.drop (skipN s) = s.getD (skipN s) 0 :: s.drop (skipN s + 1) := by rw [List.drop_eq_getElem_cons hi]; simp [hi]
      have h3 : (skipN s : Int) < (s.length : Int) := by omega
      have hb : (((s.getD (skipN s) 0).toNat : Int) = 47) ↔ s.getD (skipN s) 0 = 47 := byte_iff (n := 47) (by decide)
      rw [e, decide_eq_true h3, Bool.true_and, Int.toNat_natCast, Bool.eq_iff_iff, decide_eq_true_eq, hb]
      simp only [List.isPrefixOf, Bool.and_true, beq_iff_eq]
      exact eq_comm
    · have h3 : ¬ (skipN s : Int) < (s.length : Int) := by omega
      rw [List.drop_of_length_le (by omega), decide_eq_false h3]; rfl
  have c0 := refSkip_ok s (by omega)
  have c1 := refParse_ok (formatT sp n ++ s.drop (skipN s)) (by simp; omega)
  have c2 := refParse_ok s (by omega)
  have c3 := refFormat_ok sp n (by omega)
  have hr : resolveT sp n s = if ([47] : List UInt8).isPrefixOf (s.drop (skipN s)) = true then parseT (formatT sp n ++ s.drop (skipN s)) else parseT s := by unfold resolveT; rw [hd]
  rw [hr, hp]
  clear hr hp hd
  generalize skipN s = k at *
  generalize formatT sp n = q at *
  generalize parseT (q ++ s.drop k) = r1 at *
  generalize parseT s = r2 at *
  obtain ⟨a1, b1, e1⟩ := r1
  obtain ⟨a2, b2, e2⟩ := r2
  refine fn_of_J Tryd.tyOK 0 Tryd.func20 (by kernel_rfl) (c := Tryd.f20.body.getD .skip) (by kernel_rfl) Tryd.ntmps20 (rs := Tryd.f20.results.toList) rfl (by simp) (fun G => ?_)
  repeat' first
    | refine J_seq ?_ | refine J_region Tryd.tyOK ?_ | refine J_block ?_ | refine J_cond ?_ | refine J_ret ?_ | refine J_skip ?_ | refine J_exit ?_
    | refine CondP.yes (by omega) ?_ | refine CondP.no (by omega) ?_ | refine CondP.mk (fun h => ?_) (fun h => ?_) | refine EqP.mk rfl ?_ | refine NewP.mk (fun ad => ?_) | refine ArP.exact (by simp only [inR]; omega) ?_ | refine SideP.mk (by first | omega | (dsimp only; omega) | (simp; omega)) ?_
    | refine CallP.is c0 ?_ | refine CallP.is c2 ?_ | refine J_drawS (id := 3) Tryd.tyOK (by kernel_rfl) [0, 1, 0, 0, 12, 31, 63, 127, 127, 511, 1023] [0, 1, 2, 3, 4, 5, 6, 7, 8, 9, 10] [9] [2] true (by kernel_rfl) ?_ | refine EntP.mk (Ents.ofSub (by repeat (first | exact List.Sublist.slnil | refine List.Sublist.cons_cons _ ?_ | refine List.Sublist.cons _ ?_)) (by first | exact fun _ h => h | exact fun _ _ => trivial | exact fun _ h => h.2)) ?_ | refine CallQ.mk [] _ c3 (fun _ _ => trivial) ?_ | refine CallQ.mk [] _ c1 (fun _ _ => trivial) ?_ | refine SideP.mk (by simp; omega) ?_ | refine FinE.is ?_
    | fail
  all_goals ((try simp only [Int.toNat_natCast, Int.toNat_zero] at *); simp only [*, decide_true, decide_false, Bool.true_and, Bool.false_and, Bool.and_true, Bool.and_false, Bool.not_true, Bool.not_false, Bool.true_or, Bool.false_or, Bool.or_true, Bool.or_false, not_true, not_false_eq_true, ne_eq, if_true, if_false, Bool.false_eq_true]; try rfl)

/-- The cells of titles. -/
def tC (l : List (Int × List UInt8)) : List C := l.flatMap fun t => [.i .i64 t.1, .s t.2]
theorem tC_len (l : List (Int × List UInt8)) : (tC l).length = l.length * 2 := by
  induction l with
  | nil => rfl
  | cons x r ih => simp only [tC, List.flatMap_cons, List.length_append, List.length_cons, List.length_nil] at ih ⊢; omega
theorem tC_get : ∀ {l : List (Int × List UInt8)} {i : Nat} (h : i < l.length), ((tC l).drop (i * 2 + 0)).take 2 = [.i .i64 l[i].1, .s l[i].2]
  | x :: r, 0, _ => rfl
  | x :: r, i + 1, h => by
    have ih := tC_get (l := r) (i := i) (by simpa using h)
    have e : (i + 1) * 2 + 0 = (i * 2 + 0) + 1 + 1 := by omega
    rw [e]
    exact ih
theorem titlesC_eq (sp : Int) (l : List (List UInt8)) : titlesC sp l = tC (l.map fun p => (sp, p)) := by
  simp only [titlesC, tC, List.flatMap_map]

theorem sameTitles_ok (e1 e2 : Nat) (a b : Option Addr) (n m c d : Nat) (la lb : List (Int × List UInt8)) (hn : n = la.length) (hm : m = lb.length) (hs : n ≤ 1000000) :
    FnS Tryd.prog 22 [.c (.sl a n c), .c (.sl b m d)] [] [slFact e1 2 a n (tC la), slFact e2 2 b m (tC lb)] (Is (.c (.b (decide (la = lb))))) := by
  subst hn; subst hm
  refine fn_of_J Tryd.tyOK 0 Tryd.func22 (by kernel_rfl) (c := Tryd.f22.body.getD .skip) (by kernel_rfl) Tryd.ntmps22 (rs := Tryd.f22.results.toList) rfl (by simp) (fun G => ?_)
  repeat' first
    | refine J_stop (c := .seq (.seq (.region 3 _ _) _) _) ?_
    | refine J_seq ?_ | refine J_region Tryd.tyOK ?_ | refine J_block ?_ | refine J_cond ?_ | refine J_ret ?_ | refine J_skip ?_ | refine J_exit ?_
    | refine CondP.yes (by omega) ?_ | refine CondP.no (by omega) ?_ | refine CondP.mk (fun h => ?_) (fun h => ?_) | refine EqP.mk rfl ?_ | refine NewP.mk (fun ad => ?_) | refine ArP.exact (by simp only [inR]; omega) ?_ | refine SideP.mk (by first | omega | (dsimp only; omega) | (simp; omega)) ?_
    | refine FinE.bool ?_
    | fail
  rotate_left
  · refine decide_eq_false fun h => ?_
    subst h; omega
  refine ⟨?_⟩
  refine J_seq ?_
  repeat' first
    | refine J_seq ?_ | refine J_region Tryd.tyOK ?_ | refine J_block ?_ | refine J_cond ?_ | refine J_ret ?_ | refine J_skip ?_ | refine J_exit ?_
    | refine CondP.yes (by omega) ?_ | refine CondP.no (by omega) ?_ | refine CondP.mk (fun h => ?_) (fun h => ?_) | refine EqP.mk rfl ?_ | refine NewP.mk (fun ad => ?_) | refine ArP.exact (by simp only [inR]; omega) ?_ | refine SideP.mk (by first | omega | (dsimp only; omega) | (simp; omega)) ?_
    | fail
    | fail
  have hab : (la.length : Int) = lb.length := by assumption
  refine J_loop (α := Nat) (fun i => [(0, .c (.sl a la.length c)), (1, .c (.sl b lb.length d)), (5, .c (.i .i64 i))]) (fun _ => []) (fun _ => [slFact e1 2 a la.length (tC la), slFact e2 2 b lb.length (tC lb)]) 0 (fun i => i ≤ la.length ∧ la.take i = lb.take i) (fun i => la.length - i)
    (InFam.mk 0 ⟨by omega, rfl⟩ (by repeat' first | exact SubE.nil | refine SubE.cons rfl ?_ ?_ | exact VEq.refl _ | refine VEq.int (by omega) | refine VEq.sl rfl (by first | rfl | omega | (rw [List.length_append]; rfl) | (simp; omega)) rfl) (Ents.refl _ _)) (fun i hi => ?_)
  obtain ⟨hi, hal⟩ := hi
  have ra : Reads [] [slFact e1 2 a la.length (tC la), slFact e2 2 b lb.length (tC lb)] e1 2 a la.length (tC la) := .inr fun m h => h.1
  have rb : Reads [] [slFact e1 2 a la.length (tC la), slFact e2 2 b lb.length (tC lb)] e2 2 b lb.length (tC lb) := .inr fun m h => h.2.1
  by_cases hlt : i < la.length
  · have hlt' : i < lb.length := by omega
    have h1 : la.take (i + 1) = la.take i ++ [la[i]] := List.take_succ_eq_append_getElem hlt
    have h2 : lb.take (i + 1) = lb.take i ++ [lb[i]] := List.take_succ_eq_append_getElem hlt'
    have ga := tC_get hlt
    have gb := tC_get hlt'
    have hpr : ∀ x y : Int × List UInt8, (x.1 = y.1 ∧ x.2 = y.2 ∧ True) ↔ x = y := fun x y => by rw [Prod.ext_iff]; simp
    generalize hx : la[i] = x at *
    generalize hy : lb[i] = y at *
    repeat' first
      | refine J_seq ?_ | refine J_region Tryd.tyOK ?_ | refine J_block ?_ | refine J_cond ?_ | refine J_ret ?_ | refine J_skip ?_ | refine J_exit ?_
      | refine CondP.yes (by omega) ?_ | refine CondP.no (by omega) ?_ | refine CondP.mk (fun h => ?_) (fun h => ?_) | refine EqP.mk rfl ?_ | refine NewP.mk (fun ad => ?_) | refine ArP.exact (by simp only [inR]; omega) ?_ | refine SideP.mk (by first | omega | (dsimp only; omega) | (simp; omega)) ?_
      | refine J_drawS (id := 6) Tryd.tyOK (by kernel_rfl) [0, 0, 3, 7, 0, 0, 48, 112, 255] [0, 1, 2, 3, 4, 5, 6, 7, 8] [] [19, 23] true (by kernel_rfl) ?_ | refine EntP.mk (Ents.ofSub (by repeat (first | exact List.Sublist.slnil | refine List.Sublist.cons_cons _ ?_ | refine List.Sublist.cons _ ?_)) (by first | exact fun _ h => h | exact fun _ _ => trivial | exact fun _ h => h.2)) ?_ | refine IdxE.mk e1 2 _ ra (by omega) (by omega) ?_ | refine LoadE.mk e1 _ _ _ ra (by omega) (by omega) (by omega) ga ?_ | refine IdxE.mk e2 2 _ rb (by omega) (by omega) ?_ | refine LoadE.mk e2 _ _ _ rb (by omega) (by omega) (by omega) gb ?_ | refine Round.mk (i + 1) (by omega) ⟨by omega, ?_⟩ (by repeat' first | exact SubE.nil | refine SubE.cons rfl ?_ ?_ | exact VEq.refl _ | refine VEq.int (by omega) | refine VEq.sl rfl (by first | rfl | omega | (rw [List.length_append]; rfl) | (simp; omega)) rfl) (Ents.refl _ _) | refine FinE.bool ?_
      | fail
    · rw [h1, h2, hal, (hpr x y).1 (by assumption)]
    · refine decide_eq_false fun hh => ?_
      subst hh
      have : x = y := by rw [← hx, ← hy]
      exact absurd ((hpr x y).2 this) (by assumption)
  · have hil : i = la.length := by omega
    subst hil
    repeat' first
      | refine J_seq ?_ | refine J_region Tryd.tyOK ?_ | refine J_block ?_ | refine J_cond ?_ | refine J_ret ?_ | refine J_skip ?_ | refine J_exit ?_
      | refine CondP.yes (by omega) ?_ | refine CondP.no (by omega) ?_ | refine CondP.mk (fun h => ?_) (fun h => ?_) | refine EqP.mk rfl ?_ | refine NewP.mk (fun ad => ?_) | refine ArP.exact (by simp only [inR]; omega) ?_ | refine SideP.mk (by first | omega | (dsimp only; omega) | (simp; omega)) ?_
      | refine FinE.bool ?_
      | fail
    refine decide_eq_true ?_
    rw [List.take_length, List.take_of_length_le (by omega)] at hal
    exact hal

end Go.Proofs
