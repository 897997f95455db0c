/- This text walks through the reading of lines in the reference of chapter 12: blanks, words, scopes, guards, lines of a text. -/
import Derived.Test.YtabmiagnfihleaaGreatDoorPolS
import Derived.Test.YtabmiagnfihleaaGreatDoorPolA
import Derived.Test.YtabmiagnfihleaaGreatDoorRef1f
set_option linter.all false

namespace Go.X

theorem blank_T {c : UInt8} (h : (c.toNat : Int) = 9 ∨ (c.toNat : Int) = 32) : blankB c = true := by
  have : c = 9 ∨ c = 32 := by
    rcases h with h | h
    · left; apply UInt8.toNat_inj.1; have : (9 : UInt8).toNat = 9 := rfl; omega
    · right; apply UInt8.toNat_inj.1; have : (32 : UInt8).toNat = 32 := rfl; omega
  rcases this with rfl | rfl <;> decide
theorem blank_F {c : UInt8} (h : ¬ (c.toNat : Int) = 9) (h2 : ¬ (c.toNat : Int) = 32) : blankB c = false := by
  cases hb : blankB c with
  | false => rfl
  | true =>
    unfold blankB at hb
    simp only [Bool.or_eq_true, beq_iff_eq] at hb
    rcases hb with rfl | rfl
    · exact absurd rfl h2
    · exact absurd rfl h

theorem last_split {x : Bs} (h : 0 < x.length) : x = x.take (x.length - 1) ++ [x.getD (x.length - 1) 0] := by
  conv => lhs; rw [← List.take_append_drop (x.length - 1) x]
  congr 1
  rw [List.drop_eq_getElem_cons (by omega), show x.length - 1 + 1 = x.length by omega, List.drop_length]
  simp [show x.length - 1 < x.length by omega]
theorem dropE_snoc (r : Bs) (b : UInt8) : dropE (r ++ [b]) = if blankB b = true then dropE r else r ++ [b] := by
  unfold dropE
  rw [List.reverse_append, List.reverse_singleton, List.singleton_append, List.dropWhile_cons]
  split
  · rfl
  · simp
theorem dropE_yes {x : Bs} (h : 0 < x.length) (hb : blankB (x.getD (x.length - 1) 0) = true) : dropE x = dropE (x.take (x.length - 1)) := by
  conv => lhs; rw [last_split h, dropE_snoc, if_pos hb]
theorem dropE_no {x : Bs} (h : 0 < x.length) (hb : blankB (x.getD (x.length - 1) 0) = false) : dropE x = x := by
  conv => lhs; rw [last_split h, dropE_snoc, if_neg (by rw [hb]; simp), ← last_split h]
theorem head_split {x : Bs} (h : 0 < x.length) : x = x.getD 0 0 :: x.drop 1 := by cases x with
  | nil => simp at h
  | cons a r => rfl
theorem dropW_yes {p : UInt8 → Bool} {x : Bs} (h : 0 < x.length) (hb : p (x.getD 0 0) = true) : x.dropWhile p = (x.drop 1).dropWhile p := by
  conv => lhs; rw [head_split h, List.dropWhile_cons, if_pos hb]
theorem dropW_no {p : UInt8 → Bool} {x : Bs} (h : 0 < x.length) (hb : p (x.getD 0 0) = false) : x.dropWhile p = x := by
  conv => lhs; rw [head_split h, List.dropWhile_cons, if_neg (by rw [hb]; simp), ← head_split h]
theorem nb_T {c : UInt8} (h : ¬ (c.toNat : Int) = 9) (h2 : ¬ (c.toNat : Int) = 32) : nb c = true := by unfold nb; rw [blank_F h h2]; rfl
theorem nb_F {c : UInt8} (h : (c.toNat : Int) = 9 ∨ (c.toNat : Int) = 32) : nb c = false := by unfold nb; rw [blank_T h]; rfl

theorem dropW_le (p : UInt8 → Bool) (s : Bs) : (s.dropWhile p).length ≤ s.length := (List.dropWhile_sublist _).length_le

theorem words_sep {cur r : Bs} {b : UInt8} (h : blankB b = true) : wordsGo blankB cur (b :: r) = if cur = [] then wordsGo blankB [] r else cur :: wordsGo blankB [] r := by rw [wordsGo, h]
theorem words_in {cur r : Bs} {b : UInt8} (h : blankB b = false) : wordsGo blankB cur (b :: r) = wordsGo blankB (cur ++ [b]) r := by rw [wordsGo, h]

def spWord (n : Int) : Bs := if n = 0 then [60, 77, 97, 105, 110, 62] else [60] ++ spName n.toNat ++ [62]
theorem spWord_get : ∀ i, i < 6 → spWord (i : Nat) = spacesL.getD i [] := by decide

def scopeV (s : Bs) : (Int × Int × Bs) × Bool :=
  if s = wAll then ((1, 0, []), true) else if 0 ≤ idxS spacesL s then ((2, idxS spacesL s, []), true) else ((3, (parseT s).1, (parseT s).2.1), decide ((parseT s).2.2 = 0))
theorem scopeT_V (s : Bs) : scopeT s = if (scopeV s).2 = true then some (scopeV s).1 else none := by
  unfold scopeT scopeV
  split
  · rfl
  · split
    · rfl
    · simp
def grdV (s : Bs) : (Int × Bs) × Bs × Bool :=
  let c := cutAt 124 s
  if c.2.2 = true then (if trimT c.2.1 = [] then ((0, []), [], false) else (((parseT (trimT c.1)).1, (parseT (trimT c.1)).2.1), trimT c.2.1, decide ((parseT (trimT c.1)).2.2 = 0)))
  else (((parseT (trimT s)).1, (parseT (trimT s)).2.1), [], decide ((parseT (trimT s)).2.2 = 0))

theorem cutAt_no (c : UInt8) : ∀ s : Bs, (cutAt c s).2.2 = false → (cutAt c s).1 = s ∧ (cutAt c s).2.1 = []
  | [], _ => ⟨rfl, rfl⟩
  | x :: r, h => by
    have ih := cutAt_no c r
    simp only [cutAt] at h ⊢
    split at h
    · cases h
    · rename_i hx
      rw [if_neg hx]
      have := ih h
      exact ⟨by simp [this.1], this.2⟩

theorem guardW_V {q : P3} {st : Bool} {w : List Bs} {x : Bs} (hw : ¬ w.length < 2) : guardW q st w x = if (grdV x).2.2 = true then (true, (q.1, q.2.1, q.2.2 ++ [⟨st, w.getD 0 [], (grdV x).1.1, (grdV x).1.2, (grdV x).2.1⟩])) else (false, q) := by
  unfold guardW grdV
  rw [if_neg hw]
  simp only
  cases h : (cutAt 124 x).2.2 with
  | true =>
    simp only [if_true, true_and]
    by_cases ht : trimT (cutAt 124 x).2.1 = []
    · simp [ht]
    · by_cases hp : (parseT (trimT (cutAt 124 x).1)).2.2 = 0
      · simp [ht, hp]
      · simp [ht, hp]
  | false =>
    obtain ⟨h1, h2⟩ := cutAt_no 124 x h
    rw [h1, h2]
    by_cases hp : (parseT (trimT x)).2.2 = 0
    · simp [hp, trimT_nil]
    · simp [hp]
end Go.X

namespace Go.Proofs
open Go Go.X
set_option maxRecDepth 100000
set_option maxHeartbeats 4000000

theorem trimEnd_ok (s : Bs) (hs : s.length ≤ 9223372036854775807) : FnS Tryz.prog 59 [.c (.s s)] [] [] (Is (.c (.s (dropE s)))) := by
  refine fn_of_J Tryz.tyOK 0 Tryz.func59 (by kernel_rfl) (c := Tryz.f59.body.getD .skip) (by kernel_rfl) Tryz.ntmps59 (rs := Tryz.f59.results.toList) rfl (by simp) (fun G => ?_)
  repeat' first
    | refine J_seq ?_ | refine J_region Tryz.tyOK ?_ | refine J_block ?_ | refine J_cond ?_ | refine J_ret ?_ | refine J_skip ?_ | refine J_exit ?_ | refine J_scope ?_
    | refine CondP.yes (by omega) ?_ | refine CondP.no (by omega) ?_ | refine CondP.mk (fun h => ?_) (fun h => ?_) | refine EqP.mk rfl ?_ | refine NewP.mk (fun ad => ?_) | refine ArP.exact (by simp only [inR]; omega) ?_ | refine SideP.mk (by first | omega | (dsimp only; omega) | (simp; omega)) ?_
    | fail
  refine J_loop (α := Bs) (fun x => [(0, .c (.s x))]) (fun _ => []) (fun _ => []) 0 (fun x => x.length ≤ s.length ∧ dropE s = dropE x) (fun x => x.length) (InFam.mk s ⟨Nat.le_refl _, rfl⟩ (by repeat' first | exact SubE.nil | refine SubE.cons rfl ?_ ?_ | exact VEq.refl _ | refine VEq.int (by omega) | refine VEq.sl rfl (by first | rfl | omega | (rw [List.length_append]; rfl) | (simp; omega)) rfl) (Ents.refl _ _)) (fun x hx => ?_)
  obtain ⟨hl, he⟩ := hx
  have hk : ((x.length : Int) - 1).toNat = x.length - 1 := by omega
  repeat' first
    | refine J_seq ?_ | refine J_region Tryz.tyOK ?_ | refine J_block ?_ | refine J_cond ?_ | refine J_ret ?_ | refine J_skip ?_ | refine J_exit ?_ | refine J_scope ?_
    | refine CondP.yes (by omega) ?_ | refine CondP.no (by omega) ?_ | refine CondP.mk (fun h => ?_) (fun h => ?_) | refine EqP.mk rfl ?_ | refine NewP.mk (fun ad => ?_) | refine ArP.exact (by simp only [inR]; omega) ?_ | refine SideP.mk (by first | omega | (dsimp only; omega) | (simp; omega)) ?_
    | refine Round.mk (x.take ((x.length : Int) - 1).toNat) (by rw [List.length_take]; omega) ⟨by rw [List.length_take]; omega, ?_⟩ (by repeat' first | exact SubE.nil | refine SubE.cons rfl ?_ ?_ | exact VEq.refl _ | refine VEq.int (by omega) | refine VEq.sl rfl (by first | rfl | omega | (rw [List.length_append]; rfl) | (simp; omega)) rfl) (Ents.refl _ _) | refine FinE.str ?_
    | fail
  all_goals
    (try simp only [hk] at *)
    first
      | (rw [he]; exact dropE_yes (by omega) (blank_T (by omega)))
      | (rw [he]; exact dropE_no (by omega) (blank_F (by omega) (by omega)))
      | (rw [he, show x = [] from List.eq_nil_of_length_eq_zero (by omega)]; rfl)

theorem refTrim_ok (s : Bs) (hs : s.length ≤ 9223372036854775807) : FnS Tryz.prog 38 [.c (.s s)] [] [] (Is (.c (.s (trimT s)))) := by
  refine fn_of_J Tryz.tyOK 0 Tryz.func38 (by kernel_rfl) (c := Tryz.f38.body.getD .skip) (by kernel_rfl) Tryz.ntmps38 (rs := Tryz.f38.results.toList) rfl (by simp) (fun G => ?_)
  repeat' first
    | refine J_seq ?_ | refine J_region Tryz.tyOK ?_ | refine J_block ?_ | refine J_cond ?_ | refine J_ret ?_ | refine J_skip ?_ | refine J_exit ?_ | refine J_scope ?_
    | refine CondP.yes (by omega) ?_ | refine CondP.no (by omega) ?_ | refine CondP.mk (fun h => ?_) (fun h => ?_) | refine EqP.mk rfl ?_ | refine NewP.mk (fun ad => ?_) | refine ArP.exact (by simp only [inR]; omega) ?_ | refine SideP.mk (by first | omega | (dsimp only; omega) | (simp; omega)) ?_
    | fail
  refine J_loop (α := Bs) (fun x => [(0, .c (.s x))]) (fun _ => []) (fun _ => []) 0 (fun x => x.length ≤ s.length ∧ dropL s = dropL x) (fun x => x.length) (InFam.mk s ⟨Nat.le_refl _, rfl⟩ (by repeat' first | exact SubE.nil | refine SubE.cons rfl ?_ ?_ | exact VEq.refl _ | refine VEq.int (by omega) | refine VEq.sl rfl (by first | rfl | omega | (rw [List.length_append]; rfl) | (simp; omega)) rfl) (Ents.refl _ _)) (fun x hx => ?_)
  obtain ⟨hl, he⟩ := hx
  have c1 := trimEnd_ok x (by omega)
  repeat' first
    | refine J_seq ?_ | refine J_region Tryz.tyOK ?_ | refine J_block ?_ | refine J_cond ?_ | refine J_ret ?_ | refine J_skip ?_ | refine J_exit ?_ | refine J_scope ?_
    | refine CondP.yes (by omega) ?_ | refine CondP.no (by omega) ?_ | refine CondP.mk (fun h => ?_) (fun h => ?_) | refine EqP.mk rfl ?_ | refine NewP.mk (fun ad => ?_) | refine ArP.exact (by simp only [inR]; omega) ?_ | refine SideP.mk (by first | omega | (dsimp only; omega) | (simp; omega)) ?_
    | refine CallP.is c1 ?_ | refine Round.mk (x.drop 1) (by rw [List.length_drop]; omega) ⟨by rw [List.length_drop]; omega, ?_⟩ (by repeat' first | exact SubE.nil | refine SubE.cons rfl ?_ ?_ | exact VEq.refl _ | refine VEq.int (by omega) | refine VEq.sl rfl (by first | rfl | omega | (rw [List.length_append]; rfl) | (simp; omega)) rfl) (Ents.refl _ _) | refine FinE.str ?_
    | fail
  all_goals
    (try simp only [Int.toNat_zero] at *)
    first
      | (rw [he]; exact dropW_yes (by omega) (blank_T (by omega)))
      | (rw [trimT_eq, dropLE, he, show dropL x = x from dropW_no (by omega) (blank_F (by omega) (by omega))])
      | (rw [trimT_eq, dropLE, he, show x = [] from List.eq_nil_of_length_eq_zero (by omega)]; rfl)

end Go.Proofs
