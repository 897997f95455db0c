/- This text walks through the reading of lines in the reference of chapter 12: blanks, words, scopes, guards, lines of a text. -/
import Derived.Test.YtcgagjbkfgaacaaGreatDoorPolS
import Derived.Test.YtcgagjbkfgaacaaGreatDoorPolA
import Derived.Test.YtcgagjbkfgaacaaGreatDoorRef1f
set_option linter.all false

namespace Go.X

theorem blank_T {c : UInt8} (h : (c.toNat : Int) = 9 ∨ (c.toNat : Int) = 32) : blankB c = true := by
  have : c = 9 ∨ c = 32 := by
    rcases h with h | h
    · left; apply UInt8.toNat_inj.1; have : (9 : UInt8).toNat = 9 := rfl; omega
    · right; apply UInt8.toNat_inj.1; have : (32 : UInt8).toNat = 32 := rfl; omega
  rcases this with rfl | rfl <;> decide
theorem blank_F {c : UInt8} (h : ¬ (c.toNat : Int) = 9) (h2 : ¬ (c.toNat : Int) = 32) : blankB c = false := by
  cases hb : blankB c with
  | false => rfl
  | true =>
    unfold blankB at hb
    simp only [Bool.or_eq_true, beq_iff_eq] at hb
    rcases hb with rfl | rfl
    · exact absurd rfl h2
    · exact absurd rfl h

theorem last_split {x : Bs} (h : 0 < x.length) : x = x.take (x.length - 1) ++ [x.getD (x.length - 1) 0] := by
  conv => lhs; rw [← List.take_append_drop (x.length - 1) x]
  congr 1
  rw [List.drop_eq_getElem_cons (by omega), show x.length - 1 + 1 = x.length by omega, List.drop_length]
  simp [show x.length - 1 < x.length by omega]
theorem dropE_snoc (r : Bs) (b : UInt8) : dropE (r ++ [b]) = if blankB b = true then dropE r else r ++ [b] := by
  unfold dropE
  rw [List.reverse_append, List.reverse_singleton, List.singleton_append, List.dropWhile_cons]
  split
  · rfl
  · simp
theorem dropE_yes {x : Bs} (h : 0 < x.length) (hb : blankB (x.getD (x.length - 1) 0) = true) : dropE x = dropE (x.take (x.length - 1)) := by
  conv => lhs; rw [last_split h, dropE_snoc, if_pos hb]
theorem dropE_no {x : Bs} (h : 0 < x.length) (hb : blankB (x.getD (x.length - 1) 0) = false) : dropE x = x := by
  conv => lhs; rw [last_split h, dropE_snoc, if_neg (by rw [hb]; simp), ← last_split h]
theorem head_split {x : Bs} (h : 0 < x.length) : x = x.getD 0 0 :: x.drop 1 := by cases x with
  | nil => simp at h
  | cons a r => rfl
theorem dropW_yes {p : UInt8 → Bool} {x : Bs} (h : 0 < x.length) (hb : p (x.getD 0 0) = true) : x.dropWhile p = (x.drop 1).dropWhile p := by
  conv => lhs; rw [head_split h, List.dropWhile_cons, if_pos hb]
theorem dropW_no {p : UInt8 → Bool} {x : Bs} (h : 0 < x.length) (hb : p (x.getD 0 0) = false) : x.dropWhile p = x := by
  conv => lhs; rw [head_split h, List.dropWhile_cons, if_neg (by rw [hb]; simp), ← head_split h]
theorem nb_T {c : UInt8} (h : ¬ (c.toNat : Int) = 9) (h2 : ¬ (c.toNat : Int) = 32) : nb c = true := by unfold nb; rw [blank_F h h2]; rfl
theorem nb_F {c : UInt8} (h : (c.toNat : Int) = 9 ∨ (c.toNat : Int) = 32) : nb c = false := by unfold nb; rw [blank_T h]; rfl

theorem dropW_le (p : UInt8 → Bool) (s : Bs) : (s.dropWhile p).length ≤ s.length := (List.dropWhile_sublist _).length_le

theorem words_sep {cur r : Bs} {b : UInt8} (h : blankB b = true) : wordsGo blankB cur (b :: r) = if cur = [] then wordsGo blankB [] r else cur :: wordsGo blankB [] r := by rw [wordsGo, h]
theorem words_in {cur r : Bs} {b : UInt8} (h : blankB b = false) : wordsGo blankB cur (b :: r) = wordsGo blankB (cur ++ [b]) r := by rw [wordsGo, h]

def spWord (n : Int) : Bs := if n = 0 then [60, 77, 97, 105, 110, 62] else [60] ++ spName n.toNat ++ [62]
theorem spWord_get : ∀ i, i < 6 → spWord (i : Nat) = spacesL.getD i [] := by decide

def scopeV (s : Bs) : (Int × Int × Bs) × Bool :=
  if s = wAll then ((1, 0, []), true) else if 0 ≤ idxS spacesL s then ((2, idxS spacesL s, []), true) else ((3, (parseT s).1, (parseT s).2.1), decide ((parseT s).2.2 = 0))
theorem scopeT_V (s : Bs) : scopeT s = if (scopeV s).2 = true then some (scopeV s).1 else none := by
  unfold scopeT scopeV
  split
  · rfl
  · split
    · rfl
    · simp
def grdV (s : Bs) : (Int × Bs) × Bs × Bool :=
  let c := cutAt 124 s
  if c.2.2 = true then (if trimT c.2.1 = [] then ((0, []), [], false) else (((parseT (trimT c.1)).1, (parseT (trimT c.1)).2.1), trimT c.2.1, decide ((parseT (trimT c.1)).2.2 = 0)))
  else (((parseT (trimT s)).1, (parseT (trimT s)).2.1), [], decide ((parseT (trimT s)).2.2 = 0))

theorem cutAt_no (c : UInt8) : ∀ s : Bs, (cutAt c s).2.2 = false → (cutAt c s).1 = s ∧ (cutAt c s).2.1 = []
  | [], _ => ⟨rfl, rfl⟩
  | x :: r, h => by
    have ih := cutAt_no c r
    simp only [cutAt] at h ⊢
    split at h
    · cases h
    · rename_i hx
      rw [if_neg hx]
      have := ih h
      exact ⟨by simp [this.1], this.2⟩

theorem guardW_V {q : P3} {st : Bool} {w : List Bs} {x : Bs} (hw : ¬ w.length < 2) : guardW q st w x = if (grdV x).2.2 = true then (true, (q.1, q.2.1, q.2.2 ++ [⟨st, w.getD 0 [], (grdV x).1.1, (grdV x).1.2, (grdV x).2.1⟩])) else (false, q) := by
  unfold guardW grdV
  rw [if_neg hw]
  simp only
  cases h : (cutAt 124 x).2.2 with
  | true =>
    simp only [if_true, true_and]
    by_cases ht : trimT (cutAt 124 x).2.1 = []
    · simp [ht]
    · by_cases hp : (parseT (trimT (cutAt 124 x).1)).2.2 = 0
      · simp [ht, hp]
      · simp [ht, hp]
  | false =>
    obtain ⟨h1, h2⟩ := cutAt_no 124 x h
    rw [h1, h2]
    by_cases hp : (parseT (trimT x)).2.2 = 0
    · simp [hp, trimT_nil]
    · simp [hp]
end Go.X

namespace Go.Proofs
open Go Go.X
set_option maxRecDepth 100000
set_option maxHeartbeats 4000000

theorem trimEnd_ok (s : Bs) (hs : s.length ≤ 9223372036854775807) : FnS Tryz.prog 97 [.c (.s s)] [] [] (Is (.c (.s (dropE s)))) := by
  refine fn_of_J Tryz.tyOK 0 Tryz.func97 (by kernel_rfl) (c := Tryz.f97.body.getD .skip) (by kernel_rfl) Tryz.ntmps97 (rs := Tryz.f97.results.toList) rfl (by simp) (fun G => ?_)
  repeat' first
    | refine J_seq ?_ | refine J_region Tryz.tyOK ?_ | refine J_block ?_ | refine J_cond ?_ | refine J_ret ?_ | refine J_skip ?_ | refine J_exit ?_ | refine J_scope ?_
    | refine CondP.yes (by omega) ?_ | refine CondP.no (by omega) ?_ | refine CondP.mk (fun h => ?_) (fun h => ?_) | refine EqP.mk rfl ?_ | refine NewP.mk (fun ad => ?_) | refine ArP.exact (by simp only [inR]; omega) ?_ | refine SideP.mk (by first | omega | (dsimp only; omega) | (simp; omega)) ?_
    | fail
  refine J_loop (α := Bs) (fun x => [(0, .c (.s x))]) (fun _ => []) (fun _ => []) 0 (fun x => x.length ≤ s.length ∧ dropE s = dropE x) (fun x => x.length) (InFam.mk s ⟨Nat.le_refl _, rfl⟩ (by repeat' first | exact SubE.nil | refine SubE.cons rfl ?_ ?_ | exact VEq.refl _ | refine VEq.int (by omega) | refine VEq.sl rfl (by first | rfl | omega | (rw [List.length_append]; rfl) | (simp; omega)) rfl) (Ents.refl _ _)) (fun x hx => ?_)
  obtain ⟨hl, he⟩ := hx
  have hk : ((x.length : Int) - 1).toNat = x.length - 1 := by omega
  repeat' first
    | refine J_seq ?_ | refine J_region Tryz.tyOK ?_ | refine J_block ?_ | refine J_cond ?_ | refine J_ret ?_ | refine J_skip ?_ | refine J_exit ?_ | refine J_scope ?_
    | refine CondP.yes (by omega) ?_ | refine CondP.no (by omega) ?_ | refine CondP.mk (fun h => ?_) (fun h => ?_) | refine EqP.mk rfl ?_ | refine NewP.mk (fun ad => ?_) | refine ArP.exact (by simp only [inR]; omega) ?_ | refine SideP.mk (by first | omega | (dsimp only; omega) | (simp; omega)) ?_
    | refine Round.mk (x.take ((x.length : Int) - 1).toNat) (by rw [List.length_take]; omega) ⟨by rw [List.length_take]; omega, ?_⟩ (by repeat' first | exact SubE.nil | refine SubE.cons rfl ?_ ?_ | exact VEq.refl _ | refine VEq.int (by omega) | refine VEq.sl rfl (by first | rfl | omega | (rw [List.length_append]; rfl) | (simp; omega)) rfl) (Ents.refl _ _) | refine FinE.str ?_
    | fail
  all_goals
    (try simp only [hk] at *)
    first
      | (rw [he]; exact dropE_yes (by omega) (blank_T (by omega)))
      | (rw [he]; exact dropE_no (by omega) (blank_F (by omega) (by omega)))
      | (rw [he, show x = [] from List.eq_nil_of_length_eq_zero (by omega)]; rfl)

theorem refTrim_ok (s : Bs) (hs : s.length ≤ 9223372036854775807) : FnS Tryz.prog 69 [.c (.s s)] [] [] (Is (.c (.s (trimT s)))) := by
  refine fn_of_J Tryz.tyOK 0 Tryz.func69 (by kernel_rfl) (c := Tryz.f69.body.getD .skip) (by kernel_rfl) Tryz.ntmps69 (rs := Tryz.f69.results.toList) rfl (by simp) (fun G => ?_)
  repeat' first
    | refine J_seq ?_ | refine J_region Tryz.tyOK ?_ | refine J_block ?_ | refine J_cond ?_ | refine J_ret ?_ | refine J_skip ?_ | refine J_exit ?_ | refine J_scope ?_
    | refine CondP.yes (by omega) ?_ | refine CondP.no (by omega) ?_ | refine CondP.mk (fun h => ?_) (fun h => ?_) | refine EqP.mk rfl ?_ | refine NewP.mk (fun ad => ?_) | refine ArP.exact (by simp only [inR]; omega) ?_ | refine SideP.mk (by first | omega | (dsimp only; omega) | (simp; omega)) ?_
    | fail
  refine J_loop (α := Bs) (fun x => [(0, .c (.s x))]) (fun _ => []) (fun _ => []) 0 (fun x => x.length ≤ s.length ∧ dropL s = dropL x) (fun x => x.length) (InFam.mk s ⟨Nat.le_refl _, rfl⟩ (by repeat' first | exact SubE.nil | refine SubE.cons rfl ?_ ?_ | exact VEq.refl _ | refine VEq.int (by omega) | refine VEq.sl rfl (by first | rfl | omega | (rw [List.length_append]; rfl) | (simp; omega)) rfl) (Ents.refl _ _)) (fun x hx => ?_)
  obtain ⟨hl, he⟩ := hx
  have c1 := trimEnd_ok x (by omega)
  repeat' first
    | refine J_seq ?_ | refine J_region Tryz.tyOK ?_ | refine J_block ?_ | refine J_cond ?_ | refine J_ret ?_ | refine J_skip ?_ | refine J_exit ?_ | refine J_scope ?_
    | refine CondP.yes (by omega) ?_ | refine CondP.no (by omega) ?_ | refine CondP.mk (fun h => ?_) (fun h => ?_) | refine EqP.mk rfl ?_ | refine NewP.mk (fun ad => ?_) | refine ArP.exact (by simp only [inR]; omega) ?_ | refine SideP.mk (by first | omega | (dsimp only; omega) | (simp; omega)) ?_
    | refine CallP.is c1 ?_ | refine Round.mk (x.drop 1) (by rw [List.length_drop]; omega) ⟨by rw [List.length_drop]; omega, ?_⟩ (by repeat' first | exact SubE.nil | refine SubE.cons rfl ?_ ?_ | exact VEq.refl _ | refine VEq.int (by omega) | refine VEq.sl rfl (by first | rfl | omega | (rw [List.length_append]; rfl) | (simp; omega)) rfl) (Ents.refl _ _) | refine FinE.str ?_
    | fail
  all_goals
    (try simp only [Int.toNat_zero] at *)
    first
      | (rw [he]; exact dropW_yes (by omega) (blank_T (by omega)))
      | (rw [trimT_eq, dropLE, he, show dropL x = x from dropW_no (by omega) (blank_F (by omega) (by omega))])
      | (rw [trimT_eq, dropLE, he, show x = [] from List.eq_nil_of_length_eq_zero (by omega)]; rfl)

theorem refWords_ok (s : Bs) (hs : s.length ≤ 1000000) : FnS Tryz.prog 51 [.c (.s s)] [] [] (fun v L D => ∃ a c, v = .c (.sl a (wordsT blankB s).length c) ∧ L = [.row 9 1 a (wordsT blankB s).length c ((wordsT blankB s).map C.s)] ∧ D = []) := by
  refine fn_of_J Tryz.tyOK 0 Tryz.func51 (by kernel_rfl) (c := Tryz.f51.body.getD .skip) (by kernel_rfl) Tryz.ntmps51 (rs := Tryz.f51.results.toList) rfl (by simp) (fun G => ?_)
  repeat' first
    | refine J_seq ?_ | refine J_region Tryz.tyOK ?_ | refine J_block ?_ | refine J_cond ?_ | refine J_ret ?_ | refine J_skip ?_ | refine J_exit ?_ | refine J_scope ?_
    | refine CondP.yes (by omega) ?_ | refine CondP.no (by omega) ?_ | refine CondP.mk (fun h => ?_) (fun h => ?_) | refine EqP.mk rfl ?_ | refine NewP.mk (fun ad => ?_) | refine ArP.exact (by simp only [inR]; omega) ?_ | refine SideP.mk (by first | omega | (dsimp only; omega) | (simp; omega)) ?_
    | fail
  refine J_loop (α := Nat × Bs × List Bs × Option Addr × Nat) (fun x => [(0, .c (.s s)), (3, .c (.sl x.2.2.2.1 x.2.2.1.length x.2.2.2.2)), (4, .c (.s x.2.1)), (5, .c (.i .i64 x.1))]) (fun x => [.row 9 1 x.2.2.2.1 x.2.2.1.length x.2.2.2.2 (x.2.2.1.map C.s)]) (fun _ => []) 0
    (fun x => x.1 ≤ s.length ∧ x.2.1.length ≤ x.1 ∧ x.2.2.1.length ≤ x.1 ∧ wordsT blankB s = x.2.2.1 ++ wordsGo blankB x.2.1 (s.drop x.1)) (fun x => s.length - x.1) (InFam.mk (0, [], [], none, 0) ⟨Nat.zero_le _, Nat.le_refl _, Nat.le_refl _, rfl⟩ (by repeat' first | exact SubE.nil | refine SubE.cons rfl ?_ ?_ | exact VEq.refl _ | refine VEq.int (by omega) | refine VEq.sl rfl (by first | rfl | omega | (rw [List.length_append]; rfl) | (simp; omega)) rfl) Ents.nilRow) (fun x hx => ?_)
  obtain ⟨i, w, ws, a, c⟩ := x
  dsimp only at hx ⊢
  obtain ⟨hi, hw, hws, he⟩ := hx
  by_cases hlt : i < s.length
  · have h1 := slice_one hlt
    have hd : s.drop i = s.getD i 0 :: s.drop (i + 1) := by rw [List.drop_eq_getElem_cons hlt]; simp [hlt]
    have hl1 : ((s.take (i + 1)).drop i).length = 1 := by rw [h1]; rfl
    rw [hd] at he
    repeat' first
      | refine J_seq ?_ | refine J_region Tryz.tyOK ?_ | refine J_block ?_ | refine J_cond ?_ | refine J_ret ?_ | refine J_skip ?_ | refine J_exit ?_ | refine J_scope ?_
      | refine CondP.yes (by omega) ?_ | refine CondP.no (by omega) ?_ | refine CondP.mk (fun h => ?_) (fun h => ?_) | refine EqP.mk rfl ?_ | refine NewP.mk (fun ad => ?_) | refine ArP.exact (by simp only [inR]; omega) ?_ | refine SideP.mk (by first | omega | (dsimp only; omega) | (simp; omega)) ?_
      | refine AppE.row [_] [] (ws.map C.s) [C.s w] 1 rfl (SrcE.sl 9 9 _ _ 1 1 _ rfl rfl (.inl ⟨1, List.Mem.head _⟩) rfl) (by dsimp only; omega) (fun a' c' => ?_) | refine SideP.mk (Nat.le_trans (Nat.add_le_add hw (Nat.le_of_eq hl1)) (by omega)) ?_ | refine Round.mk (i + 1, [], ws ++ [w], a', c') (by dsimp only; omega) ⟨by dsimp only; omega, by simp, by simp; omega, ?_⟩ (SubE.cons rfl (VEq.refl _) (SubE.cons rfl (VEq.sl rfl (by simp) rfl) (SubE.cons rfl (VEq.refl _) (SubE.cons rfl (VEq.int (by omega)) SubE.nil)))) (Ents.drop.trans (Ents.of ?_)) | refine Round.mk (i + 1, [], ws, a, c) (by dsimp only; omega) ⟨by dsimp only; omega, by simp, by dsimp only; omega, ?_⟩ (SubE.cons rfl (VEq.refl _) (SubE.cons rfl (VEq.refl _) (SubE.cons rfl (VEq.refl _) (SubE.cons rfl (VEq.int (by omega)) SubE.nil)))) (Ents.refl _ _) | refine Round.mk (i + 1, w ++ (s.take (i + 1)).drop i, ws, a, c) (by dsimp only; omega) ⟨by dsimp only; omega, by rw [List.length_append, hl1]; dsimp only; omega, by dsimp only; omega, ?_⟩ (SubE.cons rfl (VEq.refl _) (SubE.cons rfl (VEq.refl _) (SubE.cons rfl (VEq.refl _) (SubE.cons rfl (VEq.int (by omega)) SubE.nil)))) (Ents.refl _ _)
      | fail
    all_goals try simp only [Int.toNat_natCast] at *
    all_goals first
      | solve | (repeat' first | exact SubE.nil | refine SubE.cons rfl ?_ ?_ | exact VEq.refl _ | refine VEq.int (by omega) | refine VEq.sl rfl (by first | rfl | omega | (rw [List.length_append]; rfl) | (simp; omega)) rfl)
      | (rw [he, words_sep (blank_T (by omega)), if_neg (by assumption), List.append_assoc]; rfl)
      | (rw [he, words_sep (blank_T (by omega)), if_pos (by assumption)]; done)
      | (rw [he, words_in (blank_F (by omega) (by omega)), h1]; done)
      | (simp; done)
  · have hil : i = s.length := by omega
    subst hil
    rw [List.drop_length, wordsGo] at he
    rw [he]
    by_cases hwn : w = []
    · rw [if_pos hwn, List.append_nil]
      repeat' first
        | refine J_seq ?_ | refine J_region Tryz.tyOK ?_ | refine J_block ?_ | refine J_cond ?_ | refine J_ret ?_ | refine J_skip ?_ | refine J_exit ?_ | refine J_scope ?_
        | refine CondP.yes (by omega) ?_ | refine CondP.no (by omega) ?_ | refine CondP.mk (fun h => ?_) (fun h => ?_) | refine EqP.mk rfl ?_ | refine NewP.mk (fun ad => ?_) | refine ArP.exact (by simp only [inR]; omega) ?_ | refine SideP.mk (by first | omega | (dsimp only; omega) | (simp; omega)) ?_
        | exact FinE.mk [_] [] ⟨a, c, rfl, rfl, rfl⟩ (Ents.refl _ _)
        | fail
    · rw [if_neg hwn]
      repeat' first
        | refine J_seq ?_ | refine J_region Tryz.tyOK ?_ | refine J_block ?_ | refine J_cond ?_ | refine J_ret ?_ | refine J_skip ?_ | refine J_exit ?_ | refine J_scope ?_
        | refine CondP.yes (by omega) ?_ | refine CondP.no (by omega) ?_ | refine CondP.mk (fun h => ?_) (fun h => ?_) | refine EqP.mk rfl ?_ | refine NewP.mk (fun ad => ?_) | refine ArP.exact (by simp only [inR]; omega) ?_ | refine SideP.mk (by first | omega | (dsimp only; omega) | (simp; omega)) ?_
        | refine AppE.row [_] [] (ws.map C.s) [C.s w] 1 rfl (SrcE.sl 9 9 _ _ 1 1 _ rfl rfl (.inl ⟨1, List.Mem.head _⟩) rfl) (by dsimp only; omega) (fun a' c' => ?_) | refine FinE.mk [_] [] ⟨a', c', ?_, rfl, rfl⟩ (Ents.drop.trans (Ents.of ?_))
        | fail
      all_goals first | (rw [List.length_append]; rfl) | (rw [List.map_append, List.length_append]; rfl)

theorem refRest_ok (s : Bs) (n : Nat) (hs : s.length ≤ 1000000) (hn : n ≤ 1000) : FnS Tryz.prog 54 [.c (.s s), .c (.i .i64 n)] [] [] (Is (.c (.s (restT s n)))) := by
  refine fn_of_J Tryz.tyOK 0 Tryz.func54 (by kernel_rfl) (c := Tryz.f54.body.getD .skip) (by kernel_rfl) Tryz.ntmps54 (rs := Tryz.f54.results.toList) rfl (by simp) (fun G => ?_)
  repeat' first
    | refine J_seq ?_ | refine J_region Tryz.tyOK ?_ | refine J_block ?_ | refine J_cond ?_ | refine J_ret ?_ | refine J_skip ?_ | refine J_exit ?_ | refine J_scope ?_
    | refine CondP.yes (by omega) ?_ | refine CondP.no (by omega) ?_ | refine CondP.mk (fun h => ?_) (fun h => ?_) | refine EqP.mk rfl ?_ | refine NewP.mk (fun ad => ?_) | refine ArP.exact (by simp only [inR]; omega) ?_ | refine SideP.mk (by first | omega | (dsimp only; omega) | (simp; omega)) ?_
    | fail
  refine J_loop (α := Nat × Bs) (fun x => [(0, .c (.s x.2)), (1, .c (.i .i64 n)), (5, .c (.i .i64 x.1))]) (fun _ => []) (fun _ => []) 0 (fun x => x.1 ≤ n ∧ x.2.length ≤ s.length ∧ restT s n = restT x.2 (n - x.1)) (fun x => n - x.1) (InFam.mk (0, s) ⟨Nat.zero_le _, Nat.le_refl _, rfl⟩ (by repeat' first | exact SubE.nil | refine SubE.cons rfl ?_ ?_ | exact VEq.refl _ | refine VEq.int (by omega) | refine VEq.sl rfl (by first | rfl | omega | (rw [List.length_append]; rfl) | (simp; omega)) rfl) (Ents.refl _ _)) (fun x hx => ?_)
  obtain ⟨i, x⟩ := x
  dsimp only at hx ⊢
  obtain ⟨hi, hl, he⟩ := hx
  have c1 := refTrim_ok x (by omega)
  have htl := trimT_le x
  by_cases hlt : i < n
  · rw [show n - i = (n - (i + 1)) + 1 by omega, restT] at he
    generalize trimT x = t at *
    repeat' first
      | refine J_seq ?_ | refine J_region Tryz.tyOK ?_ | refine J_block ?_ | refine J_cond ?_ | refine J_ret ?_ | refine J_skip ?_ | refine J_exit ?_ | refine J_scope ?_
      | refine CondP.yes (by omega) ?_ | refine CondP.no (by omega) ?_ | refine CondP.mk (fun h => ?_) (fun h => ?_) | refine EqP.mk rfl ?_ | refine NewP.mk (fun ad => ?_) | refine ArP.exact (by simp only [inR]; omega) ?_ | refine SideP.mk (by first | omega | (dsimp only; omega) | (simp; omega)) ?_
      | refine CallP.is c1 ?_
      | fail
    refine J_loop (α := Bs) (fun y => [(0, .c (.s y)), (1, .c (.i .i64 n)), (5, .c (.i .i64 i))]) (fun _ => []) (fun _ => []) 0 (fun y => y.length ≤ t.length ∧ t.dropWhile nb = y.dropWhile nb) (fun y => y.length) (InFam.mk t ⟨Nat.le_refl _, rfl⟩ (by repeat' first | exact SubE.nil | refine SubE.cons rfl ?_ ?_ | exact VEq.refl _ | refine VEq.int (by omega) | refine VEq.sl rfl (by first | rfl | omega | (rw [List.length_append]; rfl) | (simp; omega)) rfl) (Ents.refl _ _)) (fun y hy => ?_)
    obtain ⟨hyl, hye⟩ := hy
    rw [hye] at he
    repeat' first
      | refine J_seq ?_ | refine J_region Tryz.tyOK ?_ | refine J_block ?_ | refine J_cond ?_ | refine J_ret ?_ | refine J_skip ?_ | refine J_exit ?_ | refine J_scope ?_
      | refine CondP.yes (by omega) ?_ | refine CondP.no (by omega) ?_ | refine CondP.mk (fun h => ?_) (fun h => ?_) | refine EqP.mk rfl ?_ | refine NewP.mk (fun ad => ?_) | refine ArP.exact (by simp only [inR]; omega) ?_ | refine SideP.mk (by first | omega | (dsimp only; omega) | (simp; omega)) ?_
      | refine Round.mk (y.drop 1) (by rw [List.length_drop]; omega) ⟨by rw [List.length_drop]; omega, ?_⟩ (by repeat' first | exact SubE.nil | refine SubE.cons rfl ?_ ?_ | exact VEq.refl _ | refine VEq.int (by omega) | refine VEq.sl rfl (by first | rfl | omega | (rw [List.length_append]; rfl) | (simp; omega)) rfl) (Ents.refl _ _) | refine Round.mk (i + 1, y) (by dsimp only; omega) ⟨by dsimp only; omega, by dsimp only; omega, ?_⟩ (by repeat' first | exact SubE.nil | refine SubE.cons rfl ?_ ?_ | exact VEq.refl _ | refine VEq.int (by omega) | refine VEq.sl rfl (by first | rfl | omega | (rw [List.length_append]; rfl) | (simp; omega)) rfl) (Ents.refl _ _)
      | fail
    all_goals
      (try simp only [Int.toNat_zero] at *)
      first
        | (rw [hye]; exact dropW_yes (by omega) (nb_T (by omega) (by omega)))
        | (rw [he, dropW_no (p := nb) (x := y) (by omega) (nb_F (by omega))])
        | (rw [he, show y = [] from List.eq_nil_of_length_eq_zero (by omega)]; rfl)
  · rw [show n - i = 0 by omega, restT] at he
    repeat' first
      | refine J_seq ?_ | refine J_region Tryz.tyOK ?_ | refine J_block ?_ | refine J_cond ?_ | refine J_ret ?_ | refine J_skip ?_ | refine J_exit ?_ | refine J_scope ?_
      | refine CondP.yes (by omega) ?_ | refine CondP.no (by omega) ?_ | refine CondP.mk (fun h => ?_) (fun h => ?_) | refine EqP.mk rfl ?_ | refine NewP.mk (fun ad => ?_) | refine ArP.exact (by simp only [inR]; omega) ?_ | refine SideP.mk (by first | omega | (dsimp only; omega) | (simp; omega)) ?_
      | refine CallP.is c1 ?_ | refine FinE.str ?_
      | fail
    exact he

theorem rightOf_ok (s : Bs) : FnS Tryz.prog 52 [.c (.s s)] [] [] (Is (.c (.i .i64 (idxS rightsL s + 1)))) := by
  refine fn_of_J Tryz.tyOK 0 Tryz.func52 (by kernel_rfl) (c := Tryz.f52.body.getD .skip) (by kernel_rfl) Tryz.ntmps52 (rs := Tryz.f52.results.toList) rfl (by simp) (fun G => ?_)
  repeat' first
    | refine J_seq ?_ | refine J_region Tryz.tyOK ?_ | refine J_block ?_ | refine J_cond ?_ | refine J_ret ?_ | refine J_skip ?_ | refine J_exit ?_ | refine J_scope ?_
    | refine CondP.yes (by omega) ?_ | refine CondP.no (by omega) ?_ | refine CondP.mk (fun h => ?_) (fun h => ?_) | refine EqP.mk rfl ?_ | refine NewP.mk (fun ad => ?_) | refine ArP.exact (by simp only [inR]; omega) ?_ | refine SideP.mk (by first | omega | (dsimp only; omega) | (simp; omega)) ?_
    | fail
  refine J_loop (α := Nat) (fun i => [(0, .c (.s s)), (3, .c (.sl (some ⟨ad, 0, none⟩) 6 6)), (4, .c (.i .i64 i))]) (fun _ => [.row 9 1 (some ⟨ad, 0, none⟩) 6 6 (([] :: rightsL).map C.s)]) (fun _ => []) 1
    (fun i => 1 ≤ i ∧ i ≤ 6 ∧ idxS rightsL s = if idxS (([] :: rightsL).drop i) s < 0 then -1 else idxS (([] :: rightsL).drop i) s + (i - 1)) (fun i => 6 - i) (InFam.mk 1 ⟨by omega, by omega, ?_⟩ (by repeat' first | exact SubE.nil | refine SubE.cons rfl ?_ ?_ | exact VEq.refl _ | refine VEq.int (by omega) | refine VEq.sl rfl (by first | rfl | omega | (rw [List.length_append]; rfl) | (simp; omega)) rfl) (Ents.refl _ _)) (fun i hi => ?_)
  · have := idxS_lt rightsL s
    show idxS rightsL s = if idxS rightsL s < 0 then -1 else idxS rightsL s + ((1 : Nat) - 1)
    split <;> omega
  obtain ⟨h1, hi, he⟩ := hi
  by_cases hlt : i < 6
  · have hlen : i < (([] :: rightsL) : List Bs).length := hlt
    have hcm := map_take1 (f := C.s) hlen
    rw [List.drop_eq_getElem_cons hlen, idxS] at he
    generalize (([] :: rightsL) : List Bs)[i] = y at *
    have hrd : Reads [.row 9 1 (some ⟨ad, 0, none⟩) 6 6 (([] :: rightsL).map C.s)] [] 9 1 (some ⟨ad, 0, none⟩) 6 (([] :: rightsL).map C.s) := .inl ⟨6, List.Mem.head _⟩
    have := idxS_lt (([] :: rightsL).drop (i + 1)) s
    repeat' first
      | refine J_seq ?_ | refine J_region Tryz.tyOK ?_ | refine J_block ?_ | refine J_cond ?_ | refine J_ret ?_ | refine J_skip ?_ | refine J_exit ?_ | refine J_scope ?_
      | refine CondP.yes (by omega) ?_ | refine CondP.no (by omega) ?_ | refine CondP.mk (fun h => ?_) (fun h => ?_) | refine EqP.mk rfl ?_ | refine NewP.mk (fun ad => ?_) | refine ArP.exact (by simp only [inR]; omega) ?_ | refine SideP.mk (by first | omega | (dsimp only; omega) | (simp; omega)) ?_
      | refine IdxE.mk 9 1 _ hrd (by omega) (by omega) ?_ | refine LoadE.mk 9 _ _ _ hrd (by omega) (by omega) (by omega) hcm ?_ | refine FinE.int ?_ | refine Round.mk (i + 1) (by omega) ⟨by omega, by omega, ?_⟩ (by repeat' first | exact SubE.nil | refine SubE.cons rfl ?_ ?_ | exact VEq.refl _ | refine VEq.int (by omega) | refine VEq.sl rfl (by first | rfl | omega | (rw [List.length_append]; rfl) | (simp; omega)) rfl) (Ents.refl _ _)
      | fail
    · rw [if_pos (Eq.symm (by assumption))] at he; rw [he, if_neg (by omega)]; omega
    · have hys : ¬ s = y := fun hh => absurd hh.symm (by assumption)
      rw [if_neg hys] at he; rw [he]
      by_cases h2 : idxS (([] :: rightsL).drop (i + 1)) s < 0
      · rw [if_pos h2, if_pos h2, if_pos (by omega)]
      · rw [if_neg h2, if_neg h2, if_neg (by omega)]; omega
  · have hil : i = 6 := by omega
    subst hil
    rw [show (([] :: rightsL) : List Bs).drop 6 = [] from rfl, idxS, if_pos (by omega)] at he
    repeat' first
      | refine J_seq ?_ | refine J_region Tryz.tyOK ?_ | refine J_block ?_ | refine J_cond ?_ | refine J_ret ?_ | refine J_skip ?_ | refine J_exit ?_ | refine J_scope ?_
      | refine CondP.yes (by omega) ?_ | refine CondP.no (by omega) ?_ | refine CondP.mk (fun h => ?_) (fun h => ?_) | refine EqP.mk rfl ?_ | refine NewP.mk (fun ad => ?_) | refine ArP.exact (by simp only [inR]; omega) ?_ | refine SideP.mk (by first | omega | (dsimp only; omega) | (simp; omega)) ?_
      | refine FinE.int ?_
      | fail
    rw [he]; rfl

theorem spaceWord_ok (n : Int) : FnS Tryz.prog 43 [.c (.i .i64 n)] [] [] (Is (.c (.s (spWord n)))) := by
  have c1 := spaceName_ok n
  have hl := spName_le n.toNat
  unfold spWord
  generalize spName n.toNat = w at *
  refine fn_of_J Tryz.tyOK 0 Tryz.func43 (by kernel_rfl) (c := Tryz.f43.body.getD .skip) (by kernel_rfl) Tryz.ntmps43 (rs := Tryz.f43.results.toList) rfl (by simp) (fun G => ?_)
  repeat' first
    | refine J_seq ?_ | refine J_region Tryz.tyOK ?_ | refine J_block ?_ | refine J_cond ?_ | refine J_ret ?_ | refine J_skip ?_ | refine J_exit ?_ | refine J_scope ?_
    | refine CondP.yes (by omega) ?_ | refine CondP.no (by omega) ?_ | refine CondP.mk (fun h => ?_) (fun h => ?_) | refine EqP.mk rfl ?_ | refine NewP.mk (fun ad => ?_) | refine ArP.exact (by simp only [inR]; omega) ?_ | refine SideP.mk (by first | omega | (dsimp only; omega) | (simp; omega)) ?_
    | refine CallP.is c1 ?_ | refine FinE.str ?_
    | fail
  · rw [if_pos (by assumption)]
  · rw [if_neg (by assumption)]

theorem readScope_ok (s : Bs) (hs : s.length ≤ 1000000) : FnS Tryz.prog 53 [.c (.s s)] [] [] (Is (.t2 (.agg [.i .i64 (scopeV s).1.1, .i .i64 (scopeV s).1.2.1, .s (scopeV s).1.2.2]) (.c (.b (scopeV s).2)))) := by
  have c2 := refParse_ok s hs
  unfold scopeV
  generalize parseT s = t at *
  obtain ⟨sp, tn, er⟩ := t
  by_cases hw : s = wAll
  · rw [if_pos hw]
    refine fn_of_J Tryz.tyOK 0 Tryz.func53 (by kernel_rfl) (c := Tryz.f53.body.getD .skip) (by kernel_rfl) Tryz.ntmps53 (rs := Tryz.f53.results.toList) rfl (by simp) (fun G => ?_)
    have hw' : s = [60, 97, 108, 108, 62] := hw
    repeat' first
      | refine CondP.yes hw' ?_
      | refine J_seq ?_ | refine J_region Tryz.tyOK ?_ | refine J_block ?_ | refine J_cond ?_ | refine J_ret ?_ | refine J_skip ?_ | refine J_exit ?_ | refine J_scope ?_
      | refine CondP.yes (by omega) ?_ | refine CondP.no (by omega) ?_ | refine CondP.mk (fun h => ?_) (fun h => ?_) | refine EqP.mk rfl ?_ | refine NewP.mk (fun ad => ?_) | refine ArP.exact (by simp only [inR]; omega) ?_ | refine SideP.mk (by first | omega | (dsimp only; omega) | (simp; omega)) ?_
      | refine FinE.is rfl
      | fail
  · rw [if_neg hw]
    have hw' : ¬ s = [60, 97, 108, 108, 62] := hw
    refine fn_of_J Tryz.tyOK 0 Tryz.func53 (by kernel_rfl) (c := Tryz.f53.body.getD .skip) (by kernel_rfl) Tryz.ntmps53 (rs := Tryz.f53.results.toList) rfl (by simp) (fun G => ?_)
    repeat' first
      | refine CondP.no hw' ?_
      | refine J_seq ?_ | refine J_region Tryz.tyOK ?_ | refine J_block ?_ | refine J_cond ?_ | refine J_ret ?_ | refine J_skip ?_ | refine J_exit ?_ | refine J_scope ?_
      | refine CondP.yes (by omega) ?_ | refine CondP.no (by omega) ?_ | refine CondP.mk (fun h => ?_) (fun h => ?_) | refine EqP.mk rfl ?_ | refine NewP.mk (fun ad => ?_) | refine ArP.exact (by simp only [inR]; omega) ?_ | refine SideP.mk (by first | omega | (dsimp only; omega) | (simp; omega)) ?_
      | fail
    refine J_loop (α := Nat) (fun i => [(0, .c (.s s)), (2, .c (.p 0 ad 0)), (4, .c (.i .i64 i))]) (fun _ => [.box 0 ad 48 [.i .i64 0, .i .i64 0, .s []]]) (fun _ => []) 1
      (fun i => i ≤ 6 ∧ idxS spacesL s = if idxS (spacesL.drop i) s < 0 then -1 else idxS (spacesL.drop i) s + i) (fun i => 6 - i) (InFam.mk 0 ⟨by omega, ?_⟩ (by repeat' first | exact SubE.nil | refine SubE.cons rfl ?_ ?_ | exact VEq.refl _ | refine VEq.int (by omega) | refine VEq.sl rfl (by first | rfl | omega | (rw [List.length_append]; rfl) | (simp; omega)) rfl) (Ents.refl _ _)) (fun i hi => ?_)
    · have := idxS_lt spacesL s
      rw [List.drop_zero]; split <;> omega
    obtain ⟨hi, he⟩ := hi
    by_cases hlt : i < 6
    · have hlen : i < spacesL.length := hlt
      have c1 := spaceWord_ok (i : Int)
      have hg : spWord (i : Int) = spacesL[i] := by rw [spWord_get i hlt]; simp [hlen]
      rw [hg] at c1
      rw [List.drop_eq_getElem_cons hlen, idxS] at he
      generalize spacesL[i] = y at *
      have := idxS_lt (spacesL.drop (i + 1)) s
      repeat' first
        | refine J_seq ?_ | refine J_region Tryz.tyOK ?_ | refine J_block ?_ | refine J_cond ?_ | refine J_ret ?_ | refine J_skip ?_ | refine J_exit ?_ | refine J_scope ?_
        | refine CondP.yes (by omega) ?_ | refine CondP.no (by omega) ?_ | refine CondP.mk (fun h => ?_) (fun h => ?_) | refine EqP.mk rfl ?_ | refine NewP.mk (fun ad => ?_) | refine ArP.exact (by simp only [inR]; omega) ?_ | refine SideP.mk (by first | omega | (dsimp only; omega) | (simp; omega)) ?_
        | refine CallP.is c1 ?_ | refine FinE.is ?_ | refine Round.mk (i + 1) (by omega) ⟨by omega, ?_⟩ (by repeat' first | exact SubE.nil | refine SubE.cons rfl ?_ ?_ | exact VEq.refl _ | refine VEq.int (by omega) | refine VEq.sl rfl (by first | rfl | omega | (rw [List.length_append]; rfl) | (simp; omega)) rfl) (Ents.refl _ _)
        | fail
      · rw [if_pos ‹s = y›, if_neg (by omega)] at he; rw [he, if_pos (by omega)]; simp; exact ⟨rfl, rfl⟩
      · rw [if_neg ‹¬ s = y›] at he; rw [he]
        by_cases h2 : idxS (spacesL.drop (i + 1)) s < 0
        · rw [if_pos h2, if_pos h2, if_pos (by omega)]
        · rw [if_neg h2, if_neg h2, if_neg (by omega)]; omega
    · have hil : i = 6 := by omega
      subst hil
      rw [show spacesL.drop 6 = [] from rfl, idxS, if_pos (by omega)] at he
      rw [if_neg (by omega)]
      repeat' first
        | refine J_seq ?_ | refine J_region Tryz.tyOK ?_ | refine J_block ?_ | refine J_cond ?_ | refine J_ret ?_ | refine J_skip ?_ | refine J_exit ?_ | refine J_scope ?_
        | refine CondP.yes (by omega) ?_ | refine CondP.no (by omega) ?_ | refine CondP.mk (fun h => ?_) (fun h => ?_) | refine EqP.mk rfl ?_ | refine NewP.mk (fun ad => ?_) | refine ArP.exact (by simp only [inR]; omega) ?_ | refine SideP.mk (by first | omega | (dsimp only; omega) | (simp; omega)) ?_
        | refine CallP.is c2 ?_ | refine FinE.is ?_
        | fail
      · have h' : er = 0 := h
        simp only [h', decide_true]; rfl
      · have h' : ¬ er = 0 := h
        simp only [h', decide_false]; rfl

theorem readGuard_ok (s : Bs) (hs : s.length ≤ 1000000) : FnS Tryz.prog 55 [.c (.s s)] [] [] (Is (.t3 (.agg [.i .i64 (grdV s).1.1, .s (grdV s).1.2]) (.c (.s (grdV s).2.1)) (.c (.b (grdV s).2.2)))) := by
  have c0 := index_ok s [124] 0 hs (by decide) (by decide) (by omega)
  rw [refIdx_byte, ← index_byte, index_cut] at c0
  have ht := cutAt_take 124 s
  have hd := cutAt_drop 124 s
  have hl1 := cutAt_len1 124 s
  have hl2 := cutAt_len2 124 s
  unfold grdV
  generalize cutAt 124 s = c at *
  obtain ⟨x, y, b⟩ := c
  dsimp only at *
  cases b with
  | true =>
    obtain ⟨hd, hlt⟩ := hd rfl
    rw [if_pos rfl] at c0 ⊢
    have c1 : FnS Tryz.prog 69 [.c (.s (s.drop (x.length + 1)))] [] [] (Is (.c (.s (trimT y)))) := by rw [hd]; exact refTrim_ok y (by omega)
    have c2 : FnS Tryz.prog 69 [.c (.s (s.take x.length))] [] [] (Is (.c (.s (trimT x)))) := by rw [ht]; exact refTrim_ok x (by omega)
    have c3 := refParse_ok (trimT x) (by have := trimT_le x; omega)
    generalize parseT (trimT x) = t at *
    generalize trimT x = tx at *
    generalize trimT y = ty at *
    obtain ⟨sp, tn, er⟩ := t
    refine fn_of_J Tryz.tyOK 0 Tryz.func55 (by kernel_rfl) (c := Tryz.f55.body.getD .skip) (by kernel_rfl) Tryz.ntmps55 (rs := Tryz.f55.results.toList) rfl (by simp) (fun G => ?_)
    repeat' first
      | refine J_seq ?_ | refine J_region Tryz.tyOK ?_ | refine J_block ?_ | refine J_cond ?_ | refine J_ret ?_ | refine J_skip ?_ | refine J_exit ?_ | refine J_scope ?_
      | refine CondP.yes (by omega) ?_ | refine CondP.no (by omega) ?_ | refine CondP.mk (fun h => ?_) (fun h => ?_) | refine EqP.mk rfl ?_ | refine NewP.mk (fun ad => ?_) | refine ArP.exact (by simp only [inR]; omega) ?_ | refine SideP.mk (by first | omega | (dsimp only; omega) | (simp; omega)) ?_
      | refine CallP.is c0 ?_ | refine CallP.is c1 ?_ | refine CallP.is c2 ?_ | refine CallP.is c3 ?_ | refine FinE.is ?_
      | fail
    · have h' : ty = [] := h
      simp only [h', if_true]; rfl
    · have h' : ¬ ty = [] := by assumption
      have h2 : er = 0 := by assumption
      simp only [h', h2, if_false, decide_true]; try rfl
    · have h' : ¬ ty = [] := by assumption
      have h2 : ¬ er = 0 := by assumption
      simp only [h', h2, if_false, decide_false]; try rfl
  | false =>
    rw [if_neg (by simp)] at c0 ⊢
    have c2 := refTrim_ok s (by omega)
    have c3 := refParse_ok (trimT s) (by have := trimT_le s; omega)
    generalize parseT (trimT s) = t at *
    generalize trimT s = tx at *
    obtain ⟨sp, tn, er⟩ := t
    refine fn_of_J Tryz.tyOK 0 Tryz.func55 (by kernel_rfl) (c := Tryz.f55.body.getD .skip) (by kernel_rfl) Tryz.ntmps55 (rs := Tryz.f55.results.toList) rfl (by simp) (fun G => ?_)
    repeat' first
      | refine J_seq ?_ | refine J_region Tryz.tyOK ?_ | refine J_block ?_ | refine J_cond ?_ | refine J_ret ?_ | refine J_skip ?_ | refine J_exit ?_ | refine J_scope ?_
      | refine CondP.yes (by omega) ?_ | refine CondP.no (by omega) ?_ | refine CondP.mk (fun h => ?_) (fun h => ?_) | refine EqP.mk rfl ?_ | refine NewP.mk (fun ad => ?_) | refine ArP.exact (by simp only [inR]; omega) ?_ | refine SideP.mk (by first | omega | (dsimp only; omega) | (simp; omega)) ?_
      | refine CallP.is c0 ?_ | refine CallP.is c2 ?_ | refine CallP.is c3 ?_ | refine FinE.is ?_
      | fail
    · have h2 : er = 0 := by assumption
      simp only [h2, decide_true]; try rfl
    · have h2 : ¬ er = 0 := by assumption
      simp only [h2, decide_false]; try rfl

theorem lines_ok (s : Bs) (hs : s.length ≤ 1000000) : FnS Tryz.prog 25 [.c (.s s)] [] [] (fun v L D => ∃ a c, v = .c (.sl a (splitOn 10 s).length c) ∧ L = [.row 9 1 a (splitOn 10 s).length c ((splitOn 10 s).map C.s)] ∧ D = []) := by
  refine fn_of_J Tryz.tyOK 0 Tryz.func25 (by kernel_rfl) (c := Tryz.f25.body.getD .skip) (by kernel_rfl) Tryz.ntmps25 (rs := Tryz.f25.results.toList) rfl (by simp) (fun G => ?_)
  repeat' first
    | refine J_seq ?_ | refine J_region Tryz.tyOK ?_ | refine J_block ?_ | refine J_cond ?_ | refine J_ret ?_ | refine J_skip ?_ | refine J_exit ?_ | refine J_scope ?_
    | refine CondP.yes (by omega) ?_ | refine CondP.no (by omega) ?_ | refine CondP.mk (fun h => ?_) (fun h => ?_) | refine EqP.mk rfl ?_ | refine NewP.mk (fun ad => ?_) | refine ArP.exact (by simp only [inR]; omega) ?_ | refine SideP.mk (by first | omega | (dsimp only; omega) | (simp; omega)) ?_
    | fail
  refine J_loop (α := Nat × Nat × List Bs × Option Addr × Nat) (fun x => [(0, .c (.s s)), (3, .c (.sl x.2.2.2.1 x.2.2.1.length x.2.2.2.2)), (4, .c (.i .i64 x.2.1)), (5, .c (.i .i64 x.1))]) (fun x => [.row 9 1 x.2.2.2.1 x.2.2.1.length x.2.2.2.2 (x.2.2.1.map C.s)]) (fun _ => []) 1
    (fun x => x.1 ≤ s.length ∧ x.2.1 ≤ x.1 ∧ x.2.2.1.length ≤ x.1 ∧ splitOn 10 (s.take x.1) = x.2.2.1 ++ [Go.X.part s x.2.1 x.1]) (fun x => s.length - x.1) (InFam.mk (0, 0, [], some ⟨ad, 0, none⟩, 0) ⟨Nat.zero_le _, Nat.le_refl _, Nat.le_refl _, rfl⟩ (by repeat' first | exact SubE.nil | refine SubE.cons rfl ?_ ?_ | exact VEq.refl _ | refine VEq.int (by omega) | refine VEq.sl rfl (by first | rfl | omega | (rw [List.length_append]; rfl) | (simp; omega)) rfl) (Ents.refl _ _)) (fun x hx => ?_)
  obtain ⟨i, j, ls, a, c⟩ := x
  dsimp only at hx ⊢
  obtain ⟨hi, hj, hls, he⟩ := hx
  by_cases hlt : i < s.length
  · have hgi : s[i] = s.getD i 0 := by simp [hlt]
    have hst : splitOn 10 (s.take (i + 1)) = if s.getD i 0 = 10 then ls ++ [Go.X.part s j i] ++ [[]] else ls ++ [Go.X.part s j (i + 1)] := by
      have hp : Go.X.part s j (i + 1) = Go.X.part s j i ++ [s.getD i 0] := by
        rw [part_add (i := j) (j := i) (k := i + 1) hj (by omega) (by omega), show Go.X.part s i (i + 1) = [s.getD i 0] from slice_one hlt]
      rw [List.take_succ_eq_append_getElem hlt, hgi, splitOn_snoc, he, hp]
      split
      · rfl
      · simp
    repeat' first
      | refine J_seq ?_ | refine J_region Tryz.tyOK ?_ | refine J_block ?_ | refine J_cond ?_ | refine J_ret ?_ | refine J_skip ?_ | refine J_exit ?_ | refine J_scope ?_
      | refine CondP.yes (by omega) ?_ | refine CondP.no (by omega) ?_ | refine CondP.mk (fun h => ?_) (fun h => ?_) | refine EqP.mk rfl ?_ | refine NewP.mk (fun ad => ?_) | refine ArP.exact (by simp only [inR]; omega) ?_ | refine SideP.mk (by first | omega | (dsimp only; omega) | (simp; omega)) ?_
      | refine AppE.row [_] [] (ls.map C.s) [C.s (Go.X.part s j i)] 1 rfl (SrcE.sl 9 9 _ _ 1 1 _ rfl rfl (.inl ⟨1, List.Mem.head _⟩) rfl) (by dsimp only; omega) (fun a' c' => ?_) | refine Round.mk (i + 1, i + 1, ls ++ [Go.X.part s j i], a', c') (by dsimp only; omega) ⟨by dsimp only; omega, by dsimp only; omega, by simp; omega, ?_⟩ ?_ (Ents.drop.trans (Ents.of ?_)) | refine Round.mk (i + 1, j, ls, a, c) (by dsimp only; omega) ⟨by dsimp only; omega, by dsimp only; omega, by dsimp only; omega, ?_⟩ ?_ (Ents.refl _ _)
      | fail
    all_goals try simp only [Int.toNat_natCast] at *
    all_goals first
      | solve | (repeat' first | exact SubE.nil | refine SubE.cons rfl ?_ ?_ | exact VEq.refl _ | refine VEq.int (by omega) | refine VEq.sl rfl (by first | rfl | omega | (rw [List.length_append]; rfl) | (simp; omega)) rfl)
      | (simp; done)
      | (rw [hst, if_pos (show s.getD i 0 = 10 from byte_is (n := 10) (by decide) (by assumption)), part_nil]; done)
      | (rw [hst, if_neg (show ¬ s.getD i 0 = 10 from byte_not (n := 10) (by decide) (by assumption))]; done)
      | skip
  · have hil : i = s.length := by omega
    subst hil
    rw [List.take_length] at he
    rw [he]
    have hp : Go.X.part s j s.length = s.drop j := by unfold Go.X.part; rw [List.take_length]
    rw [hp]
    repeat' first
      | refine J_seq ?_ | refine J_region Tryz.tyOK ?_ | refine J_block ?_ | refine J_cond ?_ | refine J_ret ?_ | refine J_skip ?_ | refine J_exit ?_ | refine J_scope ?_
      | refine CondP.yes (by omega) ?_ | refine CondP.no (by omega) ?_ | refine CondP.mk (fun h => ?_) (fun h => ?_) | refine EqP.mk rfl ?_ | refine NewP.mk (fun ad => ?_) | refine ArP.exact (by simp only [inR]; omega) ?_ | refine SideP.mk (by first | omega | (dsimp only; omega) | (simp; omega)) ?_
      | refine AppE.row [_] [] (ls.map C.s) [C.s (s.drop j)] 1 rfl (SrcE.sl 9 9 _ _ 1 1 _ rfl rfl (.inl ⟨1, List.Mem.head _⟩) rfl) (by dsimp only; omega) (fun a' c' => ?_) | refine FinE.mk [_] [] ⟨a', c', ?_, rfl, rfl⟩ (Ents.drop.trans (Ents.of ?_))
      | fail
    all_goals first | (rw [List.length_append]; rfl) | (rw [List.map_append, List.length_append]; rfl)

end Go.Proofs
