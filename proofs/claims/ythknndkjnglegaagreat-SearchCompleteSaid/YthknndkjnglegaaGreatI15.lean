/- This text walks through the reading of lines in the reference of chapter 12: blanks, words, scopes, guards, lines of a text. -/
import Derived.Test.YthknndkjnglegaaGreatI12
import Derived.Test.YthknndkjnglegaaGreatI13
import Derived.Test.YthknndkjnglegaaGreatI14
import Derived.Lib.IndexAny
set_option linter.all false

namespace Go.X
theorem blank_T {c : UInt8} (h : (c.toNat : Int) = 9 ∨ (c.toNat : Int) = 32) : blankB c = true := by
  have : c = 9 ∨ c = 32 := by
    rcases h with h | h
    · left; apply UInt8.toNat_inj.1; have : (9 : UInt8).toNat = 9 := rfl; omega
    · right; apply UInt8.toNat_inj.1; have : (32 : UInt8).toNat = 32 := rfl; omega
  rcases this with rfl | rfl <;> decide
theorem blank_F {c : UInt8} (h : ¬ (c.toNat : Int) = 9) (h2 : ¬ (c.toNat : Int) = 32) : blankB c = false := by
  cases hb : blankB c with
  | false => rfl
  | true =>
    unfold blankB at hb
    simp only [Bool.or_eq_true, beq_iff_eq] at hb
    rcases hb with rfl | rfl
    · exact absurd rfl h2
    · exact absurd rfl h
theorem last_split {x : Bs} (h : 0 < x.length) : x = x.take (x.length - 1) ++ [x.getD (x.length - 1) 0] := by
  conv => lhs; rw [← List.take_append_drop (x.length - 1) x]
  congr 1
  rw [List.drop_eq_getElem_cons (by omega), show x.length - 1 + 1 = x.length by omega, List.drop_length]
  simp [show x.length - 1 < x.length by omega]
theorem dropE_snoc (r : Bs) (b : UInt8) : dropE (r ++ [b]) = if blankB b = true then dropE r else r ++ [b] := by
  unfold dropE
  rw [List.reverse_append, List.reverse_singleton, List.singleton_append, List.dropWhile_cons]
  split
  · rfl
  · simp
theorem dropE_yes {x : Bs} (h : 0 < x.length) (hb : blankB (x.getD (x.length - 1) 0) = true) : dropE x = dropE (x.take (x.length - 1)) := by
  conv => lhs; rw [last_split h, dropE_snoc, if_pos hb]
theorem dropE_no {x : Bs} (h : 0 < x.length) (hb : blankB (x.getD (x.length - 1) 0) = false) : dropE x = x := by
  conv => lhs; rw [last_split h, dropE_snoc, if_neg (by rw [hb]; simp), ← last_split h]
theorem head_split {x : Bs} (h : 0 < x.length) : x = x.getD 0 0 :: x.drop 1 := by cases x with
  | nil => simp at h
  | cons a r => rfl
theorem dropW_yes {p : UInt8 → Bool} {x : Bs} (h : 0 < x.length) (hb : p (x.getD 0 0) = true) : x.dropWhile p = (x.drop 1).dropWhile p := by
  conv => lhs; rw [head_split h, List.dropWhile_cons, if_pos hb]
theorem dropW_no {p : UInt8 → Bool} {x : Bs} (h : 0 < x.length) (hb : p (x.getD 0 0) = false) : x.dropWhile p = x := by
  conv => lhs; rw [head_split h, List.dropWhile_cons, if_neg (by rw [hb]; simp), ← head_split h]
theorem nb_T {c : UInt8} (h : ¬ (c.toNat : Int) = 9) (h2 : ¬ (c.toNat : Int) = 32) : nb c = true := by unfold nb; rw [blank_F h h2]; rfl
theorem nb_F {c : UInt8} (h : (c.toNat : Int) = 9 ∨ (c.toNat : Int) = 32) : nb c = false := by unfold nb; rw [blank_T h]; rfl
theorem words_sep {cur r : Bs} {b : UInt8} (h : blankB b = true) : wordsGo blankB cur (b :: r) = if cur = [] then wordsGo blankB [] r else cur :: wordsGo blankB [] r := by rw [wordsGo, h]
theorem words_in {cur r : Bs} {b : UInt8} (h : blankB b = false) : wordsGo blankB cur (b :: r) = wordsGo blankB (cur ++ [b]) r := by rw [wordsGo, h]
def spWord (n : Int) : Bs := if n = 0 then [60, 77, 97, 105, 110, 62] else [60] ++ spName n.toNat ++ [62]
theorem spWord_get : ∀ i, i < 6 → spWord (i : Nat) = spacesL.getD i [] := by decide
def scopeV (s : Bs) : (Int × Int × Bs) × Bool :=
  if s = wAll then ((1, 0, []), true) else if 0 ≤ idxS spacesL s then ((2, idxS spacesL s, []), true) else ((3, (parseT s).1, (parseT s).2.1), decide ((parseT s).2.2 = 0))
theorem scopeT_V (s : Bs) : scopeT s = if (scopeV s).2 = true then some (scopeV s).1 else none := by
  unfold scopeT scopeV
  split
  · rfl
  · split
    · rfl
    · simp
def grdV (s : Bs) : (Int × Bs) × Bs × Bool :=
  let c := cutAt 124 s
  if c.2.2 = true then (if trimT c.2.1 = [] then ((0, []), [], false) else (((parseT (trimT c.1)).1, (parseT (trimT c.1)).2.1), trimT c.2.1, decide ((parseT (trimT c.1)).2.2 = 0)))
  else (((parseT (trimT s)).1, (parseT (trimT s)).2.1), [], decide ((parseT (trimT s)).2.2 = 0))
theorem cutAt_no (c : UInt8) : ∀ s : Bs, (cutAt c s).2.2 = false → (cutAt c s).1 = s ∧ (cutAt c s).2.1 = []
  | [], _ => ⟨rfl, rfl⟩
  | x :: r, h => by
    have ih := cutAt_no c r
    simp only [cutAt] at h ⊢
    split at h
    · cases h
    · rename_i hx
      rw [if_neg hx]
      have := ih h
      exact ⟨by simp [this.1], this.2⟩
theorem guardW_V {q : P3} {st : Bool} {w : List Bs} {x : Bs} (hw : ¬ w.length < 2) : guardW q st w x = if (grdV x).2.2 = true then (true, (q.1, q.2.1, q.2.2 ++ [⟨st, w.getD 0 [], (grdV x).1.1, (grdV x).1.2, (grdV x).2.1⟩])) else (false, q) := by
  unfold guardW grdV
  rw [if_neg hw]
  simp only
  cases h : (cutAt 124 x).2.2 with
  | true =>
    simp only [if_true, true_and]
    by_cases ht : trimT (cutAt 124 x).2.1 = []
    · simp [ht]
    · by_cases hp : (parseT (trimT (cutAt 124 x).1)).2.2 = 0
      · simp [ht, hp]
      · simp [ht, hp]
  | false =>
    obtain ⟨h1, h2⟩ := cutAt_no 124 x h
    rw [h1, h2]
    by_cases hp : (parseT (trimT x)).2.2 = 0
    · simp [hp, trimT_nil]
    · simp [hp]
end Go.X
namespace Go.Proofs
open Go Go.X
set_option maxRecDepth 100000
set_option maxHeartbeats 4000000
theorem trimEnd_ok (s : Bs) (hs : s.length ≤ 9223372036854775807) : FnS Tryz.prog 194 [.c (.s s)] [] [] (Is (.c (.s (dropE s)))) := by
  refine fn_of_J Tryz.tyOK 0 Tryz.func194 (by kernel_rfl) (c := Tryz.f194.body.getD .skip) (by kernel_rfl) Tryz.ntmps194 (rs := Tryz.f194.results.toList) rfl (by simp) (fun G => ?_)
  repeat' first | refine J_seq ?_ | refine J_region Tryz.tyOK ?_ | refine J_block ?_ | refine J_cond ?_ | refine J_ret ?_ | refine J_skip ?_ | refine J_exit ?_ | refine J_scope ?_ | refine CondP.y ?_ | refine CondP.n ?_ | refine CondP.mk (fun h => ?_) (fun h => ?_) | refine EqP.mk rfl ?_ | refine NewP.mk (fun ad => ?_) | refine ArP.x ?_ | refine SideP.a ?_ | fail
  refine J_loop (α := Bs) (fun x => [(0, .c (.s x))]) (fun _ => []) (fun _ => []) 0 (fun x => x.length ≤ s.length ∧ dropE s = dropE x) (fun x => x.length) (InFam.mk s ⟨Nat.le_refl _, rfl⟩ SubE.a (Ents.refl _ _)) (fun x hx => ?_)
  obtain ⟨hl, he⟩ := hx
  have hk : ((x.length : Int) - 1).toNat = x.length - 1 := by omega
  repeat' first | refine J_seq ?_ | refine J_region Tryz.tyOK ?_ | refine J_block ?_ | refine J_cond ?_ | refine J_ret ?_ | refine J_skip ?_ | refine J_exit ?_ | refine J_scope ?_ | refine CondP.y ?_ | refine CondP.n ?_ | refine CondP.mk (fun h => ?_) (fun h => ?_) | refine EqP.mk rfl ?_ | refine NewP.mk (fun ad => ?_) | refine ArP.x ?_ | refine SideP.a ?_ | refine Round.mk (x.take ((x.length : Int) - 1).toNat) (by rw [List.length_take]; omega) ⟨by rw [List.length_take]; omega, ?_⟩ SubE.a (Ents.refl _ _) | refine FinE.str ?_ | fail
  all_goals
    (try simp only [hk] at *)
    first
      | (rw [he]; exact dropE_yes (by omega) (blank_T (by omega)))
      | (rw [he]; exact dropE_no (by omega) (blank_F (by omega) (by omega)))
      | (rw [he, show x = [] from List.eq_nil_of_length_eq_zero (by omega)]; rfl)
theorem refTrim_ok (s : Bs) (hs : s.length ≤ 9223372036854775807) : FnS Tryz.prog 184 [.c (.s s)] [] [] (Is (.c (.s (trimT s)))) := by
  refine fn_of_J Tryz.tyOK 0 Tryz.func184 (by kernel_rfl) (c := Tryz.f184.body.getD .skip) (by kernel_rfl) Tryz.ntmps184 (rs := Tryz.f184.results.toList) rfl (by simp) (fun G => ?_)
  repeat' first | refine J_seq ?_ | refine J_region Tryz.tyOK ?_ | refine J_block ?_ | refine J_cond ?_ | refine J_ret ?_ | refine J_skip ?_ | refine J_exit ?_ | refine J_scope ?_ | refine CondP.y ?_ | refine CondP.n ?_ | refine CondP.mk (fun h => ?_) (fun h => ?_) | refine EqP.mk rfl ?_ | refine NewP.mk (fun ad => ?_) | refine ArP.x ?_ | refine SideP.a ?_ | fail
  refine J_loop (α := Bs) (fun x => [(0, .c (.s x))]) (fun _ => []) (fun _ => []) 0 (fun x => x.length ≤ s.length ∧ dropL s = dropL x) (fun x => x.length) (InFam.mk s ⟨Nat.le_refl _, rfl⟩ SubE.a (Ents.refl _ _)) (fun x hx => ?_)
  obtain ⟨hl, he⟩ := hx
  have c1 := trimEnd_ok x (by omega)
  repeat' first | refine J_seq ?_ | refine J_region Tryz.tyOK ?_ | refine J_block ?_ | refine J_cond ?_ | refine J_ret ?_ | refine J_skip ?_ | refine J_exit ?_ | refine J_scope ?_ | refine CondP.y ?_ | refine CondP.n ?_ | refine CondP.mk (fun h => ?_) (fun h => ?_) | refine EqP.mk rfl ?_ | refine NewP.mk (fun ad => ?_) | refine ArP.x ?_ | refine SideP.a ?_ | refine CallP.is c1 ?_ | refine Round.mk (x.drop 1) (by rw [List.length_drop]; omega) ⟨by rw [List.length_drop]; omega, ?_⟩ SubE.a (Ents.refl _ _) | refine FinE.str ?_ | fail
  all_goals
    (try simp only [Int.toNat_zero] at *)
    first
      | (rw [he]; exact dropW_yes (by omega) (blank_T (by omega)))
      | (rw [trimT_eq, dropLE, he, show dropL x = x from dropW_no (by omega) (blank_F (by omega) (by omega))])
      | (rw [trimT_eq, dropLE, he, show x = [] from List.eq_nil_of_length_eq_zero (by omega)]; rfl)
theorem refWords_ok (s : Bs) (hs : s.length ≤ 1000000) : FnS Tryz.prog 152 [.c (.s s)] [] [] (fun v L D => ∃ a c, v = .c (.sl a (wordsT blankB s).length c) ∧ L = [.row 9 1 a (wordsT blankB s).length c ((wordsT blankB s).map C.s)] ∧ D = []) := by
  refine fn_of_J Tryz.tyOK 0 Tryz.func152 (by kernel_rfl) (c := Tryz.f152.body.getD .skip) (by kernel_rfl) Tryz.ntmps152 (rs := Tryz.f152.results.toList) rfl (by simp) (fun G => ?_)
  repeat' first | refine J_seq ?_ | refine J_region Tryz.tyOK ?_ | refine J_block ?_ | refine J_cond ?_ | refine J_ret ?_ | refine J_skip ?_ | refine J_exit ?_ | refine J_scope ?_ | refine CondP.y ?_ | refine CondP.n ?_ | refine CondP.mk (fun h => ?_) (fun h => ?_) | refine EqP.mk rfl ?_ | refine NewP.mk (fun ad => ?_) | refine ArP.x ?_ | refine SideP.a ?_ | fail
  refine J_loop (α := Nat × Bs × List Bs × Option Addr × Nat) (fun x => [(0, .c (.s s)), (3, .c (.sl x.2.2.2.1 x.2.2.1.length x.2.2.2.2)), (4, .c (.s x.2.1)), (5, .c (.i .i64 x.1))]) (fun x => [.row 9 1 x.2.2.2.1 x.2.2.1.length x.2.2.2.2 (x.2.2.1.map C.s)]) (fun _ => []) 0
    (fun x => x.1 ≤ s.length ∧ x.2.1.length ≤ x.1 ∧ x.2.2.1.length ≤ x.1 ∧ wordsT blankB s = x.2.2.1 ++ wordsGo blankB x.2.1 (s.drop x.1)) (fun x => s.length - x.1) (InFam.mk (0, [], [], none, 0) ⟨Nat.zero_le _, Nat.le_refl _, Nat.le_refl _, rfl⟩ SubE.a Ents.nilRow) (fun x hx => ?_)
  obtain ⟨i, w, ws, a, c⟩ := x
  dsimp only at hx ⊢
  obtain ⟨hi, hw, hws, he⟩ := hx
  by_cases hlt : i < s.length
  · have h1 := slice_one hlt
    have hd : s.drop i = s.getD i 0 :: s.drop (i + 1) := by rw [List.drop_eq_getElem_cons hlt]; simp [hlt]
    have hl1 : ((s.take (i + 1)).drop i).length = 1 := by rw [h1]; rfl
    rw [hd] at he
    repeat' first | refine J_seq ?_ | refine J_region Tryz.tyOK ?_ | refine J_block ?_ | refine J_cond ?_ | refine J_ret ?_ | refine J_skip ?_ | refine J_exit ?_ | refine J_scope ?_ | refine CondP.y ?_ | refine CondP.n ?_ | refine CondP.mk (fun h => ?_) (fun h => ?_) | refine EqP.mk rfl ?_ | refine NewP.mk (fun ad => ?_) | refine ArP.x ?_ | refine SideP.a ?_ | refine AppE.row [_] [] (ws.map C.s) [C.s w] 1 rfl (SrcE.sl 9 9 _ _ 1 1 _ rfl rfl (.inl ⟨1, List.Mem.head _⟩) rfl) (by dsimp only; omega) (fun a' c' => ?_) | refine SideP.mk (Nat.le_trans (Nat.add_le_add hw (Nat.le_of_eq hl1)) (by omega)) ?_ | refine Round.mk (i + 1, [], ws ++ [w], a', c') (by dsimp only; omega) ⟨by dsimp only; omega, by simp, by simp; omega, ?_⟩ (SubE.cons rfl (VEq.refl _) (SubE.cons rfl (VEq.sl rfl (by simp) rfl) (SubE.cons rfl (VEq.refl _) (SubE.cons rfl (VEq.int (by omega)) SubE.nil)))) (Ents.drop.trans (Ents.of ?_)) | refine Round.mk (i + 1, [], ws, a, c) (by dsimp only; omega) ⟨by dsimp only; omega, by simp, by dsimp only; omega, ?_⟩ (SubE.cons rfl (VEq.refl _) (SubE.cons rfl (VEq.refl _) (SubE.cons rfl (VEq.refl _) (SubE.cons rfl (VEq.int (by omega)) SubE.nil)))) (Ents.refl _ _) | refine Round.mk (i + 1, w ++ (s.take (i + 1)).drop i, ws, a, c) (by dsimp only; omega) ⟨by dsimp only; omega, by rw [List.length_append, hl1]; dsimp only; omega, by dsimp only; omega, ?_⟩ (SubE.cons rfl (VEq.refl _) (SubE.cons rfl (VEq.refl _) (SubE.cons rfl (VEq.refl _) (SubE.cons rfl (VEq.int (by omega)) SubE.nil)))) (Ents.refl _ _) | fail
    all_goals try simp only [Int.toNat_natCast] at *
    all_goals first
      | solve | (repeat' first | exact SubE.nil | refine SubE.cons rfl ?_ ?_ | exact VEq.refl _ | refine VEq.int (by omega) | refine VEq.sl rfl (by first | rfl | omega | (rw [List.length_append]; rfl) | (simp; omega)) rfl)
      | (rw [he, words_sep (blank_T (by omega)), if_neg (by assumption), List.append_assoc]; rfl)
      | (rw [he, words_sep (blank_T (by omega)), if_pos (by assumption)]; done)
      | (rw [he, words_in (blank_F (by omega) (by omega)), h1]; done)
      | (simp; done)
  · have hil : i = s.length := by omega
    subst hil
    rw [List.drop_length, wordsGo] at he
    rw [he]
    by_cases hwn : w = []
    · rw [if_pos hwn, List.append_nil]
      repeat' first | refine J_seq ?_ | refine J_region Tryz.tyOK ?_ | refine J_block ?_ | refine J_cond ?_ | refine J_ret ?_ | refine J_skip ?_ | refine J_exit ?_ | refine J_scope ?_ | refine CondP.y ?_ | refine CondP.n ?_ | refine CondP.mk (fun h => ?_) (fun h => ?_) | refine EqP.mk rfl ?_ | refine NewP.mk (fun ad => ?_) | refine ArP.x ?_ | refine SideP.a ?_ | exact FinE.mk [_] [] ⟨a, c, rfl, rfl, rfl⟩ (Ents.refl _ _) | fail
    · rw [if_neg hwn]
      repeat' first | refine J_seq ?_ | refine J_region Tryz.tyOK ?_ | refine J_block ?_ | refine J_cond ?_ | refine J_ret ?_ | refine J_skip ?_ | refine J_exit ?_ | refine J_scope ?_ | refine CondP.y ?_ | refine CondP.n ?_ | refine CondP.mk (fun h => ?_) (fun h => ?_) | refine EqP.mk rfl ?_ | refine NewP.mk (fun ad => ?_) | refine ArP.x ?_ | refine SideP.a ?_ | refine AppE.row [_] [] (ws.map C.s) [C.s w] 1 rfl (SrcE.sl 9 9 _ _ 1 1 _ rfl rfl (.inl ⟨1, List.Mem.head _⟩) rfl) (by dsimp only; omega) (fun a' c' => ?_) | refine FinE.mk [_] [] ⟨a', c', ?_, rfl, rfl⟩ (Ents.drop.trans (Ents.of ?_)) | fail
      all_goals first | (rw [List.length_append]; rfl) | (rw [List.map_append, List.length_append]; rfl)
theorem refRest_ok (s : Bs) (n : Nat) (hs : s.length ≤ 1000000) (hn : n ≤ 1000) : FnS Tryz.prog 155 [.c (.s s), .c (.i .i64 n)] [] [] (Is (.c (.s (restT s n)))) := by
  refine fn_of_J Tryz.tyOK 0 Tryz.func155 (by kernel_rfl) (c := Tryz.f155.body.getD .skip) (by kernel_rfl) Tryz.ntmps155 (rs := Tryz.f155.results.toList) rfl (by simp) (fun G => ?_)
  repeat' first | refine J_seq ?_ | refine J_region Tryz.tyOK ?_ | refine J_block ?_ | refine J_cond ?_ | refine J_ret ?_ | refine J_skip ?_ | refine J_exit ?_ | refine J_scope ?_ | refine CondP.y ?_ | refine CondP.n ?_ | refine CondP.mk (fun h => ?_) (fun h => ?_) | refine EqP.mk rfl ?_ | refine NewP.mk (fun ad => ?_) | refine ArP.x ?_ | refine SideP.a ?_ | fail
  refine J_loop (α := Nat × Bs) (fun x => [(0, .c (.s x.2)), (1, .c (.i .i64 n)), (5, .c (.i .i64 x.1))]) (fun _ => []) (fun _ => []) 0 (fun x => x.1 ≤ n ∧ x.2.length ≤ s.length ∧ restT s n = restT x.2 (n - x.1)) (fun x => n - x.1) (InFam.mk (0, s) ⟨Nat.zero_le _, Nat.le_refl _, rfl⟩ SubE.a (Ents.refl _ _)) (fun x hx => ?_)
  obtain ⟨i, x⟩ := x
  dsimp only at hx ⊢
  obtain ⟨hi, hl, he⟩ := hx
  have c1 := refTrim_ok x (by omega)
  have htl := trimT_le x
  by_cases hlt : i < n
  · rw [show n - i = (n - (i + 1)) + 1 by omega, restT] at he
    generalize trimT x = t at *
    repeat' first | refine J_seq ?_ | refine J_region Tryz.tyOK ?_ | refine J_block ?_ | refine J_cond ?_ | refine J_ret ?_ | refine J_skip ?_ | refine J_exit ?_ | refine J_scope ?_ | refine CondP.y ?_ | refine CondP.n ?_ | refine CondP.mk (fun h => ?_) (fun h => ?_) | refine EqP.mk rfl ?_ | refine NewP.mk (fun ad => ?_) | refine ArP.x ?_ | refine SideP.a ?_ | refine CallP.is c1 ?_ | fail
    refine J_loop (α := Bs) (fun y => [(0, .c (.s y)), (1, .c (.i .i64 n)), (5, .c (.i .i64 i))]) (fun _ => []) (fun _ => []) 0 (fun y => y.length ≤ t.length ∧ t.dropWhile nb = y.dropWhile nb) (fun y => y.length) (InFam.mk t ⟨Nat.le_refl _, rfl⟩ SubE.a (Ents.refl _ _)) (fun y hy => ?_)
    obtain ⟨hyl, hye⟩ := hy
    rw [hye] at he
    repeat' first | refine J_seq ?_ | refine J_region Tryz.tyOK ?_ | refine J_block ?_ | refine J_cond ?_ | refine J_ret ?_ | refine J_skip ?_ | refine J_exit ?_ | refine J_scope ?_ | refine CondP.y ?_ | refine CondP.n ?_ | refine CondP.mk (fun h => ?_) (fun h => ?_) | refine EqP.mk rfl ?_ | refine NewP.mk (fun ad => ?_) | refine ArP.x ?_ | refine SideP.a ?_ | refine Round.mk (y.drop 1) (by rw [List.length_drop]; omega) ⟨by rw [List.length_drop]; omega, ?_⟩ SubE.a (Ents.refl _ _) | refine Round.mk (i + 1, y) (by dsimp only; omega) ⟨by dsimp only; omega, by dsimp only; omega, ?_⟩ SubE.a (Ents.refl _ _) | fail
    all_goals
      (try simp only [Int.toNat_zero] at *)
      first
        | (rw [hye]; exact dropW_yes (by omega) (nb_T (by omega) (by omega)))
        | (rw [he, dropW_no (p := nb) (x := y) (by omega) (nb_F (by omega))])
        | (rw [he, show y = [] from List.eq_nil_of_length_eq_zero (by omega)]; rfl)
  · rw [show n - i = 0 by omega, restT] at he
    repeat' first | refine J_seq ?_ | refine J_region Tryz.tyOK ?_ | refine J_block ?_ | refine J_cond ?_ | refine J_ret ?_ | refine J_skip ?_ | refine J_exit ?_ | refine J_scope ?_ | refine CondP.y ?_ | refine CondP.n ?_ | refine CondP.mk (fun h => ?_) (fun h => ?_) | refine EqP.mk rfl ?_ | refine NewP.mk (fun ad => ?_) | refine ArP.x ?_ | refine SideP.a ?_ | refine CallP.is c1 ?_ | refine FinE.str ?_ | fail
    exact he
theorem rightOf_ok (s : Bs) : FnS Tryz.prog 153 [.c (.s s)] [] [] (Is (.c (.i .i64 (idxS rightsL s + 1)))) := by
  refine fn_of_J Tryz.tyOK 0 Tryz.func153 (by kernel_rfl) (c := Tryz.f153.body.getD .skip) (by kernel_rfl) Tryz.ntmps153 (rs := Tryz.f153.results.toList) rfl (by simp) (fun G => ?_)
  repeat' first | refine J_seq ?_ | refine J_region Tryz.tyOK ?_ | refine J_block ?_ | refine J_cond ?_ | refine J_ret ?_ | refine J_skip ?_ | refine J_exit ?_ | refine J_scope ?_ | refine CondP.y ?_ | refine CondP.n ?_ | refine CondP.mk (fun h => ?_) (fun h => ?_) | refine EqP.mk rfl ?_ | refine NewP.mk (fun ad => ?_) | refine ArP.x ?_ | refine SideP.a ?_ | fail
  refine J_loop (α := Nat) (fun i => [(0, .c (.s s)), (3, .c (.sl (some ⟨ad, 0, none⟩) 6 6)), (4, .c (.i .i64 i))]) (fun _ => [.row 9 1 (some ⟨ad, 0, none⟩) 6 6 (([] :: rightsL).map C.s)]) (fun _ => []) 1
    (fun i => 1 ≤ i ∧ i ≤ 6 ∧ idxS rightsL s = if idxS (([] :: rightsL).drop i) s < 0 then -1 else idxS (([] :: rightsL).drop i) s + (i - 1)) (fun i => 6 - i) (InFam.mk 1 ⟨by omega, by omega, ?_⟩ SubE.a (Ents.refl _ _)) (fun i hi => ?_)
  · have := idxS_lt rightsL s
    show idxS rightsL s = if idxS rightsL s < 0 then -1 else idxS rightsL s + ((1 : Nat) - 1)
    split <;> omega
  obtain ⟨h1, hi, he⟩ := hi
  by_cases hlt : i < 6
  · have hlen : i < (([] :: rightsL) : List Bs).length := hlt
    have hcm := map_take1 (f := C.s) hlen
    rw [List.drop_eq_getElem_cons hlen, idxS] at he
    generalize (([] :: rightsL) : List Bs)[i] = y at *
    have hrd : Reads [.row 9 1 (some ⟨ad, 0, none⟩) 6 6 (([] :: rightsL).map C.s)] [] 9 1 (some ⟨ad, 0, none⟩) 6 (([] :: rightsL).map C.s) := .inl ⟨6, List.Mem.head _⟩
    have := idxS_lt (([] :: rightsL).drop (i + 1)) s
    repeat' first | refine J_seq ?_ | refine J_region Tryz.tyOK ?_ | refine J_block ?_ | refine J_cond ?_ | refine J_ret ?_ | refine J_skip ?_ | refine J_exit ?_ | refine J_scope ?_ | refine CondP.y ?_ | refine CondP.n ?_ | refine CondP.mk (fun h => ?_) (fun h => ?_) | refine EqP.mk rfl ?_ | refine NewP.mk (fun ad => ?_) | refine ArP.x ?_ | refine SideP.a ?_ | refine IdxE.mk 9 1 _ hrd (by omega) (by omega) ?_ | refine LoadE.mk 9 _ _ _ hrd (by omega) (by omega) (by omega) hcm ?_ | refine FinE.int ?_ | refine Round.mk (i + 1) (by omega) ⟨by omega, by omega, ?_⟩ SubE.a (Ents.refl _ _) | fail
    · rw [if_pos (Eq.symm (by assumption))] at he; rw [he, if_neg (by omega)]; omega
    · have hys : ¬ s = y := fun hh => absurd hh.symm (by assumption)
      rw [if_neg hys] at he; rw [he]
      by_cases h2 : idxS (([] :: rightsL).drop (i + 1)) s < 0
      · rw [if_pos h2, if_pos h2, if_pos (by omega)]
      · rw [if_neg h2, if_neg h2, if_neg (by omega)]; omega
  · have hil : i = 6 := by omega
    subst hil
    rw [show (([] :: rightsL) : List Bs).drop 6 = [] from rfl, idxS, if_pos (by omega)] at he
    repeat' first | refine J_seq ?_ | refine J_region Tryz.tyOK ?_ | refine J_block ?_ | refine J_cond ?_ | refine J_ret ?_ | refine J_skip ?_ | refine J_exit ?_ | refine J_scope ?_ | refine CondP.y ?_ | refine CondP.n ?_ | refine CondP.mk (fun h => ?_) (fun h => ?_) | refine EqP.mk rfl ?_ | refine NewP.mk (fun ad => ?_) | refine ArP.x ?_ | refine SideP.a ?_ | refine FinE.int ?_ | fail
    rw [he]; rfl
theorem spaceWord_ok (n : Int) : FnS Tryz.prog 182 [.c (.i .i64 n)] [] [] (Is (.c (.s (spWord n)))) := by
  have c1 := spaceName_ok n
  have hl := spName_le n.toNat
  unfold spWord
  generalize spName n.toNat = w at *
  refine fn_of_J Tryz.tyOK 0 Tryz.func182 (by kernel_rfl) (c := Tryz.f182.body.getD .skip) (by kernel_rfl) Tryz.ntmps182 (rs := Tryz.f182.results.toList) rfl (by simp) (fun G => ?_)
  repeat' first | refine J_seq ?_ | refine J_region Tryz.tyOK ?_ | refine J_block ?_ | refine J_cond ?_ | refine J_ret ?_ | refine J_skip ?_ | refine J_exit ?_ | refine J_scope ?_ | refine CondP.y ?_ | refine CondP.n ?_ | refine CondP.mk (fun h => ?_) (fun h => ?_) | refine EqP.mk rfl ?_ | refine NewP.mk (fun ad => ?_) | refine ArP.x ?_ | refine SideP.a ?_ | refine CallP.is c1 ?_ | refine FinE.str ?_ | fail
  · rw [if_pos (by assumption)]
  · rw [if_neg (by assumption)]
theorem readScope_ok (s : Bs) (hs : s.length ≤ 1000000) : FnS Tryz.prog 154 [.c (.s s)] [] [] (Is (.t2 (.agg [.i .i64 (scopeV s).1.1, .i .i64 (scopeV s).1.2.1, .s (scopeV s).1.2.2]) (.c (.b (scopeV s).2)))) := by
  have c2 := refParse_ok s hs
  unfold scopeV
  generalize parseT s = t at *
  obtain ⟨sp, tn, er⟩ := t
  by_cases hw : s = wAll
  · rw [if_pos hw]
    refine fn_of_J Tryz.tyOK 0 Tryz.func154 (by kernel_rfl) (c := Tryz.f154.body.getD .skip) (by kernel_rfl) Tryz.ntmps154 (rs := Tryz.f154.results.toList) rfl (by simp) (fun G => ?_)
    have hw' : s = [60, 97, 108, 108, 62] := hw
    repeat' first | refine CondP.yes hw' ?_ | refine J_seq ?_ | refine J_region Tryz.tyOK ?_ | refine J_block ?_ | refine J_cond ?_ | refine J_ret ?_ | refine J_skip ?_ | refine J_exit ?_ | refine J_scope ?_ | refine CondP.y ?_ | refine CondP.n ?_ | refine CondP.mk (fun h => ?_) (fun h => ?_) | refine EqP.mk rfl ?_ | refine NewP.mk (fun ad => ?_) | refine ArP.x ?_ | refine SideP.a ?_ | refine FinE.is rfl | fail
  · rw [if_neg hw]
    have hw' : ¬ s = [60, 97, 108, 108, 62] := hw
    refine fn_of_J Tryz.tyOK 0 Tryz.func154 (by kernel_rfl) (c := Tryz.f154.body.getD .skip) (by kernel_rfl) Tryz.ntmps154 (rs := Tryz.f154.results.toList) rfl (by simp) (fun G => ?_)
    repeat' first | refine CondP.no hw' ?_ | refine J_seq ?_ | refine J_region Tryz.tyOK ?_ | refine J_block ?_ | refine J_cond ?_ | refine J_ret ?_ | refine J_skip ?_ | refine J_exit ?_ | refine J_scope ?_ | refine CondP.y ?_ | refine CondP.n ?_ | refine CondP.mk (fun h => ?_) (fun h => ?_) | refine EqP.mk rfl ?_ | refine NewP.mk (fun ad => ?_) | refine ArP.x ?_ | refine SideP.a ?_ | fail
    refine J_loop (α := Nat) (fun i => [(0, .c (.s s)), (2, .c (.p 0 ad 0)), (4, .c (.i .i64 i))]) (fun _ => [.box 0 ad 150 [.i .i64 0, .i .i64 0, .s []]]) (fun _ => []) 1
      (fun i => i ≤ 6 ∧ idxS spacesL s = if idxS (spacesL.drop i) s < 0 then -1 else idxS (spacesL.drop i) s + i) (fun i => 6 - i) (InFam.mk 0 ⟨by omega, ?_⟩ SubE.a (Ents.refl _ _)) (fun i hi => ?_)
    · have := idxS_lt spacesL s
      rw [List.drop_zero]; split <;> omega
    obtain ⟨hi, he⟩ := hi
    by_cases hlt : i < 6
    · have hlen : i < spacesL.length := hlt
      have c1 := spaceWord_ok (i : Int)
      have hg : spWord (i : Int) = spacesL[i] := by rw [spWord_get i hlt]; simp [hlen]
      rw [hg] at c1
      rw [List.drop_eq_getElem_cons hlen, idxS] at he
      generalize spacesL[i] = y at *
      have := idxS_lt (spacesL.drop (i + 1)) s
      repeat' first | refine J_seq ?_ | refine J_region Tryz.tyOK ?_ | refine J_block ?_ | refine J_cond ?_ | refine J_ret ?_ | refine J_skip ?_ | refine J_exit ?_ | refine J_scope ?_ | refine CondP.y ?_ | refine CondP.n ?_ | refine CondP.mk (fun h => ?_) (fun h => ?_) | refine EqP.mk rfl ?_ | refine NewP.mk (fun ad => ?_) | refine ArP.x ?_ | refine SideP.a ?_ | refine CallP.is c1 ?_ | refine FinE.is ?_ | refine Round.mk (i + 1) (by omega) ⟨by omega, ?_⟩ SubE.a (Ents.refl _ _) | fail
      · rw [if_pos ‹s = y›, if_neg (by omega)] at he; rw [he, if_pos (by omega)]; simp; exact ⟨rfl, rfl⟩
      · rw [if_neg ‹¬ s = y›] at he; rw [he]
        by_cases h2 : idxS (spacesL.drop (i + 1)) s < 0
        · rw [if_pos h2, if_pos h2, if_pos (by omega)]
        · rw [if_neg h2, if_neg h2, if_neg (by omega)]; omega
    · have hil : i = 6 := by omega
      subst hil
      rw [show spacesL.drop 6 = [] from rfl, idxS, if_pos (by omega)] at he
      rw [if_neg (by omega)]
      repeat' first | refine J_seq ?_ | refine J_region Tryz.tyOK ?_ | refine J_block ?_ | refine J_cond ?_ | refine J_ret ?_ | refine J_skip ?_ | refine J_exit ?_ | refine J_scope ?_ | refine CondP.y ?_ | refine CondP.n ?_ | refine CondP.mk (fun h => ?_) (fun h => ?_) | refine EqP.mk rfl ?_ | refine NewP.mk (fun ad => ?_) | refine ArP.x ?_ | refine SideP.a ?_ | refine CallP.is c2 ?_ | refine FinE.is ?_ | fail
      · have h' : er = 0 := h
        simp only [h', decide_true]; rfl
      · have h' : ¬ er = 0 := h
        simp only [h', decide_false]; rfl
theorem readGuard_ok (s : Bs) (hs : s.length ≤ 1000000) : FnS Tryz.prog 156 [.c (.s s)] [] [] (Is (.t3 (.agg [.i .i64 (grdV s).1.1, .s (grdV s).1.2]) (.c (.s (grdV s).2.1)) (.c (.b (grdV s).2.2)))) := by
  have c0 := index_ok s [124] 0 hs (by decide) (by decide) (by omega)
  rw [refIdx_byte, ← index_byte, index_cut] at c0
  have ht := cutAt_take 124 s
  have hd := cutAt_drop 124 s
  have hl1 := cutAt_len1 124 s
  have hl2 := cutAt_len2 124 s
  unfold grdV
  generalize cutAt 124 s = c at *
  obtain ⟨x, y, b⟩ := c
  dsimp only at *
  cases b with
  | true =>
    obtain ⟨hd, hlt⟩ := hd rfl
    rw [if_pos rfl] at c0 ⊢
    have c1 : FnS Tryz.prog 184 [.c (.s (s.drop (x.length + 1)))] [] [] (Is (.c (.s (trimT y)))) := by rw [hd]; exact refTrim_ok y (by omega)
    have c2 : FnS Tryz.prog 184 [.c (.s (s.take x.length))] [] [] (Is (.c (.s (trimT x)))) := by rw [ht]; exact refTrim_ok x (by omega)
    have c3 := refParse_ok (trimT x) (by have := trimT_le x; omega)
    generalize parseT (trimT x) = t at *
    generalize trimT x = tx at *
    generalize trimT y = ty at *
    obtain ⟨sp, tn, er⟩ := t
    refine fn_of_J Tryz.tyOK 0 Tryz.func156 (by kernel_rfl) (c := Tryz.f156.body.getD .skip) (by kernel_rfl) Tryz.ntmps156 (rs := Tryz.f156.results.toList) rfl (by simp) (fun G => ?_)
    repeat' first | refine J_seq ?_ | refine J_region Tryz.tyOK ?_ | refine J_block ?_ | refine J_cond ?_ | refine J_ret ?_ | refine J_skip ?_ | refine J_exit ?_ | refine J_scope ?_ | refine CondP.y ?_ | refine CondP.n ?_ | refine CondP.mk (fun h => ?_) (fun h => ?_) | refine EqP.mk rfl ?_ | refine NewP.mk (fun ad => ?_) | refine ArP.x ?_ | refine SideP.a ?_ | refine CallP.is c0 ?_ | refine CallP.is c1 ?_ | refine CallP.is c2 ?_ | refine CallP.is c3 ?_ | refine FinE.is ?_ | fail
    · have h' : ty = [] := h
      simp only [h', if_true]; rfl
    · have h' : ¬ ty = [] := by assumption
      have h2 : er = 0 := by assumption
      simp only [h', h2, if_false, decide_true]; try rfl
    · have h' : ¬ ty = [] := by assumption
      have h2 : ¬ er = 0 := by assumption
      simp only [h', h2, if_false, decide_false]; try rfl
  | false =>
    rw [if_neg (by simp)] at c0 ⊢
    have c2 := refTrim_ok s (by omega)
    have c3 := refParse_ok (trimT s) (by have := trimT_le s; omega)
    generalize parseT (trimT s) = t at *
    generalize trimT s = tx at *
    obtain ⟨sp, tn, er⟩ := t
    refine fn_of_J Tryz.tyOK 0 Tryz.func156 (by kernel_rfl) (c := Tryz.f156.body.getD .skip) (by kernel_rfl) Tryz.ntmps156 (rs := Tryz.f156.results.toList) rfl (by simp) (fun G => ?_)
    repeat' first | refine J_seq ?_ | refine J_region Tryz.tyOK ?_ | refine J_block ?_ | refine J_cond ?_ | refine J_ret ?_ | refine J_skip ?_ | refine J_exit ?_ | refine J_scope ?_ | refine CondP.y ?_ | refine CondP.n ?_ | refine CondP.mk (fun h => ?_) (fun h => ?_) | refine EqP.mk rfl ?_ | refine NewP.mk (fun ad => ?_) | refine ArP.x ?_ | refine SideP.a ?_ | refine CallP.is c0 ?_ | refine CallP.is c2 ?_ | refine CallP.is c3 ?_ | refine FinE.is ?_ | fail
    · have h2 : er = 0 := by assumption
      simp only [h2, decide_true]; try rfl
    · have h2 : ¬ er = 0 := by assumption
      simp only [h2, decide_false]; try rfl
theorem lines_ok (s : Bs) (hs : s.length ≤ 1000000) : FnS Tryz.prog 112 [.c (.s s)] [] [] (fun v L D => ∃ a c, v = .c (.sl a (splitOn 10 s).length c) ∧ L = [.row 9 1 a (splitOn 10 s).length c ((splitOn 10 s).map C.s)] ∧ D = []) := by
  refine fn_of_J Tryz.tyOK 0 Tryz.func112 (by kernel_rfl) (c := Tryz.f112.body.getD .skip) (by kernel_rfl) Tryz.ntmps112 (rs := Tryz.f112.results.toList) rfl (by simp) (fun G => ?_)
  repeat' first | refine J_seq ?_ | refine J_region Tryz.tyOK ?_ | refine J_block ?_ | refine J_cond ?_ | refine J_ret ?_ | refine J_skip ?_ | refine J_exit ?_ | refine J_scope ?_ | refine CondP.y ?_ | refine CondP.n ?_ | refine CondP.mk (fun h => ?_) (fun h => ?_) | refine EqP.mk rfl ?_ | refine NewP.mk (fun ad => ?_) | refine ArP.x ?_ | refine SideP.a ?_ | fail
  refine J_loop (α := Nat × Nat × List Bs × Option Addr × Nat) (fun x => [(0, .c (.s s)), (3, .c (.sl x.2.2.2.1 x.2.2.1.length x.2.2.2.2)), (4, .c (.i .i64 x.2.1)), (5, .c (.i .i64 x.1))]) (fun x => [.row 9 1 x.2.2.2.1 x.2.2.1.length x.2.2.2.2 (x.2.2.1.map C.s)]) (fun _ => []) 1
    (fun x => x.1 ≤ s.length ∧ x.2.1 ≤ x.1 ∧ x.2.2.1.length ≤ x.1 ∧ splitOn 10 (s.take x.1) = x.2.2.1 ++ [Go.X.part s x.2.1 x.1]) (fun x => s.length - x.1) (InFam.mk (0, 0, [], some ⟨ad, 0, none⟩, 0) ⟨Nat.zero_le _, Nat.le_refl _, Nat.le_refl _, rfl⟩ SubE.a (Ents.refl _ _)) (fun x hx => ?_)
  obtain ⟨i, j, ls, a, c⟩ := x
  dsimp only at hx ⊢
  obtain ⟨hi, hj, hls, he⟩ := hx
  by_cases hlt : i < s.length
  · have hgi : s[i] = s.getD i 0 := by simp [hlt]
    have hst : splitOn 10 (s.take (i + 1)) = if s.getD i 0 = 10 then ls ++ [Go.X.part s j i] ++ [[]] else ls ++ [Go.X.part s j (i + 1)] := by
      have hp : Go.X.part s j (i + 1) = Go.X.part s j i ++ [s.getD i 0] := by
        rw [part_add (i := j) (j := i) (k := i + 1) hj (by omega) (by omega), show Go.X.part s i (i + 1) = [s.getD i 0] from slice_one hlt]
      rw [List.take_succ_eq_append_getElem hlt, hgi, splitOn_snoc, he, hp]
      split
      · rfl
      · simp
    repeat' first | refine J_seq ?_ | refine J_region Tryz.tyOK ?_ | refine J_block ?_ | refine J_cond ?_ | refine J_ret ?_ | refine J_skip ?_ | refine J_exit ?_ | refine J_scope ?_ | refine CondP.y ?_ | refine CondP.n ?_ | refine CondP.mk (fun h => ?_) (fun h => ?_) | refine EqP.mk rfl ?_ | refine NewP.mk (fun ad => ?_) | refine ArP.x ?_ | refine SideP.a ?_ | refine AppE.row [_] [] (ls.map C.s) [C.s (Go.X.part s j i)] 1 rfl (SrcE.sl 9 9 _ _ 1 1 _ rfl rfl (.inl ⟨1, List.Mem.head _⟩) rfl) (by dsimp only; omega) (fun a' c' => ?_) | refine Round.mk (i + 1, i + 1, ls ++ [Go.X.part s j i], a', c') (by dsimp only; omega) ⟨by dsimp only; omega, by dsimp only; omega, by simp; omega, ?_⟩ ?_ (Ents.drop.trans (Ents.of ?_)) | refine Round.mk (i + 1, j, ls, a, c) (by dsimp only; omega) ⟨by dsimp only; omega, by dsimp only; omega, by dsimp only; omega, ?_⟩ ?_ (Ents.refl _ _) | fail
    all_goals try simp only [Int.toNat_natCast] at *
    all_goals first
      | solve | (repeat' first | exact SubE.nil | refine SubE.cons rfl ?_ ?_ | exact VEq.refl _ | refine VEq.int (by omega) | refine VEq.sl rfl (by first | rfl | omega | (rw [List.length_append]; rfl) | (simp; omega)) rfl)
      | (simp; done)
      | (rw [hst, if_pos (show s.getD i 0 = 10 from byte_is (n := 10) (by decide) (by assumption)), part_nil]; done)
      | (rw [hst, if_neg (show ¬ s.getD i 0 = 10 from byte_not (n := 10) (by decide) (by assumption))]; done)
      | skip
  · have hil : i = s.length := by omega
    subst hil
    rw [List.take_length] at he
    rw [he]
    have hp : Go.X.part s j s.length = s.drop j := by unfold Go.X.part; rw [List.take_length]
    rw [hp]
    repeat' first | refine J_seq ?_ | refine J_region Tryz.tyOK ?_ | refine J_block ?_ | refine J_cond ?_ | refine J_ret ?_ | refine J_skip ?_ | refine J_exit ?_ | refine J_scope ?_ | refine CondP.y ?_ | refine CondP.n ?_ | refine CondP.mk (fun h => ?_) (fun h => ?_) | refine EqP.mk rfl ?_ | refine NewP.mk (fun ad => ?_) | refine ArP.x ?_ | refine SideP.a ?_ | refine AppE.row [_] [] (ls.map C.s) [C.s (s.drop j)] 1 rfl (SrcE.sl 9 9 _ _ 1 1 _ rfl rfl (.inl ⟨1, List.Mem.head _⟩) rfl) (by dsimp only; omega) (fun a' c' => ?_) | refine FinE.mk [_] [] ⟨a', c', ?_, rfl, rfl⟩ (Ents.drop.trans (Ents.of ?_)) | fail
    all_goals first | (rw [List.length_append]; rfl) | (rw [List.map_append, List.length_append]; rfl)
end Go.Proofs

/- This text walks through the checks of the package policy: groups, rules, guards, whole policies. -/
namespace Go.Proofs
open Go Go.X
set_option maxRecDepth 100000
theorem trimPrefix_le (s p : Bs) : (Lib.trimPrefix s p).length ≤ s.length := by
  unfold Lib.trimPrefix; split <;> simp
end Go.Proofs

/- This text walks through the check of whole policies of the package policy. -/
namespace Go.Proofs
open Go Go.X
set_option maxRecDepth 100000
set_option maxHeartbeats 4000000
/-- Sizes that every policy in memory has. -/
structure PolOK (p : PolM) : Prop where
  gc : p.gs.length ≤ p.gc
  gl : p.gs.length ≤ 9223372036854775807
  rl : p.rs.length ≤ 9223372036854775807
  xl : p.xs.length ≤ 9223372036854775807
  gb : ∀ g ∈ p.gs, g.name.length ≤ 9223372036854775807 ∧ g.mem.length ≤ 9223372036854775807 ∧ ∀ m ∈ g.mem, m.length ≤ 9223372036854775807
  rb : ∀ r ∈ p.rs, r.nm.length ≤ 9223372036854775807
  xb : ∀ x ∈ p.xs, x.nm.length ≤ 9223372036854775807 ∧ x.sect.length ≤ 9223372036854775807
theorem gp_names (gs : List GrpM) : (gpOf gs).map (·.1) = names gs := by simp [gpOf, names]
theorem grpErrs_len (gs : List GrpM) : (grpErrs (gpOf gs)).length = gs.length := by simp [grpErrs, gpOf]
theorem grpErrs_get (gs : List GrpM) {i : Nat} (hi : i < gs.length) : (grpErrs (gpOf gs))[i]'(by rw [grpErrs_len]; exact hi) = grpErr (names gs) ((names gs).take i) gs[i].name gs[i].mem := by
  simp [grpErrs, gpOf, names, Function.comp_def]
theorem firstErr_cons (e : Int) (r : List Int) : firstErr (e :: r) = if e = 0 then firstErr r else e := rfl
end Go.Proofs

/- This text walks through the checks of policies in the reference of chapter 12. -/
namespace Go.Proofs
open Go Go.X
set_option maxRecDepth 100000
set_option maxHeartbeats 4000000
theorem refValid_any (sp : Int) (s : Bs) (hs : s.length ≤ 9223372036854775807) : FnS Tryz.prog 82 [.agg [.i .i64 sp, .s s]] [] [] (Is (.c (.b (validT sp s)))) := by
  by_cases h : s.length ≤ 1000000
  · exact refValid_ok sp s h
  · have hv : validT sp s = false := by
      unfold validT
      rw [show decide (100 < (s.length : Int)) = true from decide_eq_true (by omega)]
      simp
    rw [hv]
    refine fn_of_J Tryz.tyOK 2000 Tryz.func82 (by kernel_rfl) (c := Tryz.f82.body.getD .skip) (by kernel_rfl) Tryz.ntmps82 (rs := Tryz.f82.results.toList) rfl (by simp) (fun G => ?_)
    repeat' first | refine J_seq ?_ | refine J_region Tryz.tyOK ?_ | refine J_block ?_ | refine J_cond ?_ | refine J_ret ?_ | refine J_skip ?_ | refine J_exit ?_ | refine J_scope ?_ | refine CondP.y ?_ | refine CondP.n ?_ | refine CondP.mk (fun h => ?_) (fun h => ?_) | refine EqP.mk rfl ?_ | refine NewP.mk (fun ad => ?_) | refine ArP.x ?_ | refine SideP.a ?_ | refine FinE.bool ?_ | fail
    all_goals rfl
theorem refExists_ok (a : Option Addr) (c : Nat) (gs : List GrpM) (s : Bs) (hl : gs.length ≤ 9223372036854775807) : FnS Tryz.prog 158 [.c (.sl a gs.length c), .c (.s s)] [] [slFact 0 2 a gs.length (gsC gs)] (Is (.c (.b (existsT (names gs) s)))) := by
  have hrd : ∀ L, Reads L [slFact 0 2 a gs.length (gsC gs)] 0 2 a gs.length (gsC gs) := fun L => .inr fun m h => h.1
  have c1 := refBuiltIn_ok s
  have hE : existsT (names gs) s = (builtT s || gs.any fun g => decide (g.name = s)) := by unfold existsT; rw [names_any]
  rw [hE]
  generalize builtT s = z at *
  refine fn_of_J Tryz.tyOK 0 Tryz.func158 (by kernel_rfl) (c := Tryz.f158.body.getD .skip) (by kernel_rfl) Tryz.ntmps158 (rs := Tryz.f158.results.toList) rfl (by simp) (fun G => ?_)
  repeat' first | refine J_seq ?_ | refine J_region Tryz.tyOK ?_ | refine J_block ?_ | refine J_cond ?_ | refine J_ret ?_ | refine J_skip ?_ | refine J_exit ?_ | refine J_scope ?_ | refine CondP.y ?_ | refine CondP.n ?_ | refine CondP.mk (fun h => ?_) (fun h => ?_) | refine EqP.mk rfl ?_ | refine NewP.mk (fun ad => ?_) | refine ArP.x ?_ | refine SideP.a ?_ | fail
  refine J_loop (α := Nat) (fun i => [(0, .c (.sl a gs.length c)), (1, .c (.s s)), (5, .c (.i .i64 i))]) (fun _ => []) (fun _ => [slFact 0 2 a gs.length (gsC gs)]) 0
    (fun i => i ≤ gs.length ∧ (gs.take i).any (fun g => decide (g.name = s)) = false) (fun i => gs.length - i) (InFam.mk 0 ⟨by omega, rfl⟩ SubE.a (Ents.refl _ _)) (fun i hi => ?_)
  obtain ⟨hi, hal⟩ := hi
  by_cases hlt : i < gs.length
  · have hany := any_take_succ (p := fun g : GrpM => decide (g.name = s)) hlt
    rw [hal, Bool.false_or] at hany
    have hg : ((gsC gs).drop (i * 2 + 0)).take 1 = [C.s gs[i].name] := by rw [gsC, flat_get (F := GrpM.cells) (z := 2) (fun _ => rfl) hlt (by omega)]; rfl
    have hall : gs.any (fun g => decide (g.name = s)) = ((gs.take (i + 1)).any (fun g => decide (g.name = s)) || (gs.drop (i + 1)).any (fun g => decide (g.name = s))) := by rw [← List.any_append, List.take_append_drop]
    generalize gs[i].name = y at *
    repeat' first | refine J_seq ?_ | refine J_region Tryz.tyOK ?_ | refine J_block ?_ | refine J_cond ?_ | refine J_ret ?_ | refine J_skip ?_ | refine J_exit ?_ | refine J_scope ?_ | refine CondP.y ?_ | refine CondP.n ?_ | refine CondP.mk (fun h => ?_) (fun h => ?_) | refine EqP.mk rfl ?_ | refine NewP.mk (fun ad => ?_) | refine ArP.x ?_ | refine SideP.a ?_ | refine IdxE.mk 0 2 _ (hrd _) (by omega) (by omega) ?_ | refine FldE.mk 0 2 _ _ (hrd _) (by omega) ?_ | refine LoadE.mk 0 _ _ _ (hrd _) (by omega) (by omega) (by first | omega | decide) hg ?_ | refine FinE.bool ?_ | refine Round.mk (i + 1) (by omega) ⟨by omega, ?_⟩ SubE.a (Ents.refl _ _) | fail
    · rw [hall, hany, decide_eq_true (show y = s by assumption)]; simp
    · rw [hany, decide_eq_false (show ¬ y = s by assumption)]
  · have hil : i = gs.length := by omega
    subst hil
    rw [List.take_length] at hal
    rw [hal, Bool.or_false]
    repeat' first | refine J_seq ?_ | refine J_region Tryz.tyOK ?_ | refine J_block ?_ | refine J_cond ?_ | refine J_ret ?_ | refine J_skip ?_ | refine J_exit ?_ | refine J_scope ?_ | refine CondP.y ?_ | refine CondP.n ?_ | refine CondP.mk (fun h => ?_) (fun h => ?_) | refine EqP.mk rfl ?_ | refine NewP.mk (fun ad => ?_) | refine ArP.x ?_ | refine SideP.a ?_ | refine CallP.is c1 ?_ | refine FinE.bool rfl | fail
theorem pfx_at {m : Bs} : Lib.hasPrefix m [64] = (decide (0 < (m.length : Int)) && decide (((m.getD 0 0).toNat : Int) = 64)) := by
  cases m with
  | nil => rfl
  | cons x r =>
    have h : (x.toNat : Int) = 64 ↔ x = 64 := byte_iff (x := x) (n := 64) (by decide)
    unfold Lib.hasPrefix
    rw [decide_eq_true (show 0 < (((x :: r).length : Nat) : Int) by simp), Bool.true_and, Bool.eq_iff_iff, decide_eq_true_eq]
    simp only [List.isPrefixOf, Bool.and_true, beq_iff_eq, List.getD_cons_zero]
    exact eq_comm.trans h.symm
theorem refGroup_ok (p : PolM) (i : Nat) (hi : i < p.gs.length) (hc : p.gs.length ≤ p.gc) (hl : p.gs.length ≤ 9223372036854775807) (hb : ∀ g ∈ p.gs, g.name.length ≤ 9223372036854775807 ∧ g.mem.length ≤ 9223372036854775807 ∧ ∀ m ∈ g.mem, m.length ≤ 9223372036854775807) :
    FnS Tryz.prog 157 [.c (.sl p.ga p.gs.length p.gc), .c (.i .i64 i)] [] p.facts (Is (.c (.i .i64 (grpErr (names p.gs) ((names p.gs).take i) p.gs[i].name p.gs[i].mem)))) := by
  have hgm : p.gs[i] ∈ p.gs := List.getElem_mem hi
  obtain ⟨hb1, hb2, hb3⟩ := hb _ hgm
  have hcell : ((gsC p.gs).drop (i * 2 + 0)).take 2 = p.gs[i].cells := by rw [gsC, flat_get (F := GrpM.cells) (z := 2) (fun _ => rfl) hi (by omega)]; rfl
  have hpre : (gsC p.gs).take (i * 2) = gsC (p.gs.take i) := flat_take (F := GrpM.cells) (z := 2) (fun _ => rfl) p.gs i (by omega)
  have hlen : (p.gs.take i).length = i := by simp; omega
  have hmem : ∀ m, allD m p.facts → SlF m 0 1 p.gs[i].a p.gs[i].mem.length (p.gs[i].mem.map C.s) := fun m h => h.2.1 _ hgm
  have hnt : names (p.gs.take i) = (names p.gs).take i := by simp [names, List.map_take]
  generalize hg : p.gs[i] = g at *
  have cf := refExists_ok (resl p.ga 0 p.gc 2) p.gc (p.gs.take i) g.name (by omega)
  rw [hlen, hnt] at cf
  have ce := fun s => refExists_ok p.ga p.gc p.gs s hl
  have hrg : ∀ L, Reads L (slFact 0 1 g.a g.mem.length (g.mem.map C.s) :: p.facts) 0 2 p.ga p.gs.length (gsC p.gs) := fun L => .inr fun m h => h.2.1
  have hrm : ∀ L, Reads L (slFact 0 1 g.a g.mem.length (g.mem.map C.s) :: p.facts) 0 1 g.a g.mem.length (g.mem.map C.s) := fun L => .inr fun m h => h.1
  have cn := refIsName_ok g.name hb1
  unfold grpErr
  generalize existsT ((names p.gs).take i) g.name = ex at *
  generalize isNameT g.name = isn at *
  refine fn_of_J Tryz.tyOK 0 Tryz.func157 (by kernel_rfl) (c := Tryz.f157.body.getD .skip) (by kernel_rfl) Tryz.ntmps157 (rs := Tryz.f157.results.toList) rfl (by simp) (fun G => ?_)
  refine J_mem (n' := 0) (D' := slFact 0 1 g.a g.mem.length (g.mem.map C.s) :: p.facts) (Ents.facts fun m h => ⟨hmem m h, h⟩) ?_
  cases isn
  · repeat' first | refine J_seq ?_ | refine J_region Tryz.tyOK ?_ | refine J_block ?_ | refine J_cond ?_ | refine J_ret ?_ | refine J_skip ?_ | refine J_exit ?_ | refine J_scope ?_ | refine CondP.y ?_ | refine CondP.n ?_ | refine CondP.mk (fun h => ?_) (fun h => ?_) | refine EqP.mk rfl ?_ | refine NewP.mk (fun ad => ?_) | refine ArP.x ?_ | refine SideP.a ?_ | refine IdxE.mk 0 2 _ (hrg _) (by omega) (by omega) ?_ | refine LoadE.mk 0 _ _ _ (hrg _) (by omega) (by omega) (by omega) hcell ?_ | refine CallP.is cn ?_ | refine FinE.int ?_ | fail
    rw [if_pos rfl]
  rw [if_neg (by simp)]
  cases ex
  · rw [if_neg (by simp)]
    by_cases h24 : 24 < (g.mem.length : Int)
    · rw [if_pos h24]
      repeat' first | refine J_seq ?_ | refine J_region Tryz.tyOK ?_ | refine J_block ?_ | refine J_cond ?_ | refine J_ret ?_ | refine J_skip ?_ | refine J_exit ?_ | refine J_scope ?_ | refine CondP.y ?_ | refine CondP.n ?_ | refine CondP.mk (fun h => ?_) (fun h => ?_) | refine EqP.mk rfl ?_ | refine NewP.mk (fun ad => ?_) | refine ArP.x ?_ | refine SideP.a ?_ | refine IdxE.mk 0 2 _ (hrg _) (by omega) (by omega) ?_ | refine LoadE.mk 0 _ _ _ (hrg _) (by omega) (by omega) (by omega) hcell ?_ | refine CallP.is cn ?_ | refine J_drawS (id := 4) Tryz.tyOK (by kernel_rfl) [0, 0, 3, 0, 8, 31] [0, 1, 2, 3, 4, 5] [] [5] true (by kernel_rfl) ?_ | refine EntP.mk Ents.a ?_ | refine CallQ.mk [slFact 0 2 (resl p.ga 0 p.gc 2) i (gsC (p.gs.take i))] _ cf (fun m h => ⟨hpre ▸ slFact_pre p.gc h.2.1 (by omega), trivial⟩) ?_ | refine FinE.int ?_ | fail
      rfl
    rw [if_neg h24]
    repeat' first | refine J_seq ?_ | refine J_region Tryz.tyOK ?_ | refine J_block ?_ | refine J_cond ?_ | refine J_ret ?_ | refine J_skip ?_ | refine J_exit ?_ | refine J_scope ?_ | refine CondP.y ?_ | refine CondP.n ?_ | refine CondP.mk (fun h => ?_) (fun h => ?_) | refine EqP.mk rfl ?_ | refine NewP.mk (fun ad => ?_) | refine ArP.x ?_ | refine SideP.a ?_ | refine IdxE.mk 0 2 _ (hrg _) (by omega) (by omega) ?_ | refine LoadE.mk 0 _ _ _ (hrg _) (by omega) (by omega) (by omega) hcell ?_ | refine CallP.is cn ?_ | refine J_drawS (id := 4) Tryz.tyOK (by kernel_rfl) [0, 0, 3, 0, 8, 31] [0, 1, 2, 3, 4, 5] [] [5] true (by kernel_rfl) ?_ | refine EntP.mk Ents.a ?_ | refine CallQ.mk [slFact 0 2 (resl p.ga 0 p.gc 2) i (gsC (p.gs.take i))] _ cf (fun m h => ⟨hpre ▸ slFact_pre p.gc h.2.1 (by omega), trivial⟩) ?_ | fail
    refine J_loop (α := Nat) (fun k => [(0, .c (.sl p.ga p.gs.length p.gc)), (5, .c (.p 0 ad 0)), (6, .c (.i .i64 k))]) (fun _ => [.box 0 ad 145 g.cells]) (fun _ => slFact 0 1 g.a g.mem.length (g.mem.map C.s) :: p.facts) 1
      (fun k => k ≤ g.mem.length ∧ memErr (names p.gs) g.mem = memErr (names p.gs) (g.mem.drop k)) (fun k => g.mem.length - k) (InFam.mk 0 ⟨by omega, rfl⟩ SubE.a (Ents.refl _ _)) (fun k hk => ?_)
    obtain ⟨hk, he⟩ := hk
    by_cases hlt : k < g.mem.length
    · have hcm := map_take1 (f := C.s) hlt
      rw [List.drop_eq_getElem_cons hlt, memErr] at he
      have hml := hb3 _ (List.getElem_mem hlt)
      generalize g.mem[k] = m at *
      by_cases hat : 0 < (m.length : Int) ∧ ((m.getD (0 : Int).toNat 0).toNat : Int) = 64
      · have hpf : Lib.hasPrefix m [64] = true := by rw [pfx_at, decide_eq_true hat.1, decide_eq_true (show ((m.getD 0 0).toNat : Int) = 64 from hat.2)]; rfl
        have htp : Lib.trimPrefix m [64] = m.drop 1 := by unfold Lib.trimPrefix; rw [if_pos (by first | exact hpf | simpa using hpf)]; rfl
        rw [hpf, htp] at he
        have c1 := refIsName_ok (m.drop 1) (by rw [List.length_drop]; omega)
        have c2 := ce (m.drop 1)
        obtain ⟨hat1, hat2⟩ := hat
        generalize isNameT (m.drop 1) = b1 at *
        generalize existsT (names p.gs) (m.drop 1) = b2 at *
        cases b1 <;> cases b2 <;>
        · repeat' first | refine CondP.yes hat2 ?_ | refine J_seq ?_ | refine J_region Tryz.tyOK ?_ | refine J_block ?_ | refine J_cond ?_ | refine J_ret ?_ | refine J_skip ?_ | refine J_exit ?_ | refine J_scope ?_ | refine CondP.y ?_ | refine CondP.n ?_ | refine CondP.mk (fun h => ?_) (fun h => ?_) | refine EqP.mk rfl ?_ | refine NewP.mk (fun ad => ?_) | refine ArP.x ?_ | refine SideP.a ?_ | refine IdxE.mk 0 1 _ (hrm _) (by omega) (by omega) ?_ | refine LoadE.mk 0 _ _ _ (hrm _) (by omega) (by omega) (by omega) hcm ?_ | refine CallP.is c1 ?_ | refine CallP.is c2 ?_ (fun _ h => ⟨h.2.1, trivial⟩) | refine FinE.int ?_ | refine Round.mk (k + 1) (by omega) ⟨by omega, ?_⟩ SubE.a (Ents.refl _ _) | fail
          all_goals (rw [he]; simp)
      · have hpf : Lib.hasPrefix m [64] = false := by
          rw [pfx_at, ← Bool.decide_and, decide_eq_false]
          exact hat
        have htp : Lib.trimPrefix m [64] = m := by unfold Lib.trimPrefix; rw [if_neg (by first | (rw [show Lib.hasPrefix m [64] = ([64] : Bs).isPrefixOf m from rfl] at hpf; rw [hpf]; simp) | (rw [hpf]; simp))]
        rw [hpf, htp] at he
        have c1 := refIsName_ok m hml
        generalize isNameT m = b1 at *
        cases b1 <;>
        · repeat' first | refine J_seq ?_ | refine J_region Tryz.tyOK ?_ | refine J_block ?_ | refine J_cond ?_ | refine J_ret ?_ | refine J_skip ?_ | refine J_exit ?_ | refine J_scope ?_ | refine CondP.y ?_ | refine CondP.n ?_ | refine CondP.mk (fun h => ?_) (fun h => ?_) | refine EqP.mk rfl ?_ | refine NewP.mk (fun ad => ?_) | refine ArP.x ?_ | refine SideP.a ?_ | refine IdxE.mk 0 1 _ (hrm _) (by omega) (by omega) ?_ | refine LoadE.mk 0 _ _ _ (hrm _) (by omega) (by omega) (by omega) hcm ?_ | refine CallP.is c1 ?_ | refine CallP.is (ce _) ?_ (fun _ h => ⟨h.2.1, trivial⟩) | refine FinE.int ?_ | refine Round.mk (k + 1) (by omega) ⟨by omega, ?_⟩ SubE.a (Ents.refl _ _) | fail
          all_goals first | (rw [he]; simp; done) | (exfalso; exact hat ⟨by assumption, by assumption⟩) | trace_state
    · have hkl : k = g.mem.length := by omega
      subst hkl
      rw [List.drop_length, memErr] at he
      repeat' first | refine J_seq ?_ | refine J_region Tryz.tyOK ?_ | refine J_block ?_ | refine J_cond ?_ | refine J_ret ?_ | refine J_skip ?_ | refine J_exit ?_ | refine J_scope ?_ | refine CondP.y ?_ | refine CondP.n ?_ | refine CondP.mk (fun h => ?_) (fun h => ?_) | refine EqP.mk rfl ?_ | refine NewP.mk (fun ad => ?_) | refine ArP.x ?_ | refine SideP.a ?_ | refine FinE.int ?_ | fail
      exact he
  · rw [if_pos rfl]
    repeat' first | refine J_seq ?_ | refine J_region Tryz.tyOK ?_ | refine J_block ?_ | refine J_cond ?_ | refine J_ret ?_ | refine J_skip ?_ | refine J_exit ?_ | refine J_scope ?_ | refine CondP.y ?_ | refine CondP.n ?_ | refine CondP.mk (fun h => ?_) (fun h => ?_) | refine EqP.mk rfl ?_ | refine NewP.mk (fun ad => ?_) | refine ArP.x ?_ | refine SideP.a ?_ | refine IdxE.mk 0 2 _ (hrg _) (by omega) (by omega) ?_ | refine LoadE.mk 0 _ _ _ (hrg _) (by omega) (by omega) (by omega) hcell ?_ | refine CallP.is cn ?_ | refine J_drawS (id := 4) Tryz.tyOK (by kernel_rfl) [0, 0, 3, 0, 8, 31] [0, 1, 2, 3, 4, 5] [] [5] true (by kernel_rfl) ?_ | refine EntP.mk Ents.a ?_ | refine CallQ.mk [slFact 0 2 (resl p.ga 0 p.gc 2) i (gsC (p.gs.take i))] _ cf (fun m h => ⟨hpre ▸ slFact_pre p.gc h.2.1 (by omega), trivial⟩) ?_ | refine FinE.int ?_ | fail
    rfl
theorem refScope_ok (k sp : Int) (nm : Bs) (hs : nm.length ≤ 9223372036854775807) : FnS Tryz.prog 159 [.agg [.i .i64 k, .i .i64 sp, .s nm]] [] [] (Is (.c (.b (scopeOK k sp nm)))) := by
  have c1 := refValid_any sp nm hs
  unfold scopeOK
  generalize validT sp nm = z at *
  refine fn_of_J Tryz.tyOK 0 Tryz.func159 (by kernel_rfl) (c := Tryz.f159.body.getD .skip) (by kernel_rfl) Tryz.ntmps159 (rs := Tryz.f159.results.toList) rfl (by simp) (fun G => ?_)
  repeat' first | refine J_seq ?_ | refine J_region Tryz.tyOK ?_ | refine J_block ?_ | refine J_cond ?_ | refine J_ret ?_ | refine J_skip ?_ | refine J_exit ?_ | refine J_scope ?_ | refine CondP.y ?_ | refine CondP.n ?_ | refine CondP.mk (fun h => ?_) (fun h => ?_) | refine EqP.mk rfl ?_ | refine NewP.mk (fun ad => ?_) | refine ArP.x ?_ | refine SideP.a ?_ | refine CallP.is c1 ?_ | refine FinE.bool ?_ | fail
  all_goals first | (change nm = [] at h) | (change ¬ nm = [] at h) | skip
  all_goals (simp [*]; try first | omega | (first | exact fun h1 => h ⟨h1, by assumption, trivial⟩ | exact fun h1 h2 => h ⟨h1, h2, trivial⟩))
theorem sect_idx (s : Bs) : (s.any fun c => c == 10 || c == 124) = !(decide (Lib.indexByte s 10 < 0) && decide (Lib.indexByte s 124 < 0)) := by
  have key : ∀ (c : UInt8) (s : Bs), decide (Lib.indexByte s c < 0) = !(s.any fun x => x == c) := fun c s => by
    induction s with
    | nil => rfl
    | cons x r ih =>
      rw [List.any_cons, Bool.not_or, ← ih]
      by_cases hx : x = c
      · subst hx; simp [Lib.indexByte]
      · have hx' : (x == c) = false := by simpa using hx
        rw [hx']
        have hge := Lib.indexByte_ge r c
        simp only [Lib.indexByte, hx', Bool.not_false, Bool.true_and]
        simp
        split
        · omega
        · omega
  rw [key, key]
  induction s with
  | nil => rfl
  | cons x r ih =>
    simp only [List.any_cons, ih]
    cases (x == 10) <;> cases (x == 124) <;> simp
theorem refSection_ok (s : Bs) (hs : s.length ≤ 9223372036854775807) : FnS Tryz.prog 160 [.c (.s s)] [] [] (Is (.c (.b (sectOK s)))) := by
  unfold sectOK
  by_cases h : 100 < (s.length : Int)
  · rw [decide_eq_true h]
    refine fn_of_J Tryz.tyOK 0 Tryz.func160 (by kernel_rfl) (c := Tryz.f160.body.getD .skip) (by kernel_rfl) Tryz.ntmps160 (rs := Tryz.f160.results.toList) rfl (by simp) (fun G => ?_)
    repeat' first | refine J_seq ?_ | refine J_region Tryz.tyOK ?_ | refine J_block ?_ | refine J_cond ?_ | refine J_ret ?_ | refine J_skip ?_ | refine J_exit ?_ | refine J_scope ?_ | refine CondP.y ?_ | refine CondP.n ?_ | refine CondP.mk (fun h => ?_) (fun h => ?_) | refine EqP.mk rfl ?_ | refine NewP.mk (fun ad => ?_) | refine ArP.x ?_ | refine SideP.a ?_ | refine FinE.bool ?_ | fail
    all_goals simp
  · rw [decide_eq_false h, sect_idx]
    have c0 := refTrim_ok s hs
    have c1 := index_ok s [10] 0 (by omega) (by decide) (by decide) (by omega)
    have c2 := index_ok s [124] 0 (by omega) (by decide) (by decide) (by omega)
    rw [refIdx_byte] at c1 c2
    generalize trimT s = t at *
    generalize Lib.indexByte s 10 = x at *
    generalize Lib.indexByte s 124 = y at *
    refine fn_of_J Tryz.tyOK 0 Tryz.func160 (by kernel_rfl) (c := Tryz.f160.body.getD .skip) (by kernel_rfl) Tryz.ntmps160 (rs := Tryz.f160.results.toList) rfl (by simp) (fun G => ?_)
    repeat' first | refine J_seq ?_ | refine J_region Tryz.tyOK ?_ | refine J_block ?_ | refine J_cond ?_ | refine J_ret ?_ | refine J_skip ?_ | refine J_exit ?_ | refine J_scope ?_ | refine CondP.y ?_ | refine CondP.n ?_ | refine CondP.mk (fun h => ?_) (fun h => ?_) | refine EqP.mk rfl ?_ | refine NewP.mk (fun ad => ?_) | refine ArP.x ?_ | refine SideP.a ?_ | refine CallP.is c0 ?_ | refine CallP.is c1 ?_ | refine CallP.is c2 ?_ | refine FinE.bool ?_ | fail
    all_goals (simp [*])
end Go.Proofs

/- This text walks through the reading of policy texts in the package policy: words, groups, rules, guards, lines. -/
namespace Go.Proofs
open Go Go.X
set_option maxRecDepth 100000
set_option maxHeartbeats 4000000
theorem gsC_snoc (l : List GrpM) (r : GrpM) : gsC (l ++ [r]) = gsC l ++ r.cells := by simp [gsC]
theorem rsC_snoc (l : List Rul) (r : Rul) : rsC (l ++ [r]) = rsC l ++ r.cells := by simp [rsC]
theorem xsC_snoc (l : List Grd) (r : Grd) : xsC (l ++ [r]) = xsC l ++ r.cells := by simp [xsC]
/-- A policy that is being read. -/
def polL (ad : Nat) (p : PolM) : List Chunk := [.box 1 ad 28 p.cells, .row 145 2 p.ga p.gs.length p.gc (gsC p.gs), .row 152 6 p.ra p.rs.length p.rc (rsC p.rs), .row 213 5 p.xa p.xs.length p.xc (xsC p.xs)]
def PolM.p3 (p : PolM) : P3 := (gpOf p.gs, p.rs, p.xs)
/-- What reading one line leaves. -/
abbrev stPost (ad : Nat) (r : Bool × P3) : V → List Chunk → List Fact → Prop := fun v L D => ∃ p : PolM, p.p3 = r.2 ∧ v = .c (.b r.1) ∧ L = polL ad p ∧ D = [memsF p.gs]
theorem memsF_add {m : Im} {gs : List GrpM} {g : GrpM} (h : (memsF gs).p m) (h2 : SlF m 0 1 g.a g.mem.length (g.mem.map C.s)) : (memsF (gs ++ [g])).p m := fun x hx => by
  rcases List.mem_append.1 hx with hx | hx
  · exact h x hx
  · rw [List.mem_singleton.1 hx]; exact h2
end Go.Proofs

/- This text walks through the reading of lines and of whole texts in the package policy. -/
namespace Go.Proofs
open Go Go.X
set_option maxRecDepth 100000
set_option maxHeartbeats 4000000
theorem stPost.of {ad : Nat} {r r' : Bool × P3} (h : r = r') : stPost ad r = stPost ad r' := by rw [h]
theorem PolOK.of {p : PolM} {B n : Nat} (h : P3B B n p.p3) (hB : B ≤ 1000000) (hn : n ≤ 1000000) (hc : p.gs.length ≤ p.gc) : PolOK p := by
  have hgl : p.gs.length ≤ n := by have := h.gl; simpa [PolM.p3, gpOf] using this
  refine ⟨hc, by omega, by have := h.rl; simp only [PolM.p3] at this; omega, by have := h.xl; simp only [PolM.p3] at this; omega, fun g hg => ?_, fun r hr => ?_, fun x hx => ?_⟩
  · have := h.gb (g.name, g.mem) (List.mem_map_of_mem hg)
    dsimp only at this
    exact ⟨by omega, by omega, fun m hm => by have := this.2.2 m hm; omega⟩
  · have := h.rb r hr; omega
  · have := h.xb x hx; omega
/-- A policy of nothing. -/
def polNil : PolM := ⟨none, 0, [], none, 0, [], none, 0, []⟩
/-- A policy that was read: its memory stays. -/
abbrev parsePost (r : P3 × Int × Int) : V → List Chunk → List Fact → Prop := fun v L D => ∃ p : PolM, p.p3 = r.1 ∧ p.gs.length ≤ p.gc ∧ P3B 8192 8193 p.p3 ∧ v = .t3 (.agg p.cells) (.c (.i .i64 r.2.1)) (.c (.i .i64 r.2.2)) ∧ L = [] ∧ D = p.facts
theorem slF_nil (e z : Nat) (m : Im) : SlF m e z none 0 [] := ⟨fun _ h => (by cases h), .inl ⟨rfl, rfl⟩⟩
theorem polNil_facts (m : Im) : allD m polNil.facts := ⟨slF_nil 0 _ _, (fun _ h => by cases h), slF_nil 0 _ _, slF_nil 0 _ _, trivial⟩
end Go.Proofs
