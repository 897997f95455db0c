/- This text walks through the statements TitleRoundTrip, TitleBlanks, TitleSpaces, TitleAncestors and TitleBelow: each answers true. -/
import Derived.Test.YtimekkilmffpiaaDoorTape
import Derived.Test.YtimekkilmffpiaaDoorTitleLaw
set_option linter.all false

namespace Go.Proofs
open Go Go.X
set_option maxRecDepth 100000

theorem titleRoundTrip_law (s : List UInt8) (hs : s.length ≤ maxLen) : FnS Tryd.prog 5 [.c (.s s)] [] [gInt 0] (Is tt) := by
  simp only [maxLen] at hs
  refine fn_of_J Tryd.tyOK 0 Tryd.func5 (by kernel_rfl) (c := Tryd.f5.body.getD .skip) (by kernel_rfl) Tryd.ntmps5 (rs := Tryd.f5.results.toList) rfl (by simp) (fun G => ?_)
  repeat' first
    | refine J_stop (c := .seq (.region 3 _ _) _) ?_
    | refine J_seq ?_ | refine J_region Tryd.tyOK ?_ | refine J_block ?_ | refine J_cond ?_ | refine J_ret ?_ | refine J_skip ?_ | refine J_exit ?_
    | refine CondP.yes (by omega) ?_ | refine CondP.no (by omega) ?_ | refine CondP.mk (fun h => ?_) (fun h => ?_) | refine EqP.mk rfl ?_ | refine NewP.mk (fun ad => ?_) | refine ArP.exact (by simp only [inR]; omega) ?_ | refine SideP.mk (by first | omega | (dsimp only; omega) | (simp; omega)) ?_
    | refine CallP.is known_ok ?_ | refine FinE.is ?_
    | fail
  · rfl
  have c1 := Go.Proofs.parse_ok s (by omega)
  have hv := @Go.X.parse_ok s
  have he := @Go.X.parse_err s
  generalize hr : parseT s = r at *
  obtain ⟨sp, n, e⟩ := r
  have c2 := valid_ok sp n
  have c3 := format_ok sp n
  have hf := formatT_le sp n
  have c4 := Go.Proofs.parse_ok (formatT sp n) (by omega)
  have c5 := Go.Proofs.parse_ok ([58] ++ formatT sp n) (by simp; omega)
  have hb := @validT_bounds sp n
  by_cases h0 : e = 0
  · subst h0
    have hv := hv rfl
    have hb := hb hv
    have c2 := c2 (by omega)
    have c3 := c3 (by omega)
    rw [parse_format hv] at c4
    rw [show [58] ++ formatT sp n = 58 :: formatT sp n from rfl, parse_colon hv] at c5
    rw [hv] at c2
    rw [show 58 :: formatT sp n = [58] ++ formatT sp n from rfl] at c5
    generalize formatT sp n = q at *
    refine ⟨?_⟩
    refine J_seq ?_
    repeat' first
      | refine J_seq ?_ | refine J_region Tryd.tyOK ?_ | refine J_block ?_ | refine J_cond ?_ | refine J_ret ?_ | refine J_skip ?_ | refine J_exit ?_
      | refine CondP.yes (by omega) ?_ | refine CondP.no (by omega) ?_ | refine CondP.mk (fun h => ?_) (fun h => ?_) | refine EqP.mk rfl ?_ | refine NewP.mk (fun ad => ?_) | refine ArP.exact (by simp only [inR]; omega) ?_ | refine SideP.mk (by first | omega | (dsimp only; omega) | (simp; omega)) ?_
      | refine CallP.is c1 ?_ | refine CallP.is c3 ?_ | refine CallP.is c4 ?_ | refine CallP.is c5 ?_ | refine CallP.is c2 ?_ | refine CallP.is known_ok ?_ | refine FinE.is ?_ | refine SideP.mk (by simp; omega) ?_
      | fail
    all_goals first | rfl | (exfalso; simp at *)
  · obtain ⟨rfl, rfl⟩ := he rfl h0
    refine ⟨?_⟩
    refine J_seq ?_
    repeat' first
      | refine J_seq ?_ | refine J_region Tryd.tyOK ?_ | refine J_block ?_ | refine J_cond ?_ | refine J_ret ?_ | refine J_skip ?_ | refine J_exit ?_
      | refine CondP.yes (by omega) ?_ | refine CondP.no (by omega) ?_ | refine CondP.mk (fun h => ?_) (fun h => ?_) | refine EqP.mk rfl ?_ | refine NewP.mk (fun ad => ?_) | refine ArP.exact (by simp only [inR]; omega) ?_ | refine SideP.mk (by first | omega | (dsimp only; omega) | (simp; omega)) ?_
      | refine CallP.is c1 ?_ | refine CallP.is known_ok ?_ | refine FinE.is ?_
      | fail
    all_goals first | rfl | (exfalso; simp at *)

/-- n times "_ " and " _" around a text. -/
def aroundN (s : List UInt8) : Nat → List UInt8
  | 0 => s
  | n + 1 => [95, 32] ++ aroundN s n ++ [32, 95]
theorem around_len (s : List UInt8) : ∀ n, (aroundN s n).length = s.length + 4 * n
  | 0 => by simp [aroundN]
  | n + 1 => by simp [aroundN, around_len s n]; omega
theorem around_single (s : List UInt8) : ∀ n, singleB (usc (aroundN s n)) = singleB (usc s)
  | 0 => rfl
  | n + 1 => by rw [aroundN, single_around, around_single s n]

def lineB (x : UInt8) : UInt8 := if x = 32 then 95 else x

theorem titleBlanks_law (s : List UInt8) (n : Int) (hs : s.length ≤ maxLen) : FnS Tryd.prog 6 [.c (.s s), .c (.i .i64 n)] [] [gInt 0] (Is tt) := by
  simp only [maxLen] at hs
  have hn : 0 ≤ bitsV .and .i64 n 7 ∧ bitsV .and .i64 n 7 ≤ 7 := bitsAnd_range n 7 (by decide)
  by_cases hlen : s.length ≤ 300
  rotate_left
  · refine fn_of_J Tryd.tyOK 0 Tryd.func6 (by kernel_rfl) (c := Tryd.f6.body.getD .skip) (by kernel_rfl) Tryd.ntmps6 (rs := Tryd.f6.results.toList) rfl (by simp) (fun G => ?_)
    repeat' first
      | refine J_seq ?_ | refine J_region Tryd.tyOK ?_ | refine J_block ?_ | refine J_cond ?_ | refine J_ret ?_ | refine J_skip ?_ | refine J_exit ?_
      | refine CondP.yes (by omega) ?_ | refine CondP.no (by omega) ?_ | refine CondP.mk (fun h => ?_) (fun h => ?_) | refine EqP.mk rfl ?_ | refine NewP.mk (fun ad => ?_) | refine ArP.exact (by simp only [inR]; omega) ?_ | refine SideP.mk (by first | omega | (dsimp only; omega) | (simp; omega)) ?_
      | refine CallP.is known_ok ?_ | refine FinE.is ?_
      | fail
    rfl
  have hk : ∃ k : Nat, bitsV .and .i64 n 7 = k ∧ k ≤ 7 := ⟨(bitsV .and .i64 n 7).toNat, by omega, by omega⟩
  obtain ⟨k, hk, hk7⟩ := hk
  clear hn
  have c1 := Go.Proofs.parse_ok s (by omega)
  have c2 := Go.Proofs.parse_ok (aroundN s k) (by rw [around_len]; omega)
  have c3 := Go.Proofs.parse_ok (s.map lineB) (by simp; omega)
  rw [parse_of_single (around_single s k)] at c2
  have e3 : singleB (usc (s.map lineB)) = singleB (usc s) := by rw [show s.map lineB = s.map (fun x => if x = 32 then 95 else x) from rfl, usc_lines]
  rw [parse_of_single e3] at c3
  generalize parseT s = r at *
  obtain ⟨sp, nm, e⟩ := r
  have hal := around_len s
  refine fn_of_J Tryd.tyOK 0 Tryd.func6 (by kernel_rfl) (c := Tryd.f6.body.getD .skip) (by kernel_rfl) Tryd.ntmps6 (rs := Tryd.f6.results.toList) rfl (by simp) (fun G => ?_)
  repeat' first
    | refine J_stop (c := .seq (.seq (.region 4 _ _) _) _) ?_
    | refine J_seq ?_ | refine J_region Tryd.tyOK ?_ | refine J_block ?_ | refine J_cond ?_ | refine J_ret ?_ | refine J_skip ?_ | refine J_exit ?_
    | refine CondP.yes (by omega) ?_ | refine CondP.no (by omega) ?_ | refine CondP.mk (fun h => ?_) (fun h => ?_) | refine EqP.mk rfl ?_ | refine NewP.mk (fun ad => ?_) | refine ArP.exact (by simp only [inR]; omega) ?_ | refine SideP.mk (by first | omega | (dsimp only; omega) | (simp; omega)) ?_
    | fail
    | fail
  refine ⟨?_⟩
  refine J_cut (x := .seq (.region 4 _ _) _) (α := Unit) (fun _ => [(0, .c (.s s)), (5, .c (.s (aroundN s k))), (6, .c (.s []))]) (fun _ => []) (fun _ => [gInt 0]) 0 (fun _ => True) ?_ (fun _ _ => ?_)
  · repeat' first
      | refine J_seq ?_ | refine J_region Tryd.tyOK ?_ | refine J_block ?_ | refine J_cond ?_ | refine J_ret ?_ | refine J_skip ?_ | refine J_exit ?_
      | refine CondP.yes (by omega) ?_ | refine CondP.no (by omega) ?_ | refine CondP.mk (fun h => ?_) (fun h => ?_) | refine EqP.mk rfl ?_ | refine NewP.mk (fun ad => ?_) | refine ArP.exact (by simp only [inR]; omega) ?_ | refine SideP.mk (by first | omega | (dsimp only; omega) | (simp; omega)) ?_
      | fail
    refine J_loop (α := Nat) (fun i => [(0, .c (.s s)), (1, .c (.i .i64 n)), (5, .c (.s (aroundN s i))), (6, .c (.s [])), (7, .c (.i .i64 i))]) (fun _ => []) (fun _ => [gInt 0]) 0 (fun i => i ≤ k) (fun i => k - i)
      (InFam.mk 0 (by omega) (by repeat' first | exact SubE.nil | refine SubE.cons rfl ?_ ?_ | exact VEq.refl _ | refine VEq.int (by omega) | refine VEq.sl rfl (by first | rfl | omega | (rw [List.length_append]; rfl) | (simp; omega)) rfl) (Ents.refl _ _)) (fun i hi => ?_)
    have hai := hal i
    by_cases hlt : i < k
    · repeat' first
        | refine J_seq ?_ | refine J_region Tryd.tyOK ?_ | refine J_block ?_ | refine J_cond ?_ | refine J_ret ?_ | refine J_skip ?_ | refine J_exit ?_
        | refine CondP.yes (by omega) ?_ | refine CondP.no (by omega) ?_ | refine CondP.mk (fun h => ?_) (fun h => ?_) | refine EqP.mk rfl ?_ | refine NewP.mk (fun ad => ?_) | refine ArP.exact (by simp only [inR]; omega) ?_ | refine SideP.mk (by first | omega | (dsimp only; omega) | (simp; omega)) ?_
        | refine CondP.yes (by rw [hk]; omega) ?_ | refine SideP.mk (by simp; omega) ?_ | refine Round.mk (i + 1) (by omega) (by omega) (SubE.cons rfl (VEq.refl _) (SubE.cons rfl (VEq.refl _) (SubE.cons rfl (VEq.refl _) (SubE.cons rfl (VEq.refl _) (SubE.cons rfl (VEq.int (by omega)) SubE.nil))))) (Ents.refl _ _)
        | fail
      all_goals (exfalso; rename_i h; exact h (by rw [hk]; omega))
    · have hil : i = k := by omega
      subst hil
      repeat' first
        | refine J_seq ?_ | refine J_region Tryd.tyOK ?_ | refine J_block ?_ | refine J_cond ?_ | refine J_ret ?_ | refine J_skip ?_ | refine J_exit ?_
        | refine CondP.yes (by omega) ?_ | refine CondP.no (by omega) ?_ | refine CondP.mk (fun h => ?_) (fun h => ?_) | refine EqP.mk rfl ?_ | refine NewP.mk (fun ad => ?_) | refine ArP.exact (by simp only [inR]; omega) ?_ | refine SideP.mk (by first | omega | (dsimp only; omega) | (simp; omega)) ?_
        | refine InFam.mk () trivial (by repeat' first | exact SubE.nil | refine SubE.cons rfl ?_ ?_ | exact VEq.refl _ | refine VEq.int (by omega) | refine VEq.sl rfl (by first | rfl | omega | (rw [List.length_append]; rfl) | (simp; omega)) rfl) (Ents.refl _ _)
        | fail
      all_goals (exfalso; rename_i h _; rw [hk] at h; omega)
  repeat' first
    | refine J_stop (c := .seq (.region 14 _ _) _) ?_
    | refine J_seq ?_ | refine J_region Tryd.tyOK ?_ | refine J_block ?_ | refine J_cond ?_ | refine J_ret ?_ | refine J_skip ?_ | refine J_exit ?_
    | refine CondP.yes (by omega) ?_ | refine CondP.no (by omega) ?_ | refine CondP.mk (fun h => ?_) (fun h => ?_) | refine EqP.mk rfl ?_ | refine NewP.mk (fun ad => ?_) | refine ArP.exact (by simp only [inR]; omega) ?_ | refine SideP.mk (by first | omega | (dsimp only; omega) | (simp; omega)) ?_
    | fail
    | fail
  refine J_loop (α := Nat) (fun i => [(0, .c (.s s)), (5, .c (.s (aroundN s k))), (6, .c (.s ((s.take i).map lineB))), (8, .c (.i .i64 i))]) (fun _ => []) (fun _ => [gInt 0]) 0 (fun i => i ≤ s.length) (fun i => s.length - i)
    (InFam.mk 0 (by omega) (by repeat' first | exact SubE.nil | refine SubE.cons rfl ?_ ?_ | exact VEq.refl _ | refine VEq.int (by omega) | refine VEq.sl rfl (by first | rfl | omega | (rw [List.length_append]; rfl) | (simp; omega)) rfl) (Ents.refl _ _)) (fun i hi => ?_)
  have hti : ((s.take i).map lineB).length = i := by simp; omega
  by_cases hlt : i < s.length
  · have h1 := slice_one hlt
    have hl1 : ((s.take (i + 1)).drop i).length = 1 := by rw [h1]; rfl
    have h2 : (s.take (i + 1)).map lineB = (s.take i).map lineB ++ [lineB (s.getD i 0)] := map_take_succ hlt
    generalize (s.take i).map lineB = o at *
    repeat' first
      | refine J_seq ?_ | refine J_region Tryd.tyOK ?_ | refine J_block ?_ | refine J_cond ?_ | refine J_ret ?_ | refine J_skip ?_ | refine J_exit ?_
      | refine CondP.yes (by omega) ?_ | refine CondP.no (by omega) ?_ | refine CondP.mk (fun h => ?_) (fun h => ?_) | refine EqP.mk rfl ?_ | refine NewP.mk (fun ad => ?_) | refine ArP.exact (by simp only [inR]; omega) ?_ | refine SideP.mk (by first | omega | (dsimp only; omega) | (simp; omega)) ?_
      | refine SideP.mk (by rw [hl1]; omega) ?_ | refine SideP.mk (by simp; omega) ?_ | refine Round.mk (i + 1) (by omega) (by omega) (SubE.cons rfl (VEq.refl _) (SubE.cons rfl (VEq.refl _) (SubE.cons rfl (VEq.str ?_) (SubE.cons rfl (VEq.int (by omega)) SubE.nil)))) (Ents.refl _ _)
      | fail
    · have h5 : s.getD i 0 = 32 := byte_is (n := 32) (by decide) (by assumption)
      rw [h2, h5]; rfl
    · have h5 : ¬ s.getD i 0 = 32 := byte_not (n := 32) (by decide) (by assumption)
      rw [h2]
      unfold lineB
      rw [if_neg h5, ← h1]; rfl
  · have hil : i = s.length := by omega
    subst hil
    rw [List.take_length]
    repeat' first
      | refine J_stop (c := .seq (.region 14 _ _) _) ?_
      | refine J_seq ?_ | refine J_region Tryd.tyOK ?_ | refine J_block ?_ | refine J_cond ?_ | refine J_ret ?_ | refine J_skip ?_ | refine J_exit ?_
      | refine CondP.yes (by omega) ?_ | refine CondP.no (by omega) ?_ | refine CondP.mk (fun h => ?_) (fun h => ?_) | refine EqP.mk rfl ?_ | refine NewP.mk (fun ad => ?_) | refine ArP.exact (by simp only [inR]; omega) ?_ | refine SideP.mk (by first | omega | (dsimp only; omega) | (simp; omega)) ?_
      | fail
      | fail
    refine ⟨?_⟩
    refine J_seq ?_
    repeat' first
      | refine J_seq ?_ | refine J_region Tryd.tyOK ?_ | refine J_block ?_ | refine J_cond ?_ | refine J_ret ?_ | refine J_skip ?_ | refine J_exit ?_
      | refine CondP.yes (by omega) ?_ | refine CondP.no (by omega) ?_ | refine CondP.mk (fun h => ?_) (fun h => ?_) | refine EqP.mk rfl ?_ | refine NewP.mk (fun ad => ?_) | refine ArP.exact (by simp only [inR]; omega) ?_ | refine SideP.mk (by first | omega | (dsimp only; omega) | (simp; omega)) ?_
      | refine CallP.is c1 ?_ | refine CallP.is c2 ?_ | refine CallP.is c3 ?_ | refine CallP.is known_ok ?_ | refine FinE.is ?_
      | fail
    all_goals first | rfl | (exfalso; simp at *)

def spA : List (List UInt8) := [[84, 65, 76, 75, 58], [117, 115, 101, 114, 58], [84, 101, 77, 112, 108, 97, 116, 101, 58], [99, 65, 116, 101, 103, 111, 114, 121, 58], [112, 114, 111, 106, 101, 99, 116, 58]]
def spB : List (List UInt8) := [[116, 97, 108, 107, 32, 58, 32], [32, 85, 115, 101, 114, 32, 58], [116, 101, 109, 112, 108, 97, 116, 101, 58, 32], [67, 97, 116, 101, 103, 111, 114, 121, 32, 32, 58, 32, 32], [95, 112, 114, 111, 106, 101, 99, 116, 95, 58, 95]]

theorem spaces_pre {j : Nat} (h : j < 5) : (∃ u v a b, Pre (spA.getD j []) u a (j + 1) ∧ Pre (spB.getD j []) v b (j + 1)) ∧ (spA.getD j []).length ≤ 20 ∧ (spB.getD j []).length ≤ 20 := by
  rcases (by omega : j = 0 ∨ j = 1 ∨ j = 2 ∨ j = 3 ∨ j = 4) with rfl | rfl | rfl | rfl | rfl
  · exact ⟨⟨[84, 65, 76, 75], [116, 97, 108, 107, 32], false, true, ⟨by decide, by decide, by decide, by decide⟩, ⟨by decide, by decide, by decide, by decide⟩⟩, by decide, by decide⟩
  · exact ⟨⟨[117, 115, 101, 114], [85, 115, 101, 114, 32], false, false, ⟨by decide, by decide, by decide, by decide⟩, ⟨by decide, by decide, by decide, by decide⟩⟩, by decide, by decide⟩
  · exact ⟨⟨[84, 101, 77, 112, 108, 97, 116, 101], [116, 101, 109, 112, 108, 97, 116, 101], false, true, ⟨by decide, by decide, by decide, by decide⟩, ⟨by decide, by decide, by decide, by decide⟩⟩, by decide, by decide⟩
  · exact ⟨⟨[99, 65, 116, 101, 103, 111, 114, 121], [67, 97, 116, 101, 103, 111, 114, 121, 32], false, true, ⟨by decide, by decide, by decide, by decide⟩, ⟨by decide, by decide, by decide, by decide⟩⟩, by decide, by decide⟩
  · exact ⟨⟨[112, 114, 111, 106, 101, 99, 116], [112, 114, 111, 106, 101, 99, 116, 32], false, true, ⟨by decide, by decide, by decide, by decide⟩, ⟨by decide, by decide, by decide, by decide⟩⟩, by decide, by decide⟩

theorem titleSpaces_law (s : List UInt8) (n : Int) (hs : s.length ≤ maxLen) : FnS Tryd.prog 7 [.c (.s s), .c (.i .i64 n)] [] [gInt 0] (Is tt) := by
  simp only [maxLen] at hs
  have hn : 0 ≤ bitsV .and .i64 n 7 ∧ bitsV .and .i64 n 7 ≤ 7 := bitsAnd_range n 7 (by decide)
  by_cases hlen : s.length ≤ 300
  rotate_left
  · refine fn_of_J Tryd.tyOK 0 Tryd.func7 (by kernel_rfl) (c := Tryd.f7.body.getD .skip) (by kernel_rfl) Tryd.ntmps7 (rs := Tryd.f7.results.toList) rfl (by simp) (fun G => ?_)
    repeat' first
      | refine J_seq ?_ | refine J_region Tryd.tyOK ?_ | refine J_block ?_ | refine J_cond ?_ | refine J_ret ?_ | refine J_skip ?_ | refine J_exit ?_
      | refine CondP.yes (by omega) ?_ | refine CondP.no (by omega) ?_ | refine CondP.mk (fun h => ?_) (fun h => ?_) | refine EqP.mk rfl ?_ | refine NewP.mk (fun ad => ?_) | refine ArP.exact (by simp only [inR]; omega) ?_ | refine SideP.mk (by first | omega | (dsimp only; omega) | (simp; omega)) ?_
      | refine CallP.is known_ok ?_ | refine FinE.is ?_
      | fail
    rfl
  obtain ⟨j, hj, hj5⟩ : ∃ j : Nat, (bitsV .and .i64 n 7).tmod 5 = j ∧ j < 5 := by
    have h1 := Int.tmod_nonneg 5 hn.1
    have h2 := Int.tmod_lt_of_pos (bitsV .and .i64 n 7) (b := 5) (by omega)
    exact ⟨((bitsV .and .i64 n 7).tmod 5).toNat, by omega, by omega⟩
  obtain ⟨⟨u, v, a, b, hA, hB⟩, hla, hlb⟩ := spaces_pre hj5
  obtain ⟨h1, h2⟩ := pre_same hA hB (by omega) s
  have c1 := Go.Proofs.parse_ok (spA.getD j [] ++ s) (by simp only [List.length_append]; omega)
  have c2 := Go.Proofs.parse_ok (spB.getD j [] ++ s) (by simp only [List.length_append]; omega)
  rw [← h1] at c2
  have ga : ((spA.map C.s).drop (j * 1 + 0)).take 1 = [C.s (spA.getD j [])] := by rw [map_take1 (show j < spA.length from hj5)]; simp [show j < spA.length from hj5]
  have gb : ((spB.map C.s).drop (j * 1 + 0)).take 1 = [C.s (spB.getD j [])] := by rw [map_take1 (show j < spB.length from hj5)]; simp [show j < spB.length from hj5]
  clear h1 hA hB
  generalize parseT (spA.getD j [] ++ s) = r at *
  generalize ha : spA.getD j [] = A at *
  generalize hb : spB.getD j [] = B at *
  obtain ⟨sp, nm, e⟩ := r
  dsimp only at h2
  have hx : ∀ x : Int, x = (bitsV .and .i64 n 7).tmod 5 → x.toNat = j ∧ 0 ≤ x ∧ x < 5 := fun x h => by omega
  obtain ⟨ix, hix⟩ : ∃ ix, (bitsV .and .i64 n 7).tmod 5 = ix := ⟨_, rfl⟩
  have hix' : ix.toNat = j ∧ 0 ≤ ix ∧ ix < 5 := by omega
  rw [← hix'.1] at ga gb
  have hjx : ix = j := by omega
  rw [hix] at hj
  refine fn_of_J Tryd.tyOK 0 Tryd.func7 (by kernel_rfl) (c := Tryd.f7.body.getD .skip) (by kernel_rfl) Tryd.ntmps7 (rs := Tryd.f7.results.toList) rfl (by simp) (fun G => ?_)
  repeat' first
    | rw [hix]
    | refine J_seq ?_ | refine J_region Tryd.tyOK ?_ | refine J_block ?_ | refine J_cond ?_ | refine J_ret ?_ | refine J_skip ?_ | refine J_exit ?_
    | refine CondP.yes (by omega) ?_ | refine CondP.no (by omega) ?_ | refine CondP.mk (fun h => ?_) (fun h => ?_) | refine EqP.mk rfl ?_ | refine NewP.mk (fun ad => ?_) | refine ArP.exact (by simp only [inR]; omega) ?_ | refine SideP.mk (by first | omega | (dsimp only; omega) | (simp; omega)) ?_
    | refine CallP.is c1 ?_ | refine CallP.is c2 ?_ | refine CallP.is known_ok ?_ | refine FinE.is ?_ | refine SideP.mk (by simp only [List.length_append]; omega) ?_ | refine IdxE.mk 9 1 _ (.inl ⟨5, List.Mem.head _⟩) (by omega) (by omega) ?_ | refine LoadE.mk 9 5 (spA.map C.s) _ (.inl ⟨5, List.Mem.head _⟩) (by omega) (by omega) (by omega) ga ?_ | refine LoadE.mk 9 5 (spB.map C.s) _ (.inl ⟨5, List.Mem.head _⟩) (by omega) (by omega) (by omega) gb ?_
    | fail
  all_goals first | rfl | (exfalso; first | omega | (have := h2 (by assumption); omega) | (simp at *; done))

end Go.Proofs
