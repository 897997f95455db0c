/- This text proves the statement HtmlTexts for every input: the call returns true, and leaves its arguments alone. -/
import Derived.Test.YtdnkeinjfddmnaaGreatDoorQ08
import Derived.Test.YtdnkeinjfddmnaaGreatDoorQ09
import Derived.Test.YtdnkeinjfddmnaaGreatDoorQ05
set_option linter.all false

namespace Go.Proofs
open Go Go.X
set_option maxRecDepth 100000

/-- The value of one number of the tape. -/
def tapeVal (x : Int) : Int := bitsV .and .i64 x 16777215

theorem bitsAnd_range (x : Int) (k : Nat) (hk : k < 2 ^ 62) : 0 ≤ bitsV .and .i64 x k ∧ bitsV .and .i64 x k ≤ k := by
  have h1 : (BitVec.ofInt 64 x &&& BitVec.ofInt 64 (k : Int)).toNat ≤ k := by
    have h2 : (BitVec.ofInt 64 (k : Int)).toNat = k := by
      rw [BitVec.toNat_ofInt]; simp; omega
    rw [BitVec.toNat_and, h2]
    exact Nat.and_le_right
  have e : bitsV .and .i64 x k = IntKind.i64.wrap (BitVec.ofInt 64 x &&& BitVec.ofInt 64 (k : Int)).toNat := rfl
  rw [e, wrap_of_inR (by simp only [inR]; omega)]
  omega

theorem tapeVal_range (x : Int) : 0 ≤ tapeVal x ∧ tapeVal x ≤ 16777215 := bitsAnd_range x 16777215 (by decide)

/-- The next number below n, and where the tape stands then. -/
def tNext (l : List Int) (at_ : Nat) (n : Int) : Int := if at_ < l.length then (tapeVal (l.getD at_ 0)).tmod n else 0
def tAt (l : List Int) (at_ : Nat) : Nat := if at_ < l.length then at_ + 1 else at_

theorem tNext_range (l : List Int) (at_ : Nat) {n : Int} (hn : 0 < n) : 0 ≤ tNext l at_ n ∧ tNext l at_ n < n := by
  unfold tNext
  split
  · have h := tapeVal_range (l.getD at_ 0)
    exact ⟨Int.tmod_nonneg _ h.1, Int.tmod_lt_of_pos _ hn⟩
  · omega
theorem tAt_le {l : List Int} {at_ : Nat} (h : at_ ≤ l.length) : tAt l at_ ≤ l.length := by unfold tAt; split <;> omega

/-- The tape as a box. -/
abbrev tapeC (ad : Nat) (a : Option Addr) (n c at_ : Nat) : Chunk := .box 1000 ad 57 [.sl a n c, .i .i64 at_]

theorem new_ok (a : Option Addr) (n c : Nat) : FnS Tryz.prog 12 [.c (.sl a n c)] [] [] (fun v L D => ∃ ad, v = .c (.p 1000 ad 0) ∧ L = [tapeC ad a n c 0] ∧ D = []) := by
  refine fn_of_J Tryz.tyOK 1000 Tryz.func12 (by kernel_rfl) (c := Tryz.f12.body.getD .skip) (by kernel_rfl) Tryz.ntmps12 (rs := Tryz.f12.results.toList) rfl (by simp) (fun G => ?_)
  repeat' first
    | refine J_seq ?_ | refine J_region Tryz.tyOK ?_ | refine J_block ?_ | refine J_cond ?_ | refine J_ret ?_ | refine J_skip ?_ | refine J_exit ?_ | refine J_scope ?_
    | refine CondP.yes (by omega) ?_ | refine CondP.no (by omega) ?_ | refine CondP.mk (fun h => ?_) (fun h => ?_) | refine EqP.mk rfl ?_ | refine NewP.mk (fun ad => ?_) | refine ArP.exact (by simp only [inR]; omega) ?_ | refine SideP.mk (by first | omega | (dsimp only; omega) | (simp; omega)) ?_
    | exact FinE.mk _ [] ⟨_, rfl, rfl, rfl⟩ (Ents.refl _ _)
    | fail

theorem next_ok (e : Nat) (a : Option Addr) (c ad at_ : Nat) (l : List Int) (n : Int) (hn : 0 < n) (hat : at_ ≤ l.length) (hl : l.length ≤ maxLen) : FnS Tryz.prog 35 [.c (.p 1000 ad 0), .c (.i .i64 n)] [tapeC ad a l.length c at_] [slFact e 1 a l.length (l.map (C.i .i64))]
    (fun v L D => v = .c (.i .i64 (tNext l at_ n)) ∧ L = [tapeC ad a l.length c (tAt l at_)] ∧ D = []) := by
  simp only [maxLen] at hl
  have hrd : ∀ L, Reads L [slFact e 1 a l.length (l.map (C.i .i64))] e 1 a l.length (l.map (C.i .i64)) := fun L => .inr fun m h => h.1
  have hx := tapeVal_range (l.getD at_ 0)
  unfold tNext tAt
  by_cases hlt : at_ < l.length
  · have hg : ((l.map (C.i .i64)).drop (at_ * 1 + 0)).take 1 = [C.i .i64 (l.getD at_ 0)] := by rw [map_take1 hlt]; simp [hlt]
    rw [if_pos hlt, if_pos hlt]
    refine fn_of_J Tryz.tyOK 0 Tryz.func35 (by kernel_rfl) (c := Tryz.f35.body.getD .skip) (by kernel_rfl) Tryz.ntmps35 (rs := Tryz.f35.results.toList) rfl (by simp) (fun G => ?_)
    repeat' first
      | refine J_seq ?_ | refine J_region Tryz.tyOK ?_ | refine J_block ?_ | refine J_cond ?_ | refine J_ret ?_ | refine J_skip ?_ | refine J_exit ?_ | refine J_scope ?_
      | refine CondP.yes (by omega) ?_ | refine CondP.no (by omega) ?_ | refine CondP.mk (fun h => ?_) (fun h => ?_) | refine EqP.mk rfl ?_ | refine NewP.mk (fun ad => ?_) | refine ArP.exact (by simp only [inR]; omega) ?_ | refine SideP.mk (by first | omega | (dsimp only; omega) | (simp; omega)) ?_
      | refine J_drawS (id := 1) Tryz.tyOK (by kernel_rfl) [0, 1, 3, 7, 0, 16, 48, 112, 240, 511] [0, 1, 2, 3, 4, 5, 6, 7, 8, 9] [] [0] true (by kernel_rfl) ?_ | refine J_drawS (id := 3) Tryz.tyOK (by kernel_rfl) [0, 1, 3, 7, 0, 16, 48, 112, 255, 511, 1023, 2047] [0, 1, 2, 3, 4, 5, 6, 7, 8, 9, 10, 11] [] [0, 24] true (by kernel_rfl) ?_ | refine EntP.mk (Ents.ofSub (by repeat (first | exact List.Sublist.slnil | refine List.Sublist.cons_cons _ ?_ | refine List.Sublist.cons _ ?_)) (by first | exact fun _ h => h | exact fun _ _ => trivial | exact fun _ h => h.2 | exact fun _ h => h.2.2.2.2 | exact fun _ h => h.2.2 | exact fun _ h => h.2.2.2 | exact fun _ h => h.2.2.2.2.2 | exact fun _ h => h.2.2.2.2.2.2 | exact fun _ h => h.2.2.2.2.2.2.2 | exact fun _ h => h.2.2.2.2.2.2.2.2 | exact fun _ h => h.2.2.2.2.2.2.2.2.2 | exact fun _ h => h.2.2.2.2.2.2.2.2.2.2 | exact fun _ h => ((allD_append _ _).1 h).2)) ?_ | refine IdxE.mk e 1 _ (hrd _) (by omega) (by omega) ?_ | refine LoadE.mk e _ _ _ (hrd _) (by omega) (by omega) (by omega) hg ?_
      | fail
    refine FinE.mk _ [] ⟨rfl, rfl, rfl⟩ ((Ents.of ?_).trans (Ents.facts fun _ _ => trivial))
    rfl
  · rw [if_neg hlt, if_neg hlt]
    refine fn_of_J Tryz.tyOK 0 Tryz.func35 (by kernel_rfl) (c := Tryz.f35.body.getD .skip) (by kernel_rfl) Tryz.ntmps35 (rs := Tryz.f35.results.toList) rfl (by simp) (fun G => ?_)
    repeat' first
      | refine J_seq ?_ | refine J_region Tryz.tyOK ?_ | refine J_block ?_ | refine J_cond ?_ | refine J_ret ?_ | refine J_skip ?_ | refine J_exit ?_ | refine J_scope ?_
      | refine CondP.yes (by omega) ?_ | refine CondP.no (by omega) ?_ | refine CondP.mk (fun h => ?_) (fun h => ?_) | refine EqP.mk rfl ?_ | refine NewP.mk (fun ad => ?_) | refine ArP.exact (by simp only [inR]; omega) ?_ | refine SideP.mk (by first | omega | (dsimp only; omega) | (simp; omega)) ?_
      | refine J_drawS (id := 1) Tryz.tyOK (by kernel_rfl) [0, 1, 3, 7, 0, 16, 48, 112, 240, 511] [0, 1, 2, 3, 4, 5, 6, 7, 8, 9] [] [0] true (by kernel_rfl) ?_ | refine J_drawS (id := 3) Tryz.tyOK (by kernel_rfl) [0, 1, 3, 7, 0, 16, 48, 112, 255, 511, 1023, 2047] [0, 1, 2, 3, 4, 5, 6, 7, 8, 9, 10, 11] [] [0, 24] true (by kernel_rfl) ?_ | refine EntP.mk (Ents.ofSub (by repeat (first | exact List.Sublist.slnil | refine List.Sublist.cons_cons _ ?_ | refine List.Sublist.cons _ ?_)) (by first | exact fun _ h => h | exact fun _ _ => trivial | exact fun _ h => h.2 | exact fun _ h => h.2.2.2.2 | exact fun _ h => h.2.2 | exact fun _ h => h.2.2.2 | exact fun _ h => h.2.2.2.2.2 | exact fun _ h => h.2.2.2.2.2.2 | exact fun _ h => h.2.2.2.2.2.2.2 | exact fun _ h => h.2.2.2.2.2.2.2.2 | exact fun _ h => h.2.2.2.2.2.2.2.2.2 | exact fun _ h => h.2.2.2.2.2.2.2.2.2.2 | exact fun _ h => ((allD_append _ _).1 h).2)) ?_ | exact FinE.mk _ [] ⟨rfl, rfl, rfl⟩ (Ents.facts fun _ _ => trivial)
      | fail

theorem of_ok (e e2 : Nat) (a b : Option Addr) (c d m ad at_ : Nat) (l : List Int) (xs : List (List UInt8)) (hm : m = xs.length) (h0 : 0 < m) (hat : at_ ≤ l.length) (hl : l.length ≤ maxLen) :
    FnS Tryz.prog 36 [.c (.p 1000 ad 0), .c (.sl b m d)] [tapeC ad a l.length c at_] [slFact e 1 a l.length (l.map (C.i .i64)), slFact e2 1 b m (xs.map C.s)]
    (fun v L D => v = .c (.s (xs.getD (tNext l at_ m).toNat [])) ∧ L = [tapeC ad a l.length c (tAt l at_)] ∧ D = []) := by
  subst hm
  have hr := tNext_range l at_ (n := (xs.length : Int)) (by omega)
  have c1 := next_ok e a c ad at_ l xs.length (by omega) hat hl
  generalize tNext l at_ xs.length = k at *
  have hg : ((xs.map C.s).drop (k.toNat * 1 + 0)).take 1 = [C.s (xs.getD k.toNat [])] := by rw [map_take1 (by omega)]; simp [show k.toNat < xs.length by omega]
  have hrd : ∀ L D, Reads L (D ++ [slFact e 1 a l.length (l.map (C.i .i64)), slFact e2 1 b xs.length (xs.map C.s)]) e2 1 b xs.length (xs.map C.s) := fun L D => .inr fun m h => ((allD_append _ _).1 h).2.2.1
  refine fn_of_J Tryz.tyOK 0 Tryz.func36 (by kernel_rfl) (c := Tryz.f36.body.getD .skip) (by kernel_rfl) Tryz.ntmps36 (rs := Tryz.f36.results.toList) rfl (by simp) (fun G => ?_)
  repeat' first
    | refine J_seq ?_ | refine J_region Tryz.tyOK ?_ | refine J_block ?_ | refine J_cond ?_ | refine J_ret ?_ | refine J_skip ?_ | refine J_exit ?_ | refine J_scope ?_
    | refine CondP.yes (by omega) ?_ | refine CondP.no (by omega) ?_ | refine CondP.mk (fun h => ?_) (fun h => ?_) | refine EqP.mk rfl ?_ | refine NewP.mk (fun ad => ?_) | refine ArP.exact (by simp only [inR]; omega) ?_ | refine SideP.mk (by first | omega | (dsimp only; omega) | (simp; omega)) ?_
    | refine CallP.mk [_] [] [_] _ c1 (by simp) (fun _ h => ⟨h.1, trivial⟩) (fun v L' D' hp => ?_); obtain ⟨rfl, rfl, rfl⟩ := hp | refine IdxE.mk e2 1 _ (hrd _ []) (by omega) (by omega) ?_ | refine LoadE.mk e2 _ _ _ (hrd _ []) (by omega) (by omega) (by omega) hg ?_ | exact FinE.mk _ [] ⟨rfl, rfl, rfl⟩ (Ents.facts fun _ _ => trivial)
    | fail

/-- The names of the titles that a tape makes. -/
def tapeNames : List (List UInt8) := [[65], [66], [65, 47, 66], [67], [84], [85, 47, 120], [65, 47, 66, 47, 99], [76, 111, 110, 103, 32, 110, 97, 109, 101], [49], [88]]

theorem tapeTitle_ok (e : Nat) (a : Option Addr) (c ad at_ : Nat) (l : List Int) (hat : at_ ≤ l.length) (hl : l.length ≤ maxLen) : FnS Tryz.prog 13 [.c (.p 1000 ad 0)] [tapeC ad a l.length c at_] [slFact e 1 a l.length (l.map (C.i .i64))]
    (fun v L D => v = .agg [.i .i64 (tNext l at_ 6), .s (tapeNames.getD (tNext l (tAt l at_) 10).toNat [])] ∧ L = [tapeC ad a l.length c (tAt l (tAt l at_))] ∧ D = []) := by
  have c1 := next_ok e a c ad at_ l 6 (by omega) hat hl
  have c2 := fun b d => of_ok e 9 a b c d 10 ad (tAt l at_) l tapeNames rfl (by decide) (tAt_le hat) hl
  refine fn_of_J Tryz.tyOK 2000 Tryz.func13 (by kernel_rfl) (c := Tryz.f13.body.getD .skip) (by kernel_rfl) Tryz.ntmps13 (rs := Tryz.f13.results.toList) rfl (by simp) (fun G => ?_)
  repeat' first
    | refine J_seq ?_ | refine J_region Tryz.tyOK ?_ | refine J_block ?_ | refine J_cond ?_ | refine J_ret ?_ | refine J_skip ?_ | refine J_exit ?_ | refine J_scope ?_
    | refine CondP.yes (by omega) ?_ | refine CondP.no (by omega) ?_ | refine CondP.mk (fun h => ?_) (fun h => ?_) | refine EqP.mk rfl ?_ | refine NewP.mk (fun ad => ?_) | refine ArP.exact (by simp only [inR]; omega) ?_ | refine SideP.mk (by first | omega | (dsimp only; omega) | (simp; omega)) ?_
    | refine CallP.mk [_] [_] [_] _ c1 (List.Perm.swap _ _ _) (fun _ h => h) (fun v L' D' hp => ?_); obtain ⟨rfl, rfl, rfl⟩ := hp | refine CallP.mkE [_] [_] _ _ _ (c2 _ _) (Ents.toFact.trans (Ents.refl _ _)) (fun _ h => ⟨h.2.1, h.1, trivial⟩) (fun v L' D' hp => ?_); obtain ⟨rfl, rfl, rfl⟩ := hp | refine FinE.mk _ [] ⟨rfl, rfl, rfl⟩ ((Ents.perm (List.Perm.swap _ _ _)).trans (Ents.drop.trans (Ents.facts fun _ _ => trivial)))
    | fail

end Go.Proofs

namespace Go.Proofs
open Go Go.X
set_option maxRecDepth 100000

theorem htmlTexts_law (s : List UInt8) (hs : s.length ≤ 9223372036854775807) (sp : Int) (nm : List UInt8) (hn : nm.length ≤ 9223372036854775807) (e : Nat) (a : Option Addr) (c : Nat) (l : List Int) (hl : l.length ≤ maxLen) :
    FnS Tryz.prog 3 [.c (.s s), .agg [.i .i64 sp, .s nm], .c (.sl a l.length c)] [] [slFact e 1 a l.length (l.map (C.i .i64)), gInt 0] (Is (.c (.b true))) := by
  by_cases h1 : s.length ≤ 400
  rotate_left
  · refine fn_of_J Tryz.tyOK 0 Tryz.func3 (by kernel_rfl) (c := Tryz.f3.body.getD .skip) (by kernel_rfl) Tryz.ntmps3 (rs := Tryz.f3.results.toList) rfl (by simp) (fun G => ?_)
    repeat' first
      | refine J_seq ?_ | refine J_region Tryz.tyOK ?_ | refine J_block ?_ | refine J_cond ?_ | refine J_ret ?_ | refine J_skip ?_ | refine J_exit ?_ | refine J_scope ?_
      | refine CondP.yes (by omega) ?_ | refine CondP.no (by omega) ?_ | refine CondP.mk (fun h => ?_) (fun h => ?_) | refine EqP.mk rfl ?_ | refine NewP.mk (fun ad => ?_) | refine ArP.exact (by simp only [inR]; omega) ?_ | refine SideP.mk (by first | omega | (dsimp only; omega) | (simp; omega)) ?_
      | refine CallP.is known_ok ?_ (fun _ h => ⟨h.2.1, trivial⟩) | refine FinE.bool rfl
      | fail
  by_cases h2 : nm.length ≤ 300
  rotate_left
  · refine fn_of_J Tryz.tyOK 0 Tryz.func3 (by kernel_rfl) (c := Tryz.f3.body.getD .skip) (by kernel_rfl) Tryz.ntmps3 (rs := Tryz.f3.results.toList) rfl (by simp) (fun G => ?_)
    repeat' first
      | refine J_seq ?_ | refine J_region Tryz.tyOK ?_ | refine J_block ?_ | refine J_cond ?_ | refine J_ret ?_ | refine J_skip ?_ | refine J_exit ?_ | refine J_scope ?_
      | refine CondP.yes (by omega) ?_ | refine CondP.no (by omega) ?_ | refine CondP.mk (fun h => ?_) (fun h => ?_) | refine EqP.mk rfl ?_ | refine NewP.mk (fun ad => ?_) | refine ArP.exact (by simp only [inR]; omega) ?_ | refine SideP.mk (by first | omega | (dsimp only; omega) | (simp; omega)) ?_
      | refine CallP.is known_ok ?_ (fun _ h => ⟨h.2.1, trivial⟩) | refine FinE.bool rfl
      | fail
  have k1 := fun ad => tapeTitle_ok e a c ad 0 l (Nat.zero_le _) hl
  have n2 := tNext_range l (tAt l 0) (n := 10) (by omega)
  have hm : (tapeNames.getD (tNext l (tAt l 0) 10).toNat []).length ≤ 100 := by
    have : ∀ i, (tapeNames.getD i []).length ≤ 100 := fun i => by
      by_cases h : i < 10
      · have : ∀ j : Fin 10, (tapeNames.getD j.val []).length ≤ 100 := by decide
        exact this ⟨i, h⟩
      · rw [List.getD_eq_getElem?_getD, List.getElem?_eq_none (by show tapeNames.length ≤ i; show 10 ≤ i; omega)]; decide
    exact this _
  generalize tNext l 0 6 = sq at *
  generalize tapeNames.getD (tNext l (tAt l 0) 10).toNat [] = m at *
  have e1 := escape_ok s (by omega)
  have e2 := refEscape_ok s (by omega)
  have p1 := path_ok sp nm (by omega)
  have p2 := refPath_ok sp nm (by omega)
  have q1 := path_ok sq m (by omega)
  have q2 := refPath_ok sq m (by omega)
  refine fn_of_J Tryz.tyOK 0 Tryz.func3 (by kernel_rfl) (c := Tryz.f3.body.getD .skip) (by kernel_rfl) Tryz.ntmps3 (rs := Tryz.f3.results.toList) rfl (by simp) (fun G => ?_)
  repeat' first
    | refine CondP.yes rfl ?_
    | refine J_seq ?_ | refine J_region Tryz.tyOK ?_ | refine J_block ?_ | refine J_cond ?_ | refine J_ret ?_ | refine J_skip ?_ | refine J_exit ?_ | refine J_scope ?_
    | refine CondP.yes (by omega) ?_ | refine CondP.no (by omega) ?_ | refine CondP.mk (fun h => ?_) (fun h => ?_) | refine EqP.mk rfl ?_ | refine NewP.mk (fun ad => ?_) | refine ArP.exact (by simp only [inR]; omega) ?_ | refine SideP.mk (by first | omega | (dsimp only; omega) | (simp; omega)) ?_
    | refine J_drawU (id := 4) Tryz.tyOK (by kernel_rfl) [0, 1, 0, 7, 15, 31, 63, 127, 63, 511, 1023, 2047, 4095, 8191, 16383, 8191, 65535, 131071, 262143, 524287, 1048575, 2097151, 4194303] (.leaf [0, 1, 2, 3, 4, 5, 6, 7, 8, 9, 10, 11, 12, 13, 14, 15, 16, 17, 18, 19, 20, 21, 22]) [] [4, 7] 23 true (by kernel_rfl) ?_ | refine TwoP.mk ?_ ?_ | refine GoP.mk (by repeat (first | exact List.Sublist.slnil | refine List.Sublist.cons_cons _ ?_ | refine List.Sublist.cons _ ?_)) (by first | exact fun _ h => h | exact fun _ h => h.2 | exact fun _ h => ((allD_append _ _).1 h).2) ?_ | exact trivial | refine EntP.mk (Ents.ofSub (by repeat (first | exact List.Sublist.slnil | refine List.Sublist.cons_cons _ ?_ | refine List.Sublist.cons _ ?_)) (by first | exact fun _ h => h | exact fun _ _ => trivial | exact fun _ h => h.2 | exact fun _ h => h.2.2.2.2 | exact fun _ h => h.2.2 | exact fun _ h => h.2.2.2 | exact fun _ h => h.2.2.2.2.2 | exact fun _ h => h.2.2.2.2.2.2 | exact fun _ h => h.2.2.2.2.2.2.2 | exact fun _ h => h.2.2.2.2.2.2.2.2 | exact fun _ h => h.2.2.2.2.2.2.2.2.2 | exact fun _ h => h.2.2.2.2.2.2.2.2.2.2 | exact fun _ h => ((allD_append _ _).1 h).2)) ?_ | (refine CallP.mk [] _ [] _ (new_ok a l.length c) (List.Perm.refl _) (fun _ _ => trivial) (fun v L' D' hp => ?_); obtain ⟨ab, rfl, rfl, rfl⟩ := hp) | (refine CallP.mk [_] _ [_] _ (k1 _) (List.Perm.refl _) (fun _ h => ⟨h.1, trivial⟩) (fun v L' D' hp => ?_); obtain ⟨rfl, rfl, rfl⟩ := hp) | refine CallQ.mk [] _ e1 (fun _ _ => trivial) ?_ | refine CallQ.mk [] _ e2 (fun _ _ => trivial) ?_ | refine CallQ.mk [_] _ p1 (fun _ h => ⟨h.2.1, trivial⟩) ?_ | refine CallQ.mk [] _ p2 (fun _ _ => trivial) ?_ | refine CallQ.mk [_] _ q1 (fun _ h => ⟨h.2.1, trivial⟩) ?_ | refine CallQ.mk [] _ q2 (fun _ _ => trivial) ?_ | refine CallQ.mk [_] _ known_ok (fun _ h => ⟨h.2.1, trivial⟩) ?_ | refine CallP.is known_ok ?_ (fun _ h => ⟨h.2.1, trivial⟩) | refine FinE.bool rfl
    | fail
  all_goals trace_state

end Go.Proofs

namespace Go.Proofs.YtdnkeinjfddmnaaGreatDoor
open Go Go.X Go.ChangeShapes Go.WideShapes Go.ChangeAt Go.RowKit
set_option maxRecDepth 100000

namespace htmlTexts
theorem reads (os : Os) {H : Type} (enc : TypeId × Value → H) : ∃ places, DataW.whole enc Tryz.prog ((laidWorld os).forCall (fun _ _ => 0) ⟨#[], #[.string ⟨#[]⟩, .agg #[.int .i64 0, .string ⟨#[]⟩], .slice none 0 0], []⟩).memory Tryz.f3.params.toList Rows.htmlTextsSpec.vars false (#[.string ⟨#[]⟩, .agg #[.int .i64 0, .string ⟨#[]⟩], .slice none 0 0] : Array Value).toList 8 = some ([.lit (.string []), .agg [.lit (.int .i64 0), .lit (.string [])], .nil], [], places) :=
  ⟨[], by kernel_rfl⟩
theorem contract (H : Type) (enc : TypeId × Value → H) (W : World) (base : Nat) (args : Array Value) (ds gs : List (DataW H)) (before : List MemPlace)
    (hval : ∀ (j : Nat) t v, Tryz.f3.params[j]? = some t → args[j]? = some v → Value.okWide Tryz.prog W .any base t v)
    (hW : DataW.Whole enc Tryz.prog Tryz.f3.params.toList Rows.htmlTextsSpec.vars false W args.toList ds gs before) (hsh : W.ShapedOpen Tryz.prog) :
    Calls Tryz.prog 3 args W fun e W' => ∃ v, e = .returned v ∧ Rows.htmlTextsSpec.post enc Tryz.prog Tryz.f3 false true false false W args v W' := by
  have hW' := hW
  obtain ⟨p, q, hA0, hV, rfl, hfz, hnd⟩ := hW
  have hA : DataW.TrodAll enc Tryz.prog W 0 (fun _ => true) true Tryz.f3.params.toList args.toList ds p := hA0
  rw [Tryz.params3] at hA hval
  obtain ⟨v0, vs0, d0, ds0, p0, q0, hargs0, rfl, rfl, h0, r0⟩ := trodAll_cons hA
  obtain ⟨v1, vs1, d1, ds1, p1, q1, hargs1, rfl, rfl, h1, r1⟩ := trodAll_cons r0
  obtain ⟨v2, vs2, d2, ds2, p2, q2, hargs2, rfl, rfl, h2, r2⟩ := trodAll_cons r1
  obtain ⟨rfl, rfl, rfl⟩ := trodAll_nil r2
  obtain rfl : args = #[v0, v1, v2] := by cases args; simp_all
  obtain ⟨s, hqs, rfl⟩ := open_arg (okTy (t := 9) rfl).2.2.2 (by simp) (hval 0 _ v0 rfl rfl) h0 (openS_str Tryz.underlying9)
  obtain ⟨b, hqb, rfl⟩ := open_arg (okTy (t := 23) rfl).2.2.2 (by simp) (hval 1 _ v1 rfl rfl) h1 (open_title)
  obtain ⟨a, hqa, rfl⟩ := open_arg (okTy (t := 24) rfl).2.2.2 (by simp) (hval 2 _ v2 rfl rfl) h2 (openS_slice (z := 1) Tryz.underlying24 (cellsOf_ty (okTy (t := 3) rfl)) (by decide) (fun g x hx => by simp at hx; subst hx; rfl) (openS_int Tryz.underlying3))
  obtain ⟨ad, n, c, l⟩ := a
  obtain ⟨hn, hs, _⟩ := hqa
  dsimp only at hn hs
  subst hn
  obtain ⟨e, hf⟩ := hs.f
  have hf2 : (slFact e 1 ad l.length (l.map (C.i .i64))).p (fun b => W.heap[b]?) := by rw [List.map_eq_flatMap]; exact hf
  exact law_calls laidOut (by rw [Tryz.params3]; decide +kernel) rfl (by kernel_rfl) Tryz.underlying4 hW' rfl rfl (show allD _ [slFact e 1 ad l.length (l.map (C.i .i64)), gInt 0] from ⟨hf2, maxLen_fact hsh⟩) (htmlTexts_law s (by have := hqs; simp only [maxLen] at this; omega) b.1 b.2.1 (by have := hqb.2.1; simp only [maxLen] at this; omega) e ad c l (Nat.le_trans hs.le hs.max))

theorem lifted (os : Os) (started : os.Started) (H : Type) (enc : TypeId × Value → H) (F : Stop.Interp) :
    ReturnsInHanded {} Tryz.checked os 3 .any ((OpenSpec.ofChange Rows.htmlTextsSpec).preRow enc Tryz.prog Tryz.f3 Rows.htmlTextsRow.domain false Rows.htmlTextsRow.laid) (((OpenSpec.ofChange Rows.htmlTextsSpec).at F).post enc Tryz.prog Tryz.f3 false true false false) := by
  obtain ⟨places, hx⟩ := reads os enc
  refine returnsInHanded_of_row (C := Tryz.checked) (s := (OpenSpec.ofChange Rows.htmlTextsSpec)) own started (by kernel_rfl) Tryz.func3
    (witness_row_at (enc := enc) (C := Tryz.checked) false (laidWorld os) #[.string ⟨#[]⟩, .agg #[.int .i64 0, .string ⟨#[]⟩], .slice none 0 0] rfl (world_vars os _) (world_rest os _) (by kernel_rfl)
      (OpenSpec.preRow_of_cond 8 hx (by kernel_rfl) (fun k hk => by cases hk) (by kernel_rfl) (laid_met os _))) ?_
  intro W base args ds gs before hval hW _ _ _ _ hsh _
  exact contract H enc W base args ds gs before hval hW hsh

theorem said : Rows.HtmlTextsSaid :=
  OpenClaim.holds_of_cond 3 Tryz.f3 rfl rfl rfl rfl rfl rfl rfl ⟨rfl, rfl, rfl, rfl, rfl⟩ rfl rfl rfl rfl rfl (by kernel_rfl) Tryz.func3 (by kernel_rfl)
    (of_decide_eq_true (by kernel_rfl)) (by unfold Func.isWrapper; first | (rw [if_pos (by decide +kernel)]; kernel_rfl) | (rw [if_neg (by decide +kernel)]; exact ⟨rfl, rfl⟩))
    (fun os started H enc _ F => by rw [OpenClaim.pre_eq_preRow]; exact lifted os started H enc F)

theorem plain (f : FuncId) (fn : Func) (hf : Tryz.pinned.checked.prog.funcNamed Rows.htmlTextsRow.func = some f) (hfn : Tryz.pinned.checked.prog.funcs[f]? = some fn) :
    true = Tryz.pinned.checked.prog.looks [] ∧ ∀ (j : Nat) t, fn.params[j]? = some t → Tryz.pinned.checked.prog.wantsStandIn t = false := by
  obtain rfl : f = 3 := Option.some.inj ((show Tryz.prog.funcNamed Rows.htmlTextsRow.func = some 3 by kernel_rfl).symm.trans hf) |>.symm
  obtain rfl : fn = Tryz.f3 := (Option.some.inj (Tryz.func3.symm.trans hfn)).symm
  refine ⟨no_looks, fun j t ht => ?_⟩
  rw [Tryz.params3] at ht
  have hm := Array.mem_of_getElem? ht
  have hall : ∀ t ∈ (#[9, 23, 24] : Array Nat), Tryz.prog.wantsStandIn t = false := by decide +kernel
  exact hall t hm

theorem card : Rows.HtmlTextsCardSaid :=
  Claim7.holds_tied_plain_at .later [] _ _ _ _ said (fun _ h => by cases h) (by kernel_rfl) (fun _ h => by cases h) htmlTexts_row_tie rfl ⟨rfl, rfl⟩ (by kernel_rfl) rfl plain (by kernel_rfl)
end htmlTexts
end Go.Proofs.YtdnkeinjfddmnaaGreatDoor
