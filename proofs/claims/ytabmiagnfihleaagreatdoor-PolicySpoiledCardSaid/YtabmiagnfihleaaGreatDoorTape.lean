/- This text walks through the tape from which statements make inputs, and the titles that it makes. -/
import Derived.Test.YtabmiagnfihleaaGreatDoorRef1f
set_option linter.all false

namespace Go.Proofs
open Go Go.X
set_option maxRecDepth 100000

/-- The value of one number of the tape. -/
def tapeVal (x : Int) : Int := bitsV .and .i64 x 16777215

theorem bitsAnd_range (x : Int) (k : Nat) (hk : k < 2 ^ 62) : 0 ≤ bitsV .and .i64 x k ∧ bitsV .and .i64 x k ≤ k := by
  have h1 : (BitVec.ofInt 64 x &&& BitVec.ofInt 64 (k : Int)).toNat ≤ k := by
    have h2 : (BitVec.ofInt 64 (k : Int)).toNat = k := by
      rw [BitVec.toNat_ofInt]; simp; omega
    rw [BitVec.toNat_and, h2]
    exact Nat.and_le_right
  have e : bitsV .and .i64 x k = IntKind.i64.wrap (BitVec.ofInt 64 x &&& BitVec.ofInt 64 (k : Int)).toNat := rfl
  rw [e, wrap_of_inR (by simp only [inR]; omega)]
  omega

theorem tapeVal_range (x : Int) : 0 ≤ tapeVal x ∧ tapeVal x ≤ 16777215 := bitsAnd_range x 16777215 (by decide)

/-- The next number below n, and where the tape stands then. -/
def tNext (l : List Int) (at_ : Nat) (n : Int) : Int := if at_ < l.length then (tapeVal (l.getD at_ 0)).tmod n else 0
def tAt (l : List Int) (at_ : Nat) : Nat := if at_ < l.length then at_ + 1 else at_

theorem tNext_range (l : List Int) (at_ : Nat) {n : Int} (hn : 0 < n) : 0 ≤ tNext l at_ n ∧ tNext l at_ n < n := by
  unfold tNext
  split
  · have h := tapeVal_range (l.getD at_ 0)
    exact ⟨Int.tmod_nonneg _ h.1, Int.tmod_lt_of_pos _ hn⟩
  · omega
theorem tAt_le {l : List Int} {at_ : Nat} (h : at_ ≤ l.length) : tAt l at_ ≤ l.length := by unfold tAt; split <;> omega

/-- The tape as a box. -/
abbrev tapeC (ad : Nat) (a : Option Addr) (n c at_ : Nat) : Chunk := .box 1000 ad 51 [.sl a n c, .i .i64 at_]

theorem new_ok (a : Option Addr) (n c : Nat) : FnS Tryz.prog 4 [.c (.sl a n c)] [] [] (fun v L D => ∃ ad, v = .c (.p 1000 ad 0) ∧ L = [tapeC ad a n c 0] ∧ D = []) := by
  refine fn_of_J Tryz.tyOK 1000 Tryz.func4 (by kernel_rfl) (c := Tryz.f4.body.getD .skip) (by kernel_rfl) Tryz.ntmps4 (rs := Tryz.f4.results.toList) rfl (by simp) (fun G => ?_)
  repeat' first
    | refine J_seq ?_ | refine J_region Tryz.tyOK ?_ | refine J_block ?_ | refine J_cond ?_ | refine J_ret ?_ | refine J_skip ?_ | refine J_exit ?_ | refine J_scope ?_
    | refine CondP.yes (by omega) ?_ | refine CondP.no (by omega) ?_ | refine CondP.mk (fun h => ?_) (fun h => ?_) | refine EqP.mk rfl ?_ | refine NewP.mk (fun ad => ?_) | refine ArP.exact (by simp only [inR]; omega) ?_ | refine SideP.mk (by first | omega | (dsimp only; omega) | (simp; omega)) ?_
    | exact FinE.mk _ [] ⟨_, rfl, rfl, rfl⟩ (Ents.refl _ _)
    | fail

theorem next_ok (e : Nat) (a : Option Addr) (c ad at_ : Nat) (l : List Int) (n : Int) (hn : 0 < n) (hat : at_ ≤ l.length) (hl : l.length ≤ maxLen) : FnS Tryz.prog 9 [.c (.p 1000 ad 0), .c (.i .i64 n)] [tapeC ad a l.length c at_] [slFact e 1 a l.length (l.map (C.i .i64))]
    (fun v L D => v = .c (.i .i64 (tNext l at_ n)) ∧ L = [tapeC ad a l.length c (tAt l at_)] ∧ D = []) := by
  simp only [maxLen] at hl
  have hrd : ∀ L, Reads L [slFact e 1 a l.length (l.map (C.i .i64))] e 1 a l.length (l.map (C.i .i64)) := fun L => .inr fun m h => h.1
  have hx := tapeVal_range (l.getD at_ 0)
  unfold tNext tAt
  by_cases hlt : at_ < l.length
  · have hg : ((l.map (C.i .i64)).drop (at_ * 1 + 0)).take 1 = [C.i .i64 (l.getD at_ 0)] := by rw [map_take1 hlt]; simp [hlt]
    rw [if_pos hlt, if_pos hlt]
    refine fn_of_J Tryz.tyOK 0 Tryz.func9 (by kernel_rfl) (c := Tryz.f9.body.getD .skip) (by kernel_rfl) Tryz.ntmps9 (rs := Tryz.f9.results.toList) rfl (by simp) (fun G => ?_)
    repeat' first
      | refine J_seq ?_ | refine J_region Tryz.tyOK ?_ | refine J_block ?_ | refine J_cond ?_ | refine J_ret ?_ | refine J_skip ?_ | refine J_exit ?_ | refine J_scope ?_
      | refine CondP.yes (by omega) ?_ | refine CondP.no (by omega) ?_ | refine CondP.mk (fun h => ?_) (fun h => ?_) | refine EqP.mk rfl ?_ | refine NewP.mk (fun ad => ?_) | refine ArP.exact (by simp only [inR]; omega) ?_ | refine SideP.mk (by first | omega | (dsimp only; omega) | (simp; omega)) ?_
      | refine J_drawS (id := 1) Tryz.tyOK (by kernel_rfl) [0, 1, 3, 7, 0, 16, 48, 112, 240, 511] [0, 1, 2, 3, 4, 5, 6, 7, 8, 9] [] [0] true (by kernel_rfl) ?_ | refine J_drawS (id := 3) Tryz.tyOK (by kernel_rfl) [0, 1, 3, 7, 0, 16, 48, 112, 255, 511, 1023, 2047] [0, 1, 2, 3, 4, 5, 6, 7, 8, 9, 10, 11] [] [0, 24] true (by kernel_rfl) ?_ | refine EntP.mk (Ents.ofSub (by repeat (first | exact List.Sublist.slnil | refine List.Sublist.cons_cons _ ?_ | refine List.Sublist.cons _ ?_)) (by first | exact fun _ h => h | exact fun _ _ => trivial | exact fun _ h => h.2 | exact fun _ h => h.2.2.2.2 | exact fun _ h => ((allD_append _ _).1 h).2)) ?_ | refine IdxE.mk e 1 _ (hrd _) (by omega) (by omega) ?_ | refine LoadE.mk e _ _ _ (hrd _) (by omega) (by omega) (by omega) hg ?_
      | fail
    refine FinE.mk _ [] ⟨rfl, rfl, rfl⟩ ((Ents.of ?_).trans (Ents.facts fun _ _ => trivial))
    rfl
  · rw [if_neg hlt, if_neg hlt]
    refine fn_of_J Tryz.tyOK 0 Tryz.func9 (by kernel_rfl) (c := Tryz.f9.body.getD .skip) (by kernel_rfl) Tryz.ntmps9 (rs := Tryz.f9.results.toList) rfl (by simp) (fun G => ?_)
    repeat' first
      | refine J_seq ?_ | refine J_region Tryz.tyOK ?_ | refine J_block ?_ | refine J_cond ?_ | refine J_ret ?_ | refine J_skip ?_ | refine J_exit ?_ | refine J_scope ?_
      | refine CondP.yes (by omega) ?_ | refine CondP.no (by omega) ?_ | refine CondP.mk (fun h => ?_) (fun h => ?_) | refine EqP.mk rfl ?_ | refine NewP.mk (fun ad => ?_) | refine ArP.exact (by simp only [inR]; omega) ?_ | refine SideP.mk (by first | omega | (dsimp only; omega) | (simp; omega)) ?_
      | refine J_drawS (id := 1) Tryz.tyOK (by kernel_rfl) [0, 1, 3, 7, 0, 16, 48, 112, 240, 511] [0, 1, 2, 3, 4, 5, 6, 7, 8, 9] [] [0] true (by kernel_rfl) ?_ | refine J_drawS (id := 3) Tryz.tyOK (by kernel_rfl) [0, 1, 3, 7, 0, 16, 48, 112, 255, 511, 1023, 2047] [0, 1, 2, 3, 4, 5, 6, 7, 8, 9, 10, 11] [] [0, 24] true (by kernel_rfl) ?_ | refine EntP.mk (Ents.ofSub (by repeat (first | exact List.Sublist.slnil | refine List.Sublist.cons_cons _ ?_ | refine List.Sublist.cons _ ?_)) (by first | exact fun _ h => h | exact fun _ _ => trivial | exact fun _ h => h.2 | exact fun _ h => h.2.2.2.2 | exact fun _ h => ((allD_append _ _).1 h).2)) ?_ | exact FinE.mk _ [] ⟨rfl, rfl, rfl⟩ (Ents.facts fun _ _ => trivial)
      | fail

theorem of_ok (e e2 : Nat) (a b : Option Addr) (c d m ad at_ : Nat) (l : List Int) (xs : List (List UInt8)) (hm : m = xs.length) (h0 : 0 < m) (hat : at_ ≤ l.length) (hl : l.length ≤ maxLen) :
    FnS Tryz.prog 11 [.c (.p 1000 ad 0), .c (.sl b m d)] [tapeC ad a l.length c at_] [slFact e 1 a l.length (l.map (C.i .i64)), slFact e2 1 b m (xs.map C.s)]
    (fun v L D => v = .c (.s (xs.getD (tNext l at_ m).toNat [])) ∧ L = [tapeC ad a l.length c (tAt l at_)] ∧ D = []) := by
  subst hm
  have hr := tNext_range l at_ (n := (xs.length : Int)) (by omega)
  have c1 := next_ok e a c ad at_ l xs.length (by omega) hat hl
  generalize tNext l at_ xs.length = k at *
  have hg : ((xs.map C.s).drop (k.toNat * 1 + 0)).take 1 = [C.s (xs.getD k.toNat [])] := by rw [map_take1 (by omega)]; simp [show k.toNat < xs.length by omega]
  have hrd : ∀ L D, Reads L (D ++ [slFact e 1 a l.length (l.map (C.i .i64)), slFact e2 1 b xs.length (xs.map C.s)]) e2 1 b xs.length (xs.map C.s) := fun L D => .inr fun m h => ((allD_append _ _).1 h).2.2.1
  refine fn_of_J Tryz.tyOK 0 Tryz.func11 (by kernel_rfl) (c := Tryz.f11.body.getD .skip) (by kernel_rfl) Tryz.ntmps11 (rs := Tryz.f11.results.toList) rfl (by simp) (fun G => ?_)
  repeat' first
    | refine J_seq ?_ | refine J_region Tryz.tyOK ?_ | refine J_block ?_ | refine J_cond ?_ | refine J_ret ?_ | refine J_skip ?_ | refine J_exit ?_ | refine J_scope ?_
    | refine CondP.yes (by omega) ?_ | refine CondP.no (by omega) ?_ | refine CondP.mk (fun h => ?_) (fun h => ?_) | refine EqP.mk rfl ?_ | refine NewP.mk (fun ad => ?_) | refine ArP.exact (by simp only [inR]; omega) ?_ | refine SideP.mk (by first | omega | (dsimp only; omega) | (simp; omega)) ?_
    | refine CallP.mk [_] [] [_] _ c1 (by simp) (fun _ h => ⟨h.1, trivial⟩) (fun v L' D' hp => ?_); obtain ⟨rfl, rfl, rfl⟩ := hp | refine IdxE.mk e2 1 _ (hrd _ []) (by omega) (by omega) ?_ | refine LoadE.mk e2 _ _ _ (hrd _ []) (by omega) (by omega) (by omega) hg ?_ | exact FinE.mk _ [] ⟨rfl, rfl, rfl⟩ (Ents.facts fun _ _ => trivial)
    | fail

/-- The names of the titles that a tape makes. -/
def tapeNames : List (List UInt8) := [[65], [66], [65, 47, 66], [67], [84], [85, 47, 120], [65, 47, 66, 47, 99], [76, 111, 110, 103, 32, 110, 97, 109, 101], [49], [88]]

theorem tapeTitle_ok (e : Nat) (a : Option Addr) (c ad at_ : Nat) (l : List Int) (hat : at_ ≤ l.length) (hl : l.length ≤ maxLen) : FnS Tryz.prog 12 [.c (.p 1000 ad 0)] [tapeC ad a l.length c at_] [slFact e 1 a l.length (l.map (C.i .i64))]
    (fun v L D => v = .agg [.i .i64 (tNext l at_ 6), .s (tapeNames.getD (tNext l (tAt l at_) 10).toNat [])] ∧ L = [tapeC ad a l.length c (tAt l (tAt l at_))] ∧ D = []) := by
  have c1 := next_ok e a c ad at_ l 6 (by omega) hat hl
  have c2 := fun b d => of_ok e 9 a b c d 10 ad (tAt l at_) l tapeNames rfl (by decide) (tAt_le hat) hl
  refine fn_of_J Tryz.tyOK 2000 Tryz.func12 (by kernel_rfl) (c := Tryz.f12.body.getD .skip) (by kernel_rfl) Tryz.ntmps12 (rs := Tryz.f12.results.toList) rfl (by simp) (fun G => ?_)
  repeat' first
    | refine J_seq ?_ | refine J_region Tryz.tyOK ?_ | refine J_block ?_ | refine J_cond ?_ | refine J_ret ?_ | refine J_skip ?_ | refine J_exit ?_ | refine J_scope ?_
    | refine CondP.yes (by omega) ?_ | refine CondP.no (by omega) ?_ | refine CondP.mk (fun h => ?_) (fun h => ?_) | refine EqP.mk rfl ?_ | refine NewP.mk (fun ad => ?_) | refine ArP.exact (by simp only [inR]; omega) ?_ | refine SideP.mk (by first | omega | (dsimp only; omega) | (simp; omega)) ?_
    | refine CallP.mk [_] [_] [_] _ c1 (List.Perm.swap _ _ _) (fun _ h => h) (fun v L' D' hp => ?_); obtain ⟨rfl, rfl, rfl⟩ := hp | refine CallP.mkE [_] [_] _ _ _ (c2 _ _) (Ents.toFact.trans (Ents.refl _ _)) (fun _ h => ⟨h.2.1, h.1, trivial⟩) (fun v L' D' hp => ?_); obtain ⟨rfl, rfl, rfl⟩ := hp | refine FinE.mk _ [] ⟨rfl, rfl, rfl⟩ ((Ents.perm (List.Perm.swap _ _ _)).trans (Ents.drop.trans (Ents.facts fun _ _ => trivial)))
    | fail

end Go.Proofs
