/- This text walks through the statements PolicyParse and PolicyBuilt: each answers true. -/
import Derived.Test.YtcgagjbkfgaacaaGreatDoorPolK
import Derived.Test.YtcgagjbkfgaacaaGreatDoorPolW
import Derived.Test.YtcgagjbkfgaacaaGreatDoorPolX
import Derived.Test.YtcgagjbkfgaacaaGreatDoorTape
set_option linter.all false

namespace Go.X
theorem getD_le {B : Nat} : ∀ (xs : List Bs), (∀ x ∈ xs, x.length ≤ B) → ∀ k, (xs.getD k []).length ≤ B
  | [], _, k => by simp
  | x :: r, h, 0 => h x (by simp)
  | x :: r, h, k + 1 => by
    have := getD_le r (fun y hy => h y (by simp [hy])) k
    simpa using this

def tb1 : List Bs := [[103, 114, 111, 117, 112], [97, 108, 108, 111, 119, 32, 114, 101, 97, 100], [97, 108, 108, 111, 119, 32, 32, 101, 100, 105, 116], [100, 101, 110, 121, 9, 109, 111, 118, 101], [100, 101, 110, 121, 32, 114, 101, 97, 100], [103, 117, 97, 114, 100], [115, 116, 114, 105, 99, 116], [35, 32, 120], [], [97, 108, 108, 111, 119, 32, 120], [32, 97, 108, 108, 111, 119, 32, 100, 101, 108, 101, 116, 101]]
def tb2 : List Bs := [[115, 116, 97, 102, 102], [109, 111, 100, 115], [97, 108, 108], [117, 115, 101, 114, 115], [64, 115, 116, 97, 102, 102], [83, 116, 97, 102, 102], []]
def tb3 : List Bs := [[32], [32, 32], [9]]
def tb4 : List Bs := [[60, 97, 108, 108, 62], [60, 77, 97, 105, 110, 62], [60, 84, 97, 108, 107, 62], [60, 116, 97, 108, 107, 62], [65], [116, 97, 108, 107, 58, 97, 47, 98], [65, 32, 124, 32, 115], [65, 124], [97, 110, 110, 32, 64, 109, 111, 100, 115], [97, 110, 110], [], [65, 32, 35, 32, 120]]
end Go.X

namespace Go.Proofs
open Go Go.X
set_option maxRecDepth 100000
set_option maxHeartbeats 4000000

theorem policyParse_law (s : Bs) (hs : s.length ≤ maxLen) : FnS Tryz.prog 3 [.c (.s s)] [] [gInt 0] (Is tt) := by
  simp only [maxLen] at hs
  by_cases hbig : 800 < (s.length : Int)
  · refine fn_of_J Tryz.tyOK 0 Tryz.func3 (by kernel_rfl) (c := Tryz.f3.body.getD .skip) (by kernel_rfl) Tryz.ntmps3 (rs := Tryz.f3.results.toList) rfl (by simp) (fun G => ?_)
    repeat' first
      | refine J_seq ?_ | refine J_region Tryz.tyOK ?_ | refine J_block ?_ | refine J_cond ?_ | refine J_ret ?_ | refine J_skip ?_ | refine J_exit ?_ | refine J_scope ?_
      | refine CondP.yes (by omega) ?_ | refine CondP.no (by omega) ?_ | refine CondP.mk (fun h => ?_) (fun h => ?_) | refine EqP.mk rfl ?_ | refine NewP.mk (fun ad => ?_) | refine ArP.exact (by simp only [inR]; omega) ?_ | refine SideP.mk (by first | omega | (dsimp only; omega) | (simp; omega)) ?_
      | refine CallP.is known12_ok ?_ | exact FinE.is rfl
      | fail
  have c1 := polParse_ok s (by omega)
  have c2 := refParse12_ok s (by omega)
  generalize polParseT s = r at *
  obtain ⟨q3, n, e⟩ := r
  refine fn_of_J Tryz.tyOK 0 Tryz.func3 (by kernel_rfl) (c := Tryz.f3.body.getD .skip) (by kernel_rfl) Tryz.ntmps3 (rs := Tryz.f3.results.toList) rfl (by simp) (fun G => ?_)
  repeat' first
    | refine CondP.yes rfl ?_ | refine J_stop (c := .seq (.seq (.region 4 _ _) _) _) ?_ | refine J_stop (c := .seq (.region 4 _ _) _) ?_
    | refine J_seq ?_ | refine J_region Tryz.tyOK ?_ | refine J_block ?_ | refine J_cond ?_ | refine J_ret ?_ | refine J_skip ?_ | refine J_exit ?_ | refine J_scope ?_
    | refine CondP.yes (by omega) ?_ | refine CondP.no (by omega) ?_ | refine CondP.mk (fun h => ?_) (fun h => ?_) | refine EqP.mk rfl ?_ | refine NewP.mk (fun ad => ?_) | refine ArP.exact (by simp only [inR]; omega) ?_ | refine SideP.mk (by first | omega | (dsimp only; omega) | (simp; omega)) ?_
    | refine CallP.mk [] _ [gInt 0] _ c1 (List.Perm.refl _) (fun m h => h) (fun v L' D' hp => ?_); obtain ⟨p, hp3, hgc, hb, rfl, rfl, rfl⟩ := hp
    | fail
  refine ⟨?_⟩
  repeat' first
    | refine CondP.yes rfl ?_ | refine J_stop (c := .seq (.region 5 _ _) _) ?_
    | refine J_seq ?_ | refine J_region Tryz.tyOK ?_ | refine J_block ?_ | refine J_cond ?_ | refine J_ret ?_ | refine J_skip ?_ | refine J_exit ?_ | refine J_scope ?_
    | refine CondP.yes (by omega) ?_ | refine CondP.no (by omega) ?_ | refine CondP.mk (fun h => ?_) (fun h => ?_) | refine EqP.mk rfl ?_ | refine NewP.mk (fun ad => ?_) | refine ArP.exact (by simp only [inR]; omega) ?_ | refine SideP.mk (by first | omega | (dsimp only; omega) | (simp; omega)) ?_
    | refine CallP.mk [] _ [] _ c2 (List.Perm.refl _) (fun m h => trivial) (fun v L' D' hp => ?_); obtain ⟨q, hq3, hqc, hqb, rfl, rfl, rfl⟩ := hp
    | fail
  refine ⟨?_⟩
  have hok := PolOK.of hb (by omega) (by omega) hgc
  have c3 := samePol_ok p q (hp3.trans hq3.symm) hok.gl hok.rl hok.xl (fun g hg => (hok.gb g hg).2.1)
  refine J_seq ?_
  repeat' first
    | refine CondP.yes rfl ?_
    | refine J_seq ?_ | refine J_region Tryz.tyOK ?_ | refine J_block ?_ | refine J_cond ?_ | refine J_ret ?_ | refine J_skip ?_ | refine J_exit ?_ | refine J_scope ?_
    | refine CondP.yes (by omega) ?_ | refine CondP.no (by omega) ?_ | refine CondP.mk (fun h => ?_) (fun h => ?_) | refine EqP.mk rfl ?_ | refine NewP.mk (fun ad => ?_) | refine ArP.exact (by simp only [inR]; omega) ?_ | refine SideP.mk (by first | omega | (dsimp only; omega) | (simp; omega)) ?_
    | refine CallP.is c3 ?_ (fun m h => (allD_append _ _).2 ⟨((allD_append _ _).1 ((allD_append _ _).1 h).2).1, ((allD_append _ _).1 h).1⟩) | refine CallP.is known12_ok ?_ (fun m h => ((allD_append _ _).1 ((allD_append _ _).1 h).2).2) | exact FinE.is rfl
    | fail

theorem policyBuilt_law (e0 : Nat) (a : Option Addr) (c : Nat) (l : List Int) (hl : l.length ≤ maxLen) : FnS Tryz.prog 4 [.c (.sl a l.length c)] [] [slFact e0 1 a l.length (l.map (C.i .i64)), gInt 0] (Is tt) := by
  have c0 := new_ok a l.length c
  refine fn_of_J Tryz.tyOK 0 Tryz.func4 (by kernel_rfl) (c := Tryz.f4.body.getD .skip) (by kernel_rfl) Tryz.ntmps4 (rs := Tryz.f4.results.toList) rfl (by simp) (fun G => ?_)
  repeat' first
    | refine J_seq ?_ | refine J_region Tryz.tyOK ?_ | refine J_block ?_ | refine J_cond ?_ | refine J_ret ?_ | refine J_skip ?_ | refine J_exit ?_ | refine J_scope ?_
    | refine CondP.yes (by omega) ?_ | refine CondP.no (by omega) ?_ | refine CondP.mk (fun h => ?_) (fun h => ?_) | refine EqP.mk rfl ?_ | refine NewP.mk (fun ad => ?_) | refine ArP.exact (by simp only [inR]; omega) ?_ | refine SideP.mk (by first | omega | (dsimp only; omega) | (simp; omega)) ?_
    | refine CallP.mk [] _ [] _ c0 (List.Perm.refl _) (fun m h => trivial) (fun v L' D' hp => ?_); obtain ⟨tad, rfl, rfl, rfl⟩ := hp
    | fail
  refine J_loop (α := Nat × Nat × Bs) (fun x => [(3, .c (.p 1000 tad 0)), (4, .c (.s x.2.2)), (5, .c (.i .i64 x.1))]) (fun x => [tapeC tad a l.length c x.2.1]) (fun _ => [slFact e0 1 a l.length (l.map (C.i .i64)), gInt 0]) 0
    (fun x => x.1 ≤ 8 ∧ x.2.1 ≤ l.length ∧ x.2.2.length ≤ x.1 * 40) (fun x => 8 - x.1) (InFam.mk (0, 0, []) ⟨Nat.zero_le _, Nat.zero_le _, by simp⟩ (by repeat' first | exact SubE.nil | refine SubE.cons rfl ?_ ?_ | exact VEq.refl _ | refine VEq.int (by omega) | refine VEq.sl rfl (by first | rfl | omega | (rw [List.length_append]; rfl) | (simp; omega)) rfl) (Ents.refl _ _)) (fun x hx => ?_)
  obtain ⟨i, at0, s⟩ := x
  dsimp only at hx ⊢
  obtain ⟨hi, hat, hs⟩ := hx
  have n0 := next_ok e0 a c tad at0 l 9 (by omega) hat hl
  have hk := tNext_range l at0 (n := 9) (by omega)
  have ha1 := tAt_le hat
  generalize tNext l at0 9 = k at *
  generalize tAt l at0 = a1 at *
  by_cases hik : (i : Int) < k
  · have o1 := fun b d => of_ok e0 9 a b c d 11 tad a1 l tb1 rfl (by decide) ha1 hl
    have b1 := getD_le (B := 13) tb1 (by decide) (tNext l a1 (11 : Nat)).toNat
    have ha2 := tAt_le ha1
    generalize tb1.getD (tNext l a1 (11 : Nat)).toNat [] = r1 at *
    generalize tAt l a1 = a2 at *
    have o2 := fun b d => of_ok e0 9 a b c d 7 tad a2 l tb2 rfl (by decide) ha2 hl
    have b2 := getD_le (B := 6) tb2 (by decide) (tNext l a2 (7 : Nat)).toNat
    have ha3 := tAt_le ha2
    generalize tb2.getD (tNext l a2 (7 : Nat)).toNat [] = r2 at *
    generalize tAt l a2 = a3 at *
    have o3 := fun b d => of_ok e0 9 a b c d 3 tad a3 l tb3 rfl (by decide) ha3 hl
    have b3 := getD_le (B := 2) tb3 (by decide) (tNext l a3 (3 : Nat)).toNat
    have ha4 := tAt_le ha3
    generalize tb3.getD (tNext l a3 (3 : Nat)).toNat [] = r3 at *
    generalize tAt l a3 = a4 at *
    have o4 := fun b d => of_ok e0 9 a b c d 12 tad a4 l tb4 rfl (by decide) ha4 hl
    have b4 := getD_le (B := 9) tb4 (by decide) (tNext l a4 (12 : Nat)).toNat
    have ha5 := tAt_le ha4
    generalize tb4.getD (tNext l a4 (12 : Nat)).toNat [] = r4 at *
    generalize tAt l a4 = a5 at *
    repeat' first
      | refine SideP.mk (by simp only [List.length_append, List.length_cons, List.length_nil]; omega) ?_
      | refine J_seq ?_ | refine J_region Tryz.tyOK ?_ | refine J_block ?_ | refine J_cond ?_ | refine J_ret ?_ | refine J_skip ?_ | refine J_exit ?_ | refine J_scope ?_
      | refine CondP.yes (by omega) ?_ | refine CondP.no (by omega) ?_ | refine CondP.mk (fun h => ?_) (fun h => ?_) | refine EqP.mk rfl ?_ | refine NewP.mk (fun ad => ?_) | refine ArP.exact (by simp only [inR]; omega) ?_ | refine SideP.mk (by first | omega | (dsimp only; omega) | (simp; omega)) ?_
      | refine CallP.mk [_] [] [_] _ n0 (List.Perm.refl _) (fun m h => ⟨h.1, trivial⟩) (fun v L' D' hp => ?_); obtain ⟨rfl, rfl, rfl⟩ := hp | refine CallP.mkE [_] [] _ _ _ (o1 _ _) Ents.toFact (fun _ h => ⟨h.2.1, h.1, trivial⟩) (fun v L' D' hp => ?_); obtain ⟨rfl, rfl, rfl⟩ := hp | refine CallP.mkE [_] [] _ _ _ (o2 _ _) Ents.toFact (fun _ h => ⟨h.2.2.1, h.1, trivial⟩) (fun v L' D' hp => ?_); obtain ⟨rfl, rfl, rfl⟩ := hp | refine CallP.mkE [_] [] _ _ _ (o3 _ _) Ents.toFact (fun _ h => ⟨h.2.2.2.1, h.1, trivial⟩) (fun v L' D' hp => ?_); obtain ⟨rfl, rfl, rfl⟩ := hp | refine CallP.mkE [_] [] _ _ _ (o4 _ _) Ents.toFact (fun _ h => ⟨h.2.2.2.2.1, h.1, trivial⟩) (fun v L' D' hp => ?_); obtain ⟨rfl, rfl, rfl⟩ := hp | refine Round.mk (i + 1, a5, _) (by dsimp only; omega) ⟨by dsimp only; omega, ha5, ?_⟩ (SubE.cons rfl (VEq.refl _) (SubE.cons rfl (VEq.refl _) (SubE.cons rfl (VEq.int (by omega)) SubE.nil))) (Ents.facts fun m h => ⟨h.2.2.2.2.1, h.2.2.2.2.2.1, trivial⟩)
      | fail
    simp only [List.length_append, List.length_cons, List.length_nil]; omega
  · have c1 := polParse_ok s (by omega)
    have c2 := refParse12_ok s (by omega)
    generalize polParseT s = r at *
    obtain ⟨q3, n, e⟩ := r
    repeat' first
      | refine CondP.yes rfl ?_ | refine J_stop (c := .seq (.region 10 _ _) _) ?_
      | refine J_seq ?_ | refine J_region Tryz.tyOK ?_ | refine J_block ?_ | refine J_cond ?_ | refine J_ret ?_ | refine J_skip ?_ | refine J_exit ?_ | refine J_scope ?_
      | refine CondP.yes (by omega) ?_ | refine CondP.no (by omega) ?_ | refine CondP.mk (fun h => ?_) (fun h => ?_) | refine EqP.mk rfl ?_ | refine NewP.mk (fun ad => ?_) | refine ArP.exact (by simp only [inR]; omega) ?_ | refine SideP.mk (by first | omega | (dsimp only; omega) | (simp; omega)) ?_
      | refine CallP.mk [_] [] [_] _ n0 (List.Perm.refl _) (fun m h => ⟨h.1, trivial⟩) (fun v L' D' hp => ?_); obtain ⟨rfl, rfl, rfl⟩ := hp | refine CallP.mk [] _ [gInt 0] _ c1 (List.Perm.refl _) (fun m h => ⟨h.2.1, trivial⟩) (fun v L' D' hp => ?_); obtain ⟨p, hp3, hgc, hb, rfl, rfl, rfl⟩ := hp
      | fail
    refine ⟨?_⟩
    repeat' first
      | refine CondP.yes rfl ?_ | refine J_stop (c := .seq (.region 11 _ _) _) ?_
      | refine J_seq ?_ | refine J_region Tryz.tyOK ?_ | refine J_block ?_ | refine J_cond ?_ | refine J_ret ?_ | refine J_skip ?_ | refine J_exit ?_ | refine J_scope ?_
      | refine CondP.yes (by omega) ?_ | refine CondP.no (by omega) ?_ | refine CondP.mk (fun h => ?_) (fun h => ?_) | refine EqP.mk rfl ?_ | refine NewP.mk (fun ad => ?_) | refine ArP.exact (by simp only [inR]; omega) ?_ | refine SideP.mk (by first | omega | (dsimp only; omega) | (simp; omega)) ?_
      | refine CallP.mk [] _ [] _ c2 (List.Perm.refl _) (fun m h => trivial) (fun v L' D' hp => ?_); obtain ⟨q, hq3, hqc, hqb, rfl, rfl, rfl⟩ := hp
      | fail
    refine ⟨?_⟩
    have hok := PolOK.of hb (by omega) (by omega) hgc
    have c3 := samePol_ok p q (hp3.trans hq3.symm) hok.gl hok.rl hok.xl (fun g hg => (hok.gb g hg).2.1)
    refine J_seq ?_
    repeat' first
      | refine CondP.yes rfl ?_
      | refine J_seq ?_ | refine J_region Tryz.tyOK ?_ | refine J_block ?_ | refine J_cond ?_ | refine J_ret ?_ | refine J_skip ?_ | refine J_exit ?_ | refine J_scope ?_
      | refine CondP.yes (by omega) ?_ | refine CondP.no (by omega) ?_ | refine CondP.mk (fun h => ?_) (fun h => ?_) | refine EqP.mk rfl ?_ | refine NewP.mk (fun ad => ?_) | refine ArP.exact (by simp only [inR]; omega) ?_ | refine SideP.mk (by first | omega | (dsimp only; omega) | (simp; omega)) ?_
      | refine CallP.is c3 ?_ (fun m h => (allD_append _ _).2 ⟨((allD_append _ _).1 ((allD_append _ _).1 h).2).1, ((allD_append _ _).1 h).1⟩) | refine CallP.is known12_ok ?_ (fun m h => ⟨((allD_append _ _).1 ((allD_append _ _).1 h).2).2.2.1, trivial⟩) | exact FinE.is rfl
      | fail

end Go.Proofs
