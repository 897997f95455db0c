/- This text walks through the policies that a tape makes. -/
import Derived.Test.YtabmiagnfihleaaGreatDoorTape
import Derived.Test.YtabmiagnfihleaaGreatDoorPolE
import Derived.Test.YtabmiagnfihleaaGreatDoorPolP
set_option linter.all false

namespace Go.X
def names3 : List Bs := [[115, 116, 97, 102, 102], [109, 111, 100, 115], [103, 111, 108, 100]]
def names5 : List Bs := [[97, 110, 110], [98, 111, 98], [115, 116, 97, 102, 102], [109, 111, 100, 115], [122, 111, 101]]
def sects4 : List Bs := [[], [115], [116], [97, 32, 98]]
def knownN (n : Nat) : List Bs := [[97, 108, 108], [117, 115, 101, 114, 115]] ++ names3.take n
def wUsersM : Bs := [64, 117, 115, 101, 114, 115]

/-- A member that a tape makes, where n groups are made. -/
def memOK (n : Nat) (m : Bs) : Prop := m ∈ names5 ∨ m = wUsersM ∨ ∃ g ∈ names3.take n, m = [64] ++ g
def rulOK (n : Nat) (r : Rul) : Prop := 1 ≤ r.right ∧ r.right ≤ 5 ∧ r.group ∈ knownN n ∧ scopeOK r.kind r.sp r.nm = true
def grdOK (n : Nat) (x : Grd) : Prop := x.group ∈ knownN n ∧ validT x.sp x.nm = true ∧ x.sect ∈ sects4

/-- A policy that a tape makes. -/
structure TapeP (n : Nat) (q : P3) : Prop where
  n3 : n ≤ 3
  nm : nms q.1 = names3.take n
  g : ∀ g ∈ q.1, g.2.length ≤ 2 ∧ ∀ m ∈ g.2, memOK n m
  r1 : 1 ≤ q.2.1.length
  r7 : q.2.1.length ≤ 7
  r : ∀ r ∈ q.2.1, rulOK n r
  x3 : q.2.2.length ≤ 3
  x : ∀ x ∈ q.2.2, grdOK n x

theorem tapeTitles_ok : ∀ sp : Fin 6, ∀ nm ∈ ([[65], [66], [65, 47, 66], [67], [84], [85, 47, 120], [65, 47, 66, 47, 99], [76, 111, 110, 103, 32, 110, 97, 109, 101], [49], [88]] : List Bs), validT (sp.val : Int) nm = true := by decide +kernel
theorem getDle {B : Nat} : ∀ (xs : List Bs), (∀ x ∈ xs, x.length ≤ B) → ∀ k, (xs.getD k []).length ≤ B
  | [], _, k => by simp
  | x :: r, h, 0 => h x (by simp)
  | x :: r, h, k + 1 => by
    have := getDle r (fun y hy => h y (by simp [hy])) k
    simpa using this
theorem getD_mem : ∀ (xs : List Bs) (k : Nat), k < xs.length → xs.getD k [] ∈ xs
  | x :: r, 0, _ => by simp
  | x :: r, k + 1, h => by
    have := getD_mem r k (by simpa using h)
    simp only [List.getD_cons_succ]
    exact List.mem_cons_of_mem _ this
end Go.X

namespace Go.Proofs
open Go Go.X
set_option maxRecDepth 100000
set_option maxHeartbeats 4000000

theorem tapeTitle_valid (l : List Int) (a b : Nat) : validT (tNext l a 6) (tapeNames.getD (tNext l b 10).toNat []) = true := by
  have h1 := tNext_range l a (n := 6) (by omega)
  have h2 := tNext_range l b (n := 10) (by omega)
  have h3 := tapeTitles_ok ⟨(tNext l a 6).toNat, by omega⟩ (tapeNames.getD (tNext l b 10).toNat []) (getD_mem tapeNames _ (by show _ < 10; omega))
  rw [show (((⟨(tNext l a 6).toNat, by omega⟩ : Fin 6).val : Nat) : Int) = tNext l a 6 by show (((tNext l a 6).toNat : Nat) : Int) = _; omega] at h3
  exact h3

theorem tapeName_ok (e : Nat) (a : Option Addr) (c ad at_ : Nat) (l : List Int) (hat : at_ ≤ l.length) (hl : l.length ≤ maxLen) : FnS Tryz.prog 10 [.c (.p 1000 ad 0)] [tapeC ad a l.length c at_] [slFact e 1 a l.length (l.map (C.i .i64))]
    (fun v L D => (∃ m ∈ names5, v = .c (.s m)) ∧ L = [tapeC ad a l.length c (tAt l at_)] ∧ D = []) := by
  have c2 := fun b d => of_ok e 9 a b c d 5 ad at_ l names5 rfl (by decide) hat hl
  have hr := tNext_range l at_ (n := (5 : Nat)) (by decide)
  have hm := getD_mem names5 (tNext l at_ (5 : Nat)).toNat (by show _ < 5; omega)
  refine fn_of_J Tryz.tyOK 2000 Tryz.func10 (by kernel_rfl) (c := Tryz.f10.body.getD .skip) (by kernel_rfl) Tryz.ntmps10 (rs := Tryz.f10.results.toList) rfl (by simp) (fun G => ?_)
  repeat' first
    | refine J_seq ?_ | refine J_region Tryz.tyOK ?_ | refine J_block ?_ | refine J_cond ?_ | refine J_ret ?_ | refine J_skip ?_ | refine J_exit ?_ | refine J_scope ?_
    | refine CondP.yes (by omega) ?_ | refine CondP.no (by omega) ?_ | refine CondP.mk (fun h => ?_) (fun h => ?_) | refine EqP.mk rfl ?_ | refine NewP.mk (fun ad => ?_) | refine ArP.exact (by simp only [inR]; omega) ?_ | refine SideP.mk (by first | omega | (dsimp only; omega) | (simp; omega)) ?_
    | refine CallP.mkE [_] [] _ _ _ (c2 _ _) Ents.toFact (fun _ h => ⟨h.2.1, h.1, trivial⟩) (fun v L' D' hp => ?_); obtain ⟨rfl, rfl, rfl⟩ := hp | refine FinE.mk _ [] ⟨⟨_, hm, rfl⟩, rfl, rfl⟩ (Ents.facts fun _ _ => trivial)
    | fail

end Go.Proofs
