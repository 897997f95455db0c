/- This text walks through the sanity check of the statements on policies, and through the statement PolicyNames: each answers true. -/
import Derived.Test.YtabmiagnfihleaaGreatDoorPolE
set_option linter.all false

namespace Go.X
def litK : Bs := [103, 114, 111, 117, 112, 32, 115, 116, 97, 102, 102, 32, 97, 110, 110, 32, 98, 111, 98, 10, 97, 108, 108, 111, 119, 32, 114, 101, 97, 100, 32, 97, 108, 108, 32, 60, 97, 108, 108, 62, 10, 100, 101, 110, 121, 32, 114, 101, 97, 100, 32, 97, 108, 108, 32, 85, 115, 101, 114, 58, 65, 110, 110, 47, 100, 105, 97, 114, 121, 10, 103, 117, 97, 114, 100, 32, 115, 116, 97, 102, 102, 32, 77, 97, 105, 110, 32, 80, 97, 103, 101, 32, 124, 32, 82, 117, 108, 101, 115]
def p3K : P3 := ([([115, 116, 97, 102, 102], [[97, 110, 110], [98, 111, 98]])], [⟨true, 1, [97, 108, 108], 1, 0, []⟩, ⟨false, 1, [97, 108, 108], 3, 2, [65, 110, 110, 47, 100, 105, 97, 114, 121]⟩], [⟨false, [115, 116, 97, 102, 102], 0, [77, 97, 105, 110, 32, 80, 97, 103, 101], [82, 117, 108, 101, 115]⟩])
theorem litK_eq : polParseT litK = (p3K, 0, 0) := by kernel_rfl
theorem p3K_ok : validateT p3K.1 p3K.2.1 p3K.2.2 = 0 := by decide +kernel
end Go.X

namespace Go.Proofs
open Go Go.X
set_option maxRecDepth 100000
set_option maxHeartbeats 4000000

theorem known12_ok : FnS Tryz.prog 6 [] [] [gInt 0] (Is tt) := by
  have c1 := polParse_ok litK (by decide)
  rw [litK_eq] at c1
  have c3 := polIsName_ok [115, 116, 97, 102, 102] (by decide)
  have c4 := polIsName_ok [64, 120] (by decide)
  rw [show isNameT [115, 116, 97, 102, 102] = true from by decide +kernel] at c3
  rw [show isNameT [64, 120] = false from by decide +kernel] at c4
  refine fn_of_J Tryz.tyOK 0 Tryz.func6 (by kernel_rfl) (c := Tryz.f6.body.getD .skip) (by kernel_rfl) Tryz.ntmps6 (rs := Tryz.f6.results.toList) rfl (by simp) (fun G => ?_)
  repeat' first
    | refine J_stop (c := .seq (.region 2 _ _) _) ?_
    | refine J_seq ?_ | refine J_region Tryz.tyOK ?_ | refine J_block ?_ | refine J_cond ?_ | refine J_ret ?_ | refine J_skip ?_ | refine J_exit ?_ | refine J_scope ?_
    | refine CondP.yes (by omega) ?_ | refine CondP.no (by omega) ?_ | refine CondP.mk (fun h => ?_) (fun h => ?_) | refine EqP.mk rfl ?_ | refine NewP.mk (fun ad => ?_) | refine ArP.exact (by simp only [inR]; omega) ?_ | refine SideP.mk (by first | omega | (dsimp only; omega) | (simp; omega)) ?_
    | refine CallP.mk [] _ [gInt 0] _ c1 (List.Perm.refl _) (fun m h => h) (fun v L' D' hp => ?_); obtain ⟨p, hp3, hgc, hb, rfl, rfl, rfl⟩ := hp
    | fail
  have c2 := polValidate_ok p (PolOK.of hb (by omega) (by omega) hgc)
  have hv : validateT (gpOf p.gs) p.rs p.xs = 0 := by
    have := p3K_ok
    rw [← show p.p3 = p3K from hp3] at this
    exact this
  rw [hv] at c2
  have hp4 : p.p3 = p3K := hp3
  have hgl : (p.gs.length : Int) = 1 := by
    have := congrArg (fun q : P3 => q.1.length) hp4
    simp [PolM.p3, gpOf, p3K] at this
    omega
  have hrl : (p.rs.length : Int) = 2 := by
    have := congrArg (fun q : P3 => q.2.1.length) hp4
    simp [PolM.p3, p3K] at this
    omega
  have hx : p.xs = p3K.2.2 := by rw [← hp4]; rfl
  have hxl : (p.xs.length : Int) = 1 := by rw [hx]; rfl
  have hrx : ∀ L, Reads L (p.facts ++ [gInt 0]) 0 5 p.xa p.xs.length (xsC p.xs) := fun L => .inr fun m h => h.2.2.2.1
  clear hb hv c1 hp4
  have hcx : ((xsC p.xs).drop (0 * 5 + 0)).take 5 = [.b false, .s [115, 116, 97, 102, 102], .i .i64 0, .s [77, 97, 105, 110, 32, 80, 97, 103, 101], .s [82, 117, 108, 101, 115]] := by rw [hx]; rfl
  refine ⟨?_⟩
  refine J_seq ?_
  repeat' first
    | refine CondP.yes ⟨rfl, rfl, ⟨rfl, rfl, trivial⟩, rfl, trivial⟩ ?_ | refine CondP.yes rfl ?_
    | refine J_seq ?_ | refine J_region Tryz.tyOK ?_ | refine J_block ?_ | refine J_cond ?_ | refine J_ret ?_ | refine J_skip ?_ | refine J_exit ?_ | refine J_scope ?_
    | refine CondP.yes (by omega) ?_ | refine CondP.no (by omega) ?_ | refine CondP.mk (fun h => ?_) (fun h => ?_) | refine EqP.mk rfl ?_ | refine NewP.mk (fun ad => ?_) | refine ArP.exact (by simp only [inR]; omega) ?_ | refine SideP.mk (by first | omega | (dsimp only; omega) | (simp; omega)) ?_
    | refine IdxE.mk 0 5 _ (hrx _) (by omega) (by omega) ?_ | refine LoadE.mk 0 _ _ _ (hrx _) (by omega) (by omega) (by omega) hcx ?_ | refine CallP.is c2 ?_ (fun m h => ⟨h.2.2.2.2.1, h.1, h.2.1, h.2.2.1, h.2.2.2.1, trivial⟩) | refine CallP.is c3 ?_ | refine CallP.is c4 ?_ | exact FinE.is rfl
    | fail


end Go.Proofs
