/- This text walks through the statement PolicyValidate: it answers true. -/
import Derived.Test.YtcgagjbkfgaacaaGreatDoorPolG
import Derived.Test.YtcgagjbkfgaacaaGreatDoorPolK
set_option linter.all false

namespace Go.Proofs
open Go Go.X
set_option maxRecDepth 100000
set_option maxHeartbeats 4000000

theorem large_ok (p : PolM) (h : PolOK p) : FnS Tryz.prog 19 [.agg p.cells] [] p.facts (fun v L D => (∃ b, v = .c (.b b)) ∧ L = [] ∧ D = []) := by
  have hgl := h.gl
  have hrl := h.rl
  have hxl := h.xl
  have hrg : ∀ L, Reads L p.facts 0 2 p.ga p.gs.length (gsC p.gs) := fun L => .inr fun m h => h.1
  refine fn_of_J Tryz.tyOK 0 Tryz.func19 (by kernel_rfl) (c := Tryz.f19.body.getD .skip) (by kernel_rfl) Tryz.ntmps19 (rs := Tryz.f19.results.toList) rfl (by simp) (fun G => ?_)
  repeat' first
    | refine J_seq ?_ | refine J_region Tryz.tyOK ?_ | refine J_block ?_ | refine J_cond ?_ | refine J_ret ?_ | refine J_skip ?_ | refine J_exit ?_ | refine J_scope ?_
    | refine CondP.yes (by omega) ?_ | refine CondP.no (by omega) ?_ | refine CondP.mk (fun h => ?_) (fun h => ?_) | refine EqP.mk rfl ?_ | refine NewP.mk (fun ad => ?_) | refine ArP.exact (by simp only [inR]; omega) ?_ | refine SideP.mk (by first | omega | (dsimp only; omega) | (simp; omega)) ?_
    | exact FinE.mk [] [] ⟨⟨_, rfl⟩, rfl, rfl⟩ (Ents.dropAll.trans (Ents.facts fun _ _ => trivial))
    | fail
  refine J_loop (α := Nat) (fun i => [(1, .c (.p 0 ad 0)), (3, .c (.i .i64 i))]) (fun _ => [.box 0 ad 27 p.cells]) (fun _ => p.facts) 1
    (fun i => i ≤ p.gs.length) (fun i => p.gs.length - i) (InFam.mk 0 (Nat.zero_le _) (by repeat' first | exact SubE.nil | refine SubE.cons rfl ?_ ?_ | exact VEq.refl _ | refine VEq.int (by omega) | refine VEq.sl rfl (by first | rfl | omega | (rw [List.length_append]; rfl) | (simp; omega)) rfl) (Ents.refl _ _)) (fun i hi => ?_)
  by_cases hlt : i < p.gs.length
  · have hc1 : ((gsC p.gs).drop (i * 2 + 1)).take 1 = [C.sl p.gs[i].a p.gs[i].mem.length p.gs[i].c] := by rw [gsC, flat_get (F := GrpM.cells) (z := 2) (fun _ => rfl) hlt (by omega)]; rfl
    repeat' first
      | refine J_seq ?_ | refine J_region Tryz.tyOK ?_ | refine J_block ?_ | refine J_cond ?_ | refine J_ret ?_ | refine J_skip ?_ | refine J_exit ?_ | refine J_scope ?_
      | refine CondP.yes (by omega) ?_ | refine CondP.no (by omega) ?_ | refine CondP.mk (fun h => ?_) (fun h => ?_) | refine EqP.mk rfl ?_ | refine NewP.mk (fun ad => ?_) | refine ArP.exact (by simp only [inR]; omega) ?_ | refine SideP.mk (by first | omega | (dsimp only; omega) | (simp; omega)) ?_
      | refine IdxE.mk 0 2 _ (hrg _) (by omega) (by omega) ?_ | refine FldE.mk 0 2 _ _ (hrg _) (by omega) ?_ | refine LoadE.mk 0 _ _ _ (hrg _) (by omega) (by omega) (by first | omega | decide) hc1 ?_ | refine Round.mk (i + 1) (by omega) (by omega) (by repeat' first | exact SubE.nil | refine SubE.cons rfl ?_ ?_ | exact VEq.refl _ | refine VEq.int (by omega) | refine VEq.sl rfl (by first | rfl | omega | (rw [List.length_append]; rfl) | (simp; omega)) rfl) (Ents.refl _ _) | exact FinE.mk [] [] ⟨⟨_, rfl⟩, rfl, rfl⟩ (Ents.dropAll.trans (Ents.facts fun _ _ => trivial))
      | fail
  · have hil : i = p.gs.length := by omega
    subst hil
    repeat' first
      | refine J_seq ?_ | refine J_region Tryz.tyOK ?_ | refine J_block ?_ | refine J_cond ?_ | refine J_ret ?_ | refine J_skip ?_ | refine J_exit ?_ | refine J_scope ?_
      | refine CondP.yes (by omega) ?_ | refine CondP.no (by omega) ?_ | refine CondP.mk (fun h => ?_) (fun h => ?_) | refine EqP.mk rfl ?_ | refine NewP.mk (fun ad => ?_) | refine ArP.exact (by simp only [inR]; omega) ?_ | refine SideP.mk (by first | omega | (dsimp only; omega) | (simp; omega)) ?_
      | exact FinE.mk [] [] ⟨⟨_, rfl⟩, rfl, rfl⟩ (Ents.dropAll.trans (Ents.facts fun _ _ => trivial))
      | fail

theorem policyValidate_law (p : PolM) (h : PolOK p) : FnS Tryz.prog 6 [.agg p.cells] [] (gInt 0 :: p.facts) (Is tt) := by
  have c0 := large_ok p h
  have c1 := polFormat_ok p h
  have c2 := refFormat12_ok p h
  have c3 := polValidate_ok p h
  have c4 := refValidate_ok p h
  generalize polFormatT p.p3 = r at *
  generalize validateT (gpOf p.gs) p.rs p.xs = e0 at *
  obtain ⟨o, e⟩ := r
  refine fn_of_J Tryz.tyOK 0 Tryz.func6 (by kernel_rfl) (c := Tryz.f6.body.getD .skip) (by kernel_rfl) Tryz.ntmps6 (rs := Tryz.f6.results.toList) rfl (by simp) (fun G => ?_)
  repeat' first
    | refine CondP.yes rfl ?_
    | refine J_seq ?_ | refine J_region Tryz.tyOK ?_ | refine J_block ?_ | refine J_cond ?_ | refine J_ret ?_ | refine J_skip ?_ | refine J_exit ?_ | refine J_scope ?_
    | refine CondP.yes (by omega) ?_ | refine CondP.no (by omega) ?_ | refine CondP.mk (fun h => ?_) (fun h => ?_) | refine EqP.mk rfl ?_ | refine NewP.mk (fun ad => ?_) | refine ArP.exact (by simp only [inR]; omega) ?_ | refine SideP.mk (by first | omega | (dsimp only; omega) | (simp; omega)) ?_
    | refine CallP.mk [] _ p.facts _ c0 (List.Perm.refl _) (fun m h => h.2) (fun v L' D' hp => ?_); obtain ⟨⟨b, rfl⟩, rfl, rfl⟩ := hp; cases b | refine CallP.is known12_ok ?_ (fun m h => ⟨h.1, trivial⟩) | refine CallP.is c1 ?_ (fun m h => h) | refine CallP.is c2 ?_ (fun m h => h.2) | refine J_drawS (id := 5) Tryz.tyOK (by kernel_rfl) [0, 1, 0, 7, 15, 31, 63, 63, 255, 511, 1023, 2047, 2047, 8191, 16383, 32767, 65535, 131071, 262143] [0, 1, 2, 3, 4, 5, 6, 7, 8, 9, 10, 11, 12, 13, 14, 15, 16, 17, 18] [] [1] true (by kernel_rfl) ?_ | refine EntP.mk (Ents.ofSub (by repeat (first | exact List.Sublist.slnil | refine List.Sublist.cons_cons _ ?_ | refine List.Sublist.cons _ ?_)) (by first | exact fun _ h => h | exact fun _ _ => trivial | exact fun _ h => h.2 | exact fun _ h => h.2.2.2.2 | exact fun _ h => ((allD_append _ _).1 h).2)) ?_ | refine CallQ.mk _ _ c3 (fun m h => h) ?_ | refine CallQ.mk _ _ c4 (fun m h => h.2) ?_ | refine CallQ.mk [gInt 0] _ known12_ok (fun m h => ⟨h.1, trivial⟩) ?_ | exact FinE.is rfl
    | fail

end Go.Proofs
