/- This text walks through the comparison of policies in the reference of chapter 12, for policies that say the same. -/
import Derived.Test.YtcgagjbkfgaacaaGreatDoorPolE
set_option linter.all false

namespace Go.Proofs
open Go Go.X
set_option maxRecDepth 100000
set_option maxHeartbeats 4000000

theorem samePol_ok (p q : PolM) (h : p.p3 = q.p3) (hgl : p.gs.length ≤ 9223372036854775807) (hrl : p.rs.length ≤ 9223372036854775807) (hxl : p.xs.length ≤ 9223372036854775807) (hml : ∀ g ∈ p.gs, g.mem.length ≤ 9223372036854775807) :
    FnS Tryz.prog 12 [.agg p.cells, .agg q.cells] [] (p.facts ++ q.facts) (Is (.c (.b true))) := by
  obtain ⟨pa, pc, pg, pra, prc, rs, pxa, pxc, xs⟩ := p
  obtain ⟨qa, qc, qg, qra, qrc, rs', qxa, qxc, xs'⟩ := q
  simp only [PolM.p3, Prod.mk.injEq] at h
  obtain ⟨hg, rfl, rfl⟩ := h
  dsimp only at hgl hrl hxl hml
  have hql : qg.length = pg.length := by have := congrArg List.length hg; simpa [gpOf] using this.symm
  generalize hDD : (PolM.facts ⟨pa, pc, pg, pra, prc, rs, pxa, pxc, xs⟩ ++ PolM.facts ⟨qa, qc, qg, qra, qrc, rs, qxa, qxc, xs⟩) = DD
  have hp1 : ∀ L, Reads L DD 0 2 pa pg.length (gsC pg) := fun L => .inr fun m h => by rw [← hDD] at h; exact h.1
  have hp2 : ∀ L, Reads L DD 0 6 pra rs.length (rsC rs) := fun L => .inr fun m h => by rw [← hDD] at h; exact h.2.2.1
  have hp3 : ∀ L, Reads L DD 0 5 pxa xs.length (xsC xs) := fun L => .inr fun m h => by rw [← hDD] at h; exact h.2.2.2.1
  have hq1 : ∀ L, Reads L DD 0 2 qa qg.length (gsC qg) := fun L => .inr fun m h => by rw [← hDD] at h; exact h.2.2.2.2.1
  have hq2 : ∀ L, Reads L DD 0 6 qra rs.length (rsC rs) := fun L => .inr fun m h => by rw [← hDD] at h; exact h.2.2.2.2.2.2.1
  have hq3 : ∀ L, Reads L DD 0 5 qxa xs.length (xsC xs) := fun L => .inr fun m h => by rw [← hDD] at h; exact h.2.2.2.2.2.2.2.1
  have hpm : ∀ g ∈ pg, ∀ L, Reads L DD 0 1 g.a g.mem.length (g.mem.map C.s) := fun g hg L => .inr fun m h => by rw [← hDD] at h; exact h.2.1 _ hg
  have hqm : ∀ g ∈ qg, ∀ L, Reads L DD 0 1 g.a g.mem.length (g.mem.map C.s) := fun g hg L => .inr fun m h => by rw [← hDD] at h; exact h.2.2.2.2.2.1 _ hg
  clear hDD
  show FnS Tryz.prog _ [.agg [.sl pa pg.length pc, .sl pra rs.length prc, .sl pxa xs.length pxc], .agg [.sl qa qg.length qc, .sl qra rs.length qrc, .sl qxa xs.length qxc]] [] DD _
  refine fn_of_J Tryz.tyOK 0 Tryz.func12 (by kernel_rfl) (c := Tryz.f12.body.getD .skip) (by kernel_rfl) Tryz.ntmps12 (rs := Tryz.f12.results.toList) rfl (by simp) (fun G => ?_)
  repeat' first
    | refine J_seq ?_ | refine J_region Tryz.tyOK ?_ | refine J_block ?_ | refine J_cond ?_ | refine J_ret ?_ | refine J_skip ?_ | refine J_exit ?_ | refine J_scope ?_
    | refine CondP.yes (by omega) ?_ | refine CondP.no (by omega) ?_ | refine CondP.mk (fun h => ?_) (fun h => ?_) | refine EqP.mk rfl ?_ | refine NewP.mk (fun ad => ?_) | refine ArP.exact (by simp only [inR]; omega) ?_ | refine SideP.mk (by first | omega | (dsimp only; omega) | (simp; omega)) ?_
    | fail
  rename_i ad0
  revert ad
  intro ad1
  refine J_loop (α := Nat) (fun i => [(2, .c (.p 0 ad0 0)), (3, .c (.p 1 ad1 0)), (5, .c (.i .i64 i))]) (fun _ => [.box 1 ad1 27 [.sl qa qg.length qc, .sl qra rs.length qrc, .sl qxa xs.length qxc], .box 0 ad0 27 [.sl pa pg.length pc, .sl pra rs.length prc, .sl pxa xs.length pxc]]) (fun _ => DD) 2
    (fun i => i ≤ pg.length) (fun i => pg.length - i) (InFam.mk 0 (by omega) (by repeat' first | exact SubE.nil | refine SubE.cons rfl ?_ ?_ | exact VEq.refl _ | refine VEq.int (by omega) | refine VEq.sl rfl (by first | rfl | omega | (rw [List.length_append]; rfl) | (simp; omega)) rfl) (Ents.refl _ _)) (fun i hi => ?_)
  by_cases hlt : i < pg.length
  · have hltq : i < qg.length := by omega
    have hc1 : ((gsC pg).drop (i * 2 + 0)).take 2 = pg[i].cells := by rw [gsC, flat_get (F := GrpM.cells) (z := 2) (fun _ => rfl) hlt (by omega)]; rfl
    have hc2 : ((gsC qg).drop (i * 2 + 0)).take 2 = qg[i].cells := by rw [gsC, flat_get (F := GrpM.cells) (z := 2) (fun _ => rfl) hltq (by omega)]; rfl
    have hmp := hpm _ (List.getElem_mem hlt)
    have hmq := hqm _ (List.getElem_mem hltq)
    have hmm := hml _ (List.getElem_mem hlt)
    have he : (pg[i].name, pg[i].mem) = (qg[i].name, qg[i].mem) := by
      have h1 : (gpOf pg)[i]'(by simp [gpOf]; exact hlt) = (gpOf qg)[i]'(by simp [gpOf]; exact hltq) := by simp only [hg]
      simpa [gpOf] using h1
    generalize pg[i] = pg' at *
    generalize qg[i] = qg' at *
    obtain ⟨nm, a1, c1, mem⟩ := pg'
    obtain ⟨nm', a2, c2, mem'⟩ := qg'
    simp only [Prod.mk.injEq] at he
    obtain ⟨rfl, rfl⟩ := he
    generalize hpg' : (⟨nm, a1, c1, mem⟩ : GrpM) = pg' at *
    generalize hqg' : (⟨nm, a2, c2, mem⟩ : GrpM) = qg' at *
    have hn1 : pg'.cells = [.s nm, .sl a1 mem.length c1] := by rw [← hpg']; rfl
    have hn2 : qg'.cells = [.s nm, .sl a2 mem.length c2] := by rw [← hqg']; rfl
    have hm1 : pg'.mem = mem := by rw [← hpg']
    have hm2 : qg'.mem = mem := by rw [← hqg']
    rw [hn1] at hc1
    rw [hn2] at hc2
    rw [hm1] at hmp hmm
    rw [hm2] at hmq
    rw [show pg'.a = a1 by rw [← hpg']] at hmp
    rw [show qg'.a = a2 by rw [← hqg']] at hmq
    repeat' first
      | refine J_seq ?_ | refine J_region Tryz.tyOK ?_ | refine J_block ?_ | refine J_cond ?_ | refine J_ret ?_ | refine J_skip ?_ | refine J_exit ?_ | refine J_scope ?_
      | refine CondP.yes (by omega) ?_ | refine CondP.no (by omega) ?_ | refine CondP.mk (fun h => ?_) (fun h => ?_) | refine EqP.mk rfl ?_ | refine NewP.mk (fun ad => ?_) | refine ArP.exact (by simp only [inR]; omega) ?_ | refine SideP.mk (by first | omega | (dsimp only; omega) | (simp; omega)) ?_
      | refine J_drawT (id := 6) Tryz.tyOK (by kernel_rfl) [0, 1, 0, 7, 15, 0, 32, 0, 224, 480, 0, 0, 3103, 8191] [0, 1, 2, 3, 4, 5, 6, 7, 8, 9] 10 [11, 12, 13] 11 [10, 12, 13] [10, 11, 12, 13] [2, 3, 46, 51] 13 true (by kernel_rfl) ?_ | refine TwoP.mk ?_ ?_ | refine J_drawS (id := 12) Tryz.tyOK (by kernel_rfl) [0, 1, 0, 7, 15, 0, 32, 0, 224, 480, 1023] [0, 1, 2, 3, 4, 5, 6, 7, 8, 9, 10] [] [6, 7, 77, 82] true (by kernel_rfl) ?_ | refine J_drawS (id := 17) Tryz.tyOK (by kernel_rfl) [0, 1, 0, 7, 15, 0, 32, 0, 224, 480, 1023] [0, 1, 2, 3, 4, 5, 6, 7, 8, 9, 10] [] [2, 3, 95, 100] true (by kernel_rfl) ?_ | refine J_drawS (id := 22) Tryz.tyOK (by kernel_rfl) [0, 1, 0, 7, 15, 0, 32, 0, 224, 480, 1023] [0, 1, 2, 3, 4, 5, 6, 7, 8, 9, 10] [] [2, 3, 113, 118] true (by kernel_rfl) ?_ | refine EntP.mk (Ents.ofSub (by repeat (first | exact List.Sublist.slnil | refine List.Sublist.cons_cons _ ?_ | refine List.Sublist.cons _ ?_)) (by first | exact fun _ h => h | exact fun _ _ => trivial | exact fun _ h => h.2 | exact fun _ h => h.2.2.2.2 | exact fun _ h => ((allD_append _ _).1 h).2)) ?_ | refine IdxE.mk 0 2 _ (hp1 _) (by omega) (by omega) ?_ | refine IdxE.mk 0 2 _ (hq1 _) (by omega) (by omega) ?_ | refine LoadE.mk 0 _ _ _ (hp1 _) (by omega) (by omega) (by omega) hc1 ?_ | refine LoadE.mk 0 _ _ _ (hq1 _) (by omega) (by omega) (by omega) hc2 ?_ | exact absurd rfl (by assumption)
      | fail
    · rename_i ad6
      revert ad
      intro ad7
      refine J_loop (α := Nat) (fun k => [(2, .c (.p 0 ad0 0)), (3, .c (.p 1 ad1 0)), (5, .c (.i .i64 i)), (6, .c (.p 2 ad6 0)), (7, .c (.p 3 ad7 0)), (8, .c (.i .i64 k))]) (fun _ => [.box 3 ad7 43 [.s nm, .sl a2 mem.length c2], .box 2 ad6 43 [.s nm, .sl a1 mem.length c1], .box 1 ad1 27 [.sl qa qg.length qc, .sl qra rs.length qrc, .sl qxa xs.length qxc], .box 0 ad0 27 [.sl pa pg.length pc, .sl pra rs.length prc, .sl pxa xs.length pxc]]) (fun _ => DD) 4
        (fun k => k ≤ mem.length) (fun k => mem.length - k) (InFam.mk 0 (by omega) (by repeat' first | exact SubE.nil | refine SubE.cons rfl ?_ ?_ | exact VEq.refl _ | refine VEq.int (by omega) | refine VEq.sl rfl (by first | rfl | omega | (rw [List.length_append]; rfl) | (simp; omega)) rfl) (Ents.refl _ _)) (fun k hk => ?_)
      by_cases hlt2 : k < mem.length
      · have hcm := map_take1 (f := C.s) hlt2
        generalize mem[k] = mm at *
        repeat' first
          | refine J_seq ?_ | refine J_region Tryz.tyOK ?_ | refine J_block ?_ | refine J_cond ?_ | refine J_ret ?_ | refine J_skip ?_ | refine J_exit ?_ | refine J_scope ?_
          | refine CondP.yes (by omega) ?_ | refine CondP.no (by omega) ?_ | refine CondP.mk (fun h => ?_) (fun h => ?_) | refine EqP.mk rfl ?_ | refine NewP.mk (fun ad => ?_) | refine ArP.exact (by simp only [inR]; omega) ?_ | refine SideP.mk (by first | omega | (dsimp only; omega) | (simp; omega)) ?_
          | refine J_drawT (id := 6) Tryz.tyOK (by kernel_rfl) [0, 1, 0, 7, 15, 0, 32, 0, 224, 480, 0, 0, 3103, 8191] [0, 1, 2, 3, 4, 5, 6, 7, 8, 9] 10 [11, 12, 13] 11 [10, 12, 13] [10, 11, 12, 13] [2, 3, 46, 51] 13 true (by kernel_rfl) ?_ | refine TwoP.mk ?_ ?_ | refine J_drawS (id := 12) Tryz.tyOK (by kernel_rfl) [0, 1, 0, 7, 15, 0, 32, 0, 224, 480, 1023] [0, 1, 2, 3, 4, 5, 6, 7, 8, 9, 10] [] [6, 7, 77, 82] true (by kernel_rfl) ?_ | refine J_drawS (id := 17) Tryz.tyOK (by kernel_rfl) [0, 1, 0, 7, 15, 0, 32, 0, 224, 480, 1023] [0, 1, 2, 3, 4, 5, 6, 7, 8, 9, 10] [] [2, 3, 95, 100] true (by kernel_rfl) ?_ | refine J_drawS (id := 22) Tryz.tyOK (by kernel_rfl) [0, 1, 0, 7, 15, 0, 32, 0, 224, 480, 1023] [0, 1, 2, 3, 4, 5, 6, 7, 8, 9, 10] [] [2, 3, 113, 118] true (by kernel_rfl) ?_ | refine EntP.mk (Ents.ofSub (by repeat (first | exact List.Sublist.slnil | refine List.Sublist.cons_cons _ ?_ | refine List.Sublist.cons _ ?_)) (by first | exact fun _ h => h | exact fun _ _ => trivial | exact fun _ h => h.2 | exact fun _ h => h.2.2.2.2 | exact fun _ h => ((allD_append _ _).1 h).2)) ?_ | refine IdxE.mk 0 1 _ (hmp _) (by omega) (by omega) ?_ | refine IdxE.mk 0 1 _ (hmq _) (by omega) (by omega) ?_ | refine LoadE.mk 0 _ _ _ (hmp _) (by omega) (by omega) (by omega) hcm ?_ | refine LoadE.mk 0 _ _ _ (hmq _) (by omega) (by omega) (by omega) hcm ?_ | refine Round.mk (k + 1) (by omega) (by omega) (by repeat' first | exact SubE.nil | refine SubE.cons rfl ?_ ?_ | exact VEq.refl _ | refine VEq.int (by omega) | refine VEq.sl rfl (by first | rfl | omega | (rw [List.length_append]; rfl) | (simp; omega)) rfl) (Ents.refl _ _) | exact absurd rfl (by assumption)
          | fail
      · repeat' first
          | refine J_seq ?_ | refine J_region Tryz.tyOK ?_ | refine J_block ?_ | refine J_cond ?_ | refine J_ret ?_ | refine J_skip ?_ | refine J_exit ?_ | refine J_scope ?_
          | refine CondP.yes (by omega) ?_ | refine CondP.no (by omega) ?_ | refine CondP.mk (fun h => ?_) (fun h => ?_) | refine EqP.mk rfl ?_ | refine NewP.mk (fun ad => ?_) | refine ArP.exact (by simp only [inR]; omega) ?_ | refine SideP.mk (by first | omega | (dsimp only; omega) | (simp; omega)) ?_
          | refine Round.mk (i + 1) (by omega) (by omega) (by repeat' first | exact SubE.nil | refine SubE.cons rfl ?_ ?_ | exact VEq.refl _ | refine VEq.int (by omega) | refine VEq.sl rfl (by first | rfl | omega | (rw [List.length_append]; rfl) | (simp; omega)) rfl) (Ents.drop.trans Ents.drop) | exact absurd rfl (by assumption)
          | fail
    · rename_i ad7
      revert ad
      intro ad6
      refine J_loop (α := Nat) (fun k => [(2, .c (.p 0 ad0 0)), (3, .c (.p 1 ad1 0)), (5, .c (.i .i64 i)), (6, .c (.p 3 ad6 0)), (7, .c (.p 2 ad7 0)), (8, .c (.i .i64 k))]) (fun _ => [.box 3 ad6 43 [.s nm, .sl a1 mem.length c1], .box 2 ad7 43 [.s nm, .sl a2 mem.length c2], .box 1 ad1 27 [.sl qa qg.length qc, .sl qra rs.length qrc, .sl qxa xs.length qxc], .box 0 ad0 27 [.sl pa pg.length pc, .sl pra rs.length prc, .sl pxa xs.length pxc]]) (fun _ => DD) 4
        (fun k => k ≤ mem.length) (fun k => mem.length - k) (InFam.mk 0 (by omega) (by repeat' first | exact SubE.nil | refine SubE.cons rfl ?_ ?_ | exact VEq.refl _ | refine VEq.int (by omega) | refine VEq.sl rfl (by first | rfl | omega | (rw [List.length_append]; rfl) | (simp; omega)) rfl) (Ents.refl _ _)) (fun k hk => ?_)
      by_cases hlt2 : k < mem.length
      · have hcm := map_take1 (f := C.s) hlt2
        generalize mem[k] = mm at *
        repeat' first
          | refine J_seq ?_ | refine J_region Tryz.tyOK ?_ | refine J_block ?_ | refine J_cond ?_ | refine J_ret ?_ | refine J_skip ?_ | refine J_exit ?_ | refine J_scope ?_
          | refine CondP.yes (by omega) ?_ | refine CondP.no (by omega) ?_ | refine CondP.mk (fun h => ?_) (fun h => ?_) | refine EqP.mk rfl ?_ | refine NewP.mk (fun ad => ?_) | refine ArP.exact (by simp only [inR]; omega) ?_ | refine SideP.mk (by first | omega | (dsimp only; omega) | (simp; omega)) ?_
          | refine J_drawT (id := 6) Tryz.tyOK (by kernel_rfl) [0, 1, 0, 7, 15, 0, 32, 0, 224, 480, 0, 0, 3103, 8191] [0, 1, 2, 3, 4, 5, 6, 7, 8, 9] 10 [11, 12, 13] 11 [10, 12, 13] [10, 11, 12, 13] [2, 3, 46, 51] 13 true (by kernel_rfl) ?_ | refine TwoP.mk ?_ ?_ | refine J_drawS (id := 12) Tryz.tyOK (by kernel_rfl) [0, 1, 0, 7, 15, 0, 32, 0, 224, 480, 1023] [0, 1, 2, 3, 4, 5, 6, 7, 8, 9, 10] [] [6, 7, 77, 82] true (by kernel_rfl) ?_ | refine J_drawS (id := 17) Tryz.tyOK (by kernel_rfl) [0, 1, 0, 7, 15, 0, 32, 0, 224, 480, 1023] [0, 1, 2, 3, 4, 5, 6, 7, 8, 9, 10] [] [2, 3, 95, 100] true (by kernel_rfl) ?_ | refine J_drawS (id := 22) Tryz.tyOK (by kernel_rfl) [0, 1, 0, 7, 15, 0, 32, 0, 224, 480, 1023] [0, 1, 2, 3, 4, 5, 6, 7, 8, 9, 10] [] [2, 3, 113, 118] true (by kernel_rfl) ?_ | refine EntP.mk (Ents.ofSub (by repeat (first | exact List.Sublist.slnil | refine List.Sublist.cons_cons _ ?_ | refine List.Sublist.cons _ ?_)) (by first | exact fun _ h => h | exact fun _ _ => trivial | exact fun _ h => h.2 | exact fun _ h => h.2.2.2.2 | exact fun _ h => ((allD_append _ _).1 h).2)) ?_ | refine IdxE.mk 0 1 _ (hmp _) (by omega) (by omega) ?_ | refine IdxE.mk 0 1 _ (hmq _) (by omega) (by omega) ?_ | refine LoadE.mk 0 _ _ _ (hmp _) (by omega) (by omega) (by omega) hcm ?_ | refine LoadE.mk 0 _ _ _ (hmq _) (by omega) (by omega) (by omega) hcm ?_ | refine Round.mk (k + 1) (by omega) (by omega) (by repeat' first | exact SubE.nil | refine SubE.cons rfl ?_ ?_ | exact VEq.refl _ | refine VEq.int (by omega) | refine VEq.sl rfl (by first | rfl | omega | (rw [List.length_append]; rfl) | (simp; omega)) rfl) (Ents.refl _ _) | exact absurd rfl (by assumption)
          | fail
      · repeat' first
          | refine J_seq ?_ | refine J_region Tryz.tyOK ?_ | refine J_block ?_ | refine J_cond ?_ | refine J_ret ?_ | refine J_skip ?_ | refine J_exit ?_ | refine J_scope ?_
          | refine CondP.yes (by omega) ?_ | refine CondP.no (by omega) ?_ | refine CondP.mk (fun h => ?_) (fun h => ?_) | refine EqP.mk rfl ?_ | refine NewP.mk (fun ad => ?_) | refine ArP.exact (by simp only [inR]; omega) ?_ | refine SideP.mk (by first | omega | (dsimp only; omega) | (simp; omega)) ?_
          | refine Round.mk (i + 1) (by omega) (by omega) (by repeat' first | exact SubE.nil | refine SubE.cons rfl ?_ ?_ | exact VEq.refl _ | refine VEq.int (by omega) | refine VEq.sl rfl (by first | rfl | omega | (rw [List.length_append]; rfl) | (simp; omega)) rfl) (Ents.drop.trans Ents.drop) | exact absurd rfl (by assumption)
          | fail
  · have hil : i = pg.length := by omega
    subst hil
    repeat' first
      | refine J_seq ?_ | refine J_region Tryz.tyOK ?_ | refine J_block ?_ | refine J_cond ?_ | refine J_ret ?_ | refine J_skip ?_ | refine J_exit ?_ | refine J_scope ?_
      | refine CondP.yes (by omega) ?_ | refine CondP.no (by omega) ?_ | refine CondP.mk (fun h => ?_) (fun h => ?_) | refine EqP.mk rfl ?_ | refine NewP.mk (fun ad => ?_) | refine ArP.exact (by simp only [inR]; omega) ?_ | refine SideP.mk (by first | omega | (dsimp only; omega) | (simp; omega)) ?_
      | exact absurd rfl (by assumption)
      | fail
    refine J_loop (α := Nat) (fun i => [(2, .c (.p 0 ad0 0)), (3, .c (.p 1 ad1 0)), (9, .c (.i .i64 i))]) (fun _ => [.box 1 ad1 27 [.sl qa qg.length qc, .sl qra rs.length qrc, .sl qxa xs.length qxc], .box 0 ad0 27 [.sl pa pg.length pc, .sl pra rs.length prc, .sl pxa xs.length pxc]]) (fun _ => DD) 2
      (fun i => i ≤ rs.length) (fun i => rs.length - i) (InFam.mk 0 (by omega) (by repeat' first | exact SubE.nil | refine SubE.cons rfl ?_ ?_ | exact VEq.refl _ | refine VEq.int (by omega) | refine VEq.sl rfl (by first | rfl | omega | (rw [List.length_append]; rfl) | (simp; omega)) rfl) (Ents.refl _ _)) (fun i hi => ?_)
    by_cases hlt : i < rs.length
    · have hc1 : ((rsC rs).drop (i * 6 + 0)).take 6 = rs[i].cells := by rw [rsC, flat_get (F := Rul.cells) (z := 6) (fun _ => rfl) hlt (by omega)]; rfl
      generalize rs[i] = r at *
      repeat' first
        | refine CondP.yes ⟨rfl, rfl, rfl, ⟨rfl, ⟨rfl, rfl, trivial⟩, trivial⟩, trivial⟩ ?_
        | refine J_seq ?_ | refine J_region Tryz.tyOK ?_ | refine J_block ?_ | refine J_cond ?_ | refine J_ret ?_ | refine J_skip ?_ | refine J_exit ?_ | refine J_scope ?_
        | refine CondP.yes (by omega) ?_ | refine CondP.no (by omega) ?_ | refine CondP.mk (fun h => ?_) (fun h => ?_) | refine EqP.mk rfl ?_ | refine NewP.mk (fun ad => ?_) | refine ArP.exact (by simp only [inR]; omega) ?_ | refine SideP.mk (by first | omega | (dsimp only; omega) | (simp; omega)) ?_
        | refine J_drawT (id := 6) Tryz.tyOK (by kernel_rfl) [0, 1, 0, 7, 15, 0, 32, 0, 224, 480, 0, 0, 3103, 8191] [0, 1, 2, 3, 4, 5, 6, 7, 8, 9] 10 [11, 12, 13] 11 [10, 12, 13] [10, 11, 12, 13] [2, 3, 46, 51] 13 true (by kernel_rfl) ?_ | refine TwoP.mk ?_ ?_ | refine J_drawS (id := 12) Tryz.tyOK (by kernel_rfl) [0, 1, 0, 7, 15, 0, 32, 0, 224, 480, 1023] [0, 1, 2, 3, 4, 5, 6, 7, 8, 9, 10] [] [6, 7, 77, 82] true (by kernel_rfl) ?_ | refine J_drawS (id := 17) Tryz.tyOK (by kernel_rfl) [0, 1, 0, 7, 15, 0, 32, 0, 224, 480, 1023] [0, 1, 2, 3, 4, 5, 6, 7, 8, 9, 10] [] [2, 3, 95, 100] true (by kernel_rfl) ?_ | refine J_drawS (id := 22) Tryz.tyOK (by kernel_rfl) [0, 1, 0, 7, 15, 0, 32, 0, 224, 480, 1023] [0, 1, 2, 3, 4, 5, 6, 7, 8, 9, 10] [] [2, 3, 113, 118] true (by kernel_rfl) ?_ | refine EntP.mk (Ents.ofSub (by repeat (first | exact List.Sublist.slnil | refine List.Sublist.cons_cons _ ?_ | refine List.Sublist.cons _ ?_)) (by first | exact fun _ h => h | exact fun _ _ => trivial | exact fun _ h => h.2 | exact fun _ h => h.2.2.2.2 | exact fun _ h => ((allD_append _ _).1 h).2)) ?_ | refine IdxE.mk 0 6 _ (hp2 _) (by omega) (by omega) ?_ | refine IdxE.mk 0 6 _ (hq2 _) (by omega) (by omega) ?_ | refine LoadE.mk 0 _ _ _ (hp2 _) (by omega) (by omega) (by omega) hc1 ?_ | refine LoadE.mk 0 _ _ _ (hq2 _) (by omega) (by omega) (by omega) hc1 ?_ | refine Round.mk (i + 1) (by omega) (by omega) (by repeat' first | exact SubE.nil | refine SubE.cons rfl ?_ ?_ | exact VEq.refl _ | refine VEq.int (by omega) | refine VEq.sl rfl (by first | rfl | omega | (rw [List.length_append]; rfl) | (simp; omega)) rfl) (Ents.refl _ _)
        | fail
    · have hil : i = rs.length := by omega
      subst hil
      repeat' first
        | refine J_seq ?_ | refine J_region Tryz.tyOK ?_ | refine J_block ?_ | refine J_cond ?_ | refine J_ret ?_ | refine J_skip ?_ | refine J_exit ?_ | refine J_scope ?_
        | refine CondP.yes (by omega) ?_ | refine CondP.no (by omega) ?_ | refine CondP.mk (fun h => ?_) (fun h => ?_) | refine EqP.mk rfl ?_ | refine NewP.mk (fun ad => ?_) | refine ArP.exact (by simp only [inR]; omega) ?_ | refine SideP.mk (by first | omega | (dsimp only; omega) | (simp; omega)) ?_
        | fail
      refine J_loop (α := Nat) (fun i => [(2, .c (.p 0 ad0 0)), (3, .c (.p 1 ad1 0)), (10, .c (.i .i64 i))]) (fun _ => [.box 1 ad1 27 [.sl qa qg.length qc, .sl qra rs.length qrc, .sl qxa xs.length qxc], .box 0 ad0 27 [.sl pa pg.length pc, .sl pra rs.length prc, .sl pxa xs.length pxc]]) (fun _ => DD) 2
        (fun i => i ≤ xs.length) (fun i => xs.length - i) (InFam.mk 0 (by omega) (by repeat' first | exact SubE.nil | refine SubE.cons rfl ?_ ?_ | exact VEq.refl _ | refine VEq.int (by omega) | refine VEq.sl rfl (by first | rfl | omega | (rw [List.length_append]; rfl) | (simp; omega)) rfl) (Ents.refl _ _)) (fun i hi => ?_)
      by_cases hlt : i < xs.length
      · have hc1 : ((xsC xs).drop (i * 5 + 0)).take 5 = xs[i].cells := by rw [xsC, flat_get (F := Grd.cells) (z := 5) (fun _ => rfl) hlt (by omega)]; rfl
        generalize xs[i] = r at *
        repeat' first
          | refine CondP.yes ⟨rfl, rfl, ⟨rfl, rfl, trivial⟩, rfl, trivial⟩ ?_
          | refine J_seq ?_ | refine J_region Tryz.tyOK ?_ | refine J_block ?_ | refine J_cond ?_ | refine J_ret ?_ | refine J_skip ?_ | refine J_exit ?_ | refine J_scope ?_
          | refine CondP.yes (by omega) ?_ | refine CondP.no (by omega) ?_ | refine CondP.mk (fun h => ?_) (fun h => ?_) | refine EqP.mk rfl ?_ | refine NewP.mk (fun ad => ?_) | refine ArP.exact (by simp only [inR]; omega) ?_ | refine SideP.mk (by first | omega | (dsimp only; omega) | (simp; omega)) ?_
          | refine J_drawT (id := 6) Tryz.tyOK (by kernel_rfl) [0, 1, 0, 7, 15, 0, 32, 0, 224, 480, 0, 0, 3103, 8191] [0, 1, 2, 3, 4, 5, 6, 7, 8, 9] 10 [11, 12, 13] 11 [10, 12, 13] [10, 11, 12, 13] [2, 3, 46, 51] 13 true (by kernel_rfl) ?_ | refine TwoP.mk ?_ ?_ | refine J_drawS (id := 12) Tryz.tyOK (by kernel_rfl) [0, 1, 0, 7, 15, 0, 32, 0, 224, 480, 1023] [0, 1, 2, 3, 4, 5, 6, 7, 8, 9, 10] [] [6, 7, 77, 82] true (by kernel_rfl) ?_ | refine J_drawS (id := 17) Tryz.tyOK (by kernel_rfl) [0, 1, 0, 7, 15, 0, 32, 0, 224, 480, 1023] [0, 1, 2, 3, 4, 5, 6, 7, 8, 9, 10] [] [2, 3, 95, 100] true (by kernel_rfl) ?_ | refine J_drawS (id := 22) Tryz.tyOK (by kernel_rfl) [0, 1, 0, 7, 15, 0, 32, 0, 224, 480, 1023] [0, 1, 2, 3, 4, 5, 6, 7, 8, 9, 10] [] [2, 3, 113, 118] true (by kernel_rfl) ?_ | refine EntP.mk (Ents.ofSub (by repeat (first | exact List.Sublist.slnil | refine List.Sublist.cons_cons _ ?_ | refine List.Sublist.cons _ ?_)) (by first | exact fun _ h => h | exact fun _ _ => trivial | exact fun _ h => h.2 | exact fun _ h => h.2.2.2.2 | exact fun _ h => ((allD_append _ _).1 h).2)) ?_ | refine IdxE.mk 0 5 _ (hp3 _) (by omega) (by omega) ?_ | refine IdxE.mk 0 5 _ (hq3 _) (by omega) (by omega) ?_ | refine LoadE.mk 0 _ _ _ (hp3 _) (by omega) (by omega) (by omega) hc1 ?_ | refine LoadE.mk 0 _ _ _ (hq3 _) (by omega) (by omega) (by omega) hc1 ?_ | refine Round.mk (i + 1) (by omega) (by omega) (by repeat' first | exact SubE.nil | refine SubE.cons rfl ?_ ?_ | exact VEq.refl _ | refine VEq.int (by omega) | refine VEq.sl rfl (by first | rfl | omega | (rw [List.length_append]; rfl) | (simp; omega)) rfl) (Ents.refl _ _)
          | fail
      · repeat' first
          | refine J_seq ?_ | refine J_region Tryz.tyOK ?_ | refine J_block ?_ | refine J_cond ?_ | refine J_ret ?_ | refine J_skip ?_ | refine J_exit ?_ | refine J_scope ?_
          | refine CondP.yes (by omega) ?_ | refine CondP.no (by omega) ?_ | refine CondP.mk (fun h => ?_) (fun h => ?_) | refine EqP.mk rfl ?_ | refine NewP.mk (fun ad => ?_) | refine ArP.exact (by simp only [inR]; omega) ?_ | refine SideP.mk (by first | omega | (dsimp only; omega) | (simp; omega)) ?_
          | refine FinE.bool rfl
          | fail

end Go.Proofs
