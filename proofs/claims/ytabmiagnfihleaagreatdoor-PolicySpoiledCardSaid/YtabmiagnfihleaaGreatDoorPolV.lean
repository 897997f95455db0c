/- This text walks through the statements and the check of whole policies in the reference of chapter 12. -/
import Derived.Test.YtabmiagnfihleaaGreatDoorPolU
set_option linter.all false

namespace Go.Proofs
open Go Go.X
set_option maxRecDepth 100000
set_option maxHeartbeats 4000000

theorem refValidate_ok (p : PolM) (h : PolOK p) : FnS Tryz.prog 8 [.agg p.cells] [] p.facts (Is (.c (.i .i64 (validateT (gpOf p.gs) p.rs p.xs)))) := by
  have hgl := h.gl
  have hrl := h.rl
  have hxl := h.xl
  have hrr : ∀ L, Reads L p.facts 0 6 p.ra p.rs.length (rsC p.rs) := fun L => .inr fun m h => h.2.2.1
  have hrx : ∀ L, Reads L p.facts 0 5 p.xa p.xs.length (xsC p.xs) := fun L => .inr fun m h => h.2.2.2.1
  have hgp : (gpOf p.gs).length = p.gs.length := by simp [gpOf]
  by_cases hbig : 24 < (p.gs.length : Int) ∨ 64 < (p.rs.length : Int) ∨ 64 < (p.xs.length : Int)
  · have hv : validateT (gpOf p.gs) p.rs p.xs = 3 := by unfold validateT; rw [if_pos (by rw [hgp]; exact hbig)]
    rw [hv]
    refine fn_of_J Tryz.tyOK 0 Tryz.func8 (by kernel_rfl) (c := Tryz.f8.body.getD .skip) (by kernel_rfl) Tryz.ntmps8 (rs := Tryz.f8.results.toList) rfl (by simp) (fun G => ?_)
    repeat' first
      | refine J_seq ?_ | refine J_region Tryz.tyOK ?_ | refine J_block ?_ | refine J_cond ?_ | refine J_ret ?_ | refine J_skip ?_ | refine J_exit ?_ | refine J_scope ?_
      | refine CondP.yes (by omega) ?_ | refine CondP.no (by omega) ?_ | refine CondP.mk (fun h => ?_) (fun h => ?_) | refine EqP.mk rfl ?_ | refine NewP.mk (fun ad => ?_) | refine ArP.exact (by simp only [inR]; omega) ?_ | refine SideP.mk (by first | omega | (dsimp only; omega) | (simp; omega)) ?_
      | refine FinE.int rfl
      | fail
  · have hv : validateT (gpOf p.gs) p.rs p.xs = firstErr (grpErrs (gpOf p.gs) ++ (p.rs.map (rulErr (names p.gs)) ++ p.xs.map (grdErr (names p.gs)))) := by
      unfold validateT; rw [if_neg (by rw [hgp]; exact hbig), gp_names, List.append_assoc]
    rw [hv]
    generalize hR : p.rs.map (rulErr (names p.gs)) = R
    generalize hX : p.xs.map (grdErr (names p.gs)) = X
    have hRl : R.length = p.rs.length := by rw [← hR]; simp
    have hXl : X.length = p.xs.length := by rw [← hX]; simp
    generalize hV : firstErr (grpErrs (gpOf p.gs) ++ (R ++ X)) = v
    have hRg : ∀ (i : Nat) (hi : i < p.rs.length), R[i]'(by omega) = rulErr (names p.gs) p.rs[i] := fun i hi => by simp [← hR]
    have hXg : ∀ (i : Nat) (hi : i < p.xs.length), X[i]'(by omega) = grdErr (names p.gs) p.xs[i] := fun i hi => by simp [← hX]
    have ce := fun s => refExists_ok p.ga p.gc p.gs s hgl
    refine fn_of_J Tryz.tyOK 0 Tryz.func8 (by kernel_rfl) (c := Tryz.f8.body.getD .skip) (by kernel_rfl) Tryz.ntmps8 (rs := Tryz.f8.results.toList) rfl (by simp) (fun G => ?_)
    repeat' first
      | refine J_seq ?_ | refine J_region Tryz.tyOK ?_ | refine J_block ?_ | refine J_cond ?_ | refine J_ret ?_ | refine J_skip ?_ | refine J_exit ?_ | refine J_scope ?_
      | refine CondP.yes (by omega) ?_ | refine CondP.no (by omega) ?_ | refine CondP.mk (fun h => ?_) (fun h => ?_) | refine EqP.mk rfl ?_ | refine NewP.mk (fun ad => ?_) | refine ArP.exact (by simp only [inR]; omega) ?_ | refine SideP.mk (by first | omega | (dsimp only; omega) | (simp; omega)) ?_
      | fail
    refine J_loop (α := Nat) (fun i => [(1, .c (.p 0 ad 0)), (3, .c (.i .i64 i))]) (fun _ => [.box 0 ad 27 p.cells]) (fun _ => p.facts) 1
      (fun i => i ≤ p.gs.length ∧ v = firstErr ((grpErrs (gpOf p.gs)).drop i ++ (R ++ X))) (fun i => p.gs.length - i) (InFam.mk 0 ⟨by omega, hV.symm⟩ (by repeat' first | exact SubE.nil | refine SubE.cons rfl ?_ ?_ | exact VEq.refl _ | refine VEq.int (by omega) | refine VEq.sl rfl (by first | rfl | omega | (rw [List.length_append]; rfl) | (simp; omega)) rfl) (Ents.refl _ _)) (fun i hi => ?_)
    obtain ⟨hi, he⟩ := hi
    by_cases hlt : i < p.gs.length
    · have hc := refGroup_ok p i hlt h.gc h.gl h.gb
      rw [List.drop_eq_getElem_cons (by rw [grpErrs_len]; exact hlt), grpErrs_get _ hlt, List.cons_append, firstErr_cons] at he
      generalize grpErr (names p.gs) ((names p.gs).take i) p.gs[i].name p.gs[i].mem = e at *
      repeat' first
        | refine J_seq ?_ | refine J_region Tryz.tyOK ?_ | refine J_block ?_ | refine J_cond ?_ | refine J_ret ?_ | refine J_skip ?_ | refine J_exit ?_ | refine J_scope ?_
        | refine CondP.yes (by omega) ?_ | refine CondP.no (by omega) ?_ | refine CondP.mk (fun h => ?_) (fun h => ?_) | refine EqP.mk rfl ?_ | refine NewP.mk (fun ad => ?_) | refine ArP.exact (by simp only [inR]; omega) ?_ | refine SideP.mk (by first | omega | (dsimp only; omega) | (simp; omega)) ?_
        | refine CallP.is hc ?_ (fun _ h => h) | refine FinE.int ?_ | refine Round.mk (i + 1) (by omega) ⟨by omega, ?_⟩ (by repeat' first | exact SubE.nil | refine SubE.cons rfl ?_ ?_ | exact VEq.refl _ | refine VEq.int (by omega) | refine VEq.sl rfl (by first | rfl | omega | (rw [List.length_append]; rfl) | (simp; omega)) rfl) (Ents.refl _ _)
        | fail
      all_goals first | rw [he, if_pos (by assumption)] | rw [he, if_neg (by assumption)]
    · have hil : i = p.gs.length := by omega
      subst hil
      rw [List.drop_of_length_le (by rw [grpErrs_len]; omega), List.nil_append] at he
      clear hlt hi hV
      repeat' first
        | refine J_seq ?_ | refine J_region Tryz.tyOK ?_ | refine J_block ?_ | refine J_cond ?_ | refine J_ret ?_ | refine J_skip ?_ | refine J_exit ?_ | refine J_scope ?_
        | refine CondP.yes (by omega) ?_ | refine CondP.no (by omega) ?_ | refine CondP.mk (fun h => ?_) (fun h => ?_) | refine EqP.mk rfl ?_ | refine NewP.mk (fun ad => ?_) | refine ArP.exact (by simp only [inR]; omega) ?_ | refine SideP.mk (by first | omega | (dsimp only; omega) | (simp; omega)) ?_
        | fail
      refine J_loop (α := Nat) (fun i => [(1, .c (.p 0 ad 0)), (5, .c (.i .i64 i))]) (fun _ => [.box 0 ad 27 p.cells]) (fun _ => p.facts) 1
        (fun i => i ≤ p.rs.length ∧ v = firstErr (R.drop i ++ X)) (fun i => p.rs.length - i) (InFam.mk 0 ⟨by omega, he⟩ (by repeat' first | exact SubE.nil | refine SubE.cons rfl ?_ ?_ | exact VEq.refl _ | refine VEq.int (by omega) | refine VEq.sl rfl (by first | rfl | omega | (rw [List.length_append]; rfl) | (simp; omega)) rfl) (Ents.refl _ _)) (fun i hi => ?_)
      obtain ⟨hi, he⟩ := hi
      by_cases hlt : i < p.rs.length
      · have hcell : ((rsC p.rs).drop (i * 6 + 0)).take 6 = p.rs[i].cells := by rw [rsC, flat_get (F := Rul.cells) (z := 6) (fun _ => rfl) hlt (by omega)]; rfl
        rw [List.drop_eq_getElem_cons (by omega), hRg i hlt, List.cons_append, firstErr_cons] at he
        have hnb := h.rb _ (List.getElem_mem hlt)
        generalize p.rs[i] = r at *
        have c1 := ce r.group
        have c2 := refScope_ok r.kind r.sp r.nm hnb
        unfold rulErr at he
        generalize existsT (names p.gs) r.group = b1 at *
        generalize scopeOK r.kind r.sp r.nm = b2 at *
        by_cases hrr5 : r.right < 1 ∨ 5 < r.right
        · simp only [if_pos hrr5] at he
          repeat' first
            | refine J_seq ?_ | refine J_region Tryz.tyOK ?_ | refine J_block ?_ | refine J_cond ?_ | refine J_ret ?_ | refine J_skip ?_ | refine J_exit ?_ | refine J_scope ?_
            | refine CondP.yes (by omega) ?_ | refine CondP.no (by omega) ?_ | refine CondP.mk (fun h => ?_) (fun h => ?_) | refine EqP.mk rfl ?_ | refine NewP.mk (fun ad => ?_) | refine ArP.exact (by simp only [inR]; omega) ?_ | refine SideP.mk (by first | omega | (dsimp only; omega) | (simp; omega)) ?_
            | refine IdxE.mk 0 6 _ (hrr _) (by omega) (by omega) ?_ | refine LoadE.mk 0 _ _ _ (hrr _) (by omega) (by omega) (by omega) hcell ?_ | refine CallP.is c1 ?_ (fun _ h => ⟨h.1, trivial⟩) | refine CallP.is c2 ?_ | refine FinE.int ?_ | refine Round.mk (i + 1) (by omega) ⟨by omega, ?_⟩ (by repeat' first | exact SubE.nil | refine SubE.cons rfl ?_ ?_ | exact VEq.refl _ | refine VEq.int (by omega) | refine VEq.sl rfl (by first | rfl | omega | (rw [List.length_append]; rfl) | (simp; omega)) rfl) Ents.drop
            | fail
          all_goals (rw [he]; rfl)
        · simp only [if_neg hrr5] at he
          cases b1 <;> cases b2 <;>
          · simp at he
            repeat' first
              | refine J_seq ?_ | refine J_region Tryz.tyOK ?_ | refine J_block ?_ | refine J_cond ?_ | refine J_ret ?_ | refine J_skip ?_ | refine J_exit ?_ | refine J_scope ?_
              | refine CondP.yes (by omega) ?_ | refine CondP.no (by omega) ?_ | refine CondP.mk (fun h => ?_) (fun h => ?_) | refine EqP.mk rfl ?_ | refine NewP.mk (fun ad => ?_) | refine ArP.exact (by simp only [inR]; omega) ?_ | refine SideP.mk (by first | omega | (dsimp only; omega) | (simp; omega)) ?_
              | refine IdxE.mk 0 6 _ (hrr _) (by omega) (by omega) ?_ | refine LoadE.mk 0 _ _ _ (hrr _) (by omega) (by omega) (by omega) hcell ?_ | refine CallP.is c1 ?_ (fun _ h => ⟨h.1, trivial⟩) | refine CallP.is c2 ?_ | refine FinE.int ?_ | refine Round.mk (i + 1) (by omega) ⟨by omega, ?_⟩ (by repeat' first | exact SubE.nil | refine SubE.cons rfl ?_ ?_ | exact VEq.refl _ | refine VEq.int (by omega) | refine VEq.sl rfl (by first | rfl | omega | (rw [List.length_append]; rfl) | (simp; omega)) rfl) Ents.drop
              | fail
            all_goals (first | exact he | (rw [he]; rfl))
      · have hil : i = p.rs.length := by omega
        subst hil
        rw [List.drop_of_length_le (by omega), List.nil_append] at he
        clear hlt hi
        repeat' first
          | refine J_seq ?_ | refine J_region Tryz.tyOK ?_ | refine J_block ?_ | refine J_cond ?_ | refine J_ret ?_ | refine J_skip ?_ | refine J_exit ?_ | refine J_scope ?_
          | refine CondP.yes (by omega) ?_ | refine CondP.no (by omega) ?_ | refine CondP.mk (fun h => ?_) (fun h => ?_) | refine EqP.mk rfl ?_ | refine NewP.mk (fun ad => ?_) | refine ArP.exact (by simp only [inR]; omega) ?_ | refine SideP.mk (by first | omega | (dsimp only; omega) | (simp; omega)) ?_
          | fail
        refine J_loop (α := Nat) (fun i => [(1, .c (.p 0 ad 0)), (7, .c (.i .i64 i))]) (fun _ => [.box 0 ad 27 p.cells]) (fun _ => p.facts) 1
          (fun i => i ≤ p.xs.length ∧ v = firstErr (X.drop i)) (fun i => p.xs.length - i) (InFam.mk 0 ⟨by omega, he⟩ (by repeat' first | exact SubE.nil | refine SubE.cons rfl ?_ ?_ | exact VEq.refl _ | refine VEq.int (by omega) | refine VEq.sl rfl (by first | rfl | omega | (rw [List.length_append]; rfl) | (simp; omega)) rfl) (Ents.refl _ _)) (fun i hi => ?_)
        obtain ⟨hi, he⟩ := hi
        by_cases hlt : i < p.xs.length
        · have hcell : ((xsC p.xs).drop (i * 5 + 0)).take 5 = p.xs[i].cells := by rw [xsC, flat_get (F := Grd.cells) (z := 5) (fun _ => rfl) hlt (by omega)]; rfl
          have hxb := h.xb _ (List.getElem_mem hlt)
          rw [List.drop_eq_getElem_cons (by omega), hXg i hlt, firstErr_cons] at he
          generalize p.xs[i] = r at *
          have c1 := ce r.group
          have c2 := refValid_any r.sp r.nm hxb.1
          have c3 := refSection_ok r.sect hxb.2
          unfold grdErr at he
          generalize existsT (names p.gs) r.group = b1 at *
          generalize validT r.sp r.nm = b2 at *
          generalize sectOK r.sect = b3 at *
          cases b1 <;> cases b2 <;> cases b3 <;>
          · simp at he
            repeat' first
              | refine J_seq ?_ | refine J_region Tryz.tyOK ?_ | refine J_block ?_ | refine J_cond ?_ | refine J_ret ?_ | refine J_skip ?_ | refine J_exit ?_ | refine J_scope ?_
              | refine CondP.yes (by omega) ?_ | refine CondP.no (by omega) ?_ | refine CondP.mk (fun h => ?_) (fun h => ?_) | refine EqP.mk rfl ?_ | refine NewP.mk (fun ad => ?_) | refine ArP.exact (by simp only [inR]; omega) ?_ | refine SideP.mk (by first | omega | (dsimp only; omega) | (simp; omega)) ?_
              | refine IdxE.mk 0 5 _ (hrx _) (by omega) (by omega) ?_ | refine LoadE.mk 0 _ _ _ (hrx _) (by omega) (by omega) (by omega) hcell ?_ | refine CallP.is c1 ?_ (fun _ h => ⟨h.1, trivial⟩) | refine CallP.is c2 ?_ | refine CallP.is c3 ?_ | refine FinE.int ?_ | refine Round.mk (i + 1) (by omega) ⟨by omega, ?_⟩ (by repeat' first | exact SubE.nil | refine SubE.cons rfl ?_ ?_ | exact VEq.refl _ | refine VEq.int (by omega) | refine VEq.sl rfl (by first | rfl | omega | (rw [List.length_append]; rfl) | (simp; omega)) rfl) Ents.drop
              | fail
            all_goals (first | exact he | (rw [he]; rfl))
        · have hil : i = p.xs.length := by omega
          subst hil
          rw [List.drop_of_length_le (by omega), firstErr] at he
          repeat' first
            | refine J_seq ?_ | refine J_region Tryz.tyOK ?_ | refine J_block ?_ | refine J_cond ?_ | refine J_ret ?_ | refine J_skip ?_ | refine J_exit ?_ | refine J_scope ?_
            | refine CondP.yes (by omega) ?_ | refine CondP.no (by omega) ?_ | refine CondP.mk (fun h => ?_) (fun h => ?_) | refine EqP.mk rfl ?_ | refine NewP.mk (fun ad => ?_) | refine ArP.exact (by simp only [inR]; omega) ?_ | refine SideP.mk (by first | omega | (dsimp only; omega) | (simp; omega)) ?_
            | refine FinE.int ?_
            | fail
          exact he

end Go.Proofs
