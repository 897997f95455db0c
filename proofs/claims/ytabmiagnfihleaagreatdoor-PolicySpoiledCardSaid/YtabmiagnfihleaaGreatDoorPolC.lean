/- This text walks through the check of whole policies of the package policy. -/
import Derived.Test.YtabmiagnfihleaaGreatDoorPolB
set_option linter.all false

namespace Go.Proofs
open Go Go.X
set_option maxRecDepth 100000
set_option maxHeartbeats 4000000

/-- Sizes that every policy in memory has. -/
structure PolOK (p : PolM) : Prop where
  gc : p.gs.length ≤ p.gc
  gl : p.gs.length ≤ 9223372036854775807
  rl : p.rs.length ≤ 9223372036854775807
  xl : p.xs.length ≤ 9223372036854775807
  gb : ∀ g ∈ p.gs, g.name.length ≤ 9223372036854775807 ∧ g.mem.length ≤ 9223372036854775807 ∧ ∀ m ∈ g.mem, m.length ≤ 9223372036854775807
  rb : ∀ r ∈ p.rs, r.nm.length ≤ 9223372036854775807
  xb : ∀ x ∈ p.xs, x.nm.length ≤ 9223372036854775807 ∧ x.sect.length ≤ 9223372036854775807

theorem gp_names (gs : List GrpM) : (gpOf gs).map (·.1) = names gs := by simp [gpOf, names]
theorem grpErrs_len (gs : List GrpM) : (grpErrs (gpOf gs)).length = gs.length := by simp [grpErrs, gpOf]
theorem grpErrs_get (gs : List GrpM) {i : Nat} (hi : i < gs.length) : (grpErrs (gpOf gs))[i]'(by rw [grpErrs_len]; exact hi) = grpErr (names gs) ((names gs).take i) gs[i].name gs[i].mem := by
  simp [grpErrs, gpOf, names, Function.comp_def]

theorem firstErr_cons (e : Int) (r : List Int) : firstErr (e :: r) = if e = 0 then firstErr r else e := rfl

theorem polValidate_ok (p : PolM) (h : PolOK p) : FnS Tryz.prog 7 [.agg p.cells] [] (gInt 0 :: p.facts) (Is (.c (.i .i64 (validateT (gpOf p.gs) p.rs p.xs)))) := by
  have hgl := h.gl
  have hrl := h.rl
  have hxl := h.xl
  have hrr : ∀ L, Reads L (gInt 0 :: p.facts) 0 6 p.ra p.rs.length (rsC p.rs) := fun L => .inr fun m h => h.2.2.2.1
  have hrx : ∀ L, Reads L (gInt 0 :: p.facts) 0 5 p.xa p.xs.length (xsC p.xs) := fun L => .inr fun m h => h.2.2.2.2.1
  have hgp : (gpOf p.gs).length = p.gs.length := by simp [gpOf]
  by_cases hbig : 24 < (p.gs.length : Int) ∨ 64 < (p.rs.length : Int) ∨ 64 < (p.xs.length : Int)
  · have hv : validateT (gpOf p.gs) p.rs p.xs = 3 := by unfold validateT; rw [if_pos (by rw [hgp]; exact hbig)]
    rw [hv]
    refine fn_of_J Tryz.tyOK 0 Tryz.func7 (by kernel_rfl) (c := Tryz.f7.body.getD .skip) (by kernel_rfl) Tryz.ntmps7 (rs := Tryz.f7.results.toList) rfl (by simp) (fun G => ?_)
    repeat' first
      | refine J_seq ?_ | refine J_region Tryz.tyOK ?_ | refine J_block ?_ | refine J_cond ?_ | refine J_ret ?_ | refine J_skip ?_ | refine J_exit ?_ | refine J_scope ?_
      | refine CondP.yes (by omega) ?_ | refine CondP.no (by omega) ?_ | refine CondP.mk (fun h => ?_) (fun h => ?_) | refine EqP.mk rfl ?_ | refine NewP.mk (fun ad => ?_) | refine ArP.exact (by simp only [inR]; omega) ?_ | refine SideP.mk (by first | omega | (dsimp only; omega) | (simp; omega)) ?_
      | refine FinE.int rfl
      | fail
  · have hv : validateT (gpOf p.gs) p.rs p.xs = firstErr (grpErrs (gpOf p.gs) ++ (p.rs.map (rulErr (names p.gs)) ++ p.xs.map (grdErr (names p.gs)))) := by
      unfold validateT; rw [if_neg (by rw [hgp]; exact hbig), gp_names, List.append_assoc]
    rw [hv]
    generalize hR : p.rs.map (rulErr (names p.gs)) = R
    generalize hX : p.xs.map (grdErr (names p.gs)) = X
    have hRl : R.length = p.rs.length := by rw [← hR]; simp
    have hXl : X.length = p.xs.length := by rw [← hX]; simp
    generalize hV : firstErr (grpErrs (gpOf p.gs) ++ (R ++ X)) = v
    have hRg : ∀ (i : Nat) (hi : i < p.rs.length), R[i]'(by omega) = rulErr (names p.gs) p.rs[i] := fun i hi => by simp [← hR]
    have hXg : ∀ (i : Nat) (hi : i < p.xs.length), X[i]'(by omega) = grdErr (names p.gs) p.xs[i] := fun i hi => by simp [← hX]
    refine fn_of_J Tryz.tyOK 0 Tryz.func7 (by kernel_rfl) (c := Tryz.f7.body.getD .skip) (by kernel_rfl) Tryz.ntmps7 (rs := Tryz.f7.results.toList) rfl (by simp) (fun G => ?_)
    repeat' first
      | refine J_seq ?_ | refine J_region Tryz.tyOK ?_ | refine J_block ?_ | refine J_cond ?_ | refine J_ret ?_ | refine J_skip ?_ | refine J_exit ?_ | refine J_scope ?_
      | refine CondP.yes (by omega) ?_ | refine CondP.no (by omega) ?_ | refine CondP.mk (fun h => ?_) (fun h => ?_) | refine EqP.mk rfl ?_ | refine NewP.mk (fun ad => ?_) | refine ArP.exact (by simp only [inR]; omega) ?_ | refine SideP.mk (by first | omega | (dsimp only; omega) | (simp; omega)) ?_
      | fail
    refine J_loop (α := Nat) (fun i => [(1, .c (.p 0 ad 0)), (29, .c (.i .i64 p.gs.length)), (30, .c (.i .i64 i))]) (fun _ => [.box 0 ad 27 p.cells]) (fun _ => gInt 0 :: p.facts) 1
      (fun i => i ≤ p.gs.length ∧ v = firstErr ((grpErrs (gpOf p.gs)).drop i ++ (R ++ X))) (fun i => p.gs.length - i) (InFam.mk 0 ⟨by omega, hV.symm⟩ (by repeat' first | exact SubE.nil | refine SubE.cons rfl ?_ ?_ | exact VEq.refl _ | refine VEq.int (by omega) | refine VEq.sl rfl (by first | rfl | omega | (rw [List.length_append]; rfl) | (simp; omega)) rfl) (Ents.refl _ _)) (fun i hi => ?_)
    obtain ⟨hi, he⟩ := hi
    by_cases hlt : i < p.gs.length
    · have hc := checkGroup_ok p i hlt h.gc h.gl h.gb
      rw [List.drop_eq_getElem_cons (by rw [grpErrs_len]; exact hlt), grpErrs_get _ hlt, List.cons_append, firstErr_cons] at he
      generalize grpErr (names p.gs) ((names p.gs).take i) p.gs[i].name p.gs[i].mem = e at *
      repeat' first
        | refine J_seq ?_ | refine J_region Tryz.tyOK ?_ | refine J_block ?_ | refine J_cond ?_ | refine J_ret ?_ | refine J_skip ?_ | refine J_exit ?_ | refine J_scope ?_
        | refine CondP.yes (by omega) ?_ | refine CondP.no (by omega) ?_ | refine CondP.mk (fun h => ?_) (fun h => ?_) | refine EqP.mk rfl ?_ | refine NewP.mk (fun ad => ?_) | refine ArP.exact (by simp only [inR]; omega) ?_ | refine SideP.mk (by first | omega | (dsimp only; omega) | (simp; omega)) ?_
        | refine CallP.is hc ?_ (fun _ h => h.2) | refine FinE.int ?_ | refine Round.mk (i + 1) (by omega) ⟨by omega, ?_⟩ (by repeat' first | exact SubE.nil | refine SubE.cons rfl ?_ ?_ | exact VEq.refl _ | refine VEq.int (by omega) | refine VEq.sl rfl (by first | rfl | omega | (rw [List.length_append]; rfl) | (simp; omega)) rfl) (Ents.refl _ _)
        | fail
      all_goals first | rw [he, if_pos (by assumption)] | rw [he, if_neg (by assumption)]
    · have hil : i = p.gs.length := by omega
      subst hil
      rw [List.drop_of_length_le (by rw [grpErrs_len]; omega), List.nil_append] at he
      clear hlt hi hV
      repeat' first
        | refine J_seq ?_ | refine J_region Tryz.tyOK ?_ | refine J_block ?_ | refine J_cond ?_ | refine J_ret ?_ | refine J_skip ?_ | refine J_exit ?_ | refine J_scope ?_
        | refine CondP.yes (by omega) ?_ | refine CondP.no (by omega) ?_ | refine CondP.mk (fun h => ?_) (fun h => ?_) | refine EqP.mk rfl ?_ | refine NewP.mk (fun ad => ?_) | refine ArP.exact (by simp only [inR]; omega) ?_ | refine SideP.mk (by first | omega | (dsimp only; omega) | (simp; omega)) ?_
        | fail
      refine J_loop (α := Nat) (fun i => [(1, .c (.p 0 ad 0)), (41, .c (.sl p.ra p.rs.length p.rc)), (42, .c (.i .i64 p.rs.length)), (43, .c (.i .i64 i))]) (fun _ => [.box 0 ad 27 p.cells]) (fun _ => gInt 0 :: p.facts) 1
        (fun i => i ≤ p.rs.length ∧ v = firstErr (R.drop i ++ X)) (fun i => p.rs.length - i) (InFam.mk 0 ⟨by omega, he⟩ (by repeat' first | exact SubE.nil | refine SubE.cons rfl ?_ ?_ | exact VEq.refl _ | refine VEq.int (by omega) | refine VEq.sl rfl (by first | rfl | omega | (rw [List.length_append]; rfl) | (simp; omega)) rfl) (Ents.refl _ _)) (fun i hi => ?_)
      obtain ⟨hi, he⟩ := hi
      by_cases hlt : i < p.rs.length
      · have hcell : ((rsC p.rs).drop (i * 6 + 0)).take 6 = p.rs[i].cells := by rw [rsC, flat_get (F := Rul.cells) (z := 6) (fun _ => rfl) hlt (by omega)]; rfl
        have hc := checkRule_ok p p.rs[i] h.gl (h.rb _ (List.getElem_mem hlt))
        rw [List.drop_eq_getElem_cons (by omega), hRg i hlt, List.cons_append, firstErr_cons] at he
        generalize rulErr (names p.gs) p.rs[i] = e at *
        generalize p.rs[i] = r at *
        repeat' first
          | refine J_seq ?_ | refine J_region Tryz.tyOK ?_ | refine J_block ?_ | refine J_cond ?_ | refine J_ret ?_ | refine J_skip ?_ | refine J_exit ?_ | refine J_scope ?_
          | refine CondP.yes (by omega) ?_ | refine CondP.no (by omega) ?_ | refine CondP.mk (fun h => ?_) (fun h => ?_) | refine EqP.mk rfl ?_ | refine NewP.mk (fun ad => ?_) | refine ArP.exact (by simp only [inR]; omega) ?_ | refine SideP.mk (by first | omega | (dsimp only; omega) | (simp; omega)) ?_
          | refine IdxE.mk 0 6 _ (hrr _) (by omega) (by omega) ?_ | refine LoadE.mk 0 _ _ _ (hrr _) (by omega) (by omega) (by omega) hcell ?_ | refine CallP.is hc ?_ (fun _ h => h) | refine FinE.int ?_ | refine Round.mk (i + 1) (by omega) ⟨by omega, ?_⟩ (by repeat' first | exact SubE.nil | refine SubE.cons rfl ?_ ?_ | exact VEq.refl _ | refine VEq.int (by omega) | refine VEq.sl rfl (by first | rfl | omega | (rw [List.length_append]; rfl) | (simp; omega)) rfl) Ents.drop
          | fail
        all_goals first | rw [he, if_pos (by assumption)] | rw [he, if_neg (by assumption)]
      · have hil : i = p.rs.length := by omega
        subst hil
        rw [List.drop_of_length_le (by omega), List.nil_append] at he
        clear hlt hi
        repeat' first
          | refine J_seq ?_ | refine J_region Tryz.tyOK ?_ | refine J_block ?_ | refine J_cond ?_ | refine J_ret ?_ | refine J_skip ?_ | refine J_exit ?_ | refine J_scope ?_
          | refine CondP.yes (by omega) ?_ | refine CondP.no (by omega) ?_ | refine CondP.mk (fun h => ?_) (fun h => ?_) | refine EqP.mk rfl ?_ | refine NewP.mk (fun ad => ?_) | refine ArP.exact (by simp only [inR]; omega) ?_ | refine SideP.mk (by first | omega | (dsimp only; omega) | (simp; omega)) ?_
          | fail
        refine J_loop (α := Nat) (fun i => [(1, .c (.p 0 ad 0)), (55, .c (.sl p.xa p.xs.length p.xc)), (56, .c (.i .i64 p.xs.length)), (57, .c (.i .i64 i))]) (fun _ => [.box 0 ad 27 p.cells]) (fun _ => gInt 0 :: p.facts) 1
          (fun i => i ≤ p.xs.length ∧ v = firstErr (X.drop i)) (fun i => p.xs.length - i) (InFam.mk 0 ⟨by omega, he⟩ (by repeat' first | exact SubE.nil | refine SubE.cons rfl ?_ ?_ | exact VEq.refl _ | refine VEq.int (by omega) | refine VEq.sl rfl (by first | rfl | omega | (rw [List.length_append]; rfl) | (simp; omega)) rfl) (Ents.refl _ _)) (fun i hi => ?_)
        obtain ⟨hi, he⟩ := hi
        by_cases hlt : i < p.xs.length
        · have hcell : ((xsC p.xs).drop (i * 5 + 0)).take 5 = p.xs[i].cells := by rw [xsC, flat_get (F := Grd.cells) (z := 5) (fun _ => rfl) hlt (by omega)]; rfl
          have hxb := h.xb _ (List.getElem_mem hlt)
          have hc := checkGuard_ok p p.xs[i] h.gl hxb.1 hxb.2
          rw [List.drop_eq_getElem_cons (by omega), hXg i hlt, firstErr_cons] at he
          generalize grdErr (names p.gs) p.xs[i] = e at *
          generalize p.xs[i] = r at *
          repeat' first
            | refine J_seq ?_ | refine J_region Tryz.tyOK ?_ | refine J_block ?_ | refine J_cond ?_ | refine J_ret ?_ | refine J_skip ?_ | refine J_exit ?_ | refine J_scope ?_
            | refine CondP.yes (by omega) ?_ | refine CondP.no (by omega) ?_ | refine CondP.mk (fun h => ?_) (fun h => ?_) | refine EqP.mk rfl ?_ | refine NewP.mk (fun ad => ?_) | refine ArP.exact (by simp only [inR]; omega) ?_ | refine SideP.mk (by first | omega | (dsimp only; omega) | (simp; omega)) ?_
            | refine IdxE.mk 0 5 _ (hrx _) (by omega) (by omega) ?_ | refine LoadE.mk 0 _ _ _ (hrx _) (by omega) (by omega) (by omega) hcell ?_ | refine CallP.is hc ?_ (fun _ h => h) | refine FinE.int ?_ | refine Round.mk (i + 1) (by omega) ⟨by omega, ?_⟩ (by repeat' first | exact SubE.nil | refine SubE.cons rfl ?_ ?_ | exact VEq.refl _ | refine VEq.int (by omega) | refine VEq.sl rfl (by first | rfl | omega | (rw [List.length_append]; rfl) | (simp; omega)) rfl) Ents.drop
            | fail
          all_goals first | rw [he, if_pos (by assumption)] | rw [he, if_neg (by assumption)]
        · have hil : i = p.xs.length := by omega
          subst hil
          rw [List.drop_of_length_le (by omega), firstErr] at he
          repeat' first
            | refine J_seq ?_ | refine J_region Tryz.tyOK ?_ | refine J_block ?_ | refine J_cond ?_ | refine J_ret ?_ | refine J_skip ?_ | refine J_exit ?_ | refine J_scope ?_
            | refine CondP.yes (by omega) ?_ | refine CondP.no (by omega) ?_ | refine CondP.mk (fun h => ?_) (fun h => ?_) | refine EqP.mk rfl ?_ | refine NewP.mk (fun ad => ?_) | refine ArP.exact (by simp only [inR]; omega) ?_ | refine SideP.mk (by first | omega | (dsimp only; omega) | (simp; omega)) ?_
            | refine FinE.int ?_
            | fail
          exact he

end Go.Proofs
