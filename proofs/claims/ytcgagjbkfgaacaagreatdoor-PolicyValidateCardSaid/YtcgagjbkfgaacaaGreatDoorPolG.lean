/- This text walks through the texts of policies in the reference of chapter 12. -/
import Derived.Test.YtcgagjbkfgaacaaGreatDoorPolF
import Derived.Test.YtcgagjbkfgaacaaGreatDoorPolV
set_option linter.all false

namespace Go.Proofs
open Go Go.X
set_option maxRecDepth 100000
set_option maxHeartbeats 4000000

theorem refWord_ok (n : Int) (h1 : 1 ≤ n) (h2 : n ≤ 5) : FnS Tryz.prog 45 [.c (.i .i64 n)] [] [] (Is (.c (.s (rightsL.getD (n - 1).toNat [])))) := by
  have hc : (((([] :: rightsL) : List Bs).map C.s).drop (n.toNat * 1 + 0)).take 1 = [C.s (rightsL.getD (n - 1).toNat [])] := by
    have hlt : n.toNat < (([] :: rightsL) : List Bs).length := by show n.toNat < 6; omega
    obtain ⟨k, hk⟩ : ∃ k : Nat, n = k + 1 := ⟨(n - 1).toNat, by omega⟩
    subst hk
    have hk5 : k < rightsL.length := by show k < 5; omega
    rw [map_take1 hlt]
    have e1 : ((k : Int) + 1).toNat = k + 1 := by omega
    have e2 : ((k : Int) + 1 - 1).toNat = k := by omega
    simp only [e1, e2, List.getElem_cons_succ]
    rw [List.getD_eq_getElem?_getD, List.getElem?_eq_getElem hk5]; rfl
  have hrd : ∀ ad : Nat, Reads [.row 9 1 (some ⟨ad, 0, none⟩) 6 6 (([] :: rightsL).map C.s)] [] 9 1 (some ⟨ad, 0, none⟩) 6 (([] :: rightsL).map C.s) := fun ad => .inl ⟨6, List.Mem.head _⟩
  refine fn_of_J Tryz.tyOK 0 Tryz.func45 (by kernel_rfl) (c := Tryz.f45.body.getD .skip) (by kernel_rfl) Tryz.ntmps45 (rs := Tryz.f45.results.toList) rfl (by simp) (fun G => ?_)
  repeat' first
    | refine J_seq ?_ | refine J_region Tryz.tyOK ?_ | refine J_block ?_ | refine J_cond ?_ | refine J_ret ?_ | refine J_skip ?_ | refine J_exit ?_ | refine J_scope ?_
    | refine CondP.yes (by omega) ?_ | refine CondP.no (by omega) ?_ | refine CondP.mk (fun h => ?_) (fun h => ?_) | refine EqP.mk rfl ?_ | refine NewP.mk (fun ad => ?_) | refine ArP.exact (by simp only [inR]; omega) ?_ | refine SideP.mk (by first | omega | (dsimp only; omega) | (simp; omega)) ?_
    | refine IdxE.mk 9 1 _ (hrd _) (by omega) (by omega) ?_ | refine LoadE.mk 9 _ _ _ (hrd _) (by omega) (by omega) (by omega) hc ?_ | refine FinE.str ?_
    | fail
  all_goals rfl

theorem refFormat12_ok (p : PolM) (h : PolOK p) : FnS Tryz.prog 21 [.agg p.cells] [] p.facts (outPost (polFormatT p.p3)) := by
  have c1 := refValidate_ok p h
  have hpv : validateT p.p3.1 p.p3.2.1 p.p3.2.2 = validateT (gpOf p.gs) p.rs p.xs := rfl
  unfold polFormatT
  rw [hpv]
  by_cases hv : validateT (gpOf p.gs) p.rs p.xs ≠ 0
  · rw [if_pos hv]
    generalize validateT (gpOf p.gs) p.rs p.xs = e at *
    refine fn_of_J Tryz.tyOK 0 Tryz.func21 (by kernel_rfl) (c := Tryz.f21.body.getD .skip) (by kernel_rfl) Tryz.ntmps21 (rs := Tryz.f21.results.toList) rfl (by simp) (fun G => ?_)
    repeat' first
      | refine J_seq ?_ | refine J_region Tryz.tyOK ?_ | refine J_block ?_ | refine J_cond ?_ | refine J_ret ?_ | refine J_skip ?_ | refine J_exit ?_ | refine J_scope ?_
      | refine CondP.yes (by omega) ?_ | refine CondP.no (by omega) ?_ | refine CondP.mk (fun h => ?_) (fun h => ?_) | refine EqP.mk rfl ?_ | refine NewP.mk (fun ad => ?_) | refine ArP.exact (by simp only [inR]; omega) ?_ | refine SideP.mk (by first | omega | (dsimp only; omega) | (simp; omega)) ?_
      | refine CallP.is c1 ?_ | exact FinE.is rfl
      | fail
  rw [if_neg hv]
  replace hv : validateT (gpOf p.gs) p.rs p.xs = 0 := Decidable.not_not.1 hv
  rw [hv] at c1
  have hPV : PV p.p3 := (valid_iff p.p3).1 hv
  have hgl : p.gs.length ≤ 24 := by have := hPV.gl; simpa [PolM.p3, gpOf] using this
  have hrl : p.rs.length ≤ 64 := hPV.rl
  have hxl : p.xs.length ≤ 64 := hPV.xl
  have hG : ∀ i, (fmtG ((gpOf p.gs).take i)).length ≤ 24 * 1001 := fun i => by
    have h1 := flat_le (F := fun g => nl (grpLine g)) (B := 1001) (l := (gpOf p.gs).take i) fun g hg => by
      have := grpLine_le hPV (List.mem_of_mem_take hg)
      simp [nl]; omega
    have h2 : ((gpOf p.gs).take i).length ≤ 24 := by simp [gpOf]; omega
    exact Nat.le_trans h1 (Nat.mul_le_mul_right _ h2)
  have hRl : ∀ i, (fmtR (p.rs.take i)).length ≤ 64 * 201 := fun i => by
    have h1 := flat_le (F := fun r => nl (ruleLine r)) (B := 201) (l := p.rs.take i) fun r hr => by
      have := ruleLine_le (hPV.rul (List.mem_of_mem_take hr)).2.2.1
      simp [nl]; omega
    have h2 : (p.rs.take i).length ≤ 64 := by simp; omega
    exact Nat.le_trans h1 (Nat.mul_le_mul_right _ h2)
  have hXl : ∀ i, (fmtX (p.xs.take i)).length ≤ 64 * 301 := fun i => by
    have h1 := flat_le (F := fun x => nl (grdLine x)) (B := 301) (l := p.xs.take i) fun x hx => by
      have h3 := hPV.grd (List.mem_of_mem_take hx)
      have := grdLine_le (x := x) h3.1 (sectOK_len h3.2.2)
      simp [nl]; omega
    have h2 : (p.xs.take i).length ≤ 64 := by simp; omega
    exact Nat.le_trans h1 (Nat.mul_le_mul_right _ h2)
  have hrg : ∀ L, Reads L p.facts 0 2 p.ga p.gs.length (gsC p.gs) := fun L => .inr fun m h => h.1
  have hrr : ∀ L, Reads L p.facts 0 6 p.ra p.rs.length (rsC p.rs) := fun L => .inr fun m h => h.2.2.1
  have hrx : ∀ L, Reads L p.facts 0 5 p.xa p.xs.length (xsC p.xs) := fun L => .inr fun m h => h.2.2.2.1
  have hqg : ∀ g ∈ p.gs, g.name.length ≤ 30 ∧ g.mem.length ≤ 24 ∧ ∀ m ∈ g.mem, m.length ≤ 31 := fun g hg => by
    obtain ⟨h1, h2, h3⟩ := hPV.grp (g := (g.name, g.mem)) (List.mem_map_of_mem hg)
    exact ⟨(isName_len h1).2, h2, fun m hm => mem_le (h3 m hm)⟩
  refine fn_of_J Tryz.tyOK 0 Tryz.func21 (by kernel_rfl) (c := Tryz.f21.body.getD .skip) (by kernel_rfl) Tryz.ntmps21 (rs := Tryz.f21.results.toList) rfl (by simp) (fun G => ?_)
  repeat' first
    | refine J_seq ?_ | refine J_region Tryz.tyOK ?_ | refine J_block ?_ | refine J_cond ?_ | refine J_ret ?_ | refine J_skip ?_ | refine J_exit ?_ | refine J_scope ?_
    | refine CondP.yes (by omega) ?_ | refine CondP.no (by omega) ?_ | refine CondP.mk (fun h => ?_) (fun h => ?_) | refine EqP.mk rfl ?_ | refine NewP.mk (fun ad => ?_) | refine ArP.exact (by simp only [inR]; omega) ?_ | refine SideP.mk (by first | omega | (dsimp only; omega) | (simp; omega)) ?_
    | refine CallP.is c1 ?_
    | fail
  refine J_loop (α := Nat) (fun x => [(1, .c (.p 0 ad 0)), (5, .c (.s (fmtG ((gpOf p.gs).take x)))), (6, .c (.i .i64 x))]) (fun x => [.box 0 ad 27 p.cells]) (fun _ => p.facts) 1
    (fun x => x ≤ p.gs.length) (fun x => p.gs.length - x) (InFam.mk 0 (Nat.zero_le _) (by repeat' first | exact SubE.nil | refine SubE.cons rfl ?_ ?_ | exact VEq.refl _ | refine VEq.int (by omega) | refine VEq.sl rfl (by first | rfl | omega | (rw [List.length_append]; rfl) | (simp; omega)) rfl) (Ents.refl _ _)) (fun i hi => ?_)
  by_cases hlt : i < p.gs.length
  · have hc0 : ((gsC p.gs).drop (i * 2 + 0)).take 1 = [C.s p.gs[i].name] := by rw [gsC, flat_get (F := GrpM.cells) (z := 2) (fun _ => rfl) hlt (by omega)]; rfl
    have hc1 : ((gsC p.gs).drop (i * 2 + 1)).take 1 = [C.sl p.gs[i].a p.gs[i].mem.length p.gs[i].c] := by rw [gsC, flat_get (F := GrpM.cells) (z := 2) (fun _ => rfl) hlt (by omega)]; rfl
    have hout := gpOf_take hlt
    have hgb := hqg _ (List.getElem_mem hlt)
    have hrm : ∀ L, Reads L p.facts 0 1 p.gs[i].a p.gs[i].mem.length (p.gs[i].mem.map C.s) := fun L => .inr fun m h => h.2.1 _ (List.getElem_mem hlt)
    have hol := hG i
    generalize fmtG ((gpOf p.gs).take i) = out at *
    generalize p.gs[i] = g at *
    obtain ⟨nm, ga, gc, mem⟩ := g
    dsimp only at hout hgb hrm hc0 hc1
    have hml : ∀ k, ((mem.take k).flatMap memText).length ≤ 24 * 32 := fun k => by
      have h1 := flat_le (F := memText) (B := 32) (l := mem.take k) fun m hm => by
        have := hgb.2.2 m (List.mem_of_mem_take hm)
        simp [memText]; omega
      have h2 : (mem.take k).length ≤ 24 := by simp; omega
      exact Nat.le_trans h1 (Nat.mul_le_mul_right _ h2)
    repeat' first
      | refine SideP.mk (by simp only [List.length_append, List.length_cons, List.length_nil]; omega) ?_
      | refine J_seq ?_ | refine J_region Tryz.tyOK ?_ | refine J_block ?_ | refine J_cond ?_ | refine J_ret ?_ | refine J_skip ?_ | refine J_exit ?_ | refine J_scope ?_
      | refine CondP.yes (by omega) ?_ | refine CondP.no (by omega) ?_ | refine CondP.mk (fun h => ?_) (fun h => ?_) | refine EqP.mk rfl ?_ | refine NewP.mk (fun ad => ?_) | refine ArP.exact (by simp only [inR]; omega) ?_ | refine SideP.mk (by first | omega | (dsimp only; omega) | (simp; omega)) ?_
      | refine IdxE.mk 0 2 _ (hrg _) (by omega) (by omega) ?_ | refine FldE.mk 0 2 _ _ (hrg _) (by omega) ?_ | refine LoadE.mk 0 _ _ _ (hrg _) (by omega) (by omega) (by first | omega | decide) hc0 ?_
      | fail
    refine J_loop (α := Nat) (fun k => [(1, .c (.p 0 ad 0)), (5, .c (.s (out ++ [103, 114, 111, 117, 112, 32] ++ nm ++ (mem.take k).flatMap memText))), (6, .c (.i .i64 i)), (7, .c (.i .i64 k))]) (fun _ => [.box 0 ad 27 p.cells]) (fun _ => p.facts) 1
      (fun k => k ≤ mem.length) (fun k => mem.length - k) (InFam.mk 0 (Nat.zero_le _) (SubE.cons rfl (VEq.refl _) (SubE.cons rfl (VEq.str (by simp)) (SubE.cons rfl (VEq.refl _) (SubE.cons rfl (VEq.refl _) SubE.nil)))) (Ents.refl _ _)) (fun k hk => ?_)
    have hol2 := hml k
    by_cases hlt2 : k < mem.length
    · have hcm := map_take1 (f := C.s) hlt2
      have hsn := flat_snoc (F := memText) hlt2
      have hmm := hgb.2.2 _ (List.getElem_mem hlt2)
      generalize (mem.take k).flatMap memText = mo at *
      generalize mem[k] = mm at *
      repeat' first
        | refine SideP.mk (by simp only [List.length_append, List.length_cons, List.length_nil]; omega) ?_
        | refine J_seq ?_ | refine J_region Tryz.tyOK ?_ | refine J_block ?_ | refine J_cond ?_ | refine J_ret ?_ | refine J_skip ?_ | refine J_exit ?_ | refine J_scope ?_
        | refine CondP.yes (by omega) ?_ | refine CondP.no (by omega) ?_ | refine CondP.mk (fun h => ?_) (fun h => ?_) | refine EqP.mk rfl ?_ | refine NewP.mk (fun ad => ?_) | refine ArP.exact (by simp only [inR]; omega) ?_ | refine SideP.mk (by first | omega | (dsimp only; omega) | (simp; omega)) ?_
        | refine IdxE.mk 0 2 _ (hrg _) (by omega) (by omega) ?_ | refine FldE.mk 0 2 _ _ (hrg _) (by omega) ?_ | refine LoadE.mk 0 _ _ _ (hrg _) (by omega) (by omega) (by first | omega | decide) hc1 ?_ | refine IdxE.mk 0 1 _ (hrm _) (by omega) (by omega) ?_ | refine LoadE.mk 0 _ _ _ (hrm _) (by omega) (by omega) (by omega) hcm ?_ | refine Round.mk (k + 1) (by omega) (by omega) (SubE.cons rfl (VEq.refl _) (SubE.cons rfl (VEq.str (by rw [hsn]; simp [memText])) (SubE.cons rfl (VEq.refl _) (SubE.cons rfl (VEq.int (by omega)) SubE.nil)))) (Ents.refl _ _)
        | fail
    · have hkl : k = mem.length := by omega
      subst hkl
      rw [List.take_length] at *
      generalize hmo : mem.flatMap memText = mo at *
      repeat' first
        | refine SideP.mk (by simp only [List.length_append, List.length_cons, List.length_nil]; omega) ?_
        | refine J_seq ?_ | refine J_region Tryz.tyOK ?_ | refine J_block ?_ | refine J_cond ?_ | refine J_ret ?_ | refine J_skip ?_ | refine J_exit ?_ | refine J_scope ?_
        | refine CondP.yes (by omega) ?_ | refine CondP.no (by omega) ?_ | refine CondP.mk (fun h => ?_) (fun h => ?_) | refine EqP.mk rfl ?_ | refine NewP.mk (fun ad => ?_) | refine ArP.exact (by simp only [inR]; omega) ?_ | refine SideP.mk (by first | omega | (dsimp only; omega) | (simp; omega)) ?_
        | refine IdxE.mk 0 2 _ (hrg _) (by omega) (by omega) ?_ | refine FldE.mk 0 2 _ _ (hrg _) (by omega) ?_ | refine LoadE.mk 0 _ _ _ (hrg _) (by omega) (by omega) (by first | omega | decide) hc1 ?_ | refine Round.mk (i + 1) (by omega) (by omega) (SubE.cons rfl (VEq.refl _) (SubE.cons rfl (VEq.str (by rw [hout]; simp [nl, grpLine, hmo])) (SubE.cons rfl (VEq.int (by omega)) SubE.nil))) (Ents.refl _ _)
        | fail
  have hil : i = p.gs.length := by omega
  subst hil
  have hfull : fmtG ((gpOf p.gs).take p.gs.length) = fmtG p.p3.1 := by rw [List.take_of_length_le (by simp [gpOf])]; rfl
  have hol := hG p.gs.length
  rw [hfull] at *
  have hFT : fmtT p.p3 = fmtG p.p3.1 ++ fmtR p.rs ++ fmtX p.xs := rfl
  rw [hFT]
  generalize fmtG p.p3.1 = FG at *
  repeat' first
    | refine J_seq ?_ | refine J_region Tryz.tyOK ?_ | refine J_block ?_ | refine J_cond ?_ | refine J_ret ?_ | refine J_skip ?_ | refine J_exit ?_ | refine J_scope ?_
    | refine CondP.yes (by omega) ?_ | refine CondP.no (by omega) ?_ | refine CondP.mk (fun h => ?_) (fun h => ?_) | refine EqP.mk rfl ?_ | refine NewP.mk (fun ad => ?_) | refine ArP.exact (by simp only [inR]; omega) ?_ | refine SideP.mk (by first | omega | (dsimp only; omega) | (simp; omega)) ?_
    | fail
  refine J_loop (α := Nat) (fun x => [(1, .c (.p 0 ad 0)), (5, .c (.s (FG ++ fmtR (p.rs.take x)))), (8, .c (.i .i64 x))]) (fun x => [.box 0 ad 27 p.cells]) (fun _ => p.facts) 1
    (fun x => x ≤ p.rs.length) (fun x => p.rs.length - x) (InFam.mk 0 (Nat.zero_le _) (SubE.cons rfl (VEq.refl _) (SubE.cons rfl (VEq.str (by simp [fmtR])) (SubE.cons rfl (VEq.refl _) SubE.nil))) (Ents.refl _ _)) (fun i hi => ?_)
  have hol2 := hRl i
  by_cases hlt : i < p.rs.length
  · have hcell : ((rsC p.rs).drop (i * 6 + 0)).take 6 = p.rs[i].cells := by rw [rsC, flat_get (F := Rul.cells) (z := 6) (fun _ => rfl) hlt (by omega)]; rfl
    have hout : fmtR (p.rs.take (i + 1)) = fmtR (p.rs.take i) ++ nl (ruleLine p.rs[i]) := flat_snoc (F := fun r => nl (ruleLine r)) hlt
    obtain ⟨hq1, hq2, hq3, hq4⟩ := hPV.rul (r := p.rs[i]) (List.getElem_mem hlt)
    have hq5 := (isName_len hq3).2
    generalize fmtR (p.rs.take i) = out at *
    generalize p.rs[i] = r at *
    obtain ⟨al, ri, gr, k, sp, nm⟩ := r
    replace hcell : ((rsC p.rs).drop (i * 6 + 0)).take 6 = [.b al, .i .i64 ri, .s gr, .i .i64 k, .i .i64 sp, .s nm] := hcell
    dsimp only at hq1 hq2 hq3 hq4 hq5
    have hnl : nm.length ≤ 1000000 := by
      rcases scopeOK_cases hq4 with ⟨_, _, rfl⟩ | ⟨_, _, _, rfl⟩ | ⟨_, hv⟩
      · simp
      · simp
      · have := validT_bounds hv; omega
    have c4 := refFormat_ok sp nm hnl
    have c5 := spaceWord_ok sp
    have c6 := refWord_ok ri hq1 hq2
    have hstl := scopeText_le k sp nm
    have hrw := rights_le (ri - 1).toNat
    have hln : ruleLine ⟨al, ri, gr, k, sp, nm⟩ = verbR al ++ rightsL.getD (ri - 1).toNat [] ++ [32] ++ gr ++ [32] ++ scopeText k sp nm := rfl
    rw [hln] at hout
    have hst : (k = 1 ∧ scopeText k sp nm = wAll) ∨ (k = 2 ∧ scopeText k sp nm = spWord sp) ∨ (k = 3 ∧ scopeText k sp nm = formatT sp nm) := by
      rcases scopeOK_cases hq4 with ⟨rfl, _⟩ | ⟨rfl, h0, h1, _⟩ | ⟨rfl, _⟩
      · exact .inl ⟨rfl, rfl⟩
      · refine .inr (.inl ⟨rfl, ?_⟩)
        have := spWord_get sp.toNat (by omega)
        rw [show ((sp.toNat : Nat) : Int) = sp by omega] at this
        rw [this]; rfl
      · exact .inr (.inr ⟨rfl, rfl⟩)
    generalize scopeText k sp nm = st at *
    generalize rightsL.getD (ri - 1).toNat [] = rw5 at *
    generalize formatT sp nm = ft at *
    generalize spWord sp = sw at *
    cases al
    all_goals
      rcases hst with ⟨rfl, hst⟩ | ⟨rfl, rfl⟩ | ⟨rfl, rfl⟩
      all_goals
        try (have hwl : wAll.length = 5 := rfl)
        try subst hst
        repeat' first
          | refine SideP.mk (by simp only [List.length_append, List.length_cons, List.length_nil]; omega) ?_
          | refine J_seq ?_ | refine J_region Tryz.tyOK ?_ | refine J_block ?_ | refine J_cond ?_ | refine J_ret ?_ | refine J_skip ?_ | refine J_exit ?_ | refine J_scope ?_
          | refine CondP.yes (by omega) ?_ | refine CondP.no (by omega) ?_ | refine CondP.mk (fun h => ?_) (fun h => ?_) | refine EqP.mk rfl ?_ | refine NewP.mk (fun ad => ?_) | refine ArP.exact (by simp only [inR]; omega) ?_ | refine SideP.mk (by first | omega | (dsimp only; omega) | (simp; omega)) ?_
          | refine J_drawS (id := 26) Tryz.tyOK (by kernel_rfl) [0, 0, 3, 0, 8, 24, 63, 127, 0, 256, 1023, 2047, 0, 8191, 16383, 32767] [0, 1, 2, 3, 4, 5, 6, 7, 8, 9, 10, 11, 12, 13, 14, 15] [] [9] true (by kernel_rfl) ?_ | refine J_drawS (id := 36) Tryz.tyOK (by kernel_rfl) [0, 0, 3, 0, 8, 31, 63, 0, 128, 384, 1023, 0, 4095, 8191, 16383] [0, 1, 2, 3, 4, 5, 6, 7, 8, 9, 10, 11, 12, 13, 14] [] [13] true (by kernel_rfl) ?_ | refine EntP.mk (Ents.ofSub (by repeat (first | exact keepC_sub _ _ _ | exact List.Sublist.slnil | refine List.Sublist.cons_cons _ ?_ | refine List.Sublist.cons _ ?_)) (by first | exact fun _ h => h | exact fun _ _ => trivial | exact fun _ h => h.2 | exact fun _ h => h.2.2.2.2 | exact fun _ h => ((allD_append _ _).1 h).2)) ?_ | refine IdxE.mk 0 6 _ (hrr _) (by omega) (by omega) ?_ | refine LoadE.mk 0 _ _ _ (hrr _) (by omega) (by omega) (by omega) hcell ?_ | refine CallP.is c5 ?_ | refine CallP.is c4 ?_ | refine CallQ.mk [] _ c6 (fun _ _ => trivial) ?_ | refine Round.mk (i + 1) (by omega) (by omega) (SubE.cons rfl (VEq.refl _) (SubE.cons rfl (VEq.str ?_) (SubE.cons rfl (VEq.int (by omega)) SubE.nil))) Ents.drop
          | fail
        all_goals (rw [hout]; simp [nl, verbR, wAll]; done)
  have hil : i = p.rs.length := by omega
  subst hil
  rw [List.take_length] at *
  generalize fmtR p.rs = FR at *
  repeat' first
    | refine J_seq ?_ | refine J_region Tryz.tyOK ?_ | refine J_block ?_ | refine J_cond ?_ | refine J_ret ?_ | refine J_skip ?_ | refine J_exit ?_ | refine J_scope ?_
    | refine CondP.yes (by omega) ?_ | refine CondP.no (by omega) ?_ | refine CondP.mk (fun h => ?_) (fun h => ?_) | refine EqP.mk rfl ?_ | refine NewP.mk (fun ad => ?_) | refine ArP.exact (by simp only [inR]; omega) ?_ | refine SideP.mk (by first | omega | (dsimp only; omega) | (simp; omega)) ?_
    | fail
  refine J_loop (α := Nat) (fun x => [(1, .c (.p 0 ad 0)), (5, .c (.s (FG ++ FR ++ fmtX (p.xs.take x)))), (12, .c (.i .i64 x))]) (fun x => [.box 0 ad 27 p.cells]) (fun _ => p.facts) 1
    (fun x => x ≤ p.xs.length) (fun x => p.xs.length - x) (InFam.mk 0 (Nat.zero_le _) (SubE.cons rfl (VEq.refl _) (SubE.cons rfl (VEq.str (by simp [fmtX])) (SubE.cons rfl (VEq.refl _) SubE.nil))) (Ents.refl _ _)) (fun i hi => ?_)
  have hol3 := hXl i
  by_cases hlt : i < p.xs.length
  · have hcell : ((xsC p.xs).drop (i * 5 + 0)).take 5 = p.xs[i].cells := by rw [xsC, flat_get (F := Grd.cells) (z := 5) (fun _ => rfl) hlt (by omega)]; rfl
    have hout : fmtX (p.xs.take (i + 1)) = fmtX (p.xs.take i) ++ nl (grdLine p.xs[i]) := flat_snoc (F := fun x => nl (grdLine x)) hlt
    obtain ⟨hq1, hq2, hq3⟩ := hPV.grd (x := p.xs[i]) (List.getElem_mem hlt)
    have hq5 := (isName_len hq1).2
    have hq6 := sectOK_len hq3
    have hq7 := validT_bounds hq2
    generalize fmtX (p.xs.take i) = out at *
    generalize p.xs[i] = r at *
    obtain ⟨sd, gr, sp, nm, sec⟩ := r
    replace hcell : ((xsC p.xs).drop (i * 5 + 0)).take 5 = [.b sd, .s gr, .i .i64 sp, .s nm, .s sec] := hcell
    dsimp only at hq1 hq2 hq3 hq5 hq6 hq7
    have c4 := refFormat_ok sp nm (by omega)
    have hfl := formatT_le sp nm
    have hln : grdLine ⟨sd, gr, sp, nm, sec⟩ = verbX sd ++ gr ++ [32] ++ formatT sp nm ++ sectText sec := rfl
    rw [hln] at hout
    generalize formatT sp nm = ft at *
    by_cases hsec : sec = []
    · cases sd
      all_goals
        repeat' first
          | refine CondP.no (show ¬ ¬ sec = [] from fun hn => hn hsec) ?_ | refine CondP.yes hsec ?_ | refine SideP.mk (by simp only [List.length_append, List.length_cons, List.length_nil]; omega) ?_
          | refine J_seq ?_ | refine J_region Tryz.tyOK ?_ | refine J_block ?_ | refine J_cond ?_ | refine J_ret ?_ | refine J_skip ?_ | refine J_exit ?_ | refine J_scope ?_
          | refine CondP.yes (by omega) ?_ | refine CondP.no (by omega) ?_ | refine CondP.mk (fun h => ?_) (fun h => ?_) | refine EqP.mk rfl ?_ | refine NewP.mk (fun ad => ?_) | refine ArP.exact (by simp only [inR]; omega) ?_ | refine SideP.mk (by first | omega | (dsimp only; omega) | (simp; omega)) ?_
          | refine J_drawS (id := 26) Tryz.tyOK (by kernel_rfl) [0, 0, 3, 0, 8, 24, 63, 127, 0, 256, 1023, 2047, 0, 8191, 16383, 32767] [0, 1, 2, 3, 4, 5, 6, 7, 8, 9, 10, 11, 12, 13, 14, 15] [] [9] true (by kernel_rfl) ?_ | refine J_drawS (id := 36) Tryz.tyOK (by kernel_rfl) [0, 0, 3, 0, 8, 31, 63, 0, 128, 384, 1023, 0, 4095, 8191, 16383] [0, 1, 2, 3, 4, 5, 6, 7, 8, 9, 10, 11, 12, 13, 14] [] [13] true (by kernel_rfl) ?_ | refine EntP.mk (Ents.ofSub (by repeat (first | exact keepC_sub _ _ _ | exact List.Sublist.slnil | refine List.Sublist.cons_cons _ ?_ | refine List.Sublist.cons _ ?_)) (by first | exact fun _ h => h | exact fun _ _ => trivial | exact fun _ h => h.2 | exact fun _ h => h.2.2.2.2 | exact fun _ h => ((allD_append _ _).1 h).2)) ?_ | refine IdxE.mk 0 5 _ (hrx _) (by omega) (by omega) ?_ | refine LoadE.mk 0 _ _ _ (hrx _) (by omega) (by omega) (by omega) hcell ?_ | refine CallQ.mk [] _ c4 (fun _ _ => trivial) ?_ | refine Round.mk (i + 1) (by omega) (by omega) (SubE.cons rfl (VEq.refl _) (SubE.cons rfl (VEq.str ?_) (SubE.cons rfl (VEq.int (by omega)) SubE.nil))) Ents.drop
          | fail
        all_goals (rw [hout]; simp [nl, verbX, sectText, hsec]; done)
    · cases sd
      all_goals
        repeat' first
          | refine CondP.yes hsec ?_ | refine CondP.no hsec ?_ | refine SideP.mk (by simp only [List.length_append, List.length_cons, List.length_nil]; omega) ?_
          | refine J_seq ?_ | refine J_region Tryz.tyOK ?_ | refine J_block ?_ | refine J_cond ?_ | refine J_ret ?_ | refine J_skip ?_ | refine J_exit ?_ | refine J_scope ?_
          | refine CondP.yes (by omega) ?_ | refine CondP.no (by omega) ?_ | refine CondP.mk (fun h => ?_) (fun h => ?_) | refine EqP.mk rfl ?_ | refine NewP.mk (fun ad => ?_) | refine ArP.exact (by simp only [inR]; omega) ?_ | refine SideP.mk (by first | omega | (dsimp only; omega) | (simp; omega)) ?_
          | refine J_drawS (id := 26) Tryz.tyOK (by kernel_rfl) [0, 0, 3, 0, 8, 24, 63, 127, 0, 256, 1023, 2047, 0, 8191, 16383, 32767] [0, 1, 2, 3, 4, 5, 6, 7, 8, 9, 10, 11, 12, 13, 14, 15] [] [9] true (by kernel_rfl) ?_ | refine J_drawS (id := 36) Tryz.tyOK (by kernel_rfl) [0, 0, 3, 0, 8, 31, 63, 0, 128, 384, 1023, 0, 4095, 8191, 16383] [0, 1, 2, 3, 4, 5, 6, 7, 8, 9, 10, 11, 12, 13, 14] [] [13] true (by kernel_rfl) ?_ | refine EntP.mk (Ents.ofSub (by repeat (first | exact keepC_sub _ _ _ | exact List.Sublist.slnil | refine List.Sublist.cons_cons _ ?_ | refine List.Sublist.cons _ ?_)) (by first | exact fun _ h => h | exact fun _ _ => trivial | exact fun _ h => h.2 | exact fun _ h => h.2.2.2.2 | exact fun _ h => ((allD_append _ _).1 h).2)) ?_ | refine IdxE.mk 0 5 _ (hrx _) (by omega) (by omega) ?_ | refine LoadE.mk 0 _ _ _ (hrx _) (by omega) (by omega) (by omega) hcell ?_ | refine CallQ.mk [] _ c4 (fun _ _ => trivial) ?_ | refine Round.mk (i + 1) (by omega) (by omega) (SubE.cons rfl (VEq.refl _) (SubE.cons rfl (VEq.str ?_) (SubE.cons rfl (VEq.int (by omega)) SubE.nil))) Ents.drop
          | fail
        all_goals (rw [hout]; simp [nl, verbX, sectText, hsec]; done)
  have hil : i = p.xs.length := by omega
  subst hil
  rw [List.take_length] at *
  generalize fmtX p.xs = FX at *
  by_cases hbig : 8192 < ((FG ++ FR ++ FX).length : Int)
  · rw [if_pos hbig]
    repeat' first
      | refine J_seq ?_ | refine J_region Tryz.tyOK ?_ | refine J_block ?_ | refine J_cond ?_ | refine J_ret ?_ | refine J_skip ?_ | refine J_exit ?_ | refine J_scope ?_
      | refine CondP.yes (by omega) ?_ | refine CondP.no (by omega) ?_ | refine CondP.mk (fun h => ?_) (fun h => ?_) | refine EqP.mk rfl ?_ | refine NewP.mk (fun ad => ?_) | refine ArP.exact (by simp only [inR]; omega) ?_ | refine SideP.mk (by first | omega | (dsimp only; omega) | (simp; omega)) ?_
      | exact FinE.is rfl
      | fail
  · rw [if_neg hbig]
    repeat' first
      | refine J_seq ?_ | refine J_region Tryz.tyOK ?_ | refine J_block ?_ | refine J_cond ?_ | refine J_ret ?_ | refine J_skip ?_ | refine J_exit ?_ | refine J_scope ?_
      | refine CondP.yes (by omega) ?_ | refine CondP.no (by omega) ?_ | refine CondP.mk (fun h => ?_) (fun h => ?_) | refine EqP.mk rfl ?_ | refine NewP.mk (fun ad => ?_) | refine ArP.exact (by simp only [inR]; omega) ?_ | refine SideP.mk (by first | omega | (dsimp only; omega) | (simp; omega)) ?_
      | exact FinE.is rfl
      | fail

end Go.Proofs
