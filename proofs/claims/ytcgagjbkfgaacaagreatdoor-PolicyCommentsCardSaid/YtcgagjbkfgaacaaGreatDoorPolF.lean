/- This text walks through the texts of policies in the package policy. -/
import Derived.Test.YtcgagjbkfgaacaaGreatDoorPolP
import Derived.Test.YtcgagjbkfgaacaaGreatDoorBldr
import Derived.Test.YtcgagjbkfgaacaaGreatDoorPolE
set_option linter.all false

namespace Go.X
/-- A contract with more memory that stays, ahead of its own. -/
theorem FnS.frameL {P : Program} {f : FuncId} {args : List V} {L0 : List Chunk} {D0 : List Fact} {post : V → List Chunk → List Fact → Prop} (R : List Chunk) (h : FnS P f args L0 D0 post) : FnS P f args (R ++ L0) D0 (fun v L D => ∃ L', L = R ++ L' ∧ post v L' D) := by
  refine ⟨h.en, fun w m hh => ?_⟩
  have hs : SatW ⟨w, R ++ L0, m⟩ w (R ++ L0) D0 := ⟨m, hh, Fr.refl _ _ _⟩
  have hc : CallP P f args (R ++ L0) D0 (fun v L D => ∃ L' D', post v L' D' ∧ L = L' ++ R ∧ D = D' ++ D0) := CallP.mk L0 R D0 post h List.perm_append_comm (fun _ h => h) fun v L' D' hp => ⟨L', D', hp, rfl, rfl⟩
  refine (callP_sound hc hs).2.mono ?_
  rintro e w' ⟨v, L1, D1, he, ⟨L', D', hp, rfl, rfl⟩, hs'⟩
  obtain ⟨m', h1, h2⟩ := ((Ents.perm (D := D' ++ D0) (List.perm_append_comm (l₁ := L') (l₂ := R))).trans (Ents.facts fun m h => ((allD_append _ _).1 h).1)) _ _ hs'
  exact ⟨v, R ++ L', D', m', he, ⟨L', rfl, hp⟩, h1, h2⟩
end Go.X

namespace Go.Proofs
open Go Go.X
set_option maxRecDepth 100000
set_option maxHeartbeats 4000000

theorem rightsF_ok : FnS Tryz.prog 38 [] [] [] (fun v L D => ∃ a, v = .c (.sl a 5 5) ∧ L = [] ∧ D = [slFact 0 1 a 5 (rightsL.map C.s)]) :=
  rights_ok.entsP fun v L1 D1 ⟨a, h1, h2, h3⟩ => ⟨[], [slFact 0 1 a 5 (rightsL.map C.s)], by subst h2 h3; exact Ents.toFact, a, h1, rfl, rfl⟩
theorem spacesF_ok : FnS Tryz.prog 71 [] [] [] (fun v L D => ∃ a, v = .c (.sl a 6 6) ∧ L = [] ∧ D = [slFact 0 1 a 6 (spacesL.map C.s)]) :=
  polSpaces_ok.entsP fun v L1 D1 ⟨a, h1, h2, h3⟩ => ⟨[], [slFact 0 1 a 6 (spacesL.map C.s)], by subst h2 h3; exact Ents.toFact, a, h1, rfl, rfl⟩

theorem scopeOK_cases {k sp : Int} {nm : Bs} (h : scopeOK k sp nm = true) : (k = 1 ∧ sp = 0 ∧ nm = []) ∨ (k = 2 ∧ 0 ≤ sp ∧ sp < 6 ∧ nm = []) ∨ (k = 3 ∧ validT sp nm = true) := by
  unfold scopeOK at h
  split at h
  · rename_i hk
    rw [decide_eq_true_eq] at h
    exact .inl ⟨hk, h⟩
  · split at h
    · rename_i hk
      simp only [Bool.and_eq_true, decide_eq_true_eq] at h
      exact .inr (.inl ⟨hk, h.1.1, h.1.2, h.2⟩)
    · split at h
      · rename_i hk
        exact .inr (.inr ⟨hk, h⟩)
      · cases h

theorem polScopeText_ok (k sp : Int) (nm : Bs) (h : scopeOK k sp nm = true) (hl : nm.length ≤ 1000000) : FnS Tryz.prog 39 [.agg [.i .i64 k, .i .i64 sp, .s nm]] [] [gInt 0] (Is (.c (.s (scopeText k sp nm)))) := by
  have c1 := format_ok sp nm hl
  unfold scopeText
  rcases scopeOK_cases h with ⟨rfl, _⟩ | ⟨rfl, h0, h1, _⟩ | ⟨rfl, _⟩
  · refine fn_of_J Tryz.tyOK 0 Tryz.func39 (by kernel_rfl) (c := Tryz.f39.body.getD .skip) (by kernel_rfl) Tryz.ntmps39 (rs := Tryz.f39.results.toList) rfl (by simp) (fun G => ?_)
    repeat' first
      | refine J_seq ?_ | refine J_region Tryz.tyOK ?_ | refine J_block ?_ | refine J_cond ?_ | refine J_ret ?_ | refine J_skip ?_ | refine J_exit ?_ | refine J_scope ?_
      | refine CondP.yes (by omega) ?_ | refine CondP.no (by omega) ?_ | refine CondP.mk (fun h => ?_) (fun h => ?_) | refine EqP.mk rfl ?_ | refine NewP.mk (fun ad => ?_) | refine ArP.exact (by simp only [inR]; omega) ?_ | refine SideP.mk (by first | omega | (dsimp only; omega) | (simp; omega)) ?_
      | exact FinE.str rfl
      | fail
  · have hc : ((spacesL.map C.s).drop (sp.toNat * 1 + 0)).take 1 = [C.s (spacesL.getD sp.toNat [])] := by
      have hlt : sp.toNat < spacesL.length := by show sp.toNat < 6; omega
      rw [map_take1 hlt]; simp [hlt]
    have hrd : ∀ (a : Option Addr) (D : List Fact) L, Reads L (slFact 0 1 a 6 (spacesL.map C.s) :: D) 0 1 a 6 (spacesL.map C.s) := fun a D L => .inr fun m h => h.1
    refine fn_of_J Tryz.tyOK 0 Tryz.func39 (by kernel_rfl) (c := Tryz.f39.body.getD .skip) (by kernel_rfl) Tryz.ntmps39 (rs := Tryz.f39.results.toList) rfl (by simp) (fun G => ?_)
    repeat' first
      | refine J_seq ?_ | refine J_region Tryz.tyOK ?_ | refine J_block ?_ | refine J_cond ?_ | refine J_ret ?_ | refine J_skip ?_ | refine J_exit ?_ | refine J_scope ?_
      | refine CondP.yes (by omega) ?_ | refine CondP.no (by omega) ?_ | refine CondP.mk (fun h => ?_) (fun h => ?_) | refine EqP.mk rfl ?_ | refine NewP.mk (fun ad => ?_) | refine ArP.exact (by simp only [inR]; omega) ?_ | refine SideP.mk (by first | omega | (dsimp only; omega) | (simp; omega)) ?_
      | refine J_drawS (id := 5) Tryz.tyOK (by kernel_rfl) [0, 0, 2, 6, 15, 31, 63] [1, 2, 3, 0, 4, 5, 6] [0, 4, 5] [1, 13] true (by kernel_rfl) ?_ | refine EntP.mk (Ents.ofSub (by repeat (first | exact List.Sublist.slnil | refine List.Sublist.cons_cons _ ?_ | refine List.Sublist.cons _ ?_)) (by first | exact fun _ h => h | exact fun _ _ => trivial | exact fun _ h => h.2 | exact fun _ h => h.2.2.2.2 | exact fun _ h => ((allD_append _ _).1 h).2)) ?_ | refine CallP.mk [] _ [] _ spacesF_ok (List.Perm.refl _) (fun _ _ => trivial) (fun v L' D' hp => ?_); obtain ⟨b, rfl, rfl, rfl⟩ := hp | refine IdxE.mk 0 1 _ (hrd _ _ _) (by omega) (by omega) ?_ | refine LoadE.mk 0 _ _ _ (hrd _ _ _) (by omega) (by omega) (by omega) hc ?_ | refine FinE.str ?_
      | fail
    all_goals (try simp only [Nat.mul_one, Nat.add_zero]); rfl
  · refine fn_of_J Tryz.tyOK 0 Tryz.func39 (by kernel_rfl) (c := Tryz.f39.body.getD .skip) (by kernel_rfl) Tryz.ntmps39 (rs := Tryz.f39.results.toList) rfl (by simp) (fun G => ?_)
    repeat' first
      | refine J_seq ?_ | refine J_region Tryz.tyOK ?_ | refine J_block ?_ | refine J_cond ?_ | refine J_ret ?_ | refine J_skip ?_ | refine J_exit ?_ | refine J_scope ?_
      | refine CondP.yes (by omega) ?_ | refine CondP.no (by omega) ?_ | refine CondP.mk (fun h => ?_) (fun h => ?_) | refine EqP.mk rfl ?_ | refine NewP.mk (fun ad => ?_) | refine ArP.exact (by simp only [inR]; omega) ?_ | refine SideP.mk (by first | omega | (dsimp only; omega) | (simp; omega)) ?_
      | refine CallP.is c1 ?_ | exact FinE.str rfl
      | fail

theorem ws (R : List Chunk) (ad : Nat) (a : Option Addr) (c : Nat) (l s : Bs) (hs : s ≠ []) (hl : l.length + s.length ≤ 140737488355328) :
    FnS Tryz.prog 37 [.c (.p 1 ad 0), .c (.s s)] (R ++ bl 1 ad a c l) [] (fun v L D => ∃ a' c', v = .t2 (.c (.i .i64 s.length)) (.c (.raw .nilIface)) ∧ L = R ++ bl 1 ad a' c' (l ++ s) ∧ D = []) :=
  ((writeString_ok 1 ad a c l s hs hl).frameL R).mono fun v L D ⟨L', h1, a', c', h2, h3, h4⟩ => ⟨a', c', h2, by rw [h1, h3], h4⟩

theorem gpOf_take {gs : List GrpM} {i : Nat} (h : i < gs.length) : fmtG ((gpOf gs).take (i + 1)) = fmtG ((gpOf gs).take i) ++ nl (grpLine (gs[i].name, gs[i].mem)) := by
  have hl : i < (gpOf gs).length := by simpa [gpOf] using h
  unfold fmtG
  rw [flat_snoc hl]
  simp [gpOf]

abbrev outPost (r : Bs × Int) : V → List Chunk → List Fact → Prop := Is (.t2 (.c (.s r.1)) (.c (.i .i64 r.2)))

theorem polFormat_ok (p : PolM) (h : PolOK p) : FnS Tryz.prog 20 [.agg p.cells] [] (gInt 0 :: p.facts) (outPost (polFormatT p.p3)) := by
  have c1 := polValidate_ok p h
  have hpv : validateT p.p3.1 p.p3.2.1 p.p3.2.2 = validateT (gpOf p.gs) p.rs p.xs := rfl
  unfold polFormatT
  rw [hpv]
  by_cases hv : validateT (gpOf p.gs) p.rs p.xs ≠ 0
  · rw [if_pos hv]
    generalize validateT (gpOf p.gs) p.rs p.xs = e at *
    refine fn_of_J Tryz.tyOK 0 Tryz.func20 (by kernel_rfl) (c := Tryz.f20.body.getD .skip) (by kernel_rfl) Tryz.ntmps20 (rs := Tryz.f20.results.toList) rfl (by simp) (fun G => ?_)
    repeat' first
      | refine J_seq ?_ | refine J_region Tryz.tyOK ?_ | refine J_block ?_ | refine J_cond ?_ | refine J_ret ?_ | refine J_skip ?_ | refine J_exit ?_ | refine J_scope ?_
      | refine CondP.yes (by omega) ?_ | refine CondP.no (by omega) ?_ | refine CondP.mk (fun h => ?_) (fun h => ?_) | refine EqP.mk rfl ?_ | refine NewP.mk (fun ad => ?_) | refine ArP.exact (by simp only [inR]; omega) ?_ | refine SideP.mk (by first | omega | (dsimp only; omega) | (simp; omega)) ?_
      | refine CallP.is c1 ?_ | exact FinE.is rfl
      | fail
  rw [if_neg hv]
  replace hv : validateT (gpOf p.gs) p.rs p.xs = 0 := Decidable.not_not.1 hv
  rw [hv] at c1
  have hPV : PV p.p3 := (valid_iff p.p3).1 hv
  have hgl : p.gs.length ≤ 24 := by have := hPV.gl; simpa [PolM.p3, gpOf] using this
  have hrl : p.rs.length ≤ 64 := hPV.rl
  have hxl : p.xs.length ≤ 64 := hPV.xl
  have hG : ∀ i, (fmtG ((gpOf p.gs).take i)).length ≤ 24 * 1001 := fun i => by
    have h1 := flat_le (F := fun g => nl (grpLine g)) (B := 1001) (l := (gpOf p.gs).take i) fun g hg => by
      have := grpLine_le hPV (List.mem_of_mem_take hg)
      simp [nl]; omega
    have h2 : ((gpOf p.gs).take i).length ≤ 24 := by simp [gpOf]; omega
    exact Nat.le_trans h1 (Nat.mul_le_mul_right _ h2)
  have hRl : ∀ i, (fmtR (p.rs.take i)).length ≤ 64 * 201 := fun i => by
    have h1 := flat_le (F := fun r => nl (ruleLine r)) (B := 201) (l := p.rs.take i) fun r hr => by
      have := ruleLine_le (hPV.rul (List.mem_of_mem_take hr)).2.2.1
      simp [nl]; omega
    have h2 : (p.rs.take i).length ≤ 64 := by simp; omega
    exact Nat.le_trans h1 (Nat.mul_le_mul_right _ h2)
  have hXl : ∀ i, (fmtX (p.xs.take i)).length ≤ 64 * 301 := fun i => by
    have h1 := flat_le (F := fun x => nl (grdLine x)) (B := 301) (l := p.xs.take i) fun x hx => by
      have h3 := hPV.grd (List.mem_of_mem_take hx)
      have := grdLine_le (x := x) h3.1 (sectOK_len h3.2.2)
      simp [nl]; omega
    have h2 : (p.xs.take i).length ≤ 64 := by simp; omega
    exact Nat.le_trans h1 (Nat.mul_le_mul_right _ h2)
  have hrg : ∀ L, Reads L (gInt 0 :: p.facts) 0 2 p.ga p.gs.length (gsC p.gs) := fun L => .inr fun m h => h.2.1
  have hrr : ∀ L, Reads L (gInt 0 :: p.facts) 0 6 p.ra p.rs.length (rsC p.rs) := fun L => .inr fun m h => h.2.2.2.1
  have hrx : ∀ L, Reads L (gInt 0 :: p.facts) 0 5 p.xa p.xs.length (xsC p.xs) := fun L => .inr fun m h => h.2.2.2.2.1
  have hqg : ∀ g ∈ p.gs, g.name.length ≤ 30 ∧ g.mem.length ≤ 24 ∧ ∀ m ∈ g.mem, m.length ≤ 31 := fun g hg => by
    obtain ⟨h1, h2, h3⟩ := hPV.grp (g := (g.name, g.mem)) (List.mem_map_of_mem hg)
    exact ⟨(isName_len h1).2, h2, fun m hm => mem_le (h3 m hm)⟩
  refine fn_of_J Tryz.tyOK 0 Tryz.func20 (by kernel_rfl) (c := Tryz.f20.body.getD .skip) (by kernel_rfl) Tryz.ntmps20 (rs := Tryz.f20.results.toList) rfl (by simp) (fun G => ?_)
  repeat' first
    | refine J_seq ?_ | refine J_region Tryz.tyOK ?_ | refine J_block ?_ | refine J_cond ?_ | refine J_ret ?_ | refine J_skip ?_ | refine J_exit ?_ | refine J_scope ?_
    | refine CondP.yes (by omega) ?_ | refine CondP.no (by omega) ?_ | refine CondP.mk (fun h => ?_) (fun h => ?_) | refine EqP.mk rfl ?_ | refine NewP.mk (fun ad => ?_) | refine ArP.exact (by simp only [inR]; omega) ?_ | refine SideP.mk (by first | omega | (dsimp only; omega) | (simp; omega)) ?_
    | refine CallP.is c1 ?_
    | fail
  rename_i ad0
  revert ad
  intro adb
  refine J_loop (α := Nat × Option Addr × Nat) (fun x => [(1, .c (.p 0 ad0 0)), (5, .c (.p 1 adb 0)), (22, .c (.sl p.ga p.gs.length p.gc)), (23, .c (.i .i64 p.gs.length)), (24, .c (.i .i64 x.1))]) (fun x => .box 0 ad0 27 p.cells :: bl 1 adb x.2.1 x.2.2 (fmtG ((gpOf p.gs).take x.1))) (fun _ => gInt 0 :: p.facts) 2
    (fun x => x.1 ≤ p.gs.length) (fun x => p.gs.length - x.1) (InFam.mk (0, none, 0) (Nat.zero_le _) (by repeat' first | exact SubE.nil | refine SubE.cons rfl ?_ ?_ | exact VEq.refl _ | refine VEq.int (by omega) | refine VEq.sl rfl (by first | rfl | omega | (rw [List.length_append]; rfl) | (simp; omega)) rfl) (Ents.perm (List.Perm.swap _ _ _))) (fun x hi => ?_)
  obtain ⟨i, a, c⟩ := x
  dsimp only at hi ⊢
  by_cases hlt : i < p.gs.length
  · have hcell : ((gsC p.gs).drop (i * 2 + 0)).take 2 = p.gs[i].cells := by rw [gsC, flat_get (F := GrpM.cells) (z := 2) (fun _ => rfl) hlt (by omega)]; rfl
    have hout := gpOf_take hlt
    have hgb := hqg _ (List.getElem_mem hlt)
    have hrm : ∀ L, Reads L (gInt 0 :: p.facts) 0 1 p.gs[i].a p.gs[i].mem.length (p.gs[i].mem.map C.s) := fun L => .inr fun m h => h.2.2.1 _ (List.getElem_mem hlt)
    have hol := hG i
    generalize fmtG ((gpOf p.gs).take i) = out at *
    generalize p.gs[i] = g at *
    obtain ⟨nm, ga, gc, mem⟩ := g
    dsimp only at hout hgb hrm
    have c2 := fun b a c => ws [.box 2 b 43 [.s nm, .sl ga mem.length gc], .box 0 ad0 27 p.cells] adb a c out ([103, 114, 111, 117, 112, 32] ++ nm) (by simp) (by simp only [List.length_append, List.length_cons, List.length_nil]; omega)
    have hml : ∀ k, ((mem.take k).flatMap memText).length ≤ 24 * 32 := fun k => by
      have h1 := flat_le (F := memText) (B := 32) (l := mem.take k) fun m hm => by
        have := hgb.2.2 m (List.mem_of_mem_take hm)
        simp [memText]; omega
      have h2 : (mem.take k).length ≤ 24 := by simp; omega
      exact Nat.le_trans h1 (Nat.mul_le_mul_right _ h2)
    repeat' first
      | refine J_seq ?_ | refine J_region Tryz.tyOK ?_ | refine J_block ?_ | refine J_cond ?_ | refine J_ret ?_ | refine J_skip ?_ | refine J_exit ?_ | refine J_scope ?_
      | refine CondP.yes (by omega) ?_ | refine CondP.no (by omega) ?_ | refine CondP.mk (fun h => ?_) (fun h => ?_) | refine EqP.mk rfl ?_ | refine NewP.mk (fun ad => ?_) | refine ArP.exact (by simp only [inR]; omega) ?_ | refine SideP.mk (by first | omega | (dsimp only; omega) | (simp; omega)) ?_
      | refine IdxE.mk 0 2 _ (hrg _) (by omega) (by omega) ?_ | refine LoadE.mk 0 _ _ _ (hrg _) (by omega) (by omega) (by omega) hcell ?_ | refine CallP.mk _ [] [] _ (c2 _ _ _) (by first | exact List.Perm.refl _ | (rw [List.append_nil]; exact List.Perm.refl _)) (fun _ _ => trivial) (fun v L' D' hp => ?_); obtain ⟨a1, c1, rfl, rfl, rfl⟩ := hp
      | fail
    refine J_loop (α := Nat × Option Addr × Nat) (fun y => [(1, .c (.p 0 ad0 0)), (5, .c (.p 1 adb 0)), (22, .c (.sl p.ga p.gs.length p.gc)), (23, .c (.i .i64 p.gs.length)), (24, .c (.i .i64 i)), (33, .c (.sl ga mem.length gc)), (34, .c (.i .i64 mem.length)), (35, .c (.i .i64 y.1))]) (fun y => .box 0 ad0 27 p.cells :: bl 1 adb y.2.1 y.2.2 (out ++ ([103, 114, 111, 117, 112, 32] ++ nm) ++ (mem.take y.1).flatMap memText)) (fun _ => gInt 0 :: p.facts) 2
      (fun y => y.1 ≤ mem.length) (fun y => mem.length - y.1) (InFam.mk (0, a1, c1) (Nat.zero_le _) (by repeat' first | exact SubE.nil | refine SubE.cons rfl ?_ ?_ | exact VEq.refl _ | refine VEq.int (by omega) | refine VEq.sl rfl (by first | rfl | omega | (rw [List.length_append]; rfl) | (simp; omega)) rfl) (Ents.drop.trans (Ents.of (by simp)))) (fun y hk => ?_)
    obtain ⟨k, a2, c2'⟩ := y
    dsimp only at hk ⊢
    have hol2 := hml k
    by_cases hlt2 : k < mem.length
    · have hcm := map_take1 (f := C.s) hlt2
      have hsn := flat_snoc (F := memText) hlt2
      have hmm := hgb.2.2 _ (List.getElem_mem hlt2)
      generalize (mem.take k).flatMap memText = mo at *
      generalize mem[k] = mm at *
      have c3 := ws [.box 0 ad0 27 p.cells] adb a2 c2' (out ++ ([103, 114, 111, 117, 112, 32] ++ nm) ++ mo) ([32] ++ mm) (by simp) (by simp only [List.length_append, List.length_cons, List.length_nil]; omega)
      repeat' first
        | refine SideP.mk (by simp only [List.length_append, List.length_cons, List.length_nil]; omega) ?_
        | refine J_seq ?_ | refine J_region Tryz.tyOK ?_ | refine J_block ?_ | refine J_cond ?_ | refine J_ret ?_ | refine J_skip ?_ | refine J_exit ?_ | refine J_scope ?_
        | refine CondP.yes (by omega) ?_ | refine CondP.no (by omega) ?_ | refine CondP.mk (fun h => ?_) (fun h => ?_) | refine EqP.mk rfl ?_ | refine NewP.mk (fun ad => ?_) | refine ArP.exact (by simp only [inR]; omega) ?_ | refine SideP.mk (by first | omega | (dsimp only; omega) | (simp; omega)) ?_
        | refine IdxE.mk 0 1 _ (hrm _) (by omega) (by omega) ?_ | refine LoadE.mk 0 _ _ _ (hrm _) (by omega) (by omega) (by omega) hcm ?_ | refine CallP.mk _ [] [] _ c3 (by first | exact List.Perm.refl _ | (rw [List.append_nil]; exact List.Perm.refl _)) (fun _ _ => trivial) (fun v L' D' hp => ?_); obtain ⟨a3, c3', rfl, rfl, rfl⟩ := hp | refine Round.mk (k + 1, a3, c3') (by dsimp only; omega) (by dsimp only; omega) (by repeat' first | exact SubE.nil | refine SubE.cons rfl ?_ ?_ | exact VEq.refl _ | refine VEq.int (by omega) | refine VEq.sl rfl (by first | rfl | omega | (rw [List.length_append]; rfl) | (simp; omega)) rfl) (Ents.of (by dsimp only; rw [hsn]; simp [memText]))
        | fail
    · have hkl : k = mem.length := by omega
      subst hkl
      rw [List.take_length] at *
      generalize hmo : mem.flatMap memText = mo at *
      have c3 := ws [.box 0 ad0 27 p.cells] adb a2 c2' (out ++ ([103, 114, 111, 117, 112, 32] ++ nm) ++ mo) [10] (by simp) (by simp only [List.length_append, List.length_cons, List.length_nil]; omega)
      repeat' first
        | refine J_seq ?_ | refine J_region Tryz.tyOK ?_ | refine J_block ?_ | refine J_cond ?_ | refine J_ret ?_ | refine J_skip ?_ | refine J_exit ?_ | refine J_scope ?_
        | refine CondP.yes (by omega) ?_ | refine CondP.no (by omega) ?_ | refine CondP.mk (fun h => ?_) (fun h => ?_) | refine EqP.mk rfl ?_ | refine NewP.mk (fun ad => ?_) | refine ArP.exact (by simp only [inR]; omega) ?_ | refine SideP.mk (by first | omega | (dsimp only; omega) | (simp; omega)) ?_
        | refine CallP.mk _ [] [] _ c3 (by first | exact List.Perm.refl _ | (rw [List.append_nil]; exact List.Perm.refl _)) (fun _ _ => trivial) (fun v L' D' hp => ?_); obtain ⟨a3, c3', rfl, rfl, rfl⟩ := hp | refine Round.mk (i + 1, a3, c3') (by dsimp only; omega) (by dsimp only; omega) (by repeat' first | exact SubE.nil | refine SubE.cons rfl ?_ ?_ | exact VEq.refl _ | refine VEq.int (by omega) | refine VEq.sl rfl (by first | rfl | omega | (rw [List.length_append]; rfl) | (simp; omega)) rfl) (Ents.of ?_)
        | fail
      all_goals (dsimp only; rw [hout]; simp [nl, grpLine, hmo])
  · have hil : i = p.gs.length := by omega
    subst hil
    have hfull : fmtG ((gpOf p.gs).take p.gs.length) = fmtG p.p3.1 := by rw [List.take_of_length_le (by simp [gpOf])]; rfl
    have hol := hG p.gs.length
    rw [hfull] at *
    have hFT : fmtT p.p3 = fmtG p.p3.1 ++ fmtR p.rs ++ fmtX p.xs := rfl
    rw [hFT]
    generalize fmtG p.p3.1 = FG at *
    repeat' first
      | refine J_seq ?_ | refine J_region Tryz.tyOK ?_ | refine J_block ?_ | refine J_cond ?_ | refine J_ret ?_ | refine J_skip ?_ | refine J_exit ?_ | refine J_scope ?_
      | refine CondP.yes (by omega) ?_ | refine CondP.no (by omega) ?_ | refine CondP.mk (fun h => ?_) (fun h => ?_) | refine EqP.mk rfl ?_ | refine NewP.mk (fun ad => ?_) | refine ArP.exact (by simp only [inR]; omega) ?_ | refine SideP.mk (by first | omega | (dsimp only; omega) | (simp; omega)) ?_
      | fail
    refine J_loop (α := Nat × Option Addr × Nat) (fun x => [(1, .c (.p 0 ad0 0)), (5, .c (.p 1 adb 0)), (46, .c (.sl p.ra p.rs.length p.rc)), (47, .c (.i .i64 p.rs.length)), (48, .c (.i .i64 x.1))]) (fun x => .box 0 ad0 27 p.cells :: bl 1 adb x.2.1 x.2.2 (FG ++ fmtR (p.rs.take x.1))) (fun _ => gInt 0 :: p.facts) 2
      (fun x => x.1 ≤ p.rs.length) (fun x => p.rs.length - x.1) (InFam.mk (0, a, c) (Nat.zero_le _) (by repeat' first | exact SubE.nil | refine SubE.cons rfl ?_ ?_ | exact VEq.refl _ | refine VEq.int (by omega) | refine VEq.sl rfl (by first | rfl | omega | (rw [List.length_append]; rfl) | (simp; omega)) rfl) (Ents.of (by simp [fmtR]))) (fun x hi => ?_)
    obtain ⟨i, a, c⟩ := x
    dsimp only at hi ⊢
    have hol2 := hRl i
    by_cases hlt : i < p.rs.length
    · have hcell : ((rsC p.rs).drop (i * 6 + 0)).take 6 = p.rs[i].cells := by rw [rsC, flat_get (F := Rul.cells) (z := 6) (fun _ => rfl) hlt (by omega)]; rfl
      have hout : fmtR (p.rs.take (i + 1)) = fmtR (p.rs.take i) ++ nl (ruleLine p.rs[i]) := flat_snoc (F := fun r => nl (ruleLine r)) hlt
      obtain ⟨hq1, hq2, hq3, hq4⟩ := hPV.rul (r := p.rs[i]) (List.getElem_mem hlt)
      have hq5 := (isName_len hq3).2
      have hq6 := h.rb _ (List.getElem_mem hlt)
      generalize fmtR (p.rs.take i) = out at *
      generalize p.rs[i] = r at *
      obtain ⟨al, ri, gr, k, sp, nm⟩ := r
      replace hcell : ((rsC p.rs).drop (i * 6 + 0)).take 6 = [.b al, .i .i64 ri, .s gr, .i .i64 k, .i .i64 sp, .s nm] := hcell
      dsimp only at hq1 hq2 hq3 hq4 hq5 hq6
      have hnl : nm.length ≤ 1000000 := by
        rcases scopeOK_cases hq4 with ⟨_, _, rfl⟩ | ⟨_, _, _, rfl⟩ | ⟨_, hv⟩
        · simp
        · simp
        · have := validT_bounds hv; omega
      have c4 := polScopeText_ok k sp nm hq4 hnl
      have hstl := scopeText_le k sp nm
      have hrw := rights_le (ri - 1).toNat
      have hcr : ((rightsL.map C.s).drop ((ri - 1).toNat * 1 + 0)).take 1 = [C.s (rightsL.getD (ri - 1).toNat [])] := by
        have hlt5 : (ri - 1).toNat < rightsL.length := by show (ri - 1).toNat < 5; omega
        rw [map_take1 hlt5, List.getD_eq_getElem?_getD, List.getElem?_eq_getElem hlt5]; rfl
      have hln : ruleLine ⟨al, ri, gr, k, sp, nm⟩ = verbR al ++ rightsL.getD (ri - 1).toNat [] ++ [32] ++ gr ++ [32] ++ scopeText k sp nm := rfl
      rw [hln] at hout
      generalize scopeText k sp nm = st at *
      generalize rightsL.getD (ri - 1).toNat [] = rw at *
      have hrd5 : ∀ (a : Option Addr) (D : List Fact) L, Reads L (slFact 0 1 a 5 (rightsL.map C.s) :: D) 0 1 a 5 (rightsL.map C.s) := fun a D L => .inr fun m h => h.1
      cases al
      all_goals
        have c5 := fun b cs s (hs : s ≠ []) hl => ws [.box 2 b 50 cs, .box 0 ad0 27 p.cells] adb a c (FG ++ out) s hs hl
        repeat' first
          | refine SideP.mk (by simp only [List.length_append, List.length_cons, List.length_nil]; omega) ?_
          | refine J_seq ?_ | refine J_region Tryz.tyOK ?_ | refine J_block ?_ | refine J_cond ?_ | refine J_ret ?_ | refine J_skip ?_ | refine J_exit ?_ | refine J_scope ?_
          | refine CondP.yes (by omega) ?_ | refine CondP.no (by omega) ?_ | refine CondP.mk (fun h => ?_) (fun h => ?_) | refine EqP.mk rfl ?_ | refine NewP.mk (fun ad => ?_) | refine ArP.exact (by simp only [inR]; omega) ?_ | refine SideP.mk (by first | omega | (dsimp only; omega) | (simp; omega)) ?_
          | refine J_drawZ (id := 22) Tryz.tyOK (by kernel_rfl) [0, 0, 0, 4, 12, 30, 62, 127, 255, 0, 512, 2047, 4095, 0, 8192, 24578, 65535, 131071, 262143] [0, 2, 3, 4, 9, 10, 13, 14, 1, 15, 5, 6, 7, 8, 11, 12, 16, 17, 18] [1, 5, 6, 18] [11, 59] 18 true (by kernel_rfl) ?_ | refine J_drawZ (id := 30) Tryz.tyOK (by kernel_rfl) [0, 0, 2, 7, 15, 0, 32, 96, 255, 511] [0, 1, 2, 3, 4, 5, 6, 7, 8, 9] [9] [14] 9 true (by kernel_rfl) ?_ | refine EntP.mk (Ents.ofSub (by repeat (first | exact keepC_sub _ _ _ | exact List.Sublist.slnil | refine List.Sublist.cons_cons _ ?_ | refine List.Sublist.cons _ ?_)) (by first | exact fun _ h => h | exact fun _ _ => trivial | exact fun _ h => h.2 | exact fun _ h => h.2.2.2.2 | exact fun _ h => ((allD_append _ _).1 h).2)) ?_ | refine IdxE.mk 0 6 _ (hrr _) (by omega) (by omega) ?_ | refine LoadE.mk 0 _ _ _ (hrr _) (by omega) (by omega) (by omega) hcell ?_ | refine IdxE.mk 0 1 _ (hrd5 _ _ _) (by omega) (by omega) ?_ | refine LoadE.mk 0 _ _ _ (hrd5 _ _ _) (by omega) (by omega) (by omega) hcr ?_ | refine CallP.mk [] _ [] _ rightsF_ok (List.Perm.refl _) (fun _ _ => trivial) (fun v L' D' hp => ?_); obtain ⟨b, rfl, rfl, rfl⟩ := hp | refine CallQ.mk [gInt 0] _ c4 (fun _ h => ⟨h.1, trivial⟩) ?_ | refine CallP.mk _ [] [] _ (c5 _ _ _ (by simp) (by simp only [List.length_append, List.length_cons, List.length_nil]; omega)) (by first | exact List.Perm.refl _ | (rw [List.append_nil]; exact List.Perm.refl _)) (fun _ _ => trivial) (fun v L' D' hp => ?_); obtain ⟨a3, c3', rfl, rfl, rfl⟩ := hp | refine Round.mk (i + 1, a3, c3') (by dsimp only; omega) (by dsimp only; omega) (by repeat' first | exact SubE.nil | refine SubE.cons rfl ?_ ?_ | exact VEq.refl _ | refine VEq.int (by omega) | refine VEq.sl rfl (by first | rfl | omega | (rw [List.length_append]; rfl) | (simp; omega)) rfl) (Ents.drop.trans ((Ents.of ?_).trans (Ents.facts fun m h => h.2)))
          | fail
        all_goals (dsimp only; rw [hout]; simp [nl, verbR]; done)
    · have hil : i = p.rs.length := by omega
      subst hil
      rw [List.take_length] at *
      generalize fmtR p.rs = FR at *
      repeat' first
        | refine J_seq ?_ | refine J_region Tryz.tyOK ?_ | refine J_block ?_ | refine J_cond ?_ | refine J_ret ?_ | refine J_skip ?_ | refine J_exit ?_ | refine J_scope ?_
        | refine CondP.yes (by omega) ?_ | refine CondP.no (by omega) ?_ | refine CondP.mk (fun h => ?_) (fun h => ?_) | refine EqP.mk rfl ?_ | refine NewP.mk (fun ad => ?_) | refine ArP.exact (by simp only [inR]; omega) ?_ | refine SideP.mk (by first | omega | (dsimp only; omega) | (simp; omega)) ?_
        | fail
      refine J_loop (α := Nat × Option Addr × Nat) (fun x => [(5, .c (.p 1 adb 0)), (75, .c (.sl p.xa p.xs.length p.xc)), (76, .c (.i .i64 p.xs.length)), (77, .c (.i .i64 x.1))]) (fun x => bl 1 adb x.2.1 x.2.2 (FG ++ FR ++ fmtX (p.xs.take x.1))) (fun _ => gInt 0 :: p.facts) 2
        (fun x => x.1 ≤ p.xs.length) (fun x => p.xs.length - x.1) (InFam.mk (0, a, c) (Nat.zero_le _) (by repeat' first | exact SubE.nil | refine SubE.cons rfl ?_ ?_ | exact VEq.refl _ | refine VEq.int (by omega) | refine VEq.sl rfl (by first | rfl | omega | (rw [List.length_append]; rfl) | (simp; omega)) rfl) (Ents.drop.trans (Ents.of (by simp [fmtX])))) (fun x hi => ?_)
      obtain ⟨i, a, c⟩ := x
      dsimp only at hi ⊢
      have hol3 := hXl i
      by_cases hlt : i < p.xs.length
      · have hcell : ((xsC p.xs).drop (i * 5 + 0)).take 5 = p.xs[i].cells := by rw [xsC, flat_get (F := Grd.cells) (z := 5) (fun _ => rfl) hlt (by omega)]; rfl
        have hout : fmtX (p.xs.take (i + 1)) = fmtX (p.xs.take i) ++ nl (grdLine p.xs[i]) := flat_snoc (F := fun x => nl (grdLine x)) hlt
        obtain ⟨hq1, hq2, hq3⟩ := hPV.grd (x := p.xs[i]) (List.getElem_mem hlt)
        have hq5 := (isName_len hq1).2
        have hq6 := sectOK_len hq3
        have hq7 := validT_bounds hq2
        generalize fmtX (p.xs.take i) = out at *
        generalize p.xs[i] = r at *
        obtain ⟨sd, gr, sp, nm, sec⟩ := r
        replace hcell : ((xsC p.xs).drop (i * 5 + 0)).take 5 = [.b sd, .s gr, .i .i64 sp, .s nm, .s sec] := hcell
        dsimp only at hq1 hq2 hq3 hq5 hq6 hq7
        have c4 := format_ok sp nm (by omega)
        have hfl := formatT_le sp nm
        have hln : grdLine ⟨sd, gr, sp, nm, sec⟩ = verbX sd ++ gr ++ [32] ++ formatT sp nm ++ sectText sec := rfl
        rw [hln] at hout
        generalize formatT sp nm = ft at *
        by_cases hsec : sec = []
        · cases sd
          · skip
            have c5a := fun b cs => ws [.box 2 b 53 cs] adb a c (FG ++ FR ++ out) ([103, 117, 97, 114, 100, 32] ++ gr ++ [32] ++ ft) (by simp) (by simp only [List.length_append, List.length_cons, List.length_nil]; omega)
            have c5c := fun b cs a c => ws [.box 2 b 53 cs] adb a c (FG ++ FR ++ out ++ ([103, 117, 97, 114, 100, 32] ++ gr ++ [32] ++ ft)) [10] (by simp) (by simp only [List.length_append, List.length_cons, List.length_nil]; omega)
            repeat' first
              | refine CondP.no (show ¬ ¬ sec = [] from fun hn => hn hsec) ?_ | refine CondP.yes hsec ?_ | refine SideP.mk (by simp only [List.length_append, List.length_cons, List.length_nil]; omega) ?_
              | refine J_seq ?_ | refine J_region Tryz.tyOK ?_ | refine J_block ?_ | refine J_cond ?_ | refine J_ret ?_ | refine J_skip ?_ | refine J_exit ?_ | refine J_scope ?_
              | refine CondP.yes (by omega) ?_ | refine CondP.no (by omega) ?_ | refine CondP.mk (fun h => ?_) (fun h => ?_) | refine EqP.mk rfl ?_ | refine NewP.mk (fun ad => ?_) | refine ArP.exact (by simp only [inR]; omega) ?_ | refine SideP.mk (by first | omega | (dsimp only; omega) | (simp; omega)) ?_
              | refine J_drawZ (id := 22) Tryz.tyOK (by kernel_rfl) [0, 0, 0, 4, 12, 30, 62, 127, 255, 0, 512, 2047, 4095, 0, 8192, 24578, 65535, 131071, 262143] [0, 1, 2, 3, 4, 5, 6, 7, 8, 9, 10, 11, 12, 13, 14, 15, 16, 17, 18] [18] [11, 59] 18 true (by kernel_rfl) ?_ | refine J_drawZ (id := 30) Tryz.tyOK (by kernel_rfl) [0, 0, 2, 7, 15, 0, 32, 96, 255, 511] [0, 1, 2, 3, 4, 5, 6, 7, 8, 9] [9] [14] 9 true (by kernel_rfl) ?_ | refine EntP.mk (Ents.ofSub (by repeat (first | exact keepC_sub _ _ _ | exact List.Sublist.slnil | refine List.Sublist.cons_cons _ ?_ | refine List.Sublist.cons _ ?_)) (by first | exact fun _ h => h | exact fun _ _ => trivial | exact fun _ h => h.2 | exact fun _ h => h.2.2.2.2 | exact fun _ h => ((allD_append _ _).1 h).2)) ?_ | refine IdxE.mk 0 5 _ (hrx _) (by omega) (by omega) ?_ | refine LoadE.mk 0 _ _ _ (hrx _) (by omega) (by omega) (by omega) hcell ?_ | refine CallQ.mk [gInt 0] _ c4 (fun _ h => ⟨h.1, trivial⟩) ?_ | refine CallP.mk _ [] [] _ (c5a _ _) (by first | exact List.Perm.refl _ | (rw [List.append_nil]; exact List.Perm.refl _)) (fun _ _ => trivial) (fun v L' D' hp => ?_); obtain ⟨a3, c3', rfl, rfl, rfl⟩ := hp | refine CallP.mk _ [] [] _ (c5c _ _ _ _) (by first | exact List.Perm.refl _ | (rw [List.append_nil]; exact List.Perm.refl _)) (fun _ _ => trivial) (fun v L' D' hp => ?_); obtain ⟨a3, c3', rfl, rfl, rfl⟩ := hp | refine Round.mk (i + 1, a3, c3') (by dsimp only; omega) (by dsimp only; omega) (by repeat' first | exact SubE.nil | refine SubE.cons rfl ?_ ?_ | exact VEq.refl _ | refine VEq.int (by omega) | refine VEq.sl rfl (by first | rfl | omega | (rw [List.length_append]; rfl) | (simp; omega)) rfl) (Ents.drop.trans (Ents.of ?_))
              | fail
            all_goals (dsimp only; rw [hout]; simp [nl, verbX, sectText, hsec]; done)
          · skip
            have c5a := fun b cs => ws [.box 2 b 53 cs] adb a c (FG ++ FR ++ out) ([115, 116, 114, 105, 99, 116, 32] ++ gr ++ [32] ++ ft) (by simp) (by simp only [List.length_append, List.length_cons, List.length_nil]; omega)
            have c5c := fun b cs a c => ws [.box 2 b 53 cs] adb a c (FG ++ FR ++ out ++ ([115, 116, 114, 105, 99, 116, 32] ++ gr ++ [32] ++ ft)) [10] (by simp) (by simp only [List.length_append, List.length_cons, List.length_nil]; omega)
            repeat' first
              | refine CondP.no (show ¬ ¬ sec = [] from fun hn => hn hsec) ?_ | refine CondP.yes hsec ?_ | refine SideP.mk (by simp only [List.length_append, List.length_cons, List.length_nil]; omega) ?_
              | refine J_seq ?_ | refine J_region Tryz.tyOK ?_ | refine J_block ?_ | refine J_cond ?_ | refine J_ret ?_ | refine J_skip ?_ | refine J_exit ?_ | refine J_scope ?_
              | refine CondP.yes (by omega) ?_ | refine CondP.no (by omega) ?_ | refine CondP.mk (fun h => ?_) (fun h => ?_) | refine EqP.mk rfl ?_ | refine NewP.mk (fun ad => ?_) | refine ArP.exact (by simp only [inR]; omega) ?_ | refine SideP.mk (by first | omega | (dsimp only; omega) | (simp; omega)) ?_
              | refine J_drawZ (id := 22) Tryz.tyOK (by kernel_rfl) [0, 0, 0, 4, 12, 30, 62, 127, 255, 0, 512, 2047, 4095, 0, 8192, 24578, 65535, 131071, 262143] [0, 1, 2, 3, 4, 5, 6, 7, 8, 9, 10, 11, 12, 13, 14, 15, 16, 17, 18] [18] [11, 59] 18 true (by kernel_rfl) ?_ | refine J_drawZ (id := 30) Tryz.tyOK (by kernel_rfl) [0, 0, 2, 7, 15, 0, 32, 96, 255, 511] [0, 1, 2, 3, 4, 5, 6, 7, 8, 9] [9] [14] 9 true (by kernel_rfl) ?_ | refine EntP.mk (Ents.ofSub (by repeat (first | exact keepC_sub _ _ _ | exact List.Sublist.slnil | refine List.Sublist.cons_cons _ ?_ | refine List.Sublist.cons _ ?_)) (by first | exact fun _ h => h | exact fun _ _ => trivial | exact fun _ h => h.2 | exact fun _ h => h.2.2.2.2 | exact fun _ h => ((allD_append _ _).1 h).2)) ?_ | refine IdxE.mk 0 5 _ (hrx _) (by omega) (by omega) ?_ | refine LoadE.mk 0 _ _ _ (hrx _) (by omega) (by omega) (by omega) hcell ?_ | refine CallQ.mk [gInt 0] _ c4 (fun _ h => ⟨h.1, trivial⟩) ?_ | refine CallP.mk _ [] [] _ (c5a _ _) (by first | exact List.Perm.refl _ | (rw [List.append_nil]; exact List.Perm.refl _)) (fun _ _ => trivial) (fun v L' D' hp => ?_); obtain ⟨a3, c3', rfl, rfl, rfl⟩ := hp | refine CallP.mk _ [] [] _ (c5c _ _ _ _) (by first | exact List.Perm.refl _ | (rw [List.append_nil]; exact List.Perm.refl _)) (fun _ _ => trivial) (fun v L' D' hp => ?_); obtain ⟨a3, c3', rfl, rfl, rfl⟩ := hp | refine Round.mk (i + 1, a3, c3') (by dsimp only; omega) (by dsimp only; omega) (by repeat' first | exact SubE.nil | refine SubE.cons rfl ?_ ?_ | exact VEq.refl _ | refine VEq.int (by omega) | refine VEq.sl rfl (by first | rfl | omega | (rw [List.length_append]; rfl) | (simp; omega)) rfl) (Ents.drop.trans (Ents.of ?_))
              | fail
            all_goals (dsimp only; rw [hout]; simp [nl, verbX, sectText, hsec]; done)
        · cases sd
          · skip
            have c5a := fun b cs => ws [.box 2 b 53 cs] adb a c (FG ++ FR ++ out) ([103, 117, 97, 114, 100, 32] ++ gr ++ [32] ++ ft) (by simp) (by simp only [List.length_append, List.length_cons, List.length_nil]; omega)
            have c5b := fun b cs a c => ws [.box 2 b 53 cs] adb a c (FG ++ FR ++ out ++ ([103, 117, 97, 114, 100, 32] ++ gr ++ [32] ++ ft)) ([32, 124, 32] ++ sec) (by simp) (by simp only [List.length_append, List.length_cons, List.length_nil]; omega)
            have c5c := fun b cs a c => ws [.box 2 b 53 cs] adb a c (FG ++ FR ++ out ++ ([103, 117, 97, 114, 100, 32] ++ gr ++ [32] ++ ft) ++ ([32, 124, 32] ++ sec)) [10] (by simp) (by simp only [List.length_append, List.length_cons, List.length_nil]; omega)
            repeat' first
              | refine CondP.yes hsec ?_ | refine CondP.no hsec ?_ | refine SideP.mk (by simp only [List.length_append, List.length_cons, List.length_nil]; omega) ?_
              | refine J_seq ?_ | refine J_region Tryz.tyOK ?_ | refine J_block ?_ | refine J_cond ?_ | refine J_ret ?_ | refine J_skip ?_ | refine J_exit ?_ | refine J_scope ?_
              | refine CondP.yes (by omega) ?_ | refine CondP.no (by omega) ?_ | refine CondP.mk (fun h => ?_) (fun h => ?_) | refine EqP.mk rfl ?_ | refine NewP.mk (fun ad => ?_) | refine ArP.exact (by simp only [inR]; omega) ?_ | refine SideP.mk (by first | omega | (dsimp only; omega) | (simp; omega)) ?_
              | refine J_drawZ (id := 22) Tryz.tyOK (by kernel_rfl) [0, 0, 0, 4, 12, 30, 62, 127, 255, 0, 512, 2047, 4095, 0, 8192, 24578, 65535, 131071, 262143] [0, 1, 2, 3, 4, 5, 6, 7, 8, 9, 10, 11, 12, 13, 14, 15, 16, 17, 18] [18] [11, 59] 18 true (by kernel_rfl) ?_ | refine J_drawZ (id := 30) Tryz.tyOK (by kernel_rfl) [0, 0, 2, 7, 15, 0, 32, 96, 255, 511] [0, 1, 2, 3, 4, 5, 6, 7, 8, 9] [9] [14] 9 true (by kernel_rfl) ?_ | refine EntP.mk (Ents.ofSub (by repeat (first | exact keepC_sub _ _ _ | exact List.Sublist.slnil | refine List.Sublist.cons_cons _ ?_ | refine List.Sublist.cons _ ?_)) (by first | exact fun _ h => h | exact fun _ _ => trivial | exact fun _ h => h.2 | exact fun _ h => h.2.2.2.2 | exact fun _ h => ((allD_append _ _).1 h).2)) ?_ | refine IdxE.mk 0 5 _ (hrx _) (by omega) (by omega) ?_ | refine LoadE.mk 0 _ _ _ (hrx _) (by omega) (by omega) (by omega) hcell ?_ | refine CallQ.mk [gInt 0] _ c4 (fun _ h => ⟨h.1, trivial⟩) ?_ | refine CallP.mk _ [] [] _ (c5a _ _) (by first | exact List.Perm.refl _ | (rw [List.append_nil]; exact List.Perm.refl _)) (fun _ _ => trivial) (fun v L' D' hp => ?_); obtain ⟨a3, c3', rfl, rfl, rfl⟩ := hp | refine CallP.mk _ [] [] _ (c5b _ _ _ _) (by first | exact List.Perm.refl _ | (rw [List.append_nil]; exact List.Perm.refl _)) (fun _ _ => trivial) (fun v L' D' hp => ?_); obtain ⟨a3, c3', rfl, rfl, rfl⟩ := hp | refine CallP.mk _ [] [] _ (c5c _ _ _ _) (by first | exact List.Perm.refl _ | (rw [List.append_nil]; exact List.Perm.refl _)) (fun _ _ => trivial) (fun v L' D' hp => ?_); obtain ⟨a3, c3', rfl, rfl, rfl⟩ := hp | refine Round.mk (i + 1, a3, c3') (by dsimp only; omega) (by dsimp only; omega) (by repeat' first | exact SubE.nil | refine SubE.cons rfl ?_ ?_ | exact VEq.refl _ | refine VEq.int (by omega) | refine VEq.sl rfl (by first | rfl | omega | (rw [List.length_append]; rfl) | (simp; omega)) rfl) (Ents.drop.trans (Ents.of ?_))
              | fail
            all_goals (dsimp only; rw [hout]; simp [nl, verbX, sectText, hsec]; done)
          · skip
            have c5a := fun b cs => ws [.box 2 b 53 cs] adb a c (FG ++ FR ++ out) ([115, 116, 114, 105, 99, 116, 32] ++ gr ++ [32] ++ ft) (by simp) (by simp only [List.length_append, List.length_cons, List.length_nil]; omega)
            have c5b := fun b cs a c => ws [.box 2 b 53 cs] adb a c (FG ++ FR ++ out ++ ([115, 116, 114, 105, 99, 116, 32] ++ gr ++ [32] ++ ft)) ([32, 124, 32] ++ sec) (by simp) (by simp only [List.length_append, List.length_cons, List.length_nil]; omega)
            have c5c := fun b cs a c => ws [.box 2 b 53 cs] adb a c (FG ++ FR ++ out ++ ([115, 116, 114, 105, 99, 116, 32] ++ gr ++ [32] ++ ft) ++ ([32, 124, 32] ++ sec)) [10] (by simp) (by simp only [List.length_append, List.length_cons, List.length_nil]; omega)
            repeat' first
              | refine CondP.yes hsec ?_ | refine CondP.no hsec ?_ | refine SideP.mk (by simp only [List.length_append, List.length_cons, List.length_nil]; omega) ?_
              | refine J_seq ?_ | refine J_region Tryz.tyOK ?_ | refine J_block ?_ | refine J_cond ?_ | refine J_ret ?_ | refine J_skip ?_ | refine J_exit ?_ | refine J_scope ?_
              | refine CondP.yes (by omega) ?_ | refine CondP.no (by omega) ?_ | refine CondP.mk (fun h => ?_) (fun h => ?_) | refine EqP.mk rfl ?_ | refine NewP.mk (fun ad => ?_) | refine ArP.exact (by simp only [inR]; omega) ?_ | refine SideP.mk (by first | omega | (dsimp only; omega) | (simp; omega)) ?_
              | refine J_drawZ (id := 22) Tryz.tyOK (by kernel_rfl) [0, 0, 0, 4, 12, 30, 62, 127, 255, 0, 512, 2047, 4095, 0, 8192, 24578, 65535, 131071, 262143] [0, 1, 2, 3, 4, 5, 6, 7, 8, 9, 10, 11, 12, 13, 14, 15, 16, 17, 18] [18] [11, 59] 18 true (by kernel_rfl) ?_ | refine J_drawZ (id := 30) Tryz.tyOK (by kernel_rfl) [0, 0, 2, 7, 15, 0, 32, 96, 255, 511] [0, 1, 2, 3, 4, 5, 6, 7, 8, 9] [9] [14] 9 true (by kernel_rfl) ?_ | refine EntP.mk (Ents.ofSub (by repeat (first | exact keepC_sub _ _ _ | exact List.Sublist.slnil | refine List.Sublist.cons_cons _ ?_ | refine List.Sublist.cons _ ?_)) (by first | exact fun _ h => h | exact fun _ _ => trivial | exact fun _ h => h.2 | exact fun _ h => h.2.2.2.2 | exact fun _ h => ((allD_append _ _).1 h).2)) ?_ | refine IdxE.mk 0 5 _ (hrx _) (by omega) (by omega) ?_ | refine LoadE.mk 0 _ _ _ (hrx _) (by omega) (by omega) (by omega) hcell ?_ | refine CallQ.mk [gInt 0] _ c4 (fun _ h => ⟨h.1, trivial⟩) ?_ | refine CallP.mk _ [] [] _ (c5a _ _) (by first | exact List.Perm.refl _ | (rw [List.append_nil]; exact List.Perm.refl _)) (fun _ _ => trivial) (fun v L' D' hp => ?_); obtain ⟨a3, c3', rfl, rfl, rfl⟩ := hp | refine CallP.mk _ [] [] _ (c5b _ _ _ _) (by first | exact List.Perm.refl _ | (rw [List.append_nil]; exact List.Perm.refl _)) (fun _ _ => trivial) (fun v L' D' hp => ?_); obtain ⟨a3, c3', rfl, rfl, rfl⟩ := hp | refine CallP.mk _ [] [] _ (c5c _ _ _ _) (by first | exact List.Perm.refl _ | (rw [List.append_nil]; exact List.Perm.refl _)) (fun _ _ => trivial) (fun v L' D' hp => ?_); obtain ⟨a3, c3', rfl, rfl, rfl⟩ := hp | refine Round.mk (i + 1, a3, c3') (by dsimp only; omega) (by dsimp only; omega) (by repeat' first | exact SubE.nil | refine SubE.cons rfl ?_ ?_ | exact VEq.refl _ | refine VEq.int (by omega) | refine VEq.sl rfl (by first | rfl | omega | (rw [List.length_append]; rfl) | (simp; omega)) rfl) (Ents.drop.trans (Ents.of ?_))
              | fail
            all_goals (dsimp only; rw [hout]; simp [nl, verbX, sectText, hsec]; done)
      · have hil : i = p.xs.length := by omega
        subst hil
        rw [List.take_length] at *
        generalize fmtX p.xs = FX at *
        have c6 := builderLen_ok 1 adb a c (FG ++ FR ++ FX)
        have c7 := builderString_ok 1 adb a c (FG ++ FR ++ FX)
        by_cases hbig : 8192 < ((FG ++ FR ++ FX).length : Int)
        · rw [if_pos hbig]
          repeat' first
            | refine J_seq ?_ | refine J_region Tryz.tyOK ?_ | refine J_block ?_ | refine J_cond ?_ | refine J_ret ?_ | refine J_skip ?_ | refine J_exit ?_ | refine J_scope ?_
            | refine CondP.yes (by omega) ?_ | refine CondP.no (by omega) ?_ | refine CondP.mk (fun h => ?_) (fun h => ?_) | refine EqP.mk rfl ?_ | refine NewP.mk (fun ad => ?_) | refine ArP.exact (by simp only [inR]; omega) ?_ | refine SideP.mk (by first | omega | (dsimp only; omega) | (simp; omega)) ?_
            | fail
          refine CallP.mk (bl 1 adb a c (FG ++ FR ++ FX)) [] [] _ c6 (by rw [List.append_nil]) (fun _ _ => trivial) (fun v L' D' hp => ?_)
          obtain ⟨rfl, rfl, rfl⟩ := hp
          repeat' first
            | refine J_seq ?_ | refine J_region Tryz.tyOK ?_ | refine J_block ?_ | refine J_cond ?_ | refine J_ret ?_ | refine J_skip ?_ | refine J_exit ?_ | refine J_scope ?_
            | refine CondP.yes (by omega) ?_ | refine CondP.no (by omega) ?_ | refine CondP.mk (fun h => ?_) (fun h => ?_) | refine EqP.mk rfl ?_ | refine NewP.mk (fun ad => ?_) | refine ArP.exact (by simp only [inR]; omega) ?_ | refine SideP.mk (by first | omega | (dsimp only; omega) | (simp; omega)) ?_
            | refine CallP.mk (bl 1 adb a c (FG ++ FR ++ FX)) [] [] _ c6 (by simp) (fun _ _ => trivial) (fun v L' D' hp => ?_); obtain ⟨rfl, rfl, rfl⟩ := hp | exact FinE.is rfl
            | fail
        · rw [if_neg hbig]
          repeat' first
            | refine J_seq ?_ | refine J_region Tryz.tyOK ?_ | refine J_block ?_ | refine J_cond ?_ | refine J_ret ?_ | refine J_skip ?_ | refine J_exit ?_ | refine J_scope ?_
            | refine CondP.yes (by omega) ?_ | refine CondP.no (by omega) ?_ | refine CondP.mk (fun h => ?_) (fun h => ?_) | refine EqP.mk rfl ?_ | refine NewP.mk (fun ad => ?_) | refine ArP.exact (by simp only [inR]; omega) ?_ | refine SideP.mk (by first | omega | (dsimp only; omega) | (simp; omega)) ?_
            | refine CallP.mk (bl 1 adb a c (FG ++ FR ++ FX)) [] [] _ c6 (by simp) (fun _ _ => trivial) (fun v L' D' hp => ?_); obtain ⟨rfl, rfl, rfl⟩ := hp | refine CallP.mk (bl 1 adb a c (FG ++ FR ++ FX)) [] [] _ c7 (by simp) (fun _ _ => trivial) (fun v L' D' hp => ?_); obtain ⟨rfl, rfl, rfl⟩ := hp | exact FinE.is rfl
            | fail

end Go.Proofs
