/- This text walks through the checks of the package policy: groups, rules, guards, whole policies. -/
import Derived.Test.YtabmiagnfihleaaGreatDoorPolA
import Derived.Test.YtabmiagnfihleaaGreatDoorWFormat
set_option linter.all false

namespace Go.Proofs
open Go Go.X
set_option maxRecDepth 100000

theorem valid_any (sp : Int) (s : List UInt8) (hs : s.length ≤ 9223372036854775807) : FnS Tryz.prog 30 [.agg [.i .i64 sp, .s s]] [] [gInt 0] (Is (.c (.b (validT sp s)))) := by
  by_cases h : s.length ≤ 1000000
  · exact valid_ok sp s h
  · have hv : validT sp s = false := by
      unfold validT
      rw [show decide (100 < (s.length : Int)) = true from decide_eq_true (by omega)]
      simp
    rw [hv]
    refine fn_of_J Tryz.tyOK 2000 Tryz.func30 (by kernel_rfl) (c := Tryz.f30.body.getD .skip) (by kernel_rfl) Tryz.ntmps30 (rs := Tryz.f30.results.toList) rfl (by simp) (fun G => ?_)
    repeat' first
      | refine J_seq ?_ | refine J_region Tryz.tyOK ?_ | refine J_block ?_ | refine J_cond ?_ | refine J_ret ?_ | refine J_skip ?_ | refine J_exit ?_ | refine J_scope ?_
      | refine CondP.yes (by omega) ?_ | refine CondP.no (by omega) ?_ | refine CondP.mk (fun h => ?_) (fun h => ?_) | refine EqP.mk rfl ?_ | refine NewP.mk (fun ad => ?_) | refine ArP.exact (by simp only [inR]; omega) ?_ | refine SideP.mk (by first | omega | (dsimp only; omega) | (simp; omega)) ?_
      | refine FinE.bool ?_
      | fail
    all_goals rfl

theorem trimPrefix_le (s p : Bs) : (Lib.trimPrefix s p).length ≤ s.length := by
  unfold Lib.trimPrefix; split <;> simp

theorem anyIdx (s : Bs) (a b : UInt8) : decide (0 ≤ Lib.indexAny s [a, b]) = s.any fun c => c == a || c == b := by
  induction s with
  | nil => rfl
  | cons x r ih =>
    rw [Lib.indexAny, List.any_cons, ← ih]
    have hge := Lib.indexAny_ge [a, b] r
    by_cases hx : x = a ∨ x = b
    · rw [if_pos (by simpa using hx)]
      have : (x == a || x == b) = true := by simpa using hx
      rw [this]; rfl
    · rw [if_neg (by simpa using hx)]
      have : (x == a || x == b) = false := by simpa using hx
      rw [this, Bool.false_or]
      by_cases h1 : Lib.indexAny r [a, b] = -1
      · rw [if_pos (by simpa using h1), h1]
      · rw [if_neg (by simpa using h1), decide_eq_decide]
        omega

/-- One group's check. -/
theorem checkGroup_ok (p : PolM) (i : Nat) (hi : i < p.gs.length) (hc : p.gs.length ≤ p.gc) (hl : p.gs.length ≤ 9223372036854775807) (hb : ∀ g ∈ p.gs, g.name.length ≤ 9223372036854775807 ∧ g.mem.length ≤ 9223372036854775807 ∧ ∀ m ∈ g.mem, m.length ≤ 9223372036854775807) :
    FnS Tryz.prog 15 [.agg p.cells, .c (.i .i64 i)] [] p.facts (Is (.c (.i .i64 (grpErr (names p.gs) ((names p.gs).take i) p.gs[i].name p.gs[i].mem)))) := by
  have hgm : p.gs[i] ∈ p.gs := List.getElem_mem hi
  obtain ⟨hb1, hb2, hb3⟩ := hb _ hgm
  have hcell : ((gsC p.gs).drop (i * 2 + 0)).take 2 = p.gs[i].cells := by rw [gsC, flat_get (F := GrpM.cells) (z := 2) (fun _ => rfl) hi (by omega)]; rfl
  have hpre : (gsC p.gs).take (i * 2) = gsC (p.gs.take i) := flat_take (F := GrpM.cells) (z := 2) (fun _ => rfl) p.gs i (by omega)
  have hany : ∀ x, ((p.gs.take i).any fun g => decide (g.name = x)) = ((names p.gs).take i).any fun y => decide (y = x) := fun x => by rw [names_any, names, names, List.map_take]
  have hlen : (p.gs.take i).length = i := by simp; omega
  have hmem : ∀ m, allD m p.facts → SlF m 0 1 p.gs[i].a p.gs[i].mem.length (p.gs[i].mem.map C.s) := fun m h => h.2.1 _ hgm
  generalize hg : p.gs[i] = g at *
  have cf := fun ad => containsFunc_ok 0 (resl p.ga 0 p.gc 2) (p.gc - 0) (p.gs.take i) 27 1 ad 0 [.box 1 ad 35 g.cells] (fun n => decide (n = g.name)) (by omega) (fun y _ => aheadFn_ok y g ad)
  rw [hlen] at cf
  have hrg : ∀ L, Reads L (slFact 0 1 g.a g.mem.length (g.mem.map C.s) :: p.facts) 0 2 p.ga p.gs.length (gsC p.gs) := fun L => .inr fun m h => h.2.1
  have hrm : ∀ L, Reads L (slFact 0 1 g.a g.mem.length (g.mem.map C.s) :: p.facts) 0 1 g.a g.mem.length (g.mem.map C.s) := fun L => .inr fun m h => h.1
  refine fn_of_J Tryz.tyOK 0 Tryz.func15 (by kernel_rfl) (c := Tryz.f15.body.getD .skip) (by kernel_rfl) Tryz.ntmps15 (rs := Tryz.f15.results.toList) rfl (by simp) (fun G => ?_)
  refine J_mem (n' := 0) (D' := slFact 0 1 g.a g.mem.length (g.mem.map C.s) :: p.facts) (Ents.facts fun m h => ⟨hmem m h, h⟩) ?_
  repeat' first
    | refine J_stop (c := .seq (.seq (.region 8 _ _) _) _) ?_
    | refine J_seq ?_ | refine J_region Tryz.tyOK ?_ | refine J_block ?_ | refine J_cond ?_ | refine J_ret ?_ | refine J_skip ?_ | refine J_exit ?_ | refine J_scope ?_
    | refine CondP.yes (by omega) ?_ | refine CondP.no (by omega) ?_ | refine CondP.mk (fun h => ?_) (fun h => ?_) | refine EqP.mk rfl ?_ | refine NewP.mk (fun ad => ?_) | refine ArP.exact (by simp only [inR]; omega) ?_ | refine SideP.mk (by first | omega | (dsimp only; omega) | (simp; omega)) ?_
    | refine IdxE.mk 0 2 _ (hrg _) (by omega) (by omega) ?_ | refine LoadE.mk 0 _ _ _ (hrg _) (by omega) (by omega) (by omega) hcell ?_ | refine CallP.isB (polIsName_ok g.name hb1) (fun hn => ?_) (fun hn => ?_) | refine CallP.isB (polBuiltIn_ok g.name) (fun hb => ?_) (fun hb => ?_) | refine CallP.mk [_] [_] [slFact 0 2 (resl p.ga 0 p.gc 2) i (gsC (p.gs.take i))] _ (cf _) (List.Perm.refl _) (fun m h => ⟨hpre ▸ slFact_pre p.gc h.2.1 (by omega), trivial⟩) (fun v L' D' hp => ?_); obtain ⟨rfl, rfl, rfl⟩ := hp; cases hz : (p.gs.take i).any fun y => decide (y.name = g.name) | refine FinE.int ?_
    | fail
  · unfold grpErr existsT; rw [hn, hb]; simp
  · unfold grpErr existsT; rw [hn, hb, ← hany, hz]; simp [h]
  · have hE : grpErr (names p.gs) ((names p.gs).take i) g.name g.mem = memErr (names p.gs) g.mem := by
      unfold grpErr existsT; rw [hn, hb, ← hany, hz]; simp [h]
    rw [hE]
    rename_i ad0
    refine ⟨?_⟩
    clear cf hpre hany hcell hrg hmem
    repeat' first
      | refine J_seq ?_ | refine J_region Tryz.tyOK ?_ | refine J_block ?_ | refine J_cond ?_ | refine J_ret ?_ | refine J_skip ?_ | refine J_exit ?_ | refine J_scope ?_
      | refine CondP.yes (by omega) ?_ | refine CondP.no (by omega) ?_ | refine CondP.mk (fun h => ?_) (fun h => ?_) | refine EqP.mk rfl ?_ | refine NewP.mk (fun ad => ?_) | refine ArP.exact (by simp only [inR]; omega) ?_ | refine SideP.mk (by first | omega | (dsimp only; omega) | (simp; omega)) ?_
      | fail
    refine J_loop (α := Nat) (fun k => [(2, .c (.p 0 ad0 0)), (35, .c (.sl g.a g.mem.length g.c)), (36, .c (.i .i64 g.mem.length)), (37, .c (.i .i64 k))]) (fun _ => [.box 0 ad0 27 p.cells]) (fun _ => slFact 0 1 g.a g.mem.length (g.mem.map C.s) :: p.facts) 2
      (fun k => k ≤ g.mem.length ∧ memErr (names p.gs) g.mem = memErr (names p.gs) (g.mem.drop k)) (fun k => g.mem.length - k) (InFam.mk 0 ⟨by omega, rfl⟩ (by repeat' first | exact SubE.nil | refine SubE.cons rfl ?_ ?_ | exact VEq.refl _ | refine VEq.int (by omega) | refine VEq.sl rfl (by first | rfl | omega | (rw [List.length_append]; rfl) | (simp; omega)) rfl) Ents.drop) (fun k hk => ?_)
    obtain ⟨hk, he⟩ := hk
    by_cases hlt : k < g.mem.length
    · have hcm := map_take1 (f := C.s) hlt
      rw [List.drop_eq_getElem_cons hlt, memErr] at he
      have hml := hb3 _ (List.getElem_mem hlt)
      generalize g.mem[k] = m at *
      have htl : (Lib.trimPrefix m [64]).length ≤ 9223372036854775807 := Nat.le_trans (trimPrefix_le _ _) hml
      have c1 := cutPrefix_ok m [64]
      generalize Lib.trimPrefix m [64] = t at *
      generalize Lib.hasPrefix m [64] = z at *
      repeat' first
        | refine J_seq ?_ | refine J_region Tryz.tyOK ?_ | refine J_block ?_ | refine J_cond ?_ | refine J_ret ?_ | refine J_skip ?_ | refine J_exit ?_ | refine J_scope ?_
        | refine CondP.yes (by omega) ?_ | refine CondP.no (by omega) ?_ | refine CondP.mk (fun h => ?_) (fun h => ?_) | refine EqP.mk rfl ?_ | refine NewP.mk (fun ad => ?_) | refine ArP.exact (by simp only [inR]; omega) ?_ | refine SideP.mk (by first | omega | (dsimp only; omega) | (simp; omega)) ?_
        | refine IdxE.mk 0 1 _ (hrm _) (by omega) (by omega) ?_ | refine LoadE.mk 0 _ _ _ (hrm _) (by omega) (by omega) (by omega) hcm ?_ | refine CallP.isF z (fun b => .t2 (.c (.s t)) (.c (.b b))) c1 (fun hp => ?_) (fun hp => ?_) | refine CallP.isB (polIsName_ok t htl) (fun hq => ?_) (fun hq => ?_) | refine CallP.isB (polExists_ok p t hl) (fun hx => ?_) (fun hx => ?_) (fun _ h => h.2) | refine FinE.int ?_ | refine Round.mk (k + 1) (by omega) ⟨by omega, ?_⟩ (by repeat' first | exact SubE.nil | refine SubE.cons rfl ?_ ?_ | exact VEq.refl _ | refine VEq.int (by omega) | refine VEq.sl rfl (by first | rfl | omega | (rw [List.length_append]; rfl) | (simp; omega)) rfl) (Ents.refl _ _)
        | fail
      all_goals (rw [he]; simp [*])
    · have hkl : k = g.mem.length := by omega
      subst hkl
      rw [List.drop_length, memErr] at he
      repeat' first
        | refine J_seq ?_ | refine J_region Tryz.tyOK ?_ | refine J_block ?_ | refine J_cond ?_ | refine J_ret ?_ | refine J_skip ?_ | refine J_exit ?_ | refine J_scope ?_
        | refine CondP.yes (by omega) ?_ | refine CondP.no (by omega) ?_ | refine CondP.mk (fun h => ?_) (fun h => ?_) | refine EqP.mk rfl ?_ | refine NewP.mk (fun ad => ?_) | refine ArP.exact (by simp only [inR]; omega) ?_ | refine SideP.mk (by first | omega | (dsimp only; omega) | (simp; omega)) ?_
        | refine FinE.int ?_
        | fail
      exact he
  · unfold grpErr existsT; rw [hn, hb, ← hany, hz]; simp
  · unfold grpErr; rw [hn]; simp

theorem scopeCases {k : Int} : k = 1 ∨ k = 2 ∨ k = 3 ∨ (k ≠ 1 ∧ k ≠ 2 ∧ k ≠ 3) := by omega

theorem checkRule_ok (p : PolM) (r : Rul) (hl : p.gs.length ≤ 9223372036854775807) (hb : r.nm.length ≤ 9223372036854775807) :
    FnS Tryz.prog 16 [.agg p.cells, .agg r.cells] [] (gInt 0 :: p.facts) (Is (.c (.i .i64 (rulErr (names p.gs) r)))) := by
  refine fn_of_J Tryz.tyOK 0 Tryz.func16 (by kernel_rfl) (c := Tryz.f16.body.getD .skip) (by kernel_rfl) Tryz.ntmps16 (rs := Tryz.f16.results.toList) rfl (by simp) (fun G => ?_)
  repeat' first
    | refine J_seq ?_ | refine J_region Tryz.tyOK ?_ | refine J_block ?_ | refine J_cond ?_ | refine J_ret ?_ | refine J_skip ?_ | refine J_exit ?_ | refine J_scope ?_
    | refine CondP.yes (by omega) ?_ | refine CondP.no (by omega) ?_ | refine CondP.mk (fun h => ?_) (fun h => ?_) | refine EqP.mk rfl ?_ | refine NewP.mk (fun ad => ?_) | refine ArP.exact (by simp only [inR]; omega) ?_ | refine SideP.mk (by first | omega | (dsimp only; omega) | (simp; omega)) ?_
    | refine CallP.isB (polExists_ok p r.group hl) (fun hx => ?_) (fun hx => ?_) (fun _ h => h.2) | refine CallP.isB (valid_any r.sp r.nm hb) (fun hv => ?_) (fun hv => ?_) | refine FinE.int ?_
    | fail
  all_goals first | (change r.nm = [] at h) | (change ¬ r.nm = [] at h) | skip
  all_goals (unfold rulErr scopeOK; simp [*]; try first | omega | exact fun h1 h2 => h ⟨h1, h2, trivial⟩)

theorem checkGuard_ok (p : PolM) (r : Grd) (hl : p.gs.length ≤ 9223372036854775807) (hb : r.nm.length ≤ 9223372036854775807) (hc : r.sect.length ≤ 9223372036854775807) :
    FnS Tryz.prog 17 [.agg p.cells, .agg r.cells] [] (gInt 0 :: p.facts) (Is (.c (.i .i64 (grdErr (names p.gs) r)))) := by
  have c1 := valid_any r.sp r.nm hb
  have hE : existsT (names p.gs) r.group = true → grdErr (names p.gs) r = if (validT r.sp r.nm && sectOK r.sect) = false then 7 else 0 := fun h => by
    unfold grdErr; rw [if_neg (by rw [h]; simp)]
  have hE0 : existsT (names p.gs) r.group = false → grdErr (names p.gs) r = 4 := fun h => by unfold grdErr; rw [if_pos h]
  generalize grdErr (names p.gs) r = e at *
  by_cases h100 : r.sect.length ≤ 100
  · have c2 := containsAny_ok r.sect 10 124 (by decide) (by decide) (by omega)
    have c3 := trim_ok r.sect [32, 9] hc (by decide) (fun j b hb => by
      have := List.mem_of_getElem? hb
      simp at this
      rcases this with rfl | rfl <;> decide)
    rw [anyIdx] at c2
    have hs : sectOK r.sect = (!(r.sect.any fun c => c == 10 || c == 124) && decide (trimT r.sect = r.sect)) := by
      unfold sectOK; rw [decide_eq_false (by omega)]; rfl
    rw [hs] at hE
    have ht : trimT r.sect = Lib.trimS r.sect [32, 9] := rfl
    rw [ht] at hE
    generalize Lib.trimS r.sect [32, 9] = t at *
    generalize (r.sect.any fun c => c == 10 || c == 124) = z at *
    generalize validT r.sp r.nm = v at *
    cases v <;> cases z <;>
    · refine fn_of_J Tryz.tyOK 0 Tryz.func17 (by kernel_rfl) (c := Tryz.f17.body.getD .skip) (by kernel_rfl) Tryz.ntmps17 (rs := Tryz.f17.results.toList) rfl (by simp) (fun G => ?_)
      repeat' first
        | refine J_seq ?_ | refine J_region Tryz.tyOK ?_ | refine J_block ?_ | refine J_cond ?_ | refine J_ret ?_ | refine J_skip ?_ | refine J_exit ?_ | refine J_scope ?_
        | refine CondP.yes (by omega) ?_ | refine CondP.no (by omega) ?_ | refine CondP.mk (fun h => ?_) (fun h => ?_) | refine EqP.mk rfl ?_ | refine NewP.mk (fun ad => ?_) | refine ArP.exact (by simp only [inR]; omega) ?_ | refine SideP.mk (by first | omega | (dsimp only; omega) | (simp; omega)) ?_
        | refine J_drawS (id := 3) Tryz.tyOK (by kernel_rfl) [0, 1, 3, 7, 15, 31, 63, 127, 255, 511, 1023, 2047, 4095, 8191, 16383, 32767, 65535, 131071, 262143, 65535, 589823, 2097151, 4194303] [0, 1, 2, 3, 4, 5, 6, 7, 8, 9, 10, 11, 12, 13, 14, 15, 16, 17, 18, 19, 20, 21, 22] [] [3] true (by kernel_rfl) ?_ | refine EntP.mk (Ents.ofSub (by repeat (first | exact List.Sublist.slnil | refine List.Sublist.cons_cons _ ?_ | refine List.Sublist.cons _ ?_)) (by first | exact fun _ h => h | exact fun _ _ => trivial | exact fun _ h => h.2 | exact fun _ h => h.2.2.2.2 | exact fun _ h => ((allD_append _ _).1 h).2)) ?_ | refine CallP.isB (polExists_ok p r.group hl) (fun hx => ?_) (fun hx => ?_) (fun _ h => h.2) | refine CallQ.mk [gInt 0] _ c1 (fun _ h => ⟨h.1, trivial⟩) ?_ | refine CallQ.mk [] _ c2 (fun _ _ => trivial) ?_ | refine CallQ.mk [] _ c3 (fun _ _ => trivial) ?_ | refine FinE.int ?_
        | fail
      all_goals first | (rw [hE0 (by assumption)]) | (rw [hE (by assumption)]; simp [*])
  · have hs : sectOK r.sect = false := by unfold sectOK; rw [decide_eq_true (by omega)]; rfl
    rw [hs] at hE
    generalize validT r.sp r.nm = v at *
    cases v <;>
    · refine fn_of_J Tryz.tyOK 0 Tryz.func17 (by kernel_rfl) (c := Tryz.f17.body.getD .skip) (by kernel_rfl) Tryz.ntmps17 (rs := Tryz.f17.results.toList) rfl (by simp) (fun G => ?_)
      repeat' first
        | refine J_seq ?_ | refine J_region Tryz.tyOK ?_ | refine J_block ?_ | refine J_cond ?_ | refine J_ret ?_ | refine J_skip ?_ | refine J_exit ?_ | refine J_scope ?_
        | refine CondP.yes (by omega) ?_ | refine CondP.no (by omega) ?_ | refine CondP.mk (fun h => ?_) (fun h => ?_) | refine EqP.mk rfl ?_ | refine NewP.mk (fun ad => ?_) | refine ArP.exact (by simp only [inR]; omega) ?_ | refine SideP.mk (by first | omega | (dsimp only; omega) | (simp; omega)) ?_
        | refine J_drawS (id := 3) Tryz.tyOK (by kernel_rfl) [0, 1, 3, 7, 15, 31, 63, 127, 255, 511, 1023, 2047, 4095, 8191, 16383, 32767, 65535, 131071, 262143, 65535, 589823, 2097151, 4194303] [0, 1, 2, 3, 4, 5, 6, 7, 8, 9, 10, 11, 12, 13, 14, 15, 16, 17, 18, 19, 20, 21, 22] [] [3] true (by kernel_rfl) ?_ | refine EntP.mk (Ents.ofSub (by repeat (first | exact List.Sublist.slnil | refine List.Sublist.cons_cons _ ?_ | refine List.Sublist.cons _ ?_)) (by first | exact fun _ h => h | exact fun _ _ => trivial | exact fun _ h => h.2 | exact fun _ h => h.2.2.2.2 | exact fun _ h => ((allD_append _ _).1 h).2)) ?_ | refine CallP.isB (polExists_ok p r.group hl) (fun hx => ?_) (fun hx => ?_) (fun _ h => h.2) | refine CallQ.mk [gInt 0] _ c1 (fun _ h => ⟨h.1, trivial⟩) ?_ | refine FinE.int ?_
        | fail
      all_goals first | (rw [hE0 (by assumption)]) | (rw [hE (by assumption)]; simp [*])

end Go.Proofs
