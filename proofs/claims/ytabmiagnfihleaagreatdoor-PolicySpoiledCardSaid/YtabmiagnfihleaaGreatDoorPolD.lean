/- This text walks through the reading of policy texts in the package policy: words, groups, rules, guards, lines. -/
import Derived.Test.YtabmiagnfihleaaGreatDoorPolC
import Derived.Test.YtabmiagnfihleaaGreatDoorPolS
set_option linter.all false

namespace Go.Proofs
open Go Go.X
set_option maxRecDepth 100000
set_option maxHeartbeats 4000000

theorem trimB_ok (s : Bs) (hs : s.length ≤ 9223372036854775807) : FnS Tryz.prog 32 [.c (.s s), .c (.s [32, 9])] [] [] (Is (.c (.s (trimT s)))) :=
  trim_ok s [32, 9] hs (by decide) (fun j b hb => by
      have := List.mem_of_getElem? hb
      simp at this
      rcases this with rfl | rfl <;> decide)

theorem polNext_ok (s : Bs) (hs : s.length ≤ 1000000) : FnS Tryz.prog 40 [.c (.s s)] [] [] (Is (.t2 (.c (.s (nextT s).1)) (.c (.s (nextT s).2)))) := by
  have c1 := trimB_ok s (by omega)
  have h1 := trimS_le s [32, 9]
  have ht : trimT s = Lib.trimS s [32, 9] := rfl
  rw [← ht] at h1
  have c2 := indexAny_ok (trimT s) 32 9 (by decide) (by decide) (by omega)
  have h2 := indexAny_lt (trimT s) [32, 9]
  have hN : nextT s = if Lib.indexAny (trimT s) [32, 9] < 0 then (trimT s, []) else ((trimT s).take (Lib.indexAny (trimT s) [32, 9]).toNat, trimT ((trimT s).drop (Lib.indexAny (trimT s) [32, 9]).toNat)) := rfl
  have c3 := trimB_ok ((trimT s).drop (Lib.indexAny (trimT s) [32, 9]).toNat) (by simp; omega)
  rw [hN]
  generalize trimT s = t at *
  generalize Lib.indexAny t [32, 9] = k at *
  refine fn_of_J Tryz.tyOK 0 Tryz.func40 (by kernel_rfl) (c := Tryz.f40.body.getD .skip) (by kernel_rfl) Tryz.ntmps40 (rs := Tryz.f40.results.toList) rfl (by simp) (fun G => ?_)
  repeat' first
    | refine J_seq ?_ | refine J_region Tryz.tyOK ?_ | refine J_block ?_ | refine J_cond ?_ | refine J_ret ?_ | refine J_skip ?_ | refine J_exit ?_ | refine J_scope ?_
    | refine CondP.yes (by omega) ?_ | refine CondP.no (by omega) ?_ | refine CondP.mk (fun h => ?_) (fun h => ?_) | refine EqP.mk rfl ?_ | refine NewP.mk (fun ad => ?_) | refine ArP.exact (by simp only [inR]; omega) ?_ | refine SideP.mk (by first | omega | (dsimp only; omega) | (simp; omega)) ?_
    | refine J_drawS (id := 5) Tryz.tyOK (by kernel_rfl) [0, 0, 3, 0, 0, 24, 56, 127, 255] [0, 1, 2, 3, 4, 5, 6, 7, 8] [] [] true (by kernel_rfl) ?_ | refine EntP.mk (Ents.ofSub (by repeat (first | exact List.Sublist.slnil | refine List.Sublist.cons_cons _ ?_ | refine List.Sublist.cons _ ?_)) (by first | exact fun _ h => h | exact fun _ _ => trivial | exact fun _ h => h.2 | exact fun _ h => h.2.2.2.2 | exact fun _ h => ((allD_append _ _).1 h).2)) ?_ | refine CallP.is c1 ?_ | refine CallP.is c2 ?_ | refine CallQ.mk [] _ c3 (fun _ _ => trivial) ?_ | refine FinE.is ?_
    | fail
  · rw [if_pos (by assumption)]; rfl
  · rw [if_neg (by assumption)]

theorem sliceIndex_ok (e : Nat) (a : Option Addr) (c : Nat) (xs : List Bs) (x : Bs) (hl : xs.length ≤ 9223372036854775807) : FnS Tryz.prog 65 [.c (.sl a xs.length c), .c (.s x)] [] [slFact e 1 a xs.length (xs.map C.s)] (Is (.c (.i .i64 (idxS xs x)))) := by
  have hrd : ∀ L, Reads L [slFact e 1 a xs.length (xs.map C.s)] e 1 a xs.length (xs.map C.s) := fun L => .inr fun m h => h.1
  refine fn_of_J Tryz.tyOK 0 Tryz.func65 (by kernel_rfl) (c := Tryz.f65.body.getD .skip) (by kernel_rfl) Tryz.ntmps65 (rs := Tryz.f65.results.toList) rfl (by simp) (fun G => ?_)
  repeat' first
    | refine J_seq ?_ | refine J_region Tryz.tyOK ?_ | refine J_block ?_ | refine J_cond ?_ | refine J_ret ?_ | refine J_skip ?_ | refine J_exit ?_ | refine J_scope ?_
    | refine CondP.yes (by omega) ?_ | refine CondP.no (by omega) ?_ | refine CondP.mk (fun h => ?_) (fun h => ?_) | refine EqP.mk rfl ?_ | refine NewP.mk (fun ad => ?_) | refine ArP.exact (by simp only [inR]; omega) ?_ | refine SideP.mk (by first | omega | (dsimp only; omega) | (simp; omega)) ?_
    | fail
  refine J_loop (α := Nat) (fun i => [(0, .c (.sl a xs.length c)), (1, .c (.s x)), (7, .c (.i .i64 xs.length)), (8, .c (.i .i64 i))]) (fun _ => []) (fun _ => [slFact e 1 a xs.length (xs.map C.s)]) 0
    (fun i => i ≤ xs.length ∧ idxS xs x = if idxS (xs.drop i) x < 0 then -1 else idxS (xs.drop i) x + i) (fun i => xs.length - i) (InFam.mk 0 ⟨by omega, ?_⟩ (by repeat' first | exact SubE.nil | refine SubE.cons rfl ?_ ?_ | exact VEq.refl _ | refine VEq.int (by omega) | refine VEq.sl rfl (by first | rfl | omega | (rw [List.length_append]; rfl) | (simp; omega)) rfl) (Ents.refl _ _)) (fun i hi => ?_)
  · have := idxS_lt xs x
    rw [List.drop_zero]; split <;> omega
  obtain ⟨hi, he⟩ := hi
  by_cases hlt : i < xs.length
  · have hcm := map_take1 (f := C.s) hlt
    rw [List.drop_eq_getElem_cons hlt, idxS] at he
    generalize xs[i] = y at *
    repeat' first
      | refine J_seq ?_ | refine J_region Tryz.tyOK ?_ | refine J_block ?_ | refine J_cond ?_ | refine J_ret ?_ | refine J_skip ?_ | refine J_exit ?_ | refine J_scope ?_
      | refine CondP.yes (by omega) ?_ | refine CondP.no (by omega) ?_ | refine CondP.mk (fun h => ?_) (fun h => ?_) | refine EqP.mk rfl ?_ | refine NewP.mk (fun ad => ?_) | refine ArP.exact (by simp only [inR]; omega) ?_ | refine SideP.mk (by first | omega | (dsimp only; omega) | (simp; omega)) ?_
      | refine IdxE.mk e 1 _ (hrd _) (by omega) (by omega) ?_ | refine LoadE.mk e _ _ _ (hrd _) (by omega) (by omega) (by omega) hcm ?_ | refine FinE.int ?_ | refine Round.mk (i + 1) (by omega) ⟨by omega, ?_⟩ (by repeat' first | exact SubE.nil | refine SubE.cons rfl ?_ ?_ | exact VEq.refl _ | refine VEq.int (by omega) | refine VEq.sl rfl (by first | rfl | omega | (rw [List.length_append]; rfl) | (simp; omega)) rfl) (Ents.refl _ _)
      | fail
    · rw [if_pos ‹x = y›] at he; rw [he, if_neg (by omega)]; omega
    · rw [if_neg ‹¬ x = y›] at he; rw [he]
      have := idxS_lt (xs.drop (i + 1)) x
      by_cases h2 : idxS (xs.drop (i + 1)) x < 0
      · rw [if_pos h2, if_pos h2, if_pos (by omega)]
      · rw [if_neg h2, if_neg h2, if_neg (by omega)]; omega
  · have hil : i = xs.length := by omega
    subst hil
    rw [List.drop_length, idxS, if_pos (by omega)] at he
    repeat' first
      | refine J_seq ?_ | refine J_region Tryz.tyOK ?_ | refine J_block ?_ | refine J_cond ?_ | refine J_ret ?_ | refine J_skip ?_ | refine J_exit ?_ | refine J_scope ?_
      | refine CondP.yes (by omega) ?_ | refine CondP.no (by omega) ?_ | refine CondP.mk (fun h => ?_) (fun h => ?_) | refine EqP.mk rfl ?_ | refine NewP.mk (fun ad => ?_) | refine ArP.exact (by simp only [inR]; omega) ?_ | refine SideP.mk (by first | omega | (dsimp only; omega) | (simp; omega)) ?_
      | refine FinE.int ?_
      | fail
    exact he

theorem rights_ok : FnS Tryz.prog 66 [] [] [] (fun v L D => ∃ a, v = .c (.sl a 5 5) ∧ L = [.row 9 1 a 5 5 (rightsL.map C.s)] ∧ D = []) := by
  refine fn_of_J Tryz.tyOK 0 Tryz.func66 (by kernel_rfl) (c := Tryz.f66.body.getD .skip) (by kernel_rfl) Tryz.ntmps66 (rs := Tryz.f66.results.toList) rfl (by simp) (fun G => ?_)
  repeat' first
    | refine J_seq ?_ | refine J_region Tryz.tyOK ?_ | refine J_block ?_ | refine J_cond ?_ | refine J_ret ?_ | refine J_skip ?_ | refine J_exit ?_ | refine J_scope ?_
    | refine CondP.yes (by omega) ?_ | refine CondP.no (by omega) ?_ | refine CondP.mk (fun h => ?_) (fun h => ?_) | refine EqP.mk rfl ?_ | refine NewP.mk (fun ad => ?_) | refine ArP.exact (by simp only [inR]; omega) ?_ | refine SideP.mk (by first | omega | (dsimp only; omega) | (simp; omega)) ?_
    | exact FinE.mk _ [] ⟨_, rfl, rfl, rfl⟩ (Ents.refl _ _)
    | fail
theorem polSpaces_ok : FnS Tryz.prog 67 [] [] [] (fun v L D => ∃ a, v = .c (.sl a 6 6) ∧ L = [.row 9 1 a 6 6 (spacesL.map C.s)] ∧ D = []) := by
  refine fn_of_J Tryz.tyOK 0 Tryz.func67 (by kernel_rfl) (c := Tryz.f67.body.getD .skip) (by kernel_rfl) Tryz.ntmps67 (rs := Tryz.f67.results.toList) rfl (by simp) (fun G => ?_)
  repeat' first
    | refine J_seq ?_ | refine J_region Tryz.tyOK ?_ | refine J_block ?_ | refine J_cond ?_ | refine J_ret ?_ | refine J_skip ?_ | refine J_exit ?_ | refine J_scope ?_
    | refine CondP.yes (by omega) ?_ | refine CondP.no (by omega) ?_ | refine CondP.mk (fun h => ?_) (fun h => ?_) | refine EqP.mk rfl ?_ | refine NewP.mk (fun ad => ?_) | refine ArP.exact (by simp only [inR]; omega) ?_ | refine SideP.mk (by first | omega | (dsimp only; omega) | (simp; omega)) ?_
    | exact FinE.mk _ [] ⟨_, rfl, rfl, rfl⟩ (Ents.refl _ _)
    | fail

theorem groupFn_ok (r : Nat) (h : r ≤ 1114111) : FnS Tryz.prog 64 [.c (.i .i32 r)] [] [] (Is (.c (.b (decide (r = 32) || decide (r = 9))))) := by
  refine fn_of_J Tryz.tyOK 0 Tryz.func64 (by kernel_rfl) (c := Tryz.f64.body.getD .skip) (by kernel_rfl) Tryz.ntmps64 (rs := Tryz.f64.results.toList) rfl (by simp) (fun G => ?_)
  repeat' first
    | refine J_seq ?_ | refine J_region Tryz.tyOK ?_ | refine J_block ?_ | refine J_cond ?_ | refine J_ret ?_ | refine J_skip ?_ | refine J_exit ?_ | refine J_scope ?_
    | refine CondP.yes (by omega) ?_ | refine CondP.no (by omega) ?_ | refine CondP.mk (fun h => ?_) (fun h => ?_) | refine EqP.mk rfl ?_ | refine NewP.mk (fun ad => ?_) | refine ArP.exact (by simp only [inR]; omega) ?_ | refine SideP.mk (by first | omega | (dsimp only; omega) | (simp; omega)) ?_
    | refine FinE.bool ?_
    | fail
  all_goals first | (rw [decide_eq_true (by omega)]; rfl) | (rw [decide_eq_false (by omega), decide_eq_true (by omega)]; rfl) | (rw [decide_eq_false (by omega), decide_eq_false (by omega)]; rfl)

theorem gsC_snoc (l : List GrpM) (r : GrpM) : gsC (l ++ [r]) = gsC l ++ r.cells := by simp [gsC]
theorem rsC_snoc (l : List Rul) (r : Rul) : rsC (l ++ [r]) = rsC l ++ r.cells := by simp [rsC]
theorem xsC_snoc (l : List Grd) (r : Grd) : xsC (l ++ [r]) = xsC l ++ r.cells := by simp [xsC]

/-- A policy that is being read. -/
def polL (ad : Nat) (p : PolM) : List Chunk := [.box 1 ad 27 p.cells, .row 35 2 p.ga p.gs.length p.gc (gsC p.gs), .row 42 6 p.ra p.rs.length p.rc (rsC p.rs), .row 45 5 p.xa p.xs.length p.xc (xsC p.xs)]
def PolM.p3 (p : PolM) : P3 := (gpOf p.gs, p.rs, p.xs)
/-- What reading one line leaves. -/
abbrev stPost (ad : Nat) (r : Bool × P3) : V → List Chunk → List Fact → Prop := fun v L D => ∃ p : PolM, p.p3 = r.2 ∧ v = .c (.b r.1) ∧ L = polL ad p ∧ D = [memsF p.gs]

theorem fieldsFact_ok (s : Bs) (hs : s.length ≤ 1000000) : FnS Tryz.prog 63 [.c (.s s), .c (.fn 64 [])] [] [] (fun v L D => ∃ a, v = .c (.sl a (wordsT blankB s).length (wordsT blankB s).length) ∧
      L = [] ∧ D = [slFact 0 1 a (wordsT blankB s).length ((wordsT blankB s).map C.s)]) :=
  (fieldsFunc_ok _ s (by omega) groupFn_ok).entsP fun v L1 D1 ⟨a, h1, h2, h3⟩ => ⟨[], [slFact 0 1 a (wordsT blankB s).length ((wordsT blankB s).map C.s)], by subst h2 h3; exact Ents.toFact, a, h1, rfl, rfl⟩

theorem memsF_add {m : Im} {gs : List GrpM} {g : GrpM} (h : (memsF gs).p m) (h2 : SlF m 0 1 g.a g.mem.length (g.mem.map C.s)) : (memsF (gs ++ [g])).p m := fun x hx => by
  rcases List.mem_append.1 hx with hx | hx
  · exact h x hx
  · rw [List.mem_singleton.1 hx]; exact h2

theorem polGroup_ok (pd : Nat) (p : PolM) (rest : Bs) (hr : rest.length ≤ 1000000) (hl : p.gs.length ≤ 1000000) : FnS Tryz.prog 41 [.c (.p 1 pd 0), .c (.s rest)] (polL pd p) [memsF p.gs] (stPost pd (groupT p.p3 rest)) := by
  have hn := nextT_le rest
  have c1 := polNext_ok rest hr
  have c2 := fieldsFact_ok (nextT rest).2 (by omega)
  have hG : groupT p.p3 rest = (!decide ((nextT rest).1 = []), (gpOf p.gs ++ [((nextT rest).1, wordsT blankB (nextT rest).2)], p.rs, p.xs)) := rfl
  rw [hG]
  generalize (nextT rest).1 = nm at *
  generalize (nextT rest).2 = re at *
  generalize wordsT blankB re = ws at *
  refine fn_of_J Tryz.tyOK 5000 Tryz.func41 (by kernel_rfl) (c := Tryz.f41.body.getD .skip) (by kernel_rfl) Tryz.ntmps41 (rs := Tryz.f41.results.toList) rfl (by simp) (fun G => ?_)
  repeat' first
    | refine J_seq ?_ | refine J_region Tryz.tyOK ?_ | refine J_block ?_ | refine J_cond ?_ | refine J_ret ?_ | refine J_skip ?_ | refine J_exit ?_ | refine J_scope ?_
    | refine CondP.yes (by omega) ?_ | refine CondP.no (by omega) ?_ | refine CondP.mk (fun h => ?_) (fun h => ?_) | refine EqP.mk rfl ?_ | refine NewP.mk (fun ad => ?_) | refine ArP.exact (by simp only [inR]; omega) ?_ | refine SideP.mk (by first | omega | (dsimp only; omega) | (simp; omega)) ?_
    | refine CallP.is c1 ?_ | refine CallP.mk [] _ [] _ c2 (List.Perm.refl _) (fun _ _ => trivial) (fun v L' D' hp => ?_); obtain ⟨b, rfl, rfl, rfl⟩ := hp | refine AppE.row [_, _] [_, _] (gsC p.gs) [.s nm, .sl b ws.length ws.length] 1 rfl (SrcE.sl 35 35 _ _ 1 1 _ rfl rfl (.inl ⟨1, List.Mem.head _⟩) rfl) (by show (p.gs.length + 1) * 40 ≤ _; omega) (fun a' c' => ?_) | refine FinE.mk (polL pd { p with ga := a', gc := c', gs := p.gs ++ [⟨nm, b, ws.length, ws⟩] }) [memsF (p.gs ++ [⟨nm, b, ws.length, ws⟩])] ⟨_, ?_, ?_, rfl, rfl⟩ ?_
    | fail
  all_goals first
    | (simp [PolM.p3, gpOf]; done)
    | (have h' : nm = [] := h; simp [h']; done)
    | (have h' : ¬ nm = [] := h; simp [h']; done)
    | exact Ents.drop.trans ((Ents.of (by simp [polL, PolM.cells, gsC, GrpM.cells])).trans (Ents.facts fun m h => ⟨memsF_add h.2.1 h.1, trivial⟩))

theorem polRule_ok (pd : Nat) (p : PolM) (rest : Bs) (allow : Bool) (hr : rest.length ≤ 1000000) (hl : p.rs.length ≤ 1000000) : FnS Tryz.prog 42 [.c (.p 1 pd 0), .c (.s rest), .c (.b allow)] (polL pd p) [memsF p.gs, gInt 0] (stPost pd (ruleT p.p3 rest allow)) := by
  have hn := nextT_le rest
  have c1 := polNext_ok rest hr
  have hn2 := nextT_le (nextT rest).2
  have c2 := polNext_ok (nextT rest).2 (by omega)
  have hG : ruleT p.p3 rest allow = if idxS rightsL (nextT rest).1 + 1 = 0 then (false, p.p3) else match scopeT (nextT (nextT rest).2).2 with
    | none => (false, p.p3)
    | some (k, sp, nm) => (true, (gpOf p.gs, p.rs ++ [⟨allow, idxS rightsL (nextT rest).1 + 1, (nextT (nextT rest).2).1, k, sp, nm⟩], p.xs)) := rfl
  rw [hG]
  clear hG
  generalize nextT (nextT rest).2 = n2 at *
  generalize (nextT rest).1 = wd at *
  generalize (nextT rest).2 = re at *
  obtain ⟨nm, sc⟩ := n2
  simp only at hn2 c2 ⊢
  have c3 := fun e a => sliceIndex_ok e a 5 rightsL wd (by decide)
  have c4 := fun e a => sliceIndex_ok e a 6 spacesL sc (by decide)
  have c5 := parse_ok sc (by omega)
  have hr1 := idxS_lt rightsL wd
  have hs1 := idxS_lt spacesL sc
  have hrl : (rightsL.length : Int) = 5 := rfl
  have hsl : (spacesL.length : Int) = 6 := rfl
  rw [hrl] at hr1
  rw [hsl] at hs1
  unfold scopeT
  generalize idxS rightsL wd = k at *
  generalize idxS spacesL sc = k2 at *
  generalize parseT sc = t at *
  obtain ⟨sp, tn, er⟩ := t
  simp only
  have fin : ∀ m, allD m [memsF p.gs, gInt 0] → allD m [memsF p.gs] := fun m h => ⟨h.1, trivial⟩
  by_cases hk : k + 1 = 0
  · rw [if_pos hk]
    refine fn_of_J Tryz.tyOK 5000 Tryz.func42 (by kernel_rfl) (c := Tryz.f42.body.getD .skip) (by kernel_rfl) Tryz.ntmps42 (rs := Tryz.f42.results.toList) rfl (by simp) (fun G => ?_)
    repeat' first
      | refine J_seq ?_ | refine J_region Tryz.tyOK ?_ | refine J_block ?_ | refine J_cond ?_ | refine J_ret ?_ | refine J_skip ?_ | refine J_exit ?_ | refine J_scope ?_
      | refine CondP.yes (by omega) ?_ | refine CondP.no (by omega) ?_ | refine CondP.mk (fun h => ?_) (fun h => ?_) | refine EqP.mk rfl ?_ | refine NewP.mk (fun ad => ?_) | refine ArP.exact (by simp only [inR]; omega) ?_ | refine SideP.mk (by first | omega | (dsimp only; omega) | (simp; omega)) ?_
      | refine CallP.is c1 ?_ | refine CallP.is c2 ?_ | refine CallP.mk [] _ [] _ rights_ok (List.Perm.refl _) (fun _ _ => trivial) (fun v L' D' hp => ?_); obtain ⟨b, rfl, rfl, rfl⟩ := hp | refine CallP.isE (c3 9 _) Ents.toFact (fun _ h => ⟨h.1, trivial⟩) ?_ | refine CallP.mk [] _ [] _ polSpaces_ok (List.Perm.refl _) (fun _ _ => trivial) (fun v L' D' hp => ?_); obtain ⟨b, rfl, rfl, rfl⟩ := hp | refine CallP.isE (c4 9 _) Ents.toFact (fun _ h => ⟨h.1, trivial⟩) ?_ | refine CallP.is c5 ?_ (fun m h => ⟨by repeat (first | exact h.1 | exact h | replace h := h.2), trivial⟩) | refine J_drawZ (id := 15) Tryz.tyOK (by kernel_rfl) [0, 0, 2, 6, 14, 0, 32, 126, 255, 511, 1023] [0, 1, 2, 3, 4, 5, 6, 7, 8, 9, 10] [6, 7, 10] [0, 10] 10 false (by kernel_rfl) ?_ | refine EntP.mk (Ents.ofSub (by repeat (first | exact List.Sublist.slnil | refine List.Sublist.cons_cons _ ?_ | refine List.Sublist.cons _ ?_)) (by first | exact fun _ h => h | exact fun _ _ => trivial | exact fun _ h => h.2 | exact fun _ h => h.2.2.2.2 | exact fun _ h => ((allD_append _ _).1 h).2)) ?_ | refine FinE.mk (polL pd p) [memsF p.gs] ⟨p, rfl, rfl, rfl, rfl⟩ (Ents.drop.trans (Ents.facts ?_))
      | fail
    all_goals exact fun m h => ⟨by repeat (first | exact h.1 | exact h | replace h := h.2), trivial⟩
  rw [if_neg hk]
  by_cases hw : sc = wAll
  · rw [if_pos hw]
    have hw' : sc = [60, 97, 108, 108, 62] := hw
    refine fn_of_J Tryz.tyOK 5000 Tryz.func42 (by kernel_rfl) (c := Tryz.f42.body.getD .skip) (by kernel_rfl) Tryz.ntmps42 (rs := Tryz.f42.results.toList) rfl (by simp) (fun G => ?_)
    repeat' first
      | refine CondP.yes hw' ?_
      | refine J_seq ?_ | refine J_region Tryz.tyOK ?_ | refine J_block ?_ | refine J_cond ?_ | refine J_ret ?_ | refine J_skip ?_ | refine J_exit ?_ | refine J_scope ?_
      | refine CondP.yes (by omega) ?_ | refine CondP.no (by omega) ?_ | refine CondP.mk (fun h => ?_) (fun h => ?_) | refine EqP.mk rfl ?_ | refine NewP.mk (fun ad => ?_) | refine ArP.exact (by simp only [inR]; omega) ?_ | refine SideP.mk (by first | omega | (dsimp only; omega) | (simp; omega)) ?_
      | refine CallP.is c1 ?_ | refine CallP.is c2 ?_ | refine CallP.mk [] _ [] _ rights_ok (List.Perm.refl _) (fun _ _ => trivial) (fun v L' D' hp => ?_); obtain ⟨b, rfl, rfl, rfl⟩ := hp | refine CallP.isE (c3 9 _) Ents.toFact (fun _ h => ⟨h.1, trivial⟩) ?_ | refine CallP.mk [] _ [] _ polSpaces_ok (List.Perm.refl _) (fun _ _ => trivial) (fun v L' D' hp => ?_); obtain ⟨b, rfl, rfl, rfl⟩ := hp | refine CallP.isE (c4 9 _) Ents.toFact (fun _ h => ⟨h.1, trivial⟩) ?_ | refine CallP.is c5 ?_ (fun m h => ⟨by repeat (first | exact h.1 | exact h | replace h := h.2), trivial⟩) | refine J_drawZ (id := 15) Tryz.tyOK (by kernel_rfl) [0, 0, 2, 6, 14, 0, 32, 126, 255, 511, 1023] [0, 1, 2, 3, 4, 5, 6, 7, 8, 9, 10] [6, 7, 10] [0, 10] 10 false (by kernel_rfl) ?_ | refine EntP.mk (Ents.ofSub (by repeat (first | exact List.Sublist.slnil | refine List.Sublist.cons_cons _ ?_ | refine List.Sublist.cons _ ?_)) (by first | exact fun _ h => h | exact fun _ _ => trivial | exact fun _ h => h.2 | exact fun _ h => h.2.2.2.2 | exact fun _ h => ((allD_append _ _).1 h).2)) ?_ | refine AppE.row [_, _, _, _] [_] (rsC p.rs) _ 1 rfl (SrcE.sl 42 42 _ _ 1 1 _ rfl rfl (.inl ⟨1, List.Mem.head _⟩) rfl) (by show (p.rs.length + 1) * 64 ≤ _; omega) (fun a' c' => ?_) | refine FinE.mk (polL pd { p with ra := a', rc := c', rs := p.rs ++ [⟨allow, k + 1, nm, 1, 0, []⟩] }) [memsF p.gs] ⟨_, rfl, rfl, rfl, rfl⟩ (Ents.drop.trans (Ents.drop.trans ((Ents.of ?_).trans (Ents.facts ?_))))
      | fail
    all_goals first | (simp only [polL, PolM.cells, rsC_snoc, List.length_append, List.length_singleton]; rfl) | exact fun m h => ⟨by repeat (first | exact h.1 | exact h | replace h := h.2), trivial⟩
  rw [if_neg hw]
  have hw' : ¬ sc = [60, 97, 108, 108, 62] := hw
  by_cases hk2 : 0 ≤ k2
  · rw [if_pos hk2]
    refine fn_of_J Tryz.tyOK 5000 Tryz.func42 (by kernel_rfl) (c := Tryz.f42.body.getD .skip) (by kernel_rfl) Tryz.ntmps42 (rs := Tryz.f42.results.toList) rfl (by simp) (fun G => ?_)
    repeat' first
      | refine CondP.no hw' ?_
      | refine J_seq ?_ | refine J_region Tryz.tyOK ?_ | refine J_block ?_ | refine J_cond ?_ | refine J_ret ?_ | refine J_skip ?_ | refine J_exit ?_ | refine J_scope ?_
      | refine CondP.yes (by omega) ?_ | refine CondP.no (by omega) ?_ | refine CondP.mk (fun h => ?_) (fun h => ?_) | refine EqP.mk rfl ?_ | refine NewP.mk (fun ad => ?_) | refine ArP.exact (by simp only [inR]; omega) ?_ | refine SideP.mk (by first | omega | (dsimp only; omega) | (simp; omega)) ?_
      | refine CallP.is c1 ?_ | refine CallP.is c2 ?_ | refine CallP.mk [] _ [] _ rights_ok (List.Perm.refl _) (fun _ _ => trivial) (fun v L' D' hp => ?_); obtain ⟨b, rfl, rfl, rfl⟩ := hp | refine CallP.isE (c3 9 _) Ents.toFact (fun _ h => ⟨h.1, trivial⟩) ?_ | refine CallP.mk [] _ [] _ polSpaces_ok (List.Perm.refl _) (fun _ _ => trivial) (fun v L' D' hp => ?_); obtain ⟨b, rfl, rfl, rfl⟩ := hp | refine CallP.isE (c4 9 _) Ents.toFact (fun _ h => ⟨h.1, trivial⟩) ?_ | refine CallP.is c5 ?_ (fun m h => ⟨by repeat (first | exact h.1 | exact h | replace h := h.2), trivial⟩) | refine J_drawZ (id := 15) Tryz.tyOK (by kernel_rfl) [0, 0, 2, 6, 14, 0, 32, 126, 255, 511, 1023] [0, 1, 2, 3, 4, 5, 6, 7, 8, 9, 10] [6, 7, 10] [0, 10] 10 false (by kernel_rfl) ?_ | refine EntP.mk (Ents.ofSub (by repeat (first | exact List.Sublist.slnil | refine List.Sublist.cons_cons _ ?_ | refine List.Sublist.cons _ ?_)) (by first | exact fun _ h => h | exact fun _ _ => trivial | exact fun _ h => h.2 | exact fun _ h => h.2.2.2.2 | exact fun _ h => ((allD_append _ _).1 h).2)) ?_ | refine AppE.row [_, _, _, _] [_] (rsC p.rs) _ 1 rfl (SrcE.sl 42 42 _ _ 1 1 _ rfl rfl (.inl ⟨1, List.Mem.head _⟩) rfl) (by show (p.rs.length + 1) * 64 ≤ _; omega) (fun a' c' => ?_) | refine FinE.mk (polL pd { p with ra := a', rc := c', rs := p.rs ++ [⟨allow, k + 1, nm, 2, k2, []⟩] }) [memsF p.gs] ⟨_, rfl, rfl, rfl, rfl⟩ (Ents.drop.trans (Ents.drop.trans ((Ents.of ?_).trans (Ents.facts ?_))))
      | fail
    all_goals first | (simp only [polL, PolM.cells, rsC_snoc, List.length_append, List.length_singleton]; rfl) | exact fun m h => ⟨by repeat (first | exact h.1 | exact h | replace h := h.2), trivial⟩
  rw [if_neg hk2]
  by_cases he : er = 0
  · rw [if_pos he]
    refine fn_of_J Tryz.tyOK 5000 Tryz.func42 (by kernel_rfl) (c := Tryz.f42.body.getD .skip) (by kernel_rfl) Tryz.ntmps42 (rs := Tryz.f42.results.toList) rfl (by simp) (fun G => ?_)
    repeat' first
      | refine CondP.no hw' ?_
      | refine J_seq ?_ | refine J_region Tryz.tyOK ?_ | refine J_block ?_ | refine J_cond ?_ | refine J_ret ?_ | refine J_skip ?_ | refine J_exit ?_ | refine J_scope ?_
      | refine CondP.yes (by omega) ?_ | refine CondP.no (by omega) ?_ | refine CondP.mk (fun h => ?_) (fun h => ?_) | refine EqP.mk rfl ?_ | refine NewP.mk (fun ad => ?_) | refine ArP.exact (by simp only [inR]; omega) ?_ | refine SideP.mk (by first | omega | (dsimp only; omega) | (simp; omega)) ?_
      | refine CallP.is c1 ?_ | refine CallP.is c2 ?_ | refine CallP.mk [] _ [] _ rights_ok (List.Perm.refl _) (fun _ _ => trivial) (fun v L' D' hp => ?_); obtain ⟨b, rfl, rfl, rfl⟩ := hp | refine CallP.isE (c3 9 _) Ents.toFact (fun _ h => ⟨h.1, trivial⟩) ?_ | refine CallP.mk [] _ [] _ polSpaces_ok (List.Perm.refl _) (fun _ _ => trivial) (fun v L' D' hp => ?_); obtain ⟨b, rfl, rfl, rfl⟩ := hp | refine CallP.isE (c4 9 _) Ents.toFact (fun _ h => ⟨h.1, trivial⟩) ?_ | refine CallP.is c5 ?_ (fun m h => ⟨by repeat (first | exact h.1 | exact h | replace h := h.2), trivial⟩) | refine J_drawZ (id := 15) Tryz.tyOK (by kernel_rfl) [0, 0, 2, 6, 14, 0, 32, 126, 255, 511, 1023] [0, 1, 2, 3, 4, 5, 6, 7, 8, 9, 10] [6, 7, 10] [0, 10] 10 false (by kernel_rfl) ?_ | refine EntP.mk (Ents.ofSub (by repeat (first | exact List.Sublist.slnil | refine List.Sublist.cons_cons _ ?_ | refine List.Sublist.cons _ ?_)) (by first | exact fun _ h => h | exact fun _ _ => trivial | exact fun _ h => h.2 | exact fun _ h => h.2.2.2.2 | exact fun _ h => ((allD_append _ _).1 h).2)) ?_ | refine AppE.row [_, _, _, _, _] [_] (rsC p.rs) _ 1 rfl (SrcE.sl 42 42 _ _ 1 1 _ rfl rfl (.inl ⟨1, List.Mem.head _⟩) rfl) (by show (p.rs.length + 1) * 64 ≤ _; omega) (fun a' c' => ?_) | refine FinE.mk (polL pd { p with ra := a', rc := c', rs := p.rs ++ [⟨allow, k + 1, nm, 3, sp, tn⟩] }) [memsF p.gs] ⟨_, rfl, rfl, rfl, rfl⟩ (Ents.drop.trans (Ents.drop.trans (Ents.drop.trans ((Ents.of ?_).trans (Ents.facts ?_)))))
      | fail
    all_goals first | (simp only [polL, PolM.cells, rsC_snoc, List.length_append, List.length_singleton]; rfl) | exact fun m h => ⟨by repeat (first | exact h.1 | exact h | replace h := h.2), trivial⟩
  · rw [if_neg he]
    refine fn_of_J Tryz.tyOK 5000 Tryz.func42 (by kernel_rfl) (c := Tryz.f42.body.getD .skip) (by kernel_rfl) Tryz.ntmps42 (rs := Tryz.f42.results.toList) rfl (by simp) (fun G => ?_)
    repeat' first
      | refine CondP.no hw' ?_
      | refine J_seq ?_ | refine J_region Tryz.tyOK ?_ | refine J_block ?_ | refine J_cond ?_ | refine J_ret ?_ | refine J_skip ?_ | refine J_exit ?_ | refine J_scope ?_
      | refine CondP.yes (by omega) ?_ | refine CondP.no (by omega) ?_ | refine CondP.mk (fun h => ?_) (fun h => ?_) | refine EqP.mk rfl ?_ | refine NewP.mk (fun ad => ?_) | refine ArP.exact (by simp only [inR]; omega) ?_ | refine SideP.mk (by first | omega | (dsimp only; omega) | (simp; omega)) ?_
      | refine CallP.is c1 ?_ | refine CallP.is c2 ?_ | refine CallP.mk [] _ [] _ rights_ok (List.Perm.refl _) (fun _ _ => trivial) (fun v L' D' hp => ?_); obtain ⟨b, rfl, rfl, rfl⟩ := hp | refine CallP.isE (c3 9 _) Ents.toFact (fun _ h => ⟨h.1, trivial⟩) ?_ | refine CallP.mk [] _ [] _ polSpaces_ok (List.Perm.refl _) (fun _ _ => trivial) (fun v L' D' hp => ?_); obtain ⟨b, rfl, rfl, rfl⟩ := hp | refine CallP.isE (c4 9 _) Ents.toFact (fun _ h => ⟨h.1, trivial⟩) ?_ | refine CallP.is c5 ?_ (fun m h => ⟨by repeat (first | exact h.1 | exact h | replace h := h.2), trivial⟩) | refine J_drawZ (id := 15) Tryz.tyOK (by kernel_rfl) [0, 0, 2, 6, 14, 0, 32, 126, 255, 511, 1023] [0, 1, 2, 3, 4, 5, 6, 7, 8, 9, 10] [6, 7, 10] [0, 10] 10 false (by kernel_rfl) ?_ | refine EntP.mk (Ents.ofSub (by repeat (first | exact List.Sublist.slnil | refine List.Sublist.cons_cons _ ?_ | refine List.Sublist.cons _ ?_)) (by first | exact fun _ h => h | exact fun _ _ => trivial | exact fun _ h => h.2 | exact fun _ h => h.2.2.2.2 | exact fun _ h => ((allD_append _ _).1 h).2)) ?_ | refine FinE.mk (polL pd p) [memsF p.gs] ⟨p, rfl, rfl, rfl, rfl⟩ (Ents.drop.trans (Ents.drop.trans (Ents.facts ?_)))
      | fail
    all_goals exact fun m h => ⟨by repeat (first | exact h.1 | exact h | replace h := h.2), trivial⟩

theorem polGuard_ok (pd : Nat) (p : PolM) (rest : Bs) (strict : Bool) (hr : rest.length ≤ 1000000) (hl : p.xs.length ≤ 1000000) : FnS Tryz.prog 43 [.c (.p 1 pd 0), .c (.s rest), .c (.b strict)] (polL pd p) [memsF p.gs, gInt 0] (stPost pd (guardT p.p3 rest strict)) := by
  have hn := nextT_le rest
  have c1 := polNext_ok rest hr
  have hG : guardT p.p3 rest strict = if (parseT (trimT (cutAt 124 (nextT rest).2).1)).2.2 ≠ 0 ∨ ((cutAt 124 (nextT rest).2).2.2 = true ∧ trimT (cutAt 124 (nextT rest).2).2.1 = []) then (false, p.p3) else (true, (gpOf p.gs, p.rs, p.xs ++ [⟨strict, (nextT rest).1, (parseT (trimT (cutAt 124 (nextT rest).2).1)).1, (parseT (trimT (cutAt 124 (nextT rest).2).1)).2.1, trimT (cutAt 124 (nextT rest).2).2.1⟩])) := rfl
  rw [hG]
  clear hG
  generalize (nextT rest).1 = nm at *
  generalize (nextT rest).2 = re at *
  have c2 := cutOne_ok re 124 (by omega)
  have hl1 := cutAt_len1 124 re
  have hl2 := cutAt_len2 124 re
  generalize cutAt 124 re = c at *
  obtain ⟨x, y, b⟩ := c
  simp only at hl1 hl2 c2 ⊢
  have c3 := trimB_ok y (by omega)
  have c4 := trimB_ok x (by omega)
  have hl3 := trimT_le x
  generalize trimT y = ty at *
  generalize trimT x = tx at *
  have c5 := parse_ok tx (by omega)
  generalize parseT tx = t at *
  obtain ⟨sp, tn, er⟩ := t
  simp only
  by_cases he : er = 0
  · by_cases hb : b = true ∧ ty = []
    · obtain ⟨rfl, hty⟩ := hb
      rw [if_pos (.inr ⟨rfl, hty⟩)]
      refine fn_of_J Tryz.tyOK 5000 Tryz.func43 (by kernel_rfl) (c := Tryz.f43.body.getD .skip) (by kernel_rfl) Tryz.ntmps43 (rs := Tryz.f43.results.toList) rfl (by simp) (fun G => ?_)
      repeat' first
        | refine CondP.yes hty ?_
        | refine J_seq ?_ | refine J_region Tryz.tyOK ?_ | refine J_block ?_ | refine J_cond ?_ | refine J_ret ?_ | refine J_skip ?_ | refine J_exit ?_ | refine J_scope ?_
        | refine CondP.yes (by omega) ?_ | refine CondP.no (by omega) ?_ | refine CondP.mk (fun h => ?_) (fun h => ?_) | refine EqP.mk rfl ?_ | refine NewP.mk (fun ad => ?_) | refine ArP.exact (by simp only [inR]; omega) ?_ | refine SideP.mk (by first | omega | (dsimp only; omega) | (simp; omega)) ?_
        | refine CallP.is c1 ?_ | refine CallP.is c2 ?_ | refine CallP.is c3 ?_ | refine CallP.is c4 ?_ | refine CallP.is c5 ?_ (fun m h => ⟨by repeat (first | exact h.1 | exact h | replace h := h.2), trivial⟩) | refine J_drawZ (id := 7) Tryz.tyOK (by kernel_rfl) [0, 0, 2, 6, 14, 0, 0, 0, 0, 480, 992, 2046, 4095, 8191, 16383] [0, 1, 2, 3, 4, 5, 6, 7, 8, 9, 10, 11, 12, 13, 14] [10, 11, 14] [0, 11] 14 false (by kernel_rfl) ?_ | refine EntP.mk (Ents.ofSub (by repeat (first | exact List.Sublist.slnil | refine List.Sublist.cons_cons _ ?_ | refine List.Sublist.cons _ ?_)) (by first | exact fun _ h => h | exact fun _ _ => trivial | exact fun _ h => h.2 | exact fun _ h => h.2.2.2.2 | exact fun _ h => ((allD_append _ _).1 h).2)) ?_ | refine FinE.mk (polL pd p) [memsF p.gs] ⟨p, rfl, rfl, rfl, rfl⟩ (Ents.drop.trans (Ents.facts ?_))
        | fail
      all_goals exact fun m h => ⟨by repeat (first | exact h.1 | exact h | replace h := h.2), trivial⟩
    · rw [if_neg (by simp only [ne_eq, he, not_true_eq_false, false_or]; exact hb)]
      cases b
      all_goals
        first | (have hty : ¬ ty = [] := fun h => hb ⟨rfl, h⟩) | (have hty : ¬ (0 : Int) = 1 := by decide)
        refine fn_of_J Tryz.tyOK 5000 Tryz.func43 (by kernel_rfl) (c := Tryz.f43.body.getD .skip) (by kernel_rfl) Tryz.ntmps43 (rs := Tryz.f43.results.toList) rfl (by simp) (fun G => ?_)
        repeat' first
          | refine CondP.no hty ?_
          | refine J_seq ?_ | refine J_region Tryz.tyOK ?_ | refine J_block ?_ | refine J_cond ?_ | refine J_ret ?_ | refine J_skip ?_ | refine J_exit ?_ | refine J_scope ?_
          | refine CondP.yes (by omega) ?_ | refine CondP.no (by omega) ?_ | refine CondP.mk (fun h => ?_) (fun h => ?_) | refine EqP.mk rfl ?_ | refine NewP.mk (fun ad => ?_) | refine ArP.exact (by simp only [inR]; omega) ?_ | refine SideP.mk (by first | omega | (dsimp only; omega) | (simp; omega)) ?_
          | refine CallP.is c1 ?_ | refine CallP.is c2 ?_ | refine CallP.is c3 ?_ | refine CallP.is c4 ?_ | refine CallP.is c5 ?_ (fun m h => ⟨by repeat (first | exact h.1 | exact h | replace h := h.2), trivial⟩) | refine J_drawZ (id := 7) Tryz.tyOK (by kernel_rfl) [0, 0, 2, 6, 14, 0, 0, 0, 0, 480, 992, 2046, 4095, 8191, 16383] [0, 1, 2, 3, 4, 5, 6, 7, 8, 9, 10, 11, 12, 13, 14] [10, 11, 14] [0, 11] 14 false (by kernel_rfl) ?_ | refine EntP.mk (Ents.ofSub (by repeat (first | exact List.Sublist.slnil | refine List.Sublist.cons_cons _ ?_ | refine List.Sublist.cons _ ?_)) (by first | exact fun _ h => h | exact fun _ _ => trivial | exact fun _ h => h.2 | exact fun _ h => h.2.2.2.2 | exact fun _ h => ((allD_append _ _).1 h).2)) ?_ | refine AppE.row [_, _, _, _, _] [] (xsC p.xs) _ 1 rfl (SrcE.sl 45 45 _ _ 1 1 _ rfl rfl (.inl ⟨1, List.Mem.head _⟩) rfl) (by show (p.xs.length + 1) * 64 ≤ _; omega) (fun a' c' => ?_) | refine FinE.mk (polL pd { p with xa := a', xc := c', xs := p.xs ++ [⟨strict, nm, sp, tn, ty⟩] }) [memsF p.gs] ⟨_, rfl, rfl, rfl, rfl⟩ (Ents.drop.trans (Ents.drop.trans ((Ents.of ?_).trans (Ents.facts ?_))))
          | fail
        all_goals first | (simp only [polL, PolM.cells, xsC_snoc, List.length_append, List.length_singleton]; rfl) | exact fun m h => ⟨by repeat (first | exact h.1 | exact h | replace h := h.2), trivial⟩
  · rw [if_pos (.inl he)]
    refine fn_of_J Tryz.tyOK 5000 Tryz.func43 (by kernel_rfl) (c := Tryz.f43.body.getD .skip) (by kernel_rfl) Tryz.ntmps43 (rs := Tryz.f43.results.toList) rfl (by simp) (fun G => ?_)
    repeat' first
      | refine J_seq ?_ | refine J_region Tryz.tyOK ?_ | refine J_block ?_ | refine J_cond ?_ | refine J_ret ?_ | refine J_skip ?_ | refine J_exit ?_ | refine J_scope ?_
      | refine CondP.yes (by omega) ?_ | refine CondP.no (by omega) ?_ | refine CondP.mk (fun h => ?_) (fun h => ?_) | refine EqP.mk rfl ?_ | refine NewP.mk (fun ad => ?_) | refine ArP.exact (by simp only [inR]; omega) ?_ | refine SideP.mk (by first | omega | (dsimp only; omega) | (simp; omega)) ?_
      | refine CallP.is c1 ?_ | refine CallP.is c2 ?_ | refine CallP.is c3 ?_ | refine CallP.is c4 ?_ | refine CallP.is c5 ?_ (fun m h => ⟨by repeat (first | exact h.1 | exact h | replace h := h.2), trivial⟩) | refine J_drawZ (id := 7) Tryz.tyOK (by kernel_rfl) [0, 0, 2, 6, 14, 0, 0, 0, 0, 480, 992, 2046, 4095, 8191, 16383] [0, 1, 2, 3, 4, 5, 6, 7, 8, 9, 10, 11, 12, 13, 14] [10, 11, 14] [0, 11] 14 false (by kernel_rfl) ?_ | refine EntP.mk (Ents.ofSub (by repeat (first | exact List.Sublist.slnil | refine List.Sublist.cons_cons _ ?_ | refine List.Sublist.cons _ ?_)) (by first | exact fun _ h => h | exact fun _ _ => trivial | exact fun _ h => h.2 | exact fun _ h => h.2.2.2.2 | exact fun _ h => ((allD_append _ _).1 h).2)) ?_ | refine FinE.mk (polL pd p) [memsF p.gs] ⟨p, rfl, rfl, rfl, rfl⟩ (Ents.drop.trans (Ents.facts ?_))
      | fail
    all_goals exact fun m h => ⟨by repeat (first | exact h.1 | exact h | replace h := h.2), trivial⟩

end Go.Proofs
