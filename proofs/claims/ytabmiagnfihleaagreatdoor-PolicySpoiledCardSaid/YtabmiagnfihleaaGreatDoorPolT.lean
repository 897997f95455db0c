/- This text walks through the checks of policies in the reference of chapter 12. -/
import Derived.Test.YtabmiagnfihleaaGreatDoorPolR
import Derived.Test.YtabmiagnfihleaaGreatDoorPolC
set_option linter.all false

namespace Go.Proofs
open Go Go.X
set_option maxRecDepth 100000
set_option maxHeartbeats 4000000

theorem refValid_any (sp : Int) (s : Bs) (hs : s.length ≤ 9223372036854775807) : FnS Tryz.prog 21 [.agg [.i .i64 sp, .s s]] [] [] (Is (.c (.b (validT sp s)))) := by
  by_cases h : s.length ≤ 1000000
  · exact refValid_ok sp s h
  · have hv : validT sp s = false := by
      unfold validT
      rw [show decide (100 < (s.length : Int)) = true from decide_eq_true (by omega)]
      simp
    rw [hv]
    refine fn_of_J Tryz.tyOK 2000 Tryz.func21 (by kernel_rfl) (c := Tryz.f21.body.getD .skip) (by kernel_rfl) Tryz.ntmps21 (rs := Tryz.f21.results.toList) rfl (by simp) (fun G => ?_)
    repeat' first
      | refine J_seq ?_ | refine J_region Tryz.tyOK ?_ | refine J_block ?_ | refine J_cond ?_ | refine J_ret ?_ | refine J_skip ?_ | refine J_exit ?_ | refine J_scope ?_
      | refine CondP.yes (by omega) ?_ | refine CondP.no (by omega) ?_ | refine CondP.mk (fun h => ?_) (fun h => ?_) | refine EqP.mk rfl ?_ | refine NewP.mk (fun ad => ?_) | refine ArP.exact (by simp only [inR]; omega) ?_ | refine SideP.mk (by first | omega | (dsimp only; omega) | (simp; omega)) ?_
      | refine FinE.bool ?_
      | fail
    all_goals rfl

theorem refExists_ok (a : Option Addr) (c : Nat) (gs : List GrpM) (s : Bs) (hl : gs.length ≤ 9223372036854775807) : FnS Tryz.prog 19 [.c (.sl a gs.length c), .c (.s s)] [] [slFact 0 2 a gs.length (gsC gs)] (Is (.c (.b (existsT (names gs) s)))) := by
  have hrd : ∀ L, Reads L [slFact 0 2 a gs.length (gsC gs)] 0 2 a gs.length (gsC gs) := fun L => .inr fun m h => h.1
  have c1 := refBuiltIn_ok s
  have hE : existsT (names gs) s = (builtT s || gs.any fun g => decide (g.name = s)) := by unfold existsT; rw [names_any]
  rw [hE]
  generalize builtT s = z at *
  refine fn_of_J Tryz.tyOK 0 Tryz.func19 (by kernel_rfl) (c := Tryz.f19.body.getD .skip) (by kernel_rfl) Tryz.ntmps19 (rs := Tryz.f19.results.toList) rfl (by simp) (fun G => ?_)
  repeat' first
    | refine J_seq ?_ | refine J_region Tryz.tyOK ?_ | refine J_block ?_ | refine J_cond ?_ | refine J_ret ?_ | refine J_skip ?_ | refine J_exit ?_ | refine J_scope ?_
    | refine CondP.yes (by omega) ?_ | refine CondP.no (by omega) ?_ | refine CondP.mk (fun h => ?_) (fun h => ?_) | refine EqP.mk rfl ?_ | refine NewP.mk (fun ad => ?_) | refine ArP.exact (by simp only [inR]; omega) ?_ | refine SideP.mk (by first | omega | (dsimp only; omega) | (simp; omega)) ?_
    | fail
  refine J_loop (α := Nat) (fun i => [(0, .c (.sl a gs.length c)), (1, .c (.s s)), (5, .c (.i .i64 i))]) (fun _ => []) (fun _ => [slFact 0 2 a gs.length (gsC gs)]) 0
    (fun i => i ≤ gs.length ∧ (gs.take i).any (fun g => decide (g.name = s)) = false) (fun i => gs.length - i) (InFam.mk 0 ⟨by omega, rfl⟩ (by repeat' first | exact SubE.nil | refine SubE.cons rfl ?_ ?_ | exact VEq.refl _ | refine VEq.int (by omega) | refine VEq.sl rfl (by first | rfl | omega | (rw [List.length_append]; rfl) | (simp; omega)) rfl) (Ents.refl _ _)) (fun i hi => ?_)
  obtain ⟨hi, hal⟩ := hi
  by_cases hlt : i < gs.length
  · have hany := any_take_succ (p := fun g : GrpM => decide (g.name = s)) hlt
    rw [hal, Bool.false_or] at hany
    have hg : ((gsC gs).drop (i * 2 + 0)).take 1 = [C.s gs[i].name] := by rw [gsC, flat_get (F := GrpM.cells) (z := 2) (fun _ => rfl) hlt (by omega)]; rfl
    have hall : gs.any (fun g => decide (g.name = s)) = ((gs.take (i + 1)).any (fun g => decide (g.name = s)) || (gs.drop (i + 1)).any (fun g => decide (g.name = s))) := by rw [← List.any_append, List.take_append_drop]
    generalize gs[i].name = y at *
    repeat' first
      | refine J_seq ?_ | refine J_region Tryz.tyOK ?_ | refine J_block ?_ | refine J_cond ?_ | refine J_ret ?_ | refine J_skip ?_ | refine J_exit ?_ | refine J_scope ?_
      | refine CondP.yes (by omega) ?_ | refine CondP.no (by omega) ?_ | refine CondP.mk (fun h => ?_) (fun h => ?_) | refine EqP.mk rfl ?_ | refine NewP.mk (fun ad => ?_) | refine ArP.exact (by simp only [inR]; omega) ?_ | refine SideP.mk (by first | omega | (dsimp only; omega) | (simp; omega)) ?_
      | refine IdxE.mk 0 2 _ (hrd _) (by omega) (by omega) ?_ | refine FldE.mk 0 2 _ _ (hrd _) (by omega) ?_ | refine LoadE.mk 0 _ _ _ (hrd _) (by omega) (by omega) (by first | omega | decide) hg ?_ | refine FinE.bool ?_ | refine Round.mk (i + 1) (by omega) ⟨by omega, ?_⟩ (by repeat' first | exact SubE.nil | refine SubE.cons rfl ?_ ?_ | exact VEq.refl _ | refine VEq.int (by omega) | refine VEq.sl rfl (by first | rfl | omega | (rw [List.length_append]; rfl) | (simp; omega)) rfl) (Ents.refl _ _)
      | fail
    · rw [hall, hany, decide_eq_true (show y = s by assumption)]; simp
    · rw [hany, decide_eq_false (show ¬ y = s by assumption)]
  · have hil : i = gs.length := by omega
    subst hil
    rw [List.take_length] at hal
    rw [hal, Bool.or_false]
    repeat' first
      | refine J_seq ?_ | refine J_region Tryz.tyOK ?_ | refine J_block ?_ | refine J_cond ?_ | refine J_ret ?_ | refine J_skip ?_ | refine J_exit ?_ | refine J_scope ?_
      | refine CondP.yes (by omega) ?_ | refine CondP.no (by omega) ?_ | refine CondP.mk (fun h => ?_) (fun h => ?_) | refine EqP.mk rfl ?_ | refine NewP.mk (fun ad => ?_) | refine ArP.exact (by simp only [inR]; omega) ?_ | refine SideP.mk (by first | omega | (dsimp only; omega) | (simp; omega)) ?_
      | refine CallP.is c1 ?_ | refine FinE.bool rfl
      | fail

theorem pfx_at {m : Bs} : Lib.hasPrefix m [64] = (decide (0 < (m.length : Int)) && decide (((m.getD 0 0).toNat : Int) = 64)) := by
  cases m with
  | nil => rfl
  | cons x r =>
    have h : (x.toNat : Int) = 64 ↔ x = 64 := byte_iff (x := x) (n := 64) (by decide)
    unfold Lib.hasPrefix
    rw [decide_eq_true (show 0 < (((x :: r).length : Nat) : Int) by simp), Bool.true_and, Bool.eq_iff_iff, decide_eq_true_eq]
    simp only [List.isPrefixOf, Bool.and_true, beq_iff_eq, List.getD_cons_zero]
    exact eq_comm.trans h.symm

theorem refGroup_ok (p : PolM) (i : Nat) (hi : i < p.gs.length) (hc : p.gs.length ≤ p.gc) (hl : p.gs.length ≤ 9223372036854775807) (hb : ∀ g ∈ p.gs, g.name.length ≤ 9223372036854775807 ∧ g.mem.length ≤ 9223372036854775807 ∧ ∀ m ∈ g.mem, m.length ≤ 9223372036854775807) :
    FnS Tryz.prog 18 [.c (.sl p.ga p.gs.length p.gc), .c (.i .i64 i)] [] p.facts (Is (.c (.i .i64 (grpErr (names p.gs) ((names p.gs).take i) p.gs[i].name p.gs[i].mem)))) := by
  have hgm : p.gs[i] ∈ p.gs := List.getElem_mem hi
  obtain ⟨hb1, hb2, hb3⟩ := hb _ hgm
  have hcell : ((gsC p.gs).drop (i * 2 + 0)).take 2 = p.gs[i].cells := by rw [gsC, flat_get (F := GrpM.cells) (z := 2) (fun _ => rfl) hi (by omega)]; rfl
  have hpre : (gsC p.gs).take (i * 2) = gsC (p.gs.take i) := flat_take (F := GrpM.cells) (z := 2) (fun _ => rfl) p.gs i (by omega)
  have hlen : (p.gs.take i).length = i := by simp; omega
  have hmem : ∀ m, allD m p.facts → SlF m 0 1 p.gs[i].a p.gs[i].mem.length (p.gs[i].mem.map C.s) := fun m h => h.2.1 _ hgm
  have hnt : names (p.gs.take i) = (names p.gs).take i := by simp [names, List.map_take]
  generalize hg : p.gs[i] = g at *
  have cf := refExists_ok (resl p.ga 0 p.gc 2) p.gc (p.gs.take i) g.name (by omega)
  rw [hlen, hnt] at cf
  have ce := fun s => refExists_ok p.ga p.gc p.gs s hl
  have hrg : ∀ L, Reads L (slFact 0 1 g.a g.mem.length (g.mem.map C.s) :: p.facts) 0 2 p.ga p.gs.length (gsC p.gs) := fun L => .inr fun m h => h.2.1
  have hrm : ∀ L, Reads L (slFact 0 1 g.a g.mem.length (g.mem.map C.s) :: p.facts) 0 1 g.a g.mem.length (g.mem.map C.s) := fun L => .inr fun m h => h.1
  have cn := refIsName_ok g.name hb1
  unfold grpErr
  generalize existsT ((names p.gs).take i) g.name = ex at *
  generalize isNameT g.name = isn at *
  refine fn_of_J Tryz.tyOK 0 Tryz.func18 (by kernel_rfl) (c := Tryz.f18.body.getD .skip) (by kernel_rfl) Tryz.ntmps18 (rs := Tryz.f18.results.toList) rfl (by simp) (fun G => ?_)
  refine J_mem (n' := 0) (D' := slFact 0 1 g.a g.mem.length (g.mem.map C.s) :: p.facts) (Ents.facts fun m h => ⟨hmem m h, h⟩) ?_
  cases isn
  · repeat' first
      | refine J_seq ?_ | refine J_region Tryz.tyOK ?_ | refine J_block ?_ | refine J_cond ?_ | refine J_ret ?_ | refine J_skip ?_ | refine J_exit ?_ | refine J_scope ?_
      | refine CondP.yes (by omega) ?_ | refine CondP.no (by omega) ?_ | refine CondP.mk (fun h => ?_) (fun h => ?_) | refine EqP.mk rfl ?_ | refine NewP.mk (fun ad => ?_) | refine ArP.exact (by simp only [inR]; omega) ?_ | refine SideP.mk (by first | omega | (dsimp only; omega) | (simp; omega)) ?_
      | refine IdxE.mk 0 2 _ (hrg _) (by omega) (by omega) ?_ | refine LoadE.mk 0 _ _ _ (hrg _) (by omega) (by omega) (by omega) hcell ?_ | refine CallP.is cn ?_ | refine FinE.int ?_
      | fail
    rw [if_pos rfl]
  rw [if_neg (by simp)]
  cases ex
  · rw [if_neg (by simp)]
    by_cases h24 : 24 < (g.mem.length : Int)
    · rw [if_pos h24]
      repeat' first
        | refine J_seq ?_ | refine J_region Tryz.tyOK ?_ | refine J_block ?_ | refine J_cond ?_ | refine J_ret ?_ | refine J_skip ?_ | refine J_exit ?_ | refine J_scope ?_
        | refine CondP.yes (by omega) ?_ | refine CondP.no (by omega) ?_ | refine CondP.mk (fun h => ?_) (fun h => ?_) | refine EqP.mk rfl ?_ | refine NewP.mk (fun ad => ?_) | refine ArP.exact (by simp only [inR]; omega) ?_ | refine SideP.mk (by first | omega | (dsimp only; omega) | (simp; omega)) ?_
        | refine IdxE.mk 0 2 _ (hrg _) (by omega) (by omega) ?_ | refine LoadE.mk 0 _ _ _ (hrg _) (by omega) (by omega) (by omega) hcell ?_ | refine CallP.is cn ?_ | refine J_drawS (id := 4) Tryz.tyOK (by kernel_rfl) [0, 0, 3, 0, 8, 31] [0, 1, 2, 3, 4, 5] [] [5] true (by kernel_rfl) ?_ | refine EntP.mk (Ents.ofSub (by repeat (first | exact List.Sublist.slnil | refine List.Sublist.cons_cons _ ?_ | refine List.Sublist.cons _ ?_)) (by first | exact fun _ h => h | exact fun _ _ => trivial | exact fun _ h => h.2 | exact fun _ h => h.2.2.2.2 | exact fun _ h => ((allD_append _ _).1 h).2)) ?_ | refine CallQ.mk [slFact 0 2 (resl p.ga 0 p.gc 2) i (gsC (p.gs.take i))] _ cf (fun m h => ⟨hpre ▸ slFact_pre p.gc h.2.1 (by omega), trivial⟩) ?_ | refine FinE.int ?_
        | fail
      rfl
    rw [if_neg h24]
    repeat' first
      | refine J_seq ?_ | refine J_region Tryz.tyOK ?_ | refine J_block ?_ | refine J_cond ?_ | refine J_ret ?_ | refine J_skip ?_ | refine J_exit ?_ | refine J_scope ?_
      | refine CondP.yes (by omega) ?_ | refine CondP.no (by omega) ?_ | refine CondP.mk (fun h => ?_) (fun h => ?_) | refine EqP.mk rfl ?_ | refine NewP.mk (fun ad => ?_) | refine ArP.exact (by simp only [inR]; omega) ?_ | refine SideP.mk (by first | omega | (dsimp only; omega) | (simp; omega)) ?_
      | refine IdxE.mk 0 2 _ (hrg _) (by omega) (by omega) ?_ | refine LoadE.mk 0 _ _ _ (hrg _) (by omega) (by omega) (by omega) hcell ?_ | refine CallP.is cn ?_ | refine J_drawS (id := 4) Tryz.tyOK (by kernel_rfl) [0, 0, 3, 0, 8, 31] [0, 1, 2, 3, 4, 5] [] [5] true (by kernel_rfl) ?_ | refine EntP.mk (Ents.ofSub (by repeat (first | exact List.Sublist.slnil | refine List.Sublist.cons_cons _ ?_ | refine List.Sublist.cons _ ?_)) (by first | exact fun _ h => h | exact fun _ _ => trivial | exact fun _ h => h.2 | exact fun _ h => h.2.2.2.2 | exact fun _ h => ((allD_append _ _).1 h).2)) ?_ | refine CallQ.mk [slFact 0 2 (resl p.ga 0 p.gc 2) i (gsC (p.gs.take i))] _ cf (fun m h => ⟨hpre ▸ slFact_pre p.gc h.2.1 (by omega), trivial⟩) ?_
      | fail
    refine J_loop (α := Nat) (fun k => [(0, .c (.sl p.ga p.gs.length p.gc)), (5, .c (.p 0 ad 0)), (6, .c (.i .i64 k))]) (fun _ => [.box 0 ad 35 g.cells]) (fun _ => slFact 0 1 g.a g.mem.length (g.mem.map C.s) :: p.facts) 1
      (fun k => k ≤ g.mem.length ∧ memErr (names p.gs) g.mem = memErr (names p.gs) (g.mem.drop k)) (fun k => g.mem.length - k) (InFam.mk 0 ⟨by omega, rfl⟩ (by repeat' first | exact SubE.nil | refine SubE.cons rfl ?_ ?_ | exact VEq.refl _ | refine VEq.int (by omega) | refine VEq.sl rfl (by first | rfl | omega | (rw [List.length_append]; rfl) | (simp; omega)) rfl) (Ents.refl _ _)) (fun k hk => ?_)
    obtain ⟨hk, he⟩ := hk
    by_cases hlt : k < g.mem.length
    · have hcm := map_take1 (f := C.s) hlt
      rw [List.drop_eq_getElem_cons hlt, memErr] at he
      have hml := hb3 _ (List.getElem_mem hlt)
      generalize g.mem[k] = m at *
      by_cases hat : 0 < (m.length : Int) ∧ ((m.getD (0 : Int).toNat 0).toNat : Int) = 64
      · have hpf : Lib.hasPrefix m [64] = true := by rw [pfx_at, decide_eq_true hat.1, decide_eq_true (show ((m.getD 0 0).toNat : Int) = 64 from hat.2)]; rfl
        have htp : Lib.trimPrefix m [64] = m.drop 1 := by unfold Lib.trimPrefix; rw [if_pos (by first | exact hpf | simpa using hpf)]; rfl
        rw [hpf, htp] at he
        have c1 := refIsName_ok (m.drop 1) (by rw [List.length_drop]; omega)
        have c2 := ce (m.drop 1)
        obtain ⟨hat1, hat2⟩ := hat
        generalize isNameT (m.drop 1) = b1 at *
        generalize existsT (names p.gs) (m.drop 1) = b2 at *
        cases b1 <;> cases b2 <;>
        · repeat' first
            | refine CondP.yes hat2 ?_
            | refine J_seq ?_ | refine J_region Tryz.tyOK ?_ | refine J_block ?_ | refine J_cond ?_ | refine J_ret ?_ | refine J_skip ?_ | refine J_exit ?_ | refine J_scope ?_
            | refine CondP.yes (by omega) ?_ | refine CondP.no (by omega) ?_ | refine CondP.mk (fun h => ?_) (fun h => ?_) | refine EqP.mk rfl ?_ | refine NewP.mk (fun ad => ?_) | refine ArP.exact (by simp only [inR]; omega) ?_ | refine SideP.mk (by first | omega | (dsimp only; omega) | (simp; omega)) ?_
            | refine IdxE.mk 0 1 _ (hrm _) (by omega) (by omega) ?_ | refine LoadE.mk 0 _ _ _ (hrm _) (by omega) (by omega) (by omega) hcm ?_ | refine CallP.is c1 ?_ | refine CallP.is c2 ?_ (fun _ h => ⟨h.2.1, trivial⟩) | refine FinE.int ?_ | refine Round.mk (k + 1) (by omega) ⟨by omega, ?_⟩ (by repeat' first | exact SubE.nil | refine SubE.cons rfl ?_ ?_ | exact VEq.refl _ | refine VEq.int (by omega) | refine VEq.sl rfl (by first | rfl | omega | (rw [List.length_append]; rfl) | (simp; omega)) rfl) (Ents.refl _ _)
            | fail
          all_goals (rw [he]; simp)
      · have hpf : Lib.hasPrefix m [64] = false := by
          rw [pfx_at, ← Bool.decide_and, decide_eq_false]
          exact hat
        have htp : Lib.trimPrefix m [64] = m := by unfold Lib.trimPrefix; rw [if_neg (by first | (rw [show Lib.hasPrefix m [64] = ([64] : Bs).isPrefixOf m from rfl] at hpf; rw [hpf]; simp) | (rw [hpf]; simp))]
        rw [hpf, htp] at he
        have c1 := refIsName_ok m hml
        generalize isNameT m = b1 at *
        cases b1 <;>
        · repeat' first
            | refine J_seq ?_ | refine J_region Tryz.tyOK ?_ | refine J_block ?_ | refine J_cond ?_ | refine J_ret ?_ | refine J_skip ?_ | refine J_exit ?_ | refine J_scope ?_
            | refine CondP.yes (by omega) ?_ | refine CondP.no (by omega) ?_ | refine CondP.mk (fun h => ?_) (fun h => ?_) | refine EqP.mk rfl ?_ | refine NewP.mk (fun ad => ?_) | refine ArP.exact (by simp only [inR]; omega) ?_ | refine SideP.mk (by first | omega | (dsimp only; omega) | (simp; omega)) ?_
            | refine IdxE.mk 0 1 _ (hrm _) (by omega) (by omega) ?_ | refine LoadE.mk 0 _ _ _ (hrm _) (by omega) (by omega) (by omega) hcm ?_ | refine CallP.is c1 ?_ | refine CallP.is (ce _) ?_ (fun _ h => ⟨h.2.1, trivial⟩) | refine FinE.int ?_ | refine Round.mk (k + 1) (by omega) ⟨by omega, ?_⟩ (by repeat' first | exact SubE.nil | refine SubE.cons rfl ?_ ?_ | exact VEq.refl _ | refine VEq.int (by omega) | refine VEq.sl rfl (by first | rfl | omega | (rw [List.length_append]; rfl) | (simp; omega)) rfl) (Ents.refl _ _)
            | fail
          all_goals first | (rw [he]; simp; done) | (exfalso; exact hat ⟨by assumption, by assumption⟩) | trace_state
    · have hkl : k = g.mem.length := by omega
      subst hkl
      rw [List.drop_length, memErr] at he
      repeat' first
        | refine J_seq ?_ | refine J_region Tryz.tyOK ?_ | refine J_block ?_ | refine J_cond ?_ | refine J_ret ?_ | refine J_skip ?_ | refine J_exit ?_ | refine J_scope ?_
        | refine CondP.yes (by omega) ?_ | refine CondP.no (by omega) ?_ | refine CondP.mk (fun h => ?_) (fun h => ?_) | refine EqP.mk rfl ?_ | refine NewP.mk (fun ad => ?_) | refine ArP.exact (by simp only [inR]; omega) ?_ | refine SideP.mk (by first | omega | (dsimp only; omega) | (simp; omega)) ?_
        | refine FinE.int ?_
        | fail
      exact he
  · rw [if_pos rfl]
    repeat' first
      | refine J_seq ?_ | refine J_region Tryz.tyOK ?_ | refine J_block ?_ | refine J_cond ?_ | refine J_ret ?_ | refine J_skip ?_ | refine J_exit ?_ | refine J_scope ?_
      | refine CondP.yes (by omega) ?_ | refine CondP.no (by omega) ?_ | refine CondP.mk (fun h => ?_) (fun h => ?_) | refine EqP.mk rfl ?_ | refine NewP.mk (fun ad => ?_) | refine ArP.exact (by simp only [inR]; omega) ?_ | refine SideP.mk (by first | omega | (dsimp only; omega) | (simp; omega)) ?_
      | refine IdxE.mk 0 2 _ (hrg _) (by omega) (by omega) ?_ | refine LoadE.mk 0 _ _ _ (hrg _) (by omega) (by omega) (by omega) hcell ?_ | refine CallP.is cn ?_ | refine J_drawS (id := 4) Tryz.tyOK (by kernel_rfl) [0, 0, 3, 0, 8, 31] [0, 1, 2, 3, 4, 5] [] [5] true (by kernel_rfl) ?_ | refine EntP.mk (Ents.ofSub (by repeat (first | exact List.Sublist.slnil | refine List.Sublist.cons_cons _ ?_ | refine List.Sublist.cons _ ?_)) (by first | exact fun _ h => h | exact fun _ _ => trivial | exact fun _ h => h.2 | exact fun _ h => h.2.2.2.2 | exact fun _ h => ((allD_append _ _).1 h).2)) ?_ | refine CallQ.mk [slFact 0 2 (resl p.ga 0 p.gc 2) i (gsC (p.gs.take i))] _ cf (fun m h => ⟨hpre ▸ slFact_pre p.gc h.2.1 (by omega), trivial⟩) ?_ | refine FinE.int ?_
      | fail
    rfl

theorem refScope_ok (k sp : Int) (nm : Bs) (hs : nm.length ≤ 9223372036854775807) : FnS Tryz.prog 20 [.agg [.i .i64 k, .i .i64 sp, .s nm]] [] [] (Is (.c (.b (scopeOK k sp nm)))) := by
  have c1 := refValid_any sp nm hs
  unfold scopeOK
  generalize validT sp nm = z at *
  refine fn_of_J Tryz.tyOK 0 Tryz.func20 (by kernel_rfl) (c := Tryz.f20.body.getD .skip) (by kernel_rfl) Tryz.ntmps20 (rs := Tryz.f20.results.toList) rfl (by simp) (fun G => ?_)
  repeat' first
    | refine J_seq ?_ | refine J_region Tryz.tyOK ?_ | refine J_block ?_ | refine J_cond ?_ | refine J_ret ?_ | refine J_skip ?_ | refine J_exit ?_ | refine J_scope ?_
    | refine CondP.yes (by omega) ?_ | refine CondP.no (by omega) ?_ | refine CondP.mk (fun h => ?_) (fun h => ?_) | refine EqP.mk rfl ?_ | refine NewP.mk (fun ad => ?_) | refine ArP.exact (by simp only [inR]; omega) ?_ | refine SideP.mk (by first | omega | (dsimp only; omega) | (simp; omega)) ?_
    | refine CallP.is c1 ?_ | refine FinE.bool ?_
    | fail
  all_goals first | (change nm = [] at h) | (change ¬ nm = [] at h) | skip
  all_goals (simp [*]; try first | omega | (first | exact fun h1 => h ⟨h1, by assumption, trivial⟩ | exact fun h1 h2 => h ⟨h1, h2, trivial⟩))

theorem sect_idx (s : Bs) : (s.any fun c => c == 10 || c == 124) = !(decide (Lib.indexByte s 10 < 0) && decide (Lib.indexByte s 124 < 0)) := by
  have key : ∀ (c : UInt8) (s : Bs), decide (Lib.indexByte s c < 0) = !(s.any fun x => x == c) := fun c s => by
    induction s with
    | nil => rfl
    | cons x r ih =>
      rw [List.any_cons, Bool.not_or, ← ih]
      by_cases hx : x = c
      · subst hx; simp [Lib.indexByte]
      · have hx' : (x == c) = false := by simpa using hx
        rw [hx']
        have hge := Lib.indexByte_ge r c
        simp only [Lib.indexByte, hx', Bool.not_false, Bool.true_and]
        simp
        split
        · omega
        · omega
  rw [key, key]
  induction s with
  | nil => rfl
  | cons x r ih =>
    simp only [List.any_cons, ih]
    cases (x == 10) <;> cases (x == 124) <;> simp

theorem refSection_ok (s : Bs) (hs : s.length ≤ 9223372036854775807) : FnS Tryz.prog 22 [.c (.s s)] [] [] (Is (.c (.b (sectOK s)))) := by
  unfold sectOK
  by_cases h : 100 < (s.length : Int)
  · rw [decide_eq_true h]
    refine fn_of_J Tryz.tyOK 0 Tryz.func22 (by kernel_rfl) (c := Tryz.f22.body.getD .skip) (by kernel_rfl) Tryz.ntmps22 (rs := Tryz.f22.results.toList) rfl (by simp) (fun G => ?_)
    repeat' first
      | refine J_seq ?_ | refine J_region Tryz.tyOK ?_ | refine J_block ?_ | refine J_cond ?_ | refine J_ret ?_ | refine J_skip ?_ | refine J_exit ?_ | refine J_scope ?_
      | refine CondP.yes (by omega) ?_ | refine CondP.no (by omega) ?_ | refine CondP.mk (fun h => ?_) (fun h => ?_) | refine EqP.mk rfl ?_ | refine NewP.mk (fun ad => ?_) | refine ArP.exact (by simp only [inR]; omega) ?_ | refine SideP.mk (by first | omega | (dsimp only; omega) | (simp; omega)) ?_
      | refine FinE.bool ?_
      | fail
    all_goals simp
  · rw [decide_eq_false h, sect_idx]
    have c0 := refTrim_ok s hs
    have c1 := index_ok s [10] 0 (by omega) (by decide) (by decide) (by omega)
    have c2 := index_ok s [124] 0 (by omega) (by decide) (by decide) (by omega)
    rw [refIdx_byte] at c1 c2
    generalize trimT s = t at *
    generalize Lib.indexByte s 10 = x at *
    generalize Lib.indexByte s 124 = y at *
    refine fn_of_J Tryz.tyOK 0 Tryz.func22 (by kernel_rfl) (c := Tryz.f22.body.getD .skip) (by kernel_rfl) Tryz.ntmps22 (rs := Tryz.f22.results.toList) rfl (by simp) (fun G => ?_)
    repeat' first
      | refine J_seq ?_ | refine J_region Tryz.tyOK ?_ | refine J_block ?_ | refine J_cond ?_ | refine J_ret ?_ | refine J_skip ?_ | refine J_exit ?_ | refine J_scope ?_
      | refine CondP.yes (by omega) ?_ | refine CondP.no (by omega) ?_ | refine CondP.mk (fun h => ?_) (fun h => ?_) | refine EqP.mk rfl ?_ | refine NewP.mk (fun ad => ?_) | refine ArP.exact (by simp only [inR]; omega) ?_ | refine SideP.mk (by first | omega | (dsimp only; omega) | (simp; omega)) ?_
      | refine CallP.is c0 ?_ | refine CallP.is c1 ?_ | refine CallP.is c2 ?_ | refine FinE.bool ?_
      | fail
    all_goals (simp [*])

end Go.Proofs
