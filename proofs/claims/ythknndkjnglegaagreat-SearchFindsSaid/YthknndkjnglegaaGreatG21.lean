/- This text walks through the functions of the references of chapters 13, 29 and 31 that say what a user sees: Groups, Levels, May, PolicyOf, View. -/
import Derived.Test.YthknndkjnglegaaGreatG20
import Derived.Test.YthknndkjnglegaaGreatG17
set_option linter.all false

namespace Go.X
open Go Go.Lib
def textV : Option PGM → V
  | none => .t2 (.c (.s [])) ff
  | some p => .t2 (.c (.s (curM p.hist).text)) tt
def allB : List UInt8 := [97, 108, 108]
def usersB : List UInt8 := [117, 115, 101, 114, 115]
theorem groups_step {gs : List GrpM} {l : List (List UInt8)} {s : List UInt8} (h : StrL Lib.compareBytes l) (hs : ∀ z ∈ l, z ∈ allB :: usersB :: gs.map GrpM.name) (hn : s ∈ allB :: usersB :: gs.map GrpM.name) :
    StrL Lib.compareBytes (addG Lib.compareBytes l s) ∧ ∀ z ∈ addG Lib.compareBytes l s, z ∈ allB :: usersB :: gs.map GrpM.name :=
  ⟨addG_str cmp_bytes (fun x y e => (cmpB_eq x y).1 e) l s h, fun z hz => by
    rcases (addG_mem l s z).1 hz with hz | hz
    · exact hs z hz
    · subst hz; exact hn⟩
theorem groups_len {gs : List GrpM} {l : List (List UInt8)} (h : StrL Lib.compareBytes l) (hs : ∀ z ∈ l, z ∈ allB :: usersB :: gs.map GrpM.name) : l.length ≤ gs.length + 2 := by
  have := nodup_len (StrL.nodup cmp_bytes h) hs
  simpa using this
end Go.X
namespace Go.Proofs
open Go Go.X
set_option maxRecDepth 100000
set_option maxHeartbeats 4000000
theorem belongs13_ok (g : GrpM) (user : Bs) (a : Option Addr) (c : Nat) (l : List (List UInt8)) (hm : g.mem.length ≤ 10000000) (hl : l.length ≤ 10000000) : FnS Tryz.prog 81 [.agg g.cells, .c (.s user), .c (.sl a l.length c)] [] [slFact 0 1 g.a g.mem.length (sC g.mem), slcFact 1 a l.length c (sC l)] BoolP := by
  have hrd : ∀ L, Reads L [slFact 0 1 g.a g.mem.length (sC g.mem), slcFact 1 a l.length c (sC l)] 0 1 g.a g.mem.length (sC g.mem) := fun L => .inr fun m h => h.1
  have cu := isNameA_ok user
  refine fn_of_J Tryz.tyOK 0 Tryz.func81 (by kernel_rfl) (c := Tryz.f81.body.getD .skip) (by kernel_rfl) Tryz.ntmps81 (rs := Tryz.f81.results.toList) rfl (by simp) (fun G => ?_)
  repeat' first | refine J_seq ?_ | refine J_region Tryz.tyOK ?_ | refine J_block ?_ | refine J_cond ?_ | refine J_ret ?_ | refine J_skip ?_ | refine J_exit ?_ | refine J_scope ?_ | refine CondP.y ?_ | refine CondP.n ?_ | refine CondP.mk (fun h => ?_) (fun h => ?_) | refine EqP.mk rfl ?_ | refine NewP.mk (fun ad => ?_) | refine ArP.x ?_ | refine SideP.a ?_ | fail
  refine J_loop (α := Nat) (fun i => [(1, .c (.s user)), (2, .c (.sl a l.length c)), (3, .c (.p 0 ad 0)), (7, .c (.i .i64 i))]) (fun _ => [.box 0 ad 145 g.cells]) (fun _ => [slFact 0 1 g.a g.mem.length (sC g.mem), slcFact 1 a l.length c (sC l)]) 1
    (fun i => i ≤ g.mem.length) (fun i => g.mem.length - i) (InFam.mk 0 (Nat.zero_le _) SubE.a (Ents.refl _ _)) (fun i hi => ?_)
  by_cases hlt : i < g.mem.length
  · have hg := s_get hlt
    generalize g.mem[i] = x at *
    repeat' first | refine J_seq ?_ | refine J_region Tryz.tyOK ?_ | refine J_block ?_ | refine J_cond ?_ | refine J_ret ?_ | refine J_skip ?_ | refine J_exit ?_ | refine J_scope ?_ | refine CondP.y ?_ | refine CondP.n ?_ | refine CondP.mk (fun h => ?_) (fun h => ?_) | refine EqP.mk rfl ?_ | refine NewP.mk (fun ad => ?_) | refine ArP.x ?_ | refine SideP.a ?_ | fail | refine CallP.isB cu (fun _ => ?_) (fun _ => ?_) | (refine CallP.mk [] _ [_] _ (has13_ok 0 a c l _ hl) (List.Perm.refl _) (fun _ h => ⟨h.2.1.2, trivial⟩) (fun v L' D' hp => ?_); obtain ⟨b, rfl, rfl, rfl⟩ := hp; cases b) | refine IdxE.mk 0 1 _ (hrd _) (by omega) (by omega) ?_ | refine LoadE.mk 0 _ _ [.s x] (hrd _) (by omega) (by omega) (by first | omega | decide) (by exact hg) ?_ | refine Round.mk (i + 1) (by omega) (by omega) SubE.a Ents.a | refine FinE.mk [] [] ⟨_, rfl, rfl, rfl⟩ (Ents.dropAll.trans (Ents.facts fun _ _ => trivial)) | fail
  · repeat' first | refine J_seq ?_ | refine J_region Tryz.tyOK ?_ | refine J_block ?_ | refine J_cond ?_ | refine J_ret ?_ | refine J_skip ?_ | refine J_exit ?_ | refine J_scope ?_ | refine CondP.y ?_ | refine CondP.n ?_ | refine CondP.mk (fun h => ?_) (fun h => ?_) | refine EqP.mk rfl ?_ | refine NewP.mk (fun ad => ?_) | refine ArP.x ?_ | refine SideP.a ?_ | refine FinE.mk [] [] ⟨_, rfl, rfl, rfl⟩ (Ents.dropAll.trans (Ents.facts fun _ _ => trivial)) | fail
theorem groups13_ok (p : PolM) (user : Bs) (hg : p.gs.length ≤ 1000000) (hm : ∀ g ∈ p.gs, g.mem.length ≤ 10000000) : FnS Tryz.prog 43 [.agg p.cells, .c (.s user)] [] [slFact 0 2 p.ga p.gs.length (gsC p.gs), memsF p.gs]
    (fun v L D => ∃ W : List (List UInt8), W.length ≤ 1000002 ∧ StrF W v L D) := by
  have cu := isNameA_ok user
  have cp := fun a c l s h => put13_ok a c l s h
  have hrd : ∀ F L, Reads L [F, slFact 0 2 p.ga p.gs.length (gsC p.gs), memsF p.gs] 0 2 p.ga p.gs.length (gsC p.gs) := fun F L => .inr fun m h => h.2.1
  have hS0 : StrL Lib.compareBytes [allB] ∧ ∀ z ∈ [allB], z ∈ allB :: usersB :: p.gs.map GrpM.name := ⟨List.pairwise_singleton _ _, fun z hz => by rw [List.mem_singleton.1 hz]; exact List.mem_cons_self ..⟩
  have hS1 := groups_step hS0.1 hS0.2 (s := usersB) (by simp)
  generalize hu : addG Lib.compareBytes [allB] usersB = U at *
  refine fn_of_J Tryz.tyOK 0 Tryz.func43 (by kernel_rfl) (c := Tryz.f43.body.getD .skip) (by kernel_rfl) Tryz.ntmps43 (rs := Tryz.f43.results.toList) rfl (by simp) (fun G => ?_)
  repeat' first | refine J_seq ?_ | refine J_region Tryz.tyOK ?_ | refine J_block ?_ | refine J_cond ?_ | refine J_ret ?_ | refine J_skip ?_ | refine J_exit ?_ | refine J_scope ?_ | refine CondP.y ?_ | refine CondP.n ?_ | refine CondP.mk (fun h => ?_) (fun h => ?_) | refine EqP.mk rfl ?_ | refine NewP.mk (fun ad => ?_) | refine ArP.x ?_ | refine SideP.a ?_ | refine CallP.isB cu (fun _ => ?_) (fun _ => ?_) | (refine CallP.mkE [] _ [_] _ _ (cp _ _ [allB] usersB (by decide)) Ents.toFactC (fun _ h => ⟨h.1, trivial⟩) (fun v L' D' hq => ?_); rw [hu] at hq; obtain ⟨a1, c1, rfl, rfl, rfl⟩ := hq) | fail
  · rename_i ad0 _hx
    refine J_loop (α := Nat × List (List UInt8) × Option Addr × Nat) (fun x => [(1, .c (.s user)), (2, .c (.p 0 ad0 0)), (5, .c (.sl x.2.2.1 x.2.1.length x.2.2.2)), (6, .c (.i .i64 ((x.1 : Int) - 1)))]) (fun _ => [.box 0 ad0 28 p.cells]) (fun x => [slcFact 1 x.2.2.1 x.2.1.length x.2.2.2 (sC x.2.1), slFact 0 2 p.ga p.gs.length (gsC p.gs), memsF p.gs]) 1
      (fun x => StrL Lib.compareBytes x.2.1 ∧ (∀ z ∈ x.2.1, z ∈ allB :: usersB :: p.gs.map GrpM.name) ∧ x.1 ≤ p.gs.length + 3) (fun x => p.gs.length + 4 - x.1) (InFam.mk (0, U, a1, c1) ⟨hS1.1, hS1.2, Nat.zero_le _⟩ SubE.a (Ents.facts fun _ h => ⟨h.1, h.2.2.1, h.2.2.2.1, trivial⟩)) (fun x hx => ?_)
    obtain ⟨n, l, a2, c2⟩ := x
    dsimp only at hx ⊢
    obtain ⟨h1, h2, h3⟩ := hx
    have hll := groups_len h1 h2
    by_cases hnl : (n : Int) - 1 < l.length
    · repeat' first | refine J_seq ?_ | refine J_region Tryz.tyOK ?_ | refine J_block ?_ | refine J_cond ?_ | refine J_ret ?_ | refine J_skip ?_ | refine J_exit ?_ | refine J_scope ?_ | refine CondP.y ?_ | refine CondP.n ?_ | refine CondP.mk (fun h => ?_) (fun h => ?_) | refine EqP.mk rfl ?_ | refine NewP.mk (fun ad => ?_) | refine ArP.x ?_ | refine SideP.a ?_ | fail
      refine J_loop (α := Nat × List (List UInt8) × Option Addr × Nat) (fun x => [(1, .c (.s user)), (2, .c (.p 0 ad0 0)), (5, .c (.sl x.2.2.1 x.2.1.length x.2.2.2)), (6, .c (.i .i64 l.length)), (7, .c (.i .i64 x.1))]) (fun _ => [.box 0 ad0 28 p.cells]) (fun x => [slcFact 1 x.2.2.1 x.2.1.length x.2.2.2 (sC x.2.1), slFact 0 2 p.ga p.gs.length (gsC p.gs), memsF p.gs]) 1
        (fun x => StrL Lib.compareBytes x.2.1 ∧ (∀ z ∈ x.2.1, z ∈ allB :: usersB :: p.gs.map GrpM.name) ∧ x.1 ≤ p.gs.length) (fun x => p.gs.length - x.1) (InFam.mk (0, l, a2, c2) ⟨h1, h2, Nat.zero_le _⟩ SubE.a (Ents.refl _ _)) (fun x hx => ?_)
      obtain ⟨i, l', a3, c3⟩ := x
      dsimp only at hx ⊢
      obtain ⟨h4, h5, h6⟩ := hx
      have hll' := groups_len h4 h5
      by_cases hlt : i < p.gs.length
      · have hgc := gs_get hlt
        have hgn := gs_name hlt
        have hmem : p.gs[i] ∈ p.gs := List.getElem_mem hlt
        have hst := groups_step h4 h5 (s := p.gs[i].name) (by simp only [List.mem_cons, List.mem_map]; exact .inr (.inr ⟨_, hmem, rfl⟩))
        generalize p.gs[i] = g at *
        have cb := belongs13_ok g user a3 c3 l' (hm g hmem) (by omega)
        have cq := cp a3 c3 l' g.name (by omega)
        generalize addG Lib.compareBytes l' g.name = W at *
        repeat' first | refine J_seq ?_ | refine J_region Tryz.tyOK ?_ | refine J_block ?_ | refine J_cond ?_ | refine J_ret ?_ | refine J_skip ?_ | refine J_exit ?_ | refine J_scope ?_ | refine CondP.y ?_ | refine CondP.n ?_ | refine CondP.mk (fun h => ?_) (fun h => ?_) | refine EqP.mk rfl ?_ | refine NewP.mk (fun ad => ?_) | refine ArP.x ?_ | refine SideP.a ?_ | fail | (refine CallP.mk [] _ [_, _] _ cb (List.Perm.refl _) (fun _ h => ⟨h.2.2.1 g hmem, h.1, trivial⟩) (fun v L' D' hq => ?_); obtain ⟨b, rfl, rfl, rfl⟩ := hq; cases b) | (refine CallP.mk [] _ [_] _ cq (List.Perm.refl _) (fun _ h => ⟨h.1, trivial⟩) (fun v L' D' hq => ?_); obtain ⟨a4, c4, rfl, rfl, rfl⟩ := hq) | refine IdxE.mk 0 2 _ (hrd _ _) (by omega) (by omega) ?_ | refine FldE.mk 0 2 _ _ (hrd _ _) (by omega) ?_ | refine LoadE.mk 0 _ _ g.cells (hrd _ _) (by omega) (by omega) (by first | omega | decide) (by exact hgc) ?_ | refine LoadE.mk 0 _ _ [.s g.name] (hrd _ _) (by omega) (by omega) (by first | omega | decide) (by exact hgn) ?_ | refine Round.mk (i + 1, l', a3, c3) (by dsimp only; omega) ⟨h4, h5, by dsimp only; omega⟩ SubE.a (Ents.ofSub (by simp) (fun _ h => h)) | refine Round.mk (i + 1, W, a4, c4) (by dsimp only; omega) ⟨hst.1, hst.2, by dsimp only; omega⟩ SubE.a (Ents.facts fun _ h => ⟨h.1, h.2.2.1, h.2.2.2.1, trivial⟩) | fail
      · repeat' first | refine J_seq ?_ | refine J_region Tryz.tyOK ?_ | refine J_block ?_ | refine J_cond ?_ | refine J_ret ?_ | refine J_skip ?_ | refine J_exit ?_ | refine J_scope ?_ | refine CondP.y ?_ | refine CondP.n ?_ | refine CondP.mk (fun h => ?_) (fun h => ?_) | refine EqP.mk rfl ?_ | refine NewP.mk (fun ad => ?_) | refine ArP.x ?_ | refine SideP.a ?_ | refine Round.mk (l.length + 1, l', a3, c3) (by dsimp only; omega) ⟨h4, h5, by dsimp only; omega⟩ SubE.a (Ents.refl _ _) | fail
    · repeat' first | refine J_seq ?_ | refine J_region Tryz.tyOK ?_ | refine J_block ?_ | refine J_cond ?_ | refine J_ret ?_ | refine J_skip ?_ | refine J_exit ?_ | refine J_scope ?_ | refine CondP.y ?_ | refine CondP.n ?_ | refine CondP.mk (fun h => ?_) (fun h => ?_) | refine EqP.mk rfl ?_ | refine NewP.mk (fun ad => ?_) | refine ArP.x ?_ | refine SideP.a ?_ | refine FinE.mk [] [_] ⟨l, by omega, a2, c2, rfl, rfl, rfl⟩ (Ents.dropAll.trans (Ents.facts fun _ h => ⟨h.1, trivial⟩)) | fail
  · rename_i ad0 _hx
    refine J_loop (α := Nat × List (List UInt8) × Option Addr × Nat) (fun x => [(1, .c (.s user)), (2, .c (.p 0 ad0 0)), (5, .c (.sl x.2.2.1 x.2.1.length x.2.2.2)), (6, .c (.i .i64 ((x.1 : Int) - 1)))]) (fun _ => [.box 0 ad0 28 p.cells]) (fun x => [slcFact 1 x.2.2.1 x.2.1.length x.2.2.2 (sC x.2.1), slFact 0 2 p.ga p.gs.length (gsC p.gs), memsF p.gs]) 1
      (fun x => StrL Lib.compareBytes x.2.1 ∧ (∀ z ∈ x.2.1, z ∈ allB :: usersB :: p.gs.map GrpM.name) ∧ x.1 ≤ p.gs.length + 3) (fun x => p.gs.length + 4 - x.1) (InFam.mk (0, [allB], _, 1) ⟨hS0.1, hS0.2, Nat.zero_le _⟩ SubE.a Ents.toFactC) (fun x hx => ?_)
    obtain ⟨n, l, a2, c2⟩ := x
    dsimp only at hx ⊢
    obtain ⟨h1, h2, h3⟩ := hx
    have hll := groups_len h1 h2
    by_cases hnl : (n : Int) - 1 < l.length
    · repeat' first | refine J_seq ?_ | refine J_region Tryz.tyOK ?_ | refine J_block ?_ | refine J_cond ?_ | refine J_ret ?_ | refine J_skip ?_ | refine J_exit ?_ | refine J_scope ?_ | refine CondP.y ?_ | refine CondP.n ?_ | refine CondP.mk (fun h => ?_) (fun h => ?_) | refine EqP.mk rfl ?_ | refine NewP.mk (fun ad => ?_) | refine ArP.x ?_ | refine SideP.a ?_ | fail
      refine J_loop (α := Nat × List (List UInt8) × Option Addr × Nat) (fun x => [(1, .c (.s user)), (2, .c (.p 0 ad0 0)), (5, .c (.sl x.2.2.1 x.2.1.length x.2.2.2)), (6, .c (.i .i64 l.length)), (7, .c (.i .i64 x.1))]) (fun _ => [.box 0 ad0 28 p.cells]) (fun x => [slcFact 1 x.2.2.1 x.2.1.length x.2.2.2 (sC x.2.1), slFact 0 2 p.ga p.gs.length (gsC p.gs), memsF p.gs]) 1
        (fun x => StrL Lib.compareBytes x.2.1 ∧ (∀ z ∈ x.2.1, z ∈ allB :: usersB :: p.gs.map GrpM.name) ∧ x.1 ≤ p.gs.length) (fun x => p.gs.length - x.1) (InFam.mk (0, l, a2, c2) ⟨h1, h2, Nat.zero_le _⟩ SubE.a (Ents.refl _ _)) (fun x hx => ?_)
      obtain ⟨i, l', a3, c3⟩ := x
      dsimp only at hx ⊢
      obtain ⟨h4, h5, h6⟩ := hx
      have hll' := groups_len h4 h5
      by_cases hlt : i < p.gs.length
      · have hgc := gs_get hlt
        have hgn := gs_name hlt
        have hmem : p.gs[i] ∈ p.gs := List.getElem_mem hlt
        have hst := groups_step h4 h5 (s := p.gs[i].name) (by simp only [List.mem_cons, List.mem_map]; exact .inr (.inr ⟨_, hmem, rfl⟩))
        generalize p.gs[i] = g at *
        have cb := belongs13_ok g user a3 c3 l' (hm g hmem) (by omega)
        have cq := cp a3 c3 l' g.name (by omega)
        generalize addG Lib.compareBytes l' g.name = W at *
        repeat' first | refine J_seq ?_ | refine J_region Tryz.tyOK ?_ | refine J_block ?_ | refine J_cond ?_ | refine J_ret ?_ | refine J_skip ?_ | refine J_exit ?_ | refine J_scope ?_ | refine CondP.y ?_ | refine CondP.n ?_ | refine CondP.mk (fun h => ?_) (fun h => ?_) | refine EqP.mk rfl ?_ | refine NewP.mk (fun ad => ?_) | refine ArP.x ?_ | refine SideP.a ?_ | fail | (refine CallP.mk [] _ [_, _] _ cb (List.Perm.refl _) (fun _ h => ⟨h.2.2.1 g hmem, h.1, trivial⟩) (fun v L' D' hq => ?_); obtain ⟨b, rfl, rfl, rfl⟩ := hq; cases b) | (refine CallP.mk [] _ [_] _ cq (List.Perm.refl _) (fun _ h => ⟨h.1, trivial⟩) (fun v L' D' hq => ?_); obtain ⟨a4, c4, rfl, rfl, rfl⟩ := hq) | refine IdxE.mk 0 2 _ (hrd _ _) (by omega) (by omega) ?_ | refine FldE.mk 0 2 _ _ (hrd _ _) (by omega) ?_ | refine LoadE.mk 0 _ _ g.cells (hrd _ _) (by omega) (by omega) (by first | omega | decide) (by exact hgc) ?_ | refine LoadE.mk 0 _ _ [.s g.name] (hrd _ _) (by omega) (by omega) (by first | omega | decide) (by exact hgn) ?_ | refine Round.mk (i + 1, l', a3, c3) (by dsimp only; omega) ⟨h4, h5, by dsimp only; omega⟩ SubE.a (Ents.ofSub (by simp) (fun _ h => h)) | refine Round.mk (i + 1, W, a4, c4) (by dsimp only; omega) ⟨hst.1, hst.2, by dsimp only; omega⟩ SubE.a (Ents.facts fun _ h => ⟨h.1, h.2.2.1, h.2.2.2.1, trivial⟩) | fail
      · repeat' first | refine J_seq ?_ | refine J_region Tryz.tyOK ?_ | refine J_block ?_ | refine J_cond ?_ | refine J_ret ?_ | refine J_skip ?_ | refine J_exit ?_ | refine J_scope ?_ | refine CondP.y ?_ | refine CondP.n ?_ | refine CondP.mk (fun h => ?_) (fun h => ?_) | refine EqP.mk rfl ?_ | refine NewP.mk (fun ad => ?_) | refine ArP.x ?_ | refine SideP.a ?_ | refine Round.mk (l.length + 1, l', a3, c3) (by dsimp only; omega) ⟨h4, h5, by dsimp only; omega⟩ SubE.a (Ents.refl _ _) | fail
    · repeat' first | refine J_seq ?_ | refine J_region Tryz.tyOK ?_ | refine J_block ?_ | refine J_cond ?_ | refine J_ret ?_ | refine J_skip ?_ | refine J_exit ?_ | refine J_scope ?_ | refine CondP.y ?_ | refine CondP.n ?_ | refine CondP.mk (fun h => ?_) (fun h => ?_) | refine EqP.mk rfl ?_ | refine NewP.mk (fun ad => ?_) | refine ArP.x ?_ | refine SideP.a ?_ | refine FinE.mk [] [_] ⟨l, by omega, a2, c2, rfl, rfl, rfl⟩ (Ents.dropAll.trans (Ents.facts fun _ h => ⟨h.1, trivial⟩)) | fail
theorem levels13_ok (sp : Int) (s : List UInt8) (hs : s.length ≤ 1000000) : FnS Tryz.prog 83 [.agg [.i .i64 sp, .s s]] [] []
    (fun v L D => ∃ (W : List SCP) (a : Option Addr) (c : Nat), W.length ≤ 1000100 ∧ v = .c (.sl a W.length c) ∧ L = [] ∧ D = [slFact 0 3 a W.length (scC W)]) := by
  have ca := refAncestors0_ok sp s hs
  have hal : (ancT sp s).length ≤ s.length := by
    unfold ancT
    split
    · exact ancL_le _ _
    · exact Nat.zero_le _
  generalize ancT sp s = A at *
  refine fn_of_J Tryz.tyOK 0 Tryz.func83 (by kernel_rfl) (c := Tryz.f83.body.getD .skip) (by kernel_rfl) Tryz.ntmps83 (rs := Tryz.f83.results.toList) rfl (by simp) (fun G => ?_)
  repeat' first | refine J_seq ?_ | refine J_region Tryz.tyOK ?_ | refine J_block ?_ | refine J_cond ?_ | refine J_ret ?_ | refine J_skip ?_ | refine J_exit ?_ | refine J_scope ?_ | refine CondP.y ?_ | refine CondP.n ?_ | refine CondP.mk (fun h => ?_) (fun h => ?_) | refine EqP.mk rfl ?_ | refine NewP.mk (fun ad => ?_) | refine ArP.x ?_ | refine SideP.a ?_ | (refine CallP.mk [] [_, _] [] _ ca (List.Perm.refl _) (fun _ _ => trivial) (fun v L' D' hq => ?_); obtain ⟨a1, k1, rfl, rfl, rfl⟩ := hq) | fail
  rename_i ad0
  refine J_loop (α := Nat × List SCP × Option Addr × Nat) (fun x => [(1, .c (.p 0 ad0 0)), (3, .c (.sl x.2.2.1 x.2.1.length x.2.2.2)), (4, .c (.sl a1 A.length k1)), (5, .c (.i .i64 ((x.1 : Int) - 1)))]) (fun x => [.row 50 2 a1 A.length k1 (titlesC sp A), .row 150 3 x.2.2.1 x.2.1.length x.2.2.2 (scC x.2.1), .box 0 ad0 50 [.i .i64 sp, .s s]]) (fun _ => []) 1
    (fun x => x.1 ≤ A.length ∧ x.2.1.length + x.1 = A.length + 1) (fun x => x.1) (InFam.mk (A.length, [(3, sp, s)], some ⟨ad, 0, none⟩, 1) ⟨Nat.le_refl _, by simp; omega⟩ SubE.a (Ents.of rfl)) (fun x hx => ?_)
  obtain ⟨n, W, a2, c2⟩ := x
  dsimp only at hx ⊢
  obtain ⟨h1, h2⟩ := hx
  cases n with
  | zero =>
    have hW2 : (W ++ [((2 : Int), sp, ([] : List UInt8)), (1, 0, [])]).length = W.length + 2 := by simp
    have hC2 : scC (W ++ [((2 : Int), sp, ([] : List UInt8)), (1, 0, [])]) = scC W ++ [.i .i64 2, .i .i64 sp, .s [], .i .i64 1, .i .i64 0, .s []] := by simp [scC, scF]
    repeat' first | refine J_seq ?_ | refine J_region Tryz.tyOK ?_ | refine J_block ?_ | refine J_cond ?_ | refine J_ret ?_ | refine J_skip ?_ | refine J_exit ?_ | refine J_scope ?_ | refine CondP.y ?_ | refine CondP.n ?_ | refine CondP.mk (fun h => ?_) (fun h => ?_) | refine EqP.mk rfl ?_ | refine NewP.mk (fun ad => ?_) | refine ArP.x ?_ | refine SideP.a ?_ | refine AppE.row [] _ (scC W) [.i .i64 2, .i .i64 sp, .s [], .i .i64 1, .i .i64 0, .s []] 2 rfl (SrcE.sl 150 150 _ _ 2 2 _ rfl rfl (.inl ⟨2, (by first | exact List.Mem.head _ | exact List.Mem.tail _ (List.Mem.head _) | exact List.Mem.tail _ (List.Mem.tail _ (List.Mem.head _)) | exact List.Mem.tail _ (List.Mem.tail _ (List.Mem.tail _ (List.Mem.head _))) | exact List.Mem.tail _ (List.Mem.tail _ (List.Mem.tail _ (List.Mem.tail _ (List.Mem.head _)))))⟩) rfl) (by dsimp only; omega) (fun a' c' => ?_) | refine AppE.row [_] _ (scC W) [.i .i64 2, .i .i64 sp, .s [], .i .i64 1, .i .i64 0, .s []] 2 rfl (SrcE.sl 150 150 _ _ 2 2 _ rfl rfl (.inl ⟨2, (by first | exact List.Mem.head _ | exact List.Mem.tail _ (List.Mem.head _) | exact List.Mem.tail _ (List.Mem.tail _ (List.Mem.head _)) | exact List.Mem.tail _ (List.Mem.tail _ (List.Mem.tail _ (List.Mem.head _))) | exact List.Mem.tail _ (List.Mem.tail _ (List.Mem.tail _ (List.Mem.tail _ (List.Mem.head _)))))⟩) rfl) (by dsimp only; omega) (fun a' c' => ?_) | refine AppE.row [_, _] _ (scC W) [.i .i64 2, .i .i64 sp, .s [], .i .i64 1, .i .i64 0, .s []] 2 rfl (SrcE.sl 150 150 _ _ 2 2 _ rfl rfl (.inl ⟨2, (by first | exact List.Mem.head _ | exact List.Mem.tail _ (List.Mem.head _) | exact List.Mem.tail _ (List.Mem.tail _ (List.Mem.head _)) | exact List.Mem.tail _ (List.Mem.tail _ (List.Mem.tail _ (List.Mem.head _))) | exact List.Mem.tail _ (List.Mem.tail _ (List.Mem.tail _ (List.Mem.tail _ (List.Mem.head _)))))⟩) rfl) (by dsimp only; omega) (fun a' c' => ?_) | fail
    refine FinE.mk [] [slFact 0 3 a' (W.length + 2) (scC W ++ [C.i IntKind.i64 2, C.i IntKind.i64 sp, C.s [], C.i IntKind.i64 1, C.i IntKind.i64 0, C.s []])] ⟨W ++ [(2, sp, []), (1, 0, [])], a', c', by rw [hW2]; omega, by rw [hW2], rfl, by rw [hW2, hC2]⟩ ((Ents.ofSub (L0 := [.row 150 3 a' (W.length + 2) c' (scC W ++ [C.i IntKind.i64 2, C.i IntKind.i64 sp, C.s [], C.i IntKind.i64 1, C.i IntKind.i64 0, C.s []])]) (D0 := []) (by repeat (first | exact List.Sublist.slnil | refine List.Sublist.cons_cons _ ?_ | refine List.Sublist.cons _ ?_)) (fun _ _ => trivial)).trans (Ents.toFact.trans (Ents.facts fun m h => ⟨SlF.label (e := 150) (e' := 0) h.1, trivial⟩)))
  | succ n =>
    have hlt : n < A.length := by omega
    have hg : ((titlesC sp A).drop ((((n + 1 : Nat) : Int) - 1).toNat * 2 + 0)).take 2 = [.i .i64 sp, .s A[n]] := by
      rw [show (((n + 1 : Nat) : Int) - 1).toNat = n by omega]; exact tit_get hlt
    have hrow : ∀ y, scC (W ++ [(3, sp, y)]) = scC W ++ [.i .i64 3, .i .i64 sp, .s y] := fun y => by simp [scC, scF]
    have hln : ∀ y, (W ++ [((3 : Int), sp, y)]).length = W.length + 1 := fun y => by simp
    generalize A[n] = y at *
    repeat' first | refine J_seq ?_ | refine J_region Tryz.tyOK ?_ | refine J_block ?_ | refine J_cond ?_ | refine J_ret ?_ | refine J_skip ?_ | refine J_exit ?_ | refine J_scope ?_ | refine CondP.y ?_ | refine CondP.n ?_ | refine CondP.mk (fun h => ?_) (fun h => ?_) | refine EqP.mk rfl ?_ | refine NewP.mk (fun ad => ?_) | refine ArP.x ?_ | refine SideP.a ?_ | refine IdxE.mk 50 2 _ (.inl ⟨k1, (by first | exact List.Mem.head _ | exact List.Mem.tail _ (List.Mem.head _) | exact List.Mem.tail _ (List.Mem.tail _ (List.Mem.head _)) | exact List.Mem.tail _ (List.Mem.tail _ (List.Mem.tail _ (List.Mem.head _))) | exact List.Mem.tail _ (List.Mem.tail _ (List.Mem.tail _ (List.Mem.tail _ (List.Mem.head _)))))⟩) (by omega) (by omega) ?_ | refine LoadE.mk 50 _ _ [.i .i64 sp, .s y] (.inl ⟨k1, (by first | exact List.Mem.head _ | exact List.Mem.tail _ (List.Mem.head _) | exact List.Mem.tail _ (List.Mem.tail _ (List.Mem.head _)) | exact List.Mem.tail _ (List.Mem.tail _ (List.Mem.tail _ (List.Mem.head _))) | exact List.Mem.tail _ (List.Mem.tail _ (List.Mem.tail _ (List.Mem.tail _ (List.Mem.head _)))))⟩) (by omega) (by omega) (by first | omega | decide) (by exact hg) ?_ | (refine AppE.row [_, _] _ (scC W) [.i .i64 3, .i .i64 sp, .s y] 1 rfl (SrcE.sl 150 150 _ _ 1 1 _ rfl rfl (.inl ⟨1, (by first | exact List.Mem.head _ | exact List.Mem.tail _ (List.Mem.head _) | exact List.Mem.tail _ (List.Mem.tail _ (List.Mem.head _)) | exact List.Mem.tail _ (List.Mem.tail _ (List.Mem.tail _ (List.Mem.head _))) | exact List.Mem.tail _ (List.Mem.tail _ (List.Mem.tail _ (List.Mem.tail _ (List.Mem.head _)))))⟩) rfl) (by dsimp only; omega) (fun a' c' => ?_); rw [← hrow, ← hln y]) | refine Round.mk (n, W ++ [(3, sp, y)], a', c') (by dsimp only; omega) ⟨by dsimp only; omega, by simp; omega⟩ SubE.a Ents.a | fail
theorem matches13_ok (k1 s1 : Int) (n1 : List UInt8) (k2 s2 : Int) (n2 : List UInt8) : FnS Tryz.prog 85 [.agg [.i .i64 k1, .i .i64 s1, .s n1], .agg [.i .i64 k2, .i .i64 s2, .s n2]] [] [] BoolP := by
  refine fn_of_J Tryz.tyOK 0 Tryz.func85 (by kernel_rfl) (c := Tryz.f85.body.getD .skip) (by kernel_rfl) Tryz.ntmps85 (rs := Tryz.f85.results.toList) rfl (by simp) (fun G => ?_)
  repeat' first | refine J_seq ?_ | refine J_region Tryz.tyOK ?_ | refine J_block ?_ | refine J_cond ?_ | refine J_ret ?_ | refine J_skip ?_ | refine J_exit ?_ | refine J_scope ?_ | refine CondP.y ?_ | refine CondP.n ?_ | refine CondP.mk (fun h => ?_) (fun h => ?_) | refine EqP.mk rfl ?_ | refine NewP.mk (fun ad => ?_) | refine ArP.x ?_ | refine SideP.a ?_ | fail | refine FinE.mk [] [] ⟨_, rfl, rfl, rfl⟩ (Ents.dropAll.trans (Ents.facts fun _ _ => trivial)) | fail
theorem may13_ok (p : PolM) (ga : Option Addr) (gc : Nat) (gl : List (List UInt8)) (sp : Int) (nm : List UInt8) (hr : p.rs.length ≤ 1000000) (hg : gl.length ≤ 10000000) (hn : nm.length ≤ 1000000) :
    FnS Tryz.prog 44 [.agg p.cells, .c (.sl ga gl.length gc), .c (.i .i64 1), .agg [.i .i64 sp, .s nm]] [] [slFact 0 6 p.ra p.rs.length (rsC p.rs), slFact 0 1 ga gl.length (sC gl)] BoolP := by
  have cv := validA_ok sp nm
  have cl := levels13_ok sp nm hn
  have ch := fun s => has13_ok 0 ga gc gl s hg
  refine fn_of_J Tryz.tyOK 0 Tryz.func44 (by kernel_rfl) (c := Tryz.f44.body.getD .skip) (by kernel_rfl) Tryz.ntmps44 (rs := Tryz.f44.results.toList) rfl (by simp) (fun G => ?_)
  repeat' first | refine J_seq ?_ | refine J_region Tryz.tyOK ?_ | refine J_block ?_ | refine J_cond ?_ | refine J_ret ?_ | refine J_skip ?_ | refine J_exit ?_ | refine J_scope ?_ | refine CondP.y ?_ | refine CondP.n ?_ | refine CondP.mk (fun h => ?_) (fun h => ?_) | refine EqP.mk rfl ?_ | refine NewP.mk (fun ad => ?_) | refine ArP.x ?_ | refine SideP.a ?_ | refine CallP.isB cv (fun _ => ?_) (fun _ => ?_) | (refine CallP.mk [] _ [] _ cl (List.Perm.refl _) (fun _ _ => trivial) (fun v L' D' hq => ?_); obtain ⟨W, a1, k1, hW, rfl, rfl, rfl⟩ := hq) | refine FinE.mk [] [] ⟨_, rfl, rfl, rfl⟩ (Ents.dropAll.trans (Ents.facts fun _ _ => trivial)) | fail
  rename_i ad0 _hv
  have hrl : ∀ L, Reads L [slFact 0 3 a1 W.length (scC W), slFact 0 6 p.ra p.rs.length (rsC p.rs), slFact 0 1 ga gl.length (sC gl)] 0 3 a1 W.length (scC W) := fun L => .inr fun m h => h.1
  have hrr : ∀ L, Reads L [slFact 0 3 a1 W.length (scC W), slFact 0 6 p.ra p.rs.length (rsC p.rs), slFact 0 1 ga gl.length (sC gl)] 0 6 p.ra p.rs.length (rsC p.rs) := fun L => .inr fun m h => h.2.1
  refine J_loop (α := Nat) (fun i => [(1, .c (.sl ga gl.length gc)), (2, .c (.i .i64 1)), (4, .c (.p 0 ad0 0)), (9, .c (.sl a1 W.length k1)), (10, .c (.i .i64 i))]) (fun _ => [.box 0 ad0 28 p.cells]) (fun _ => [slFact 0 3 a1 W.length (scC W), slFact 0 6 p.ra p.rs.length (rsC p.rs), slFact 0 1 ga gl.length (sC gl)]) 2
    (fun i => i ≤ W.length) (fun i => W.length - i) (InFam.mk 0 (Nat.zero_le _) SubE.a Ents.a) (fun i hi => ?_)
  by_cases hlt : i < W.length
  · have hgl := sc_get hlt
    generalize W[i] = w at *
    repeat' first | refine J_seq ?_ | refine J_region Tryz.tyOK ?_ | refine J_block ?_ | refine J_cond ?_ | refine J_ret ?_ | refine J_skip ?_ | refine J_exit ?_ | refine J_scope ?_ | refine CondP.y ?_ | refine CondP.n ?_ | refine CondP.mk (fun h => ?_) (fun h => ?_) | refine EqP.mk rfl ?_ | refine NewP.mk (fun ad => ?_) | refine ArP.x ?_ | refine SideP.a ?_ | fail
    refine J_loop (α := Nat × Bool × Bool) (fun x => [(1, .c (.sl ga gl.length gc)), (2, .c (.i .i64 1)), (4, .c (.p 0 ad0 0)), (9, .c (.sl a1 W.length k1)), (10, .c (.i .i64 i)), (11, .c (.b x.2.1)), (12, .c (.b x.2.2)), (13, .c (.i .i64 x.1))]) (fun _ => [.box 0 ad0 28 p.cells]) (fun _ => [slFact 0 3 a1 W.length (scC W), slFact 0 6 p.ra p.rs.length (rsC p.rs), slFact 0 1 ga gl.length (sC gl)]) 2
      (fun x => x.1 ≤ p.rs.length) (fun x => p.rs.length - x.1) (InFam.mk (0, false, true) (Nat.zero_le _) SubE.a (Ents.refl _ _)) (fun x hx => ?_)
    obtain ⟨k, b1, b2⟩ := x
    dsimp only at hx ⊢
    by_cases hk : k < p.rs.length
    · have hgr := rs_get hk
      generalize p.rs[k] = r at *
      cases b1 <;> cases b2
      all_goals
        repeat' first | refine J_seq ?_ | refine J_region Tryz.tyOK ?_ | refine J_block ?_ | refine J_cond ?_ | refine J_ret ?_ | refine J_skip ?_ | refine J_exit ?_ | refine J_scope ?_ | refine CondP.y ?_ | refine CondP.n ?_ | refine CondP.mk (fun h => ?_) (fun h => ?_) | refine EqP.mk rfl ?_ | refine NewP.mk (fun ad => ?_) | refine ArP.x ?_ | refine SideP.a ?_ | refine J_drawS (id := 12) Tryz.tyOK (by kernel_rfl) [0, 1, 0, 7, 15, 31, 31, 95, 255, 511, 1023, 2047, 4095, 2047, 2047, 26623, 59391, 131071, 262143] [0, 1, 2, 3, 4, 5, 6, 7, 8, 9, 10, 11, 12, 13, 14, 15, 16, 17, 18] [8, 17] [14, 61] false (by kernel_rfl) ?_ | refine J_drawS (id := 13) Tryz.tyOK (by kernel_rfl) [0, 1, 3, 7, 15, 3, 63] [0, 1, 2, 3, 4, 5, 6] [] [14] false (by kernel_rfl) ?_ | refine EntP.mk Ents.a ?_ | refine IdxE.mk 0 6 _ (hrr _) (by omega) (by omega) ?_ | refine IdxE.mk 0 3 _ (hrl _) (by omega) (by omega) ?_ | refine LoadE.mk 0 _ _ [.b r.allow, .i .i64 r.right, .s r.group, .i .i64 r.kind, .i .i64 r.sp, .s r.nm] (hrr _) (by omega) (by omega) (by first | omega | decide) (by exact hgr) ?_ | refine LoadE.mk 0 _ _ [.i .i64 w.1, .i .i64 w.2.1, .s w.2.2] (hrl _) (by omega) (by omega) (by first | omega | decide) (by exact hgl) ?_ | (refine CallP.mk [] _ [_] _ (ch _) (List.Perm.refl _) (fun _ h => ⟨h.2.2.1, trivial⟩) (fun v L' D' hq => ?_); obtain ⟨b, rfl, rfl, rfl⟩ := hq; cases b) | (refine CallP.mk [] _ [] _ (matches13_ok _ _ _ _ _ _) (List.Perm.refl _) (fun _ _ => trivial) (fun v L' D' hq => ?_); obtain ⟨b, rfl, rfl, rfl⟩ := hq; cases b) | refine Round.mk (k + 1, _, _) (by dsimp only; omega) (by dsimp only; omega) SubE.a Ents.a | fail
    · cases b1
      all_goals
        repeat' first | refine J_seq ?_ | refine J_region Tryz.tyOK ?_ | refine J_block ?_ | refine J_cond ?_ | refine J_ret ?_ | refine J_skip ?_ | refine J_exit ?_ | refine J_scope ?_ | refine CondP.y ?_ | refine CondP.n ?_ | refine CondP.mk (fun h => ?_) (fun h => ?_) | refine EqP.mk rfl ?_ | refine NewP.mk (fun ad => ?_) | refine ArP.x ?_ | refine SideP.a ?_ | refine Round.mk (i + 1) (by omega) (by omega) SubE.a Ents.a | refine FinE.mk [] [] ⟨_, rfl, rfl, rfl⟩ (Ents.dropAll.trans (Ents.facts fun _ _ => trivial)) | fail
  · repeat' first | refine J_seq ?_ | refine J_region Tryz.tyOK ?_ | refine J_block ?_ | refine J_cond ?_ | refine J_ret ?_ | refine J_skip ?_ | refine J_exit ?_ | refine J_scope ?_ | refine CondP.y ?_ | refine CondP.n ?_ | refine CondP.mk (fun h => ?_) (fun h => ?_) | refine EqP.mk rfl ?_ | refine NewP.mk (fun ad => ?_) | refine ArP.x ?_ | refine SideP.a ?_ | refine FinE.mk [] [] ⟨_, rfl, rfl, rfl⟩ (Ents.dropAll.trans (Ents.facts fun _ _ => trivial)) | fail
theorem text27_ok (s : STM) (sp : Int) (nm : Bs) (hs : StB s) : FnS Tryz.prog 30 [.agg s.cells, .agg [.i .i64 sp, .s nm]] [] [stF s] (Is (textV (s.pages.find? (atM sp nm)))) := by
  have cp := page27_ok s sp nm hs
  cases hf : s.pages.find? (atM sp nm) with
  | none =>
    rw [hf] at cp
    have cc : FnS Tryz.prog 45 [.agg [.i .i64 0, .s [], .sl none 0 0]] [] [slFact 0 6 none 0 []] (Is (.agg (curM []).cells)) := cur27_ok 0 ⟨0, [], none, 0, []⟩ (Nat.zero_le _)
    refine fn_of_J Tryz.tyOK 0 Tryz.func30 (by kernel_rfl) (c := Tryz.f30.body.getD .skip) (by kernel_rfl) Tryz.ntmps30 (rs := Tryz.f30.results.toList) rfl (by simp) (fun G => ?_)
    repeat' first | refine J_seq ?_ | refine J_region Tryz.tyOK ?_ | refine J_block ?_ | refine J_cond ?_ | refine J_ret ?_ | refine J_skip ?_ | refine J_exit ?_ | refine J_scope ?_ | refine CondP.y ?_ | refine CondP.n ?_ | refine CondP.mk (fun h => ?_) (fun h => ?_) | refine EqP.mk rfl ?_ | refine NewP.mk (fun ad => ?_) | refine ArP.x ?_ | refine SideP.a ?_ | refine CallP.is cp ?_ | refine FinE.is rfl | fail
    refine CallP.is cc ?_ (fun _ _ => ⟨SlF.nil (e := 0), trivial⟩)
    repeat' first | refine J_seq ?_ | refine J_region Tryz.tyOK ?_ | refine J_block ?_ | refine J_cond ?_ | refine J_ret ?_ | refine J_skip ?_ | refine J_exit ?_ | refine J_scope ?_ | refine CondP.y ?_ | refine CondP.n ?_ | refine CondP.mk (fun h => ?_) (fun h => ?_) | refine EqP.mk rfl ?_ | refine NewP.mk (fun ad => ?_) | refine ArP.x ?_ | refine SideP.a ?_ | refine FinE.is rfl | fail
  | some p =>
    rw [hf] at cp
    have hm := List.mem_of_find?_eq_some hf
    have cc := cur27_ok 0 p (hs.ph p hm)
    refine fn_of_J Tryz.tyOK 0 Tryz.func30 (by kernel_rfl) (c := Tryz.f30.body.getD .skip) (by kernel_rfl) Tryz.ntmps30 (rs := Tryz.f30.results.toList) rfl (by simp) (fun G => ?_)
    repeat' first | refine J_seq ?_ | refine J_region Tryz.tyOK ?_ | refine J_block ?_ | refine J_cond ?_ | refine J_ret ?_ | refine J_skip ?_ | refine J_exit ?_ | refine J_scope ?_ | refine CondP.y ?_ | refine CondP.n ?_ | refine CondP.mk (fun h => ?_) (fun h => ?_) | refine EqP.mk rfl ?_ | refine NewP.mk (fun ad => ?_) | refine ArP.x ?_ | refine SideP.a ?_ | refine CallP.is cp ?_ | refine CallP.is cc ?_ (fun _ h => ⟨h.1.pages.his p hm, trivial⟩) | refine FinE.is rfl | fail
theorem policy29_ok : FnS Tryz.prog 77 [] [] [] (Is (.agg [.i .i64 5, .s policyNm])) := by
  refine fn_of_J Tryz.tyOK 0 Tryz.func77 (by kernel_rfl) (c := Tryz.f77.body.getD .skip) (by kernel_rfl) Tryz.ntmps77 (rs := Tryz.f77.results.toList) rfl (by simp) (fun G => ?_)
  repeat' first | refine J_seq ?_ | refine J_region Tryz.tyOK ?_ | refine J_block ?_ | refine J_cond ?_ | refine J_ret ?_ | refine J_skip ?_ | refine J_exit ?_ | refine J_scope ?_ | refine CondP.y ?_ | refine CondP.n ?_ | refine CondP.mk (fun h => ?_) (fun h => ?_) | refine EqP.mk rfl ?_ | refine NewP.mk (fun ad => ?_) | refine ArP.x ?_ | refine SideP.a ?_ | refine FinE.is rfl | fail
theorem policyOf29_ok (s : STM) (hs : StB s) (ht : ∀ p ∈ s.pages, (curM p.hist).text.length ≤ 1000000) : FnS Tryz.prog 42 [.agg s.cells] [] [stF s] (fun v L D => ∃ p : PolM, PolOK p ∧ p.gs.length ≤ 1000000 ∧ p.rs.length ≤ 1000000 ∧ (∀ g ∈ p.gs, g.mem.length ≤ 10000000) ∧ v = .agg p.cells ∧ L = [] ∧ D = p.facts) := by
  have cx := text27_ok s 5 policyNm hs
  have hnil : PolOK polNil := PolOK.of (p := polNil) (P3B.nil 8192) (by omega) (by omega) (Nat.le_refl _)
  have hfin : ∀ p : PolM, p.gs.length ≤ p.gc → P3B 8192 8193 p.p3 → PolOK p ∧ p.gs.length ≤ 1000000 ∧ p.rs.length ≤ 1000000 ∧ (∀ g ∈ p.gs, g.mem.length ≤ 10000000) := fun p hc hb => by
    have h1 := hb.gl
    have h2 := hb.rl
    refine ⟨PolOK.of hb (by omega) (by omega) hc, ?_, ?_, fun g hg => ?_⟩
    · simp only [PolM.p3, gpOf, List.length_map] at h1; omega
    · simp only [PolM.p3] at h2; omega
    · have := (hb.gb (g.name, g.mem) (List.mem_map.2 ⟨g, hg, rfl⟩)).2.1
      dsimp only at this; omega
  cases hf : s.pages.find? (atM 5 policyNm) with
  | none =>
    rw [hf] at cx
    refine fn_of_J Tryz.tyOK 0 Tryz.func42 (by kernel_rfl) (c := Tryz.f42.body.getD .skip) (by kernel_rfl) Tryz.ntmps42 (rs := Tryz.f42.results.toList) rfl (by simp) (fun G => ?_)
    repeat' first | refine J_seq ?_ | refine J_region Tryz.tyOK ?_ | refine J_block ?_ | refine J_cond ?_ | refine J_ret ?_ | refine J_skip ?_ | refine J_exit ?_ | refine J_scope ?_ | refine CondP.y ?_ | refine CondP.n ?_ | refine CondP.mk (fun h => ?_) (fun h => ?_) | refine EqP.mk rfl ?_ | refine NewP.mk (fun ad => ?_) | refine ArP.x ?_ | refine SideP.a ?_ | refine J_drawS (id := 1) Tryz.tyOK (by kernel_rfl) [0, 0, 3, 7, 15, 15, 31, 127] [0, 1, 2, 3, 4, 5, 6, 7] [1, 2] [1] false (by kernel_rfl) ?_ | refine EntP.mk Ents.a ?_ | refine CallP.is policy29_ok ?_ | refine CallP.is cx ?_ | exact FinE.mk [] polNil.facts ⟨polNil, hnil, by decide, by decide, (fun _ h => by cases h), rfl, rfl, rfl⟩ (Ents.dropAll.trans (Ents.facts fun m _ => polNil_facts m)) | fail
  | some p =>
    rw [hf] at cx
    have cp := refParse12_ok (curM p.hist).text (ht p (List.mem_of_find?_eq_some hf))
    refine fn_of_J Tryz.tyOK 0 Tryz.func42 (by kernel_rfl) (c := Tryz.f42.body.getD .skip) (by kernel_rfl) Tryz.ntmps42 (rs := Tryz.f42.results.toList) rfl (by simp) (fun G => ?_)
    repeat' first | refine J_seq ?_ | refine J_region Tryz.tyOK ?_ | refine J_block ?_ | refine J_cond ?_ | refine J_ret ?_ | refine J_skip ?_ | refine J_exit ?_ | refine J_scope ?_ | refine CondP.y ?_ | refine CondP.n ?_ | refine CondP.mk (fun h => ?_) (fun h => ?_) | refine EqP.mk rfl ?_ | refine NewP.mk (fun ad => ?_) | refine ArP.x ?_ | refine SideP.a ?_ | refine J_drawS (id := 1) Tryz.tyOK (by kernel_rfl) [0, 0, 3, 7, 15, 15, 31, 127] [0, 1, 2, 3, 4, 5, 6, 7] [1, 2] [1] false (by kernel_rfl) ?_ | refine EntP.mk Ents.a ?_ | refine CallP.is policy29_ok ?_ | refine CallP.is cx ?_ | (refine CallP.mk [] _ [] _ cp (List.Perm.refl _) (fun _ _ => trivial) (fun v L' D' hq => ?_); obtain ⟨p1, hp1, hgc, hb, rfl, rfl, rfl⟩ := hq) | exact FinE.mk [] p1.facts ⟨p1, (hfin p1 hgc hb).1, (hfin p1 hgc hb).2.1, (hfin p1 hgc hb).2.2.1, (hfin p1 hgc hb).2.2.2, rfl, rfl, rfl⟩ (Ents.dropAll.trans (Ents.facts fun m h => ⟨h.1, h.2.1, h.2.2.1, h.2.2.2.1, trivial⟩)) | exact FinE.mk [] polNil.facts ⟨polNil, hnil, by decide, by decide, (fun _ h => by cases h), rfl, rfl, rfl⟩ (Ents.dropAll.trans (Ents.facts fun m _ => polNil_facts m)) | fail
end Go.Proofs

/- This text walks through the functions Build of the reference of chapter 35 and of the package search: both give the rows of all pages in order. -/
namespace Go.X
open Go Go.Lib
def pgmRows (p : PGM) : List WR := rowsT p.sp p.nm (curM p.hist).text
theorem buildT_is (s : STM) : buildT s.pl = ordW (s.pages.flatMap pgmRows) := by
  unfold buildT
  rw [show s.pl.pages = s.pages.map PGM.pl from rfl, List.flatMap_map]
  rfl
/-- The pages of a state are few and not long. -/
structure PgS (s : STM) : Prop where
  n : s.pages.length ≤ 200
  h : ∀ p ∈ s.pages, p.hist.length ≤ big
  t : ∀ p ∈ s.pages, p.nm.length + (curM p.hist).text.length ≤ 10000
theorem pgmRows_len {s : STM} (h : PgS s) {p : PGM} (hp : p ∈ s.pages) : (pgmRows p).length ≤ 10002 := by
  have := h.t p hp
  have := rowsT_len p.sp p.nm (curM p.hist).text
  unfold pgmRows; omega
theorem flatRows_len {s : STM} (h : PgS s) : (s.pages.flatMap pgmRows).length ≤ 2000400 := by
  have key : ∀ l : List PGM, (∀ p ∈ l, p ∈ s.pages) → (l.flatMap pgmRows).length ≤ l.length * 10002 := by
    intro l
    induction l with
    | nil => intro _; simp
    | cons x r ih =>
      intro hs
      have h1 := pgmRows_len h (hs x (List.mem_cons_self ..))
      have h2 := ih fun p hp => hs p (List.mem_cons_of_mem _ hp)
      rw [List.flatMap_cons, List.length_append, List.length_cons]
      omega
  have := key s.pages fun _ h => h
  have := h.n
  omega
end Go.X
namespace Go.Proofs
open Go Go.X
set_option maxRecDepth 100000
set_option maxHeartbeats 4000000
theorem refBuild_ok (s : STM) (hs : PgS s) : FnS Tryz.prog 15 [.agg s.cells] [] [stF s] (RowP (buildT s.pl)) := by
  have hF : buildT s.pl = (s.pages.flatMap pgmRows).foldl addW [] := by rw [buildT_is, foldAdd_is]
  generalize buildT s.pl = W at *
  have hrp : ∀ L, Reads L [stF s] 0 3 s.pa s.pages.length (pgmC s.pages) := fun L => .inr fun m h => h.1.pages.row
  have hn := hs.n
  refine fn_of_J Tryz.tyOK 0 Tryz.func15 (by kernel_rfl) (c := Tryz.f15.body.getD .skip) (by kernel_rfl) Tryz.ntmps15 (rs := Tryz.f15.results.toList) rfl (by simp) (fun G => ?_)
  repeat' first | refine J_seq ?_ | refine J_region Tryz.tyOK ?_ | refine J_block ?_ | refine J_cond ?_ | refine J_ret ?_ | refine J_skip ?_ | refine J_exit ?_ | refine J_scope ?_ | refine CondP.y ?_ | refine CondP.n ?_ | refine CondP.mk (fun h => ?_) (fun h => ?_) | refine EqP.mk rfl ?_ | refine NewP.mk (fun ad => ?_) | refine ArP.x ?_ | refine SideP.a ?_ | fail
  refine J_loop (α := Nat × List WR × Option Addr × Nat) (fun x => [(1, .c (.p 0 ad 0)), (3, .c (.sl x.2.2.1 x.2.1.length x.2.2.2)), (4, .c (.i .i64 x.1))]) (fun x => [.row 60 4 x.2.2.1 x.2.1.length x.2.2.2 (wrC x.2.1), .box 0 ad 42 s.cells]) (fun _ => [stF s]) 1
    (fun x => x.1 ≤ s.pages.length ∧ x.2.1.length ≤ x.1 * 10002 ∧ W = ((s.pages.drop x.1).flatMap pgmRows).foldl addW x.2.1) (fun x => s.pages.length - x.1) (InFam.mk (0, [], none, 0) ⟨Nat.zero_le _, Nat.zero_le _, hF⟩ SubE.a (Ents.nilRow (ety := 60) (esz := 4))) (fun x hx => ?_)
  clear hF
  obtain ⟨i, out, b1, d1⟩ := x
  dsimp only at hx ⊢
  obtain ⟨hi, hol, he⟩ := hx
  by_cases hlt : i < s.pages.length
  · have hg := pgm_get hlt
    have hg2 := pgm_get2 hlt
    have hmem : s.pages[i] ∈ s.pages := List.getElem_mem hlt
    rw [List.drop_eq_getElem_cons hlt, List.flatMap_cons, List.foldl_append] at he
    generalize s.pages[i] = p at *
    have hrl := pgmRows_len hs hmem
    have cr := refRows_ok p.sp p.nm (curM p.hist).text (hs.t p hmem)
    have cc := cur27_ok 0 p (hs.h p hmem)
    change FnS _ _ _ _ _ (RowP (pgmRows p)) at cr
    generalize pgmRows p = R at *
    repeat' first | refine J_seq ?_ | refine J_region Tryz.tyOK ?_ | refine J_block ?_ | refine J_cond ?_ | refine J_ret ?_ | refine J_skip ?_ | refine J_exit ?_ | refine J_scope ?_ | refine CondP.y ?_ | refine CondP.n ?_ | refine CondP.mk (fun h => ?_) (fun h => ?_) | refine EqP.mk rfl ?_ | refine NewP.mk (fun ad => ?_) | refine ArP.x ?_ | refine SideP.a ?_ | refine J_drawS (id := 5) Tryz.tyOK (by kernel_rfl) [0, 1, 0, 7, 15, 31, 0, 64, 0, 448, 960, 1984, 4032, 8191, 16383] [0, 1, 2, 3, 4, 5, 6, 7, 8, 9, 10, 11, 12, 13, 14] [13] [1, 17, 23] false (by kernel_rfl) ?_ | refine EntP.mk Ents.a ?_ | refine IdxE.mk 0 3 _ (hrp _) (by omega) (by omega) ?_ | refine FldE.mk 0 3 _ _ (hrp _) (by omega) ?_ | refine LoadE.mk 0 _ _ [.i .i64 p.sp, .s p.nm] (hrp _) (by omega) (by omega) (by first | omega | decide) (by exact hg2) ?_ | refine LoadE.mk 0 _ _ p.cells (hrp _) (by omega) (by omega) (by first | omega | decide) (by exact hg) ?_ | refine CallQ.mk [_] _ cc (fun _ h => ⟨h.1.pages.his p hmem, trivial⟩) ?_ | (refine CallP.mk [] [_, _] [] _ cr (List.Perm.refl _) (fun _ _ => trivial) (fun v L' D' hq => ?_); obtain ⟨a2, k2, rfl, rfl, rfl⟩ := hq) | fail
    have hrr : ∀ L, Reads L [slFact 60 4 a2 R.length (wrC R), stF s] 60 4 a2 R.length (wrC R) := fun L => .inr fun m h => h.1
    refine J_loop (α := Nat × List WR × Option Addr × Nat) (fun x => [(1, .c (.p 0 ad 0)), (3, .c (.sl x.2.2.1 x.2.1.length x.2.2.2)), (4, .c (.i .i64 i)), (5, .c (.sl a2 R.length k2)), (6, .c (.i .i64 x.1))]) (fun x => [.row 60 4 x.2.2.1 x.2.1.length x.2.2.2 (wrC x.2.1), .box 0 ad 42 s.cells]) (fun _ => [slFact 60 4 a2 R.length (wrC R), stF s]) 1
      (fun x => x.1 ≤ R.length ∧ x.2.1.length ≤ i * 10002 + x.1 ∧ W = ((s.pages.drop (i + 1)).flatMap pgmRows).foldl addW ((R.drop x.1).foldl addW x.2.1)) (fun x => R.length - x.1) (InFam.mk (0, out, b1, d1) ⟨Nat.zero_le _, by dsimp only; omega, he⟩ SubE.a Ents.toFact) (fun x hx => ?_)
    clear he hol
    obtain ⟨k, out, b1, d1⟩ := x
    dsimp only at hx ⊢
    obtain ⟨hk, hol, he⟩ := hx
    by_cases hkl : k < R.length
    · have hgk := wr_get hkl
      rw [List.drop_eq_getElem_cons hkl, List.foldl_cons] at he
      generalize R[k] = y at *
      have ca := fun b1 d1 => add_ok b1 d1 out y (by omega)
      have hal := addW_len out y
      repeat' first | refine J_seq ?_ | refine J_region Tryz.tyOK ?_ | refine J_block ?_ | refine J_cond ?_ | refine J_ret ?_ | refine J_skip ?_ | refine J_exit ?_ | refine J_scope ?_ | refine CondP.y ?_ | refine CondP.n ?_ | refine CondP.mk (fun h => ?_) (fun h => ?_) | refine EqP.mk rfl ?_ | refine NewP.mk (fun ad => ?_) | refine ArP.x ?_ | refine SideP.a ?_ | refine IdxE.mk 60 4 _ (hrr _) (by omega) (by omega) ?_ | refine LoadE.mk 60 _ _ [.s y.w, .i .i64 y.sp, .s y.nm, .i .i64 y.n] (hrr _) (by omega) (by omega) (by first | omega | decide) (by exact hgk) ?_ | (refine CallP.mk [_] [_] [] _ (ca _ _) (List.Perm.refl _) (fun _ _ => trivial) (fun v L' D' hq => ?_); obtain ⟨a3, k3, rfl, rfl, rfl⟩ := hq) | refine Round.mk (k + 1, addW out y, a3, k3) (by dsimp only; omega) ⟨by dsimp only; omega, by dsimp only; omega, he⟩ SubE.a Ents.a | fail
    · have hke : k = R.length := by omega
      rw [hke, List.drop_length] at he
      have he : W = ((s.pages.drop (i + 1)).flatMap pgmRows).foldl addW out := he
      repeat' first | refine J_seq ?_ | refine J_region Tryz.tyOK ?_ | refine J_block ?_ | refine J_cond ?_ | refine J_ret ?_ | refine J_skip ?_ | refine J_exit ?_ | refine J_scope ?_ | refine CondP.y ?_ | refine CondP.n ?_ | refine CondP.mk (fun h => ?_) (fun h => ?_) | refine EqP.mk rfl ?_ | refine NewP.mk (fun ad => ?_) | refine ArP.x ?_ | refine SideP.a ?_ | refine Round.mk (i + 1, out, b1, d1) (by dsimp only; omega) ⟨by dsimp only; omega, by dsimp only; omega, he⟩ SubE.a (Ents.facts fun _ h => h.2) | fail
  · have hil : i = s.pages.length := by omega
    rw [hil, List.drop_length] at he
    have he : W = out := he
    subst he
    repeat' first | refine J_seq ?_ | refine J_region Tryz.tyOK ?_ | refine J_block ?_ | refine J_cond ?_ | refine J_ret ?_ | refine J_skip ?_ | refine J_exit ?_ | refine J_scope ?_ | refine CondP.y ?_ | refine CondP.n ?_ | refine CondP.mk (fun h => ?_) (fun h => ?_) | refine EqP.mk rfl ?_ | refine NewP.mk (fun ad => ?_) | refine ArP.x ?_ | refine SideP.a ?_ | refine FinE.mk [_] [] ⟨_, _, rfl, rfl, rfl⟩ (Ents.ofSub (by repeat (first | exact List.Sublist.slnil | refine List.Sublist.cons_cons _ ?_ | refine List.Sublist.cons _ ?_)) (fun _ _ => trivial)) | fail
end Go.Proofs
