/- This text walks through the makers of users, policies, notes, revisions and changes from which statements make inputs (trcgen2). -/
import Derived.Test.YthknndkjnglegaaGreatI17
import Derived.Test.YthknndkjnglegaaGreatI12
import Derived.Test.YthknndkjnglegaaGreatI21
import Derived.Test.YthknndkjnglegaaGreatI19
set_option linter.all false

namespace Go.X
open Go
def genUsers : List Bs := [[97, 110, 110], [98, 111, 98], [], [99, 121], [97, 110, 110]]
def genNotes : List Bs := [[], [110, 111, 116, 101], [97, 95, 98, 32, 126]]
def genPols : List Bs := [[97, 108, 108, 111, 119, 32, 114, 101, 97, 100, 32, 97, 108, 108, 32, 60, 97, 108, 108, 62, 10, 97, 108, 108, 111, 119, 32, 101, 100, 105, 116, 32, 97, 108, 108, 32, 60, 97, 108, 108, 62, 10, 97, 108, 108, 111, 119, 32, 109, 111, 118, 101, 32, 97, 108, 108, 32, 60, 97, 108, 108, 62, 10, 97, 108, 108, 111, 119, 32, 100, 101, 108, 101, 116, 101, 32, 97, 108, 108, 32, 60, 97, 108, 108, 62, 10, 97, 108, 108, 111, 119, 32, 114, 101, 118, 105, 101, 119, 32, 97, 108, 108, 32, 60, 97, 108, 108, 62, 10],
  [97, 108, 108, 111, 119, 32, 114, 101, 97, 100, 32, 97, 108, 108, 32, 60, 97, 108, 108, 62, 10, 97, 108, 108, 111, 119, 32, 101, 100, 105, 116, 32, 97, 108, 108, 32, 60, 97, 108, 108, 62, 10, 97, 108, 108, 111, 119, 32, 109, 111, 118, 101, 32, 97, 108, 108, 32, 60, 97, 108, 108, 62, 10, 97, 108, 108, 111, 119, 32, 100, 101, 108, 101, 116, 101, 32, 97, 108, 108, 32, 60, 97, 108, 108, 62, 10, 97, 108, 108, 111, 119, 32, 114, 101, 118, 105, 101, 119, 32, 97, 108, 108, 32, 60, 97, 108, 108, 62, 10, 103, 114, 111, 117, 112, 32, 115, 116, 97, 102, 102, 32, 97, 110, 110, 10, 100, 101, 110, 121, 32, 114, 101, 97, 100, 32, 97, 108, 108, 32, 65, 10, 97, 108, 108, 111, 119, 32, 114, 101, 97, 100, 32, 115, 116, 97, 102, 102, 32, 65, 47, 67, 10],
  [97, 108, 108, 111, 119, 32, 114, 101, 97, 100, 32, 97, 108, 108, 32, 60, 97, 108, 108, 62, 10, 97, 108, 108, 111, 119, 32, 101, 100, 105, 116, 32, 97, 108, 108, 32, 60, 97, 108, 108, 62, 10, 97, 108, 108, 111, 119, 32, 109, 111, 118, 101, 32, 97, 108, 108, 32, 60, 97, 108, 108, 62, 10, 97, 108, 108, 111, 119, 32, 100, 101, 108, 101, 116, 101, 32, 97, 108, 108, 32, 60, 97, 108, 108, 62, 10, 97, 108, 108, 111, 119, 32, 114, 101, 118, 105, 101, 119, 32, 97, 108, 108, 32, 60, 97, 108, 108, 62, 10, 103, 114, 111, 117, 112, 32, 115, 116, 97, 102, 102, 32, 97, 110, 110, 10, 103, 117, 97, 114, 100, 32, 115, 116, 97, 102, 102, 32, 65, 32, 124, 32, 83, 10, 115, 116, 114, 105, 99, 116, 32, 115, 116, 97, 102, 102, 32, 84, 101, 109, 112, 108, 97, 116, 101, 58, 84, 10, 103, 117, 97, 114, 100, 32, 115, 116, 97, 102, 102, 32, 66, 10],
  [103, 114, 111, 117, 112, 32, 115, 116, 97, 102, 102, 32, 97, 110, 110, 32, 64, 109, 111, 114, 101, 10, 103, 114, 111, 117, 112, 32, 109, 111, 114, 101, 32, 98, 111, 98, 10, 97, 108, 108, 111, 119, 32, 114, 101, 97, 100, 32, 97, 108, 108, 32, 60, 77, 97, 105, 110, 62, 10, 97, 108, 108, 111, 119, 32, 114, 101, 97, 100, 32, 97, 108, 108, 32, 60, 84, 101, 109, 112, 108, 97, 116, 101, 62, 10, 97, 108, 108, 111, 119, 32, 114, 101, 97, 100, 32, 97, 108, 108, 32, 60, 67, 97, 116, 101, 103, 111, 114, 121, 62, 10, 97, 108, 108, 111, 119, 32, 101, 100, 105, 116, 32, 117, 115, 101, 114, 115, 32, 60, 77, 97, 105, 110, 62, 10, 97, 108, 108, 111, 119, 32, 101, 100, 105, 116, 32, 115, 116, 97, 102, 102, 32, 60, 67, 97, 116, 101, 103, 111, 114, 121, 62, 10, 97, 108, 108, 111, 119, 32, 114, 101, 118, 105, 101, 119, 32, 115, 116, 97, 102, 102, 32, 60, 97, 108, 108, 62, 10, 97, 108, 108, 111, 119, 32, 109, 111, 118, 101, 32, 115, 116, 97, 102, 102, 32, 60, 97, 108, 108, 62, 10, 97, 108, 108, 111, 119, 32, 100, 101, 108, 101, 116, 101, 32, 115, 116, 97, 102, 102, 32, 60, 97, 108, 108, 62, 10, 97, 108, 108, 111, 119, 32, 114, 101, 97, 100, 32, 115, 116, 97, 102, 102, 32, 60, 97, 108, 108, 62, 10, 97, 108, 108, 111, 119, 32, 101, 100, 105, 116, 32, 115, 116, 97, 102, 102, 32, 60, 97, 108, 108, 62, 10],
  [97, 108, 108, 111, 119, 32, 114, 101, 97, 100, 32, 97, 108, 108, 32, 60, 97, 108, 108, 62, 10, 97, 108, 108, 111, 119, 32, 101, 100, 105, 116, 32, 97, 108, 108, 32, 60, 97, 108, 108, 62, 10, 97, 108, 108, 111, 119, 32, 109, 111, 118, 101, 32, 97, 108, 108, 32, 60, 97, 108, 108, 62, 10, 97, 108, 108, 111, 119, 32, 100, 101, 108, 101, 116, 101, 32, 97, 108, 108, 32, 60, 97, 108, 108, 62, 10, 97, 108, 108, 111, 119, 32, 114, 101, 118, 105, 101, 119, 32, 97, 108, 108, 32, 60, 97, 108, 108, 62, 10, 100, 101, 110, 121, 32, 114, 101, 97, 100, 32, 97, 108, 108, 32, 66, 10, 100, 101, 110, 121, 32, 114, 101, 97, 100, 32, 97, 108, 108, 32, 67, 97, 116, 101, 103, 111, 114, 121, 58, 89, 10],
  [97, 108, 108, 111, 119, 32, 114, 101, 97, 100, 32, 97, 108, 108, 32, 60, 97, 108, 108, 62, 10, 97, 108, 108, 111, 119, 32, 101, 100, 105, 116, 32, 97, 108, 108, 32, 60, 97, 108, 108, 62, 10, 97, 108, 108, 111, 119, 32, 109, 111, 118, 101, 32, 97, 108, 108, 32, 60, 97, 108, 108, 62, 10, 97, 108, 108, 111, 119, 32, 100, 101, 108, 101, 116, 101, 32, 97, 108, 108, 32, 60, 97, 108, 108, 62, 10, 97, 108, 108, 111, 119, 32, 114, 101, 118, 105, 101, 119, 32, 97, 108, 108, 32, 60, 97, 108, 108, 62, 10, 100, 101, 110, 121, 32, 101, 100, 105, 116, 32, 97, 108, 108, 32, 66, 10, 100, 101, 110, 121, 32, 114, 101, 97, 100, 32, 117, 115, 101, 114, 115, 32, 68, 10],
  [97, 108, 108, 111, 119, 32, 114, 101, 97, 100, 32, 97, 108, 108, 32, 60, 97, 108, 108, 62, 10, 97, 108, 108, 111, 119, 32, 101, 100, 105, 116, 32, 97, 108, 108, 32, 60, 97, 108, 108, 62, 10, 97, 108, 108, 111, 119, 32, 109, 111, 118, 101, 32, 97, 108, 108, 32, 60, 97, 108, 108, 62, 10, 97, 108, 108, 111, 119, 32, 100, 101, 108, 101, 116, 101, 32, 97, 108, 108, 32, 60, 97, 108, 108, 62, 10, 97, 108, 108, 111, 119, 32, 114, 101, 118, 105, 101, 119, 32, 97, 108, 108, 32, 60, 97, 108, 108, 62, 10],
  [97, 108, 108, 111, 119, 32, 114, 101, 97, 100, 32, 97, 108, 108, 32, 60, 97, 108, 108, 62, 10, 97, 108, 108, 111, 119, 32, 101, 100, 105, 116, 32, 97, 108, 108, 32, 60, 97, 108, 108, 62, 10, 97, 108, 108, 111, 119, 32, 109, 111, 118, 101, 32, 97, 108, 108, 32, 60, 97, 108, 108, 62, 10, 97, 108, 108, 111, 119, 32, 100, 101, 108, 101, 116, 101, 32, 97, 108, 108, 32, 60, 97, 108, 108, 62, 10, 97, 108, 108, 111, 119, 32, 114, 101, 118, 105, 101, 119, 32, 97, 108, 108, 32, 60, 97, 108, 108, 62, 10, 103, 114, 111, 117, 112, 32, 115, 116, 97, 102, 102, 32, 97, 110, 110, 10, 100, 101, 110, 121, 32, 114, 101, 118, 105, 101, 119, 32, 97, 108, 108, 32, 60, 97, 108, 108, 62, 10, 97, 108, 108, 111, 119, 32, 114, 101, 118, 105, 101, 119, 32, 115, 116, 97, 102, 102, 32, 60, 77, 97, 105, 110, 62, 10, 103, 117, 97, 114, 100, 32, 115, 116, 97, 102, 102, 32, 65, 10, 103, 117, 97, 114, 100, 32, 115, 116, 97, 102, 102, 32, 68, 10]]
def genKinds : List Int := [1, 1, 1, 1, 1, 2, 3, 4, 5, 6, 7, 8, 9, 10]
theorem idxI (ws : List Int) {k : Int} (h : 0 ≤ k) (h1 : k < ws.length) : ((ws.map (C.i .i64)).drop (k.toNat * 1)).take 1 = [C.i .i64 (ws.getD k.toNat 0)] := by
  have := map_take1 (f := C.i .i64) (l := ws) (i := k.toNat) (by omega)
  rw [Nat.add_zero] at this
  rw [this]
  simp [show k.toNat < ws.length by omega]
theorem getD_mem {α : Type} {l : List α} {d : α} {k : Int} (h : 0 ≤ k) (h1 : k < l.length) : l.getD k.toNat d ∈ l := by
  have hk : k.toNat < l.length := by omega
  rw [List.getD_eq_getElem?_getD, List.getElem?_eq_getElem hk]
  exact List.getElem_mem hk
theorem genKinds_range {x : Int} (h : x ∈ genKinds) : 1 ≤ x ∧ x ≤ 10 := by
  simp only [genKinds, List.mem_cons, List.not_mem_nil, or_false] at h
  omega
theorem genT_mem (l : List Int) (g : GS) : genT l g ∈ genTitles := by
  have hr := nextGV_range (l := l) g (n := 8) (by omega)
  exact getD_mem hr.1 hr.2
/-- A made change. -/
structure MadeC (c : CH) : Prop where
  kind : 1 ≤ c.kind ∧ c.kind ≤ 10
  ttl : (c.kind ≠ 6 ∧ c.kind ≠ 10) → (c.sp, c.nm) ∈ genTitles
  dest : c.kind = 4 → (c.tsp, c.tnm) ∈ genTitles
  user : c.user ∈ genUsers
  text : c.text.length ≤ 1000
  hist : ∀ r ∈ c.hist, r.text.length ≤ 1000
  len : c.hist.length ≤ 3
/-- The histories of changes lie there. -/
def chhF (l : List CHM) : Fact := ⟨fun m => chsP m l, fun _ _ hm h => fun c hc => (h c hc).mono hm⟩
theorem chsP.snoc {m : Im} {l : List CHM} {c : CHM} (h : chsP m l) (hc : SlF m 0 6 c.ha c.hist.length (rvC c.hist)) : chsP m (l ++ [c]) := fun x hx => by
  rcases List.mem_append.1 hx with hx | hx
  · exact h x hx
  · rw [List.mem_singleton.1 hx]; exact hc
end Go.X
namespace Go.Proofs
open Go Go.X
set_option maxRecDepth 100000
set_option maxHeartbeats 4000000
theorem genUser_ok (e : Nat) (a : Option Addr) (c ad : Nat) (l : List Int) (g : GS) (hg : g.ok l) (hl : l.length ≤ maxLen) : FnS Tryz.prog 41 [.c (.p 1000 ad 0)] [srcC ad a l.length c g] [intsF e a l]
    (fun v L D => ∃ s g', v = .c (.s s) ∧ s ∈ genUsers ∧ g'.ok l ∧ L = [srcC ad a l.length c g'] ∧ D = []) := by
  have c1 := next_ok e a c ad l g 5 (by omega) (by omega) hg hl
  have hr := nextGV_range (l := l) g (n := 5) (by omega)
  have hix := idxB genUsers hr.1 hr.2
  have hm := getD_mem (l := genUsers) (d := []) hr.1 hr.2
  have hgn := nextGS_ok hg
  generalize nextGV l g 5 = k at *
  refine fn_of_J Tryz.tyOK 4000 Tryz.func41 (by kernel_rfl) (c := Tryz.f41.body.getD .skip) (by kernel_rfl) Tryz.ntmps41 (rs := Tryz.f41.results.toList) rfl (by simp) (fun G => ?_)
  repeat' first | refine J_seq ?_ | refine J_region Tryz.tyOK ?_ | refine J_block ?_ | refine J_cond ?_ | refine J_ret ?_ | refine J_skip ?_ | refine J_exit ?_ | refine J_scope ?_ | refine CondP.y ?_ | refine CondP.n ?_ | refine CondP.mk (fun h => ?_) (fun h => ?_) | refine EqP.mk rfl ?_ | refine NewP.mk (fun ad => ?_) | refine ArP.x ?_ | refine SideP.a ?_ | (refine CallP.mk [_] [] [_] _ c1 (List.Perm.refl _) (fun _ h => h) (fun v L' D' hp => ?_); obtain ⟨rfl, rfl, rfl⟩ := hp) | refine IdxA.mk [C.s (genUsers.getD k.toNat [])] (by omega) (by omega) (by exact hix) rfl ?_ | refine FinE.mk [_] [] ⟨_, _, rfl, hm, hgn, rfl, rfl⟩ (Ents.facts fun _ _ => trivial) | fail
theorem genPolicy_ok (e : Nat) (a : Option Addr) (c ad : Nat) (l : List Int) (g : GS) (hg : g.ok l) (hl : l.length ≤ maxLen) : FnS Tryz.prog 38 [.c (.p 1000 ad 0)] [srcC ad a l.length c g] [intsF e a l]
    (fun v L D => ∃ s g', v = .c (.s s) ∧ s ∈ genPols ∧ g'.ok l ∧ L = [srcC ad a l.length c g'] ∧ D = []) := by
  have c1 := next_ok e a c ad l g 8 (by omega) (by omega) hg hl
  have hr := nextGV_range (l := l) g (n := 8) (by omega)
  have hix := idxB genPols hr.1 hr.2
  have hm := getD_mem (l := genPols) (d := []) hr.1 hr.2
  have hgn := nextGS_ok hg
  generalize nextGV l g 8 = k at *
  refine fn_of_J Tryz.tyOK 4000 Tryz.func38 (by kernel_rfl) (c := Tryz.f38.body.getD .skip) (by kernel_rfl) Tryz.ntmps38 (rs := Tryz.f38.results.toList) rfl (by simp) (fun G => ?_)
  repeat' first | refine J_seq ?_ | refine J_region Tryz.tyOK ?_ | refine J_block ?_ | refine J_cond ?_ | refine J_ret ?_ | refine J_skip ?_ | refine J_exit ?_ | refine J_scope ?_ | refine CondP.y ?_ | refine CondP.n ?_ | refine CondP.mk (fun h => ?_) (fun h => ?_) | refine EqP.mk rfl ?_ | refine NewP.mk (fun ad => ?_) | refine ArP.x ?_ | refine SideP.a ?_ | (refine CallP.mk [_] [] [_] _ c1 (List.Perm.refl _) (fun _ h => h) (fun v L' D' hp => ?_); obtain ⟨rfl, rfl, rfl⟩ := hp) | refine IdxA.mk [C.s (genPols.getD k.toNat [])] (by omega) (by omega) (by exact hix) rfl ?_ | refine FinE.mk [_] [] ⟨_, _, rfl, hm, hgn, rfl, rfl⟩ (Ents.facts fun _ _ => trivial) | fail
theorem genNote_ok (e : Nat) (a : Option Addr) (c ad : Nat) (l : List Int) (g : GS) (hg : g.ok l) (hl : l.length ≤ maxLen) : FnS Tryz.prog 140 [.c (.p 1000 ad 0)] [srcC ad a l.length c g] [intsF e a l]
    (fun v L D => ∃ s g', v = .c (.s s) ∧ s ∈ genNotes ∧ g'.ok l ∧ L = [srcC ad a l.length c g'] ∧ D = []) := by
  have c1 := next_ok e a c ad l g 3 (by omega) (by omega) hg hl
  have hr := nextGV_range (l := l) g (n := 3) (by omega)
  have hix := idxB genNotes hr.1 hr.2
  have hm := getD_mem (l := genNotes) (d := []) hr.1 hr.2
  have hgn := nextGS_ok hg
  generalize nextGV l g 3 = k at *
  refine fn_of_J Tryz.tyOK 4000 Tryz.func140 (by kernel_rfl) (c := Tryz.f140.body.getD .skip) (by kernel_rfl) Tryz.ntmps140 (rs := Tryz.f140.results.toList) rfl (by simp) (fun G => ?_)
  repeat' first | refine J_seq ?_ | refine J_region Tryz.tyOK ?_ | refine J_block ?_ | refine J_cond ?_ | refine J_ret ?_ | refine J_skip ?_ | refine J_exit ?_ | refine J_scope ?_ | refine CondP.y ?_ | refine CondP.n ?_ | refine CondP.mk (fun h => ?_) (fun h => ?_) | refine EqP.mk rfl ?_ | refine NewP.mk (fun ad => ?_) | refine ArP.x ?_ | refine SideP.a ?_ | (refine CallP.mk [_] [] [_] _ c1 (List.Perm.refl _) (fun _ h => h) (fun v L' D' hp => ?_); obtain ⟨rfl, rfl, rfl⟩ := hp) | refine IdxA.mk [C.s (genNotes.getD k.toNat [])] (by omega) (by omega) (by exact hix) rfl ?_ | refine FinE.mk [_] [] ⟨_, _, rfl, hm, hgn, rfl, rfl⟩ (Ents.facts fun _ _ => trivial) | fail
theorem genRevs_ok (e : Nat) (a : Option Addr) (c ad : Nat) (l : List Int) (g : GS) (clk : Int) (hg : g.ok l) (hl : l.length ≤ maxLen) (h0 : 0 ≤ clk) (h1 : clk ≤ 52595999) : FnS Tryz.prog 141 [.c (.p 1000 ad 0), .c (.i .i64 clk)] [srcC ad a l.length c g] [intsF e a l]
    (fun v L D => ∃ b k h g', v = .c (.sl b h.length k) ∧ h.length ≤ 3 ∧ (∀ r ∈ h, r.text.length ≤ 1000) ∧ g'.ok l ∧ L = [srcC ad a l.length c g'] ∧ D = [slFact 0 6 b h.length (rvC h)]) := by
  have c2 := fun g n hn hn1 hg => next_ok e a c ad l g n hn hn1 hg hl
  have k1 := c2 g 3 (by omega) (by omega) hg
  have r1 := nextGV_range (l := l) g (n := 3) (by omega)
  have hg1 := nextGS_ok hg
  generalize nextGV l g 3 = v1 at *
  generalize nextGS l g = g1 at *
  obtain ⟨n1, rfl⟩ : ∃ n1 : Nat, v1 = n1 := ⟨v1.toNat, by omega⟩
  refine fn_of_J Tryz.tyOK 5000 Tryz.func141 (by kernel_rfl) (c := Tryz.f141.body.getD .skip) (by kernel_rfl) Tryz.ntmps141 (rs := Tryz.f141.results.toList) rfl (by simp) (fun G => ?_)
  repeat' first | refine J_seq ?_ | refine J_region Tryz.tyOK ?_ | refine J_block ?_ | refine J_cond ?_ | refine J_ret ?_ | refine J_skip ?_ | refine J_exit ?_ | refine J_scope ?_ | refine CondP.y ?_ | refine CondP.n ?_ | refine CondP.mk (fun h => ?_) (fun h => ?_) | refine EqP.mk rfl ?_ | refine NewP.mk (fun ad => ?_) | refine ArP.x ?_ | refine SideP.a ?_ | (refine CallP.mk [_] [] [_] _ k1 (List.Perm.refl _) (fun _ h => h) (fun v L' D' hp => ?_); obtain ⟨rfl, rfl, rfl⟩ := hp) | fail
  refine J_loop (α := Nat × List RV × GS × Int × Option Addr × Nat) (fun x => [(0, .c (.p 1000 ad 0)), (1, .c (.i .i64 clk)), (5, .c (.sl x.2.2.2.2.1 x.2.1.length x.2.2.2.2.2)), (6, .c (.i .i64 x.2.2.2.1)), (7, .c (.i .i64 x.1))]) (fun x => [.row 98 6 x.2.2.2.2.1 x.2.1.length x.2.2.2.2.2 (rvC x.2.1), srcC ad a l.length c x.2.2.1]) (fun _ => [intsF e a l]) 5000
    (fun x => x.2.2.1.ok l ∧ x.1 + x.2.1.length ≤ 3 ∧ (∀ r ∈ x.2.1, r.text.length ≤ 1000) ∧ 0 ≤ x.2.2.2.1 ∧ x.2.2.2.1 ≤ 2 * x.2.1.length) (fun x => x.1) (InFam.mk (n1 + 1, [], g1, 0, none, 0) ⟨hg1, by simp; omega, (fun _ h => by cases h), by simp, by simp⟩ SubE.a (Ents.nilRow (ety := 98) (esz := 6))) (fun x hx => ?_)
  clear k1 hg1 hg
  obtain ⟨n, out, g, mi, b, k⟩ := x
  dsimp only at hx ⊢
  obtain ⟨hg, hn, ht, m0, m1⟩ := hx
  cases n with
  | zero =>
    repeat' first | refine J_seq ?_ | refine J_region Tryz.tyOK ?_ | refine J_block ?_ | refine J_cond ?_ | refine J_ret ?_ | refine J_skip ?_ | refine J_exit ?_ | refine J_scope ?_ | refine CondP.y ?_ | refine CondP.n ?_ | refine CondP.mk (fun h => ?_) (fun h => ?_) | refine EqP.mk rfl ?_ | refine NewP.mk (fun ad => ?_) | refine ArP.x ?_ | refine SideP.a ?_ | refine FinE.mk [_] [_] ⟨_, _, out, _, rfl, by omega, ht, hg, rfl, rfl⟩ (Ents.toFact.trans (Ents.facts fun _ h => ⟨h.1, trivial⟩)) | fail
  | succ n =>
    have cu := genUser_ok e a c ad l g hg hl
    have cn := fun g hg => genNote_ok e a c ad l g hg hl
    have ct := fun g hg => genText_ok e a c ad l g hg hl
    have cm := fun g hg => c2 g 3 (by omega) (by omega) hg
    have rm := fun g => nextGV_range (l := l) g (n := 3) (by omega)
    have hgm := fun g (hg : GS.ok l g) => nextGS_ok hg
    clear c2
    have hap : ∀ us no tx, rvC out ++ [.i .i64 ((out.length : Int) + 1), .s us, .s no, .s tx, .i .i64 mi, .i .i64 0] = rvC (out ++ [⟨(out.length : Int) + 1, us, no, tx, mi, 0⟩]) := fun us no tx => by simp [rvC, RV.cells]
    have hln : ∀ x : RV, out.length + 1 = (out ++ [x]).length := fun x => by simp
    have htn : ∀ us no tx, List.length tx ≤ 1000 → ∀ r ∈ out ++ [(⟨(out.length : Int) + 1, us, no, tx, mi, 0⟩ : RV)], r.text.length ≤ 1000 := fun us no tx h r hr => by
      rcases List.mem_append.1 hr with hr | hr
      · exact ht r hr
      · rw [List.mem_singleton.1 hr]; exact h
    repeat' first | refine J_seq ?_ | refine J_region Tryz.tyOK ?_ | refine J_block ?_ | refine J_cond ?_ | refine J_ret ?_ | refine J_skip ?_ | refine J_exit ?_ | refine J_scope ?_ | refine CondP.y ?_ | refine CondP.n ?_ | refine CondP.mk (fun h => ?_) (fun h => ?_) | refine EqP.mk rfl ?_ | refine NewP.mk (fun ad => ?_) | refine ArP.x ?_ | refine SideP.a ?_ | (refine CallP.mk [_] [_] [_] _ cu (List.Perm.swap _ _ _) (fun _ h => h) (fun v L' D' hp => ?_); obtain ⟨us, gu, rfl, husr, hgu, rfl, rfl⟩ := hp) | (refine CallP.mk [_] [_] [_] _ (cn _ hgu) (List.Perm.refl _) (fun _ h => h) (fun v L' D' hp => ?_); obtain ⟨no, gn, rfl, hno, hgn, rfl, rfl⟩ := hp) | (refine CallP.mk [_] [_] [_] _ (ct _ hgn) (List.Perm.refl _) (fun _ h => h) (fun v L' D' hp => ?_); obtain ⟨tx, gt, rfl, htx, hgt, rfl, rfl⟩ := hp) | (refine AppE.row [_, _] _ (rvC out) [.i .i64 ((out.length : Int) + 1), .s us, .s no, .s tx, .i .i64 mi, .i .i64 0] 1 rfl (SrcE.sl 98 98 _ _ 1 1 _ rfl rfl (.inl ⟨1, List.Mem.head _⟩) rfl) (by dsimp only; omega) (fun b' k' => ?_); rw [hap us no tx, hln ⟨(out.length : Int) + 1, us, no, tx, mi, 0⟩]) | (refine CallP.mk [_] [_, _] [_] _ (cm _ hgt) (List.Perm.swap _ _ _) (fun _ h => h) (fun v L' D' hp => ?_); obtain ⟨rfl, rfl, rfl⟩ := hp; have rr := rm gt; have hgx := hgm gt hgt; generalize nextGV l gt 3 = nv at *; generalize nextGS l gt = gx at *) | refine Round.mk (n, out ++ [⟨(out.length : Int) + 1, us, no, tx, mi, 0⟩], gx, clk, b', k') (by dsimp only; omega) ⟨hgx, by simp; omega, htn us no tx htx, by dsimp only; omega, by simp; omega⟩ SubE.a (Ents.sub ⟨[_], List.perm_append_comm (l₁ := [_]) (l₂ := [_, _])⟩) | refine Round.mk (n, out ++ [⟨(out.length : Int) + 1, us, no, tx, mi, 0⟩], gx, mi + nv, b', k') (by dsimp only; omega) ⟨hgx, by simp; omega, htn us no tx htx, by dsimp only; omega, by simp; omega⟩ SubE.a (Ents.sub ⟨[_], List.perm_append_comm (l₁ := [_]) (l₂ := [_, _])⟩) | fail
theorem genChange_ok (e : Nat) (a : Option Addr) (c ad0 : Nat) (l : List Int) (g : GS) (clk : Int) (hg : g.ok l) (hl : l.length ≤ maxLen) (h0 : 0 ≤ clk) (h1 : clk ≤ 52595999) : FnS Tryz.prog 96 [.c (.p 1000 ad0 0), .c (.i .i64 clk)] [srcC ad0 a l.length c g] [intsF e a l]
    (fun v L D => ∃ ch : CHM, ∃ g', v = .agg ch.cells ∧ MadeC ch.pl ∧ g'.ok l ∧ L = [srcC ad0 a l.length c g'] ∧ D = [chF ch]) := by
  have c2 := fun g n hn hn1 hg => next_ok e a c ad0 l g n hn hn1 hg hl
  have k1 := c2 g 14 (by omega) (by omega) hg
  have r1 := nextGV_range (l := l) g (n := 14) (by omega)
  have hix := idxI genKinds r1.1 r1.2
  have hm := genKinds_range (getD_mem (l := genKinds) (d := 0) r1.1 r1.2)
  have hg1 := nextGS_ok hg
  generalize nextGV l g 14 = v1 at *
  generalize nextGS l g = g1 at *
  have cu := genUser_ok e a c ad0 l g1 hg1 hl
  have ct := fun g hg => genTitle_ok e a c ad0 l g hg hl
  have cno := fun g hg => genNote_ok e a c ad0 l g hg hl
  have ctx := fun g hg => genText_ok e a c ad0 l g hg hl
  have crv := fun g hg => genRevs_ok e a c ad0 l g clk hg hl h0 h1
  have hgm := fun g (hg : GS.ok l g) => nextGS_ok hg
  have hbob : ([98, 111, 98] : Bs) ∈ genUsers := by decide
  have hnil : ([] : Bs) ∈ genUsers := by decide
  generalize hkd : genKinds.getD v1.toNat 0 = kd at *
  clear hkd
  refine fn_of_J Tryz.tyOK 6000 Tryz.func96 (by kernel_rfl) (c := Tryz.f96.body.getD .skip) (by kernel_rfl) Tryz.ntmps96 (rs := Tryz.f96.results.toList) rfl (by simp) (fun G => ?_)
  repeat' first | refine J_cut (x := .region 1 _ _) (α := Bs × (Int × Bs) × GS × Nat) (fun z => [(0, .c (.p 1000 ad0 0)), (1, .c (.i .i64 clk)), (4, .c (.p 6000 ad 0)), (5, .c (.p 6001 z.2.2.2 0))]) (fun z => [srcC ad0 a l.length c z.2.2.1, .box 6001 z.2.2.2 90 [.i .i64 kd, .s z.1, .s [], .i .i64 z.2.1.1, .s z.2.1.2, .i .i64 0, .s [], .s [], .i .i64 0, .sl none 0 0], .box 6000 ad 90 [C.i .i64 0, .s [], .s [], .i .i64 0, .s [], .i .i64 0, .s [], .s [], .i .i64 0, .sl none 0 0]]) (fun _ => [intsF e a l]) 6002 (fun z => z.1 ∈ genUsers ∧ z.2.1 ∈ genTitles ∧ z.2.2.1.ok l) ?_ (fun z hz => J_stop ?_) | refine J_seq ?_ | refine J_region Tryz.tyOK ?_ | refine J_block ?_ | refine J_cond ?_ | refine J_ret ?_ | refine J_skip ?_ | refine J_exit ?_ | refine J_scope ?_ | refine CondP.y ?_ | refine CondP.n ?_ | refine CondP.mk (fun h => ?_) (fun h => ?_) | refine EqP.mk rfl ?_ | refine NewP.mk (fun ad => ?_) | refine ArP.x ?_ | refine SideP.a ?_ | refine J_drawP (id := 1) Tryz.tyOK (by kernel_rfl) [0, 0, 2, 7, 0, 22, 0, 118, 255, 0, 1023] (.node [0, 1, 4, 6] 2 (.node [3] 5 (.node [] 7 (.leaf [8, 9, 10]) 9 (.leaf [7, 8, 10])) 9 (.leaf [5, 7, 8, 10])) 9 (.leaf [2, 3, 5, 7, 8, 10])) [2, 5, 7, 9, 10] [] 10 true (by kernel_rfl) ?_ | refine TwoP.mk ?_ ?_ | refine EntP.mk Ents.a ?_ | (refine CallP.mk [_] [_] [_] _ k1 (List.Perm.swap _ _ _) (fun _ h => h) (fun v L' D' hp => ?_); obtain ⟨rfl, rfl, rfl⟩ := hp) | (refine CallP.mk [_] [_, _] [_] _ k1 (List.perm_append_comm (l₁ := [_, _]) (l₂ := [_])) (fun _ h => h) (fun v L' D' hp => ?_); obtain ⟨rfl, rfl, rfl⟩ := hp) | refine IdxA.mk [C.i .i64 kd] (by omega) (by omega) (by exact hix) rfl ?_ | (refine CallP.mk [_] [_] [_] _ cu (List.Perm.refl _) (fun _ h => h) (fun v L' D' hp => ?_); obtain ⟨us, gu, rfl, husr, hgu, rfl, rfl⟩ := hp) | (refine CallP.mk [_] [_, _] [_] _ cu (List.Perm.refl _) (fun _ h => h) (fun v L' D' hp => ?_); obtain ⟨us, gu, rfl, husr, hgu, rfl, rfl⟩ := hp) | (refine CallP.mk [_] [_, _] [_] _ cu (List.Perm.swap _ _ _) (fun _ h => h) (fun v L' D' hp => ?_); obtain ⟨us, gu, rfl, husr, hgu, rfl, rfl⟩ := hp) | (refine CallP.mk [_] [_] [_] _ (ct _ hgu) (List.Perm.refl _) (fun _ h => h) (fun v L' D' hp => ?_); obtain ⟨rfl, rfl, rfl⟩ := hp) | (refine CallP.mk [_] [_, _] [_] _ (ct _ hgu) (List.Perm.refl _) (fun _ h => h) (fun v L' D' hp => ?_); obtain ⟨rfl, rfl, rfl⟩ := hp) | (refine CallP.mk [_] [_, _] [_] _ (ct _ hgu) (List.Perm.swap _ _ _) (fun _ h => h) (fun v L' D' hp => ?_); obtain ⟨rfl, rfl, rfl⟩ := hp) | refine InFam.mk (us, genT l gu, nextGS l gu, _) ⟨husr, genT_mem l gu, hgm gu hgu⟩ SubE.a (by first | exact Ents.refl _ _ | exact Ents.perm (List.Perm.swap _ _ _)) | fail
  refine ⟨?_⟩
  clear k1 r1 hix cu hg1 hg
  obtain ⟨us, T, g0, ad5⟩ := z
  dsimp only at hz ⊢
  obtain ⟨hus, hT, hg0⟩ := hz
  obtain ⟨sp, nm⟩ := T
  dsimp only
  have rr := fun g n (hn : 0 < n) => nextGV_range (l := l) g (n := n) hn
  have cn3 := fun g hg => c2 g 3 (by omega) (by omega) hg
  have cn2 := fun g hg => c2 g 2 (by omega) (by omega) hg
  have cnt := c2 g0 2000 (by omega) (by omega) hg0
  have cn4 := c2 g0 4 (by omega) (by omega) hg0
  clear c2
  repeat' first | refine J_seq ?_ | refine J_region Tryz.tyOK ?_ | refine J_block ?_ | refine J_cond ?_ | refine J_ret ?_ | refine J_skip ?_ | refine J_exit ?_ | refine J_scope ?_ | refine CondP.y ?_ | refine CondP.n ?_ | refine CondP.mk (fun h => ?_) (fun h => ?_) | refine EqP.mk rfl ?_ | refine NewP.mk (fun ad => ?_) | refine ArP.x ?_ | refine SideP.a ?_ | (refine CallP.mk [_] [_, _] [_] _ (cno _ hg0) (List.Perm.refl _) (fun _ h => h) (fun v L' D' hp => ?_); obtain ⟨no, gn, rfl, hno, hgn, rfl, rfl⟩ := hp) | (refine CallP.mk [_] [_, _] [_] _ (ctx _ hgn) (List.Perm.refl _) (fun _ h => h) (fun v L' D' hp => ?_); obtain ⟨tx, gt, rfl, htx, hgt, rfl, rfl⟩ := hp) | (refine CallP.mk [_] [_, _] [_] _ (cn3 _ hgt) (List.Perm.refl _) (fun _ h => h) (fun v L' D' hp => ?_); obtain ⟨rfl, rfl, rfl⟩ := hp; have hgx := hgm gt hgt; generalize nextGV l gt 3 = nv at *; generalize nextGS l gt = gx at *) | (refine CallP.mk [_] [_, _] [_] _ (ct _ hg0) (List.Perm.refl _) (fun _ h => h) (fun v L' D' hp => ?_); obtain ⟨rfl, rfl, rfl⟩ := hp; have hgt := hgm g0 hg0; have hT2 := genT_mem l g0; generalize genT l g0 = T2 at *; obtain ⟨tsp, tnm⟩ := T2; generalize nextGS l g0 = gt at *) | (refine CallP.mk [_] [_, _] [_] _ (cn2 _ hgt) (List.Perm.refl _) (fun _ h => h) (fun v L' D' hp => ?_); obtain ⟨rfl, rfl, rfl⟩ := hp; have hgx := hgm gt hgt; generalize nextGV l gt 2 = nv at *; generalize nextGS l gt = gx at *) | (refine CallP.mk [_] [_, _] [_] _ (crv _ hg0) (List.Perm.refl _) (fun _ h => h) (fun v L' D' hp => ?_); obtain ⟨hb, hk, hh, gt, rfl, hhl, hht, hgt, rfl, rfl⟩ := hp) | (refine CallP.mk [_] [_, _] [_] _ cnt (List.Perm.refl _) (fun _ h => h) (fun v L' D' hp => ?_); obtain ⟨rfl, rfl, rfl⟩ := hp; have hgx := hgm g0 hg0; have rv := rr g0 2000 (by omega); generalize nextGV l g0 2000 = nv at *; generalize nextGS l g0 = gx at *) | (refine CallP.mk [_] [_, _] [_] _ cn4 (List.Perm.refl _) (fun _ h => h) (fun v L' D' hp => ?_); obtain ⟨rfl, rfl, rfl⟩ := hp; have hgx := hgm g0 hg0; have rv := rr g0 4 (by omega); generalize nextGV l g0 4 = nv at *; generalize nextGS l g0 = gx at *) | refine FinE.mk [srcC ad0 a l.length c _] [chF _] ⟨⟨kd, us, no, sp, nm, 0, [], tx, nv, none, 0, []⟩, _, rfl, ⟨by dsimp only [CHM.pl]; omega, fun _ => hT, fun h => absurd h (by dsimp only [CHM.pl]; omega), hus, htx, (fun _ h => by cases h), Nat.zero_le _⟩, hgx, rfl, rfl⟩ ((Ents.ofSub (L0 := [srcC ad0 a l.length c _]) (by repeat (first | exact List.Sublist.slnil | refine List.Sublist.cons_cons _ ?_ | refine List.Sublist.cons _ ?_)) (fun _ h => h)).trans (Ents.facts fun _ h => ⟨SlF.nil (e := 0), trivial⟩)) | refine FinE.mk [srcC ad0 a l.length c _] [chF _] ⟨⟨kd, us, no, sp, nm, 0, [], tx, 0, none, 0, []⟩, _, rfl, ⟨by dsimp only [CHM.pl]; omega, fun _ => hT, fun h => absurd h (by dsimp only [CHM.pl]; omega), hus, htx, (fun _ h => by cases h), Nat.zero_le _⟩, hgt, rfl, rfl⟩ ((Ents.ofSub (L0 := [srcC ad0 a l.length c _]) (by repeat (first | exact List.Sublist.slnil | refine List.Sublist.cons_cons _ ?_ | refine List.Sublist.cons _ ?_)) (fun _ h => h)).trans (Ents.facts fun _ h => ⟨SlF.nil (e := 0), trivial⟩)) | refine FinE.mk [srcC ad0 a l.length c _] [chF _] ⟨⟨kd, us, [], sp, nm, tsp, tnm, [], nv, none, 0, []⟩, _, rfl, ⟨by dsimp only [CHM.pl]; omega, fun _ => hT, fun _ => hT2, hus, Nat.zero_le _, (fun _ h => by cases h), Nat.zero_le _⟩, hgx, rfl, rfl⟩ ((Ents.ofSub (L0 := [srcC ad0 a l.length c _]) (by repeat (first | exact List.Sublist.slnil | refine List.Sublist.cons_cons _ ?_ | refine List.Sublist.cons _ ?_)) (fun _ h => h)).trans (Ents.facts fun _ h => ⟨SlF.nil (e := 0), trivial⟩)) | refine FinE.mk [srcC ad0 a l.length c _] [chF _] ⟨⟨kd, us, [], sp, nm, 0, [], [], 0, hb, hk, hh⟩, _, rfl, ⟨by dsimp only [CHM.pl]; omega, fun _ => hT, fun h => absurd h (by dsimp only [CHM.pl]; omega), hus, Nat.zero_le _, hht, hhl⟩, hgt, rfl, rfl⟩ ((Ents.ofSub (L0 := [srcC ad0 a l.length c _]) (by repeat (first | exact List.Sublist.slnil | refine List.Sublist.cons_cons _ ?_ | refine List.Sublist.cons _ ?_)) (fun _ h => h)).trans (Ents.facts fun _ h => ⟨h.1, trivial⟩)) | refine FinE.mk [srcC ad0 a l.length c _] [chF _] ⟨⟨6, [], [], 0, [], 0, [], [], _, none, 0, []⟩, _, rfl, ⟨by dsimp only [CHM.pl]; omega, fun h => absurd rfl h.1, fun h => absurd h (by dsimp only [CHM.pl]; omega), hnil, Nat.zero_le _, (fun _ h => by cases h), Nat.zero_le _⟩, hgx, rfl, rfl⟩ ((Ents.ofSub (L0 := [srcC ad0 a l.length c _]) (by repeat (first | exact List.Sublist.slnil | refine List.Sublist.cons_cons _ ?_ | refine List.Sublist.cons _ ?_)) (fun _ h => h)).trans (Ents.facts fun _ h => ⟨SlF.nil (e := 0), trivial⟩)) | refine FinE.mk [srcC ad0 a l.length c _] [chF _] ⟨⟨kd, us, [], 0, [], 0, [], [], _, none, 0, []⟩, _, rfl, ⟨by dsimp only [CHM.pl]; omega, fun h => absurd (show kd = 10 by omega) h.2, fun h => absurd h (by dsimp only [CHM.pl]; omega), hus, Nat.zero_le _, (fun _ h => by cases h), Nat.zero_le _⟩, hgx, rfl, rfl⟩ ((Ents.ofSub (L0 := [srcC ad0 a l.length c _]) (by repeat (first | exact List.Sublist.slnil | refine List.Sublist.cons_cons _ ?_ | refine List.Sublist.cons _ ?_)) (fun _ h => h)).trans (Ents.facts fun _ h => ⟨SlF.nil (e := 0), trivial⟩)) | refine FinE.mk [srcC ad0 a l.length c _] [chF _] ⟨⟨kd, [98, 111, 98], [], sp, nm, 0, [], [], 0, none, 0, []⟩, _, rfl, ⟨by dsimp only [CHM.pl]; omega, fun _ => hT, fun h => absurd h (by dsimp only [CHM.pl]; omega), hbob, Nat.zero_le _, (fun _ h => by cases h), Nat.zero_le _⟩, hg0, rfl, rfl⟩ ((Ents.ofSub (L0 := [srcC ad0 a l.length c _]) (by repeat (first | exact List.Sublist.slnil | refine List.Sublist.cons_cons _ ?_ | refine List.Sublist.cons _ ?_)) (fun _ h => h)).trans (Ents.facts fun _ h => ⟨SlF.nil (e := 0), trivial⟩)) | refine FinE.mk [srcC ad0 a l.length c _] [chF _] ⟨⟨kd, us, [], sp, nm, 0, [], [], 0, none, 0, []⟩, _, rfl, ⟨by dsimp only [CHM.pl]; omega, fun _ => hT, fun h => absurd h (by dsimp only [CHM.pl]; omega), hus, Nat.zero_le _, (fun _ h => by cases h), Nat.zero_le _⟩, hg0, rfl, rfl⟩ ((Ents.ofSub (L0 := [srcC ad0 a l.length c _]) (by repeat (first | exact List.Sublist.slnil | refine List.Sublist.cons_cons _ ?_ | refine List.Sublist.cons _ ?_)) (fun _ h => h)).trans (Ents.facts fun _ h => ⟨SlF.nil (e := 0), trivial⟩)) | fail
end Go.Proofs

/- This text walks through the functions of the reference of chapter 27 that perform one change: put, remove, restore, move, take. -/
namespace Go.X
open Go Go.Lib
theorem pgsP.ins {m : Im} {l : List PGM} {x : PGM} (h : pgsP m l) (hx : SlF m 0 6 x.ha x.hist.length (rvC x.hist)) : pgsP m (insM l x) := fun p hp => by
  rcases insM_mem.1 hp with rfl | hp
  · exact hx
  · exact h p hp
theorem pgsP.erase {m : Im} {l : List PGM} (h : pgsP m l) (i : Nat) : pgsP m (l.eraseIdx i) := h.sub fun _ hp => mem_erase hp
theorem pgsP.snoc {m : Im} {l : List PGM} {x : PGM} (h : pgsP m l) (hx : SlF m 0 6 x.ha x.hist.length (rvC x.hist)) : pgsP m (l ++ [x]) := fun p hp => by
  rcases List.mem_append.1 hp with hp | hp
  · exact h p hp
  · rw [List.mem_singleton.1 hp]; exact hx
theorem pgsP.set {m : Im} {l : List PGM} {x : PGM} {i : Nat} (h : pgsP m l) (hx : SlF m 0 6 x.ha x.hist.length (rvC x.hist)) : pgsP m (l.set i x) := fun p hp => by
  rcases List.mem_or_eq_of_mem_set hp with hp | rfl
  · exact h p hp
  · exact hx
theorem pgm_set {l : List PGM} {i : Nat} (h : i < l.length) {a : Option Addr} {c n : Nat} {x : PGM} (h1 : x.sp = l[i].sp) (h2 : x.nm = l[i].nm) (h3 : C.sl a n c = C.sl x.ha x.hist.length x.hc) : setC (i * 3 + 2) [C.sl a n c] (pgmC l) = pgmC (l.set i x) := by
  refine setC_flat (F := PGM.cells) (z := 3) (fun _ => rfl) h (by simp) ?_
  rw [h3]
  simp only [PGM.cells, h1, h2]
  rfl
theorem modify_pl {l : List PGM} {i : Nat} (h : i < l.length) (f : SP → SP) (x : PGM) (hx : x.pl = f l[i].pl) : (l.set i x).map PGM.pl = (l.map PGM.pl).modify i f := by
  refine List.ext_getElem (by simp) fun j h1 h2 => ?_
  rw [List.getElem_map, List.getElem_set, List.getElem_modify]
  split
  · rename_i e; subst e
    rw [hx, List.getElem_map]
  · rw [List.getElem_map]
theorem erase_pl (l : List PGM) (i : Nat) : (l.eraseIdx i).map PGM.pl = (l.map PGM.pl).eraseIdx i := by
  rw [List.eraseIdx_eq_take_drop_succ, List.eraseIdx_eq_take_drop_succ, List.map_append, List.map_take, List.map_drop]
theorem pl_pages (s : STM) : s.pl.pages = s.pages.map PGM.pl := rfl
theorem pl_gone (s : STM) : s.pl.gone = s.gone.map PGM.pl := rfl
theorem idx_pl (s : STM) (sp : Int) (nm : Bs) : idxG (atT sp nm) s.pl.pages = idxG (atM sp nm) s.pages := idxG_map PGM.pl (atT sp nm) s.pages
theorem last_pl (s : STM) (sp : Int) (nm : Bs) : lastG (atT sp nm) s.pl.gone = lastG (atM sp nm) s.gone := lastG_map PGM.pl (atT sp nm) s.gone
theorem len_pl (s : STM) : (s.pl.pages.length : Int) = s.pages.length := by rw [pl_pages, List.length_map]
theorem lenG_pl (s : STM) : (s.pl.gone.length : Int) = s.gone.length := by rw [pl_gone, List.length_map]
theorem pageAt_pl {s : STM} {i : Nat} (h : i < s.pages.length) : pageAt s.pl (i : Int) = s.pages[i].pl := by
  rw [pageAt, Int.toNat_natCast, pl_pages, getD_is (by simpa using h), List.getElem_map]
theorem StP.of {m : Im} {s : STM} {a1 a2 a3 : Option Addr} {c1 c2 c3 : Nat} {sq clk pr : Int} {l1 l2 : List PGM} {l3 : List PP} (h : StP m s) (h1 : l1.length ≤ c1) (h2 : PgP m a1 l1) (h3 : l2.length ≤ c2) (h4 : PgP m a2 l2) (h5 : l3.length ≤ c3) (h6 : SlF m 0 8 a3 l3.length (ppC l3)) : StP m ⟨sq, clk, a1, c1, l1, a2, c2, l2, a3, c3, l3, pr, s.wa, s.wc, s.watches, s.la, s.lc, s.lasts⟩ :=
  ⟨h2, h4, h6, h.watches, h.lasts, ⟨h1, h3, h5, h.room.watches, h.room.lasts⟩⟩
/-- The history of a page that gets one revision more. -/
def putH (h : List RV) (c : CHM) (clk sq : Int) : List RV := h ++ [⟨(h.length : Int) + 1, c.user, c.note, c.text, clk, sq⟩]
end Go.X
namespace Go.Proofs
open Go Go.X
set_option maxRecDepth 100000
set_option maxHeartbeats 4000000
theorem put27_ok (s : STM) (c : CHM) (sq : Int) (hs : StS s) : FnS Tryz.prog 103 [.agg s.cells, .agg c.cells, .c (.i .i64 sq)] [] [stF s] (StPost (putT27 s.pl c.pl sq)) := by
  have hrd : ∀ L, Reads L [stF s] 0 3 s.pa s.pages.length (pgmC s.pages) := fun L => .inr fun m h => h.1.pages.row
  have cf := find27_ok 0 s.pa s.pc s.pages c.sp c.nm hs.big.pages
  have hl := hs.pages
  generalize hR : putT27 s.pl c.pl sq = R
  unfold putT27 at hR
  rw [show c.pl.sp = c.sp from rfl, show c.pl.nm = c.nm from rfl, idx_pl, len_pl] at hR
  rcases find_idx (atM c.sp c.nm) s.pages with ⟨h1, _⟩ | ⟨i, hi, h1, _, h3⟩
  · rw [h1] at cf hR
    rw [if_pos (by omega)] at hR
    have hfull : 200 ≤ (s.pages.length : Int) → R = (s.pl, 8) := fun h => by rw [← hR, if_pos h]
    have hnew : ¬ 200 ≤ (s.pages.length : Int) → R = ({ s.pl with pages := insG (befT c.sp c.nm) s.pl.pages ⟨c.sp, c.nm, [⟨1, c.user, c.note, c.text, s.clk, sq⟩]⟩ }, 0) := fun h => by rw [← hR, if_neg h]; rfl
    have ci := fun ha hc => insert27_ok s.pa s.pc s.pages ⟨c.sp, c.nm, ha, hc, [⟨1, c.user, c.note, c.text, s.clk, sq⟩]⟩ hl
    clear hR
    refine fn_of_J Tryz.tyOK 0 Tryz.func103 (by kernel_rfl) (c := Tryz.f103.body.getD .skip) (by kernel_rfl) Tryz.ntmps103 (rs := Tryz.f103.results.toList) rfl (by simp) (fun G => ?_)
    repeat' first | refine J_seq ?_ | refine J_region Tryz.tyOK ?_ | refine J_block ?_ | refine J_cond ?_ | refine J_ret ?_ | refine J_skip ?_ | refine J_exit ?_ | refine J_scope ?_ | refine CondP.y ?_ | refine CondP.n ?_ | refine CondP.mk (fun h => ?_) (fun h => ?_) | refine EqP.mk rfl ?_ | refine NewP.mk (fun ad => ?_) | refine ArP.x ?_ | refine SideP.a ?_ | refine CallP.is cf ?_ (fun _ h => ⟨h.1.pages.row, trivial⟩) | (rw [hfull (by assumption)]; refine FinE.mk [] [stF s] ⟨s, rfl, rfl, rfl, rfl⟩ Ents.dropAll) | refine CallP.mk [] _ [_] _ (ci _ _) (List.Perm.refl _) (fun _ h => ⟨⟨h.1.room.pages, h.1.pages.row⟩, trivial⟩) (fun v L' D' hq => ?_); obtain ⟨a1, k1, rfl, rfl, rfl⟩ := hq | (rw [hnew (by assumption)]; refine FinE.mk [] [stF _] ⟨⟨s.seq, s.clk, a1, k1, insM s.pages ⟨c.sp, c.nm, _, _, [⟨1, c.user, c.note, c.text, s.clk, sq⟩]⟩, s.ga, s.gc, s.gone, s.qa, s.qc, s.props, s.proposed, s.wa, s.wc, s.watches, s.la, s.lc, s.lasts⟩, rfl, rfl, rfl, (by dsimp only [STM.pl]; rw [insM_pl]; rfl)⟩ ((Ents.ofSub (L0 := [.row 98 6 _ 1 _ _]) (by repeat (first | exact List.Sublist.slnil | refine List.Sublist.cons_cons _ ?_ | refine List.Sublist.cons _ ?_)) (fun _ h => h)).trans (Ents.toFact.trans (Ents.facts fun _ h => ⟨h.2.2.1.of h.2.1.1 ⟨h.2.1.2, h.2.2.1.pages.his.ins h.1⟩ h.2.2.1.room.gone h.2.2.1.gone h.2.2.1.room.props h.2.2.1.props, trivial⟩)))) | fail
  · rw [h1] at cf hR
    rw [if_neg (by omega), pageAt_pl hi] at hR
    have hml := hs.ph _ (List.getElem_mem hi)
    have hmem := List.getElem_mem hi
    have hg1 := pgm_get1 hi
    have hset : ∀ a k, setC (i * 3 + 2) [C.sl a ((putH s.pages[i].hist c s.clk sq).length) k] (pgmC s.pages) = pgmC (s.pages.set i ⟨s.pages[i].sp, s.pages[i].nm, a, k, putH s.pages[i].hist c s.clk sq⟩) := fun a k => pgm_set hi rfl rfl rfl
    have hpl : ∀ a k, (s.pages.set i ⟨s.pages[i].sp, s.pages[i].nm, a, k, putH s.pages[i].hist c s.clk sq⟩).map PGM.pl = (s.pages.map PGM.pl).modify i (fun p => { p with hist := p.hist ++ [⟨(p.hist.length : Int) + 1, c.user, c.note, c.text, s.clk, sq⟩] }) := fun a k => modify_pl hi _ _ rfl
    have hfull : 40 ≤ (s.pages[i].hist.length : Int) → R = (s.pl, 8) := fun h => by
      rw [← hR, if_pos (show 40 ≤ ((s.pages[i].pl.hist.length : Nat) : Int) from h)]
    have hnew : ¬ 40 ≤ (s.pages[i].hist.length : Int) → R = ({ s.pl with pages := s.pl.pages.modify i (fun p => { p with hist := p.hist ++ [⟨(p.hist.length : Int) + 1, c.user, c.note, c.text, s.clk, sq⟩] }) }, 0) := fun h => by
      rw [← hR, if_neg (show ¬ 40 ≤ ((s.pages[i].pl.hist.length : Nat) : Int) from h)]; rfl
    have hst : ∀ a, (s.pages.set i a).length = s.pages.length := fun a => List.length_set
    have hap : rvC s.pages[i].hist ++ [.i .i64 ((s.pages[i].hist.length : Int) + 1), .s c.user, .s c.note, .s c.text, .i .i64 s.clk, .i .i64 sq] = rvC (putH s.pages[i].hist c s.clk sq) := by simp [rvC, RV.cells, putH]
    have hln : s.pages[i].hist.length + 1 = (putH s.pages[i].hist c s.clk sq).length := by simp [putH]
    have hrh : ∀ L, Reads L [stF s] 0 6 s.pages[i].ha s.pages[i].hist.length (rvC s.pages[i].hist) := fun L => .inr fun m h => h.1.pages.his _ hmem
    clear hR
    generalize s.pages[i] = p at *
    generalize hR2 : putH p.hist c s.clk sq = h2 at *
    refine fn_of_J Tryz.tyOK 0 Tryz.func103 (by kernel_rfl) (c := Tryz.f103.body.getD .skip) (by kernel_rfl) Tryz.ntmps103 (rs := Tryz.f103.results.toList) rfl (by simp) (fun G => ?_)
    repeat' first | refine J_seq ?_ | refine J_region Tryz.tyOK ?_ | refine J_block ?_ | refine J_cond ?_ | refine J_ret ?_ | refine J_skip ?_ | refine J_exit ?_ | refine J_scope ?_ | refine CondP.y ?_ | refine CondP.n ?_ | refine CondP.mk (fun h => ?_) (fun h => ?_) | refine EqP.mk rfl ?_ | refine NewP.mk (fun ad => ?_) | refine ArP.x ?_ | refine SideP.a ?_ | refine J_drawT (id := 13) Tryz.tyOK (by kernel_rfl) [0, 1, 0, 0, 8, 0, 32, 120, 255, 511, 1023] [0, 1, 2, 3, 5] 4 [6, 7, 8, 9, 10] 6 [4, 7, 8, 9, 10] [4, 6, 7, 8, 9, 10] [3, 8] 10 false (by kernel_rfl) ?_ | refine TwoP.mk ?_ ?_ | refine EntP.mk Ents.a ?_ | refine CallP.is cf ?_ (fun _ h => ⟨h.1.pages.row, trivial⟩) | (rw [hfull (by assumption)]; refine FinE.mk [] [stF s] ⟨s, rfl, rfl, rfl, rfl⟩ Ents.dropAll) | refine IdxE.mk 0 3 _ (hrd _) (by omega) (by omega) ?_ | refine FldE.mk 0 3 _ _ (hrd _) (by omega) ?_ | refine LoadE.mk 0 _ _ [.sl p.ha p.hist.length p.hc] (hrd _) (by omega) (by omega) (by first | omega | decide) (by exact hg1) ?_ | refine AppE.nil (pgmC s.pages) s.pages.length rfl rfl rfl (SrcE.sl 0 95 _ _ _ _ _ rfl rfl (hrd _) (pgmC_len _)) (by dsimp only; omega) (fun a1 k1 => ?_) | refine AppE.nil (rvC p.hist) p.hist.length rfl rfl rfl (SrcE.sl 0 98 _ _ _ _ _ rfl rfl (hrh _) (rvC_len _)) (by dsimp only; omega) (fun a2 k2 => ?_) | refine AppE.row [_] _ (rvC p.hist) [.i .i64 ((p.hist.length : Int) + 1), .s c.user, .s c.note, .s c.text, .i .i64 s.clk, .i .i64 sq] 1 rfl (SrcE.sl 98 98 _ _ 1 1 _ rfl rfl (.inl ⟨1, List.Mem.head _⟩) rfl) (by dsimp only; omega) (fun a3 k3 => ?_); rw [hap, hln] | refine AppE.row [] _ (rvC p.hist) [.i .i64 ((p.hist.length : Int) + 1), .s c.user, .s c.note, .s c.text, .i .i64 s.clk, .i .i64 sq] 1 rfl (SrcE.sl 98 98 _ _ 1 1 _ rfl rfl (.inl ⟨1, List.Mem.tail _ (List.Mem.head _)⟩) rfl) (by dsimp only; omega) (fun a3 k3 => ?_); rw [hap, hln] | refine IdxE.mk 95 3 _ (.inl ⟨_, List.Mem.tail _ (List.Mem.tail _ (List.Mem.head _))⟩) (by omega) (by omega) ?_ | refine FldE.mk 95 3 s.pages.length _ (.inl ⟨_, List.Mem.tail _ (List.Mem.tail _ (List.Mem.head _))⟩) (by omega) ?_ | refine StoreE.mk [_, _] _ _ _ _ _ _ rfl (by omega) (by omega) (Nat.le_of_ble_eq_true rfl) (by exact hset _ _) ?_ | (rw [hnew (by assumption)]; refine FinE.mk [] [stF _] ⟨⟨s.seq, s.clk, a1, k1, s.pages.set i ⟨p.sp, p.nm, a3, k3, h2⟩, s.ga, s.gc, s.gone, s.qa, s.qc, s.props, s.proposed, s.wa, s.wc, s.watches, s.la, s.lc, s.lasts⟩, by dsimp only [STM.cells]; rw [hst]; rfl, rfl, rfl, (by dsimp only [STM.pl]; rw [hpl])⟩ ((Ents.ofSub (L0 := [.row 98 6 a3 h2.length k3 (rvC h2), .row 95 3 a1 s.pages.length k1 (pgmC (s.pages.set i ⟨p.sp, p.nm, a3, k3, h2⟩))]) (by repeat (first | exact List.Sublist.slnil | refine List.Sublist.cons_cons _ ?_ | refine List.Sublist.cons _ ?_)) (fun _ h => h)).trans (Ents.toFact.trans (Ents.toFactC.trans (Ents.facts fun _ h => ⟨h.2.2.1.of (by rw [hst]; exact h.1.1) ⟨by rw [hst]; exact h.1.2, h.2.2.1.pages.his.set h.2.1⟩ h.2.2.1.room.gone h.2.2.1.gone h.2.2.1.room.props h.2.2.1.props, trivial⟩))))) | fail
theorem remove27_ok (s : STM) (c : CHM) (hs : StS s) : FnS Tryz.prog 104 [.agg s.cells, .agg c.cells] [] [stF s] (StPost (removeT s.pl c.pl)) := by
  have hrd : ∀ L, Reads L [stF s] 0 3 s.pa s.pages.length (pgmC s.pages) := fun L => .inr fun m h => h.1.pages.row
  have hrg : ∀ L, Reads L [stF s] 0 3 s.ga s.gone.length (pgmC s.gone) := fun L => .inr fun m h => h.1.gone.row
  have cf := find27_ok 0 s.pa s.pc s.pages c.sp c.nm hs.big.pages
  have cd := drop27_ok 0 s.qa s.qc s.props c.sp c.nm hs.props
  have hl := hs.pages
  have hlg := hs.gone
  generalize hR : removeT s.pl c.pl = R
  unfold removeT at hR
  rw [show c.pl.sp = c.sp from rfl, show c.pl.nm = c.nm from rfl, idx_pl, lenG_pl] at hR
  rcases find_idx (atM c.sp c.nm) s.pages with ⟨h1, _⟩ | ⟨i, hi, h1, _, h3⟩
  · rw [h1, if_pos (by omega)] at hR
    rw [h1] at cf
    subst hR
    refine fn_of_J Tryz.tyOK 0 Tryz.func104 (by kernel_rfl) (c := Tryz.f104.body.getD .skip) (by kernel_rfl) Tryz.ntmps104 (rs := Tryz.f104.results.toList) rfl (by simp) (fun G => ?_)
    repeat' first | refine J_seq ?_ | refine J_region Tryz.tyOK ?_ | refine J_block ?_ | refine J_cond ?_ | refine J_ret ?_ | refine J_skip ?_ | refine J_exit ?_ | refine J_scope ?_ | refine CondP.y ?_ | refine CondP.n ?_ | refine CondP.mk (fun h => ?_) (fun h => ?_) | refine EqP.mk rfl ?_ | refine NewP.mk (fun ad => ?_) | refine ArP.x ?_ | refine SideP.a ?_ | refine CallP.is cf ?_ (fun _ h => ⟨h.1.pages.row, trivial⟩) | refine FinE.mk [] [stF s] ⟨s, rfl, rfl, rfl, rfl⟩ Ents.dropAll | fail
  · rw [h1, if_neg (by omega), pageAt_pl hi, Int.toNat_natCast] at hR
    rw [h1] at cf
    have hmem := List.getElem_mem hi
    have hg := pgm_get hi
    have cw := without27_ok s.pa s.pc s.pages i hl hi
    have hfull : 100 ≤ (s.gone.length : Int) → R = (s.pl, 8) := fun h => by rw [← hR, if_pos h]
    have hnew : ¬ 100 ≤ (s.gone.length : Int) → R = ({ s.pl with gone := s.pl.gone ++ [s.pages[i].pl], pages := s.pl.pages.eraseIdx i, props := dropT s.pl.props c.sp c.nm }, 0) := fun h => by rw [← hR, if_neg h]
    clear hR
    have hap : pgmC s.gone ++ [.i .i64 s.pages[i].sp, .s s.pages[i].nm, .sl s.pages[i].ha s.pages[i].hist.length s.pages[i].hc] = pgmC (s.gone ++ [s.pages[i]]) := by simp [pgmC, PGM.cells]
    have hln : s.gone.length + 1 = (s.gone ++ [s.pages[i]]).length := by simp
    have hgp : (s.gone ++ [s.pages[i]]).map PGM.pl = s.gone.map PGM.pl ++ [s.pages[i].pl] := by simp
    generalize s.pages[i] = p at *
    refine fn_of_J Tryz.tyOK 0 Tryz.func104 (by kernel_rfl) (c := Tryz.f104.body.getD .skip) (by kernel_rfl) Tryz.ntmps104 (rs := Tryz.f104.results.toList) rfl (by simp) (fun G => ?_)
    repeat' first | refine J_seq ?_ | refine J_region Tryz.tyOK ?_ | refine J_block ?_ | refine J_cond ?_ | refine J_ret ?_ | refine J_skip ?_ | refine J_exit ?_ | refine J_scope ?_ | refine CondP.y ?_ | refine CondP.n ?_ | refine CondP.mk (fun h => ?_) (fun h => ?_) | refine EqP.mk rfl ?_ | refine NewP.mk (fun ad => ?_) | refine ArP.x ?_ | refine SideP.a ?_ | refine J_drawT (id := 6) Tryz.tyOK (by kernel_rfl) [0, 1, 3, 0, 8, 0, 56, 120, 248, 511, 1023, 2047] [0, 1, 3, 4, 5, 6, 7] 2 [8, 9, 10, 11] 8 [2, 9, 10, 11] [2, 8, 9, 11] [2, 26] 11 false (by kernel_rfl) ?_ | refine TwoP.mk ?_ ?_ | refine EntP.mk Ents.a ?_ | refine CallP.is cf ?_ (fun _ h => ⟨h.1.pages.row, trivial⟩) | (rw [hfull (by assumption)]; refine FinE.mk [] [stF s] ⟨s, rfl, rfl, rfl, rfl⟩ Ents.dropAll) | refine IdxE.mk 0 3 _ (hrd _) (by omega) (by omega) ?_ | refine LoadE.mk 0 _ _ [.i .i64 p.sp, .s p.nm, .sl p.ha p.hist.length p.hc] (hrd _) (by omega) (by omega) (by first | omega | decide) (by exact hg) ?_ | refine AppE.nil (pgmC s.gone) s.gone.length rfl rfl rfl (SrcE.sl 0 95 _ _ _ _ _ rfl rfl (hrg _) (pgmC_len _)) (by dsimp only; omega) (fun a1 k1 => ?_) | refine AppE.row [_] _ (pgmC s.gone) [.i .i64 p.sp, .s p.nm, .sl p.ha p.hist.length p.hc] 1 rfl (SrcE.sl 95 95 _ _ 1 1 _ rfl rfl (.inl ⟨1, List.Mem.head _⟩) rfl) (by dsimp only; omega) (fun a2 k2 => ?_); rw [hap, hln] | refine AppE.row [] _ (pgmC s.gone) [.i .i64 p.sp, .s p.nm, .sl p.ha p.hist.length p.hc] 1 rfl (SrcE.sl 95 95 _ _ 1 1 _ rfl rfl (.inl ⟨1, List.Mem.tail _ (List.Mem.head _)⟩) rfl) (by dsimp only; omega) (fun a2 k2 => ?_); rw [hap, hln] | refine CallP.mk [] _ [_] _ cw (List.Perm.refl _) (fun _ h => ⟨⟨h.1.room.pages, h.1.pages.row⟩, trivial⟩) (fun v L' D' hq => ?_); obtain ⟨a3, k3, rfl, rfl, rfl⟩ := hq | refine CallP.mk [] _ [_] _ cd (List.Perm.refl _) (fun _ h => ⟨h.2.1.props, trivial⟩) (fun v L' D' hq => ?_); obtain ⟨a4, k4, rfl, rfl, rfl⟩ := hq | (rw [hnew (by assumption)]; refine FinE.mk [] [stF _] ⟨⟨s.seq, s.clk, a3, k3, s.pages.eraseIdx i, a2, k2, s.gone ++ [p], a4, k4, dropT s.props c.sp c.nm, s.proposed, s.wa, s.wc, s.watches, s.la, s.lc, s.lasts⟩, rfl, rfl, rfl, (by dsimp only [STM.pl]; rw [erase_pl, hgp])⟩ ((Ents.ofSub (L0 := [.row 95 3 a2 (s.gone ++ [p]).length k2 (pgmC (s.gone ++ [p]))]) (by repeat (first | exact List.Sublist.slnil | refine List.Sublist.cons_cons _ ?_ | refine List.Sublist.cons _ ?_)) (fun _ h => h)).trans (Ents.toFactC.trans (Ents.facts fun _ h => ⟨h.2.2.2.1.of h.2.2.1.1 ⟨h.2.2.1.2, h.2.2.2.1.pages.his.erase _⟩ h.1.1 ⟨h.1.2, h.2.2.2.1.gone.his.snoc (h.2.2.2.1.pages.his p hmem)⟩ h.2.1.1 h.2.1.2, trivial⟩)))) | fail
theorem restore27_ok (s : STM) (c : CHM) (hs : StS s) : FnS Tryz.prog 105 [.agg s.cells, .agg c.cells] [] [stF s] (StPost (restoreT s.pl c.pl)) := by
  have hrg : ∀ L, Reads L [stF s] 0 3 s.ga s.gone.length (pgmC s.gone) := fun L => .inr fun m h => h.1.gone.row
  have cf := find27_ok 0 s.pa s.pc s.pages c.sp c.nm hs.big.pages
  have cg := lastGone_ok s c.sp c.nm hs.gone
  have hl := hs.pages
  have hlg := hs.gone
  generalize hR : restoreT s.pl c.pl = R
  unfold restoreT at hR
  rw [show c.pl.sp = c.sp from rfl, show c.pl.nm = c.nm from rfl, idx_pl, last_pl, len_pl] at hR
  have hfnd : 0 ≤ idxG (atM c.sp c.nm) s.pages → R = (s.pl, 5) := fun h => by rw [← hR, if_pos h]
  rcases lastG_spec (atM c.sp c.nm) s.gone with ⟨h1, _⟩ | ⟨i, hi, h1, h3⟩
  · have hno : ¬ 0 ≤ idxG (atM c.sp c.nm) s.pages → R = (s.pl, 4) := fun h => by rw [← hR, if_neg h, if_pos (by omega)]
    rw [h1] at cg
    clear hR
    generalize idxG (atM c.sp c.nm) s.pages = k at *
    refine fn_of_J Tryz.tyOK 0 Tryz.func105 (by kernel_rfl) (c := Tryz.f105.body.getD .skip) (by kernel_rfl) Tryz.ntmps105 (rs := Tryz.f105.results.toList) rfl (by simp) (fun G => ?_)
    repeat' first | refine J_seq ?_ | refine J_region Tryz.tyOK ?_ | refine J_block ?_ | refine J_cond ?_ | refine J_ret ?_ | refine J_skip ?_ | refine J_exit ?_ | refine J_scope ?_ | refine CondP.y ?_ | refine CondP.n ?_ | refine CondP.mk (fun h => ?_) (fun h => ?_) | refine EqP.mk rfl ?_ | refine NewP.mk (fun ad => ?_) | refine ArP.x ?_ | refine SideP.a ?_ | refine CallP.is cg ?_ (fun _ h => h) | refine CallP.is cf ?_ (fun _ h => ⟨h.1.pages.row, trivial⟩) | (rw [hfnd (by omega)]; refine FinE.mk [] [stF s] ⟨s, rfl, rfl, rfl, rfl⟩ Ents.dropAll) | (rw [hno (by omega)]; refine FinE.mk [] [stF s] ⟨s, rfl, rfl, rfl, rfl⟩ Ents.dropAll) | fail
  · have hfull : ¬ 0 ≤ idxG (atM c.sp c.nm) s.pages → 200 ≤ (s.pages.length : Int) → R = (s.pl, 8) := fun h h' => by rw [← hR, if_neg h, if_neg (by omega), if_pos h']
    have hnew : ¬ 0 ≤ idxG (atM c.sp c.nm) s.pages → ¬ 200 ≤ (s.pages.length : Int) → R = ({ s.pl with pages := insG (befT c.sp c.nm) s.pl.pages s.gone[i].pl, gone := s.pl.gone.eraseIdx i }, 0) := fun h h' => by
      rw [← hR, if_neg h, if_neg (by omega), if_neg h', h1, Int.toNat_natCast, pl_gone, getD_is (by simpa using hi), List.getElem_map]
    rw [h1] at cg
    clear hR
    have hat : s.gone[i].sp = c.sp ∧ s.gone[i].nm = c.nm := of_decide_eq_true h3
    have hins : insG (befT c.sp c.nm) s.pl.pages s.gone[i].pl = (insM s.pages s.gone[i]).map PGM.pl := by rw [insM_pl, hat.1, hat.2]; rfl
    rw [hins] at hnew
    have hmem := List.getElem_mem hi
    have hg := pgm_get hi
    have ci := insert27_ok s.pa s.pc s.pages s.gone[i] hl
    have cw := without27_ok s.ga s.gc s.gone i hlg hi
    clear hat hins h3
    generalize s.gone[i] = p at *
    generalize idxG (atM c.sp c.nm) s.pages = k at *
    refine fn_of_J Tryz.tyOK 0 Tryz.func105 (by kernel_rfl) (c := Tryz.f105.body.getD .skip) (by kernel_rfl) Tryz.ntmps105 (rs := Tryz.f105.results.toList) rfl (by simp) (fun G => ?_)
    repeat' first | refine J_seq ?_ | refine J_region Tryz.tyOK ?_ | refine J_block ?_ | refine J_cond ?_ | refine J_ret ?_ | refine J_skip ?_ | refine J_exit ?_ | refine J_scope ?_ | refine CondP.y ?_ | refine CondP.n ?_ | refine CondP.mk (fun h => ?_) (fun h => ?_) | refine EqP.mk rfl ?_ | refine NewP.mk (fun ad => ?_) | refine ArP.x ?_ | refine SideP.a ?_ | refine J_drawZ (id := 8) Tryz.tyOK (by kernel_rfl) [0, 1, 0, 4, 0, 28, 60, 127, 255, 511] [0, 1, 2, 3, 4, 5, 6, 7, 8, 9] [7, 9] [2, 31] 9 true (by kernel_rfl) ?_ | refine EntP.mk Ents.a ?_ | refine CallP.is cg ?_ (fun _ h => h) | refine CallP.is cf ?_ (fun _ h => ⟨h.1.pages.row, trivial⟩) | (rw [hfnd (by omega)]; refine FinE.mk [] [stF s] ⟨s, rfl, rfl, rfl, rfl⟩ Ents.dropAll) | (rw [hfull (by omega) (by omega)]; refine FinE.mk [] [stF s] ⟨s, rfl, rfl, rfl, rfl⟩ Ents.dropAll) | refine IdxE.mk 0 3 _ (hrg _) (by omega) (by omega) ?_ | refine LoadE.mk 0 _ _ p.cells (hrg _) (by omega) (by omega) (by first | omega | decide) (by exact hg) ?_ | refine CallP.mk [] _ [_] _ ci (List.Perm.refl _) (fun _ h => ⟨⟨h.1.room.pages, h.1.pages.row⟩, trivial⟩) (fun v L' D' hq => ?_); obtain ⟨a3, k3, rfl, rfl, rfl⟩ := hq | refine CallP.mk [] _ [_] _ cw (List.Perm.refl _) (fun _ h => ⟨⟨h.2.1.room.gone, h.2.1.gone.row⟩, trivial⟩) (fun v L' D' hq => ?_); obtain ⟨a4, k4, rfl, rfl, rfl⟩ := hq | (rw [hnew (by omega) (by omega)]; refine FinE.mk [] [stF _] ⟨⟨s.seq, s.clk, a3, k3, insM s.pages p, a4, k4, s.gone.eraseIdx i, s.qa, s.qc, s.props, s.proposed, s.wa, s.wc, s.watches, s.la, s.lc, s.lasts⟩, rfl, rfl, rfl, (by dsimp only [STM.pl]; rw [erase_pl])⟩ (Ents.dropAll.trans (Ents.facts fun _ h => ⟨h.2.2.1.of h.2.1.1 ⟨h.2.1.2, h.2.2.1.pages.his.ins (h.2.2.1.gone.his p hmem)⟩ h.1.1 ⟨h.1.2, h.2.2.1.gone.his.erase _⟩ h.2.2.1.room.props h.2.2.1.props, trivial⟩))) | fail
end Go.Proofs
