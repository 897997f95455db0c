/- This text walks through the reading of lines and of whole texts in the package policy. -/
import Derived.Test.YtabmiagnfihleaaGreatDoorPolD
import Derived.Test.YtabmiagnfihleaaGreatDoorSlash
set_option linter.all false

namespace Go.Proofs
open Go Go.X
set_option maxRecDepth 100000
set_option maxHeartbeats 4000000

theorem stPost.of {ad : Nat} {r r' : Bool × P3} (h : r = r') : stPost ad r = stPost ad r' := by rw [h]

theorem polStatement_ok (pd : Nat) (p : PolM) (line : Bs) (hr : line.length ≤ 1000000) (hg : p.gs.length ≤ 1000000) (hl : p.rs.length ≤ 1000000) (hx : p.xs.length ≤ 1000000) :
    FnS Tryz.prog 24 [.c (.p 1 pd 0), .c (.s line)] (polL pd p) [memsF p.gs, gInt 0] (stPost pd (stmtT p.p3 line)) := by
  have hn := nextT_le line
  have c1 := polNext_ok line hr
  have hS : stmtT p.p3 line = if (nextT line).1 = [] ∨ (nextT line).1.getD 0 0 = 35 then (true, p.p3) else if (nextT line).1 = wGroup then groupT p.p3 (nextT line).2 else if (nextT line).1 = wAllow ∨ (nextT line).1 = wDeny then ruleT p.p3 (nextT line).2 (decide ((nextT line).1 = wAllow)) else if (nextT line).1 = wGuard ∨ (nextT line).1 = wStrict then guardT p.p3 (nextT line).2 (decide ((nextT line).1 = wStrict)) else (false, p.p3) := rfl
  rw [hS]
  clear hS
  generalize (nextT line).1 = w at *
  generalize (nextT line).2 = re at *
  by_cases h0 : w = [] ∨ w.getD 0 0 = 35
  · rw [if_pos h0]
    by_cases hw : w = []
    · refine fn_of_J Tryz.tyOK 5000 Tryz.func24 (by kernel_rfl) (c := Tryz.f24.body.getD .skip) (by kernel_rfl) Tryz.ntmps24 (rs := Tryz.f24.results.toList) rfl (by simp) (fun G => ?_)
      repeat' first
        | refine CondP.yes hw ?_
        | refine J_seq ?_ | refine J_region Tryz.tyOK ?_ | refine J_block ?_ | refine J_cond ?_ | refine J_ret ?_ | refine J_skip ?_ | refine J_exit ?_ | refine J_scope ?_
        | refine CondP.yes (by omega) ?_ | refine CondP.no (by omega) ?_ | refine CondP.mk (fun h => ?_) (fun h => ?_) | refine EqP.mk rfl ?_ | refine NewP.mk (fun ad => ?_) | refine ArP.exact (by simp only [inR]; omega) ?_ | refine SideP.mk (by first | omega | (dsimp only; omega) | (simp; omega)) ?_
        | refine CallP.is c1 ?_ | refine FinE.mk (polL pd p) [memsF p.gs] ⟨p, rfl, rfl, rfl, rfl⟩ (Ents.facts fun m h => ⟨h.1, trivial⟩)
        | fail
    · have hp := pos_of_ne hw
      have h2 : (((w.getD (0 : Int).toNat 0).toNat : Int) = 35) := (byte_iff (n := 35) (by decide)).2 (h0.resolve_left hw)
      refine fn_of_J Tryz.tyOK 5000 Tryz.func24 (by kernel_rfl) (c := Tryz.f24.body.getD .skip) (by kernel_rfl) Tryz.ntmps24 (rs := Tryz.f24.results.toList) rfl (by simp) (fun G => ?_)
      repeat' first
        | refine CondP.no hw ?_ | refine CondP.yes h2 ?_
        | refine J_seq ?_ | refine J_region Tryz.tyOK ?_ | refine J_block ?_ | refine J_cond ?_ | refine J_ret ?_ | refine J_skip ?_ | refine J_exit ?_ | refine J_scope ?_
        | refine CondP.yes (by omega) ?_ | refine CondP.no (by omega) ?_ | refine CondP.mk (fun h => ?_) (fun h => ?_) | refine EqP.mk rfl ?_ | refine NewP.mk (fun ad => ?_) | refine ArP.exact (by simp only [inR]; omega) ?_ | refine SideP.mk (by first | omega | (dsimp only; omega) | (simp; omega)) ?_
        | refine CallP.is c1 ?_ | refine FinE.mk (polL pd p) [memsF p.gs] ⟨p, rfl, rfl, rfl, rfl⟩ (Ents.facts fun m h => ⟨h.1, trivial⟩)
        | fail
  rw [if_neg h0]
  have h1 : ¬ w = [] := fun h => h0 (.inl h)
  have h2 : ¬ (((w.getD (0 : Int).toNat 0).toNat : Int) = 35) := fun h => h0 (.inr ((byte_iff (n := 35) (by decide)).1 h))
  have hp := pos_of_ne h1
  by_cases h3 : w = wGroup
  · rw [if_pos h3]
    have c2 := polGroup_ok pd p re (by omega) hg
    generalize groupT p.p3 re = r at *
    refine fn_of_J Tryz.tyOK 5000 Tryz.func24 (by kernel_rfl) (c := Tryz.f24.body.getD .skip) (by kernel_rfl) Tryz.ntmps24 (rs := Tryz.f24.results.toList) rfl (by simp) (fun G => ?_)
    repeat' first
      | refine CondP.no h1 ?_ | refine CondP.no h2 ?_ | refine CondP.yes h3 ?_
      | refine J_seq ?_ | refine J_region Tryz.tyOK ?_ | refine J_block ?_ | refine J_cond ?_ | refine J_ret ?_ | refine J_skip ?_ | refine J_exit ?_ | refine J_scope ?_
      | refine CondP.yes (by omega) ?_ | refine CondP.no (by omega) ?_ | refine CondP.mk (fun h => ?_) (fun h => ?_) | refine EqP.mk rfl ?_ | refine NewP.mk (fun ad => ?_) | refine ArP.exact (by simp only [inR]; omega) ?_ | refine SideP.mk (by first | omega | (dsimp only; omega) | (simp; omega)) ?_
      | refine CallP.is c1 ?_ | refine CallP.mk (polL pd p) [] [memsF p.gs] _ c2 (List.Perm.refl _) (fun m h => ⟨h.1, trivial⟩) (fun v L' D' hp => ?_); obtain ⟨p', hp3, rfl, rfl, rfl⟩ := hp | exact FinE.mk (polL pd p') [memsF p'.gs] ⟨p', hp3, rfl, rfl, rfl⟩ (Ents.facts fun m h => ⟨h.1, trivial⟩)
      | fail
  rw [if_neg h3]
  by_cases h4 : w = wAllow ∨ w = wDeny
  · rw [if_pos h4]
    have h5 : w = wDeny → ¬ w = wAllow := fun h => by rw [h]; decide
    rcases h4 with h4 | h4
    · rw [decide_eq_true h4]
      have c2 := polRule_ok pd p re true (by omega) hl
      generalize ruleT p.p3 re true = r at *
      refine fn_of_J Tryz.tyOK 5000 Tryz.func24 (by kernel_rfl) (c := Tryz.f24.body.getD .skip) (by kernel_rfl) Tryz.ntmps24 (rs := Tryz.f24.results.toList) rfl (by simp) (fun G => ?_)
      repeat' first
        | refine CondP.no h1 ?_ | refine CondP.no h2 ?_ | refine CondP.no h3 ?_ | refine CondP.yes h4 ?_
        | refine J_seq ?_ | refine J_region Tryz.tyOK ?_ | refine J_block ?_ | refine J_cond ?_ | refine J_ret ?_ | refine J_skip ?_ | refine J_exit ?_ | refine J_scope ?_
        | refine CondP.yes (by omega) ?_ | refine CondP.no (by omega) ?_ | refine CondP.mk (fun h => ?_) (fun h => ?_) | refine EqP.mk rfl ?_ | refine NewP.mk (fun ad => ?_) | refine ArP.exact (by simp only [inR]; omega) ?_ | refine SideP.mk (by first | omega | (dsimp only; omega) | (simp; omega)) ?_
        | refine CallP.is c1 ?_ | refine CallP.mk (polL pd p) [] [memsF p.gs, gInt 0] _ c2 (List.Perm.refl _) (fun m h => h) (fun v L' D' hp => ?_); obtain ⟨p', hp3, rfl, rfl, rfl⟩ := hp | exact FinE.mk (polL pd p') [memsF p'.gs] ⟨p', hp3, rfl, rfl, rfl⟩ (Ents.facts fun m h => ⟨h.1, trivial⟩)
        | fail
    · have h5 := h5 h4
      rw [decide_eq_false h5]
      have c2 := polRule_ok pd p re false (by omega) hl
      generalize ruleT p.p3 re false = r at *
      refine fn_of_J Tryz.tyOK 5000 Tryz.func24 (by kernel_rfl) (c := Tryz.f24.body.getD .skip) (by kernel_rfl) Tryz.ntmps24 (rs := Tryz.f24.results.toList) rfl (by simp) (fun G => ?_)
      repeat' first
        | refine CondP.no h1 ?_ | refine CondP.no h2 ?_ | refine CondP.no h3 ?_ | refine CondP.yes h4 ?_ | refine CondP.no h5 ?_
        | refine J_seq ?_ | refine J_region Tryz.tyOK ?_ | refine J_block ?_ | refine J_cond ?_ | refine J_ret ?_ | refine J_skip ?_ | refine J_exit ?_ | refine J_scope ?_
        | refine CondP.yes (by omega) ?_ | refine CondP.no (by omega) ?_ | refine CondP.mk (fun h => ?_) (fun h => ?_) | refine EqP.mk rfl ?_ | refine NewP.mk (fun ad => ?_) | refine ArP.exact (by simp only [inR]; omega) ?_ | refine SideP.mk (by first | omega | (dsimp only; omega) | (simp; omega)) ?_
        | refine CallP.is c1 ?_ | refine CallP.mk (polL pd p) [] [memsF p.gs, gInt 0] _ c2 (List.Perm.refl _) (fun m h => h) (fun v L' D' hp => ?_); obtain ⟨p', hp3, rfl, rfl, rfl⟩ := hp | exact FinE.mk (polL pd p') [memsF p'.gs] ⟨p', hp3, rfl, rfl, rfl⟩ (Ents.facts fun m h => ⟨h.1, trivial⟩)
        | fail
  rw [if_neg h4]
  have h5 : ¬ w = wAllow := fun h => h4 (.inl h)
  have h6 : ¬ w = wDeny := fun h => h4 (.inr h)
  by_cases h7 : w = wGuard ∨ w = wStrict
  · rw [if_pos h7]
    have h9 : w = wGuard → ¬ w = wStrict := fun h => by rw [h]; decide
    rcases h7 with h7 | h7
    · have h9 := h9 h7
      rw [decide_eq_false h9]
      have c2 := polGuard_ok pd p re false (by omega) hx
      generalize guardT p.p3 re false = r at *
      refine fn_of_J Tryz.tyOK 5000 Tryz.func24 (by kernel_rfl) (c := Tryz.f24.body.getD .skip) (by kernel_rfl) Tryz.ntmps24 (rs := Tryz.f24.results.toList) rfl (by simp) (fun G => ?_)
      repeat' first
        | refine CondP.no h1 ?_ | refine CondP.no h2 ?_ | refine CondP.no h3 ?_ | refine CondP.no h5 ?_ | refine CondP.no h6 ?_ | refine CondP.yes h7 ?_ | refine CondP.no h9 ?_
        | refine J_seq ?_ | refine J_region Tryz.tyOK ?_ | refine J_block ?_ | refine J_cond ?_ | refine J_ret ?_ | refine J_skip ?_ | refine J_exit ?_ | refine J_scope ?_
        | refine CondP.yes (by omega) ?_ | refine CondP.no (by omega) ?_ | refine CondP.mk (fun h => ?_) (fun h => ?_) | refine EqP.mk rfl ?_ | refine NewP.mk (fun ad => ?_) | refine ArP.exact (by simp only [inR]; omega) ?_ | refine SideP.mk (by first | omega | (dsimp only; omega) | (simp; omega)) ?_
        | refine CallP.is c1 ?_ | refine CallP.mk (polL pd p) [] [memsF p.gs, gInt 0] _ c2 (List.Perm.refl _) (fun m h => h) (fun v L' D' hp => ?_); obtain ⟨p', hp3, rfl, rfl, rfl⟩ := hp | exact FinE.mk (polL pd p') [memsF p'.gs] ⟨p', hp3, rfl, rfl, rfl⟩ (Ents.facts fun m h => ⟨h.1, trivial⟩)
        | fail
    · rw [decide_eq_true h7]
      have c2 := polGuard_ok pd p re true (by omega) hx
      generalize guardT p.p3 re true = r at *
      refine fn_of_J Tryz.tyOK 5000 Tryz.func24 (by kernel_rfl) (c := Tryz.f24.body.getD .skip) (by kernel_rfl) Tryz.ntmps24 (rs := Tryz.f24.results.toList) rfl (by simp) (fun G => ?_)
      repeat' first
        | refine CondP.no h1 ?_ | refine CondP.no h2 ?_ | refine CondP.no h3 ?_ | refine CondP.no h5 ?_ | refine CondP.no h6 ?_ | refine CondP.yes h7 ?_
        | refine J_seq ?_ | refine J_region Tryz.tyOK ?_ | refine J_block ?_ | refine J_cond ?_ | refine J_ret ?_ | refine J_skip ?_ | refine J_exit ?_ | refine J_scope ?_
        | refine CondP.yes (by omega) ?_ | refine CondP.no (by omega) ?_ | refine CondP.mk (fun h => ?_) (fun h => ?_) | refine EqP.mk rfl ?_ | refine NewP.mk (fun ad => ?_) | refine ArP.exact (by simp only [inR]; omega) ?_ | refine SideP.mk (by first | omega | (dsimp only; omega) | (simp; omega)) ?_
        | refine CallP.is c1 ?_ | refine CallP.mk (polL pd p) [] [memsF p.gs, gInt 0] _ c2 (List.Perm.refl _) (fun m h => h) (fun v L' D' hp => ?_); obtain ⟨p', hp3, rfl, rfl, rfl⟩ := hp | exact FinE.mk (polL pd p') [memsF p'.gs] ⟨p', hp3, rfl, rfl, rfl⟩ (Ents.facts fun m h => ⟨h.1, trivial⟩)
        | fail
  rw [if_neg h7]
  have h8 : ¬ w = wGuard := fun h => h7 (.inl h)
  have h9 : ¬ w = wStrict := fun h => h7 (.inr h)
  refine fn_of_J Tryz.tyOK 5000 Tryz.func24 (by kernel_rfl) (c := Tryz.f24.body.getD .skip) (by kernel_rfl) Tryz.ntmps24 (rs := Tryz.f24.results.toList) rfl (by simp) (fun G => ?_)
  repeat' first
    | refine CondP.no h1 ?_ | refine CondP.no h2 ?_ | refine CondP.no h3 ?_ | refine CondP.no h5 ?_ | refine CondP.no h6 ?_ | refine CondP.no h8 ?_ | refine CondP.no h9 ?_
    | refine J_seq ?_ | refine J_region Tryz.tyOK ?_ | refine J_block ?_ | refine J_cond ?_ | refine J_ret ?_ | refine J_skip ?_ | refine J_exit ?_ | refine J_scope ?_
    | refine CondP.yes (by omega) ?_ | refine CondP.no (by omega) ?_ | refine CondP.mk (fun h => ?_) (fun h => ?_) | refine EqP.mk rfl ?_ | refine NewP.mk (fun ad => ?_) | refine ArP.exact (by simp only [inR]; omega) ?_ | refine SideP.mk (by first | omega | (dsimp only; omega) | (simp; omega)) ?_
    | refine CallP.is c1 ?_ | exact FinE.mk (polL pd p) [memsF p.gs] ⟨p, rfl, rfl, rfl, rfl⟩ (Ents.facts fun m h => ⟨h.1, trivial⟩)
    | fail

theorem PolOK.of {p : PolM} {B n : Nat} (h : P3B B n p.p3) (hB : B ≤ 1000000) (hn : n ≤ 1000000) (hc : p.gs.length ≤ p.gc) : PolOK p := by
  have hgl : p.gs.length ≤ n := by have := h.gl; simpa [PolM.p3, gpOf] using this
  refine ⟨hc, by omega, by have := h.rl; simp only [PolM.p3] at this; omega, by have := h.xl; simp only [PolM.p3] at this; omega, fun g hg => ?_, fun r hr => ?_, fun x hx => ?_⟩
  · have := h.gb (g.name, g.mem) (List.mem_map_of_mem hg)
    dsimp only at this
    exact ⟨by omega, by omega, fun m hm => by have := this.2.2 m hm; omega⟩
  · have := h.rb r hr; omega
  · have := h.xb x hx; omega

/-- A policy of nothing. -/
def polNil : PolM := ⟨none, 0, [], none, 0, [], none, 0, []⟩

/-- A policy that was read: its memory stays. -/
abbrev parsePost (r : P3 × Int × Int) : V → List Chunk → List Fact → Prop := fun v L D => ∃ p : PolM, p.p3 = r.1 ∧ p.gs.length ≤ p.gc ∧ P3B 8192 8193 p.p3 ∧ v = .t3 (.agg p.cells) (.c (.i .i64 r.2.1)) (.c (.i .i64 r.2.2)) ∧ L = [] ∧ D = p.facts

theorem slF_nil (e z : Nat) (m : Im) : SlF m e z none 0 [] := ⟨fun _ h => (by cases h), .inl ⟨rfl, rfl⟩⟩
theorem polNil_facts (m : Im) : allD m polNil.facts := ⟨slF_nil 0 _ _, (fun _ h => by cases h), slF_nil 0 _ _, slF_nil 0 _ _, trivial⟩

theorem polL_facts {pd : Nat} {p : PolM} {R : List Chunk} {D : List Fact} : Ents (polL pd p ++ R) D (.box 1 pd 27 p.cells :: R) (slFact 0 5 p.xa p.xs.length (xsC p.xs) :: slFact 0 6 p.ra p.rs.length (rsC p.rs) :: slFact 0 2 p.ga p.gs.length (gsC p.gs) :: D) := by
  refine (Ents.perm (L' := .row 35 2 p.ga p.gs.length p.gc (gsC p.gs) :: .row 42 6 p.ra p.rs.length p.rc (rsC p.rs) :: .row 45 5 p.xa p.xs.length p.xc (xsC p.xs) :: .box 1 pd 27 p.cells :: R) ?_).trans (Ents.toFact.trans (Ents.toFact.trans Ents.toFact))
  show List.Perm (_ :: ([_, _, _] ++ R)) ([_, _, _] ++ _ :: R)
  exact List.perm_middle.symm

theorem polL_nil {pd : Nat} {R : List Chunk} {D : List Fact} : Ents (.box 1 pd 27 polNil.cells :: R) D (polL pd polNil ++ R) D := by
  refine (Ents.nilRow (ety := 45) (esz := 5)).trans ((Ents.nilRow (ety := 42) (esz := 6)).trans ((Ents.nilRow (ety := 35) (esz := 2)).trans (Ents.perm ?_)))
  show List.Perm ([_, _, _] ++ _ :: R) (_ :: ([_, _, _] ++ R))
  exact List.perm_middle

theorem polParse_ok (s : Bs) (hs : s.length ≤ 1000000) : FnS Tryz.prog 13 [.c (.s s)] [] [gInt 0] (parsePost (polParseT s)) := by
  unfold polParseT
  by_cases hbig : 8192 < (s.length : Int)
  · rw [if_pos hbig]
    refine fn_of_J Tryz.tyOK 0 Tryz.func13 (by kernel_rfl) (c := Tryz.f13.body.getD .skip) (by kernel_rfl) Tryz.ntmps13 (rs := Tryz.f13.results.toList) rfl (by simp) (fun G => ?_)
    repeat' first
      | refine J_seq ?_ | refine J_region Tryz.tyOK ?_ | refine J_block ?_ | refine J_cond ?_ | refine J_ret ?_ | refine J_skip ?_ | refine J_exit ?_ | refine J_scope ?_
      | refine CondP.yes (by omega) ?_ | refine CondP.no (by omega) ?_ | refine CondP.mk (fun h => ?_) (fun h => ?_) | refine EqP.mk rfl ?_ | refine NewP.mk (fun ad => ?_) | refine ArP.exact (by simp only [inR]; omega) ?_ | refine SideP.mk (by first | omega | (dsimp only; omega) | (simp; omega)) ?_
      | exact FinE.mk [] polNil.facts ⟨polNil, rfl, Nat.le_refl _, (P3B.nil _).more (by omega), rfl, rfl, rfl⟩ (Ents.dropAll.trans (Ents.facts fun m _ => polNil_facts m))
      | fail
  rw [if_neg hbig]
  have c1 := splitOne_ok s 10 (by omega)
  have hsl := splitOn_length_le 10 s
  have hml := mem_splitOn_le 10 s
  generalize splitOn 10 s = ls at *
  generalize hV : finT (linesT ([], [], []) 0 ls) = res
  refine fn_of_J Tryz.tyOK 0 Tryz.func13 (by kernel_rfl) (c := Tryz.f13.body.getD .skip) (by kernel_rfl) Tryz.ntmps13 (rs := Tryz.f13.results.toList) rfl (by simp) (fun G => ?_)
  repeat' first
    | refine J_seq ?_ | refine J_region Tryz.tyOK ?_ | refine J_block ?_ | refine J_cond ?_ | refine J_ret ?_ | refine J_skip ?_ | refine J_exit ?_ | refine J_scope ?_
    | refine CondP.yes (by omega) ?_ | refine CondP.no (by omega) ?_ | refine CondP.mk (fun h => ?_) (fun h => ?_) | refine EqP.mk rfl ?_ | refine NewP.mk (fun ad => ?_) | refine ArP.exact (by simp only [inR]; omega) ?_ | refine SideP.mk (by first | omega | (dsimp only; omega) | (simp; omega)) ?_
    | refine CallP.mk [] _ [gInt 0] _ c1 (List.Perm.refl _) (fun _ h => h) (fun v L' D' hp => ?_); obtain ⟨g, rfl, rfl, rfl⟩ := hp
    | fail
  rename_i ad0
  refine J_loop (α := Nat × PolM) (fun x => [(2, .c (.p 0 ad0 0)), (5, .c (.p 1 ad 0)), (14, .c (.sl (some ⟨g, 0, none⟩) ls.length ls.length)), (15, .c (.i .i64 ls.length)), (16, .c (.i .i64 x.1))]) (fun x => polL ad x.2 ++ [.box 0 ad0 27 polNil.cells]) (fun x => [memsF x.2.gs, slFact 0 1 (some ⟨g, 0, none⟩) ls.length (ls.map C.s), gInt 0]) 2
    (fun x => x.1 ≤ ls.length ∧ linesT ([], [], []) 0 ls = linesT x.2.p3 x.1 (ls.drop x.1) ∧ P3B 8192 x.1 x.2.p3) (fun x => ls.length - x.1) (InFam.mk (0, polNil) ⟨Nat.zero_le _, rfl, P3B.nil _⟩ (by repeat' first | exact SubE.nil | refine SubE.cons rfl ?_ ?_ | exact VEq.refl _ | refine VEq.int (by omega) | refine VEq.sl rfl (by first | rfl | omega | (rw [List.length_append]; rfl) | (simp; omega)) rfl) ?_) (fun x hx => ?_)
  · exact Ents.toFact.trans (polL_nil.trans (Ents.facts (D' := [memsF [], slFact 0 1 (some ⟨g, 0, none⟩) ls.length (ls.map C.s), gInt 0]) fun m h => ⟨(fun _ h => by cases h), h⟩))
  obtain ⟨i, p⟩ := x
  dsimp only at hx ⊢
  obtain ⟨hi, he, hb⟩ := hx
  have hgl : p.gs.length ≤ i := by have := hb.gl; simpa [PolM.p3, gpOf] using this
  have hrl : p.rs.length ≤ i := hb.rl
  have hxl : p.xs.length ≤ i := hb.xl
  by_cases hlt : i < ls.length
  · have hcm := map_take1 (f := C.s) hlt
    have hle := hml _ (List.getElem_mem hlt)
    rw [List.drop_eq_getElem_cons hlt, linesT] at he
    generalize ls[i] = line at *
    have hB := hb.stmt (s := line) (by omega)
    have c2 := polStatement_ok ad p line (by omega) (by omega) (by omega) (by omega)
    have hrd : ∀ L, Reads L [memsF p.gs, slFact 0 1 (some ⟨g, 0, none⟩) ls.length (ls.map C.s), gInt 0] 0 1 (some ⟨g, 0, none⟩) ls.length (ls.map C.s) := fun L => .inr fun m h => h.2.1
    generalize stmtT p.p3 line = r at *
    obtain ⟨ok, q⟩ := r
    dsimp only at *
    cases ok with
    | false =>
      rw [if_neg (by simp)] at he
      rw [he] at hV
      have hV' : res = (([], [], []), ((i + 1 : Nat) : Int), 1) := by rw [← hV]; simp [finT]
      subst hV'
      repeat' first
        | refine J_seq ?_ | refine J_region Tryz.tyOK ?_ | refine J_block ?_ | refine J_cond ?_ | refine J_ret ?_ | refine J_skip ?_ | refine J_exit ?_ | refine J_scope ?_
        | refine CondP.yes (by omega) ?_ | refine CondP.no (by omega) ?_ | refine CondP.mk (fun h => ?_) (fun h => ?_) | refine EqP.mk rfl ?_ | refine NewP.mk (fun ad => ?_) | refine ArP.exact (by simp only [inR]; omega) ?_ | refine SideP.mk (by first | omega | (dsimp only; omega) | (simp; omega)) ?_
        | refine IdxE.mk 0 1 _ (hrd _) (by omega) (by omega) ?_ | refine LoadE.mk 0 _ _ _ (hrd _) (by omega) (by omega) (by omega) hcm ?_ | refine CallP.mk (polL ad p) [_] [memsF p.gs, gInt 0] _ c2 (List.Perm.refl _) (fun m h => ⟨h.1, h.2.2.1, trivial⟩) (fun v L' D' hp => ?_); obtain ⟨p', hp3, rfl, rfl, rfl⟩ := hp | exact FinE.mk [] polNil.facts ⟨polNil, rfl, Nat.le_refl _, (P3B.nil _).more (by omega), rfl, rfl, rfl⟩ (Ents.dropAll.trans (Ents.facts fun m _ => polNil_facts m))
        | fail
    | true =>
      rw [if_pos rfl] at he
      repeat' first
        | refine J_seq ?_ | refine J_region Tryz.tyOK ?_ | refine J_block ?_ | refine J_cond ?_ | refine J_ret ?_ | refine J_skip ?_ | refine J_exit ?_ | refine J_scope ?_
        | refine CondP.yes (by omega) ?_ | refine CondP.no (by omega) ?_ | refine CondP.mk (fun h => ?_) (fun h => ?_) | refine EqP.mk rfl ?_ | refine NewP.mk (fun ad => ?_) | refine ArP.exact (by simp only [inR]; omega) ?_ | refine SideP.mk (by first | omega | (dsimp only; omega) | (simp; omega)) ?_
        | refine IdxE.mk 0 1 _ (hrd _) (by omega) (by omega) ?_ | refine LoadE.mk 0 _ _ _ (hrd _) (by omega) (by omega) (by omega) hcm ?_ | refine CallP.mk (polL ad p) [_] [memsF p.gs, gInt 0] _ c2 (List.Perm.refl _) (fun m h => ⟨h.1, h.2.2.1, trivial⟩) (fun v L' D' hp => ?_); obtain ⟨p', hp3, rfl, rfl, rfl⟩ := hp | refine Round.mk (i + 1, p') (by dsimp only; omega) ⟨by dsimp only; omega, ?_, ?_⟩ (by repeat' first | exact SubE.nil | refine SubE.cons rfl ?_ ?_ | exact VEq.refl _ | refine VEq.int (by omega) | refine VEq.sl rfl (by first | rfl | omega | (rw [List.length_append]; rfl) | (simp; omega)) rfl) (Ents.facts fun m h => ⟨h.1, h.2.2.1, h.2.2.2.1, trivial⟩)
        | fail
      · dsimp only at hp3 ⊢; rw [hp3]; exact he
      · dsimp only at hp3 ⊢; rw [hp3]; exact hB
  · have hil : i = ls.length := by omega
    subst hil
    rw [List.drop_length, linesT] at he
    rw [he] at hV
    unfold finT at hV
    dsimp only at hV
    rw [if_neg (by simp)] at hV
    refine J_cap (List.Mem.tail _ (List.Mem.head _)) (fun hnc _ _ => ?_)
    have c3 := polValidate_ok p (PolOK.of hb (by omega) (by omega) hnc)
    have hpv : validateT p.p3.1 p.p3.2.1 p.p3.2.2 = validateT (gpOf p.gs) p.rs p.xs := rfl
    rw [hpv] at hV
    have hbb := hb.more (m := 8193) (by omega)
    clear hlt he hml
    generalize validateT (gpOf p.gs) p.rs p.xs = e at *
    by_cases he0 : e = 0
    · rw [if_neg (by simpa using he0)] at hV; subst hV
      repeat' first
        | refine J_seq ?_ | refine J_region Tryz.tyOK ?_ | refine J_block ?_ | refine J_cond ?_ | refine J_ret ?_ | refine J_skip ?_ | refine J_exit ?_ | refine J_scope ?_
        | refine CondP.yes (by omega) ?_ | refine CondP.no (by omega) ?_ | refine CondP.mk (fun h => ?_) (fun h => ?_) | refine EqP.mk rfl ?_ | refine NewP.mk (fun ad => ?_) | refine ArP.exact (by simp only [inR]; omega) ?_ | refine SideP.mk (by first | omega | (dsimp only; omega) | (simp; omega)) ?_
        | refine CallP.isE c3 (polL_facts (R := [_])) (fun m h => ⟨h.2.2.2.2.2.1, h.2.2.1, h.2.2.2.1, h.2.1, h.1, trivial⟩) ?_ | exact FinE.mk [] p.facts ⟨p, rfl, hnc, hbb, rfl, rfl, rfl⟩ (Ents.dropAll.trans (Ents.facts fun m h => ⟨h.2.2.1, h.2.2.2.1, h.2.1, h.1, trivial⟩))
        | fail
    · rw [if_pos (by simpa using he0)] at hV; subst hV
      repeat' first
        | refine J_seq ?_ | refine J_region Tryz.tyOK ?_ | refine J_block ?_ | refine J_cond ?_ | refine J_ret ?_ | refine J_skip ?_ | refine J_exit ?_ | refine J_scope ?_
        | refine CondP.yes (by omega) ?_ | refine CondP.no (by omega) ?_ | refine CondP.mk (fun h => ?_) (fun h => ?_) | refine EqP.mk rfl ?_ | refine NewP.mk (fun ad => ?_) | refine ArP.exact (by simp only [inR]; omega) ?_ | refine SideP.mk (by first | omega | (dsimp only; omega) | (simp; omega)) ?_
        | refine CallP.isE c3 (polL_facts (R := [_])) (fun m h => ⟨h.2.2.2.2.2.1, h.2.2.1, h.2.2.2.1, h.2.1, h.1, trivial⟩) ?_ | exact FinE.mk [] polNil.facts ⟨polNil, rfl, Nat.le_refl _, (P3B.nil _).more (by omega), rfl, rfl, rfl⟩ (Ents.dropAll.trans (Ents.facts fun m _ => polNil_facts m))
        | fail

end Go.Proofs
