/- This text walks through the making of policies from a tape. -/
import Derived.Test.YtabmiagnfihleaaGreatDoorPolT1
set_option linter.all false

namespace Go.Proofs
open Go Go.X
set_option maxRecDepth 100000
set_option maxHeartbeats 8000000

/-! ### The tape, without its numbers -/

theorem nextW (e : Nat) (a : Option Addr) (c ad at_ : Nat) (l : List Int) (n : Int) (hn : 0 < n) (hat : at_ ≤ l.length) (hl : l.length ≤ maxLen) : FnS Tryz.prog 9 [.c (.p 1000 ad 0), .c (.i .i64 n)] [tapeC ad a l.length c at_] [slFact e 1 a l.length (l.map (C.i .i64))]
    (fun v L D => ∃ k at', 0 ≤ k ∧ k < n ∧ at' ≤ l.length ∧ v = .c (.i .i64 k) ∧ L = [tapeC ad a l.length c at'] ∧ D = []) :=
  (next_ok e a c ad at_ l n hn hat hl).mono fun v L D ⟨h1, h2, h3⟩ => ⟨_, _, (tNext_range l at_ hn).1, (tNext_range l at_ hn).2, tAt_le hat, h1, h2, h3⟩
theorem ofW (e e2 : Nat) (a b : Option Addr) (c d m ad at_ : Nat) (l : List Int) (xs : List Bs) (hm : m = xs.length) (h0 : 0 < m) (hat : at_ ≤ l.length) (hl : l.length ≤ maxLen) :
    FnS Tryz.prog 11 [.c (.p 1000 ad 0), .c (.sl b m d)] [tapeC ad a l.length c at_] [slFact e 1 a l.length (l.map (C.i .i64)), slFact e2 1 b m (xs.map C.s)]
    (fun v L D => ∃ s at', s ∈ xs ∧ at' ≤ l.length ∧ v = .c (.s s) ∧ L = [tapeC ad a l.length c at'] ∧ D = []) :=
  (of_ok e e2 a b c d m ad at_ l xs hm h0 hat hl).mono fun v L D ⟨h1, h2, h3⟩ => ⟨_, _, getD_mem xs _ (by have := tNext_range l at_ (n := (m : Int)) (by omega); omega), tAt_le hat, h1, h2, h3⟩
theorem titleW (e : Nat) (a : Option Addr) (c ad at_ : Nat) (l : List Int) (hat : at_ ≤ l.length) (hl : l.length ≤ maxLen) : FnS Tryz.prog 12 [.c (.p 1000 ad 0)] [tapeC ad a l.length c at_] [slFact e 1 a l.length (l.map (C.i .i64))]
    (fun v L D => ∃ sp nm at', validT sp nm = true ∧ at' ≤ l.length ∧ v = .agg [.i .i64 sp, .s nm] ∧ L = [tapeC ad a l.length c at'] ∧ D = []) :=
  (tapeTitle_ok e a c ad at_ l hat hl).mono fun v L D ⟨h1, h2, h3⟩ => ⟨_, _, _, tapeTitle_valid l _ _, tAt_le (tAt_le hat), h1, h2, h3⟩
theorem nameW (e : Nat) (a : Option Addr) (c ad at_ : Nat) (l : List Int) (hat : at_ ≤ l.length) (hl : l.length ≤ maxLen) : FnS Tryz.prog 10 [.c (.p 1000 ad 0)] [tapeC ad a l.length c at_] [slFact e 1 a l.length (l.map (C.i .i64))]
    (fun v L D => ∃ m at', m ∈ names5 ∧ at' ≤ l.length ∧ v = .c (.s m) ∧ L = [tapeC ad a l.length c at'] ∧ D = []) :=
  (tapeName_ok e a c ad at_ l hat hl).mono fun v L D ⟨⟨m, h0, h1⟩, h2, h3⟩ => ⟨m, _, h0, tAt_le hat, h1, h2, h3⟩

theorem names5_le : ∀ m ∈ names5, m.length ≤ 5 := by decide
theorem names3_le : ∀ m ∈ names3, m.length ≤ 5 := by decide
theorem gpOf_snoc (gs : List GrpM) (g : GrpM) : nms (gpOf (gs ++ [g])) = nms (gpOf gs) ++ [g.name] := by simp [nms, gpOf]

/-- What a tape's policy leaves: the rules are owned, the rest stays. -/
abbrev tapePost (a : Option Addr) (c tad : Nat) (l : List Int) : V → List Chunk → List Fact → Prop := fun v L D => ∃ (n : Nat) (p : PolM) (at' : Nat), at' ≤ l.length ∧ TapeP n p.p3 ∧ p.gs.length ≤ p.gc ∧ v = .agg p.cells ∧
  L = [tapeC tad a l.length c at', .row 42 6 p.ra p.rs.length p.rc (rsC p.rs)] ∧ D = [slFact 0 2 p.ga p.gs.length (gsC p.gs), memsF p.gs, slFact 0 5 p.xa p.xs.length (xsC p.xs)]

theorem tapePolicy_ok (e : Nat) (a : Option Addr) (c tad at0 : Nat) (l : List Int) (hat0 : at0 ≤ l.length) (hl : l.length ≤ maxLen) : FnS Tryz.prog 5 [.c (.p 1000 tad 0)] [tapeC tad a l.length c at0] [slFact e 1 a l.length (l.map (C.i .i64))] (tapePost a c tad l) := by
  refine fn_of_J Tryz.tyOK 0 Tryz.func5 (by kernel_rfl) (c := Tryz.f5.body.getD .skip) (by kernel_rfl) Tryz.ntmps5 (rs := Tryz.f5.results.toList) rfl (by simp) (fun G => ?_)
  repeat' first
    | refine J_stop (c := .seq (.region 3 _ _) _) ?_
    | refine J_seq ?_ | refine J_region Tryz.tyOK ?_ | refine J_block ?_ | refine J_cond ?_ | refine J_ret ?_ | refine J_skip ?_ | refine J_exit ?_ | refine J_scope ?_
    | refine CondP.yes (by omega) ?_ | refine CondP.no (by omega) ?_ | refine CondP.mk (fun h => ?_) (fun h => ?_) | refine EqP.mk rfl ?_ | refine NewP.mk (fun ad => ?_) | refine ArP.exact (by simp only [inR]; omega) ?_ | refine SideP.mk (by first | omega | (dsimp only; omega) | (simp; omega)) ?_
    | fail
    | fail
  rename_i adr adp
  revert ad
  intro nad
  refine ⟨?_⟩
  refine J_mem (n' := 2) Ents.toFact ?_
  repeat' first
    | refine J_seq ?_ | refine J_region Tryz.tyOK ?_ | refine J_block ?_ | refine J_cond ?_ | refine J_ret ?_ | refine J_skip ?_ | refine J_exit ?_ | refine J_scope ?_
    | refine CondP.yes (by omega) ?_ | refine CondP.no (by omega) ?_ | refine CondP.mk (fun h => ?_) (fun h => ?_) | refine EqP.mk rfl ?_ | refine NewP.mk (fun ad => ?_) | refine ArP.exact (by simp only [inR]; omega) ?_ | refine SideP.mk (by first | omega | (dsimp only; omega) | (simp; omega)) ?_
    | refine CallP.mk [_] _ [slFact e 1 a l.length (l.map (C.i .i64))] _ (nextW e a c tad _ l 4 (by omega) (by assumption) hl) (List.perm_append_comm (l₁ := [_, _])) (fun m h => h.2) (fun v L' D' hp => ?_); obtain ⟨n, at1, hn0, hn1, hat1, rfl, rfl, rfl⟩ := hp
    | fail
  obtain ⟨nn, rfl⟩ : ∃ nn : Nat, n = nn := ⟨n.toNat, by omega⟩
  refine J_loop (α := Nat × List GrpM × Option Addr × Nat × Nat) (fun x => [(0, .c (.p 1000 tad 0)), (2, .c (.p 0 adr 0)), (3, .c (.p 1 adp 0)), (4, .c (.sl (some ⟨nad, 0, none⟩) 3 3)), (5, .c (.i .i64 nn)), (6, .c (.i .i64 x.1))])
    (fun x => [tapeC tad a l.length c x.2.2.2.2, .row 35 2 x.2.2.1 x.2.1.length x.2.2.2.1 (gsC x.2.1), .box 1 adp 27 [.sl x.2.2.1 x.2.1.length x.2.2.2.1, .sl none 0 0, .sl none 0 0], .box 0 adr 27 polNil.cells])
    (fun x => [memsF x.2.1, slFact 9 1 (some ⟨nad, 0, none⟩) 3 (names3.map C.s), slFact e 1 a l.length (l.map (C.i .i64))]) 2
    (fun x => x.1 ≤ nn ∧ x.2.2.2.2 ≤ l.length ∧ nms (gpOf x.2.1) = names3.take x.1 ∧ ∀ g ∈ x.2.1, g.mem.length ≤ 2 ∧ ∀ m ∈ g.mem, memOK nn m) (fun x => nn - x.1)
    (InFam.mk (0, [], none, 0, at1) ⟨Nat.zero_le _, hat1, rfl, fun _ h => (by cases h)⟩ (by repeat' first | exact SubE.nil | refine SubE.cons rfl ?_ ?_ | exact VEq.refl _ | refine VEq.int (by omega) | refine VEq.sl rfl (by first | rfl | omega | (rw [List.length_append]; rfl) | (simp; omega)) rfl) ?_) (fun x hx => ?_)
  · refine (Ents.nilRow (ety := 35) (esz := 2)).trans ((Ents.perm ?_).trans (Ents.facts (D' := [memsF [], slFact 9 1 (some ⟨nad, 0, none⟩) 3 (names3.map C.s), slFact e 1 a l.length (l.map (C.i .i64))]) fun m h => ⟨(fun _ h => by cases h), h⟩))
    exact List.Perm.swap _ _ _
  obtain ⟨i, gs, ga, gc, at2⟩ := x
  dsimp only at hx ⊢
  obtain ⟨hi, hat2, hnm, hgm⟩ := hx
  have hgl : gs.length = i := by
    have := congrArg List.length hnm
    simp only [nms, gpOf, List.length_map, List.length_take] at this
    have h3 : names3.length = 3 := rfl
    omega
  by_cases hlt : i < nn
  · have h3 : i < names3.length := by show i < 3; omega
    have hcn := map_take1 (f := C.s) h3
    have htk : names3.take (i + 1) = names3.take i ++ [names3[i]] := List.take_succ_eq_append_getElem h3
    generalize names3[i] = nm at *
    have hrN : ∀ L D, Reads L (memsF gs :: slFact 9 1 (some ⟨nad, 0, none⟩) 3 (names3.map C.s) :: D) 9 1 (some ⟨nad, 0, none⟩) 3 (names3.map C.s) := fun L D => .inr fun m h => h.2.1
    repeat' first
      | refine J_seq ?_ | refine J_region Tryz.tyOK ?_ | refine J_block ?_ | refine J_cond ?_ | refine J_ret ?_ | refine J_skip ?_ | refine J_exit ?_ | refine J_scope ?_
      | refine CondP.yes (by omega) ?_ | refine CondP.no (by omega) ?_ | refine CondP.mk (fun h => ?_) (fun h => ?_) | refine EqP.mk rfl ?_ | refine NewP.mk (fun ad => ?_) | refine ArP.exact (by simp only [inR]; omega) ?_ | refine SideP.mk (by first | omega | (dsimp only; omega) | (simp; omega)) ?_
      | refine IdxE.mk 9 1 _ (hrN _ _) (by omega) (by omega) ?_ | refine LoadE.mk 9 _ _ _ (hrN _ _) (by omega) (by omega) (by omega) hcn ?_
      | fail
    refine J_loop (α := List Bs × Option Addr × Nat × Nat) (fun y => [(0, .c (.p 1000 tad 0)), (2, .c (.p 0 adr 0)), (3, .c (.p 1 adp 0)), (4, .c (.sl (some ⟨nad, 0, none⟩) 3 3)), (5, .c (.i .i64 nn)), (6, .c (.i .i64 i)), (7, .c (.p 2 ad 0)), (8, .c (.i .i64 y.1.length))])
      (fun y => [tapeC tad a l.length c y.2.2.2, .row 9 1 y.2.1 y.1.length y.2.2.1 (y.1.map C.s), .box 2 ad 35 [.s nm, .sl y.2.1 y.1.length y.2.2.1], .row 35 2 ga gs.length gc (gsC gs), .box 1 adp 27 [.sl ga gs.length gc, .sl none 0 0, .sl none 0 0], .box 0 adr 27 polNil.cells])
      (fun _ => [memsF gs, slFact 9 1 (some ⟨nad, 0, none⟩) 3 (names3.map C.s), slFact e 1 a l.length (l.map (C.i .i64))]) 3
      (fun y => y.1.length ≤ 2 ∧ y.2.2.2 ≤ l.length ∧ ∀ m ∈ y.1, memOK nn m) (fun y => 2 - y.1.length)
      (InFam.mk ([], none, 0, at2) ⟨Nat.zero_le _, hat2, fun _ h => (by cases h)⟩ (by repeat' first | exact SubE.nil | refine SubE.cons rfl ?_ ?_ | exact VEq.refl _ | refine VEq.int (by omega) | refine VEq.sl rfl (by first | rfl | omega | (rw [List.length_append]; rfl) | (simp; omega)) rfl) ?_) (fun y hy => ?_)
    · refine (Ents.nilRow (ety := 9) (esz := 1)).trans (Ents.perm ?_)
      exact (List.perm_middle (l₁ := [_, _]))
    obtain ⟨ms, ma, mc, at3⟩ := y
    dsimp only at hy ⊢
    obtain ⟨hj, hat3, hmo⟩ := hy
    have hrN : ∀ L D, Reads L (memsF gs :: slFact 9 1 (some ⟨nad, 0, none⟩) 3 (names3.map C.s) :: D) 9 1 (some ⟨nad, 0, none⟩) 3 (names3.map C.s) := fun L D => .inr fun m h => h.2.1
    have hnl : (names3.length : Int) = 3 := rfl
    have hcN : ∀ k : Int, 0 ≤ k → k < 3 → (((names3.map C.s).drop (k.toNat * 1 + 0)).take 1 = [C.s (names3.getD k.toNat [])]) := fun k h0 h1 => by
      have hlt3 : k.toNat < names3.length := by show k.toNat < 3; omega
      rw [map_take1 hlt3, List.getD_eq_getElem?_getD, List.getElem?_eq_getElem hlt3]; rfl
    have hgT : ∀ k : Int, 0 ≤ k → k < nn → names3.getD k.toNat [] ∈ names3.take nn := fun k h0 h1 => by
      have hlt3 : k.toNat < names3.length := by show k.toNat < 3; omega
      rw [List.getD_eq_getElem?_getD, List.getElem?_eq_getElem hlt3]
      exact List.mem_take_iff_getElem.2 ⟨k.toNat, by omega, rfl⟩
    repeat' first
      | refine J_stop (c := .region 17 _ _) ?_ | refine J_cut (x := .seq (.region 14 _ _) _) (α := Bs × Nat) (fun z => [(0, .c (.p 1000 tad 0)), (2, .c (.p 0 adr 0)), (3, .c (.p 1 adp 0)), (4, .c (.sl (some ⟨nad, 0, none⟩) 3 3)), (5, .c (.i .i64 nn)), (6, .c (.i .i64 i)), (7, .c (.p 2 ad 0)), (8, .c (.i .i64 ms.length)), (9, .c (.s z.1))]) (fun z => [tapeC tad a l.length c z.2, .row 9 1 ma ms.length mc (ms.map C.s), .box 2 ad 35 [.s nm, .sl ma ms.length mc], .row 35 2 ga gs.length gc (gsC gs), .box 1 adp 27 [.sl ga gs.length gc, .sl none 0 0, .sl none 0 0], .box 0 adr 27 polNil.cells]) (fun _ => [memsF gs, slFact 9 1 (some ⟨nad, 0, none⟩) 3 (names3.map C.s), slFact e 1 a l.length (l.map (C.i .i64))]) 3 (fun z => z.2 ≤ l.length ∧ memOK nn z.1) ?_ (fun ⟨m, at4⟩ ⟨hat4, hmm⟩ => ?_)
      | refine J_seq ?_ | refine J_region Tryz.tyOK ?_ | refine J_block ?_ | refine J_cond ?_ | refine J_ret ?_ | refine J_skip ?_ | refine J_exit ?_ | refine J_scope ?_
      | refine CondP.yes (by omega) ?_ | refine CondP.no (by omega) ?_ | refine CondP.mk (fun h => ?_) (fun h => ?_) | refine EqP.mk rfl ?_ | refine NewP.mk (fun ad => ?_) | refine ArP.exact (by simp only [inR]; omega) ?_ | refine SideP.mk (by first | omega | (dsimp only; omega) | (simp; omega)) ?_
      | refine CallP.mk [_] _ [slFact e 1 a l.length (l.map (C.i .i64))] _ (nameW e a c tad _ l (by assumption) hl) (List.Perm.refl _) (fun m h => ⟨by repeat (first | exact h.1 | exact h | replace h := h.2), trivial⟩) (fun v L' D' hp => ?_); obtain ⟨m5, at', hm5, hat', rfl, rfl, rfl⟩ := hp | refine CallP.mk [_] _ [slFact e 1 a l.length (l.map (C.i .i64))] _ (nextW e a c tad _ l 3 (by omega) (by assumption) hl) (List.Perm.refl _) (fun m h => ⟨by repeat (first | exact h.1 | exact h | replace h := h.2), trivial⟩) (fun v L' D' hp => ?_); obtain ⟨k, at', hk0, hk1, hat', rfl, rfl, rfl⟩ := hp | refine CallP.mk [_] _ [slFact e 1 a l.length (l.map (C.i .i64))] _ (nextW e a c tad _ l (nn : Int) (by omega) (by assumption) hl) (List.Perm.refl _) (fun m h => ⟨by repeat (first | exact h.1 | exact h | replace h := h.2), trivial⟩) (fun v L' D' hp => ?_); obtain ⟨k, at', hk0, hk1, hat', rfl, rfl, rfl⟩ := hp | refine CallP.mk [_] _ [slFact e 1 a l.length (l.map (C.i .i64))] _ (nextW e a c tad _ l 9 (by omega) (by assumption) hl) (List.Perm.refl _) (fun m h => ⟨by repeat (first | exact h.1 | exact h | replace h := h.2), trivial⟩) (fun v L' D' hp => ?_); obtain ⟨k, at', hk0, hk1, hat', rfl, rfl, rfl⟩ := hp | refine IdxE.mk 9 1 _ (hrN _ _) (by omega) (by omega) ?_ | refine LoadE.mk 9 _ _ _ (hrN _ _) (by omega) (by omega) (by omega) (hcN _ (by omega) (by omega)) ?_ | refine SideP.mk (Nat.le_trans (Nat.add_le_add_left (getDle (B := 5) names3 names3_le _) _) (by decide)) ?_ | refine InFam.mk (_, _) ⟨by assumption, ?_⟩ (SubE.cons rfl (VEq.refl _) (SubE.cons rfl (VEq.refl _) (SubE.cons rfl (VEq.refl _) (SubE.cons rfl (VEq.refl _) (SubE.cons rfl (VEq.refl _) (SubE.cons rfl (VEq.refl _) (SubE.cons rfl (VEq.refl _) (SubE.cons rfl (VEq.refl _) (SubE.cons rfl (VEq.refl _) SubE.nil))))))))) (Ents.facts (fun m h => ⟨by repeat (first | exact h.1 | replace h := h.2), by repeat (first | exact h.1 | replace h := h.2), by repeat (first | exact h.1 | exact h | replace h := h.2), trivial⟩)) | refine AppE.nil (ms.map C.s) ms.length rfl rfl rfl (SrcE.sl 9 9 _ _ _ _ _ rfl rfl (.inl ⟨mc, List.Mem.tail _ (List.Mem.head _)⟩) (by simp)) (by show ms.length * 16 ≤ _; omega) (fun a5 k5 => ?_) | refine AppE.row [_] _ (ms.map C.s) [C.s m] 1 rfl (SrcE.sl 9 9 _ _ 1 1 _ rfl rfl (.inl ⟨1, List.Mem.head _⟩) rfl) (by show (ms.length + 1) * 16 ≤ _; omega) (fun a6 k6 => ?_) | refine Round.mk (ms ++ [m], a6, k6, at4) (by dsimp only; rw [List.length_append]; simp only [List.length_cons, List.length_nil]; omega) ⟨by dsimp only; rw [List.length_append]; simp only [List.length_cons, List.length_nil]; omega, hat4, ?_⟩ (SubE.cons rfl (VEq.refl _) (SubE.cons rfl (VEq.refl _) (SubE.cons rfl (VEq.refl _) (SubE.cons rfl (VEq.refl _) (SubE.cons rfl (VEq.refl _) (SubE.cons rfl (VEq.refl _) (SubE.cons rfl (VEq.refl _) (SubE.cons rfl (VEq.int (by simp)) SubE.nil)))))))) (Ents.drop.trans ((Ents.perm (List.perm_middle (l₁ := [_, _]))).trans (Ents.drop.trans ((Ents.perm (List.Perm.swap _ _ _)).trans (Ents.of ?_)))))
      | fail
    all_goals first
      | exact .inr (.inl rfl)
      | exact .inr (.inr ⟨_, hgT _ (by assumption) (by assumption), rfl⟩)
      | exact .inl (by assumption)
      | (intro m' hm'
         rcases List.mem_append.1 hm' with hm' | hm'
         · exact hmo m' hm'
         · rw [List.mem_singleton.1 hm']; exact hmm)
      | (dsimp only; rw [List.length_append, List.map_append]; rfl)
      | skip
    refine ⟨?_⟩
    have hgsl : (gsC gs).length = gs.length * 2 := flat_len (F := GrpM.cells) (z := 2) (fun _ => rfl) gs
    repeat' first
      | refine J_seq ?_ | refine J_region Tryz.tyOK ?_ | refine J_block ?_ | refine J_cond ?_ | refine J_ret ?_ | refine J_skip ?_ | refine J_exit ?_ | refine J_scope ?_
      | refine CondP.yes (by omega) ?_ | refine CondP.no (by omega) ?_ | refine CondP.mk (fun h => ?_) (fun h => ?_) | refine EqP.mk rfl ?_ | refine NewP.mk (fun ad => ?_) | refine ArP.exact (by simp only [inR]; omega) ?_ | refine SideP.mk (by first | omega | (dsimp only; omega) | (simp; omega)) ?_
      | refine J_drawT (id := 17) Tryz.tyOK (by kernel_rfl) [0, 1, 3, 0, 8, 31, 63, 127] [0, 1, 3] 2 [4, 5, 6, 7] 4 [2, 5, 6, 7] [2, 4, 5, 7] [3, 7] 7 false (by kernel_rfl) ?_ | refine TwoP.mk ?_ ?_ | refine J_drawT (id := 30) Tryz.tyOK (by kernel_rfl) [0, 1, 3, 0, 8, 31, 63, 127] [0, 1, 3] 2 [4, 5, 6, 7] 4 [2, 5, 6, 7] [2, 4, 5, 7] [3, 12] 7 false (by kernel_rfl) ?_ | refine TwoP.mk ?_ ?_ | refine J_drawT (id := 35) Tryz.tyOK (by kernel_rfl) [0, 1, 3, 0, 8, 31, 63, 127] [0, 1, 3] 2 [4, 5, 6, 7] 4 [2, 5, 6, 7] [2, 4, 5, 7] [3, 14] 7 false (by kernel_rfl) ?_ | refine TwoP.mk ?_ ?_ | refine EntP.mk (Ents.ofSub (by repeat (first | exact List.Sublist.slnil | refine List.Sublist.cons_cons _ ?_ | refine List.Sublist.cons _ ?_)) (by first | exact fun _ h => h | exact fun _ _ => trivial | exact fun _ h => h.2 | exact fun _ h => h.2.2.2.2 | exact fun _ h => ((allD_append _ _).1 h).2)) ?_ | refine AppE.nil (gsC gs) gs.length rfl rfl rfl (SrcE.sl 35 35 _ _ _ _ _ rfl rfl (.inl ⟨_, List.Mem.tail _ (List.Mem.tail _ (List.Mem.tail _ (List.Mem.head _)))⟩) hgsl) (by show gs.length * 40 ≤ _; omega) (fun a5 k5 => ?_) | refine AppE.nil (gsC gs) gs.length rfl rfl rfl (SrcE.sl 35 35 _ _ _ _ _ rfl rfl (.inl ⟨_, List.Mem.tail _ (List.Mem.tail _ (List.Mem.tail _ (List.Mem.tail _ (List.Mem.head _))))⟩) hgsl) (by show gs.length * 40 ≤ _; omega) (fun a5 k5 => ?_) | refine AppE.row [_] _ (gsC gs) _ 1 rfl (SrcE.sl 35 35 _ _ 1 1 _ rfl rfl (.inl ⟨1, List.Mem.head _⟩) rfl) (by show (gs.length + 1) * 40 ≤ _; omega) (fun a6 k6 => ?_) | refine AppE.row [] _ (gsC gs) _ 1 rfl (SrcE.sl 35 35 _ _ 1 1 _ rfl rfl (.inl ⟨1, List.Mem.tail _ (List.Mem.head _)⟩) rfl) (by show (gs.length + 1) * 40 ≤ _; omega) (fun a6 k6 => ?_) | refine Round.mk (i + 1, gs ++ [⟨nm, ma, mc, ms⟩], a6, k6, at') (by dsimp only; omega) ⟨by dsimp only; omega, hat', ?_, ?_⟩ (SubE.cons rfl (VEq.refl _) (SubE.cons rfl (VEq.refl _) (SubE.cons rfl (VEq.refl _) (SubE.cons rfl (VEq.refl _) (SubE.cons rfl (VEq.refl _) (SubE.cons rfl (VEq.int (by omega)) SubE.nil)))))) ((Ents.drop (c := .row _ _ (some ⟨_, 0, none⟩) 1 1 _)).trans ((Ents.perm (List.perm_middle (l₁ := [_, _]))).trans ((Ents.toFact).trans ((Ents.perm (List.perm_middle (l₁ := [_, _]))).trans ((Ents.drop).trans ((Ents.perm (List.perm_middle (l₁ := [_, _]))).trans ((Ents.drop).trans ((Ents.perm (List.Perm.swap _ _ _)).trans ((Ents.of ?_).trans (Ents.facts fun m h => ⟨memsF_add (g := ⟨nm, ma, mc, ms⟩) h.2.1 h.1, h.2.2.1, h.2.2.2.1, trivial⟩)))))))))) | refine Round.mk (i + 1, gs ++ [⟨nm, ma, mc, ms⟩], a6, k6, at') (by dsimp only; omega) ⟨by dsimp only; omega, hat', ?_, ?_⟩ (SubE.cons rfl (VEq.refl _) (SubE.cons rfl (VEq.refl _) (SubE.cons rfl (VEq.refl _) (SubE.cons rfl (VEq.refl _) (SubE.cons rfl (VEq.refl _) (SubE.cons rfl (VEq.int (by omega)) SubE.nil)))))) ((Ents.perm (List.perm_middle (l₁ := [_]))).trans ((Ents.drop (c := .row _ _ (some ⟨_, 0, none⟩) 1 1 _)).trans ((Ents.perm (List.perm_middle (l₁ := [_, _]))).trans ((Ents.toFact).trans ((Ents.perm (List.perm_middle (l₁ := [_, _]))).trans ((Ents.drop).trans ((Ents.perm (List.perm_middle (l₁ := [_, _]))).trans ((Ents.drop).trans ((Ents.perm (List.Perm.swap _ _ _)).trans ((Ents.of ?_).trans (Ents.facts fun m h => ⟨memsF_add (g := ⟨nm, ma, mc, ms⟩) h.2.1 h.1, h.2.2.1, h.2.2.2.1, trivial⟩)))))))))))
      | fail
    all_goals first
      | (dsimp only; rw [gpOf_snoc, hnm, htk]; done)
      | (intro g hg
         rcases List.mem_append.1 hg with hg | hg
         · exact hgm g hg
         · rw [List.mem_singleton.1 hg]; exact ⟨hj, hmo⟩)
      | (dsimp only; rw [List.length_append, gsC_snoc]; rfl)
  · have hin : i = nn := by omega
    subst hin
    have hpre : ∀ m, allD m [memsF gs, slFact 9 1 (some ⟨nad, 0, none⟩) 3 (names3.map C.s), slFact e 1 a l.length (l.map (C.i .i64))] → SlF m 0 1 (resl (some ⟨nad, 0, none⟩) 0 3 1) (i : Int).toNat ((names3.take i).map C.s) := fun m h => by
      have := slFact_pre (hi := i) 3 h.2.1 (by omega)
      rw [List.map_take]
      rw [Int.toNat_natCast]
      rw [Nat.mul_one] at this
      exact this
    have htl : (names3.take i).length = i := by rw [List.length_take]; have h3 : names3.length = 3 := rfl; omega
    repeat' first
      | refine J_stop (c := .seq (.region 19 _ _) _) ?_
      | refine J_seq ?_ | refine J_region Tryz.tyOK ?_ | refine J_block ?_ | refine J_cond ?_ | refine J_ret ?_ | refine J_skip ?_ | refine J_exit ?_ | refine J_scope ?_
      | refine CondP.yes (by omega) ?_ | refine CondP.no (by omega) ?_ | refine CondP.mk (fun h => ?_) (fun h => ?_) | refine EqP.mk rfl ?_ | refine NewP.mk (fun ad => ?_) | refine ArP.exact (by simp only [inR]; omega) ?_ | refine SideP.mk (by first | omega | (dsimp only; omega) | (simp; omega)) ?_
      | refine AppE.row [] _ ([[97, 108, 108], [117, 115, 101, 114, 115]].map C.s) ((names3.take i).map C.s) _ rfl (SrcE.sl 0 9 _ _ _ _ _ rfl rfl (.inr hpre) (by rw [List.length_map, htl, Int.toNat_natCast]; simp)) (by show (2 + (i : Int).toNat) * 16 ≤ _; omega) (fun ak kk => ?_)
      | fail
    refine ⟨?_⟩
    refine J_cap (List.Mem.tail _ (List.Mem.tail _ (List.Mem.head _))) (fun hgcap _ _ => ?_)
    have hkn : (knownN i).length = 2 + i := by unfold knownN; rw [List.length_append, htl]; rfl
    rw [show ([[97, 108, 108], [117, 115, 101, 114, 115]].map C.s ++ (names3.take i).map C.s) = (knownN i).map C.s from (List.map_append).symm, Int.toNat_natCast]
    refine J_mem (n' := 2) (L' := [tapeC tad a l.length c at2, .box 1 adp 27 [.sl ga gs.length gc, .sl none 0 0, .sl none 0 0], .box 0 adr 27 polNil.cells]) (D' := [slFact 9 1 ak (2 + i) ((knownN i).map C.s), slFact 0 2 ga gs.length (gsC gs), memsF gs, slFact e 1 a l.length (l.map (C.i .i64))]) (Ents.toFact.trans ((Ents.perm (List.perm_middle (l₁ := [_]))).trans (Ents.toFact.trans (Ents.facts fun m h => ⟨h.2.1, h.1, h.2.2.1, h.2.2.2.2.1, trivial⟩)))) ?_
    repeat' first
      | refine J_seq ?_ | refine J_region Tryz.tyOK ?_ | refine J_block ?_ | refine J_cond ?_ | refine J_ret ?_ | refine J_skip ?_ | refine J_exit ?_ | refine J_scope ?_
      | refine CondP.yes (by omega) ?_ | refine CondP.no (by omega) ?_ | refine CondP.mk (fun h => ?_) (fun h => ?_) | refine EqP.mk rfl ?_ | refine NewP.mk (fun ad => ?_) | refine ArP.exact (by simp only [inR]; omega) ?_ | refine SideP.mk (by first | omega | (dsimp only; omega) | (simp; omega)) ?_
      | fail
    refine J_loop (α := Nat × List Rul × Option Addr × Nat × Nat) (fun x => [(0, .c (.p 1000 tad 0)), (2, .c (.p 0 adr 0)), (3, .c (.p 1 adp 0)), (10, .c (.sl ak (2 + i) kk)), (11, .c (.i .i64 x.1))])
      (fun x => [tapeC tad a l.length c x.2.2.2.2, .row 42 6 x.2.2.1 x.2.1.length x.2.2.2.1 (rsC x.2.1), .box 1 adp 27 [.sl ga gs.length gc, .sl x.2.2.1 x.2.1.length x.2.2.2.1, .sl none 0 0], .box 0 adr 27 polNil.cells])
      (fun x => [slFact 9 1 ak (2 + i) ((knownN i).map C.s), slFact 0 2 ga gs.length (gsC gs), memsF gs, slFact e 1 a l.length (l.map (C.i .i64))]) 2
      (fun x => x.1 ≤ 6 ∧ x.2.1.length = x.1 + 1 ∧ x.2.2.2.2 ≤ l.length ∧ ∀ r ∈ x.2.1, rulOK i r) (fun x => 6 - x.1)
      (InFam.mk (0, [⟨true, 1, [97, 108, 108], 1, 0, []⟩], _, _, at2) ⟨Nat.zero_le _, rfl, hat2, fun r hr => ?_⟩ (by repeat' first | exact SubE.nil | refine SubE.cons rfl ?_ ?_ | exact VEq.refl _ | refine VEq.int (by omega) | refine VEq.sl rfl (by first | rfl | omega | (rw [List.length_append]; rfl) | (simp; omega)) rfl) (Ents.perm (List.Perm.swap _ _ _))) (fun x hx => ?_)
    · rw [List.mem_singleton.1 hr]
      exact ⟨by decide, by decide, List.mem_append_left _ (by simp), rfl⟩
    obtain ⟨j, rs, ra, rc, at3⟩ := x
    dsimp only at hx ⊢
    obtain ⟨hj, hrl, hat3, hro⟩ := hx
    have hrsl : (rsC rs).length = rs.length * 6 := flat_len (F := Rul.cells) (z := 6) (fun _ => rfl) rs
    repeat' first
      | refine J_stop (c := .seq (.seq (.region 31 _ _) _) _) ?_ | refine J_cut (x := .seq (.region 24 _ _) _) (α := Rul × Nat) (fun z => [(0, .c (.p 1000 tad 0)), (2, .c (.p 0 adr 0)), (3, .c (.p 1 adp 0)), (10, .c (.sl ak (2 + i) kk)), (11, .c (.i .i64 j)), (12, .c (.p 2 ad 0))]) (fun z => [tapeC tad a l.length c z.2, .box 2 ad 42 z.1.cells, .row 42 6 ra rs.length rc (rsC rs), .box 1 adp 27 [.sl ga gs.length gc, .sl ra rs.length rc, .sl none 0 0], .box 0 adr 27 polNil.cells]) (fun _ => [slFact 9 1 ak (2 + i) ((knownN i).map C.s), slFact 0 2 ga gs.length (gsC gs), memsF gs, slFact e 1 a l.length (l.map (C.i .i64))]) 3 (fun z => z.2 ≤ l.length ∧ rulOK i z.1) ?_ (fun ⟨r, at4⟩ ⟨hat4, hrr⟩ => ?_)
      | refine J_seq ?_ | refine J_region Tryz.tyOK ?_ | refine J_block ?_ | refine J_cond ?_ | refine J_ret ?_ | refine J_skip ?_ | refine J_exit ?_ | refine J_scope ?_
      | refine CondP.yes (by omega) ?_ | refine CondP.no (by omega) ?_ | refine CondP.mk (fun h => ?_) (fun h => ?_) | refine EqP.mk rfl ?_ | refine NewP.mk (fun ad => ?_) | refine ArP.exact (by simp only [inR]; omega) ?_ | refine SideP.mk (by first | omega | (dsimp only; omega) | (simp; omega)) ?_
      | refine CallP.mk [_] _ [slFact e 1 a l.length (l.map (C.i .i64))] _ (nextW e a c tad _ l 7 (by omega) (by assumption) hl) (List.Perm.refl _) (fun m h => ⟨by repeat (first | exact h.1 | exact h | replace h := h.2), trivial⟩) (fun v L' D' hp => ?_); obtain ⟨k, at', hk0, hk1, hat', rfl, rfl, rfl⟩ := hp | refine CallP.mk [_] _ [slFact e 1 a l.length (l.map (C.i .i64))] _ (nextW e a c tad _ l 3 (by omega) (by assumption) hl) (List.Perm.refl _) (fun m h => ⟨by repeat (first | exact h.1 | exact h | replace h := h.2), trivial⟩) (fun v L' D' hp => ?_); obtain ⟨k, at', hk0, hk1, hat', rfl, rfl, rfl⟩ := hp | refine CallP.mk [_] _ [slFact e 1 a l.length (l.map (C.i .i64))] _ (nextW e a c tad _ l 3 (by omega) (by assumption) hl) (List.Perm.swap _ _ _) (fun m h => ⟨by repeat (first | exact h.1 | exact h | replace h := h.2), trivial⟩) (fun v L' D' hp => ?_); obtain ⟨k, at', hk0, hk1, hat', rfl, rfl, rfl⟩ := hp | refine CallP.mk [_] _ [slFact e 1 a l.length (l.map (C.i .i64))] _ (nextW e a c tad _ l 5 (by omega) (by assumption) hl) (List.Perm.refl _) (fun m h => ⟨by repeat (first | exact h.1 | exact h | replace h := h.2), trivial⟩) (fun v L' D' hp => ?_); obtain ⟨k, at', hk0, hk1, hat', rfl, rfl, rfl⟩ := hp | refine CallP.mk [_] _ [slFact e 1 a l.length (l.map (C.i .i64))] _ (nextW e a c tad _ l 6 (by omega) (by assumption) hl) (List.Perm.refl _) (fun m h => ⟨by repeat (first | exact h.1 | exact h | replace h := h.2), trivial⟩) (fun v L' D' hp => ?_); obtain ⟨k, at', hk0, hk1, hat', rfl, rfl, rfl⟩ := hp | refine CallP.mk [_] _ [slFact e 1 a l.length (l.map (C.i .i64)), slFact 9 1 ak (2 + i) ((knownN i).map C.s)] _ (ofW e 9 a ak c kk (2 + i) tad _ l (knownN i) hkn.symm (by omega) (by assumption) hl) (List.Perm.refl _) (fun m h => ⟨by repeat (first | exact h.1 | exact h | replace h := h.2), by repeat (first | exact h.1 | exact h | replace h := h.2), trivial⟩) (fun v L' D' hp => ?_); obtain ⟨gr, at', hgr, hat', rfl, rfl, rfl⟩ := hp | refine CallP.mk [_] _ [slFact e 1 a l.length (l.map (C.i .i64))] _ (titleW e a c tad _ l (by assumption) hl) (List.Perm.refl _) (fun m h => ⟨by repeat (first | exact h.1 | exact h | replace h := h.2), trivial⟩) (fun v L' D' hp => ?_); obtain ⟨sp, nm, at', hvt, hat', rfl, rfl, rfl⟩ := hp | refine InFam.mk (⟨_, _, _, _, _, _⟩, _) ⟨by assumption, ?_⟩ (SubE.cons rfl (VEq.refl _) (SubE.cons rfl (VEq.refl _) (SubE.cons rfl (VEq.refl _) (SubE.cons rfl (VEq.refl _) (SubE.cons rfl (VEq.refl _) (SubE.cons rfl (VEq.refl _) SubE.nil)))))) (Ents.facts (fun m h => ⟨by repeat (first | exact h.1 | replace h := h.2), by repeat (first | exact h.1 | replace h := h.2), by repeat (first | exact h.1 | replace h := h.2), by repeat (first | exact h.1 | exact h | replace h := h.2), trivial⟩)) | refine J_drawT (id := 17) Tryz.tyOK (by kernel_rfl) [0, 1, 3, 0, 8, 31, 63, 127] [0, 1, 3] 2 [4, 5, 6, 7] 4 [2, 5, 6, 7] [2, 4, 5, 7] [3, 7] 7 false (by kernel_rfl) ?_ | refine TwoP.mk ?_ ?_ | refine J_drawT (id := 30) Tryz.tyOK (by kernel_rfl) [0, 1, 3, 0, 8, 31, 63, 127] [0, 1, 3] 2 [4, 5, 6, 7] 4 [2, 5, 6, 7] [2, 4, 5, 7] [3, 12] 7 false (by kernel_rfl) ?_ | refine TwoP.mk ?_ ?_ | refine J_drawT (id := 35) Tryz.tyOK (by kernel_rfl) [0, 1, 3, 0, 8, 31, 63, 127] [0, 1, 3] 2 [4, 5, 6, 7] 4 [2, 5, 6, 7] [2, 4, 5, 7] [3, 14] 7 false (by kernel_rfl) ?_ | refine TwoP.mk ?_ ?_ | refine EntP.mk (Ents.ofSub (by repeat (first | exact List.Sublist.slnil | refine List.Sublist.cons_cons _ ?_ | refine List.Sublist.cons _ ?_)) (by first | exact fun _ h => h | exact fun _ _ => trivial | exact fun _ h => h.2 | exact fun _ h => h.2.2.2.2 | exact fun _ h => ((allD_append _ _).1 h).2)) ?_ | refine AppE.nil (rsC rs) rs.length rfl rfl rfl (SrcE.sl 42 42 _ _ _ _ _ rfl rfl (.inl ⟨_, List.Mem.tail _ (List.Mem.tail _ (List.Mem.head _))⟩) hrsl) (by show rs.length * 64 ≤ _; omega) (fun a5 k5 => ?_) | refine AppE.nil (rsC rs) rs.length rfl rfl rfl (SrcE.sl 42 42 _ _ _ _ _ rfl rfl (.inl ⟨_, List.Mem.tail _ (List.Mem.tail _ (List.Mem.tail _ (List.Mem.head _)))⟩) hrsl) (by show rs.length * 64 ≤ _; omega) (fun a5 k5 => ?_) | refine AppE.row [_] _ (rsC rs) _ 1 rfl (SrcE.sl 42 42 _ _ 1 1 _ rfl rfl (.inl ⟨1, List.Mem.head _⟩) rfl) (by show (rs.length + 1) * 64 ≤ _; omega) (fun a6 k6 => ?_) | refine AppE.row [] _ (rsC rs) _ 1 rfl (SrcE.sl 42 42 _ _ 1 1 _ rfl rfl (.inl ⟨1, List.Mem.tail _ (List.Mem.head _)⟩) rfl) (by show (rs.length + 1) * 64 ≤ _; omega) (fun a6 k6 => ?_) | refine Round.mk (j + 1, rs ++ [r], a6, k6, at4) (by dsimp only; omega) ⟨by dsimp only; omega, by dsimp only; rw [List.length_append, hrl]; rfl, hat4, ?_⟩ (SubE.cons rfl (VEq.refl _) (SubE.cons rfl (VEq.refl _) (SubE.cons rfl (VEq.refl _) (SubE.cons rfl (VEq.refl _) (SubE.cons rfl (VEq.int (by omega)) SubE.nil))))) ((Ents.drop (c := .row _ _ (some ⟨_, 0, none⟩) 1 1 _)).trans ((Ents.perm (List.perm_middle (l₁ := [_, _]))).trans ((Ents.drop).trans ((Ents.perm (List.perm_middle (l₁ := [_, _]))).trans ((Ents.drop).trans ((Ents.perm (List.Perm.swap _ _ _)).trans (Ents.of ?_))))))) | refine Round.mk (j + 1, rs ++ [r], a6, k6, at4) (by dsimp only; omega) ⟨by dsimp only; omega, by dsimp only; rw [List.length_append, hrl]; rfl, hat4, ?_⟩ (SubE.cons rfl (VEq.refl _) (SubE.cons rfl (VEq.refl _) (SubE.cons rfl (VEq.refl _) (SubE.cons rfl (VEq.refl _) (SubE.cons rfl (VEq.int (by omega)) SubE.nil))))) ((Ents.perm (List.perm_middle (l₁ := [_]))).trans ((Ents.drop (c := .row _ _ (some ⟨_, 0, none⟩) 1 1 _)).trans ((Ents.perm (List.perm_middle (l₁ := [_, _]))).trans ((Ents.drop).trans ((Ents.perm (List.perm_middle (l₁ := [_, _]))).trans ((Ents.drop).trans ((Ents.perm (List.Perm.swap _ _ _)).trans (Ents.of ?_))))))))
      | fail
    all_goals first
      | (refine ⟨by dsimp only; omega, by dsimp only; omega, by assumption, ?_⟩
         first | rfl | (simp [scopeOK]; omega) | (simp [scopeOK]; assumption))
      | (intro r' hr'
         rcases List.mem_append.1 hr' with hr' | hr'
         · exact hro r' hr'
         · rw [List.mem_singleton.1 hr']; exact hrr)
      | (dsimp only; rw [List.length_append, rsC_snoc]; rfl)
      | skip
    refine ⟨?_⟩
    repeat' first
      | refine J_seq ?_ | refine J_region Tryz.tyOK ?_ | refine J_block ?_ | refine J_cond ?_ | refine J_ret ?_ | refine J_skip ?_ | refine J_exit ?_ | refine J_scope ?_
      | refine CondP.yes (by omega) ?_ | refine CondP.no (by omega) ?_ | refine CondP.mk (fun h => ?_) (fun h => ?_) | refine EqP.mk rfl ?_ | refine NewP.mk (fun ad => ?_) | refine ArP.exact (by simp only [inR]; omega) ?_ | refine SideP.mk (by first | omega | (dsimp only; omega) | (simp; omega)) ?_
      | fail
    refine J_loop (α := Nat × List Grd × Option Addr × Nat × Nat) (fun x => [(0, .c (.p 1000 tad 0)), (2, .c (.p 0 adr 0)), (3, .c (.p 1 adp 0)), (10, .c (.sl ak (2 + i) kk)), (13, .c (.i .i64 x.1))])
      (fun x => [tapeC tad a l.length c x.2.2.2.2, .row 45 5 x.2.2.1 x.2.1.length x.2.2.2.1 (xsC x.2.1), .row 42 6 ra rs.length rc (rsC rs), .box 1 adp 27 [.sl ga gs.length gc, .sl ra rs.length rc, .sl x.2.2.1 x.2.1.length x.2.2.2.1], .box 0 adr 27 polNil.cells])
      (fun x => [slFact 9 1 ak (2 + i) ((knownN i).map C.s), slFact 0 2 ga gs.length (gsC gs), memsF gs, slFact e 1 a l.length (l.map (C.i .i64))]) 2
      (fun x => x.1 ≤ 3 ∧ x.2.1.length = x.1 ∧ x.2.2.2.2 ≤ l.length ∧ ∀ y ∈ x.2.1, grdOK i y) (fun x => 3 - x.1)
      (InFam.mk (0, [], none, 0, at') ⟨Nat.zero_le _, rfl, hat', fun y hy => (by cases hy)⟩ (by repeat' first | exact SubE.nil | refine SubE.cons rfl ?_ ?_ | exact VEq.refl _ | refine VEq.int (by omega) | refine VEq.sl rfl (by first | rfl | omega | (rw [List.length_append]; rfl) | (simp; omega)) rfl) ((Ents.nilRow (ety := 45) (esz := 5)).trans (Ents.perm (List.Perm.swap _ _ _)))) (fun x hx => ?_)
    obtain ⟨j2, xs, xa, xc, at5⟩ := x
    dsimp only at hx ⊢
    obtain ⟨hj2, hxl, hat5, hxo⟩ := hx
    have hxsl : (xsC xs).length = xs.length * 5 := flat_len (F := Grd.cells) (z := 5) (fun _ => rfl) xs
    have hall : nms (gpOf gs) = names3.take i ∧ ∀ g ∈ gs, g.mem.length ≤ 2 ∧ ∀ m ∈ g.mem, memOK i m := ⟨hnm, hgm⟩
    repeat' first
      | refine J_stop (c := .seq (.region 36 _ _) _) ?_ | refine J_cut (x := .region 34 _ _) (α := Nat × Grd × Nat) (fun z => [(0, .c (.p 1000 tad 0)), (2, .c (.p 0 adr 0)), (3, .c (.p 1 adp 0)), (10, .c (.sl ak (2 + i) kk)), (13, .c (.i .i64 j2)), (14, .c (.p 2 z.1 0))]) (fun z => [.box 2 z.1 45 z.2.1.cells, tapeC tad a l.length c z.2.2, .row 45 5 xa xs.length xc (xsC xs), .row 42 6 ra rs.length rc (rsC rs), .box 1 adp 27 [.sl ga gs.length gc, .sl ra rs.length rc, .sl xa xs.length xc], .box 0 adr 27 polNil.cells]) (fun _ => [slFact 9 1 ak (2 + i) ((knownN i).map C.s), slFact 0 2 ga gs.length (gsC gs), memsF gs, slFact e 1 a l.length (l.map (C.i .i64))]) 3 (fun z => z.2.2 ≤ l.length ∧ grdOK i z.2.1) ?_ (fun ⟨adx, y, at4⟩ ⟨hat4, hyy⟩ => ?_)
      | refine J_seq ?_ | refine J_region Tryz.tyOK ?_ | refine J_block ?_ | refine J_cond ?_ | refine J_ret ?_ | refine J_skip ?_ | refine J_exit ?_ | refine J_scope ?_
      | refine CondP.yes (by omega) ?_ | refine CondP.no (by omega) ?_ | refine CondP.mk (fun h => ?_) (fun h => ?_) | refine EqP.mk rfl ?_ | refine NewP.mk (fun ad => ?_) | refine ArP.exact (by simp only [inR]; omega) ?_ | refine SideP.mk (by first | omega | (dsimp only; omega) | (simp; omega)) ?_
      | refine CallP.mk [_] _ [slFact e 1 a l.length (l.map (C.i .i64))] _ (nextW e a c tad _ l 4 (by omega) (by assumption) hl) (List.Perm.refl _) (fun m h => ⟨by repeat (first | exact h.1 | exact h | replace h := h.2), trivial⟩) (fun v L' D' hp => ?_); obtain ⟨k, at', hk0, hk1, hat', rfl, rfl, rfl⟩ := hp | refine CallP.mk [_] _ [slFact e 1 a l.length (l.map (C.i .i64))] _ (nextW e a c tad _ l 3 (by omega) (by assumption) hl) (List.Perm.refl _) (fun m h => ⟨by repeat (first | exact h.1 | exact h | replace h := h.2), trivial⟩) (fun v L' D' hp => ?_); obtain ⟨k, at', hk0, hk1, hat', rfl, rfl, rfl⟩ := hp | refine CallP.mk [_] _ [slFact e 1 a l.length (l.map (C.i .i64)), slFact 9 1 ak (2 + i) ((knownN i).map C.s)] _ (ofW e 9 a ak c kk (2 + i) tad _ l (knownN i) hkn.symm (by omega) (by assumption) hl) (List.Perm.refl _) (fun m h => ⟨by repeat (first | exact h.1 | exact h | replace h := h.2), by repeat (first | exact h.1 | exact h | replace h := h.2), trivial⟩) (fun v L' D' hp => ?_); obtain ⟨gr, at', hgr, hat', rfl, rfl, rfl⟩ := hp | refine CallP.mk [_] _ [slFact e 1 a l.length (l.map (C.i .i64))] _ (titleW e a c tad _ l (by assumption) hl) (List.Perm.refl _) (fun m h => ⟨by repeat (first | exact h.1 | exact h | replace h := h.2), trivial⟩) (fun v L' D' hp => ?_); obtain ⟨sp, nm, at', hvt, hat', rfl, rfl, rfl⟩ := hp | refine CallP.mkE [_] _ [slFact e 1 a l.length (l.map (C.i .i64)), slFact 9 1 _ 4 (sects4.map C.s)] _ _ (ofW e 9 a _ c _ 4 tad _ l sects4 rfl (by omega) (by assumption) hl) Ents.toFact (fun m h => ⟨by repeat (first | exact h.1 | exact h | replace h := h.2), h.1, trivial⟩) (fun v L' D' hp => ?_); obtain ⟨sc, at', hsc, hat', rfl, rfl, rfl⟩ := hp | refine InFam.mk (_, ⟨_, _, _, _, _⟩, _) ⟨by assumption, ?_⟩ (SubE.cons rfl (VEq.refl _) (SubE.cons rfl (VEq.refl _) (SubE.cons rfl (VEq.refl _) (SubE.cons rfl (VEq.refl _) (SubE.cons rfl (VEq.refl _) (SubE.cons rfl (VEq.refl _) SubE.nil)))))) (Ents.facts (fun m h => ⟨by repeat (first | exact h.1 | replace h := h.2), by repeat (first | exact h.1 | replace h := h.2), by repeat (first | exact h.1 | replace h := h.2), by repeat (first | exact h.1 | exact h | replace h := h.2), trivial⟩)) | refine J_drawT (id := 17) Tryz.tyOK (by kernel_rfl) [0, 1, 3, 0, 8, 31, 63, 127] [0, 1, 3] 2 [4, 5, 6, 7] 4 [2, 5, 6, 7] [2, 4, 5, 7] [3, 7] 7 false (by kernel_rfl) ?_ | refine TwoP.mk ?_ ?_ | refine J_drawT (id := 30) Tryz.tyOK (by kernel_rfl) [0, 1, 3, 0, 8, 31, 63, 127] [0, 1, 3] 2 [4, 5, 6, 7] 4 [2, 5, 6, 7] [2, 4, 5, 7] [3, 12] 7 false (by kernel_rfl) ?_ | refine TwoP.mk ?_ ?_ | refine J_drawT (id := 35) Tryz.tyOK (by kernel_rfl) [0, 1, 3, 0, 8, 31, 63, 127] [0, 1, 3] 2 [4, 5, 6, 7] 4 [2, 5, 6, 7] [2, 4, 5, 7] [3, 14] 7 false (by kernel_rfl) ?_ | refine TwoP.mk ?_ ?_ | refine EntP.mk (Ents.ofSub (by repeat (first | exact List.Sublist.slnil | refine List.Sublist.cons_cons _ ?_ | refine List.Sublist.cons _ ?_)) (by first | exact fun _ h => h | exact fun _ _ => trivial | exact fun _ h => h.2 | exact fun _ h => h.2.2.2.2 | exact fun _ h => ((allD_append _ _).1 h).2)) ?_ | refine AppE.nil (xsC xs) xs.length rfl rfl rfl (SrcE.sl 45 45 _ _ _ _ _ rfl rfl (.inl ⟨_, List.Mem.tail _ (List.Mem.tail _ (List.Mem.head _))⟩) hxsl) (by show xs.length * 64 ≤ _; omega) (fun a5 k5 => ?_) | refine AppE.nil (xsC xs) xs.length rfl rfl rfl (SrcE.sl 45 45 _ _ _ _ _ rfl rfl (.inl ⟨_, List.Mem.tail _ (List.Mem.tail _ (List.Mem.tail _ (List.Mem.head _)))⟩) hxsl) (by show xs.length * 64 ≤ _; omega) (fun a5 k5 => ?_) | refine AppE.row [_] _ (xsC xs) _ 1 rfl (SrcE.sl 45 45 _ _ 1 1 _ rfl rfl (.inl ⟨1, List.Mem.head _⟩) rfl) (by show (xs.length + 1) * 64 ≤ _; omega) (fun a6 k6 => ?_) | refine AppE.row [] _ (xsC xs) _ 1 rfl (SrcE.sl 45 45 _ _ 1 1 _ rfl rfl (.inl ⟨1, List.Mem.tail _ (List.Mem.head _)⟩) rfl) (by show (xs.length + 1) * 64 ≤ _; omega) (fun a6 k6 => ?_) | refine Round.mk (j2 + 1, xs ++ [y], a6, k6, at4) (by dsimp only; omega) ⟨by dsimp only; omega, by dsimp only; rw [List.length_append, hxl]; rfl, hat4, ?_⟩ (SubE.cons rfl (VEq.refl _) (SubE.cons rfl (VEq.refl _) (SubE.cons rfl (VEq.refl _) (SubE.cons rfl (VEq.refl _) (SubE.cons rfl (VEq.int (by omega)) SubE.nil))))) ((Ents.drop (c := .row _ _ (some ⟨_, 0, none⟩) 1 1 _)).trans ((Ents.perm (List.perm_middle (l₁ := [_]))).trans ((Ents.drop).trans ((Ents.perm (List.perm_middle (l₁ := [_, _]))).trans ((Ents.drop).trans ((Ents.perm (List.Perm.swap _ _ _)).trans (Ents.of ?_))))))) | refine Round.mk (j2 + 1, xs ++ [y], a6, k6, at4) (by dsimp only; omega) ⟨by dsimp only; omega, by dsimp only; rw [List.length_append, hxl]; rfl, hat4, ?_⟩ (SubE.cons rfl (VEq.refl _) (SubE.cons rfl (VEq.refl _) (SubE.cons rfl (VEq.refl _) (SubE.cons rfl (VEq.refl _) (SubE.cons rfl (VEq.int (by omega)) SubE.nil))))) ((Ents.perm (List.perm_middle (l₁ := [_]))).trans ((Ents.drop (c := .row _ _ (some ⟨_, 0, none⟩) 1 1 _)).trans ((Ents.perm (List.perm_middle (l₁ := [_]))).trans ((Ents.drop).trans ((Ents.perm (List.perm_middle (l₁ := [_, _]))).trans ((Ents.drop).trans ((Ents.perm (List.Perm.swap _ _ _)).trans (Ents.of ?_))))))))
      | fail
    all_goals first
      | exact ⟨by assumption, by assumption, by assumption⟩
      | (intro r' hr'
         rcases List.mem_append.1 hr' with hr' | hr'
         · exact hxo r' hr'
         · rw [List.mem_singleton.1 hr']; exact hyy)
      | (dsimp only; rw [List.length_append, xsC_snoc]; rfl)
      | skip
    refine ⟨?_⟩
    repeat' first
      | refine J_seq ?_ | refine J_region Tryz.tyOK ?_ | refine J_block ?_ | refine J_cond ?_ | refine J_ret ?_ | refine J_skip ?_ | refine J_exit ?_ | refine J_scope ?_
      | refine CondP.yes (by omega) ?_ | refine CondP.no (by omega) ?_ | refine CondP.mk (fun h => ?_) (fun h => ?_) | refine EqP.mk rfl ?_ | refine NewP.mk (fun ad => ?_) | refine ArP.exact (by simp only [inR]; omega) ?_ | refine SideP.mk (by first | omega | (dsimp only; omega) | (simp; omega)) ?_
      | refine FinE.mk [tapeC tad a l.length c at', .row 42 6 ra rs.length rc (rsC rs)] [slFact 0 2 ga gs.length (gsC gs), memsF gs, slFact 0 5 xa xs.length (xsC xs)] ⟨i, ⟨ga, gc, gs, ra, rc, rs, xa, xc, xs⟩, at', hat', ⟨by omega, hall.1, ?_, by show 1 ≤ rs.length; omega, by show rs.length ≤ 7; omega, hro, by show xs.length ≤ 3; omega, hxo⟩, hgcap, rfl, rfl, rfl⟩ ((Ents.perm (List.perm_middle (l₁ := [_]))).trans (Ents.toFact.trans ((Ents.sub ⟨[_, _], List.perm_append_comm (l₁ := [_, _]) (l₂ := [_, _])⟩).trans (Ents.facts fun m h => ⟨h.2.2.1, h.2.2.2.1, h.1, trivial⟩))))
      | fail
    intro g hg
    obtain ⟨g', hg', rfl⟩ := List.mem_map.1 hg
    exact hall.2 g' hg'

end Go.Proofs
