/- This text walks through the statement PolicySpoiled: a policy that is changed in one place is judged alike by both checks. -/
import Derived.Test.YtabmiagnfihleaaGreatDoorDrawP
import Derived.Test.YtabmiagnfihleaaGreatDoorPolT2
import Derived.Test.YtabmiagnfihleaaGreatDoorPolK
import Derived.Test.YtabmiagnfihleaaGreatDoorPolV
set_option linter.all false

namespace Go.X
open Go Go.Lib Go.Proofs

theorem setC_left {o : Nat} {ns a b : List C} (h : o + ns.length ≤ a.length) : setC o ns (a ++ b) = setC o ns a ++ b := by
  unfold setC
  rw [List.take_append_of_le_length (by omega), List.drop_append_of_le_length (by omega)]
  simp
theorem setC_right {o : Nat} {ns a b : List C} : setC (a.length + o) ns (a ++ b) = a ++ setC o ns b := by
  unfold setC
  rw [List.take_append, List.drop_append, List.take_of_length_le (by omega), List.drop_eq_nil_of_le (by omega)]
  simp [Nat.add_sub_cancel_left, show a.length + o + ns.length - a.length = o + ns.length by omega]
/-- One element of a row is changed. -/
theorem setC_flat {α : Type} {F : α → List C} {z : Nat} (hF : ∀ x, (F x).length = z) : ∀ {l : List α} {j : Nat} (hj : j < l.length) {o : Nat} {ns : List C} {x' : α}, o + ns.length ≤ z → setC o ns (F l[j]) = F x' → setC (j * z + o) ns (l.flatMap F) = (l.set j x').flatMap F
  | [], j, hj, _, _, _, _, _ => by simp at hj
  | x :: r, 0, _, o, ns, x', ho, hx => by
    rw [Nat.zero_mul, Nat.zero_add, List.flatMap_cons, setC_left (by rw [hF]; exact ho)]
    show _ = (x' :: r).flatMap F
    rw [List.flatMap_cons, ← hx]
    rfl
  | x :: r, j + 1, hj, o, ns, x', ho, hx => by
    have ih := setC_flat hF (l := r) (j := j) (by simpa using hj) ho hx
    rw [List.flatMap_cons, show (j + 1) * z + o = (F x).length + (j * z + o) by rw [hF, Nat.succ_mul]; omega, setC_right, ih]
    rfl
theorem andU (n k : Int) (hk : (BitVec.ofInt 64 k).toNat = k.toNat) (h1 : k ≤ 9223372036854775807) (h0 : 0 ≤ k) : ∃ j : Nat, bitsV .and .i64 n k = (j : Int) ∧ j ≤ k.toNat := by
  have h : bitsV .and .i64 n k = IntKind.i64.wrap ((BitVec.ofInt 64 n &&& BitVec.ofInt 64 k).toNat : Nat) := rfl
  have h2 : (BitVec.ofInt 64 n &&& BitVec.ofInt 64 k).toNat ≤ k.toNat := by
    rw [BitVec.toNat_and, hk]
    exact Nat.and_le_right
  refine ⟨_, ?_, h2⟩
  rw [h, wrap_of_inR (by simp only [inR]; omega)]

theorem tmodU {m : Int} {a k : Nat} (h : m = (a : Int)) (hk : 0 < k) : ∃ j : Nat, j < k ∧ m.tmod (k : Int) = (j : Int) := by
  have h1 : m.tmod (k : Int) = m % (k : Int) := Int.tmod_eq_emod_of_nonneg (by omega)
  have h2 := Int.emod_nonneg m (show (k : Int) ≠ 0 by omega)
  have h3 := Int.emod_lt_of_pos m (show (0 : Int) < k by omega)
  exact ⟨(m % (k : Int)).toNat, by omega, by omega⟩
theorem and3_0 (m : Int) : 0 ≤ bitsV .and .i64 m 3 := by obtain ⟨j, h, _⟩ := andU m 3 (by decide) (by omega) (by omega); omega
theorem and3_lt (m : Int) {k : Nat} (hk : 4 ≤ k) : bitsV .and .i64 m 3 < (k : Int) := by obtain ⟨j, h, h2⟩ := andU m 3 (by decide) (by omega) (by omega); omega
theorem and15_in (m : Int) : inR .i64 (bitsV .and .i64 m 15 - 2) := by obtain ⟨j, h, h2⟩ := andU m 15 (by decide) (by omega) (by omega); simp only [inR]; omega
theorem lit_at (xs : List Bs) (m : Int) (h0 : 0 ≤ m) (h1 : m < (xs.length : Int)) : ((xs.map C.s).drop (m.toNat * 1 + 0)).take 1 = [C.s (xs.getD m.toNat [])] := by
  have hlt : m.toNat < xs.length := by omega
  rw [map_take1 hlt, List.getD_eq_getElem?_getD, List.getElem?_eq_getElem hlt]; rfl
def lit0 : List Bs := [[], [97, 108, 108], [83, 116, 97, 102, 102], [109, 111, 100, 115], [97, 32, 98]]
def lit1 : List Bs := [[64], [64, 110, 111, 110, 101], [], [64, 97, 108, 108]]
def lit6 : List Bs := [[], [97], [65], [60, 97, 108, 108, 62]]
def lit8 : List Bs := [[32, 115], [115, 124, 116], [115, 10], [115, 32, 116]]
theorem lit_le {xs : List Bs} (h : ∀ x ∈ xs, x.length ≤ 5) (k : Nat) : (xs.getD k []).length ≤ 5 := by
  rw [List.getD_eq_getElem?_getD]
  cases hk : xs[k]? with
  | none => simp
  | some x => exact h x (List.mem_of_getElem? hk)
theorem set_ok {α : Type} {P : α → Prop} {l : List α} {j : Nat} {x : α} (h : ∀ y ∈ l, P y) (hx : P x) : ∀ y ∈ l.set j x, P y := fun y hy => by
  rcases List.mem_or_eq_of_mem_set hy with h1 | h1
  · exact h y h1
  · rw [h1]; exact hx

theorem mem_new {m : Im} {e : Nat} {a : Option Addr} {xs : List Bs} {x : Bs} (h : SlF m e 1 a (xs.length + 1) (xs.map C.s ++ [C.s x])) : SlF m 0 1 a (xs ++ [x]).length ((xs ++ [x]).map C.s) := by
  rw [List.length_append, List.map_append]; exact h

theorem perm11 {α : Type} {n x g b o : α} : [n, x, g, b, o].Perm ([o] ++ [x, g, b, n]) :=
  (List.perm_append_comm (l₁ := [n]) (l₂ := [x, g, b, o])).trans (List.perm_middle (l₁ := [x, g, b]) (a := o) (l₂ := [n]))

/-- How a path of the changes ends. -/
theorem spEnd {env : Env} {ad gn rn xn gc rc xc : Nat} {ga ra xa : Option Addr} {gs : List GrpM} {rs : List Rul} {xs : List Grd} {L : List Chunk} {D D' : List Fact} {G : Fact} {N1 N2 N3 N4 : Nat}
    (hE : Ents L D [.row N1 5 xa xn xc (xsC xs), .row N2 2 ga gn gc (gsC gs), .box 0 ad N3 [.sl ga gn gc, .sl ra rn rc, .sl xa xn xc], .row N4 6 ra rn rc (rsC rs)] D')
    (hD : ∀ m, allD m D' → allD m [memsF gs, G]) (hg : gs.length = gn) (hr : rs.length = rn) (hx : xs.length = xn) (hok : PolOK ⟨ga, gc, gs, ra, rc, rs, xa, xc, xs⟩) (he : SubE env [(7, .c (.p 0 ad 0))]) :
    InFam (α := PolM) (fun _ => [(7, .c (.p 0 ad 0))]) (fun q => [.box 0 ad N3 q.cells]) (fun q => G :: q.facts) (fun q => PolOK q) env L D := by
  subst hg hr hx
  refine InFam.mk ⟨ga, gc, gs, ra, rc, rs, xa, xc, xs⟩ hok he (hE.trans (Ents.toFact.trans (Ents.toFact.trans ((Ents.perm (List.Perm.swap _ _ _)).trans (Ents.toFact.trans (Ents.facts fun m h => ?_))))))
  have := hD m h.2.2.2
  exact ⟨this.2.1, h.2.1, this.1, h.1, h.2.2.1, trivial⟩

end Go.X

namespace Go.Proofs
open Go Go.X
set_option maxRecDepth 100000
set_option maxHeartbeats 8000000

theorem PolOK.ofTape {n : Nat} {p : PolM} (h : TapeP n p.p3) (hc : p.gs.length ≤ p.gc) (hl : p.gs.length ≤ 3) : PolOK p := by
  have hr7 := h.r7
  have hx3 := h.x3
  dsimp only [PolM.p3] at hr7 hx3
  refine ⟨hc, by omega, by omega, by omega, fun g hg => ?_, fun r hr => ?_, fun x hx => ?_⟩
  · have h1 : g.name ∈ names3.take n := by
      have h0 := h.nm
      rw [← h0]
      exact List.mem_map.2 ⟨(g.name, g.mem), List.mem_map.2 ⟨g, hg, rfl⟩, rfl⟩
    have h2 := names3_le _ (List.mem_of_mem_take h1)
    obtain ⟨h3, h4⟩ := h.g (g.name, g.mem) (List.mem_map.2 ⟨g, hg, rfl⟩)
    dsimp only at h3 h4
    refine ⟨by omega, by omega, fun m hm => ?_⟩
    rcases h4 m hm with h5 | h5 | ⟨g', h5, rfl⟩
    · have := names5_le _ h5; omega
    · rw [h5]; decide
    · have := names3_le _ (List.mem_of_mem_take h5)
      rw [List.length_append, List.length_singleton]; omega
  · obtain ⟨_, _, _, h4⟩ := h.r r hr
    rcases scopeOK_cases h4 with ⟨_, _, h5⟩ | ⟨_, _, _, h5⟩ | ⟨_, hv⟩
    · rw [h5]; simp
    · rw [h5]; simp
    · have := validT_bounds hv; omega
  · obtain ⟨_, h2, h3⟩ := h.x x hx
    have h4 := validT_bounds h2
    have h5 : x.sect.length ≤ 3 := (show ∀ s ∈ sects4, s.length ≤ 3 by decide) _ h3
    exact ⟨by omega, by omega⟩

theorem policySpoiled_law (e : Nat) (a : Option Addr) (c : Nat) (l : List Int) (how n : Int) (hl : l.length ≤ maxLen) : FnS Tryz.prog 3 [.c (.sl a l.length c), .c (.i .i64 how), .c (.i .i64 n)] [] [slFact e 1 a l.length (l.map (C.i .i64)), gInt 0] (Is tt) := by
  have c0 := new_ok a l.length c
  have c1 := fun tad => tapePolicy_ok e a c tad 0 l (Nat.zero_le _) hl
  have h16 := andU n 65535 (by decide) (by omega) (by omega)
  obtain ⟨at16, hat16, hat16l⟩ := h16
  refine fn_of_J Tryz.tyOK 0 Tryz.func3 (by kernel_rfl) (c := Tryz.f3.body.getD .skip) (by kernel_rfl) Tryz.ntmps3 (rs := Tryz.f3.results.toList) rfl (by simp) (fun G => ?_)
  repeat' first
    | refine J_stop (c := .seq (.region 3 _ _) _) ?_
    | refine J_seq ?_ | refine J_region Tryz.tyOK ?_ | refine J_block ?_ | refine J_cond ?_ | refine J_ret ?_ | refine J_skip ?_ | refine J_exit ?_ | refine J_scope ?_
    | refine CondP.yes (by omega) ?_ | refine CondP.no (by omega) ?_ | refine CondP.mk (fun h => ?_) (fun h => ?_) | refine EqP.mk rfl ?_ | refine NewP.mk (fun ad => ?_) | refine ArP.exact (by simp only [inR]; omega) ?_ | refine SideP.mk (by first | omega | (dsimp only; omega) | (simp; omega)) ?_
    | refine CallP.mk [] _ [] _ c0 (List.Perm.refl _) (fun m h => trivial) (fun v L' D' hp => ?_); obtain ⟨tad, rfl, rfl, rfl⟩ := hp | refine CallP.mk [_] [] [_] _ (c1 _) (List.Perm.refl _) (fun m h => ⟨h.1, trivial⟩) (fun v L' D' hp => ?_); obtain ⟨nn, p, at', hat', hT, hgc, rfl, rfl, rfl⟩ := hp
    | fail
  have hgl : p.gs.length ≤ 3 := by
    have := congrArg List.length hT.nm
    simp only [nms, PolM.p3, gpOf, List.length_map, List.length_take] at this
    have h3 : names3.length = 3 := rfl
    omega
  have hr1 := hT.r1
  have hr7 := hT.r7
  have hx3 := hT.x3
  dsimp only [PolM.p3] at hr1 hr7 hx3
  have hok := PolOK.ofTape hT hgc hgl
  have hgsl : (gsC p.gs).length = p.gs.length * 2 := flat_len (F := GrpM.cells) (z := 2) (fun _ => rfl) p.gs
  have hxsl : (xsC p.xs).length = p.xs.length * 5 := flat_len (F := Grd.cells) (z := 5) (fun _ => rfl) p.xs
  refine ⟨?_⟩
  repeat' first
    | refine J_stop (c := .seq (.region 7 _ _) _) ?_
    | refine J_seq ?_ | refine J_region Tryz.tyOK ?_ | refine J_block ?_ | refine J_cond ?_ | refine J_ret ?_ | refine J_skip ?_ | refine J_exit ?_ | refine J_scope ?_
    | refine CondP.yes (by omega) ?_ | refine CondP.no (by omega) ?_ | refine CondP.mk (fun h => ?_) (fun h => ?_) | refine EqP.mk rfl ?_ | refine NewP.mk (fun ad => ?_) | refine ArP.exact (by simp only [inR]; omega) ?_ | refine SideP.mk (by first | omega | (dsimp only; omega) | (simp; omega)) ?_
    | refine AppE.nil (gsC p.gs) p.gs.length rfl rfl rfl (SrcE.sl 0 35 _ _ _ _ _ rfl rfl (.inr fun m h => h.1) hgsl) (by dsimp only; omega) (fun ga gc => ?_) | refine AppE.nil (xsC p.xs) p.xs.length rfl rfl rfl (SrcE.sl 0 45 _ _ _ _ _ rfl rfl (.inr fun m h => h.2.2.1) hxsl) (by dsimp only; omega) (fun xa xc => ?_) | refine CallP.is known12_ok ?_ (fun m h => ⟨h.2.2.2.2.1, trivial⟩) | refine FinE.bool rfl
    | fail
  rename_i hg0
  have hx0 := h
  have hr0 : 0 < p.rs.length := hr1
  obtain ⟨j1, hj1, hm1⟩ := tmodU hat16 (show 0 < p.gs.length by omega)
  obtain ⟨j2, hj2, hm2⟩ := tmodU hat16 hr0
  obtain ⟨j3, hj3, hm3⟩ := tmodU hat16 (show 0 < p.xs.length by omega)
  have hgm2 := (hT.g (p.gs[j1].name, p.gs[j1].mem) (List.mem_map.2 ⟨_, List.getElem_mem hj1, rfl⟩)).1
  dsimp only at hgm2
  have hgb := hok.gb _ (List.getElem_mem hj1)
  have hrb := hok.rb _ (List.getElem_mem hj2)
  have hxb := hok.xb _ (List.getElem_mem hj3)
  have hmem : ∀ m, allD m [memsF p.gs, gInt 0] → SlF m 0 1 p.gs[j1].a p.gs[j1].mem.length (p.gs[j1].mem.map C.s) := fun m h => h.1 _ (List.getElem_mem hj1)
  have hld : ((gsC p.gs).drop (((bitsV .and .i64 n 65535).tmod (p.gs.length : Int)).toNat * 2 + (0 + 1))).take 1 = [C.sl p.gs[j1].a p.gs[j1].mem.length p.gs[j1].c] := by
    rw [hm1, gsC]
    show ((p.gs.flatMap GrpM.cells).drop (j1 * 2 + (0 + 1))).take 1 = _
    rw [flat_get (F := GrpM.cells) (z := 2) (fun _ => rfl) hj1 (by omega)]; rfl
  have hs0 : ∀ x, setC (((bitsV .and .i64 n 65535).tmod (p.gs.length : Int)).toNat * 2 + (0 + 0)) [C.s x] (gsC p.gs) = gsC (p.gs.set j1 ⟨x, p.gs[j1].a, p.gs[j1].c, p.gs[j1].mem⟩) := fun x => by
    rw [hm1]; exact setC_flat (F := GrpM.cells) (z := 2) (fun _ => rfl) hj1 (by rw [List.length_singleton]; omega) rfl
  have hs1 : ∀ a c (xs : List Bs), setC (((bitsV .and .i64 n 65535).tmod (p.gs.length : Int)).toNat * 2 + (0 + 1)) [C.sl a xs.length c] (gsC p.gs) = gsC (p.gs.set j1 ⟨p.gs[j1].name, a, c, xs⟩) := fun a c xs => by
    rw [hm1]; exact setC_flat (F := GrpM.cells) (z := 2) (fun _ => rfl) hj1 (by rw [List.length_singleton]; omega) rfl
  have hs1' : ∀ a c (x : Bs), setC (((bitsV .and .i64 n 65535).tmod (p.gs.length : Int)).toNat * 2 + (0 + 1)) [C.sl a (p.gs[j1].mem.length + 1) c] (gsC p.gs) = gsC (p.gs.set j1 ⟨p.gs[j1].name, a, c, p.gs[j1].mem ++ [x]⟩) := fun a c x => by
    have := hs1 a c (p.gs[j1].mem ++ [x])
    rwa [List.length_append, List.length_singleton] at this
  have hr1' : ∀ x, setC (((bitsV .and .i64 n 65535).tmod (p.rs.length : Int)).toNat * 6 + (0 + 1)) [C.i .i64 x] (rsC p.rs) = rsC (p.rs.set j2 ⟨p.rs[j2].allow, x, p.rs[j2].group, p.rs[j2].kind, p.rs[j2].sp, p.rs[j2].nm⟩) := fun x => by
    rw [hm2]; exact setC_flat (F := Rul.cells) (z := 6) (fun _ => rfl) hj2 (by rw [List.length_singleton]; omega) rfl
  have hr2' : ∀ x, setC (((bitsV .and .i64 n 65535).tmod (p.rs.length : Int)).toNat * 6 + (0 + 2)) [C.s x] (rsC p.rs) = rsC (p.rs.set j2 ⟨p.rs[j2].allow, p.rs[j2].right, x, p.rs[j2].kind, p.rs[j2].sp, p.rs[j2].nm⟩) := fun x => by
    rw [hm2]; exact setC_flat (F := Rul.cells) (z := 6) (fun _ => rfl) hj2 (by rw [List.length_singleton]; omega) rfl
  have hr3' : ∀ x, setC (((bitsV .and .i64 n 65535).tmod (p.rs.length : Int)).toNat * 6 + (0 + 3 + 0)) [C.i .i64 x] (rsC p.rs) = rsC (p.rs.set j2 ⟨p.rs[j2].allow, p.rs[j2].right, p.rs[j2].group, x, p.rs[j2].sp, p.rs[j2].nm⟩) := fun x => by
    rw [hm2]; exact setC_flat (F := Rul.cells) (z := 6) (fun _ => rfl) hj2 (by rw [List.length_singleton]; omega) rfl
  have hr4' : ∀ x, setC (((bitsV .and .i64 n 65535).tmod (p.rs.length : Int)).toNat * 6 + (0 + 3 + 1 + 0)) [C.i .i64 x] (rsC p.rs) = rsC (p.rs.set j2 ⟨p.rs[j2].allow, p.rs[j2].right, p.rs[j2].group, p.rs[j2].kind, x, p.rs[j2].nm⟩) := fun x => by
    rw [hm2]; exact setC_flat (F := Rul.cells) (z := 6) (fun _ => rfl) hj2 (by rw [List.length_singleton]; omega) rfl
  have hr5' : ∀ x, setC (((bitsV .and .i64 n 65535).tmod (p.rs.length : Int)).toNat * 6 + (0 + 3 + 1 + 1)) [C.s x] (rsC p.rs) = rsC (p.rs.set j2 ⟨p.rs[j2].allow, p.rs[j2].right, p.rs[j2].group, p.rs[j2].kind, p.rs[j2].sp, x⟩) := fun x => by
    rw [hm2]; exact setC_flat (F := Rul.cells) (z := 6) (fun _ => rfl) hj2 (by rw [List.length_singleton]; omega) rfl
  have hx1' : ∀ x, setC (((bitsV .and .i64 n 65535).tmod (p.xs.length : Int)).toNat * 5 + (0 + 1)) [C.s x] (xsC p.xs) = xsC (p.xs.set j3 ⟨p.xs[j3].strict, x, p.xs[j3].sp, p.xs[j3].nm, p.xs[j3].sect⟩) := fun x => by
    rw [hm3]; exact setC_flat (F := Grd.cells) (z := 5) (fun _ => rfl) hj3 (by rw [List.length_singleton]; omega) rfl
  have hx3' : ∀ x, setC (((bitsV .and .i64 n 65535).tmod (p.xs.length : Int)).toNat * 5 + (0 + 2 + 1)) [C.s x] (xsC p.xs) = xsC (p.xs.set j3 ⟨p.xs[j3].strict, p.xs[j3].group, p.xs[j3].sp, x, p.xs[j3].sect⟩) := fun x => by
    rw [hm3]; exact setC_flat (F := Grd.cells) (z := 5) (fun _ => rfl) hj3 (by rw [List.length_singleton]; omega) rfl
  have hx4' : ∀ x, setC (((bitsV .and .i64 n 65535).tmod (p.xs.length : Int)).toNat * 5 + (0 + 4)) [C.s x] (xsC p.xs) = xsC (p.xs.set j3 ⟨p.xs[j3].strict, p.xs[j3].group, p.xs[j3].sp, p.xs[j3].nm, x⟩) := fun x => by
    rw [hm3]; exact setC_flat (F := Grd.cells) (z := 5) (fun _ => rfl) hj3 (by rw [List.length_singleton]; omega) rfl
  generalize p.gs[j1] = g at *
  generalize p.rs[j2] = r at *
  generalize p.xs[j3] = x at *
  refine ⟨?_⟩
  refine J_ent (n' := 1) (env' := [(1, .c (.i .i64 how)), (2, .c (.i .i64 n)), (7, .c (.p 0 ad 0)), (8, .c (.i .i64 (bitsV .and .i64 n 65535)))]) (L' := [.row 45 5 xa p.xs.length xc (xsC p.xs), .row 35 2 ga p.gs.length gc (gsC p.gs), .box 0 ad 27 [.sl ga p.gs.length gc, .sl p.ra p.rs.length p.rc, .sl xa p.xs.length xc], .row 42 6 p.ra p.rs.length p.rc (rsC p.rs)]) (D' := [memsF p.gs, gInt 0])
    (by repeat' first | exact SubE.nil | refine SubE.cons rfl ?_ ?_ | exact VEq.refl _ | refine VEq.int (by omega) | refine VEq.sl rfl (by first | rfl | omega | (rw [List.length_append]; rfl) | (simp; omega)) rfl) (Ents.ofSub (.cons_cons _ (.cons_cons _ (.cons_cons _ (.cons _ (.cons_cons _ .slnil))))) (fun m h => ⟨h.2.1, h.2.2.2.2.1, trivial⟩)) ?_
  refine J_cap (List.Mem.tail _ (List.Mem.head _)) (fun hnc _ _ => ?_)
  have hokG : ∀ g' : GrpM, (g'.name.length ≤ 9223372036854775807 ∧ g'.mem.length ≤ 9223372036854775807 ∧ ∀ m ∈ g'.mem, m.length ≤ 9223372036854775807) → PolOK ⟨ga, gc, p.gs.set j1 g', p.ra, p.rc, p.rs, xa, xc, p.xs⟩ := fun g' hg' =>
    ⟨by rw [List.length_set]; exact hnc, by rw [List.length_set]; exact hok.gl, hok.rl, hok.xl, set_ok hok.gb hg', hok.rb, hok.xb⟩
  have hokR : ∀ r' : Rul, r'.nm.length ≤ 9223372036854775807 → PolOK ⟨ga, gc, p.gs, p.ra, p.rc, p.rs.set j2 r', xa, xc, p.xs⟩ := fun r' hr' =>
    ⟨hnc, hok.gl, by rw [List.length_set]; exact hok.rl, hok.xl, hok.gb, set_ok hok.rb hr', hok.xb⟩
  have hokX : ∀ x' : Grd, (x'.nm.length ≤ 9223372036854775807 ∧ x'.sect.length ≤ 9223372036854775807) → PolOK ⟨ga, gc, p.gs, p.ra, p.rc, p.rs, xa, xc, p.xs.set j3 x'⟩ := fun x' hx' =>
    ⟨hnc, hok.gl, hok.rl, by rw [List.length_set]; exact hok.xl, hok.gb, hok.rb, set_ok hok.xb hx'⟩
  have hok0 : PolOK ⟨ga, gc, p.gs, p.ra, p.rc, p.rs, xa, xc, p.xs⟩ := ⟨hnc, hok.gl, hok.rl, hok.xl, hok.gb, hok.rb, hok.xb⟩
  have hok11 : ∀ {ra : Option Addr} {rc : Nat}, PolOK ⟨ga, gc, p.gs, ra, rc, List.replicate 65 ⟨false, 0, [], 0, 0, []⟩, xa, xc, p.xs⟩ := ⟨hnc, hok.gl, by rw [List.length_replicate]; omega, hok.xl, hok.gb, fun r hr => by rw [List.eq_of_mem_replicate hr]; simp, hok.xb⟩
  have hrep : (List.replicate 25 ([] : Bs)).length ≤ 9223372036854775807 ∧ ∀ m ∈ List.replicate 25 ([] : Bs), m.length ≤ 9223372036854775807 := ⟨by decide, fun m hm => by rw [List.eq_of_mem_replicate hm]; simp⟩
  have hn1 : ∀ {y : Bs}, (g.mem ++ [y]).length ≤ 9223372036854775807 := by intro y; rw [List.length_append, List.length_singleton]; omega
  have hm1' : ∀ k, ∀ m ∈ g.mem ++ [lit1.getD k []], m.length ≤ 9223372036854775807 := fun k m hm => by
    rcases List.mem_append.1 hm with h1 | h1
    · exact hgb.2.2 m h1
    · rw [List.mem_singleton.1 h1]
      have := lit_le (xs := lit1) (by decide) k
      omega
  have hle5 : ∀ {k : Nat}, k ≤ 5 → k ≤ 9223372036854775807 := fun h => by omega
  repeat' first
    | refine J_cut (x := .seq (.region 8 _ _) _) (α := PolM) (fun _ => [(7, .c (.p 0 ad 0))]) (fun q => [.box 0 ad 27 q.cells]) (fun q => gInt 0 :: q.facts) 1 (fun q => PolOK q) (J_stop ?_) (fun q hq => J_stop ?_)
    | refine J_seq ?_ | refine J_region Tryz.tyOK ?_ | refine J_block ?_ | refine J_cond ?_ | refine J_ret ?_ | refine J_skip ?_ | refine J_exit ?_ | refine J_scope ?_
    | refine CondP.yes (by omega) ?_ | refine CondP.no (by omega) ?_ | refine CondP.mk (fun h => ?_) (fun h => ?_) | refine EqP.mk rfl ?_ | refine NewP.mk (fun ad => ?_) | refine ArP.exact (by simp only [inR]; omega) ?_ | refine SideP.mk (by first | omega | (dsimp only; omega) | (simp; omega)) ?_
    | refine J_drawS (id := 7) Tryz.tyOK (by kernel_rfl) [0, 1, 0, 0, 8, 24, 60, 127, 0, 256, 0, 0, 2048, 6144, 15360, 32512, 0, 65536, 0, 0, 524288, 1572864, 3932160, 8323072, 255, 16842751, 67108863] [0, 1, 2, 3, 4, 5, 6, 7, 8, 9, 10, 11, 12, 13, 14, 15, 16, 17, 18, 19, 20, 21, 22, 23, 24, 25, 26] [] [7] true (by kernel_rfl) ?_ | refine J_drawP (id := 12) Tryz.tyOK (by kernel_rfl) [0, 0, 2, 6, 14, 30, 0, 0, 128, 384, 960, 1984, 4032, 8190, 16383, 32767, 65535] (.node [0, 1, 2, 3, 4, 7, 8, 9] 5 (.leaf [6, 10, 11, 12, 13, 14, 15, 16]) 6 (.node [] 5 (.leaf [10, 11, 12, 13, 14, 15, 16]) 10 (.node [] 5 (.leaf [11, 12, 13, 14, 15, 16]) 11 (.node [] 5 (.leaf [12, 13, 14, 15, 16]) 12 (.leaf [5, 13, 14, 15, 16]))))) [5, 6, 10, 11, 12, 13, 16] [9] 16 false (by kernel_rfl) ?_ | refine TwoP.mk ?_ ?_ | refine J_drawS (id := 33) Tryz.tyOK (by kernel_rfl) [0, 1, 0, 7, 15, 31, 63, 127, 255] [0, 1, 2, 3, 4, 5, 6, 7, 8] [] [7] true (by kernel_rfl) ?_ | refine EntP.mk (Ents.ofSub (by repeat (first | exact List.Sublist.slnil | refine List.Sublist.cons_cons _ ?_ | refine List.Sublist.cons _ ?_)) (by first | exact fun _ h => h | exact fun _ _ => trivial | exact fun _ h => h.2 | exact fun _ h => h.2.2.2.2 | exact fun _ h => ((allD_append _ _).1 h).2)) ?_ | refine ArP.exact (by simp only [inR, hm1]; omega) ?_ | refine ArP.exact (by simp only [inR, hm2]; omega) ?_ | refine ArP.exact (by simp only [inR, hm3]; omega) ?_ | refine IdxE.mk 45 5 _ (.inl ⟨xc, List.Mem.head _⟩) (by rw [hm3]; omega) (by rw [hm3]; omega) ?_ | refine IdxE.mk 35 2 _ (.inl ⟨gc, List.Mem.tail _ (List.Mem.head _)⟩) (by rw [hm1]; omega) (by rw [hm1]; omega) ?_ | refine IdxE.mk 42 6 _ (.inl ⟨p.rc, List.Mem.tail _ (List.Mem.tail _ (List.Mem.tail _ (List.Mem.head _)))⟩) (by rw [hm2]; omega) (by rw [hm2]; omega) ?_
    | fail
  · refine ⟨?_⟩
    repeat' first
      | refine J_stop (c := .region 10 _ _) ?_ | refine J_stop (c := .region 12 _ _) ?_ | refine J_stop (c := .region 14 _ _) ?_ | refine J_stop (c := .region 16 _ _) ?_ | refine J_stop (c := .region 18 _ _) ?_ | refine J_stop (c := .region 20 _ _) ?_ | refine J_stop (c := .region 22 _ _) ?_ | refine J_stop (c := .region 24 _ _) ?_ | refine J_stop (c := .region 26 _ _) ?_ | refine J_stop (c := .region 28 _ _) ?_ | refine J_stop (c := .region 30 _ _) ?_ | refine J_stop (c := .region 32 _ _) ?_
      | refine J_seq ?_ | refine J_region Tryz.tyOK ?_ | refine J_block ?_ | refine J_cond ?_ | refine J_ret ?_ | refine J_skip ?_ | refine J_exit ?_ | refine J_scope ?_
      | refine CondP.yes (by omega) ?_ | refine CondP.no (by omega) ?_ | refine CondP.mk (fun h => ?_) (fun h => ?_) | refine EqP.mk rfl ?_ | refine NewP.mk (fun ad => ?_) | refine ArP.exact (by simp only [inR]; omega) ?_ | refine SideP.mk (by first | omega | (dsimp only; omega) | (simp; omega)) ?_
      | fail
    · refine ⟨?_⟩
      refine J_ent (n' := 1) (env' := [(2, .c (.i .i64 n)), (7, .c (.p 0 ad 0)), (9, .c (.e ga 2 ((bitsV .and .i64 n 65535).tmod (p.gs.length : Int)) 0))]) (by repeat' first | exact SubE.nil | refine SubE.cons rfl ?_ ?_ | exact VEq.refl _ | refine VEq.int (by omega) | refine VEq.sl rfl (by first | rfl | omega | (rw [List.length_append]; rfl) | (simp; omega)) rfl) (Ents.refl _ _) ?_
      repeat' first
        | refine J_seq ?_ | refine J_region Tryz.tyOK ?_ | refine J_block ?_ | refine J_cond ?_ | refine J_ret ?_ | refine J_skip ?_ | refine J_exit ?_ | refine J_scope ?_
        | refine CondP.yes (by omega) ?_ | refine CondP.no (by omega) ?_ | refine CondP.mk (fun h => ?_) (fun h => ?_) | refine EqP.mk rfl ?_ | refine NewP.mk (fun ad => ?_) | refine ArP.exact (by simp only [inR]; omega) ?_ | refine SideP.mk (by first | omega | (dsimp only; omega) | (simp; omega)) ?_
        | refine FldE.mk 35 2 _ _ (.inl ⟨_, by repeat (first | exact List.Mem.head _ | apply List.Mem.tail)⟩) (by omega) ?_ | refine IdxE.mk 9 1 _ (.inl ⟨_, by repeat (first | exact List.Mem.head _ | apply List.Mem.tail)⟩) (and3_0 _) (and3_lt _ (by decide)) ?_ | refine LoadE.mk 9 _ _ _ (.inl ⟨_, by repeat (first | exact List.Mem.head _ | apply List.Mem.tail)⟩) (and3_0 _) (and3_lt _ (by decide)) (by decide) (lit_at lit0 _ (and3_0 _) (and3_lt _ (by decide))) ?_ | refine StoreE.mk [_, _] _ _ _ _ _ _ rfl (by rw [hm1]; omega) (by rw [hm1]; omega) (Nat.le_of_ble_eq_true rfl) (hs0 _) ?_
        | fail
      exact spEnd Ents.drop (fun m h => ⟨set_ok (P := fun g : GrpM => SlF m 0 1 g.a g.mem.length (g.mem.map C.s)) h.1 (hmem m h), h.2⟩) List.length_set rfl rfl (hokG _ ⟨hle5 (lit_le (by decide) _), hgb.2.1, hgb.2.2⟩) (by repeat' first | exact SubE.nil | refine SubE.cons rfl ?_ ?_ | exact VEq.refl _ | refine VEq.int (by omega) | refine VEq.sl rfl (by first | rfl | omega | (rw [List.length_append]; rfl) | (simp; omega)) rfl)
    · refine ⟨?_⟩
      refine J_ent (n' := 1) (env' := [(2, .c (.i .i64 n)), (7, .c (.p 0 ad 0)), (9, .c (.e ga 2 ((bitsV .and .i64 n 65535).tmod (p.gs.length : Int)) 0))]) (by repeat' first | exact SubE.nil | refine SubE.cons rfl ?_ ?_ | exact VEq.refl _ | refine VEq.int (by omega) | refine VEq.sl rfl (by first | rfl | omega | (rw [List.length_append]; rfl) | (simp; omega)) rfl) (Ents.refl _ _) ?_
      repeat' first
        | refine J_seq ?_ | refine J_region Tryz.tyOK ?_ | refine J_block ?_ | refine J_cond ?_ | refine J_ret ?_ | refine J_skip ?_ | refine J_exit ?_ | refine J_scope ?_
        | refine CondP.yes (by omega) ?_ | refine CondP.no (by omega) ?_ | refine CondP.mk (fun h => ?_) (fun h => ?_) | refine EqP.mk rfl ?_ | refine NewP.mk (fun ad => ?_) | refine ArP.exact (by simp only [inR]; omega) ?_ | refine SideP.mk (by first | omega | (dsimp only; omega) | (simp; omega)) ?_
        | refine J_drawS (id := 7) Tryz.tyOK (by kernel_rfl) [0, 1, 0, 0, 8, 24, 60, 127, 0, 256, 0, 0, 2048, 6144, 15360, 32512, 0, 65536, 0, 0, 524288, 1572864, 3932160, 8323072, 255, 16842751, 67108863] [0, 1, 2, 3, 4, 5, 6, 7, 8, 9, 10, 11, 12, 13, 14, 15, 16, 17, 18, 19, 20, 21, 22, 23, 24, 25, 26] [] [7] true (by kernel_rfl) ?_ | refine J_drawP (id := 12) Tryz.tyOK (by kernel_rfl) [0, 0, 2, 6, 14, 30, 0, 0, 128, 384, 960, 1984, 4032, 8190, 16383, 32767, 65535] (.node [0, 1, 2, 3, 4, 7, 8, 9] 5 (.leaf [6, 10, 11, 12, 13, 14, 15, 16]) 6 (.node [] 5 (.leaf [10, 11, 12, 13, 14, 15, 16]) 10 (.node [] 5 (.leaf [11, 12, 13, 14, 15, 16]) 11 (.node [] 5 (.leaf [12, 13, 14, 15, 16]) 12 (.leaf [5, 13, 14, 15, 16]))))) [5, 6, 10, 11, 12, 13, 16] [9] 16 true (by kernel_rfl) ?_ | refine TwoP.mk ?_ ?_ | refine J_drawS (id := 33) Tryz.tyOK (by kernel_rfl) [0, 1, 0, 7, 15, 31, 63, 127, 255] [0, 1, 2, 3, 4, 5, 6, 7, 8] [] [7] true (by kernel_rfl) ?_ | refine EntP.mk (Ents.ofSub (by repeat (first | exact List.Sublist.slnil | refine List.Sublist.cons_cons _ ?_ | refine List.Sublist.cons _ ?_)) (by first | exact fun _ h => h | exact fun _ _ => trivial | exact fun _ h => h.2 | exact fun _ h => h.2.2.2.2 | exact fun _ h => ((allD_append _ _).1 h).2)) ?_ | refine FldE.mk 35 2 _ _ (.inl ⟨_, by repeat (first | exact List.Mem.head _ | apply List.Mem.tail)⟩) (by omega) ?_ | refine IdxE.mk 9 1 _ (.inl ⟨_, by repeat (first | exact List.Mem.head _ | apply List.Mem.tail)⟩) (and3_0 _) (and3_lt _ (by decide)) ?_ | refine LoadE.mk 9 _ _ _ (.inl ⟨_, by repeat (first | exact List.Mem.head _ | apply List.Mem.tail)⟩) (and3_0 _) (and3_lt _ (by decide)) (by decide) (lit_at lit1 _ (and3_0 _) (and3_lt _ (by decide))) ?_ | refine LoadE.mk 35 _ _ _ (.inl ⟨_, by repeat (first | exact List.Mem.head _ | apply List.Mem.tail)⟩) (by rw [hm1]; omega) (by rw [hm1]; omega) (by decide) hld ?_ | refine AppE.nil (g.mem.map C.s) g.mem.length rfl rfl rfl (SrcE.sl 0 9 _ _ _ _ _ rfl rfl (.inr hmem) (by simp)) (by dsimp only; omega) (fun a5 c5 => ?_) | refine AppE.row [] _ (g.mem.map C.s) [C.s (lit1.getD (bitsV .and .i64 (n.fdiv (2 ^ min (Int.toNat 16) IntKind.i64.bits)) 3).toNat [])] 1 rfl (SrcE.sl 9 9 _ _ 1 1 _ rfl rfl (.inl ⟨_, by repeat (first | exact List.Mem.head _ | apply List.Mem.tail)⟩) rfl) (by dsimp only; omega) (fun a6 c6 => ?_) | refine AppE.row [_] _ (g.mem.map C.s) [C.s (lit1.getD (bitsV .and .i64 (n.fdiv (2 ^ min (Int.toNat 16) IntKind.i64.bits)) 3).toNat [])] 1 rfl (SrcE.sl 9 9 _ _ 1 1 _ rfl rfl (.inl ⟨_, by repeat (first | exact List.Mem.head _ | apply List.Mem.tail)⟩) rfl) (by dsimp only; omega) (fun a6 c6 => ?_) | refine AppE.row [_, _] _ (g.mem.map C.s) [C.s (lit1.getD (bitsV .and .i64 (n.fdiv (2 ^ min (Int.toNat 16) IntKind.i64.bits)) 3).toNat [])] 1 rfl (SrcE.sl 9 9 _ _ 1 1 _ rfl rfl (.inl ⟨_, by repeat (first | exact List.Mem.head _ | apply List.Mem.tail)⟩) rfl) (by dsimp only; omega) (fun a6 c6 => ?_) | refine StoreE.mk [_, _, _, _] _ _ _ _ _ _ rfl (by rw [hm1]; omega) (by rw [hm1]; omega) (Nat.le_of_ble_eq_true rfl) (hs1' _ _ (lit1.getD (bitsV .and .i64 (n.fdiv (2 ^ min (Int.toNat 16) IntKind.i64.bits)) 3).toNat [])) ?_
        | fail
      all_goals first
        | exact spEnd (Ents.drop.trans (Ents.drop.trans Ents.toFact)) (fun m h => ⟨set_ok (P := fun g : GrpM => SlF m 0 1 g.a g.mem.length (g.mem.map C.s)) h.2.1 (mem_new (e := 0) h.1), h.2.2⟩) List.length_set rfl rfl (hokG _ ⟨hgb.1, hn1, hm1' _⟩) (by repeat' first | exact SubE.nil | refine SubE.cons rfl ?_ ?_ | exact VEq.refl _ | refine VEq.int (by omega) | refine VEq.sl rfl (by first | rfl | omega | (rw [List.length_append]; rfl) | (simp; omega)) rfl)
        | exact spEnd (Ents.drop.trans (Ents.toFact.trans Ents.drop)) (fun m h => ⟨set_ok (P := fun g : GrpM => SlF m 0 1 g.a g.mem.length (g.mem.map C.s)) h.2.1 (mem_new (e := 0) h.1), h.2.2⟩) List.length_set rfl rfl (hokG _ ⟨hgb.1, hn1, hm1' _⟩) (by repeat' first | exact SubE.nil | refine SubE.cons rfl ?_ ?_ | exact VEq.refl _ | refine VEq.int (by omega) | refine VEq.sl rfl (by first | rfl | omega | (rw [List.length_append]; rfl) | (simp; omega)) rfl)
        | exact spEnd (Ents.toFact.trans (Ents.drop.trans Ents.drop)) (fun m h => ⟨set_ok (P := fun g : GrpM => SlF m 0 1 g.a g.mem.length (g.mem.map C.s)) h.2.1 (mem_new (e := 0) h.1), h.2.2⟩) List.length_set rfl rfl (hokG _ ⟨hgb.1, hn1, hm1' _⟩) (by repeat' first | exact SubE.nil | refine SubE.cons rfl ?_ ?_ | exact VEq.refl _ | refine VEq.int (by omega) | refine VEq.sl rfl (by first | rfl | omega | (rw [List.length_append]; rfl) | (simp; omega)) rfl)
        | fail
    · refine ⟨?_⟩
      refine J_ent (n' := 1) (env' := [(2, .c (.i .i64 n)), (7, .c (.p 0 ad 0)), (9, .c (.e ga 2 ((bitsV .and .i64 n 65535).tmod (p.gs.length : Int)) 0))]) (by repeat' first | exact SubE.nil | refine SubE.cons rfl ?_ ?_ | exact VEq.refl _ | refine VEq.int (by omega) | refine VEq.sl rfl (by first | rfl | omega | (rw [List.length_append]; rfl) | (simp; omega)) rfl) (Ents.refl _ _) ?_
      repeat' first
        | refine J_seq ?_ | refine J_region Tryz.tyOK ?_ | refine J_block ?_ | refine J_cond ?_ | refine J_ret ?_ | refine J_skip ?_ | refine J_exit ?_ | refine J_scope ?_
        | refine CondP.yes (by omega) ?_ | refine CondP.no (by omega) ?_ | refine CondP.mk (fun h => ?_) (fun h => ?_) | refine EqP.mk rfl ?_ | refine NewP.mk (fun ad => ?_) | refine ArP.exact (by simp only [inR]; omega) ?_ | refine SideP.mk (by first | omega | (dsimp only; omega) | (simp; omega)) ?_
        | refine FldE.mk 35 2 _ _ (.inl ⟨_, by repeat (first | exact List.Mem.head _ | apply List.Mem.tail)⟩) (by omega) ?_ | refine StoreE.mk [_, _] _ _ _ _ _ _ rfl (by rw [hm1]; omega) (by rw [hm1]; omega) (Nat.le_of_ble_eq_true rfl) (hs1 _ _ (List.replicate 25 [])) ?_
        | fail
      exact spEnd Ents.toFact (fun m h => ⟨set_ok (P := fun g : GrpM => SlF m 0 1 g.a g.mem.length (g.mem.map C.s)) h.2.1 h.1, h.2.2⟩) List.length_set rfl rfl (hokG _ ⟨hgb.1, hrep.1, hrep.2⟩) (by repeat' first | exact SubE.nil | refine SubE.cons rfl ?_ ?_ | exact VEq.refl _ | refine VEq.int (by omega) | refine VEq.sl rfl (by first | rfl | omega | (rw [List.length_append]; rfl) | (simp; omega)) rfl)
    · refine ⟨?_⟩
      refine J_ent (n' := 1) (env' := [(2, .c (.i .i64 n)), (7, .c (.p 0 ad 0)), (10, .c (.e p.ra 6 ((bitsV .and .i64 n 65535).tmod (p.rs.length : Int)) 0))]) (by repeat' first | exact SubE.nil | refine SubE.cons rfl ?_ ?_ | exact VEq.refl _ | refine VEq.int (by omega) | refine VEq.sl rfl (by first | rfl | omega | (rw [List.length_append]; rfl) | (simp; omega)) rfl) (Ents.refl _ _) ?_
      repeat' first
        | refine J_seq ?_ | refine J_region Tryz.tyOK ?_ | refine J_block ?_ | refine J_cond ?_ | refine J_ret ?_ | refine J_skip ?_ | refine J_exit ?_ | refine J_scope ?_
        | refine CondP.yes (by omega) ?_ | refine CondP.no (by omega) ?_ | refine CondP.mk (fun h => ?_) (fun h => ?_) | refine EqP.mk rfl ?_ | refine NewP.mk (fun ad => ?_) | refine ArP.exact (by simp only [inR]; omega) ?_ | refine SideP.mk (by first | omega | (dsimp only; omega) | (simp; omega)) ?_
        | refine FldE.mk 42 6 _ _ (.inl ⟨_, by repeat (first | exact List.Mem.head _ | apply List.Mem.tail)⟩) (by omega) ?_ | refine StoreE.mk [_, _, _] _ _ _ _ _ _ rfl (by rw [hm2]; omega) (by rw [hm2]; omega) (Nat.le_of_ble_eq_true rfl) (hr1' _) ?_
        | fail
      exact spEnd (Ents.refl _ _) (fun _ h => h) rfl List.length_set rfl (hokR _ hrb) (by repeat' first | exact SubE.nil | refine SubE.cons rfl ?_ ?_ | exact VEq.refl _ | refine VEq.int (by omega) | refine VEq.sl rfl (by first | rfl | omega | (rw [List.length_append]; rfl) | (simp; omega)) rfl)
    · refine ⟨?_⟩
      refine J_ent (n' := 1) (env' := [(2, .c (.i .i64 n)), (7, .c (.p 0 ad 0)), (10, .c (.e p.ra 6 ((bitsV .and .i64 n 65535).tmod (p.rs.length : Int)) 0))]) (by repeat' first | exact SubE.nil | refine SubE.cons rfl ?_ ?_ | exact VEq.refl _ | refine VEq.int (by omega) | refine VEq.sl rfl (by first | rfl | omega | (rw [List.length_append]; rfl) | (simp; omega)) rfl) (Ents.refl _ _) ?_
      repeat' first
        | refine J_seq ?_ | refine J_region Tryz.tyOK ?_ | refine J_block ?_ | refine J_cond ?_ | refine J_ret ?_ | refine J_skip ?_ | refine J_exit ?_ | refine J_scope ?_
        | refine CondP.yes (by omega) ?_ | refine CondP.no (by omega) ?_ | refine CondP.mk (fun h => ?_) (fun h => ?_) | refine EqP.mk rfl ?_ | refine NewP.mk (fun ad => ?_) | refine ArP.exact (by simp only [inR]; omega) ?_ | refine SideP.mk (by first | omega | (dsimp only; omega) | (simp; omega)) ?_
        | refine FldE.mk 42 6 _ _ (.inl ⟨_, by repeat (first | exact List.Mem.head _ | apply List.Mem.tail)⟩) (by omega) ?_ | refine StoreE.mk [_, _, _] _ _ _ _ _ _ rfl (by rw [hm2]; omega) (by rw [hm2]; omega) (Nat.le_of_ble_eq_true rfl) (hr2' _) ?_
        | fail
      exact spEnd (Ents.refl _ _) (fun _ h => h) rfl List.length_set rfl (hokR _ hrb) (by repeat' first | exact SubE.nil | refine SubE.cons rfl ?_ ?_ | exact VEq.refl _ | refine VEq.int (by omega) | refine VEq.sl rfl (by first | rfl | omega | (rw [List.length_append]; rfl) | (simp; omega)) rfl)
    · refine ⟨?_⟩
      refine J_ent (n' := 1) (env' := [(2, .c (.i .i64 n)), (7, .c (.p 0 ad 0)), (10, .c (.e p.ra 6 ((bitsV .and .i64 n 65535).tmod (p.rs.length : Int)) 0))]) (by repeat' first | exact SubE.nil | refine SubE.cons rfl ?_ ?_ | exact VEq.refl _ | refine VEq.int (by omega) | refine VEq.sl rfl (by first | rfl | omega | (rw [List.length_append]; rfl) | (simp; omega)) rfl) (Ents.refl _ _) ?_
      repeat' first
        | refine J_seq ?_ | refine J_region Tryz.tyOK ?_ | refine J_block ?_ | refine J_cond ?_ | refine J_ret ?_ | refine J_skip ?_ | refine J_exit ?_ | refine J_scope ?_
        | refine CondP.yes (by omega) ?_ | refine CondP.no (by omega) ?_ | refine CondP.mk (fun h => ?_) (fun h => ?_) | refine EqP.mk rfl ?_ | refine NewP.mk (fun ad => ?_) | refine ArP.exact (by simp only [inR]; omega) ?_ | refine SideP.mk (by first | omega | (dsimp only; omega) | (simp; omega)) ?_
        | refine FldE.mk 42 6 _ _ (.inl ⟨_, by repeat (first | exact List.Mem.head _ | apply List.Mem.tail)⟩) (by omega) ?_ | refine StoreE.mk [_, _, _] _ _ _ _ _ _ rfl (by rw [hm2]; omega) (by rw [hm2]; omega) (Nat.le_of_ble_eq_true rfl) (hr3' _) ?_
        | fail
      exact spEnd (Ents.refl _ _) (fun _ h => h) rfl List.length_set rfl (hokR _ hrb) (by repeat' first | exact SubE.nil | refine SubE.cons rfl ?_ ?_ | exact VEq.refl _ | refine VEq.int (by omega) | refine VEq.sl rfl (by first | rfl | omega | (rw [List.length_append]; rfl) | (simp; omega)) rfl)
    · refine ⟨?_⟩
      refine J_ent (n' := 1) (env' := [(2, .c (.i .i64 n)), (7, .c (.p 0 ad 0)), (10, .c (.e p.ra 6 ((bitsV .and .i64 n 65535).tmod (p.rs.length : Int)) 0))]) (by repeat' first | exact SubE.nil | refine SubE.cons rfl ?_ ?_ | exact VEq.refl _ | refine VEq.int (by omega) | refine VEq.sl rfl (by first | rfl | omega | (rw [List.length_append]; rfl) | (simp; omega)) rfl) (Ents.refl _ _) ?_
      repeat' first
        | refine J_seq ?_ | refine J_region Tryz.tyOK ?_ | refine J_block ?_ | refine J_cond ?_ | refine J_ret ?_ | refine J_skip ?_ | refine J_exit ?_ | refine J_scope ?_
        | refine CondP.yes (by omega) ?_ | refine CondP.no (by omega) ?_ | refine CondP.mk (fun h => ?_) (fun h => ?_) | refine EqP.mk rfl ?_ | refine NewP.mk (fun ad => ?_) | refine ArP.exact (by simp only [inR]; omega) ?_ | refine SideP.mk (by first | omega | (dsimp only; omega) | (simp; omega)) ?_
        | refine FldE.mk 42 6 _ _ (.inl ⟨_, by repeat (first | exact List.Mem.head _ | apply List.Mem.tail)⟩) (by omega) ?_ | refine IdxE.mk 9 1 _ (.inl ⟨_, by repeat (first | exact List.Mem.head _ | apply List.Mem.tail)⟩) (and3_0 _) (and3_lt _ (by decide)) ?_ | refine LoadE.mk 9 _ _ _ (.inl ⟨_, by repeat (first | exact List.Mem.head _ | apply List.Mem.tail)⟩) (and3_0 _) (and3_lt _ (by decide)) (by decide) (lit_at lit6 _ (and3_0 _) (and3_lt _ (by decide))) ?_ | refine StoreE.mk [_, _, _, _] _ _ _ _ _ _ rfl (by rw [hm2]; omega) (by rw [hm2]; omega) (Nat.le_of_ble_eq_true rfl) (hr5' _) ?_
        | fail
      exact spEnd Ents.drop (fun _ h => h) rfl List.length_set rfl (hokR _ (hle5 (lit_le (by decide) _))) (by repeat' first | exact SubE.nil | refine SubE.cons rfl ?_ ?_ | exact VEq.refl _ | refine VEq.int (by omega) | refine VEq.sl rfl (by first | rfl | omega | (rw [List.length_append]; rfl) | (simp; omega)) rfl)
    · refine ⟨?_⟩
      refine J_ent (n' := 1) (env' := [(2, .c (.i .i64 n)), (7, .c (.p 0 ad 0)), (10, .c (.e p.ra 6 ((bitsV .and .i64 n 65535).tmod (p.rs.length : Int)) 0))]) (by repeat' first | exact SubE.nil | refine SubE.cons rfl ?_ ?_ | exact VEq.refl _ | refine VEq.int (by omega) | refine VEq.sl rfl (by first | rfl | omega | (rw [List.length_append]; rfl) | (simp; omega)) rfl) (Ents.refl _ _) ?_
      repeat' first
        | refine J_seq ?_ | refine J_region Tryz.tyOK ?_ | refine J_block ?_ | refine J_cond ?_ | refine J_ret ?_ | refine J_skip ?_ | refine J_exit ?_ | refine J_scope ?_
        | refine CondP.yes (by omega) ?_ | refine CondP.no (by omega) ?_ | refine CondP.mk (fun h => ?_) (fun h => ?_) | refine EqP.mk rfl ?_ | refine NewP.mk (fun ad => ?_) | refine ArP.exact (by simp only [inR]; omega) ?_ | refine SideP.mk (by first | omega | (dsimp only; omega) | (simp; omega)) ?_
        | refine FldE.mk 42 6 _ _ (.inl ⟨_, by repeat (first | exact List.Mem.head _ | apply List.Mem.tail)⟩) (by omega) ?_ | refine ArP.exact (and15_in _) ?_ | refine StoreE.mk [_, _, _] _ _ _ _ _ _ rfl (by rw [hm2]; omega) (by rw [hm2]; omega) (Nat.le_of_ble_eq_true rfl) (hr4' _) ?_
        | fail
      exact spEnd (Ents.refl _ _) (fun _ h => h) rfl List.length_set rfl (hokR _ hrb) (by repeat' first | exact SubE.nil | refine SubE.cons rfl ?_ ?_ | exact VEq.refl _ | refine VEq.int (by omega) | refine VEq.sl rfl (by first | rfl | omega | (rw [List.length_append]; rfl) | (simp; omega)) rfl)
    · refine ⟨?_⟩
      refine J_ent (n' := 1) (env' := [(2, .c (.i .i64 n)), (7, .c (.p 0 ad 0)), (11, .c (.e xa 5 ((bitsV .and .i64 n 65535).tmod (p.xs.length : Int)) 0))]) (by repeat' first | exact SubE.nil | refine SubE.cons rfl ?_ ?_ | exact VEq.refl _ | refine VEq.int (by omega) | refine VEq.sl rfl (by first | rfl | omega | (rw [List.length_append]; rfl) | (simp; omega)) rfl) (Ents.refl _ _) ?_
      repeat' first
        | refine J_seq ?_ | refine J_region Tryz.tyOK ?_ | refine J_block ?_ | refine J_cond ?_ | refine J_ret ?_ | refine J_skip ?_ | refine J_exit ?_ | refine J_scope ?_
        | refine CondP.yes (by omega) ?_ | refine CondP.no (by omega) ?_ | refine CondP.mk (fun h => ?_) (fun h => ?_) | refine EqP.mk rfl ?_ | refine NewP.mk (fun ad => ?_) | refine ArP.exact (by simp only [inR]; omega) ?_ | refine SideP.mk (by first | omega | (dsimp only; omega) | (simp; omega)) ?_
        | refine FldE.mk 45 5 _ _ (.inl ⟨_, by repeat (first | exact List.Mem.head _ | apply List.Mem.tail)⟩) (by omega) ?_ | refine IdxE.mk 9 1 _ (.inl ⟨_, by repeat (first | exact List.Mem.head _ | apply List.Mem.tail)⟩) (and3_0 _) (and3_lt _ (by decide)) ?_ | refine LoadE.mk 9 _ _ _ (.inl ⟨_, by repeat (first | exact List.Mem.head _ | apply List.Mem.tail)⟩) (and3_0 _) (and3_lt _ (by decide)) (by decide) (lit_at lit8 _ (and3_0 _) (and3_lt _ (by decide))) ?_ | refine StoreE.mk [_] _ _ _ _ _ _ rfl (by rw [hm3]; omega) (by rw [hm3]; omega) (Nat.le_of_ble_eq_true rfl) (hx4' _) ?_
        | fail
      exact spEnd Ents.drop (fun _ h => h) rfl rfl List.length_set (hokX _ ⟨hxb.1, hle5 (lit_le (by decide) _)⟩) (by repeat' first | exact SubE.nil | refine SubE.cons rfl ?_ ?_ | exact VEq.refl _ | refine VEq.int (by omega) | refine VEq.sl rfl (by first | rfl | omega | (rw [List.length_append]; rfl) | (simp; omega)) rfl)
    · refine ⟨?_⟩
      refine J_ent (n' := 1) (env' := [(2, .c (.i .i64 n)), (7, .c (.p 0 ad 0)), (11, .c (.e xa 5 ((bitsV .and .i64 n 65535).tmod (p.xs.length : Int)) 0))]) (by repeat' first | exact SubE.nil | refine SubE.cons rfl ?_ ?_ | exact VEq.refl _ | refine VEq.int (by omega) | refine VEq.sl rfl (by first | rfl | omega | (rw [List.length_append]; rfl) | (simp; omega)) rfl) (Ents.refl _ _) ?_
      repeat' first
        | refine J_seq ?_ | refine J_region Tryz.tyOK ?_ | refine J_block ?_ | refine J_cond ?_ | refine J_ret ?_ | refine J_skip ?_ | refine J_exit ?_ | refine J_scope ?_
        | refine CondP.yes (by omega) ?_ | refine CondP.no (by omega) ?_ | refine CondP.mk (fun h => ?_) (fun h => ?_) | refine EqP.mk rfl ?_ | refine NewP.mk (fun ad => ?_) | refine ArP.exact (by simp only [inR]; omega) ?_ | refine SideP.mk (by first | omega | (dsimp only; omega) | (simp; omega)) ?_
        | refine FldE.mk 45 5 _ _ (.inl ⟨_, by repeat (first | exact List.Mem.head _ | apply List.Mem.tail)⟩) (by omega) ?_ | refine StoreE.mk [] _ _ _ _ _ _ rfl (by rw [hm3]; omega) (by rw [hm3]; omega) (Nat.le_of_ble_eq_true rfl) (hx3' _) ?_
        | fail
      exact spEnd (Ents.refl _ _) (fun _ h => h) rfl rfl List.length_set (hokX _ ⟨hle5 (show (1 : Nat) ≤ 5 by decide), hxb.2⟩) (by repeat' first | exact SubE.nil | refine SubE.cons rfl ?_ ?_ | exact VEq.refl _ | refine VEq.int (by omega) | refine VEq.sl rfl (by first | rfl | omega | (rw [List.length_append]; rfl) | (simp; omega)) rfl)
    · refine ⟨?_⟩
      refine J_ent (n' := 1) (env' := [(2, .c (.i .i64 n)), (7, .c (.p 0 ad 0)), (11, .c (.e xa 5 ((bitsV .and .i64 n 65535).tmod (p.xs.length : Int)) 0))]) (by repeat' first | exact SubE.nil | refine SubE.cons rfl ?_ ?_ | exact VEq.refl _ | refine VEq.int (by omega) | refine VEq.sl rfl (by first | rfl | omega | (rw [List.length_append]; rfl) | (simp; omega)) rfl) (Ents.refl _ _) ?_
      repeat' first
        | refine J_seq ?_ | refine J_region Tryz.tyOK ?_ | refine J_block ?_ | refine J_cond ?_ | refine J_ret ?_ | refine J_skip ?_ | refine J_exit ?_ | refine J_scope ?_
        | refine CondP.yes (by omega) ?_ | refine CondP.no (by omega) ?_ | refine CondP.mk (fun h => ?_) (fun h => ?_) | refine EqP.mk rfl ?_ | refine NewP.mk (fun ad => ?_) | refine ArP.exact (by simp only [inR]; omega) ?_ | refine SideP.mk (by first | omega | (dsimp only; omega) | (simp; omega)) ?_
        | refine FldE.mk 45 5 _ _ (.inl ⟨_, by repeat (first | exact List.Mem.head _ | apply List.Mem.tail)⟩) (by omega) ?_ | refine StoreE.mk [] _ _ _ _ _ _ rfl (by rw [hm3]; omega) (by rw [hm3]; omega) (Nat.le_of_ble_eq_true rfl) (hx1' _) ?_
        | fail
      exact spEnd (Ents.refl _ _) (fun _ h => h) rfl rfl List.length_set (hokX _ ⟨hxb.1, hxb.2⟩) (by repeat' first | exact SubE.nil | refine SubE.cons rfl ?_ ?_ | exact VEq.refl _ | refine VEq.int (by omega) | refine VEq.sl rfl (by first | rfl | omega | (rw [List.length_append]; rfl) | (simp; omega)) rfl)
    · refine ⟨?_⟩
      refine J_ent (n' := 1) (env' := [(2, .c (.i .i64 n)), (7, .c (.p 0 ad 0))]) (by repeat' first | exact SubE.nil | refine SubE.cons rfl ?_ ?_ | exact VEq.refl _ | refine VEq.int (by omega) | refine VEq.sl rfl (by first | rfl | omega | (rw [List.length_append]; rfl) | (simp; omega)) rfl) (Ents.refl _ _) ?_
      repeat' first
        | refine J_seq ?_ | refine J_region Tryz.tyOK ?_ | refine J_block ?_ | refine J_cond ?_ | refine J_ret ?_ | refine J_skip ?_ | refine J_exit ?_ | refine J_scope ?_
        | refine CondP.yes (by omega) ?_ | refine CondP.no (by omega) ?_ | refine CondP.mk (fun h => ?_) (fun h => ?_) | refine EqP.mk rfl ?_ | refine NewP.mk (fun ad => ?_) | refine ArP.exact (by simp only [inR]; omega) ?_ | refine SideP.mk (by first | omega | (dsimp only; omega) | (simp; omega)) ?_
        | fail
      exact spEnd (rs := List.replicate 65 ⟨false, 0, [], 0, 0, []⟩) (Ents.sub ⟨[_], perm11⟩) (fun _ h => h) rfl rfl rfl hok11 (by repeat' first | exact SubE.nil | refine SubE.cons rfl ?_ ?_ | exact VEq.refl _ | refine VEq.int (by omega) | refine VEq.sl rfl (by first | rfl | omega | (rw [List.length_append]; rfl) | (simp; omega)) rfl)
    · exact spEnd (Ents.refl _ _) (fun _ h => h) rfl rfl rfl hok0 (by repeat' first | exact SubE.nil | refine SubE.cons rfl ?_ ?_ | exact VEq.refl _ | refine VEq.int (by omega) | refine VEq.sl rfl (by first | rfl | omega | (rw [List.length_append]; rfl) | (simp; omega)) rfl)
  · have c4 := polValidate_ok q hq
    have c5 := refValidate_ok q hq
    generalize validateT (gpOf q.gs) q.rs q.xs = v at *
    refine ⟨?_⟩
    repeat' first
      | refine CondP.yes rfl ?_
      | refine J_seq ?_ | refine J_region Tryz.tyOK ?_ | refine J_block ?_ | refine J_cond ?_ | refine J_ret ?_ | refine J_skip ?_ | refine J_exit ?_ | refine J_scope ?_
      | refine CondP.yes (by omega) ?_ | refine CondP.no (by omega) ?_ | refine CondP.mk (fun h => ?_) (fun h => ?_) | refine EqP.mk rfl ?_ | refine NewP.mk (fun ad => ?_) | refine ArP.exact (by simp only [inR]; omega) ?_ | refine SideP.mk (by first | omega | (dsimp only; omega) | (simp; omega)) ?_
      | refine J_drawS (id := 7) Tryz.tyOK (by kernel_rfl) [0, 1, 0, 0, 8, 24, 60, 127, 0, 256, 0, 0, 2048, 6144, 15360, 32512, 0, 65536, 0, 0, 524288, 1572864, 3932160, 8323072, 255, 16842751, 67108863] [0, 1, 2, 3, 4, 5, 6, 7, 8, 9, 10, 11, 12, 13, 14, 15, 16, 17, 18, 19, 20, 21, 22, 23, 24, 25, 26] [] [7] true (by kernel_rfl) ?_ | refine J_drawP (id := 12) Tryz.tyOK (by kernel_rfl) [0, 0, 2, 6, 14, 30, 0, 0, 128, 384, 960, 1984, 4032, 8190, 16383, 32767, 65535] (.node [0, 1, 2, 3, 4, 7, 8, 9] 5 (.leaf [6, 10, 11, 12, 13, 14, 15, 16]) 6 (.node [] 5 (.leaf [10, 11, 12, 13, 14, 15, 16]) 10 (.node [] 5 (.leaf [11, 12, 13, 14, 15, 16]) 11 (.node [] 5 (.leaf [12, 13, 14, 15, 16]) 12 (.leaf [5, 13, 14, 15, 16]))))) [5, 6, 10, 11, 12, 13, 16] [9] 16 false (by kernel_rfl) ?_ | refine TwoP.mk ?_ ?_ | refine J_drawS (id := 33) Tryz.tyOK (by kernel_rfl) [0, 1, 0, 7, 15, 31, 63, 127, 255] [0, 1, 2, 3, 4, 5, 6, 7, 8] [] [7] true (by kernel_rfl) ?_ | refine EntP.mk (Ents.ofSub (by repeat (first | exact List.Sublist.slnil | refine List.Sublist.cons_cons _ ?_ | refine List.Sublist.cons _ ?_)) (by first | exact fun _ h => h | exact fun _ _ => trivial | exact fun _ h => h.2 | exact fun _ h => h.2.2.2.2 | exact fun _ h => ((allD_append _ _).1 h).2)) ?_ | refine CallQ.mk _ _ c4 (fun m h => h) ?_ | refine CallQ.mk _ _ c5 (fun m h => h.2) ?_ | refine CallQ.mk _ _ known12_ok (fun m h => ⟨h.1, trivial⟩) ?_ | refine FinE.bool rfl
      | fail

end Go.Proofs
