/- This text walks through the program's writer of HTML: links and elements. · This text bounds the size of rendered elements, and walks through the program's writer on elements. · This text walks through the program's writer on elements. · This text walks through the program's writer where marks are passed without being written. · This text says what the HTML of a whole document is, and how long it can be. · This text walks through the program's writer on one block, without its kids. -/
import Derived.Test.YtdnkeinjfddmnaaGreatDoorV12
set_option linter.all false
namespace Go.Proofs
open Go Go.X Go.Lib
set_option maxRecDepth 100000
def ttW (t : Int × List UInt8) : List C := [.i .i64 t.1, .s t.2]
theorem ttKey : KeyP Tryz.tyT 23 ttW := by
  refine ⟨⟨5, by omega, fun a b => ⟨_, rfl, ?_⟩⟩, fun a c hc => ?_⟩
  · obtain ⟨a1, a2⟩ := a
    obtain ⟨b1, b2⟩ := b
    simp
  · simp only [ttW, List.mem_cons, List.not_mem_nil, or_false] at hc
    rcases hc with rfl | rfl <;> rfl
structure WrK where
  ab : Nat
  am : Nat
  na : Option Addr
  nc : Nat
  ea : Option Addr
  ec : Nat
  en : Nat
  kv : List ((Int × List UInt8) × V)
def wrR (K : WrK) (W : RenW) (m h : Nat) : List C := [.m 1 K.am, .sl K.na W.ns.length K.nc, .i .i64 m, .sl K.ea K.en K.ec, .i .i64 h]
def wrM (K : WrK) (W : RenW) (u : Bool) (a : Option Addr) (c : Nat) (o : List UInt8) (m h : Nat) : List Chunk := bx 0 K.ab 87 u a c o (wrR K W m h) ++ [.obj 1 K.am (gO (aggV ttW) K.kv)]
def WrP (K : WrK) (W : RenW) (o : List UInt8) (m h : Nat) : V → List Chunk → List Fact → Prop := fun v L D => ∃ u a c, BxI u a c o ∧ v = .t0 ∧ L = wrM K W u a c o m h ∧ D = []
def noteF (K : WrK) (W : RenW) : Fact := slFact 3 1 K.na W.ns.length (W.ns.map (C.i .i64))
structure WrOk (K : WrK) (W : RenW) : Prop where
  mis : ∀ t, gGet K.kv t = if W.P t then some (constV (Value.bool true)) else none
  ns : ∀ j ∈ W.ns, 0 ≤ j ∧ j ≤ 100000000
  nl : W.ns.length ≤ 100000000
set_option maxHeartbeats 4000000 in
theorem link_ok (K : WrK) (W : RenW) (hK : WrOk K W) (b : Bool) (x : Inl) (m h m' : Nat) (hb : x.bulk ≤ 1100000) (D : List Fact) (hD : ∀ mm, allD mm D → allD mm [inlF x.ka x.kids, noteF K W, tabF, gInt 0])
    (B : Nat) (hB : B ≤ 60000000000000)
    (hca : ∀ u a c o, BxI u a c o → o.length ≤ B → FnS Tryz.prog 86 [.c (.p 0 K.ab 0), .c (.sl x.ka x.kids.length x.kc), .c (.b b)] (wrM K W u a c o m h) [inlF x.ka x.kids, noteF K W, tabF, gInt 0] (WrP K W (o ++ inlRen W b m x.kids) m' h))
    (hl : (inlRen W b m x.kids).length ≤ 60000000000000) (u : Bool) (a : Option Addr) (c : Nat) (o : List UInt8) (hi : BxI u a c o) (ho : o.length + 3 * x.anchor.length + 600 ≤ B) :
    FnS Tryz.prog 126 [.c (.p 0 K.ab 0), .agg x.cells, .c (.b b)] (wrM K W u a c o m h) D (WrP K W (o ++ lnkOpen (W.P (x.sp, x.name)) (lnkPath x.sp x.name x.anchor) ++ inlRen W b m x.kids ++ [60, 47, 97, 62]) m' h) := by
  have hxb := Inl.bulk_eq x
  have hpa := path_ok x.sp x.name (by omega)
  have han := anchor_ok x.anchor (by omega)
  have hal := ancT19_le x.anchor
  have hlp := lnkPath_le x.sp x.name x.anchor
  have hmi := hK.mis (x.sp, x.name)
  have hwp : pathT x.sp x.name ≠ [] := by unfold pathT wikiS; simp
  have hpl : (pathT x.sp x.name).length ≤ 333 := by
    have h0 := formatT_le x.sp x.name
    have h2 := pathS_le (formatT x.sp x.name)
    unfold pathT; rw [List.length_append]; have : wikiS.length = 6 := rfl; omega
  unfold wrM wrR Inl.cells
  refine fn_of_J Tryz.tyOK 7000 Tryz.func126 (by kernel_rfl) (c := Tryz.f126.body.getD .skip) (by kernel_rfl) Tryz.ntmps126 (rs := Tryz.f126.results.toList) rfl (by simp) (fun G => ?_)
  repeat' first
    | refine J_stop (c := .seq (.seq (.region 2 _ _) _) _) ?_
    | refine J_seq ?_ | refine J_region Tryz.tyOK ?_ | refine J_block ?_ | refine J_cond ?_ | refine J_ret ?_ | refine J_skip ?_ | refine J_exit ?_ | refine J_scope ?_
    | refine CondP.yes (by omega) ?_ | refine CondP.no (by omega) ?_ | refine CondP.mk (fun h => ?_) (fun h => ?_) | refine EqP.mk rfl ?_ | refine NewP.mk (fun ad => ?_) | refine ArP.exact (by simp only [inR]; omega) ?_ | refine SideP.mk (by first | omega | (dsimp only; omega) | (simp; omega)) ?_
    | fail
  refine ⟨?_⟩
  obtain ⟨p0, hp0⟩ : ∃ p0, p0 = (if x.sp = 0 ∧ x.name = [] then [] else pathT x.sp x.name) := ⟨_, rfl⟩
  refine J_cut (α := Unit) (fun _ => [(0, .c (.p 0 K.ab 0)), (2, .c (.b b)), (4, .c (.p 7000 ad 0)), (6, .c (.s p0))])
    (fun _ => .box 7000 ad 102 [.i .i64 x.kind, .s x.text, .i .i64 x.sp, .s x.name, .s x.anchor, .sl x.ka x.kids.length x.kc] :: (bx 0 K.ab 87 u a c o [.m 1 K.am, .sl K.na W.ns.length K.nc, .i .i64 m, .sl K.ea K.en K.ec, .i .i64 h] ++ [.obj 1 K.am (gO (aggV ttW) K.kv)])) (fun _ => D) 7001 (fun _ => True) ?_ (fun _ _ => ?_)
  · repeat' first
      | refine J_seq ?_ | refine J_region Tryz.tyOK ?_ | refine J_block ?_ | refine J_cond ?_ | refine J_ret ?_ | refine J_skip ?_ | refine J_exit ?_ | refine J_scope ?_
      | refine CondP.yes (by omega) ?_ | refine CondP.no (by omega) ?_ | refine CondP.mk (fun h => ?_) (fun h => ?_) | refine EqP.mk rfl ?_ | refine NewP.mk (fun ad => ?_) | refine ArP.exact (by simp only [inR]; omega) ?_ | refine SideP.mk (by first | omega | (dsimp only; omega) | (simp; omega)) ?_
      | refine CallP.is hpa ?_ (fun _ h => ⟨(hD _ h).2.2.2.1, trivial⟩)
      | fail
    all_goals first
      | (have e : p0 = [] := by rw [hp0, if_pos ⟨h.1, h.2.1⟩]
         subst e
         exact InFam.mk () trivial (by repeat' first | exact SubE.nil | refine SubE.cons rfl ?_ ?_ | exact VEq.refl _ | refine VEq.int (by omega) | refine VEq.sl rfl (by first | rfl | omega | (rw [List.length_append]; rfl) | (simp; omega)) rfl) (Ents.refl _ _))
      | (have e : p0 = pathT x.sp x.name := by rw [hp0, if_neg (fun hc => h ⟨hc.1, hc.2, trivial⟩)]
         subst e
         exact InFam.mk () trivial (by repeat' first | exact SubE.nil | refine SubE.cons rfl ?_ ?_ | exact VEq.refl _ | refine VEq.int (by omega) | refine VEq.sl rfl (by first | rfl | omega | (rw [List.length_append]; rfl) | (simp; omega)) rfl) (Ents.refl _ _))
  have hpl0 : p0.length ≤ 333 := by rw [hp0]; split; exact Nat.zero_le _; exact hpl
  have hlk : lnkPath x.sp x.name x.anchor = if p0 = [] ∨ ¬ x.anchor = [] then p0 ++ ([35] ++ ancT19 x.anchor) else p0 := by
    unfold lnkPath
    by_cases hT : x.sp = 0 ∧ x.name = []
    · rw [if_pos hT] at hp0; subst hp0; rw [if_pos hT, if_pos (.inl rfl)]; rfl
    · rw [if_neg hT] at hp0; subst hp0; rw [if_neg hT]
      by_cases hA : x.anchor = []
      · rw [if_pos hA, if_neg (by simp [hA, hwp])]
      · rw [if_neg hA, if_pos (.inr hA)]; rfl
  clear hp0 hpa hwp hpl
  generalize lnkPath x.sp x.name x.anchor = p1 at *
  repeat' first
    | refine J_stop (c := .seq (.seq (.region 4 _ _) _) _) ?_
    | refine J_seq ?_ | refine J_region Tryz.tyOK ?_ | refine J_block ?_ | refine J_cond ?_ | refine J_ret ?_ | refine J_skip ?_ | refine J_exit ?_ | refine J_scope ?_
    | refine CondP.yes (by omega) ?_ | refine CondP.no (by omega) ?_ | refine CondP.mk (fun h => ?_) (fun h => ?_) | refine EqP.mk rfl ?_ | refine NewP.mk (fun ad => ?_) | refine ArP.exact (by simp only [inR]; omega) ?_ | refine SideP.mk (by first | omega | (dsimp only; omega) | (simp; omega)) ?_
    | fail
  refine ⟨?_⟩
  refine J_cut (α := Unit) (fun _ => [(0, .c (.p 0 K.ab 0)), (2, .c (.b b)), (4, .c (.p 7000 ad 0)), (6, .c (.s p1))])
    (fun _ => .box 7000 ad 102 [.i .i64 x.kind, .s x.text, .i .i64 x.sp, .s x.name, .s x.anchor, .sl x.ka x.kids.length x.kc] :: (bx 0 K.ab 87 u a c o [.m 1 K.am, .sl K.na W.ns.length K.nc, .i .i64 m, .sl K.ea K.en K.ec, .i .i64 h] ++ [.obj 1 K.am (gO (aggV ttW) K.kv)])) (fun _ => D) 7001 (fun _ => True) ?_ (fun _ _ => ?_)
  · repeat' first
      | refine J_seq ?_ | refine J_region Tryz.tyOK ?_ | refine J_block ?_ | refine J_cond ?_ | refine J_ret ?_ | refine J_skip ?_ | refine J_exit ?_ | refine J_scope ?_
      | refine CondP.yes (by omega) ?_ | refine CondP.no (by omega) ?_ | refine CondP.mk (fun h => ?_) (fun h => ?_) | refine EqP.mk rfl ?_ | refine NewP.mk (fun ad => ?_) | refine ArP.exact (by simp only [inR]; omega) ?_ | refine SideP.mk (by first | omega | (dsimp only; omega) | (simp; omega)) ?_
      | refine CallP.is han ?_ (fun _ _ => trivial)
      | fail
    all_goals first
      | (have e : p1 = p0 ++ ([35] ++ ancT19 x.anchor) := by rw [hlk]; exact if_pos (by first | exact .inl (by assumption) | exact .inr (by assumption))
         subst e
         exact InFam.mk () trivial (by repeat' first | exact SubE.nil | refine SubE.cons rfl ?_ ?_ | exact VEq.refl _ | refine VEq.int (by omega) | refine VEq.sl rfl (by first | rfl | omega | (rw [List.length_append]; rfl) | (simp; omega)) rfl) (Ents.refl _ _))
      | (have e : p1 = p0 := by rw [hlk]; exact if_neg (fun hc => hc.elim (by assumption) (fun hc => hc (by assumption)))
         subst e
         exact InFam.mk () trivial (by repeat' first | exact SubE.nil | refine SubE.cons rfl ?_ ?_ | exact VEq.refl _ | refine VEq.int (by omega) | refine VEq.sl rfl (by first | rfl | omega | (rw [List.length_append]; rfl) | (simp; omega)) rfl) (Ents.refl _ _))
  clear hlk han hpl0 p0
  obtain ⟨cl, hcl⟩ : ∃ cl, cl = (if W.P (x.sp, x.name) then [32, 99, 108, 97, 115, 115, 61, 34, 109, 105, 115, 115, 105, 110, 103, 34] else ([] : List UInt8)) := ⟨_, rfl⟩
  unfold lnkOpen
  rw [← hcl]
  have hcll : cl.length ≤ 20 := by rw [hcl]; split <;> simp
  repeat' first
    | refine J_stop (c := .seq (.seq (.region 7 _ _) _) _) ?_
    | refine J_seq ?_ | refine J_region Tryz.tyOK ?_ | refine J_block ?_ | refine J_cond ?_ | refine J_ret ?_ | refine J_skip ?_ | refine J_exit ?_ | refine J_scope ?_
    | refine CondP.yes (by omega) ?_ | refine CondP.no (by omega) ?_ | refine CondP.mk (fun h => ?_) (fun h => ?_) | refine EqP.mk rfl ?_ | refine NewP.mk (fun ad => ?_) | refine ArP.exact (by simp only [inR]; omega) ?_ | refine SideP.mk (by first | omega | (dsimp only; omega) | (simp; omega)) ?_
    | fail
  refine ⟨?_⟩
  refine J_cut (α := Unit) (fun _ => [(0, .c (.p 0 K.ab 0)), (2, .c (.b b)), (4, .c (.p 7000 ad 0)), (6, .c (.s p1)), (7, .c (.s cl))])
    (fun _ => .box 7000 ad 102 [.i .i64 x.kind, .s x.text, .i .i64 x.sp, .s x.name, .s x.anchor, .sl x.ka x.kids.length x.kc] :: (bx 0 K.ab 87 u a c o [.m 1 K.am, .sl K.na W.ns.length K.nc, .i .i64 m, .sl K.ea K.en K.ec, .i .i64 h] ++ [.obj 1 K.am (gO (aggV ttW) K.kv)])) (fun _ => D) 7001 (fun _ => True) ?_ (fun _ _ => ?_)
  · cases hPv : W.P (x.sp, x.name) with
    | false =>
      rw [hPv, if_neg (by decide)] at hmi hcl
      subst hcl
      repeat' first
        | refine J_seq ?_ | refine J_region Tryz.tyOK ?_ | refine J_block ?_ | refine J_cond ?_ | refine J_ret ?_ | refine J_skip ?_ | refine J_exit ?_ | refine J_scope ?_
        | refine CondP.yes (by omega) ?_ | refine CondP.no (by omega) ?_ | refine CondP.mk (fun h => ?_) (fun h => ?_) | refine EqP.mk rfl ?_ | refine NewP.mk (fun ad => ?_) | refine ArP.exact (by simp only [inR]; omega) ?_ | refine SideP.mk (by first | omega | (dsimp only; omega) | (simp; omega)) ?_
        | refine J_drawS (id := 7) Tryz.tyOK (by kernel_rfl) [0, 1, 3, 7, 0, 16, 63] [0, 1, 2, 3, 4, 5, 6] [6] [0, 4] true (by kernel_rfl) ?_ | refine EntP.mk (Ents.ofSub (by repeat (first | exact List.Sublist.slnil | refine List.Sublist.cons_cons _ ?_ | refine List.Sublist.cons _ ?_)) (by first | exact fun _ h => h | exact fun _ _ => trivial | exact fun _ h => h.2 | exact fun _ h => h.2.2.2.2 | exact fun _ h => h.2.2 | exact fun _ h => h.2.2.2 | exact fun _ h => h.2.2.2.2.2 | exact fun _ h => h.2.2.2.2.2.2 | exact fun _ h => h.2.2.2.2.2.2.2 | exact fun _ h => h.2.2.2.2.2.2.2.2 | exact fun _ h => h.2.2.2.2.2.2.2.2.2 | exact fun _ h => h.2.2.2.2.2.2.2.2.2.2 | exact fun _ h => ((allD_append _ _).1 h).2)) ?_ | refine LookG.mk _ inferInstance ttW K.kv (x.sp, x.name) rfl rfl rfl ttKey (fun v hv => absurd (hmi.symm.trans hv) (by simp)) (fun _ => ?_) | exact InFam.mk () trivial (by repeat' first | exact SubE.nil | refine SubE.cons rfl ?_ ?_ | exact VEq.refl _ | refine VEq.int (by omega) | refine VEq.sl rfl (by first | rfl | omega | (rw [List.length_append]; rfl) | (simp; omega)) rfl) (Ents.refl _ _)
        | fail
      all_goals trace_state
    | true =>
      rw [hPv, if_pos rfl] at hmi hcl
      subst hcl
      repeat' first
        | refine J_seq ?_ | refine J_region Tryz.tyOK ?_ | refine J_block ?_ | refine J_cond ?_ | refine J_ret ?_ | refine J_skip ?_ | refine J_exit ?_ | refine J_scope ?_
        | refine CondP.yes (by omega) ?_ | refine CondP.no (by omega) ?_ | refine CondP.mk (fun h => ?_) (fun h => ?_) | refine EqP.mk rfl ?_ | refine NewP.mk (fun ad => ?_) | refine ArP.exact (by simp only [inR]; omega) ?_ | refine SideP.mk (by first | omega | (dsimp only; omega) | (simp; omega)) ?_
        | refine J_drawS (id := 7) Tryz.tyOK (by kernel_rfl) [0, 1, 3, 7, 0, 16, 63] [0, 1, 2, 3, 4, 5, 6] [6] [0, 4] true (by kernel_rfl) ?_ | refine EntP.mk (Ents.ofSub (by repeat (first | exact List.Sublist.slnil | refine List.Sublist.cons_cons _ ?_ | refine List.Sublist.cons _ ?_)) (by first | exact fun _ h => h | exact fun _ _ => trivial | exact fun _ h => h.2 | exact fun _ h => h.2.2.2.2 | exact fun _ h => h.2.2 | exact fun _ h => h.2.2.2 | exact fun _ h => h.2.2.2.2.2 | exact fun _ h => h.2.2.2.2.2.2 | exact fun _ h => h.2.2.2.2.2.2.2 | exact fun _ h => h.2.2.2.2.2.2.2.2 | exact fun _ h => h.2.2.2.2.2.2.2.2.2 | exact fun _ h => h.2.2.2.2.2.2.2.2.2.2 | exact fun _ h => ((allD_append _ _).1 h).2)) ?_ | (refine LookG.mk _ inferInstance ttW K.kv (x.sp, x.name) rfl rfl rfl ttKey (fun v hv => ?_) (fun hv => absurd (hmi.symm.trans hv) (by simp)); cases hmi.symm.trans hv) | exact InFam.mk () trivial (by repeat' first | exact SubE.nil | refine SubE.cons rfl ?_ ?_ | exact VEq.refl _ | refine VEq.int (by omega) | refine VEq.sl rfl (by first | rfl | omega | (rw [List.length_append]; rfl) | (simp; omega)) rfl) (Ents.refl _ _)
        | fail
      all_goals trace_state
  clear hcl hmi
  have s1 := bxString_ok 0 K.ab 87 u a c o ([60, 97] ++ cl ++ [32, 104, 114, 101, 102, 61, 34] ++ p1 ++ [34, 62]) [.m 1 K.am, .sl K.na W.ns.length K.nc, .i .i64 m, .sl K.ea K.en K.ec, .i .i64 h] btyW hi (by simp; omega)
  repeat' first
    | refine J_stop (c := .seq (.region 10 _ _) _) ?_
    | refine J_seq ?_ | refine J_region Tryz.tyOK ?_ | refine J_block ?_ | refine J_cond ?_ | refine J_ret ?_ | refine J_skip ?_ | refine J_exit ?_ | refine J_scope ?_
    | refine CondP.yes (by omega) ?_ | refine CondP.no (by omega) ?_ | refine CondP.mk (fun h => ?_) (fun h => ?_) | refine EqP.mk rfl ?_ | refine NewP.mk (fun ad => ?_) | refine ArP.exact (by simp only [inR]; omega) ?_ | refine SideP.mk (by first | omega | (dsimp only; omega) | (simp; omega)) ?_
    | (refine CallP.mk _ [_, _] [] _ s1 ((List.perm_append_comm (l₁ := [_]) (l₂ := [_, _])).append_right [_]) (fun _ _ => trivial) (fun v L' D' hp => ?_); obtain ⟨u1, a1, c1, hi1, rfl, rfl, rfl⟩ := hp)
    | fail
  refine ⟨?_⟩
  have s2 := hca u1 a1 c1 (o ++ ([60, 97] ++ cl ++ [32, 104, 114, 101, 102, 61, 34] ++ p1 ++ [34, 62])) hi1 (by simp; omega)
  repeat' first
    | refine J_stop (c := .region 11 _ _) ?_
    | refine J_seq ?_ | refine J_region Tryz.tyOK ?_ | refine J_block ?_ | refine J_cond ?_ | refine J_ret ?_ | refine J_skip ?_ | refine J_exit ?_ | refine J_scope ?_
    | refine CondP.yes (by omega) ?_ | refine CondP.no (by omega) ?_ | refine CondP.mk (fun h => ?_) (fun h => ?_) | refine EqP.mk rfl ?_ | refine NewP.mk (fun ad => ?_) | refine ArP.exact (by simp only [inR]; omega) ?_ | refine SideP.mk (by first | omega | (dsimp only; omega) | (simp; omega)) ?_
    | (refine CallP.mk _ [_] [inlF x.ka x.kids, noteF K W, tabF, gInt 0] _ s2 ((List.Perm.swap _ _ _).append_left [_, _]) hD (fun v L' D' hp => ?_); obtain ⟨u2, a2, c2, hi2, rfl, rfl, rfl⟩ := hp)
    | fail
  refine ⟨?_⟩
  unfold wrM wrR
  have s3 := bxString_ok 0 K.ab 87 u2 a2 c2 (o ++ ([60, 97] ++ cl ++ [32, 104, 114, 101, 102, 61, 34] ++ p1 ++ [34, 62]) ++ inlRen W b m x.kids) [60, 47, 97, 62] [.m 1 K.am, .sl K.na W.ns.length K.nc, .i .i64 m', .sl K.ea K.en K.ec, .i .i64 h] btyW hi2 (by simp; omega)
  repeat' first
    | refine J_seq ?_ | refine J_region Tryz.tyOK ?_ | refine J_block ?_ | refine J_cond ?_ | refine J_ret ?_ | refine J_skip ?_ | refine J_exit ?_ | refine J_scope ?_
    | refine CondP.yes (by omega) ?_ | refine CondP.no (by omega) ?_ | refine CondP.mk (fun h => ?_) (fun h => ?_) | refine EqP.mk rfl ?_ | refine NewP.mk (fun ad => ?_) | refine ArP.exact (by simp only [inR]; omega) ?_ | refine SideP.mk (by first | omega | (dsimp only; omega) | (simp; omega)) ?_
    | (refine CallP.mk _ [_, _] [] _ s3 (List.Perm.refl _) (fun _ _ => trivial) (fun v L' D' hp => ?_); obtain ⟨u3, a3, c3, hi3, rfl, rfl, rfl⟩ := hp)
    | fail
  exact FinE.mk (wrM K W u3 a3 c3 (o ++ ([60, 97] ++ cl ++ [32, 104, 114, 101, 102, 61, 34] ++ p1 ++ [34, 62]) ++ inlRen W b m x.kids ++ [60, 47, 97, 62]) m' h) [] ⟨u3, a3, c3, hi3, rfl, rfl, rfl⟩ ((Ents.sub ⟨[_], List.perm_append_comm (l₁ := [_, _, _]) (l₂ := [_])⟩).trans (Ents.facts fun _ _ => trivial))
end Go.Proofs
namespace Go.Proofs
open Go Go.X Go.Lib
set_option maxRecDepth 100000
theorem getD_b {l : List Int} (h : ∀ j ∈ l, 0 ≤ j ∧ j ≤ 100000000) (m : Nat) : 0 ≤ l.getD m 0 ∧ l.getD m 0 ≤ 100000000 := by
  by_cases hm : m < l.length
  · rw [List.getD_eq_getElem?_getD, List.getElem?_eq_getElem hm]; exact h _ (List.getElem_mem hm)
  · rw [List.getD_eq_getElem?_getD, List.getElem?_eq_none (by omega)]; exact ⟨by decide, by decide⟩
theorem supT_le {k j : Int} (h1 : 0 ≤ k) (h2 : k ≤ 1000000000) (h3 : 0 ≤ j) (h4 : j ≤ 1000000000) : (supT k j).length ≤ 150 := by
  have a := itoa_le (n := k) (by omega) (by omega)
  have b := itoa_le (n := j) (by omega) (by omega)
  unfold supT
  simp only [List.length_append, List.length_cons, List.length_nil]; omega
theorem lnkOpen_le (p : Bool) (s : List UInt8) : (lnkOpen p s).length ≤ s.length + 50 := by
  unfold lnkOpen
  split <;> simp only [List.length_append, List.length_cons, List.length_nil] <;> omega
mutual
theorem Inl.ren_le (W : RenW) (hn : ∀ j ∈ W.ns, 0 ≤ j ∧ j ≤ 100000000) (b : Bool) : ∀ (m : Nat) (x : Inl), m + x.bulk ≤ 900000000 → (x.ren W b m).length ≤ 600 * x.bulk
  | m, .mk k t s n a ka kc kids, h => by
    rw [Inl.bulk] at h ⊢
    have h1 := inlRen_le W hn b m kids (by omega)
    have h2 := escT_le t
    have h3 := lnkPath_le s n a
    have h4 := lnkOpen_le (W.P (s, n)) (lnkPath s n a)
    have h5 := getD_b hn m
    have h6 := supT_le (k := (m : Int) + 1) (j := W.ns.getD m 0) (by omega) (by omega) h5.1 (by omega)
    rw [Inl.ren]
    split
    · omega
    split
    · simp only [List.length_append, List.length_cons, List.length_nil]; omega
    split
    · simp only [List.length_append, List.length_cons, List.length_nil]; omega
    split
    · simp only [List.length_append, List.length_cons, List.length_nil]; omega
    split
    · split
      · omega
      · simp
    split
    · simp only [List.length_cons, List.length_nil]; omega
    · simp
theorem inlRen_le (W : RenW) (hn : ∀ j ∈ W.ns, 0 ≤ j ∧ j ≤ 100000000) (b : Bool) : ∀ (m : Nat) (l : List Inl), m + inlBulk l ≤ 900000000 → (inlRen W b m l).length ≤ 600 * inlBulk l
  | m, [], _ => by simp [inlRen]
  | m, x :: r, h => by
    rw [inlBulk] at h ⊢
    have h0 := Inl.marks_bulk x; have h00 := inl_len_bulk x.marks
    have h1 := Inl.ren_le W hn b m x (by omega)
    have h2 := inlRen_le W hn b (m + x.marks.length) r (by omega)
    rw [inlRen, List.length_append]; omega
end
end Go.Proofs
namespace Go.Proofs
open Go Go.X Go.Lib
set_option maxRecDepth 100000
def mkN (b : Bool) (m k : Nat) : Nat := if b then m + k else m
theorem mkN_zero (b : Bool) (m : Nat) : mkN b m 0 = m := by cases b <;> rfl
theorem mkN_add (b : Bool) (m j k : Nat) : mkN b m (j + k) = mkN b (mkN b m j) k := by cases b <;> simp [mkN, Nat.add_assoc]
theorem mkN_off (m k : Nat) : mkN false m k = m := rfl
theorem mkN_one (m : Nat) : ((mkN true m 1 : Nat) : Int) = (m : Int) + 1 := by simp [mkN]
theorem mkN_le (b : Bool) (m k : Nat) : mkN b m k ≤ m + k := by cases b <;> simp [mkN]
theorem Inl.ren_mk (W : RenW) (b : Bool) (m k : Nat) (x : Inl) : x.ren W b (m + k) = x.ren W b (mkN b m k) := by
  cases b with
  | true => rfl
  | false => exact Inl.ren_off W _ _ x
set_option maxHeartbeats 4000000 in
theorem winl_ok (K : WrK) (W : RenW) (hK : WrOk K W) (b : Bool) (h : Nat) (n : Nat) : ∀ (els : List Inl), inlBulk els = n → ∀ (ia : Option Addr) (ic : Nat) (u : Bool) (a : Option Addr) (c : Nat) (o : List UInt8) (m : Nat), BxI u a c o → n ≤ 1100000 → m + n ≤ 100000000 → (b = true → m + (inlMarks els).length ≤ W.ns.length) → o.length + 2000 * n ≤ 60000000000000 →
    FnS Tryz.prog 86 [.c (.p 0 K.ab 0), .c (.sl ia els.length ic), .c (.b b)] (wrM K W u a c o m h) [inlF ia els, noteF K W, tabF, gInt 0] (WrP K W (o ++ inlRen W b m els) (mkN b m (inlMarks els).length) h) := by
  induction n using Nat.strongRecOn with | _ n ih
  intro els hn ia ic u a c o m hi hnb hmb hns ho
  have hel := inlNodes_len els
  have hnn := inlNodes_bulk els
  have hrl := inlRen_le W hK.ns b m els (by omega)
  refine fn_of_J Tryz.tyOK 7000 Tryz.func86 (by kernel_rfl) (c := Tryz.f86.body.getD .skip) (by kernel_rfl) Tryz.ntmps86 (rs := Tryz.f86.results.toList) rfl (by simp) (fun G => ?_)
  repeat' first
    | refine J_seq ?_ | refine J_region Tryz.tyOK ?_ | refine J_block ?_ | refine J_cond ?_ | refine J_ret ?_ | refine J_skip ?_ | refine J_exit ?_ | refine J_scope ?_
    | refine CondP.yes (by omega) ?_ | refine CondP.no (by omega) ?_ | refine CondP.mk (fun h => ?_) (fun h => ?_) | refine EqP.mk rfl ?_ | refine NewP.mk (fun ad => ?_) | refine ArP.exact (by simp only [inR]; omega) ?_ | refine SideP.mk (by first | omega | (dsimp only; omega) | (simp; omega)) ?_
    | fail
  refine J_loop (α := Nat × List UInt8 × Bool × Option Addr × Nat) (fun x => [(0, .c (.p 0 K.ab 0)), (2, .c (.b b)), (10, .c (.sl ia els.length ic)), (11, lenV els.length), (12, .c (.i .i64 x.1))])
    (fun x => wrM K W x.2.2.1 x.2.2.2.1 x.2.2.2.2 x.2.1 (mkN b m (inlMarks (els.take x.1)).length) h) (fun _ => [inlF ia els, noteF K W, tabF, gInt 0]) 7000 (fun x => x.1 ≤ els.length ∧ x.2.1 = o ++ inlRen W b m (els.take x.1) ∧ BxI x.2.2.1 x.2.2.2.1 x.2.2.2.2 x.2.1) (fun x => els.length - x.1)
    (InFam.mk (0, o, u, a, c) ⟨Nat.zero_le _, by simp [inlRen], hi⟩ (by repeat' first | exact SubE.nil | refine SubE.cons rfl ?_ ?_ | exact VEq.refl _ | refine VEq.int (by omega) | refine VEq.sl rfl (by first | rfl | omega | (rw [List.length_append]; rfl) | (simp; omega)) rfl) (Ents.of (by simp [inlMarks, mkN_zero]))) (fun x hx => ?_)
  obtain ⟨i, w, u, a, c⟩ := x
  obtain ⟨hi, hw, hbi⟩ := hx
  dsimp only at hi hw hbi ⊢
  by_cases hlt : i < els.length
  · have hst := inlRen_succ W b m hlt
    have hms := inlMarks_succ hlt
    have hbs := inlBulk_succ hlt
    have hbt := inlBulk_take_le els (i + 1)
    have hbe := Inl.bulk_eq els[i]
    have hmt := inlMarks_bulk (els.take i)
    have hml := inl_len_bulk (inlMarks (els.take i))
    have hrt := inlRen_le W hK.ns b m (els.take i) (by omega)
    have hwl : w.length ≤ o.length + 600 * inlBulk (els.take i) := by rw [hw, List.length_append]; omega
    rw [Inl.ren_mk] at hst
    have hmk1 : mkN b m (inlMarks (els.take (i + 1))).length = mkN b (mkN b m (inlMarks (els.take i)).length) els[i].marks.length := by rw [hms, List.length_append, mkN_add]
    have hml2 := mkN_le b m (inlMarks (els.take i)).length
    have hstep : o ++ inlRen W b m (els.take (i + 1)) = w ++ els[i].ren W b (mkN b m (inlMarks (els.take i)).length) := by rw [hst, hw, List.append_assoc]
    have hns2 : b = true → mkN b m (inlMarks (els.take i)).length + els[i].marks.length ≤ W.ns.length := fun hb => by
      have h1 := hns hb
      have h2 : (inlMarks els).length = (inlMarks (els.take (i + 1))).length + (inlMarks (els.drop (i + 1))).length := by rw [← List.length_append, ← inlMarks_append, List.take_append_drop]
      rw [hms, List.length_append] at h2
      subst hb
      simp only [mkN, if_true]; omega
    have hfk := inl_kids (a := ia) hlt
    have hcg : ((inlC els).drop (i * 6 + 0)).take 6 = els[i].cells := inlC_get (o := 0) (k := 6) hlt (by omega)
    have hrd : ∀ L, Reads L [inlF ia els, noteF K W, tabF, gInt 0] 102 6 ia els.length (inlC els) := fun _ => inl_reads (fun _ h => ⟨h.1, trivial⟩)
    generalize mkN b m (inlMarks (els.take i)).length = mm at *
    rw [← hn] at hnb hmb ho
    have hca : els[i].kids ≠ [] ∨ True := .inr trivial
    have hkb : inlBulk els[i].kids < n := by omega
    have hcb := fun u' a' c' o' => ih (inlBulk els[i].kids) hkb els[i].kids rfl els[i].ka els[i].kc u' a' c' o' mm
    clear ih hst hms hca
    have hre := Inl.ren_eq W b mm els[i]
    have hmq := Inl.marks_eq els[i]
    generalize els[i] = x at *
    unfold Inl.cells at hcg
    have hrk := inlRen_le W hK.ns b mm x.kids (by omega)
    have hml3 := mkN_le b mm (inlMarks x.kids).length
    unfold wrM wrR
    by_cases k1 : x.kind = 1
    · rw [if_pos k1] at hre
      rw [if_neg (by omega), if_neg (by omega)] at hmq
      have hes := escape_ok x.text (by omega)
      have hel2 := escT_le x.text
      have s1 := fun u' a' c' (hi' : BxI u' a' c' (w)) => bxString_ok 0 K.ab 87 u' a' c' (w) (escT x.text) [.m 1 K.am, .sl K.na W.ns.length K.nc, .i .i64 (mm : Nat), .sl K.ea K.en K.ec, .i .i64 h] btyW hi' (by first | omega | (simp; omega))
      repeat' first
        | refine J_seq ?_ | refine J_region Tryz.tyOK ?_ | refine J_block ?_ | refine J_cond ?_ | refine J_ret ?_ | refine J_skip ?_ | refine J_exit ?_ | refine J_scope ?_
        | refine CondP.yes (by omega) ?_ | refine CondP.no (by omega) ?_ | refine CondP.mk (fun h => ?_) (fun h => ?_) | refine EqP.mk rfl ?_ | refine NewP.mk (fun ad => ?_) | refine ArP.exact (by simp only [inR]; omega) ?_ | refine SideP.mk (by first | omega | (dsimp only; omega) | (simp; omega)) ?_
        | refine J_drawS (id := 5) Tryz.tyOK (by kernel_rfl) [0, 1, 3, 0, 8, 24, 63] [0, 1, 2, 3, 4, 5, 6] [5, 6] [7] false (by kernel_rfl) ?_ | refine J_drawS (id := 21) Tryz.tyOK (by kernel_rfl) [0, 1, 3, 7, 15, 0, 32, 96, 224, 0, 512, 1536, 3584, 7680, 16352, 32736, 65535, 131071, 262143] [0, 1, 2, 3, 5, 6, 7, 8, 9, 10, 11, 12, 13, 14, 15, 4, 16, 17, 18] [4, 16] [0, 93] false (by kernel_rfl) ?_ | refine EntP.mk (Ents.ofSub (by repeat (first | exact keepC_sub _ _ _ | exact List.Sublist.slnil | refine List.Sublist.cons_cons _ ?_ | refine List.Sublist.cons _ ?_)) (by first | exact fun _ h => h | exact fun _ _ => trivial | exact fun _ h => h.2 | exact fun _ h => h.2.2.2.2 | exact fun _ h => h.2.2 | exact fun _ h => h.2.2.2 | exact fun _ h => h.2.2.2.2.2 | exact fun _ h => h.2.2.2.2.2.2 | exact fun _ h => h.2.2.2.2.2.2.2 | exact fun _ h => h.2.2.2.2.2.2.2.2 | exact fun _ h => h.2.2.2.2.2.2.2.2.2 | exact fun _ h => h.2.2.2.2.2.2.2.2.2.2 | exact fun _ h => ((allD_append _ _).1 h).2)) ?_ | refine IdxE.mk 102 6 _ (hrd _) (by omega) (by omega) ?_ | refine LoadE.mk 102 els.length _ _ (hrd _) (by omega) (by omega) (by decide) (by exact hcg) ?_ | refine CallP.is hes ?_ (fun _ _ => trivial) | (refine CallP.mk _ [_, _] [] _ (s1 _ _ _ hbi) ((List.perm_append_comm (l₁ := [_]) (l₂ := [_, _])).append_right [_]) (fun _ _ => trivial) (fun v L' D' hp => ?_); obtain ⟨u1, a1, c1, hi1, rfl, rfl, rfl⟩ := hp)
        | fail
      exact Round.mk (i + 1, w ++ escT x.text, u1, a1, c1) (by dsimp only; omega) ⟨by dsimp only; omega, by dsimp only; rw [hstep, hre]; first | done | simp only [List.append_assoc, List.append_nil], hi1⟩ (by repeat' first | exact SubE.nil | refine SubE.cons rfl ?_ ?_ | exact VEq.refl _ | refine VEq.int (by omega)) (by
        dsimp only; rw [hmk1, hmq]; (first | simp only [List.length_nil, mkN_zero] | skip); exact Ents.sub ⟨[_], (List.perm_append_comm (l₁ := [_, _]) (l₂ := [_])).append_right [_]⟩)
    rw [if_neg k1] at hre
    by_cases k2 : x.kind = 2
    · rw [if_pos k2] at hre
      rw [if_neg (by omega), if_pos (by omega)] at hmq
      rw [hmq] at hns2
      have hcc := fun u' a' c' (hi' : BxI u' a' c' (w ++ [60, 98, 62])) => hcb u' a' c' (w ++ [60, 98, 62]) hi' (by omega) (by omega) hns2 (by simp; omega)
      unfold wrM wrR at hcc
      have s2 := hcc
      have s1 := fun u' a' c' (hi' : BxI u' a' c' (w)) => bxString_ok 0 K.ab 87 u' a' c' (w) [60, 98, 62] [.m 1 K.am, .sl K.na W.ns.length K.nc, .i .i64 (mm : Nat), .sl K.ea K.en K.ec, .i .i64 h] btyW hi' (by first | omega | (simp; omega))
      have s3 := fun u' a' c' (hi' : BxI u' a' c' (w ++ [60, 98, 62] ++ inlRen W b mm x.kids)) => bxString_ok 0 K.ab 87 u' a' c' (w ++ [60, 98, 62] ++ inlRen W b mm x.kids) [60, 47, 98, 62] [.m 1 K.am, .sl K.na W.ns.length K.nc, .i .i64 (mkN b mm (inlMarks x.kids).length : Nat), .sl K.ea K.en K.ec, .i .i64 h] btyW hi' (by first | omega | (simp; omega))
      repeat' first
        | refine J_seq ?_ | refine J_region Tryz.tyOK ?_ | refine J_block ?_ | refine J_cond ?_ | refine J_ret ?_ | refine J_skip ?_ | refine J_exit ?_ | refine J_scope ?_
        | refine CondP.yes (by omega) ?_ | refine CondP.no (by omega) ?_ | refine CondP.mk (fun h => ?_) (fun h => ?_) | refine EqP.mk rfl ?_ | refine NewP.mk (fun ad => ?_) | refine ArP.exact (by simp only [inR]; omega) ?_ | refine SideP.mk (by first | omega | (dsimp only; omega) | (simp; omega)) ?_
        | refine J_drawS (id := 5) Tryz.tyOK (by kernel_rfl) [0, 1, 3, 0, 8, 24, 63] [0, 1, 2, 3, 4, 5, 6] [5, 6] [7] false (by kernel_rfl) ?_ | refine J_drawS (id := 21) Tryz.tyOK (by kernel_rfl) [0, 1, 3, 7, 15, 0, 32, 96, 224, 0, 512, 1536, 3584, 7680, 16352, 32736, 65535, 131071, 262143] [0, 1, 2, 3, 5, 6, 7, 8, 9, 10, 11, 12, 13, 14, 15, 4, 16, 17, 18] [4, 16] [0, 93] false (by kernel_rfl) ?_ | refine EntP.mk (Ents.ofSub (by repeat (first | exact keepC_sub _ _ _ | exact List.Sublist.slnil | refine List.Sublist.cons_cons _ ?_ | refine List.Sublist.cons _ ?_)) (by first | exact fun _ h => h | exact fun _ _ => trivial | exact fun _ h => h.2 | exact fun _ h => h.2.2.2.2 | exact fun _ h => h.2.2 | exact fun _ h => h.2.2.2 | exact fun _ h => h.2.2.2.2.2 | exact fun _ h => h.2.2.2.2.2.2 | exact fun _ h => h.2.2.2.2.2.2.2 | exact fun _ h => h.2.2.2.2.2.2.2.2 | exact fun _ h => h.2.2.2.2.2.2.2.2.2 | exact fun _ h => h.2.2.2.2.2.2.2.2.2.2 | exact fun _ h => ((allD_append _ _).1 h).2)) ?_ | refine IdxE.mk 102 6 _ (hrd _) (by omega) (by omega) ?_ | refine LoadE.mk 102 els.length _ _ (hrd _) (by omega) (by omega) (by decide) (by exact hcg) ?_ | (refine CallP.mk _ [_, _] [] _ (s1 _ _ _ hbi) ((List.perm_append_comm (l₁ := [_]) (l₂ := [_, _])).append_right [_]) (fun _ _ => trivial) (fun v L' D' hp => ?_); obtain ⟨u1, a1, c1, hi1, rfl, rfl, rfl⟩ := hp) | (refine CallP.mk _ [_] [inlF x.ka x.kids, noteF K W, tabF, gInt 0] _ (s2 _ _ _ hi1) ((List.Perm.swap _ _ _).append_left [_, _]) (fun m h => ⟨(hfk m ⟨h.1, trivial⟩).1, h.2⟩) (fun v L' D' hp => ?_); obtain ⟨u2, a2, c2, hi2, rfl, rfl, rfl⟩ := hp; unfold wrM wrR) | (refine CallP.mk _ [_, _] [] _ (s3 _ _ _ hi2) (List.Perm.refl _) (fun _ _ => trivial) (fun v L' D' hp => ?_); obtain ⟨u3, a3, c3, hi3, rfl, rfl, rfl⟩ := hp)
        | fail
      exact Round.mk (i + 1, w ++ [60, 98, 62] ++ inlRen W b mm x.kids ++ [60, 47, 98, 62], u3, a3, c3) (by dsimp only; omega) ⟨by dsimp only; omega, by dsimp only; rw [hstep, hre]; first | done | simp only [List.append_assoc, List.append_nil], hi3⟩ (by repeat' first | exact SubE.nil | refine SubE.cons rfl ?_ ?_ | exact VEq.refl _ | refine VEq.int (by omega)) (by
        dsimp only; rw [hmk1, hmq]; (first | simp only [List.length_nil, mkN_zero] | skip); exact Ents.sub ⟨[_], List.perm_append_comm (l₁ := [_, _, _]) (l₂ := [_])⟩)
    rw [if_neg k2] at hre
    by_cases k3 : x.kind = 3
    · rw [if_pos k3] at hre
      rw [if_neg (by omega), if_pos (by omega)] at hmq
      rw [hmq] at hns2
      have hcc := fun u' a' c' (hi' : BxI u' a' c' (w ++ [60, 105, 62])) => hcb u' a' c' (w ++ [60, 105, 62]) hi' (by omega) (by omega) hns2 (by simp; omega)
      unfold wrM wrR at hcc
      have s2 := hcc
      have s1 := fun u' a' c' (hi' : BxI u' a' c' (w)) => bxString_ok 0 K.ab 87 u' a' c' (w) [60, 105, 62] [.m 1 K.am, .sl K.na W.ns.length K.nc, .i .i64 (mm : Nat), .sl K.ea K.en K.ec, .i .i64 h] btyW hi' (by first | omega | (simp; omega))
      have s3 := fun u' a' c' (hi' : BxI u' a' c' (w ++ [60, 105, 62] ++ inlRen W b mm x.kids)) => bxString_ok 0 K.ab 87 u' a' c' (w ++ [60, 105, 62] ++ inlRen W b mm x.kids) [60, 47, 105, 62] [.m 1 K.am, .sl K.na W.ns.length K.nc, .i .i64 (mkN b mm (inlMarks x.kids).length : Nat), .sl K.ea K.en K.ec, .i .i64 h] btyW hi' (by first | omega | (simp; omega))
      repeat' first
        | refine J_seq ?_ | refine J_region Tryz.tyOK ?_ | refine J_block ?_ | refine J_cond ?_ | refine J_ret ?_ | refine J_skip ?_ | refine J_exit ?_ | refine J_scope ?_
        | refine CondP.yes (by omega) ?_ | refine CondP.no (by omega) ?_ | refine CondP.mk (fun h => ?_) (fun h => ?_) | refine EqP.mk rfl ?_ | refine NewP.mk (fun ad => ?_) | refine ArP.exact (by simp only [inR]; omega) ?_ | refine SideP.mk (by first | omega | (dsimp only; omega) | (simp; omega)) ?_
        | refine J_drawS (id := 5) Tryz.tyOK (by kernel_rfl) [0, 1, 3, 0, 8, 24, 63] [0, 1, 2, 3, 4, 5, 6] [5, 6] [7] false (by kernel_rfl) ?_ | refine J_drawS (id := 21) Tryz.tyOK (by kernel_rfl) [0, 1, 3, 7, 15, 0, 32, 96, 224, 0, 512, 1536, 3584, 7680, 16352, 32736, 65535, 131071, 262143] [0, 1, 2, 3, 5, 6, 7, 8, 9, 10, 11, 12, 13, 14, 15, 4, 16, 17, 18] [4, 16] [0, 93] false (by kernel_rfl) ?_ | refine EntP.mk (Ents.ofSub (by repeat (first | exact keepC_sub _ _ _ | exact List.Sublist.slnil | refine List.Sublist.cons_cons _ ?_ | refine List.Sublist.cons _ ?_)) (by first | exact fun _ h => h | exact fun _ _ => trivial | exact fun _ h => h.2 | exact fun _ h => h.2.2.2.2 | exact fun _ h => h.2.2 | exact fun _ h => h.2.2.2 | exact fun _ h => h.2.2.2.2.2 | exact fun _ h => h.2.2.2.2.2.2 | exact fun _ h => h.2.2.2.2.2.2.2 | exact fun _ h => h.2.2.2.2.2.2.2.2 | exact fun _ h => h.2.2.2.2.2.2.2.2.2 | exact fun _ h => h.2.2.2.2.2.2.2.2.2.2 | exact fun _ h => ((allD_append _ _).1 h).2)) ?_ | refine IdxE.mk 102 6 _ (hrd _) (by omega) (by omega) ?_ | refine LoadE.mk 102 els.length _ _ (hrd _) (by omega) (by omega) (by decide) (by exact hcg) ?_ | (refine CallP.mk _ [_, _] [] _ (s1 _ _ _ hbi) ((List.perm_append_comm (l₁ := [_]) (l₂ := [_, _])).append_right [_]) (fun _ _ => trivial) (fun v L' D' hp => ?_); obtain ⟨u1, a1, c1, hi1, rfl, rfl, rfl⟩ := hp) | (refine CallP.mk _ [_] [inlF x.ka x.kids, noteF K W, tabF, gInt 0] _ (s2 _ _ _ hi1) ((List.Perm.swap _ _ _).append_left [_, _]) (fun m h => ⟨(hfk m ⟨h.1, trivial⟩).1, h.2⟩) (fun v L' D' hp => ?_); obtain ⟨u2, a2, c2, hi2, rfl, rfl, rfl⟩ := hp; unfold wrM wrR) | (refine CallP.mk _ [_, _] [] _ (s3 _ _ _ hi2) (List.Perm.refl _) (fun _ _ => trivial) (fun v L' D' hp => ?_); obtain ⟨u3, a3, c3, hi3, rfl, rfl, rfl⟩ := hp)
        | fail
      exact Round.mk (i + 1, w ++ [60, 105, 62] ++ inlRen W b mm x.kids ++ [60, 47, 105, 62], u3, a3, c3) (by dsimp only; omega) ⟨by dsimp only; omega, by dsimp only; rw [hstep, hre]; first | done | simp only [List.append_assoc, List.append_nil], hi3⟩ (by repeat' first | exact SubE.nil | refine SubE.cons rfl ?_ ?_ | exact VEq.refl _ | refine VEq.int (by omega)) (by
        dsimp only; rw [hmk1, hmq]; (first | simp only [List.length_nil, mkN_zero] | skip); exact Ents.sub ⟨[_], List.perm_append_comm (l₁ := [_, _, _]) (l₂ := [_])⟩)
    rw [if_neg k3] at hre
    by_cases k4 : x.kind = 4
    · rw [if_pos k4] at hre
      rw [if_neg (by omega), if_pos (by omega)] at hmq
      rw [hmq] at hns2
      have hb9 : x.bulk ≤ 1100000 := by omega
      have sl := link_ok K W hK b x mm h (mkN b mm (inlMarks x.kids).length) hb9 [inlF ia els, noteF K W, tabF, gInt 0] (fun m h => ⟨(hfk m ⟨h.1, trivial⟩).1, h.2⟩) (60000000000000 - 2000 * inlBulk x.kids) (by omega)
        (fun u' a' c' o' hi' ho' => hcb u' a' c' o' hi' (by omega) (by omega) hns2 (by omega)) (by omega) u a c w hbi (by omega)
      unfold wrM wrR Inl.cells at sl
      repeat' first
        | refine J_seq ?_ | refine J_region Tryz.tyOK ?_ | refine J_block ?_ | refine J_cond ?_ | refine J_ret ?_ | refine J_skip ?_ | refine J_exit ?_ | refine J_scope ?_
        | refine CondP.yes (by omega) ?_ | refine CondP.no (by omega) ?_ | refine CondP.mk (fun h => ?_) (fun h => ?_) | refine EqP.mk rfl ?_ | refine NewP.mk (fun ad => ?_) | refine ArP.exact (by simp only [inR]; omega) ?_ | refine SideP.mk (by first | omega | (dsimp only; omega) | (simp; omega)) ?_
        | refine J_drawS (id := 5) Tryz.tyOK (by kernel_rfl) [0, 1, 3, 0, 8, 24, 63] [0, 1, 2, 3, 4, 5, 6] [5, 6] [7] false (by kernel_rfl) ?_ | refine J_drawS (id := 21) Tryz.tyOK (by kernel_rfl) [0, 1, 3, 7, 15, 0, 32, 96, 224, 0, 512, 1536, 3584, 7680, 16352, 32736, 65535, 131071, 262143] [0, 1, 2, 3, 5, 6, 7, 8, 9, 10, 11, 12, 13, 14, 15, 4, 16, 17, 18] [4, 16] [0, 93] false (by kernel_rfl) ?_ | refine EntP.mk (Ents.ofSub (by repeat (first | exact keepC_sub _ _ _ | exact List.Sublist.slnil | refine List.Sublist.cons_cons _ ?_ | refine List.Sublist.cons _ ?_)) (by first | exact fun _ h => h | exact fun _ _ => trivial | exact fun _ h => h.2 | exact fun _ h => h.2.2.2.2 | exact fun _ h => h.2.2 | exact fun _ h => h.2.2.2 | exact fun _ h => h.2.2.2.2.2 | exact fun _ h => h.2.2.2.2.2.2 | exact fun _ h => h.2.2.2.2.2.2.2 | exact fun _ h => h.2.2.2.2.2.2.2.2 | exact fun _ h => h.2.2.2.2.2.2.2.2.2 | exact fun _ h => h.2.2.2.2.2.2.2.2.2.2 | exact fun _ h => ((allD_append _ _).1 h).2)) ?_ | refine IdxE.mk 102 6 _ (hrd _) (by omega) (by omega) ?_ | refine LoadE.mk 102 els.length _ _ (hrd _) (by omega) (by omega) (by decide) (by exact hcg) ?_ | (refine CallP.mk _ [_] [inlF ia els, noteF K W, tabF, gInt 0] _ sl (List.perm_append_comm (l₁ := [_]) (l₂ := [_, _, _])) (fun _ h => h) (fun v L' D' hp => ?_); obtain ⟨u1, a1, c1, hi1, rfl, rfl, rfl⟩ := hp; unfold wrM wrR)
        | fail
      exact Round.mk (i + 1, w ++ lnkOpen (W.P (x.sp, x.name)) (lnkPath x.sp x.name x.anchor) ++ inlRen W b mm x.kids ++ [60, 47, 97, 62], u1, a1, c1) (by dsimp only; omega) ⟨by dsimp only; omega, by dsimp only; rw [hstep, hre]; first | done | simp only [List.append_assoc, List.append_nil], hi1⟩ (by repeat' first | exact SubE.nil | refine SubE.cons rfl ?_ ?_ | exact VEq.refl _ | refine VEq.int (by omega)) (by
        dsimp only; rw [hmk1, hmq]; (first | simp only [List.length_nil, mkN_zero] | skip); exact Ents.sub ⟨[_], List.perm_append_comm (l₁ := [_, _, _]) (l₂ := [_])⟩)
    rw [if_neg k4] at hre
    by_cases k6 : x.kind = 6
    · rw [if_neg (by omega), if_pos k6] at hre
      rw [if_neg (by omega), if_neg (by omega)] at hmq
      have s1 := fun u' a' c' (hi' : BxI u' a' c' (w)) => bxString_ok 0 K.ab 87 u' a' c' (w) [60, 98, 114, 62] [.m 1 K.am, .sl K.na W.ns.length K.nc, .i .i64 (mm : Nat), .sl K.ea K.en K.ec, .i .i64 h] btyW hi' (by first | omega | (simp; omega))
      repeat' first
        | refine J_seq ?_ | refine J_region Tryz.tyOK ?_ | refine J_block ?_ | refine J_cond ?_ | refine J_ret ?_ | refine J_skip ?_ | refine J_exit ?_ | refine J_scope ?_
        | refine CondP.yes (by omega) ?_ | refine CondP.no (by omega) ?_ | refine CondP.mk (fun h => ?_) (fun h => ?_) | refine EqP.mk rfl ?_ | refine NewP.mk (fun ad => ?_) | refine ArP.exact (by simp only [inR]; omega) ?_ | refine SideP.mk (by first | omega | (dsimp only; omega) | (simp; omega)) ?_
        | refine J_drawS (id := 5) Tryz.tyOK (by kernel_rfl) [0, 1, 3, 0, 8, 24, 63] [0, 1, 2, 3, 4, 5, 6] [5, 6] [7] false (by kernel_rfl) ?_ | refine J_drawS (id := 21) Tryz.tyOK (by kernel_rfl) [0, 1, 3, 7, 15, 0, 32, 96, 224, 0, 512, 1536, 3584, 7680, 16352, 32736, 65535, 131071, 262143] [0, 1, 2, 3, 5, 6, 7, 8, 9, 10, 11, 12, 13, 14, 15, 4, 16, 17, 18] [4, 16] [0, 93] false (by kernel_rfl) ?_ | refine EntP.mk (Ents.ofSub (by repeat (first | exact keepC_sub _ _ _ | exact List.Sublist.slnil | refine List.Sublist.cons_cons _ ?_ | refine List.Sublist.cons _ ?_)) (by first | exact fun _ h => h | exact fun _ _ => trivial | exact fun _ h => h.2 | exact fun _ h => h.2.2.2.2 | exact fun _ h => h.2.2 | exact fun _ h => h.2.2.2 | exact fun _ h => h.2.2.2.2.2 | exact fun _ h => h.2.2.2.2.2.2 | exact fun _ h => h.2.2.2.2.2.2.2 | exact fun _ h => h.2.2.2.2.2.2.2.2 | exact fun _ h => h.2.2.2.2.2.2.2.2.2 | exact fun _ h => h.2.2.2.2.2.2.2.2.2.2 | exact fun _ h => ((allD_append _ _).1 h).2)) ?_ | refine IdxE.mk 102 6 _ (hrd _) (by omega) (by omega) ?_ | refine LoadE.mk 102 els.length _ _ (hrd _) (by omega) (by omega) (by decide) (by exact hcg) ?_ | (refine CallP.mk _ [_, _] [] _ (s1 _ _ _ hbi) ((List.perm_append_comm (l₁ := [_]) (l₂ := [_, _])).append_right [_]) (fun _ _ => trivial) (fun v L' D' hp => ?_); obtain ⟨u1, a1, c1, hi1, rfl, rfl, rfl⟩ := hp)
        | fail
      exact Round.mk (i + 1, w ++ [60, 98, 114, 62], u1, a1, c1) (by dsimp only; omega) ⟨by dsimp only; omega, by dsimp only; rw [hstep, hre]; first | done | simp only [List.append_assoc, List.append_nil], hi1⟩ (by repeat' first | exact SubE.nil | refine SubE.cons rfl ?_ ?_ | exact VEq.refl _ | refine VEq.int (by omega)) (by
        dsimp only; rw [hmk1, hmq]; (first | simp only [List.length_nil, mkN_zero] | skip); exact Ents.sub ⟨[_], (List.perm_append_comm (l₁ := [_, _]) (l₂ := [_])).append_right [_]⟩)
    by_cases k5 : x.kind = 5
    · rw [if_pos k5] at hre hmq
      cases b with
      | false =>
        rw [if_neg (by decide)] at hre
        repeat' first
          | refine J_seq ?_ | refine J_region Tryz.tyOK ?_ | refine J_block ?_ | refine J_cond ?_ | refine J_ret ?_ | refine J_skip ?_ | refine J_exit ?_ | refine J_scope ?_
          | refine CondP.yes (by omega) ?_ | refine CondP.no (by omega) ?_ | refine CondP.mk (fun h => ?_) (fun h => ?_) | refine EqP.mk rfl ?_ | refine NewP.mk (fun ad => ?_) | refine ArP.exact (by simp only [inR]; omega) ?_ | refine SideP.mk (by first | omega | (dsimp only; omega) | (simp; omega)) ?_
          | refine J_drawS (id := 5) Tryz.tyOK (by kernel_rfl) [0, 1, 3, 0, 8, 24, 63] [0, 1, 2, 3, 4, 5, 6] [5, 6] [7] false (by kernel_rfl) ?_ | refine J_drawS (id := 21) Tryz.tyOK (by kernel_rfl) [0, 1, 3, 7, 15, 0, 32, 96, 224, 0, 512, 1536, 3584, 7680, 16352, 32736, 65535, 131071, 262143] [0, 1, 2, 3, 5, 6, 7, 8, 9, 10, 11, 12, 13, 14, 15, 4, 16, 17, 18] [4, 16] [0, 93] false (by kernel_rfl) ?_ | refine EntP.mk (Ents.ofSub (by repeat (first | exact keepC_sub _ _ _ | exact List.Sublist.slnil | refine List.Sublist.cons_cons _ ?_ | refine List.Sublist.cons _ ?_)) (by first | exact fun _ h => h | exact fun _ _ => trivial | exact fun _ h => h.2 | exact fun _ h => h.2.2.2.2 | exact fun _ h => h.2.2 | exact fun _ h => h.2.2.2 | exact fun _ h => h.2.2.2.2.2 | exact fun _ h => h.2.2.2.2.2.2 | exact fun _ h => h.2.2.2.2.2.2.2 | exact fun _ h => h.2.2.2.2.2.2.2.2 | exact fun _ h => h.2.2.2.2.2.2.2.2.2 | exact fun _ h => h.2.2.2.2.2.2.2.2.2.2 | exact fun _ h => ((allD_append _ _).1 h).2)) ?_ | refine IdxE.mk 102 6 _ (hrd _) (by omega) (by omega) ?_ | refine LoadE.mk 102 els.length _ _ (hrd _) (by omega) (by omega) (by decide) (by exact hcg) ?_
          | fail
        exact Round.mk (i + 1, w, u, a, c) (by dsimp only; omega) ⟨by dsimp only; omega, by dsimp only; rw [hstep, hre]; first | done | simp only [List.append_assoc, List.append_nil], hbi⟩ (by repeat' first | exact SubE.nil | refine SubE.cons rfl ?_ ?_ | exact VEq.refl _ | refine VEq.int (by omega)) (by
          dsimp only; rw [hmk1, hmq]; (rw [mkN_off]); exact Ents.sub ⟨[_], List.Perm.refl _⟩)
      | true =>
        rw [if_pos rfl] at hre
        rw [hmq] at hns2
        have hnl : mm < W.ns.length := hns2 rfl
        have hjb := getD_b hK.ns mm
        have hgn : ((W.ns.map (C.i .i64)).drop (((mm : Int) + 1 - 1).toNat * 1 + 0)).take 1 = [.i .i64 (W.ns.getD mm 0)] := by
          rw [show ((mm : Int) + 1 - 1).toNat * 1 + 0 = mm by omega, ← List.map_drop, ← List.map_take, List.drop_eq_getElem_cons hnl, List.getD_eq_getElem?_getD, List.getElem?_eq_getElem hnl]; rfl
        have hrn : ∀ L, Reads L [inlF ia els, noteF K W, tabF, gInt 0] 3 1 K.na W.ns.length (W.ns.map (C.i .i64)) := fun _ => .inr fun m hm => hm.2.1
        generalize W.ns.getD mm 0 = j at *
        have hi1 := itoaBig_ok ((mm : Int) + 1) (by omega) (by omega)
        have hi2 := itoaBig_ok j (by omega) (by omega)
        have il1 := itoa_le (n := (mm : Int) + 1) (by omega) (by omega)
        have il2 := itoa_le (n := j) (by omega) (by omega)
        have hsl := supT_le (k := (mm : Int) + 1) (j := j) (by omega) (by omega) (by omega) (by omega)
        have s1 := fun u' a' c' (hi' : BxI u' a' c' (w)) => bxString_ok 0 K.ab 87 u' a' c' (w) (supT ((mm : Int) + 1) j) [.m 1 K.am, .sl K.na W.ns.length K.nc, .i .i64 ((mm : Int) + 1), .sl K.ea K.en K.ec, .i .i64 h] btyW hi' (by omega)
        repeat' first
          | refine J_seq ?_ | refine J_region Tryz.tyOK ?_ | refine J_block ?_ | refine J_cond ?_ | refine J_ret ?_ | refine J_skip ?_ | refine J_exit ?_ | refine J_scope ?_
          | refine CondP.yes (by omega) ?_ | refine CondP.no (by omega) ?_ | refine CondP.mk (fun h => ?_) (fun h => ?_) | refine EqP.mk rfl ?_ | refine NewP.mk (fun ad => ?_) | refine ArP.exact (by simp only [inR]; omega) ?_ | refine SideP.mk (by first | omega | (dsimp only; omega) | (simp; omega)) ?_
          | refine J_drawS (id := 5) Tryz.tyOK (by kernel_rfl) [0, 1, 3, 0, 8, 24, 63] [0, 1, 2, 3, 4, 5, 6] [5, 6] [7] false (by kernel_rfl) ?_ | refine J_drawS (id := 21) Tryz.tyOK (by kernel_rfl) [0, 1, 3, 7, 15, 0, 32, 96, 224, 0, 512, 1536, 3584, 7680, 16352, 32736, 65535, 131071, 262143] [0, 1, 2, 3, 5, 6, 7, 8, 9, 10, 11, 12, 13, 14, 15, 4, 16, 17, 18] [4, 16] [0, 93] false (by kernel_rfl) ?_ | refine EntP.mk (Ents.ofSub (by repeat (first | exact keepC_sub _ _ _ | exact List.Sublist.slnil | refine List.Sublist.cons_cons _ ?_ | refine List.Sublist.cons _ ?_)) (by first | exact fun _ h => h | exact fun _ _ => trivial | exact fun _ h => h.2 | exact fun _ h => h.2.2.2.2 | exact fun _ h => h.2.2 | exact fun _ h => h.2.2.2 | exact fun _ h => h.2.2.2.2.2 | exact fun _ h => h.2.2.2.2.2.2 | exact fun _ h => h.2.2.2.2.2.2.2 | exact fun _ h => h.2.2.2.2.2.2.2.2 | exact fun _ h => h.2.2.2.2.2.2.2.2.2 | exact fun _ h => h.2.2.2.2.2.2.2.2.2.2 | exact fun _ h => ((allD_append _ _).1 h).2)) ?_ | refine IdxE.mk 102 6 _ (hrd _) (by omega) (by omega) ?_ | refine LoadE.mk 102 els.length _ _ (hrd _) (by omega) (by omega) (by decide) (by exact hcg) ?_ | refine IdxE.mk 3 1 _ (hrn _) (by omega) (by omega) ?_ | refine LoadE.mk 3 W.ns.length _ _ (hrn _) (by omega) (by omega) (by decide) (by exact hgn) ?_ | refine CallP.is hi1 ?_ (fun _ h => ⟨h.2.2.1, trivial⟩) | refine CallP.is hi2 ?_ (fun _ h => ⟨h.2.2.1, trivial⟩) | (refine CallP.mk _ [_, _] [] _ (s1 _ _ _ hbi) ((List.perm_append_comm (l₁ := [_]) (l₂ := [_, _])).append_right [_]) (fun _ _ => trivial) (fun v L' D' hp => ?_); obtain ⟨u1, a1, c1, hi1, rfl, rfl, rfl⟩ := hp)
          | fail
        exact Round.mk (i + 1, w ++ supT ((mm : Int) + 1) j, u1, a1, c1) (by dsimp only; omega) ⟨by dsimp only; omega, by dsimp only; rw [hstep, hre]; first | done | simp only [List.append_assoc, List.append_nil], hi1⟩ (by repeat' first | exact SubE.nil | refine SubE.cons rfl ?_ ?_ | exact VEq.refl _ | refine VEq.int (by omega)) (by
          dsimp only; rw [hmk1, hmq]; (rw [List.length_singleton]; show Ents _ _ (bx _ _ _ _ _ _ _ [_, _, .i .i64 ((mkN true mm 1 : Nat) : Int), _, _] ++ _) _; rw [mkN_one]); exact Ents.sub ⟨[_], (List.perm_append_comm (l₁ := [_, _]) (l₂ := [_])).append_right [_]⟩)
    · rw [if_neg k5, if_neg k6] at hre
      rw [if_neg k5, if_neg (by omega)] at hmq
      repeat' first
        | refine J_seq ?_ | refine J_region Tryz.tyOK ?_ | refine J_block ?_ | refine J_cond ?_ | refine J_ret ?_ | refine J_skip ?_ | refine J_exit ?_ | refine J_scope ?_
        | refine CondP.yes (by omega) ?_ | refine CondP.no (by omega) ?_ | refine CondP.mk (fun h => ?_) (fun h => ?_) | refine EqP.mk rfl ?_ | refine NewP.mk (fun ad => ?_) | refine ArP.exact (by simp only [inR]; omega) ?_ | refine SideP.mk (by first | omega | (dsimp only; omega) | (simp; omega)) ?_
        | refine J_drawS (id := 5) Tryz.tyOK (by kernel_rfl) [0, 1, 3, 0, 8, 24, 63] [0, 1, 2, 3, 4, 5, 6] [5, 6] [7] false (by kernel_rfl) ?_ | refine J_drawS (id := 21) Tryz.tyOK (by kernel_rfl) [0, 1, 3, 7, 15, 0, 32, 96, 224, 0, 512, 1536, 3584, 7680, 16352, 32736, 65535, 131071, 262143] [0, 1, 2, 3, 5, 6, 7, 8, 9, 10, 11, 12, 13, 14, 15, 4, 16, 17, 18] [4, 16] [0, 93] false (by kernel_rfl) ?_ | refine EntP.mk (Ents.ofSub (by repeat (first | exact keepC_sub _ _ _ | exact List.Sublist.slnil | refine List.Sublist.cons_cons _ ?_ | refine List.Sublist.cons _ ?_)) (by first | exact fun _ h => h | exact fun _ _ => trivial | exact fun _ h => h.2 | exact fun _ h => h.2.2.2.2 | exact fun _ h => h.2.2 | exact fun _ h => h.2.2.2 | exact fun _ h => h.2.2.2.2.2 | exact fun _ h => h.2.2.2.2.2.2 | exact fun _ h => h.2.2.2.2.2.2.2 | exact fun _ h => h.2.2.2.2.2.2.2.2 | exact fun _ h => h.2.2.2.2.2.2.2.2.2 | exact fun _ h => h.2.2.2.2.2.2.2.2.2.2 | exact fun _ h => ((allD_append _ _).1 h).2)) ?_ | refine IdxE.mk 102 6 _ (hrd _) (by omega) (by omega) ?_ | refine LoadE.mk 102 els.length _ _ (hrd _) (by omega) (by omega) (by decide) (by exact hcg) ?_
        | fail
      exact Round.mk (i + 1, w, u, a, c) (by dsimp only; omega) ⟨by dsimp only; omega, by dsimp only; rw [hstep, hre]; first | done | simp only [List.append_assoc, List.append_nil], hbi⟩ (by repeat' first | exact SubE.nil | refine SubE.cons rfl ?_ ?_ | exact VEq.refl _ | refine VEq.int (by omega)) (by
        dsimp only; rw [hmk1, hmq]; (first | simp only [List.length_nil, mkN_zero] | skip); exact Ents.sub ⟨[_], List.Perm.refl _⟩)
  · have hil : i = els.length := by omega
    subst hil
    rw [List.take_length] at hw ⊢
    subst hw
    unfold wrM wrR
    repeat' first
      | refine J_seq ?_ | refine J_region Tryz.tyOK ?_ | refine J_block ?_ | refine J_cond ?_ | refine J_ret ?_ | refine J_skip ?_ | refine J_exit ?_ | refine J_scope ?_
      | refine CondP.yes (by omega) ?_ | refine CondP.no (by omega) ?_ | refine CondP.mk (fun h => ?_) (fun h => ?_) | refine EqP.mk rfl ?_ | refine NewP.mk (fun ad => ?_) | refine ArP.exact (by simp only [inR]; omega) ?_ | refine SideP.mk (by first | omega | (dsimp only; omega) | (simp; omega)) ?_
      | fail
    exact FinE.mk (wrM K W u a c (o ++ inlRen W b m els) (mkN b m (inlMarks els).length) h) [] ⟨u, a, c, hbi, rfl, rfl, rfl⟩ (Ents.facts fun _ _ => trivial)
end Go.Proofs
namespace Go.Proofs
open Go Go.X Go.Lib
set_option maxRecDepth 100000
theorem skipB_ok (K : WrK) (W : RenW) (h : Nat) (bs : List Blk) (ba : Option Addr) (bc : Nat) (hb : blkBulk bs ≤ 2000000) (u : Bool) (a : Option Addr) (c : Nat) (o : List UInt8) (m : Nat) (hi : BxI u a c o) (hm : m ≤ 1000000000) :
    FnS Tryz.prog 161 [.c (.p 0 K.ab 0), .c (.sl ba bs.length bc)] (wrM K W u a c o m h) [blkF ba bs] (WrP K W o (m + (blkMarks bs).length) h) := by
  have h1 := blkMarks_bulk bs
  have h2 := inl_len_bulk (blkMarks bs)
  have hca := marksAll_ok _ bs rfl ba bc (by omega)
  unfold wrM wrR
  refine fn_of_J Tryz.tyOK 7000 Tryz.func161 (by kernel_rfl) (c := Tryz.f161.body.getD .skip) (by kernel_rfl) Tryz.ntmps161 (rs := Tryz.f161.results.toList) rfl (by simp) (fun G => ?_)
  repeat' first
    | refine J_seq ?_ | refine J_region Tryz.tyOK ?_ | refine J_block ?_ | refine J_cond ?_ | refine J_ret ?_ | refine J_skip ?_ | refine J_exit ?_ | refine J_scope ?_
    | refine CondP.yes (by omega) ?_ | refine CondP.no (by omega) ?_ | refine CondP.mk (fun h => ?_) (fun h => ?_) | refine EqP.mk rfl ?_ | refine NewP.mk (fun ad => ?_) | refine ArP.exact (by simp only [inR]; omega) ?_ | refine SideP.mk (by first | omega | (dsimp only; omega) | (simp; omega)) ?_
    | refine J_drawU (id := 0) Tryz.tyOK (by kernel_rfl) [0, 1, 3, 7, 0, 16, 48, 127, 255, 511, 1023] (.fork [0, 1, 2, 3, 4] (.alt 5 (.leaf [6, 7, 8, 9, 10]) (.stop))) [5, 10] [0] 10 false (by kernel_rfl) ?_ | refine TwoP.mk ?_ ?_ | refine GoP.mk (by repeat (first | exact keepC_sub _ _ _ | exact List.Sublist.slnil | refine List.Sublist.cons_cons _ ?_ | refine List.Sublist.cons _ ?_)) (by first | exact fun _ h => h | exact fun _ h => h.2 | exact fun _ h => ((allD_append _ _).1 h).2) ?_ | exact trivial | refine EntP.mk (Ents.ofSub (by repeat (first | exact keepC_sub _ _ _ | exact List.Sublist.slnil | refine List.Sublist.cons_cons _ ?_ | refine List.Sublist.cons _ ?_)) (by first | exact fun _ h => h | exact fun _ _ => trivial | exact fun _ h => h.2 | exact fun _ h => h.2.2.2.2 | exact fun _ h => h.2.2 | exact fun _ h => h.2.2.2 | exact fun _ h => h.2.2.2.2.2 | exact fun _ h => h.2.2.2.2.2.2 | exact fun _ h => h.2.2.2.2.2.2.2 | exact fun _ h => h.2.2.2.2.2.2.2.2 | exact fun _ h => h.2.2.2.2.2.2.2.2.2 | exact fun _ h => h.2.2.2.2.2.2.2.2.2.2 | exact fun _ h => ((allD_append _ _).1 h).2)) ?_ | (refine CallP.mk [] _ [blkF ba bs] _ hca (List.Perm.refl _) (fun _ h => h) (fun v L' D' hp => ?_); obtain ⟨a1, c1, es, he, rfl, rfl, rfl⟩ := hp; have hle := era_len he)
    | fail
  exact FinE.mk (wrM K W u a c o (m + (blkMarks bs).length) h) [] ⟨u, a, c, hi, rfl, rfl, rfl⟩ ((Ents.of (by rw [← hle]; rfl)).trans (Ents.facts fun _ _ => trivial))
end Go.Proofs
namespace Go.Proofs
open Go Go.X Go.Lib
set_option maxRecDepth 100000
theorem Blk.ren_eq (W : RenW) (top : Bool) (m h : Nat) (x : Blk) : x.ren W top m h =
    (if x.kind = 1 then [60, 104] ++ itoa (hLvl x.level) ++ hId W top h ++ [62] ++ inlRen W true m x.inl ++ [60, 47, 104] ++ itoa (hLvl x.level) ++ [62, 10]
    else if x.kind = 2 then [60, 112, 62] ++ inlRen W true m x.inl ++ [60, 47, 112, 62, 10]
    else if x.kind = 5 then [60, 104, 114, 62, 10]
    else if x.kind = 6 then [60, 112, 114, 101, 62] ++ escT x.text ++ [60, 47, 112, 114, 101, 62, 10]
    else if x.kind = 3 then (if x.level = 1 then [60, 111, 108, 62, 10] else [60, 117, 108, 62, 10]) ++ blksRen W false (m + (inlMarks x.inl).length) h x.kids ++ (if x.level = 1 then [60, 47, 111, 108, 62, 10] else [60, 47, 117, 108, 62, 10])
    else if x.kind = 4 then [60, 108, 105, 62] ++ inlRen W true m x.inl ++ (if x.kids = [] then [] else 10 :: blksRen W false (m + (inlMarks x.inl).length) h x.kids) ++ [60, 47, 108, 105, 62, 10]
    else if x.kind = 7 then [60, 116, 97, 98, 108, 101, 62, 10] ++ blksRen W false (m + (inlMarks x.inl).length) h x.kids ++ [60, 47, 116, 97, 98, 108, 101, 62, 10]
    else if x.kind = 8 then [60, 116, 114, 62] ++ blksRen W false (m + (inlMarks x.inl).length) h x.kids ++ [60, 47, 116, 114, 62, 10]
    else if x.kind = 9 then (if x.level = 1 then [60, 116, 104, 62] else [60, 116, 100, 62]) ++ inlRen W true m x.inl ++ (if x.level = 1 then [60, 47, 116, 104, 62] else [60, 47, 116, 100, 62])
    else []) := by
  cases x; rw [Blk.ren]; rfl
theorem hLvl_b (v : Int) : 1 ≤ hLvl v ∧ hLvl v ≤ 6 := by unfold hLvl; omega
theorem hdsN_le : ∀ bs : List Blk, hdsN bs ≤ bs.length
  | [] => Nat.le_refl _
  | x :: r => by have := hdsN_le r; rw [hdsN, List.length_cons]; split <;> omega
theorem hdsN_append : ∀ l k : List Blk, hdsN (l ++ k) = hdsN l + hdsN k
  | [], k => by simp [hdsN]
  | x :: r, k => by simp only [List.cons_append, hdsN, hdsN_append r k]; omega
theorem contT_hds (bs : List Blk) : (contT bs).length = hdsN bs := by
  have key : ∀ i, i ≤ bs.length → (contT (bs.take i)).length = hdsN (bs.take i) := fun i => by
    induction i with
    | zero => intro _; simp [contT, hdsN]
    | succ i ih =>
      intro h
      rw [contT_succ (by omega), List.take_succ_eq_append_getElem (by omega), hdsN_append]
      have := ih (by omega)
      unfold addE
      split
      · rename_i hk; simp only [List.length_append, List.length_singleton, hdsN, if_pos hk]; omega
      · rename_i hk; simp only [hdsN, if_neg hk]; omega
  have := key bs.length (Nat.le_refl _)
  rwa [List.take_length] at this
mutual
theorem Blk.ren_le (W : RenW) (hn : ∀ j ∈ W.ns, 0 ≤ j ∧ j ≤ 100000000) (A : Nat) (hA : ∀ i, (hId W true i).length ≤ A) : ∀ (top : Bool) (m h : Nat) (x : Blk), m + x.bulk ≤ 900000000 → (x.ren W top m h).length ≤ 700 * x.bulk + (if top = true ∧ x.kind = 1 then A else 0)
  | top, m, h, .mk k v t ia ic inl ka kc kids, hb => by
    rw [Blk.bulk] at hb
    have h1 := inlRen_le W hn true m inl (by omega)
    have h2 := blksRen_le W hn A hA false (m + (inlMarks inl).length) h kids (by have := inlMarks_bulk inl; have := inl_len_bulk (inlMarks inl); omega)
    have h3 := itoa_le (n := hLvl v) (by have := hLvl_b v; omega) (by have := hLvl_b v; omega)
    have h4 := escT_le t
    simp only [Bool.false_eq_true, if_false, Nat.add_zero] at h2
    rw [Blk.ren, Blk.bulk]
    by_cases k1 : k = 1
    · rw [if_pos k1]
      have hid : (hId W top h).length ≤ (if top = true ∧ (Blk.mk k v t ia ic inl ka kc kids).kind = 1 then A else 0) := by
        cases top with
        | true => rw [if_pos ⟨rfl, k1⟩]; exact hA h
        | false => exact Nat.zero_le _
      simp only [List.length_append, List.length_cons, List.length_nil]; omega
    rw [if_neg k1]
    have hz : ∀ z : Nat, z ≤ 700 * (1 + t.length + inlBulk inl + blkBulk kids) → z ≤ 700 * (1 + t.length + inlBulk inl + blkBulk kids) + (if top = true ∧ (Blk.mk k v t ia ic inl ka kc kids).kind = 1 then A else 0) := fun z hz => Nat.le_trans hz (Nat.le_add_right _ _)
    refine hz _ ?_
    clear hz
    split
    · simp only [List.length_append, List.length_cons, List.length_nil]; omega
    split
    · simp only [List.length_cons, List.length_nil]; omega
    split
    · simp only [List.length_append, List.length_cons, List.length_nil]; omega
    split
    · by_cases hv : v = 1
      · simp only [if_pos hv, List.length_append, List.length_cons, List.length_nil]; omega
      · simp only [if_neg hv, List.length_append, List.length_cons, List.length_nil]; omega
    split
    · by_cases hv : kids = []
      · simp only [if_pos hv, List.length_append, List.length_cons, List.length_nil]; omega
      · simp only [if_neg hv, List.length_append, List.length_cons, List.length_nil]; omega
    split
    · simp only [List.length_append, List.length_cons, List.length_nil]; omega
    split
    · simp only [List.length_append, List.length_cons, List.length_nil]; omega
    split
    · by_cases hv : v = 1
      · simp only [if_pos hv, List.length_append, List.length_cons, List.length_nil]; omega
      · simp only [if_neg hv, List.length_append, List.length_cons, List.length_nil]; omega
    · exact Nat.zero_le _
theorem blksRen_le (W : RenW) (hn : ∀ j ∈ W.ns, 0 ≤ j ∧ j ≤ 100000000) (A : Nat) (hA : ∀ i, (hId W true i).length ≤ A) : ∀ (top : Bool) (m h : Nat) (l : List Blk), m + blkBulk l ≤ 900000000 → (blksRen W top m h l).length ≤ 700 * blkBulk l + (if top = true then hdsN l * A else 0)
  | top, m, h, [], _ => by rw [blksRen]; exact Nat.zero_le _
  | top, m, h, x :: r, hb => by
    rw [blkBulk] at hb
    have h1 := Blk.ren_le W hn A hA top m h x (by omega)
    have hm := Blk.marks_bulk x
    have hml := inl_len_bulk x.marks
    have h2 := blksRen_le W hn A hA top (m + x.marks.length) (if top = true ∧ x.kind = 1 then h + 1 else h) r (by omega)
    rw [blksRen, List.length_append, blkBulk, hdsN]
    cases top with
    | false => simp only [Bool.false_eq_true, false_and, if_false, Nat.add_zero] at h1 h2 ⊢; omega
    | true =>
      simp only [true_and, if_true] at h1 h2 ⊢
      rw [Nat.add_mul]
      split at h1
      · rename_i hk; simp only [if_pos hk, Nat.one_mul] at h2 ⊢; omega
      · rename_i hk; simp only [if_neg hk, Nat.zero_mul] at h2 ⊢; omega
end
def entT (e : EntT) : List UInt8 := [60, 108, 105, 32, 99, 108, 97, 115, 115, 61, 34, 108, 101, 118, 101, 108, 45] ++ itoa e.level ++ [34, 62, 60, 97, 32, 104, 114, 101, 102, 61, 34, 35] ++ escT e.anchor ++ [34, 62] ++ e.number ++ [32] ++ escT e.text ++ [60, 47, 97, 62, 60, 47, 108, 105, 62, 10]
def entsT (es : List EntT) : List UInt8 := es.flatMap entT
def contsT (es : List EntT) : List UInt8 := if es.length < 2 then [] else [60, 117, 108, 32, 99, 108, 97, 115, 115, 61, 34, 99, 111, 110, 116, 101, 110, 116, 115, 34, 62, 10] ++ entsT es ++ [60, 47, 117, 108, 62, 10]
def useT (k : Int) : List UInt8 := [32, 60, 97, 32, 104, 114, 101, 102, 61, 34, 35, 109, 97, 114, 107, 45] ++ itoa k ++ [34, 62, 94, 60, 47, 97, 62]
def usesT (ks : List Int) : List UInt8 := ks.flatMap useT
def noteT (W : RenW) (i : Nat) (p : NoP) : List UInt8 := [60, 108, 105, 32, 105, 100, 61, 34, 110, 111, 116, 101, 45] ++ itoa ((i : Int) + 1) ++ [34, 62] ++ inlRen W false 0 p.inl ++ usesT p.uses ++ [60, 47, 108, 105, 62, 10]
def notesT (W : RenW) : Nat → List NoP → List UInt8
  | _, [] => []
  | i, p :: r => noteT W i p ++ notesT W (i + 1) r
def listT (W : RenW) (ps : List NoP) : List UInt8 := if ps = [] then [] else [60, 111, 108, 32, 99, 108, 97, 115, 115, 61, 34, 110, 111, 116, 101, 115, 34, 62, 10] ++ notesT W 0 ps ++ [60, 47, 111, 108, 62, 10]
def setU (i : Nat) (ns : List Int) (us : List Int) : List Int := us.foldl (fun ns k => ns.set (k - 1).toNat ((i : Int) + 1)) ns
def numsFrom : Nat → List NoP → List Int → List Int
  | _, [], ns => ns
  | i, p :: r, ns => numsFrom (i + 1) r (setU i ns p.uses)
def numsT (ps : List NoP) (n : Nat) : List Int := numsFrom 0 ps (List.replicate n 0)
def docW (P : Int × List UInt8 → Bool) (bs : List Blk) : RenW := ⟨P, numsT (notesP (inlEra (blkMarks bs))) (blkMarks bs).length, ancs (contT bs)⟩
def renT (P : Int × List UInt8 → Bool) (bs : List Blk) : List UInt8 := contsT (contT bs) ++ blksRen (docW P bs) true 0 0 bs ++ listT (docW P bs) (notesP (inlEra (blkMarks bs)))
theorem entsT_succ {es : List EntT} {i : Nat} (h : i < es.length) : entsT (es.take (i + 1)) = entsT (es.take i) ++ entT es[i] := by
  unfold entsT; rw [List.take_succ_eq_append_getElem h, List.flatMap_append]; simp only [List.flatMap_cons, List.flatMap_nil, List.append_nil]
theorem usesT_succ {es : List Int} {i : Nat} (h : i < es.length) : usesT (es.take (i + 1)) = usesT (es.take i) ++ useT es[i] := by
  unfold usesT; rw [List.take_succ_eq_append_getElem h, List.flatMap_append]; simp only [List.flatMap_cons, List.flatMap_nil, List.append_nil]
theorem notesT_snoc (W : RenW) : ∀ (ps : List NoP) (i : Nat) (p : NoP), notesT W i (ps ++ [p]) = notesT W i ps ++ noteT W (i + ps.length) p
  | [], i, p => by simp [notesT]
  | x :: r, i, p => by rw [List.cons_append, notesT, notesT, notesT_snoc W r, List.length_cons, List.append_assoc, show i + 1 + r.length = i + (r.length + 1) by omega]
theorem notesT_succ (W : RenW) {ps : List NoP} {i : Nat} (h : i < ps.length) : notesT W 0 (ps.take (i + 1)) = notesT W 0 (ps.take i) ++ noteT W i ps[i] := by
  rw [List.take_succ_eq_append_getElem h, notesT_snoc, List.length_take, Nat.min_eq_left (by omega), Nat.zero_add]
theorem setU_succ (i : Nat) (ns : List Int) {us : List Int} {j : Nat} (h : j < us.length) : setU i ns (us.take (j + 1)) = (setU i ns (us.take j)).set (us[j] - 1).toNat ((i : Int) + 1) := by
  rw [List.take_succ_eq_append_getElem h]; unfold setU; rw [List.foldl_append]; rfl
theorem numsFrom_snoc : ∀ (ps : List NoP) (i : Nat) (ns : List Int) (p : NoP), numsFrom i (ps ++ [p]) ns = setU (i + ps.length) (numsFrom i ps ns) p.uses
  | [], i, ns, p => by simp [numsFrom]
  | x :: r, i, ns, p => by rw [List.cons_append, numsFrom, numsFrom, numsFrom_snoc r, List.length_cons, show i + 1 + r.length = i + (r.length + 1) by omega]
theorem numsFrom_succ {ps : List NoP} {i : Nat} (ns : List Int) (h : i < ps.length) : numsFrom 0 (ps.take (i + 1)) ns = setU i (numsFrom 0 (ps.take i) ns) ps[i].uses := by
  rw [List.take_succ_eq_append_getElem h, numsFrom_snoc, List.length_take, Nat.min_eq_left (by omega), Nat.zero_add]
theorem setU_len (i : Nat) : ∀ (us ns : List Int), (setU i ns us).length = ns.length
  | [], _ => rfl
  | k :: r, ns => (setU_len i r (ns.set (k - 1).toNat ((i : Int) + 1))).trans (List.length_set)
theorem numsFrom_len : ∀ (ps : List NoP) (i : Nat) (ns : List Int), (numsFrom i ps ns).length = ns.length
  | [], _, _ => rfl
  | p :: r, i, ns => by rw [numsFrom, numsFrom_len r, setU_len]
theorem numsT_len (ps : List NoP) (n : Nat) : (numsT ps n).length = n := by unfold numsT; rw [numsFrom_len, List.length_replicate]
theorem setU_b {B : Int} {i : Nat} (hi : (i : Int) + 1 ≤ B) : ∀ (us ns : List Int), (∀ j ∈ ns, 0 ≤ j ∧ j ≤ B) → ∀ j ∈ setU i ns us, 0 ≤ j ∧ j ≤ B
  | [], _, h => h
  | k :: r, ns, h => setU_b hi r _ fun j hj => by
    rcases List.mem_or_eq_of_mem_set hj with hj | rfl
    · exact h j hj
    · omega
theorem numsFrom_b {B : Int} : ∀ (ps : List NoP) (i : Nat) (ns : List Int), ((i : Int) + ps.length ≤ B) → (∀ j ∈ ns, 0 ≤ j ∧ j ≤ B) → ∀ j ∈ numsFrom i ps ns, 0 ≤ j ∧ j ≤ B
  | [], _, _, _, h => h
  | p :: r, i, ns, hi, h => by
    rw [List.length_cons] at hi
    exact numsFrom_b r (i + 1) _ (by omega) (setU_b (by omega) p.uses ns h)
theorem numsT_b (ps : List NoP) (n : Nat) (h : ps.length ≤ 100000000) : ∀ j ∈ numsT ps n, 0 ≤ j ∧ j ≤ 100000000 := numsFrom_b ps 0 _ (by omega) fun j hj => by rw [List.eq_of_mem_replicate hj]; omega
theorem entT_le {e : EntT} {n w : Nat} (hl : inR .i64 e.level) (hn : e.number.length ≤ 22 * n) (ht : e.text.length ≤ w) (ha : e.anchor.length ≤ 3 * w + 22) : (entT e).length ≤ 24 * w + 22 * n + 300 := by
  have h1 := itoa_le (n := e.level) hl.1 (by have := hl.2; exact this)
  have h2 := escT_le e.anchor
  have h3 := escT_le e.text
  unfold entT
  simp only [List.length_append, List.length_cons, List.length_nil]; omega
theorem useT_le {k : Int} (h0 : 0 ≤ k) (h1 : k ≤ 1000000000) : (useT k).length ≤ 60 := by
  have h1 := itoa_le (n := k) (by omega) (by omega)
  unfold useT
  simp only [List.length_append, List.length_cons, List.length_nil]; omega
theorem usesT_le : ∀ {ks : List Int}, (∀ k ∈ ks, 0 ≤ k ∧ k ≤ 1000000000) → (usesT ks).length ≤ 60 * ks.length
  | [], _ => Nat.zero_le _
  | k :: r, h => by
    have h1 := useT_le (h k (by simp)).1 (h k (by simp)).2
    have h2 := usesT_le (ks := r) fun j hj => h j (by simp [hj])
    unfold usesT at h2 ⊢
    rw [List.flatMap_cons, List.length_append, List.length_cons]; omega
end Go.Proofs
namespace Go.Proofs
open Go Go.X Go.Lib
set_option maxRecDepth 100000
theorem mkN_on (m k : Nat) : mkN true m k = m + k := rfl
theorem skip_ok (K : WrK) (W : RenW) (h : Nat) (els : List Inl) (ia : Option Addr) (ic : Nat) (hb : inlBulk els ≤ 1100000) (u : Bool) (a : Option Addr) (c : Nat) (o : List UInt8) (m : Nat) (hi : BxI u a c o) (hm : m ≤ 1000000000) :
    FnS Tryz.prog 162 [.c (.p 0 K.ab 0), .c (.sl ia els.length ic)] (wrM K W u a c o m h) [inlF ia els] (WrP K W o (m + (inlMarks els).length) h) := by
  have s1 := fun ba bc => FnS.pre (L' := wrM K W u a c o m h) (D' := [blkF ba [Blk.mk 0 0 [] ia ic els none 0 []]]) (L := .row 81 5 ba 1 bc [.i .i64 0, .i .i64 0, .s [], .sl ia els.length ic, .sl none 0 0] :: wrM K W u a c o m h) (D := [inlF ia els]) (Ents.toFact.trans (Ents.facts fun mm hh => ⟨⟨hh.1, by
      show blksLie mm [Blk.mk 0 0 [] ia ic els none 0 []]
      unfold blksLie
      exact ⟨blk_lies hh.2.1 blkF_none, by unfold blksLie; trivial⟩⟩, trivial⟩)) (skipB_ok K W h [Blk.mk 0 0 [] ia ic els none 0 []] ba bc (by simp only [blkBulk, Blk.bulk]; simp only [List.length_nil]; omega) u a c o m hi hm)
  have hmk : (blkMarks [Blk.mk 0 0 [] ia ic els none 0 []]).length = (inlMarks els).length := by simp [blkMarks, Blk.marks]
  rw [hmk] at s1
  unfold wrM wrR at s1 ⊢
  refine fn_of_J Tryz.tyOK 7000 Tryz.func162 (by kernel_rfl) (c := Tryz.f162.body.getD .skip) (by kernel_rfl) Tryz.ntmps162 (rs := Tryz.f162.results.toList) rfl (by simp) (fun G => ?_)
  repeat' first
    | refine J_seq ?_ | refine J_region Tryz.tyOK ?_ | refine J_block ?_ | refine J_cond ?_ | refine J_ret ?_ | refine J_skip ?_ | refine J_exit ?_ | refine J_scope ?_
    | refine CondP.yes (by omega) ?_ | refine CondP.no (by omega) ?_ | refine CondP.mk (fun h => ?_) (fun h => ?_) | refine EqP.mk rfl ?_ | refine NewP.mk (fun ad => ?_) | refine ArP.exact (by simp only [inR]; omega) ?_ | refine SideP.mk (by first | omega | (dsimp only; omega) | (simp; omega)) ?_
    | (refine CallP.mk _ [] [inlF ia els] _ (s1 _ _) (List.Perm.refl _) (fun _ h => h) (fun v L' D' hp => ?_); obtain ⟨u1, a1, c1, hi1, rfl, rfl, rfl⟩ := hp)
    | fail
  exact FinE.mk (wrM K W u1 a1 c1 o (m + (inlMarks els).length) h) [] ⟨u1, a1, c1, hi1, rfl, rfl, rfl⟩ ((Ents.of (by simp)).trans (Ents.facts fun _ _ => trivial))
set_option maxHeartbeats 2000000 in
theorem line_ok (K : WrK) (W : RenW) (hK : WrOk K W) (x : Blk) (op en : List UInt8) (h : Nat) (hb : x.bulk ≤ 1100000) (D : List Fact) (hD : ∀ mm, allD mm D → allD mm [inlF x.ia x.inl, blkF x.ka x.kids, noteF K W, tabF, gInt 0])
    (u : Bool) (a : Option Addr) (c : Nat) (o : List UInt8) (m : Nat) (hi : BxI u a c o) (hm : m + x.bulk ≤ 100000000) (hns : m + x.marks.length ≤ W.ns.length) (ho : o.length + op.length + en.length + 2000 * x.bulk ≤ 60000000000000) :
    FnS Tryz.prog 123 [.c (.p 0 K.ab 0), .agg x.cells, .c (.s op), .c (.s en)] (wrM K W u a c o m h) D (WrP K W (o ++ op ++ inlRen W true m x.inl ++ en) (m + x.marks.length) h) := by
  have hxb := Blk.bulk_eq x
  have hmq := Blk.marks_eq x
  rw [hmq, List.length_append] at hns ⊢
  have hml := inlMarks_bulk x.inl
  have hmn := inl_len_bulk (inlMarks x.inl)
  have hrl := inlRen_le W hK.ns true m x.inl (by omega)
  have s1 := fun u' a' c' (hi' : BxI u' a' c' o) => bxString_ok 0 K.ab 87 u' a' c' o op [.m 1 K.am, .sl K.na W.ns.length K.nc, .i .i64 (m : Nat), .sl K.ea K.en K.ec, .i .i64 h] btyW hi' (by omega)
  have s2 := fun u' a' c' (hi' : BxI u' a' c' (o ++ op)) => winl_ok K W hK true h _ x.inl rfl x.ia x.ic u' a' c' (o ++ op) m hi' (by omega) (by omega) (fun _ => by omega) (by simp; omega)
  have s3 := fun u' a' c' (hi' : BxI u' a' c' (o ++ op ++ inlRen W true m x.inl)) => bxString_ok 0 K.ab 87 u' a' c' (o ++ op ++ inlRen W true m x.inl) en [.m 1 K.am, .sl K.na W.ns.length K.nc, .i .i64 (m + (inlMarks x.inl).length : Nat), .sl K.ea K.en K.ec, .i .i64 h] btyW hi' (by simp; omega)
  have s4 := fun u' a' c' (hi' : BxI u' a' c' (o ++ op ++ inlRen W true m x.inl ++ en)) => skipB_ok K W h x.kids x.ka x.kc (by omega) u' a' c' (o ++ op ++ inlRen W true m x.inl ++ en) (m + (inlMarks x.inl).length) hi' (by omega)
  rw [← Nat.add_assoc]
  simp only [mkN_on] at s2
  unfold wrM wrR at s2 s4 ⊢
  unfold Blk.cells
  refine fn_of_J Tryz.tyOK 7000 Tryz.func123 (by kernel_rfl) (c := Tryz.f123.body.getD .skip) (by kernel_rfl) Tryz.ntmps123 (rs := Tryz.f123.results.toList) rfl (by simp) (fun G => ?_)
  repeat' first
    | refine J_seq ?_ | refine J_region Tryz.tyOK ?_ | refine J_block ?_ | refine J_cond ?_ | refine J_ret ?_ | refine J_skip ?_ | refine J_exit ?_ | refine J_scope ?_
    | refine CondP.yes (by omega) ?_ | refine CondP.no (by omega) ?_ | refine CondP.mk (fun h => ?_) (fun h => ?_) | refine EqP.mk rfl ?_ | refine NewP.mk (fun ad => ?_) | refine ArP.exact (by simp only [inR]; omega) ?_ | refine SideP.mk (by first | omega | (dsimp only; omega) | (simp; omega)) ?_
    | (refine CallP.mk _ [_, _] [] _ (s1 _ _ _ hi) ((List.perm_append_comm (l₁ := [_]) (l₂ := [_, _])).append_right [_]) (fun _ _ => trivial) (fun v L' D' hp => ?_); obtain ⟨u1, a1, c1, hi1, rfl, rfl, rfl⟩ := hp) | (refine CallP.mk _ [_] [inlF x.ia x.inl, noteF K W, tabF, gInt 0] _ (s2 _ _ _ hi1) ((List.Perm.swap _ _ _).append_left [_, _]) (fun m h => ⟨(hD m h).1, (hD m h).2.2⟩) (fun v L' D' hp => ?_); obtain ⟨u2, a2, c2, hi2, rfl, rfl, rfl⟩ := hp; unfold wrM wrR) | (refine CallP.mk _ [_, _] [] _ (s3 _ _ _ hi2) (List.Perm.refl _) (fun _ _ => trivial) (fun v L' D' hp => ?_); obtain ⟨u3, a3, c3, hi3, rfl, rfl, rfl⟩ := hp) | (refine CallP.mk _ [_] [blkF x.ka x.kids] _ (s4 _ _ _ hi3) (List.Perm.refl _) (fun m h => ⟨(hD m h).2.1, trivial⟩) (fun v L' D' hp => ?_); obtain ⟨u4, a4, c4, hi4, rfl, rfl, rfl⟩ := hp; unfold wrM wrR)
    | fail
  exact FinE.mk (wrM K W u4 a4 c4 (o ++ op ++ inlRen W true m x.inl ++ en) (m + (inlMarks x.inl).length + (blkMarks x.kids).length) h) [] ⟨u4, a4, c4, hi4, rfl, rfl, rfl⟩ ((Ents.sub ⟨[_], List.perm_append_comm (l₁ := [_, _, _]) (l₂ := [_])⟩).trans (Ents.facts fun _ _ => trivial))
set_option maxHeartbeats 2000000 in
theorem hidden_ok (K : WrK) (W : RenW) (x : Blk) (op : List UInt8) (h : Nat) (hb : x.bulk ≤ 1100000) (D : List Fact) (hD : ∀ mm, allD mm D → allD mm [inlF x.ia x.inl, blkF x.ka x.kids])
    (u : Bool) (a : Option Addr) (c : Nat) (o : List UInt8) (m : Nat) (hi : BxI u a c o) (hm : m + x.bulk ≤ 100000000) (ho : o.length + op.length ≤ 60000000000000) :
    FnS Tryz.prog 124 [.c (.p 0 K.ab 0), .agg x.cells, .c (.s op)] (wrM K W u a c o m h) D (WrP K W (o ++ op) (m + x.marks.length) h) := by
  have hxb := Blk.bulk_eq x
  have hmq := Blk.marks_eq x
  rw [hmq, List.length_append]
  have hml := inlMarks_bulk x.inl
  have hmn := inl_len_bulk (inlMarks x.inl)
  have s1 := fun u' a' c' (hi' : BxI u' a' c' o) => bxString_ok 0 K.ab 87 u' a' c' o op [.m 1 K.am, .sl K.na W.ns.length K.nc, .i .i64 (m : Nat), .sl K.ea K.en K.ec, .i .i64 h] btyW hi' (by omega)
  have s2 := fun u' a' c' (hi' : BxI u' a' c' (o ++ op)) => skip_ok K W h x.inl x.ia x.ic (by omega) u' a' c' (o ++ op) m hi' (by omega)
  have s4 := fun u' a' c' (hi' : BxI u' a' c' (o ++ op)) => skipB_ok K W h x.kids x.ka x.kc (by omega) u' a' c' (o ++ op) (m + (inlMarks x.inl).length) hi' (by omega)
  rw [← Nat.add_assoc]
  unfold wrM wrR at s2 s4 ⊢
  unfold Blk.cells
  refine fn_of_J Tryz.tyOK 7000 Tryz.func124 (by kernel_rfl) (c := Tryz.f124.body.getD .skip) (by kernel_rfl) Tryz.ntmps124 (rs := Tryz.f124.results.toList) rfl (by simp) (fun G => ?_)
  repeat' first
    | refine J_seq ?_ | refine J_region Tryz.tyOK ?_ | refine J_block ?_ | refine J_cond ?_ | refine J_ret ?_ | refine J_skip ?_ | refine J_exit ?_ | refine J_scope ?_
    | refine CondP.yes (by omega) ?_ | refine CondP.no (by omega) ?_ | refine CondP.mk (fun h => ?_) (fun h => ?_) | refine EqP.mk rfl ?_ | refine NewP.mk (fun ad => ?_) | refine ArP.exact (by simp only [inR]; omega) ?_ | refine SideP.mk (by first | omega | (dsimp only; omega) | (simp; omega)) ?_
    | (refine CallP.mk _ [_, _] [] _ (s1 _ _ _ hi) ((List.perm_append_comm (l₁ := [_]) (l₂ := [_, _])).append_right [_]) (fun _ _ => trivial) (fun v L' D' hp => ?_); obtain ⟨u1, a1, c1, hi1, rfl, rfl, rfl⟩ := hp) | (refine CallP.mk _ [_] [inlF x.ia x.inl] _ (s2 _ _ _ hi1) ((List.Perm.swap _ _ _).append_left [_, _]) (fun m h => ⟨(hD m h).1, trivial⟩) (fun v L' D' hp => ?_); obtain ⟨u2, a2, c2, hi2, rfl, rfl, rfl⟩ := hp; unfold wrM wrR) | (refine CallP.mk _ [_] [blkF x.ka x.kids] _ (s4 _ _ _ hi2) (List.Perm.refl _) (fun m h => ⟨(hD m h).2.1, trivial⟩) (fun v L' D' hp => ?_); obtain ⟨u4, a4, c4, hi4, rfl, rfl, rfl⟩ := hp; unfold wrM wrR)
    | fail
  exact FinE.mk (wrM K W u4 a4 c4 (o ++ op) (m + (inlMarks x.inl).length + (blkMarks x.kids).length) h) [] ⟨u4, a4, c4, hi4, rfl, rfl, rfl⟩ ((Ents.sub ⟨[_], List.perm_append_comm (l₁ := [_, _, _]) (l₂ := [_])⟩).trans (Ents.facts fun _ _ => trivial))
set_option maxHeartbeats 2000000 in
theorem group_ok (K : WrK) (W : RenW) (x : Blk) (op en : List UInt8) (h : Nat) (hb : x.bulk ≤ 1100000) (D DK : List Fact) (hD : ∀ mm, allD mm D → allD mm [inlF x.ia x.inl]) (hDK : ∀ mm, allD mm D → allD mm DK)
    (m : Nat) (B : Nat) (hB : B + 2000 * blkBulk x.kids ≤ 60000000000000) (hkl : (blksRen W false (m + (inlMarks x.inl).length) h x.kids).length ≤ 700 * blkBulk x.kids)
    (hck : ∀ u a c o, BxI u a c o → o.length ≤ B → FnS Tryz.prog 52 [.c (.p 0 K.ab 0), .c (.sl x.ka x.kids.length x.kc), .c (.b false)] (wrM K W u a c o (m + (inlMarks x.inl).length) h) DK (WrP K W (o ++ blksRen W false (m + (inlMarks x.inl).length) h x.kids) (m + (inlMarks x.inl).length + (blkMarks x.kids).length) h))
    (u : Bool) (a : Option Addr) (c : Nat) (o : List UInt8) (hi : BxI u a c o) (hm : m + x.bulk ≤ 100000000) (ho : o.length + op.length ≤ B) (hen : en.length ≤ 100) :
    FnS Tryz.prog 125 [.c (.p 0 K.ab 0), .agg x.cells, .c (.s op), .c (.s en)] (wrM K W u a c o m h) D (WrP K W (o ++ op ++ blksRen W false (m + (inlMarks x.inl).length) h x.kids ++ en) (m + x.marks.length) h) := by
  have hxb := Blk.bulk_eq x
  have hmq := Blk.marks_eq x
  rw [hmq, List.length_append]
  have hml := inlMarks_bulk x.inl
  have hmn := inl_len_bulk (inlMarks x.inl)
  have s1 := fun u' a' c' (hi' : BxI u' a' c' o) => bxString_ok 0 K.ab 87 u' a' c' o op [.m 1 K.am, .sl K.na W.ns.length K.nc, .i .i64 (m : Nat), .sl K.ea K.en K.ec, .i .i64 h] btyW hi' (by omega)
  have s2 := fun u' a' c' (hi' : BxI u' a' c' (o ++ op)) => skip_ok K W h x.inl x.ia x.ic (by omega) u' a' c' (o ++ op) m hi' (by omega)
  have s3 := fun u' a' c' (hi' : BxI u' a' c' (o ++ op)) => hck u' a' c' (o ++ op) hi' (by simp; omega)
  have s4 := fun u' a' c' (hi' : BxI u' a' c' (o ++ op ++ blksRen W false (m + (inlMarks x.inl).length) h x.kids)) => bxString_ok 0 K.ab 87 u' a' c' (o ++ op ++ blksRen W false (m + (inlMarks x.inl).length) h x.kids) en [.m 1 K.am, .sl K.na W.ns.length K.nc, .i .i64 (m + (inlMarks x.inl).length + (blkMarks x.kids).length : Nat), .sl K.ea K.en K.ec, .i .i64 h] btyW hi' (by simp; omega)
  rw [← Nat.add_assoc]
  clear hck hkl
  generalize blksRen W false (m + (inlMarks x.inl).length) h x.kids = R at *
  unfold wrM wrR at s2 s3 ⊢
  unfold Blk.cells
  refine fn_of_J Tryz.tyOK 7000 Tryz.func125 (by kernel_rfl) (c := Tryz.f125.body.getD .skip) (by kernel_rfl) Tryz.ntmps125 (rs := Tryz.f125.results.toList) rfl (by simp) (fun G => ?_)
  repeat' first
    | refine J_seq ?_ | refine J_region Tryz.tyOK ?_ | refine J_block ?_ | refine J_cond ?_ | refine J_ret ?_ | refine J_skip ?_ | refine J_exit ?_ | refine J_scope ?_
    | refine CondP.yes (by omega) ?_ | refine CondP.no (by omega) ?_ | refine CondP.mk (fun h => ?_) (fun h => ?_) | refine EqP.mk rfl ?_ | refine NewP.mk (fun ad => ?_) | refine ArP.exact (by simp only [inR]; omega) ?_ | refine SideP.mk (by first | omega | (dsimp only; omega) | (simp; omega)) ?_
    | (refine CallP.mk _ [_, _] [] _ (s1 _ _ _ hi) ((List.perm_append_comm (l₁ := [_]) (l₂ := [_, _])).append_right [_]) (fun _ _ => trivial) (fun v L' D' hp => ?_); obtain ⟨u1, a1, c1, hi1, rfl, rfl, rfl⟩ := hp) | (refine CallP.mk _ [_] [inlF x.ia x.inl] _ (s2 _ _ _ hi1) ((List.Perm.swap _ _ _).append_left [_, _]) (fun m h => ⟨(hD m h).1, trivial⟩) (fun v L' D' hp => ?_); obtain ⟨u2, a2, c2, hi2, rfl, rfl, rfl⟩ := hp; unfold wrM wrR) | (refine CallP.mk _ [_] DK _ (s3 _ _ _ hi2) (List.Perm.refl _) hDK (fun v L' D' hp => ?_); obtain ⟨u3, a3, c3, hi3, rfl, rfl, rfl⟩ := hp; unfold wrM wrR) | (refine CallP.mk _ [_, _] [] _ (s4 _ _ _ hi3) (List.Perm.refl _) (fun _ _ => trivial) (fun v L' D' hp => ?_); obtain ⟨u4, a4, c4, hi4, rfl, rfl, rfl⟩ := hp)
    | fail
  exact FinE.mk (wrM K W u4 a4 c4 (o ++ op ++ R ++ en) (m + (inlMarks x.inl).length + (blkMarks x.kids).length) h) [] ⟨u4, a4, c4, hi4, rfl, rfl, rfl⟩ ((Ents.sub ⟨[_], List.perm_append_comm (l₁ := [_, _, _]) (l₂ := [_])⟩).trans (Ents.facts fun _ _ => trivial))
set_option maxHeartbeats 2000000 in
theorem title_ok (K : WrK) (W : RenW) (hK : WrOk K W) (es : List EntT) (hes : K.en = es.length) (han : W.an = ancs es) (A : Nat) (hA : ∀ i, (hId W true i).length ≤ A) (hel : es.length ≤ 100000000) (hea : ∀ e ∈ es, e.anchor.length ≤ 10000000) (x : Blk) (top : Bool) (h : Nat) (hb : x.bulk ≤ 1100000) (D : List Fact)
    (hD : ∀ mm, allD mm D → allD mm [inlF x.ia x.inl, blkF x.ka x.kids, entF K.ea es, noteF K W, tabF, gInt 0])
    (u : Bool) (a : Option Addr) (c : Nat) (o : List UInt8) (m : Nat) (hi : BxI u a c o) (hm : m + x.bulk ≤ 100000000) (hns : m + x.marks.length ≤ W.ns.length) (hh : top = true → h < es.length) (ho : o.length + (if top = true then A else 0) + 2000 * x.bulk + 200 ≤ 60000000000000) :
    FnS Tryz.prog 122 [.c (.p 0 K.ab 0), .agg x.cells, .c (.b top)] (wrM K W u a c o m h) D (WrP K W (o ++ ([60, 104] ++ itoa (hLvl x.level) ++ hId W top h ++ [62]) ++ inlRen W true m x.inl ++ ([60, 47, 104] ++ itoa (hLvl x.level) ++ [62, 10])) (m + x.marks.length) (if top = true then h + 1 else h)) := by
  have hv := hLvl_b x.level
  have hit := itoaBig_ok (hLvl x.level) (by omega) (by omega)
  have hil := itoa_le (n := hLvl x.level) (by omega) (by omega)
  have hDl : ∀ mm, allD mm D → allD mm [inlF x.ia x.inl, blkF x.ka x.kids, noteF K W, tabF, gInt 0] := fun mm hh => ⟨(hD mm hh).1, (hD mm hh).2.1, (hD mm hh).2.2.2⟩
  have hidl : (hId W top h).length ≤ (if top = true then A else 0) := by
    cases top with
    | true => rw [if_pos rfl]; exact hA h
    | false => exact Nat.zero_le _
  have sL := line_ok K W hK x ([60, 104] ++ itoa (hLvl x.level) ++ hId W top h ++ [62]) ([60, 47, 104] ++ itoa (hLvl x.level) ++ [62, 10]) (if top = true then h + 1 else h) hb D hDl u a c o m hi hm hns (by
    simp only [List.length_append, List.length_cons, List.length_nil]; omega)
  unfold wrM wrR at sL ⊢
  unfold Blk.cells at sL ⊢
  refine fn_of_J Tryz.tyOK 7000 Tryz.func122 (by kernel_rfl) (c := Tryz.f122.body.getD .skip) (by kernel_rfl) Tryz.ntmps122 (rs := Tryz.f122.results.toList) rfl (by simp) (fun G => ?_)
  refine J_seq ?_
  refine J_region Tryz.tyOK ?_
  refine NewP.mk (fun ad => ?_)
  refine J_cut (α := Unit) (fun _ => [(0, .c (.p 0 K.ab 0)), (2, .c (.b top)), (4, .c (.p 7000 ad 0)), (6, .c (.s (itoa (hLvl x.level))))])
    (fun _ => .box 7000 ad 81 [.i .i64 x.kind, .i .i64 x.level, .s x.text, .sl x.ia x.inl.length x.ic, .sl x.ka x.kids.length x.kc] :: (bx 0 K.ab 87 u a c o [.m 1 K.am, .sl K.na W.ns.length K.nc, .i .i64 m, .sl K.ea K.en K.ec, .i .i64 h] ++ [.obj 1 K.am (gO (aggV ttW) K.kv)])) (fun _ => D) 7001 (fun _ => True) ?_ (fun _ _ => ?_)
  · by_cases l1 : x.level < 1
    · have e : hLvl x.level = 1 := by unfold hLvl; omega
      rw [e] at hit ⊢
      repeat' first
        | refine J_seq ?_ | refine J_region Tryz.tyOK ?_ | refine J_block ?_ | refine J_cond ?_ | refine J_ret ?_ | refine J_skip ?_ | refine J_exit ?_ | refine J_scope ?_
        | refine CondP.yes (by omega) ?_ | refine CondP.no (by omega) ?_ | refine CondP.mk (fun h => ?_) (fun h => ?_) | refine EqP.mk rfl ?_ | refine NewP.mk (fun ad => ?_) | refine ArP.exact (by simp only [inR]; omega) ?_ | refine SideP.mk (by first | omega | (dsimp only; omega) | (simp; omega)) ?_
        | refine CallP.is hit ?_ (fun m h => ⟨(hD m h).2.2.2.2.1, trivial⟩) | exact InFam.mk () trivial (by repeat' first | exact SubE.nil | refine SubE.cons rfl ?_ ?_ | exact VEq.refl _ | refine VEq.int (by omega) | refine VEq.sl rfl (by first | rfl | omega | (rw [List.length_append]; rfl) | (simp; omega)) rfl) (Ents.refl _ _)
        | fail
      all_goals trace_state
    by_cases l6 : 6 < x.level
    · have e : hLvl x.level = 6 := by unfold hLvl; omega
      rw [e] at hit ⊢
      repeat' first
        | refine J_seq ?_ | refine J_region Tryz.tyOK ?_ | refine J_block ?_ | refine J_cond ?_ | refine J_ret ?_ | refine J_skip ?_ | refine J_exit ?_ | refine J_scope ?_
        | refine CondP.yes (by omega) ?_ | refine CondP.no (by omega) ?_ | refine CondP.mk (fun h => ?_) (fun h => ?_) | refine EqP.mk rfl ?_ | refine NewP.mk (fun ad => ?_) | refine ArP.exact (by simp only [inR]; omega) ?_ | refine SideP.mk (by first | omega | (dsimp only; omega) | (simp; omega)) ?_
        | refine CallP.is hit ?_ (fun m h => ⟨(hD m h).2.2.2.2.1, trivial⟩) | exact InFam.mk () trivial (by repeat' first | exact SubE.nil | refine SubE.cons rfl ?_ ?_ | exact VEq.refl _ | refine VEq.int (by omega) | refine VEq.sl rfl (by first | rfl | omega | (rw [List.length_append]; rfl) | (simp; omega)) rfl) (Ents.refl _ _)
        | fail
      all_goals trace_state
    · have e : hLvl x.level = x.level := by unfold hLvl; omega
      rw [e] at hit ⊢
      by_cases l2 : x.level = 1
      · rw [l2] at hit ⊢
        repeat' first
          | refine J_seq ?_ | refine J_region Tryz.tyOK ?_ | refine J_block ?_ | refine J_cond ?_ | refine J_ret ?_ | refine J_skip ?_ | refine J_exit ?_ | refine J_scope ?_
          | refine CondP.yes (by omega) ?_ | refine CondP.no (by omega) ?_ | refine CondP.mk (fun h => ?_) (fun h => ?_) | refine EqP.mk rfl ?_ | refine NewP.mk (fun ad => ?_) | refine ArP.exact (by simp only [inR]; omega) ?_ | refine SideP.mk (by first | omega | (dsimp only; omega) | (simp; omega)) ?_
          | refine CallP.is hit ?_ (fun m h => ⟨(hD m h).2.2.2.2.1, trivial⟩) | exact InFam.mk () trivial (by repeat' first | exact SubE.nil | refine SubE.cons rfl ?_ ?_ | exact VEq.refl _ | refine VEq.int (by omega) | refine VEq.sl rfl (by first | rfl | omega | (rw [List.length_append]; rfl) | (simp; omega)) rfl) (Ents.refl _ _)
          | fail
        all_goals trace_state
      · repeat' first
          | refine J_seq ?_ | refine J_region Tryz.tyOK ?_ | refine J_block ?_ | refine J_cond ?_ | refine J_ret ?_ | refine J_skip ?_ | refine J_exit ?_ | refine J_scope ?_
          | refine CondP.yes (by omega) ?_ | refine CondP.no (by omega) ?_ | refine CondP.mk (fun h => ?_) (fun h => ?_) | refine EqP.mk rfl ?_ | refine NewP.mk (fun ad => ?_) | refine ArP.exact (by simp only [inR]; omega) ?_ | refine SideP.mk (by first | omega | (dsimp only; omega) | (simp; omega)) ?_
          | refine CallP.is hit ?_ (fun m h => ⟨(hD m h).2.2.2.2.1, trivial⟩) | exact InFam.mk () trivial (by repeat' first | exact SubE.nil | refine SubE.cons rfl ?_ ?_ | exact VEq.refl _ | refine VEq.int (by omega) | refine VEq.sl rfl (by first | rfl | omega | (rw [List.length_append]; rfl) | (simp; omega)) rfl) (Ents.refl _ _)
          | fail
        all_goals trace_state
  generalize itoa (hLvl x.level) = lv at *
  clear hit
  cases top with
  | false =>
    simp only [Bool.false_eq_true, if_false] at sL ⊢
    rw [show hId W false h = [] from rfl] at sL ⊢
    repeat' first
      | refine J_seq ?_ | refine J_region Tryz.tyOK ?_ | refine J_block ?_ | refine J_cond ?_ | refine J_ret ?_ | refine J_skip ?_ | refine J_exit ?_ | refine J_scope ?_
      | refine CondP.yes (by omega) ?_ | refine CondP.no (by omega) ?_ | refine CondP.mk (fun h => ?_) (fun h => ?_) | refine EqP.mk rfl ?_ | refine NewP.mk (fun ad => ?_) | refine ArP.exact (by simp only [inR]; omega) ?_ | refine SideP.mk (by first | omega | (dsimp only; omega) | (simp; omega)) ?_
      | (refine CallP.mk _ [_] D _ sL (List.perm_append_comm (l₁ := [_]) (l₂ := [_, _, _])) (fun _ h => h) (fun v L' D' hp => ?_); obtain ⟨u4, a4, c4, hi4, rfl, rfl, rfl⟩ := hp; unfold wrM wrR)
      | fail
    exact FinE.mk (wrM K W u4 a4 c4 _ (m + x.marks.length) h) [] ⟨u4, a4, c4, hi4, rfl, rfl, rfl⟩ ((Ents.sub ⟨[_], List.perm_append_comm (l₁ := [_, _, _]) (l₂ := [_])⟩).trans (Ents.facts fun _ _ => trivial))
  | true =>
    simp only [if_true] at sL hidl ho ⊢
    have hlt := hh rfl
    have hrd : ∀ L, Reads L D 42 4 K.ea es.length (entC es) := fun _ => .inr fun m hm => (hD m hm).2.2.1
    have hg3 : ((entC es).drop (h * 4 + 3)).take 1 = [.s es[h].anchor] := entC_get (o := 3) (k := 1) hlt (by omega)
    have hae : hId W true h = [32, 105, 100, 61, 34] ++ escT es[h].anchor ++ [34] := by
      unfold hId; rw [if_pos rfl, han, ancs, List.getD_eq_getElem?_getD, List.getElem?_map, List.getElem?_eq_getElem hlt]; rfl
    have hes1 := escape_ok es[h].anchor (by have := hea es[h] (List.getElem_mem hlt); omega)
    have hes2 := escT_le es[h].anchor
    have hea2 := hea es[h] (List.getElem_mem hlt)
    rw [hae] at sL ⊢
    rw [show (((h + 1 : Nat)) : Int) = (h : Int) + 1 from rfl] at sL
    rw [hes] at sL ⊢
    generalize es[h].anchor = an at *
    repeat' first
      | refine J_seq ?_ | refine J_region Tryz.tyOK ?_ | refine J_block ?_ | refine J_cond ?_ | refine J_ret ?_ | refine J_skip ?_ | refine J_exit ?_ | refine J_scope ?_
      | refine CondP.yes (by omega) ?_ | refine CondP.no (by omega) ?_ | refine CondP.mk (fun h => ?_) (fun h => ?_) | refine EqP.mk rfl ?_ | refine NewP.mk (fun ad => ?_) | refine ArP.exact (by simp only [inR]; omega) ?_ | refine SideP.mk (by first | omega | (dsimp only; omega) | (simp; omega)) ?_
      | refine J_drawS (id := 4) Tryz.tyOK (by kernel_rfl) [0, 1, 3, 7, 0, 16, 48, 112, 255, 511, 1023, 2047, 4095, 8191, 16383] [0, 1, 2, 3, 4, 5, 6, 7, 8, 9, 10, 11, 12, 13, 14] [11] [0, 22] false (by kernel_rfl) ?_ | refine EntP.mk (Ents.ofSub (by repeat (first | exact keepC_sub _ _ _ | exact List.Sublist.slnil | refine List.Sublist.cons_cons _ ?_ | refine List.Sublist.cons _ ?_)) (by first | exact fun _ h => h | exact fun _ _ => trivial | exact fun _ h => h.2 | exact fun _ h => h.2.2.2.2 | exact fun _ h => h.2.2 | exact fun _ h => h.2.2.2 | exact fun _ h => h.2.2.2.2.2 | exact fun _ h => h.2.2.2.2.2.2 | exact fun _ h => h.2.2.2.2.2.2.2 | exact fun _ h => h.2.2.2.2.2.2.2.2 | exact fun _ h => h.2.2.2.2.2.2.2.2.2 | exact fun _ h => h.2.2.2.2.2.2.2.2.2.2 | exact fun _ h => ((allD_append _ _).1 h).2)) ?_ | refine IdxE.mk 42 4 _ (hrd _) (by omega) (by omega) ?_ | refine FldE.mk 42 4 _ _ (hrd _) (by omega) ?_ | refine LoadE.mk 42 es.length _ _ (hrd _) (by omega) (by omega) (by decide) (by exact hg3) ?_ | refine CallP.is hes1 ?_ (fun _ _ => trivial) | (refine CallP.mk _ [_] D _ sL (List.perm_append_comm (l₁ := [_]) (l₂ := [_, _, _])) (fun _ h => h) (fun v L' D' hp => ?_); obtain ⟨u4, a4, c4, hi4, rfl, rfl, rfl⟩ := hp; unfold wrM wrR)
      | fail
    refine FinE.mk (wrM K W u4 a4 c4 (o ++ ([60, 104] ++ lv ++ ([32, 105, 100, 61, 34] ++ escT an ++ [34]) ++ [62]) ++ inlRen W true m x.inl ++ ([60, 47, 104] ++ lv ++ [62, 10])) (m + x.marks.length) (h + 1)) [] ⟨u4, a4, c4, hi4, rfl, rfl, rfl⟩ ?_
    unfold wrM wrR
    rw [hes]
    exact ((Ents.sub ⟨[_], List.perm_append_comm (l₁ := [_, _, _]) (l₂ := [_])⟩).trans (Ents.facts fun _ _ => trivial))
end Go.Proofs
