/- This text walks through the functions of the reference of chapter 27 that perform one change: move, take, propose, shut. -/
import Derived.Test.YthknndkjnglegaaGreatI22
import Derived.Test.YthknndkjnglegaaGreatI17
import Derived.Test.YthknndkjnglegaaGreatI12
set_option linter.all false

namespace Go.X
open Go Go.Lib
theorem rv_last {l : List RV} (h : 0 < l.length) : ((rvC l).drop (((l.length : Int) - 1).toNat * 6 + 4)).take 1 = [.i .i64 (l.getLast?.getD default).min] := by
  rw [show ((l.length : Int) - 1).toNat = l.length - 1 by omega, List.getLast?_eq_getElem?, List.getElem?_eq_getElem (by omega)]
  rw [rvC, flat_get (F := RV.cells) (z := 6) (fun _ => rfl) (by omega) (by omega)]; rfl
/-- The first revisions have the number of the transaction. -/
def seqT (l : List RV) (sq : Int) (i : Nat) : List RV := (l.take i).map (fun r => { r with seq := sq }) ++ l.drop i
theorem seqT_len (l : List RV) (sq : Int) (i : Nat) : (seqT l sq i).length = l.length := by
  have := congrArg List.length (List.take_append_drop i l)
  rw [List.length_append] at this
  rw [seqT, List.length_append, List.length_map]; exact this
theorem seqT_all (l : List RV) (sq : Int) : seqT l sq l.length = l.map (fun r => { r with seq := sq }) := by
  rw [seqT, List.take_length, List.drop_length, List.append_nil]
theorem seqT_set {l : List RV} {sq : Int} {i : Nat} (h : i < l.length) : setC (i * 6 + 5) [C.i .i64 sq] (rvC (seqT l sq i)) = rvC (seqT l sq (i + 1)) := by
  have hi : i < (seqT l sq i).length := by rw [seqT_len]; exact h
  have hml : ((l.take i).map fun r => ({ r with seq := sq } : RV)).length = i := by rw [List.length_map, List.length_take, Nat.min_eq_left (by omega)]
  have hel0 : (seqT l sq i)[i]? = some l[i] := by
    unfold seqT
    rw [List.getElem?_append_right (by omega), hml, Nat.sub_self, List.getElem?_drop, Nat.add_zero, List.getElem?_eq_getElem h]
  have hel : (seqT l sq i)[i] = l[i] := (List.getElem?_eq_some_iff.1 hel0).2
  have hset : (seqT l sq i).set i { l[i] with seq := sq } = seqT l sq (i + 1) := by
    unfold seqT
    rw [List.set_append_right _ _ (by omega), hml, Nat.sub_self, List.drop_eq_getElem_cons h, List.set_cons_zero, List.take_succ_eq_append_getElem h, List.map_append, List.append_assoc]
    rfl
  rw [rvC, ← hset]
  refine setC_flat (F := RV.cells) (z := 6) (fun _ => rfl) hi (by simp) ?_
  rw [hel]; rfl
theorem StP.pgs {m : Im} {s : STM} {a : Option Addr} {c : Nat} {l : List PGM} (h : StP m s) (h1 : l.length ≤ c) (h2 : PgP m a l) : StP m ⟨s.seq, s.clk, a, c, l, s.ga, s.gc, s.gone, s.qa, s.qc, s.props, s.proposed, s.wa, s.wc, s.watches, s.la, s.lc, s.lasts⟩ :=
  h.of h1 h2 h.room.gone h.gone h.room.props h.props
theorem StP.prs {m : Im} {s : STM} {a : Option Addr} {c : Nat} {l : List PP} {pr : Int} (h : StP m s) (h1 : l.length ≤ c) (h2 : SlF m 0 8 a l.length (ppC l)) : StP m ⟨s.seq, s.clk, s.pa, s.pc, s.pages, s.ga, s.gc, s.gone, a, c, l, pr, s.wa, s.wc, s.watches, s.la, s.lc, s.lasts⟩ :=
  h.of h.room.pages h.pages h.room.gone h.gone h1 h2
theorem pp_id {l : List PP} {i : Nat} (h : i < l.length) : ((ppC l).drop (i * 8 + 0)).take 1 = [.i .i64 l[i].id] := by
  rw [ppC, flat_get (F := PP.cells) (z := 8) (fun _ => rfl) h (by omega)]; rfl
def idP (n : Int) (p : PP) : Bool := !decide (p.id = n)
end Go.X
namespace Go.Proofs
open Go Go.X
set_option maxRecDepth 100000
set_option maxHeartbeats 4000000
theorem move27_ok (s : STM) (c : CHM) (sq : Int) (hs : StS s) (hn : c.tnm.length ≤ 1000000) : FnS Tryz.prog 106 [.agg s.cells, .agg c.cells, .c (.i .i64 sq)] [] [stF s] (StPost (moveT s.pl c.pl sq)) := by
  have hrd : ∀ L, Reads L [stF s] 0 3 s.pa s.pages.length (pgmC s.pages) := fun L => .inr fun m h => h.1.pages.row
  have cf := find27_ok 0 s.pa s.pc s.pages c.sp c.nm hs.big.pages
  have cf2 := find27_ok 0 s.pa s.pc s.pages c.tsp c.tnm hs.big.pages
  have cd := drop27_ok 0 s.qa s.qc s.props c.sp c.nm hs.props
  have cr := redirect27_ok c.tsp c.tnm hn
  have hl := hs.pages
  generalize hR : moveT s.pl c.pl sq = R
  unfold moveT at hR
  rw [show c.pl.sp = c.sp from rfl, show c.pl.nm = c.nm from rfl, show c.pl.tsp = c.tsp from rfl, show c.pl.tnm = c.tnm from rfl, show c.pl.n = c.n from rfl, show c.pl.user = c.user from rfl, idx_pl, idx_pl, len_pl] at hR
  rcases find_idx (atM c.sp c.nm) s.pages with ⟨h1, _⟩ | ⟨i, hi, h1, _, h3⟩
  · rw [h1, if_pos (by omega)] at hR
    rw [h1] at cf
    subst hR
    refine fn_of_J Tryz.tyOK 0 Tryz.func106 (by kernel_rfl) (c := Tryz.f106.body.getD .skip) (by kernel_rfl) Tryz.ntmps106 (rs := Tryz.f106.results.toList) rfl (by simp) (fun G => ?_)
    repeat' first | refine J_seq ?_ | refine J_region Tryz.tyOK ?_ | refine J_block ?_ | refine J_cond ?_ | refine J_ret ?_ | refine J_skip ?_ | refine J_exit ?_ | refine J_scope ?_ | refine CondP.y ?_ | refine CondP.n ?_ | refine CondP.mk (fun h => ?_) (fun h => ?_) | refine EqP.mk rfl ?_ | refine NewP.mk (fun ad => ?_) | refine ArP.x ?_ | refine SideP.a ?_ | refine CallP.is cf ?_ (fun _ h => ⟨h.1.pages.row, trivial⟩) | refine FinE.mk [] [stF s] ⟨s, rfl, rfl, rfl, rfl⟩ Ents.dropAll | fail
  · rw [h1, if_neg (by omega), pageAt_pl hi, Int.toNat_natCast] at hR
    rw [h1] at cf
    have hmem := List.getElem_mem hi
    have hg := pgm_get hi
    have cw := without27_ok s.pa s.pc s.pages i hl hi
    generalize s.pages[i] = p at *
    generalize idxG (atM c.tsp c.tnm) s.pages = k at *
    have hlE : (s.pages.eraseIdx i).length ≤ 999 := by rw [List.length_eraseIdx_of_lt hi]; omega
    have hdup : 0 ≤ k → R = (s.pl, 5) := fun h => by rw [← hR, if_pos h]
    have hfull : ¬ 0 ≤ k → c.n = 1 → 200 ≤ (s.pages.length : Int) → R = (s.pl, 8) := fun h h' h'' => by rw [← hR, if_neg h, if_pos ⟨h', h''⟩]
    have hE : (s.pages.eraseIdx i).map PGM.pl = s.pl.pages.eraseIdx i := erase_pl _ _
    have hx : insG (befT c.tsp c.tnm) (s.pl.pages.eraseIdx i) ⟨c.tsp, c.tnm, p.pl.hist⟩ = (insM (s.pages.eraseIdx i) ⟨c.tsp, c.tnm, p.ha, p.hc, p.hist⟩).map PGM.pl := by rw [insM_pl, hE]; rfl
    have hone : ¬ 0 ≤ k → ¬ (c.n = 1 ∧ 200 ≤ (s.pages.length : Int)) → ¬ c.n = 1 → R = ({ s.pl with pages := (insM (s.pages.eraseIdx i) ⟨c.tsp, c.tnm, p.ha, p.hc, p.hist⟩).map PGM.pl, props := dropT s.props c.sp c.nm }, 0) := fun h h' h'' => by
      rw [← hR, if_neg h, if_neg h']
      dsimp only
      rw [if_neg h'', hx]; rfl
    have htwo : ∀ a k', ¬ 0 ≤ k → ¬ (c.n = 1 ∧ 200 ≤ (s.pages.length : Int)) → c.n = 1 → R = ({ s.pl with pages := (insM (insM (s.pages.eraseIdx i) ⟨c.tsp, c.tnm, p.ha, p.hc, p.hist⟩) ⟨c.sp, c.nm, a, k', [⟨1, c.user, [], redirT c.tsp c.tnm, s.clk, sq⟩]⟩).map PGM.pl, props := dropT s.props c.sp c.nm }, 0) := fun a k' h h' h'' => by
      rw [← hR, if_neg h, if_neg h']
      dsimp only
      rw [if_pos h'', hx, insM_pl _ ⟨c.sp, c.nm, a, k', _⟩]; rfl
    clear hR hx hE
    have ci := fun a1 k1 => insert27_ok a1 k1 (s.pages.eraseIdx i) ⟨c.tsp, c.tnm, p.ha, p.hc, p.hist⟩ (by omega)
    have hlI : (insM (s.pages.eraseIdx i) ⟨c.tsp, c.tnm, p.ha, p.hc, p.hist⟩).length ≤ 1000 := by rw [insM_len]; omega
    generalize hMM : insM (s.pages.eraseIdx i) ⟨c.tsp, c.tnm, p.ha, p.hc, p.hist⟩ = M at *
    have ci2 := fun a1 k1 a k' => insert27_ok a1 k1 M ⟨c.sp, c.nm, a, k', [⟨1, c.user, [], redirT c.tsp c.tnm, s.clk, sq⟩]⟩ hlI
    have hhis : ∀ m, StP m s → pgsP m M := fun m h => by
      rw [← hMM]; exact (h.pages.his.erase i).ins (h.pages.his p hmem)
    clear hMM
    generalize redirT c.tsp c.tnm = rt at *
    refine fn_of_J Tryz.tyOK 0 Tryz.func106 (by kernel_rfl) (c := Tryz.f106.body.getD .skip) (by kernel_rfl) Tryz.ntmps106 (rs := Tryz.f106.results.toList) rfl (by simp) (fun G => ?_)
    repeat' first | refine J_seq ?_ | refine J_region Tryz.tyOK ?_ | refine J_block ?_ | refine J_cond ?_ | refine J_ret ?_ | refine J_skip ?_ | refine J_exit ?_ | refine J_scope ?_ | refine CondP.y ?_ | refine CondP.n ?_ | refine CondP.mk (fun h => ?_) (fun h => ?_) | refine EqP.mk rfl ?_ | refine NewP.mk (fun ad => ?_) | refine ArP.x ?_ | refine SideP.a ?_ | refine J_drawZ (id := 10) Tryz.tyOK (by kernel_rfl) [0, 1, 0, 7, 0, 31, 63, 127] [0, 1, 2, 4, 3, 5, 6, 7] [3, 5, 7] [3, 9] 7 true (by kernel_rfl) ?_ | refine J_drawZ (id := 12) Tryz.tyOK (by kernel_rfl) [0, 1, 0, 4, 12, 0, 32, 0, 255, 0, 1023] [0, 1, 2, 3, 4, 5, 6, 7, 8, 9, 10] [9, 10] [3, 4] 10 true (by kernel_rfl) ?_ | refine EntP.mk Ents.a ?_ | refine CallP.is cf ?_ (fun _ h => ⟨h.1.pages.row, trivial⟩) | refine CallP.is cf2 ?_ (fun _ h => ⟨h.1.pages.row, trivial⟩) | (rw [hdup (by omega)]; refine FinE.mk [] [stF s] ⟨s, rfl, rfl, rfl, rfl⟩ Ents.dropAll) | (rw [hfull (by omega) (by omega) (by omega)]; refine FinE.mk [] [stF s] ⟨s, rfl, rfl, rfl, rfl⟩ Ents.dropAll) | refine IdxE.mk 0 3 _ (hrd _) (by omega) (by omega) ?_ | refine LoadE.mk 0 _ _ [.i .i64 p.sp, .s p.nm, .sl p.ha p.hist.length p.hc] (hrd _) (by omega) (by omega) (by first | omega | decide) (by exact hg) ?_ | refine CallP.mk [] _ [_] _ cw (List.Perm.refl _) (fun _ h => ⟨⟨h.1.room.pages, h.1.pages.row⟩, trivial⟩) (fun v L' D' hq => ?_); obtain ⟨a3, k3, rfl, rfl, rfl⟩ := hq | refine CallP.mk [] _ [_] _ (ci _ _) (List.Perm.refl _) (fun _ h => ⟨h.1, trivial⟩) (fun v L' D' hq => ?_); obtain ⟨a4, k4, rfl, rfl, rfl⟩ := hq | refine CallQ.mk [] _ cr (fun _ _ => trivial) ?_ | refine CallP.mk [] _ [_] _ (ci2 _ _ _ _) (List.Perm.refl _) (fun _ h => ⟨h.1, trivial⟩) (fun v L' D' hq => ?_); obtain ⟨a5, k5, rfl, rfl, rfl⟩ := hq | refine CallP.mk [] _ [_] _ cd (List.Perm.refl _) (fun _ h => ⟨h.2.2.1.props, trivial⟩) (fun v L' D' hq => ?_); obtain ⟨a6, k6, rfl, rfl, rfl⟩ := hq | refine CallP.mk [] _ [_] _ cd (List.Perm.refl _) (fun _ h => ⟨h.2.2.2.1.props, trivial⟩) (fun v L' D' hq => ?_); obtain ⟨a6, k6, rfl, rfl, rfl⟩ := hq | (rw [hone (by omega) (by omega) (by omega)]; refine FinE.mk [] [stF _] ⟨⟨s.seq, s.clk, a4, k4, M, s.ga, s.gc, s.gone, a6, k6, dropT s.props c.sp c.nm, s.proposed, s.wa, s.wc, s.watches, s.la, s.lc, s.lasts⟩, rfl, rfl, rfl, rfl⟩ (Ents.dropAll.trans (Ents.facts fun m h => ⟨h.2.2.2.1.of h.2.1.1 ⟨h.2.1.2, hhis m h.2.2.2.1⟩ h.2.2.2.1.room.gone h.2.2.2.1.gone h.1.1 h.1.2, trivial⟩))) | (rw [htwo _ _ (by omega) (by omega) (by omega)]; refine FinE.mk [] [stF _] ⟨⟨s.seq, s.clk, a5, k5, insM M ⟨c.sp, c.nm, _, _, [⟨1, c.user, [], rt, s.clk, sq⟩]⟩, s.ga, s.gc, s.gone, a6, k6, dropT s.props c.sp c.nm, s.proposed, s.wa, s.wc, s.watches, s.la, s.lc, s.lasts⟩, rfl, rfl, rfl, rfl⟩ ((Ents.ofSub (L0 := [.row 98 6 _ 1 _ _]) (by repeat (first | exact List.Sublist.slnil | refine List.Sublist.cons_cons _ ?_ | refine List.Sublist.cons _ ?_)) (fun _ h => h)).trans (Ents.toFact.trans (Ents.facts fun m h => ⟨h.2.2.2.2.2.1.of h.2.2.1.1 ⟨h.2.2.1.2, (hhis m h.2.2.2.2.2.1).ins h.1⟩ h.2.2.2.2.2.1.room.gone h.2.2.2.2.2.1.gone h.2.1.1 h.2.1.2, trivial⟩)))) | fail
theorem take27_ok (s : STM) (c : CHM) (sq : Int) (hs : StS s) (h1 : 1 ≤ c.hist.length) (h2 : c.hist.length ≤ 1000) : FnS Tryz.prog 107 [.agg s.cells, .agg c.cells, .c (.i .i64 sq)] [] [stF s, chF c] (StPost (takeT s.pl c.pl sq)) := by
  have hrc : ∀ L, Reads L [stF s, chF c] 0 6 c.ha c.hist.length (rvC c.hist) := fun L => .inr fun m h => h.2.1
  have cf := find27_ok 0 s.pa s.pc s.pages c.sp c.nm hs.big.pages
  have hl := hs.pages
  have hg := rv_last (l := c.hist) (by omega)
  generalize hR : takeT s.pl c.pl sq = R
  unfold takeT at hR
  rw [show c.pl.sp = c.sp from rfl, show c.pl.nm = c.nm from rfl, show c.pl.hist = c.hist from rfl, show s.pl.clk = s.clk from rfl, idx_pl, len_pl] at hR
  generalize idxG (atM c.sp c.nm) s.pages = k at *
  generalize (c.hist.getLast?.getD default).min = mn at *
  have hdup : 0 ≤ k → R = (s.pl, 5) := fun h => by rw [← hR, if_pos h]
  have hrng : ¬ 0 ≤ k → s.clk < mn → R = (s.pl, 2) := fun h h' => by rw [← hR, if_neg h, if_pos h']
  have hfull : ¬ 0 ≤ k → ¬ s.clk < mn → 200 ≤ (s.pages.length : Int) → R = (s.pl, 8) := fun h h' h'' => by rw [← hR, if_neg h, if_neg h', if_pos h'']
  have hnew : ∀ a k', ¬ 0 ≤ k → ¬ s.clk < mn → ¬ 200 ≤ (s.pages.length : Int) → R = ({ s.pl with pages := (insM s.pages ⟨c.sp, c.nm, a, k', seqT c.hist sq c.hist.length⟩).map PGM.pl }, 0) := fun a k' h h' h'' => by
    rw [← hR, if_neg h, if_neg h', if_neg h'', insM_pl, seqT_all]; rfl
  clear hR
  have hcl : (seqT c.hist sq c.hist.length).length = c.hist.length := seqT_len _ _ _
  have ci := fun a k' => insert27_ok s.pa s.pc s.pages ⟨c.sp, c.nm, a, k', seqT c.hist sq c.hist.length⟩ hl
  have hxc : ∀ a k', (PGM.mk c.sp c.nm a k' (seqT c.hist sq c.hist.length)).cells = [.i .i64 c.sp, .s c.nm, .sl a c.hist.length k'] := fun a k' => by simp only [PGM.cells]; rw [hcl]
  simp only [hxc] at ci
  refine fn_of_J Tryz.tyOK 0 Tryz.func107 (by kernel_rfl) (c := Tryz.f107.body.getD .skip) (by kernel_rfl) Tryz.ntmps107 (rs := Tryz.f107.results.toList) rfl (by simp) (fun G => ?_)
  repeat' first | refine J_seq ?_ | refine J_region Tryz.tyOK ?_ | refine J_block ?_ | refine J_cond ?_ | refine J_ret ?_ | refine J_skip ?_ | refine J_exit ?_ | refine J_scope ?_ | refine CondP.y ?_ | refine CondP.n ?_ | refine CondP.mk (fun h => ?_) (fun h => ?_) | refine EqP.mk rfl ?_ | refine NewP.mk (fun ad => ?_) | refine ArP.x ?_ | refine SideP.a ?_ | refine J_drawS (id := 3) Tryz.tyOK (by kernel_rfl) [0, 1, 0, 4, 12, 28, 63, 127, 255, 0, 512, 2047] [0, 1, 2, 3, 4, 5, 6, 7, 8, 9, 10, 11] [] [3, 4, 23] true (by kernel_rfl) ?_ | refine EntP.mk Ents.a ?_ | refine CallP.is cf ?_ (fun _ h => ⟨h.1.pages.row, trivial⟩) | refine IdxE.mk 0 6 _ (hrc _) (by omega) (by omega) ?_ | refine FldE.mk 0 6 _ _ (hrc _) (by omega) ?_ | refine LoadE.mk 0 _ _ [.i .i64 mn] (hrc _) (by omega) (by omega) (by first | omega | decide) (by exact hg) ?_ | (rw [hdup (by omega)]; refine FinE.mk [] [stF s] ⟨s, rfl, rfl, rfl, rfl⟩ (Ents.dropAll.trans (Ents.facts fun _ h => ⟨h.1, trivial⟩))) | (rw [hrng (by omega) (by omega)]; refine FinE.mk [] [stF s] ⟨s, rfl, rfl, rfl, rfl⟩ (Ents.dropAll.trans (Ents.facts fun _ h => ⟨h.1, trivial⟩))) | (rw [hfull (by omega) (by omega) (by omega)]; refine FinE.mk [] [stF s] ⟨s, rfl, rfl, rfl, rfl⟩ (Ents.dropAll.trans (Ents.facts fun _ h => ⟨h.1, trivial⟩))) | refine AppE.nil (rvC c.hist) c.hist.length rfl rfl rfl (SrcE.sl 0 98 _ _ _ _ _ rfl rfl (hrc _) (rvC_len _)) (by dsimp only; omega) (fun a1 k1 => ?_) | fail
  rename_i ad0 ad1 _ _
  refine J_loop (α := Nat) (fun i => [(2, .c (.i .i64 sq)), (3, .c (.p 0 ad0 0)), (4, .c (.p 1 ad1 0)), (6, .c (.p 2 ad 0)), (8, .c (.sl a1 c.hist.length k1)), (9, .c (.i .i64 i))]) (fun i => [.row 98 6 a1 c.hist.length k1 (rvC (seqT c.hist sq i)), .box 2 ad 42 STM.nil.cells, .box 1 ad1 90 c.cells, .box 0 ad0 42 s.cells]) (fun _ => [stF s, chF c]) 3
    (fun i => i ≤ c.hist.length) (fun i => c.hist.length - i) (InFam.mk 0 (Nat.zero_le _) SubE.a (Ents.refl _ _)) (fun i hi => ?_)
  by_cases hlt : i < c.hist.length
  · have hst := seqT_set (sq := sq) hlt
    repeat' first | refine J_seq ?_ | refine J_region Tryz.tyOK ?_ | refine J_block ?_ | refine J_cond ?_ | refine J_ret ?_ | refine J_skip ?_ | refine J_exit ?_ | refine J_scope ?_ | refine CondP.y ?_ | refine CondP.n ?_ | refine CondP.mk (fun h => ?_) (fun h => ?_) | refine EqP.mk rfl ?_ | refine NewP.mk (fun ad => ?_) | refine ArP.x ?_ | refine SideP.a ?_ | refine IdxE.mk 98 6 _ (.inl ⟨_, List.Mem.head _⟩) (by omega) (by omega) ?_ | refine FldE.mk 98 6 c.hist.length _ (.inl ⟨_, List.Mem.head _⟩) (by omega) ?_ | refine StoreE.mk [] _ _ _ _ _ _ rfl (by omega) (by omega) (Nat.le_of_ble_eq_true rfl) (by exact hst) ?_ | refine Round.mk (i + 1) (by omega) (by omega) SubE.a (Ents.refl _ _) | fail
  · have hil : i = c.hist.length := by omega
    subst hil
    repeat' first | refine J_seq ?_ | refine J_region Tryz.tyOK ?_ | refine J_block ?_ | refine J_cond ?_ | refine J_ret ?_ | refine J_skip ?_ | refine J_exit ?_ | refine J_scope ?_ | refine CondP.y ?_ | refine CondP.n ?_ | refine CondP.mk (fun h => ?_) (fun h => ?_) | refine EqP.mk rfl ?_ | refine NewP.mk (fun ad => ?_) | refine ArP.x ?_ | refine SideP.a ?_ | refine CallP.mk [] _ [_] _ (ci _ _) (List.Perm.refl _) (fun _ h => ⟨⟨h.1.room.pages, h.1.pages.row⟩, trivial⟩) (fun v L' D' hq => ?_); obtain ⟨a2, k2, rfl, rfl, rfl⟩ := hq | (rw [hnew a1 k1 (by omega) (by omega) (by omega)]; refine FinE.mk [] [stF _] ⟨⟨s.seq, s.clk, a2, k2, insM s.pages ⟨c.sp, c.nm, a1, k1, seqT c.hist sq c.hist.length⟩, s.ga, s.gc, s.gone, s.qa, s.qc, s.props, s.proposed, s.wa, s.wc, s.watches, s.la, s.lc, s.lasts⟩, rfl, rfl, rfl, rfl⟩ ((Ents.ofSub (L0 := [.row 98 6 a1 c.hist.length k1 (rvC (seqT c.hist sq c.hist.length))]) (by repeat (first | exact List.Sublist.slnil | refine List.Sublist.cons_cons _ ?_ | refine List.Sublist.cons _ ?_)) (fun _ h => h)).trans (Ents.toFact.trans (Ents.facts fun _ h => ⟨h.2.2.1.pgs h.2.1.1 ⟨h.2.1.2, h.2.2.1.pages.his.ins (by dsimp only; rw [hcl]; exact h.1)⟩, trivial⟩)))) | fail
theorem propose27_ok (s : STM) (c : CHM) (hs : StS s) (h0 : 0 ≤ s.proposed) : FnS Tryz.prog 109 [.agg s.cells, .agg c.cells] [] [stF s] (StPost (proposeT s.pl c.pl)) := by
  have hrd : ∀ L, Reads L [stF s] 0 8 s.qa s.props.length (ppC s.props) := fun L => .inr fun m h => h.1.props
  have hl := hs.props
  generalize hR : proposeT s.pl c.pl = R
  unfold proposeT at hR
  have hfull : 40 ≤ (s.props.length : Int) ∨ 1073741824 ≤ s.proposed → R = (s.pl, 8) := fun h => by rw [← hR]; exact if_pos h
  have hnew : ¬ (40 ≤ (s.props.length : Int) ∨ 1073741824 ≤ s.proposed) → R = ({ s.pl with proposed := s.proposed + 1, props := s.props ++ [⟨s.proposed + 1, c.user, c.note, c.sp, c.nm, c.n, c.text, s.clk⟩] }, 0) := fun h => by rw [← hR]; exact if_neg h
  clear hR
  have hap : ppC s.props ++ [.i .i64 (s.proposed + 1), .s c.user, .s c.note, .i .i64 c.sp, .s c.nm, .i .i64 c.n, .s c.text, .i .i64 s.clk] = ppC (s.props ++ [⟨s.proposed + 1, c.user, c.note, c.sp, c.nm, c.n, c.text, s.clk⟩]) := by simp [ppC, PP.cells]
  have hln : s.props.length + 1 = (s.props ++ [(⟨s.proposed + 1, c.user, c.note, c.sp, c.nm, c.n, c.text, s.clk⟩ : PP)]).length := by simp
  refine fn_of_J Tryz.tyOK 0 Tryz.func109 (by kernel_rfl) (c := Tryz.f109.body.getD .skip) (by kernel_rfl) Tryz.ntmps109 (rs := Tryz.f109.results.toList) rfl (by simp) (fun G => ?_)
  repeat' first | refine J_seq ?_ | refine J_region Tryz.tyOK ?_ | refine J_block ?_ | refine J_cond ?_ | refine J_ret ?_ | refine J_skip ?_ | refine J_exit ?_ | refine J_scope ?_ | refine CondP.y ?_ | refine CondP.n ?_ | refine CondP.mk (fun h => ?_) (fun h => ?_) | refine EqP.mk rfl ?_ | refine NewP.mk (fun ad => ?_) | refine ArP.x ?_ | refine SideP.a ?_ | refine J_drawT (id := 5) Tryz.tyOK (by kernel_rfl) [0, 1, 3, 0, 8, 31, 63, 127] [0, 1, 3] 2 [4, 5, 6, 7] 4 [2, 5, 6, 7] [2, 4, 5, 7] [2, 6] 7 false (by kernel_rfl) ?_ | refine TwoP.mk ?_ ?_ | refine EntP.mk Ents.a ?_ | (rw [hfull (by omega)]; refine FinE.mk [] [stF s] ⟨s, rfl, rfl, rfl, rfl⟩ Ents.dropAll) | refine AppE.nil (ppC s.props) s.props.length rfl rfl rfl (SrcE.sl 0 196 _ _ _ _ _ rfl rfl (hrd _) (ppC_len _)) (by dsimp only; omega) (fun a1 k1 => ?_) | refine AppE.row [_] _ (ppC s.props) [.i .i64 (s.proposed + 1), .s c.user, .s c.note, .i .i64 c.sp, .s c.nm, .i .i64 c.n, .s c.text, .i .i64 s.clk] 1 rfl (SrcE.sl 196 196 _ _ 1 1 _ rfl rfl (.inl ⟨1, List.Mem.head _⟩) rfl) (by dsimp only; omega) (fun a2 k2 => ?_); rw [hap, hln] | refine AppE.row [] _ (ppC s.props) [.i .i64 (s.proposed + 1), .s c.user, .s c.note, .i .i64 c.sp, .s c.nm, .i .i64 c.n, .s c.text, .i .i64 s.clk] 1 rfl (SrcE.sl 196 196 _ _ 1 1 _ rfl rfl (.inl ⟨1, List.Mem.tail _ (List.Mem.head _)⟩) rfl) (by dsimp only; omega) (fun a2 k2 => ?_); rw [hap, hln] | (rw [hnew (by omega)]; refine FinE.mk [] [stF _] ⟨⟨s.seq, s.clk, s.pa, s.pc, s.pages, s.ga, s.gc, s.gone, a2, k2, s.props ++ [⟨s.proposed + 1, c.user, c.note, c.sp, c.nm, c.n, c.text, s.clk⟩], s.proposed + 1, s.wa, s.wc, s.watches, s.la, s.lc, s.lasts⟩, rfl, rfl, rfl, rfl⟩ ((Ents.ofSub (L0 := [.row 196 8 a2 (s.props ++ [(⟨s.proposed + 1, c.user, c.note, c.sp, c.nm, c.n, c.text, s.clk⟩ : PP)]).length k2 (ppC (s.props ++ [⟨s.proposed + 1, c.user, c.note, c.sp, c.nm, c.n, c.text, s.clk⟩]))]) (by repeat (first | exact List.Sublist.slnil | refine List.Sublist.cons_cons _ ?_ | refine List.Sublist.cons _ ?_)) (fun _ h => h)).trans (Ents.toFactC.trans (Ents.facts fun _ h => ⟨h.2.1.prs h.1.1 h.1.2, trivial⟩)))) | fail
theorem shut27_ok (s : STM) (c : CHM) (hs : StS s) : FnS Tryz.prog 110 [.agg s.cells, .agg c.cells] [] [stF s] (StPost (shutT s.pl c.pl)) := by
  have hrd : ∀ L, Reads L [stF s] 0 8 s.qa s.props.length (ppC s.props) := fun L => .inr fun m h => h.1.props
  have hl := hs.props
  generalize hR : shutT s.pl c.pl = R
  unfold shutT at hR
  have hq : s.props.filter (fun p => !decide (p.id = c.n)) = (s.props.take s.props.length).filter (idP c.n) := by rw [List.take_length]; rfl
  have hnone : (((s.props.take s.props.length).filter (idP c.n)).length : Int) = s.props.length → R = (s.pl, 4) := fun h => by
    rw [← hq] at h
    rw [← hR]
    exact if_pos (by exact_mod_cast h)
  have hnew : ¬ (((s.props.take s.props.length).filter (idP c.n)).length : Int) = s.props.length → R = ({ s.pl with props := (s.props.take s.props.length).filter (idP c.n) }, 0) := fun h => by
    rw [← hq] at h ⊢
    rw [← hR]
    exact if_neg (fun e => h (by exact_mod_cast e))
  clear hR hq
  refine fn_of_J Tryz.tyOK 0 Tryz.func110 (by kernel_rfl) (c := Tryz.f110.body.getD .skip) (by kernel_rfl) Tryz.ntmps110 (rs := Tryz.f110.results.toList) rfl (by simp) (fun G => ?_)
  repeat' first | refine J_seq ?_ | refine J_region Tryz.tyOK ?_ | refine J_block ?_ | refine J_cond ?_ | refine J_ret ?_ | refine J_skip ?_ | refine J_exit ?_ | refine J_scope ?_ | refine CondP.y ?_ | refine CondP.n ?_ | refine CondP.mk (fun h => ?_) (fun h => ?_) | refine EqP.mk rfl ?_ | refine NewP.mk (fun ad => ?_) | refine ArP.x ?_ | refine SideP.a ?_ | fail
  rename_i ad0 ad1
  refine J_loop (α := Nat × Option Addr × Nat) (fun x => [(2, .c (.p 0 ad0 0)), (3, .c (.p 1 ad1 0)), (4, .c (.p 2 ad 0)), (6, .c (.sl x.2.1 ((s.props.take x.1).filter (idP c.n)).length x.2.2)), (7, .c (.i .i64 x.1))]) (fun x => [.row 196 8 x.2.1 ((s.props.take x.1).filter (idP c.n)).length x.2.2 (ppC ((s.props.take x.1).filter (idP c.n))), .box 2 ad 42 STM.nil.cells, .box 1 ad1 90 c.cells, .box 0 ad0 42 s.cells]) (fun _ => [stF s]) 3
    (fun x => x.1 ≤ s.props.length) (fun x => s.props.length - x.1) (InFam.mk (0, none, 0) (Nat.zero_le _) SubE.a (Ents.nilRow (ety := 196) (esz := 8))) (fun x hi => ?_)
  obtain ⟨i, a1, c1⟩ := x
  dsimp only at hi ⊢
  have hfl := filter_take_len (idP c.n) s.props i
  by_cases hlt : i < s.props.length
  · have hg := pp_get hlt
    have hg2 := pp_id hlt
    have hss := take_filter_succ (q := idP c.n) hlt
    have hd : idP c.n s.props[i] = !decide (s.props[i].id = c.n) := rfl
    have hyes : ¬ s.props[i].id = c.n → ((s.props.take i).filter (idP c.n)).length + 1 = ((s.props.take (i + 1)).filter (idP c.n)).length ∧ ppC ((s.props.take i).filter (idP c.n)) ++ s.props[i].cells = ppC ((s.props.take (i + 1)).filter (idP c.n)) := fun h => by
      rw [hss, hd, decide_eq_false h]
      exact ⟨by simp, by simp [ppC]⟩
    have hno : s.props[i].id = c.n → (s.props.take (i + 1)).filter (idP c.n) = (s.props.take i).filter (idP c.n) := fun h => by
      rw [hss, hd, decide_eq_true h]; simp
    clear hss hd
    generalize s.props[i] = y at *
    repeat' first | refine J_seq ?_ | refine J_region Tryz.tyOK ?_ | refine J_block ?_ | refine J_cond ?_ | refine J_ret ?_ | refine J_skip ?_ | refine J_exit ?_ | refine J_scope ?_ | refine CondP.y ?_ | refine CondP.n ?_ | refine CondP.mk (fun h => ?_) (fun h => ?_) | refine EqP.mk rfl ?_ | refine NewP.mk (fun ad => ?_) | refine ArP.x ?_ | refine SideP.a ?_ | refine J_drawS (id := 5) Tryz.tyOK (by kernel_rfl) [0, 1, 0, 7, 15, 31, 0, 64, 255] [0, 1, 2, 3, 4, 5, 6, 7, 8] [] [2, 3, 18] true (by kernel_rfl) ?_ | refine EntP.mk Ents.a ?_ | refine IdxE.mk 0 8 _ (hrd _) (by omega) (by omega) ?_ | refine FldE.mk 0 8 _ _ (hrd _) (by omega) ?_ | refine LoadE.mk 0 _ _ [.i .i64 y.id] (hrd _) (by omega) (by omega) (by first | omega | decide) (by exact hg2) ?_ | refine LoadE.mk 0 _ _ y.cells (hrd _) (by omega) (by omega) (by first | omega | decide) (by exact hg) ?_ | refine AppE.row [_] _ (ppC ((s.props.take i).filter (idP c.n))) y.cells 1 rfl (SrcE.sl 196 196 _ _ 1 1 _ rfl rfl (.inl ⟨1, List.Mem.head _⟩) rfl) (by dsimp only; omega) (fun a' c' => ?_); rw [(hyes (by assumption)).1, (hyes (by assumption)).2] | refine Round.mk (i + 1, a', c') (by dsimp only; omega) (by dsimp only; omega) SubE.a Ents.a | refine Round.mk (i + 1, a1, c1) (by dsimp only; omega) (by dsimp only; omega) (by dsimp only; rw [hno (by assumption)]; repeat' first | exact SubE.nil | refine SubE.cons rfl ?_ ?_ | exact VEq.refl _ | refine VEq.int (by omega) | refine VEq.sl rfl (by first | rfl | omega | (rw [List.length_append]; rfl) | (simp; omega)) rfl) (by dsimp only; rw [hno (by assumption)]; exact Ents.a) | fail
  · have hil : i = s.props.length := by omega
    subst hil
    generalize (s.props.take s.props.length).filter (idP c.n) = W at *
    repeat' first | refine J_seq ?_ | refine J_region Tryz.tyOK ?_ | refine J_block ?_ | refine J_cond ?_ | refine J_ret ?_ | refine J_skip ?_ | refine J_exit ?_ | refine J_scope ?_ | refine CondP.y ?_ | refine CondP.n ?_ | refine CondP.mk (fun h => ?_) (fun h => ?_) | refine EqP.mk rfl ?_ | refine NewP.mk (fun ad => ?_) | refine ArP.x ?_ | refine SideP.a ?_ | (rw [hnone (by assumption)]; refine FinE.mk [] [stF s] ⟨s, rfl, rfl, rfl, rfl⟩ Ents.dropAll) | (rw [hnew (by assumption)]; refine FinE.mk [] [stF _] ⟨⟨s.seq, s.clk, s.pa, s.pc, s.pages, s.ga, s.gc, s.gone, a1, c1, W, s.proposed, s.wa, s.wc, s.watches, s.la, s.lc, s.lasts⟩, rfl, rfl, rfl, rfl⟩ ((Ents.ofSub (L0 := [.row 196 8 a1 W.length c1 (ppC W)]) (by repeat (first | exact List.Sublist.slnil | refine List.Sublist.cons_cons _ ?_ | refine List.Sublist.cons _ ?_)) (fun _ h => h)).trans (Ents.toFactC.trans (Ents.facts fun _ h => ⟨h.2.1.prs h.1.1 h.1.2, trivial⟩)))) | fail
end Go.Proofs

/- This text walks through the functions of the reference of chapter 26 that check a change. -/
namespace Go.X
open Go Go.Lib
theorem formT_iff (c : CH) : formT c = true ↔ (1 ≤ c.kind ∧ c.kind ≤ 10) ∧ ((c.kind = 1 ∨ c.kind = 9) ∨ (c.note = [] ∧ c.text = [])) ∧ ((c.kind = 4 ∨ c.kind = 6 ∨ c.kind = 9 ∨ c.kind = 10) ∨ c.n = 0) ∧ ((¬ c.kind = 6 ∧ ¬ c.kind = 10) ∨ (c.sp = 0 ∧ c.nm = [])) ∧ (¬ c.kind = 6 ∨ c.user = []) ∧ (c.kind = 4 ∨ (c.tsp = 0 ∧ c.tnm = [])) ∧ (c.kind = 5 ∨ c.hist = []) := by
  simp only [formT, noteK, numK, titleK, Bool.and_eq_true, Bool.or_eq_true, decide_eq_true_eq, Bool.not_eq_true', decide_eq_false_iff_not, and_assoc, or_assoc]
theorem chRvOK_iff {i mi : Int} {r : RV} : chRvOK i mi r = true ↔ r.num = i + 1 ∧ r.seq = 0 ∧ userT r.user = true ∧ 0 ≤ r.min ∧ r.min ≤ 52595999 ∧ mi ≤ r.min := by
  simp only [chRvOK, Bool.and_eq_true, decide_eq_true_eq, and_assoc]
theorem chHistGo_at {i mi : Int} {l : List RV} {k : Nat} (h : k < l.length) : chHistGo i mi (l.drop k) = (chRvOK i mi l[k] && chHistGo (i + 1) l[k].min (l.drop (k + 1))) := by
  rw [List.drop_eq_getElem_cons h, chHistGo]
theorem getD_atR {l : List RV} {i : Nat} (h : i < l.length) : l.getD i default = l[i] := by
  rw [List.getD_eq_getElem?_getD, List.getElem?_eq_getElem h]; rfl
def prevMin (l : List RV) (i : Nat) : Int := if i = 0 then 0 else (l.getD (i - 1) default).min
theorem prevMin_succ {l : List RV} {i : Nat} (h : i < l.length) : prevMin l (i + 1) = l[i].min := by
  unfold prevMin
  rw [if_neg (by omega), Nat.add_sub_cancel, List.getD_eq_getElem?_getD, List.getElem?_eq_getElem h]; rfl
theorem rv_min {l : List RV} {i : Nat} (h : i < l.length) : ((rvC l).drop (i * 6 + 4)).take 1 = [.i .i64 l[i].min] := by
  rw [rvC, flat_get (F := RV.cells) (z := 6) (fun _ => rfl) h (by omega)]; rfl
theorem rv_note {l : List RV} {i : Nat} (h : i < l.length) : ((rvC l).drop (i * 6 + 2)).take 1 = [.s l[i].note] := by
  rw [rvC, flat_get (F := RV.cells) (z := 6) (fun _ => rfl) h (by omega)]; rfl
end Go.X
namespace Go.Proofs
open Go Go.X
set_option maxRecDepth 100000
set_option maxHeartbeats 4000000
theorem user26_ok (s : Bs) : FnS Tryz.prog 145 [.c (.s s)] [] [] (Is (.c (.b (userT s)))) := by
  have c1 := isNameA_ok s
  have hu : userT s = (decide (s = []) || isNameT s) := rfl
  refine fn_of_J Tryz.tyOK 0 Tryz.func145 (by kernel_rfl) (c := Tryz.f145.body.getD .skip) (by kernel_rfl) Tryz.ntmps145 (rs := Tryz.f145.results.toList) rfl (by simp) (fun G => ?_)
  repeat' first | refine J_seq ?_ | refine J_region Tryz.tyOK ?_ | refine J_block ?_ | refine J_cond ?_ | refine J_ret ?_ | refine J_skip ?_ | refine J_exit ?_ | refine J_scope ?_ | refine CondP.y ?_ | refine CondP.n ?_ | refine CondP.mk (fun h => ?_) (fun h => ?_) | refine EqP.mk rfl ?_ | refine NewP.mk (fun ad => ?_) | refine ArP.x ?_ | refine SideP.a ?_ | refine CallP.isB c1 (fun h1 => ?_) (fun h1 => ?_) | refine FinE.bool ?_ | fail
  all_goals (rw [hu]; simp [*])
theorem form26_ok (c : CHM) : FnS Tryz.prog 101 [.agg c.cells] [] [] (Is (.c (.b (formT c.pl)))) := by
  have hW := formT_iff c.pl
  change _ ↔ (1 ≤ c.kind ∧ c.kind ≤ 10) ∧ ((c.kind = 1 ∨ c.kind = 9) ∨ (c.note = [] ∧ c.text = [])) ∧ ((c.kind = 4 ∨ c.kind = 6 ∨ c.kind = 9 ∨ c.kind = 10) ∨ c.n = 0) ∧ ((¬ c.kind = 6 ∧ ¬ c.kind = 10) ∨ (c.sp = 0 ∧ c.nm = [])) ∧ (¬ c.kind = 6 ∨ c.user = []) ∧ (c.kind = 4 ∨ (c.tsp = 0 ∧ c.tnm = [])) ∧ (c.kind = 5 ∨ c.hist = []) at hW
  generalize formT c.pl = W at *
  have hh : c.hist = [] ↔ (c.hist.length : Int) = 0 := by
    rw [← List.length_eq_zero_iff]; omega
  rw [hh] at hW
  clear hh
  obtain ⟨kd, us, no, sp, nm, tsp, tnm, tx, n, ha, hc, hi⟩ := c
  dsimp only at hW
  refine fn_of_J Tryz.tyOK 0 Tryz.func101 (by kernel_rfl) (c := Tryz.f101.body.getD .skip) (by kernel_rfl) Tryz.ntmps101 (rs := Tryz.f101.results.toList) rfl (by simp) (fun G => ?_)
  repeat' first | refine J_seq ?_ | refine J_region Tryz.tyOK ?_ | refine J_block ?_ | refine J_cond ?_ | refine J_ret ?_ | refine J_skip ?_ | refine J_exit ?_ | refine J_scope ?_ | refine CondP.y ?_ | refine CondP.n ?_ | refine CondP.mk (fun h => ?_) (fun h => ?_) | refine EqP.mk rfl ?_ | refine NewP.mk (fun ad => ?_) | refine ArP.x ?_ | refine SideP.a ?_ | refine FinE.bool ?_ | fail
  all_goals grind
theorem hist26_ok (e : Nat) (a : Option Addr) (c : Nat) (l : List RV) (hl : l.length ≤ 9223372036854775807) : FnS Tryz.prog 146 [.c (.sl a l.length c)] [] [slFact e 6 a l.length (rvC l)] (Is (.c (.b (chHistT l)))) := by
  have hrd : ∀ L, Reads L [slFact e 6 a l.length (rvC l)] e 6 a l.length (rvC l) := fun L => .inr fun m h => h.1
  obtain ⟨W, hW⟩ : ∃ W, chHistT l = W := ⟨_, rfl⟩
  rw [hW]
  have hno : ¬ (1 ≤ l.length ∧ l.length ≤ 40) → W = false := fun h => by
    rw [← hW, chHistT]
    by_cases h1 : 1 ≤ (l.length : Int)
    · rw [decide_eq_false (show ¬ (l.length : Int) ≤ 40 by omega)]; simp
    · rw [decide_eq_false h1]; simp
  have hyes : 1 ≤ l.length ∧ l.length ≤ 40 → W = chHistGo 0 0 l := fun h => by
    rw [← hW, chHistT, decide_eq_true (show (1 : Int) ≤ (l.length : Int) by omega), decide_eq_true (show (l.length : Int) ≤ 40 by omega)]; simp
  clear hW
  refine fn_of_J Tryz.tyOK 0 Tryz.func146 (by kernel_rfl) (c := Tryz.f146.body.getD .skip) (by kernel_rfl) Tryz.ntmps146 (rs := Tryz.f146.results.toList) rfl (by simp) (fun G => ?_)
  repeat' first | refine J_seq ?_ | refine J_region Tryz.tyOK ?_ | refine J_block ?_ | refine J_cond ?_ | refine J_ret ?_ | refine J_skip ?_ | refine J_exit ?_ | refine J_scope ?_ | refine CondP.y ?_ | refine CondP.n ?_ | refine CondP.mk (fun h => ?_) (fun h => ?_) | refine EqP.mk rfl ?_ | refine NewP.mk (fun ad => ?_) | refine ArP.x ?_ | refine SideP.a ?_ | refine FinE.bool ?_ | fail
  · exact hno (by omega)
  · exact hno (by omega)
  have hyes := hyes (by omega)
  clear hno
  refine J_loop (α := Nat) (fun i => [(0, .c (.sl a l.length c)), (3, .c (.i .i64 i))]) (fun _ => []) (fun _ => [slFact e 6 a l.length (rvC l)]) 0
    (fun i => i ≤ l.length ∧ W = chHistGo i (prevMin l i) (l.drop i)) (fun i => l.length - i) (InFam.mk 0 ⟨Nat.zero_le _, hyes⟩ SubE.a (Ents.refl _ _)) (fun i hx => ?_)
  obtain ⟨hi, he⟩ := hx
  by_cases hlt : i < l.length
  · have hg := rv_get hlt
    have hpm := prevMin_succ hlt
    have hpi : prevMin l i = if i = 0 then 0 else (l.getD (i - 1) default).min := rfl
    have hg1 : 0 < i → ((rvC l).drop (((i : Int) - 1).toNat * 6 + 4)).take 1 = [.i .i64 (prevMin l i)] := fun h0 => by
      rw [hpi, if_neg (by omega), show ((i : Int) - 1).toNat = i - 1 by omega, getD_atR (show i - 1 < l.length by omega)]; exact rv_min (by omega)
    have hp0 : i = 0 → prevMin l i = 0 := fun h => by rw [hpi, if_pos h]
    clear hpi
    rw [chHistGo_at hlt, ← hpm] at he
    generalize hM : prevMin l (i + 1) = m2 at *
    generalize hP : prevMin l i = mi at *
    generalize l[i] = x at *
    have cu := user26_ok x.user
    by_cases hq : chRvOK i mi x = true
    · obtain ⟨q1, q2, q3, q4, q5, q6⟩ := chRvOK_iff.1 hq
      rw [hq, Bool.true_and] at he
      rw [q3] at cu
      clear hq
      repeat' first | refine J_seq ?_ | refine J_region Tryz.tyOK ?_ | refine J_block ?_ | refine J_cond ?_ | refine J_ret ?_ | refine J_skip ?_ | refine J_exit ?_ | refine J_scope ?_ | refine CondP.y ?_ | refine CondP.n ?_ | refine CondP.mk (fun h => ?_) (fun h => ?_) | refine EqP.mk rfl ?_ | refine NewP.mk (fun ad => ?_) | refine ArP.x ?_ | refine SideP.a ?_ | refine J_drawS (id := 7) Tryz.tyOK (by kernel_rfl) [0, 1, 0, 4, 15, 31, 63, 127, 255, 511, 1023, 2047, 4095, 8191, 16383, 32767, 65535, 131071, 262143, 524287, 1048575, 2097151, 4194303, 8388607, 16777215, 33554431, 67108863, 134217727, 268435455, 536870911, 1073741823, 2147483647, 1073741823, 1073741823, 9663676415, 31138512895, 65498251263, 134217727999, 274877906943, 549755813887, 1099511627775] [0, 1, 2, 3, 4, 5, 6, 7, 8, 9, 10, 11, 12, 13, 14, 15, 16, 17, 18, 19, 20, 21, 22, 23, 24, 25, 26, 27, 28, 29, 30, 31, 32, 33, 34, 35, 36, 37, 38, 39, 40] [] [4, 58] true (by kernel_rfl) ?_ | refine EntP.mk Ents.a ?_ | refine IdxE.mk e 6 _ (hrd _) (by omega) (by omega) ?_ | refine FldE.mk e 6 _ _ (hrd _) (by omega) ?_ | refine LoadE.mk e _ _ x.cells (hrd _) (by omega) (by omega) (by first | omega | decide) (by exact hg) ?_ | refine LoadE.mk e _ _ [.i .i64 mi] (hrd _) (by omega) (by omega) (by first | omega | decide) (by exact hg1 (by omega)) ?_ | refine CallQ.mk [] _ cu (fun _ _ => trivial) ?_ | refine Round.mk (i + 1) (by omega) ⟨by omega, by rw [hM]; exact he⟩ SubE.a Ents.a | fail
    · have hq0 : chRvOK i mi x = false := by simpa using hq
      rw [hq0, Bool.false_and] at he
      subst he
      cases hu : userT x.user
      all_goals
        rw [hu] at cu
        repeat' first | refine J_seq ?_ | refine J_region Tryz.tyOK ?_ | refine J_block ?_ | refine J_cond ?_ | refine J_ret ?_ | refine J_skip ?_ | refine J_exit ?_ | refine J_scope ?_ | refine CondP.y ?_ | refine CondP.n ?_ | refine CondP.mk (fun h => ?_) (fun h => ?_) | refine EqP.mk rfl ?_ | refine NewP.mk (fun ad => ?_) | refine ArP.x ?_ | refine SideP.a ?_ | refine J_drawS (id := 7) Tryz.tyOK (by kernel_rfl) [0, 1, 0, 4, 15, 31, 63, 127, 255, 511, 1023, 2047, 4095, 8191, 16383, 32767, 65535, 131071, 262143, 524287, 1048575, 2097151, 4194303, 8388607, 16777215, 33554431, 67108863, 134217727, 268435455, 536870911, 1073741823, 2147483647, 1073741823, 1073741823, 9663676415, 31138512895, 65498251263, 134217727999, 274877906943, 549755813887, 1099511627775] [0, 1, 2, 3, 4, 5, 6, 7, 8, 9, 10, 11, 12, 13, 14, 15, 16, 17, 18, 19, 20, 21, 22, 23, 24, 25, 26, 27, 28, 29, 30, 31, 32, 33, 34, 35, 36, 37, 38, 39, 40] [] [4, 58] true (by kernel_rfl) ?_ | refine EntP.mk Ents.a ?_ | refine IdxE.mk e 6 _ (hrd _) (by omega) (by omega) ?_ | refine FldE.mk e 6 _ _ (hrd _) (by omega) ?_ | refine LoadE.mk e _ _ x.cells (hrd _) (by omega) (by omega) (by first | omega | decide) (by exact hg) ?_ | refine LoadE.mk e _ _ [.i .i64 mi] (hrd _) (by omega) (by omega) (by first | omega | decide) (by exact hg1 (by omega)) ?_ | refine CallQ.mk [] _ cu (fun _ _ => trivial) ?_ | refine FinE.is rfl | exact absurd (chRvOK_iff.2 ⟨by omega, by omega, hu, by omega, by omega, by omega⟩) hq | fail
  · have hil : i = l.length := by omega
    subst hil
    rw [List.drop_length] at he
    have he : W = true := he
    subst he
    repeat' first | refine J_seq ?_ | refine J_region Tryz.tyOK ?_ | refine J_block ?_ | refine J_cond ?_ | refine J_ret ?_ | refine J_skip ?_ | refine J_exit ?_ | refine J_scope ?_ | refine CondP.y ?_ | refine CondP.n ?_ | refine CondP.mk (fun h => ?_) (fun h => ?_) | refine EqP.mk rfl ?_ | refine NewP.mk (fun ad => ?_) | refine ArP.x ?_ | refine SideP.a ?_ | refine FinE.is rfl | fail
theorem within26_ok (c : CHM) (hl : c.hist.length ≤ 9223372036854775807) : FnS Tryz.prog 102 [.agg c.cells] [] [chF c] (Is (.c (.b (withinT c.pl)))) := by
  have cv := validA_ok c.sp c.nm
  have cv2 := validA_ok c.tsp c.tnm
  have cu := user26_ok c.user
  have ch := hist26_ok 0 c.ha c.hc c.hist hl
  obtain ⟨W, hW⟩ : ∃ W, withinT c.pl = W := ⟨_, rfl⟩
  rw [hW]
  unfold withinT titleK at hW
  change ((!(!decide (c.kind = 6) && !decide (c.kind = 10)) || validT c.sp c.nm) && userT c.user && (if c.kind = 7 ∨ c.kind = 8 then !decide (c.user = []) else if c.kind = 4 then validT c.tsp c.tnm && (decide (c.n = 0) || decide (c.n = 1)) else if c.kind = 6 then decide (1 ≤ c.n) && decide (c.n ≤ 52596000) else if c.kind = 9 then decide (0 ≤ c.n) && decide (c.n ≤ 40) else if c.kind = 10 then decide (1 ≤ c.n) && decide (c.n ≤ 1073741824) else if c.kind = 5 then chHistT c.hist else true)) = W at hW
  have hF : chF c = slFact 0 6 c.ha c.hist.length (rvC c.hist) := rfl
  rw [hF]
  generalize validT c.sp c.nm = v1 at *
  generalize validT c.tsp c.tnm = v2 at *
  generalize userT c.user = u at *
  generalize chHistT c.hist = hh at *
  refine fn_of_J Tryz.tyOK 0 Tryz.func102 (by kernel_rfl) (c := Tryz.f102.body.getD .skip) (by kernel_rfl) Tryz.ntmps102 (rs := Tryz.f102.results.toList) rfl (by simp) (fun G => ?_)
  repeat' first | refine J_seq ?_ | refine J_region Tryz.tyOK ?_ | refine J_block ?_ | refine J_cond ?_ | refine J_ret ?_ | refine J_skip ?_ | refine J_exit ?_ | refine J_scope ?_ | refine CondP.y ?_ | refine CondP.n ?_ | refine CondP.mk (fun h => ?_) (fun h => ?_) | refine EqP.mk rfl ?_ | refine NewP.mk (fun ad => ?_) | refine ArP.x ?_ | refine SideP.a ?_ | refine CallP.isB cv (fun h1 => ?_) (fun h1 => ?_) | refine CallP.isB cv2 (fun h2 => ?_) (fun h2 => ?_) | refine CallP.isB cu (fun h3 => ?_) (fun h3 => ?_) | refine CallP.isB ch (fun h4 => ?_) (fun h4 => ?_) (fun _ h => h) | refine FinE.bool ?_ | fail
  all_goals (clear cv cv2 cu ch hF hl; grind)
theorem valid26_ok (c : CHM) (hl : c.hist.length ≤ 9223372036854775807) : FnS Tryz.prog 73 [.agg c.cells] [] [chF c] (Is (.c (.i .i64 (chValidT c.pl)))) := by
  have cf := form26_ok c
  have cw := within26_ok c hl
  have hF : chF c = slFact 0 6 c.ha c.hist.length (rvC c.hist) := rfl
  rw [hF] at cw ⊢
  have hrd : ∀ L, Reads L [slFact 0 6 c.ha c.hist.length (rvC c.hist)] 0 6 c.ha c.hist.length (rvC c.hist) := fun L => .inr fun m h => h.1
  obtain ⟨k, hk⟩ : ∃ k, chValidT c.pl = k := ⟨_, rfl⟩
  rw [hk]
  unfold chValidT at hk
  change (if formT c.pl = false then 7 else if withinT c.pl = false then 2 else if 8192 < (c.text.length : Int) ∨ 200 < (c.note.length : Int) then 3 else if c.hist.any rvLong = true then 3 else 0) = k at hk
  generalize formT c.pl = f at *
  generalize withinT c.pl = wi at *
  have hany : (∀ j, ∀ h : j < c.hist.length, rvLong c.hist[j] = false) → c.hist.any rvLong = false := fun h => by
    rw [List.any_eq_false]
    intro x hx
    obtain ⟨j, hj, rfl⟩ := List.getElem_of_mem hx
    rw [h j hj]; decide
  have hany2 : ∀ j, ∀ h : j < c.hist.length, rvLong c.hist[j] = true → c.hist.any rvLong = true := fun j hj h => List.any_eq_true.2 ⟨_, List.getElem_mem hj, h⟩
  generalize hB : c.hist.any rvLong = b at *
  refine fn_of_J Tryz.tyOK 0 Tryz.func73 (by kernel_rfl) (c := Tryz.f73.body.getD .skip) (by kernel_rfl) Tryz.ntmps73 (rs := Tryz.f73.results.toList) rfl (by simp) (fun G => ?_)
  repeat' first | refine J_seq ?_ | refine J_region Tryz.tyOK ?_ | refine J_block ?_ | refine J_cond ?_ | refine J_ret ?_ | refine J_skip ?_ | refine J_exit ?_ | refine J_scope ?_ | refine CondP.y ?_ | refine CondP.n ?_ | refine CondP.mk (fun h => ?_) (fun h => ?_) | refine EqP.mk rfl ?_ | refine NewP.mk (fun ad => ?_) | refine ArP.x ?_ | refine SideP.a ?_ | refine CallP.isB cf (fun h1 => ?_) (fun h1 => ?_) | refine CallP.isB cw (fun h2 => ?_) (fun h2 => ?_) (fun _ h => h) | refine FinE.int ?_ | fail
  · clear hany hany2 cf cw hrd; grind
  · clear hany hany2 cf cw hrd; grind
  · have hk : k = if b = true then 3 else 0 := by clear hany hany2 cf cw hrd; grind
    clear cf cw
    refine J_loop (α := Nat) (fun i => [(1, .c (.p 0 ad 0)), (3, .c (.i .i64 i))]) (fun _ => [.box 0 ad 90 c.cells]) (fun _ => [slFact 0 6 c.ha c.hist.length (rvC c.hist)]) 1
      (fun i => i ≤ c.hist.length ∧ ∀ j, ∀ h : j < c.hist.length, j < i → rvLong c.hist[j] = false) (fun i => c.hist.length - i) (InFam.mk 0 ⟨Nat.zero_le _, fun j _ h => absurd h (Nat.not_lt_zero j)⟩ SubE.a (Ents.refl _ _)) (fun i hx => ?_)
    obtain ⟨hi, hn⟩ := hx
    by_cases hlt : i < c.hist.length
    · have hg3 := rv_text hlt
      have hg2 := rv_note hlt
      have hyes := hany2 i hlt
      have hl3 : rvLong c.hist[i] = true ↔ 8192 < (c.hist[i].text.length : Int) ∨ 200 < (c.hist[i].note.length : Int) := by simp [rvLong]
      have hno : ¬ rvLong c.hist[i] = true → ∀ j, ∀ h : j < c.hist.length, j < i + 1 → rvLong c.hist[j] = false := fun h j hj hji => by
        by_cases he : j = i
        · subst he; simpa using h
        · exact hn j hj (by omega)
      generalize c.hist[i] = x at *
      repeat' first | refine J_seq ?_ | refine J_region Tryz.tyOK ?_ | refine J_block ?_ | refine J_cond ?_ | refine J_ret ?_ | refine J_skip ?_ | refine J_exit ?_ | refine J_scope ?_ | refine CondP.y ?_ | refine CondP.n ?_ | refine CondP.mk (fun h => ?_) (fun h => ?_) | refine EqP.mk rfl ?_ | refine NewP.mk (fun ad => ?_) | refine ArP.x ?_ | refine SideP.a ?_ | refine IdxE.mk 0 6 _ (hrd _) (by omega) (by omega) ?_ | refine FldE.mk 0 6 _ _ (hrd _) (by omega) ?_ | refine LoadE.mk 0 _ _ [.s x.text] (hrd _) (by omega) (by omega) (by first | omega | decide) (by exact hg3) ?_ | refine LoadE.mk 0 _ _ [.s x.note] (hrd _) (by omega) (by omega) (by first | omega | decide) (by exact hg2) ?_ | refine FinE.int (by rw [hk, if_pos (hyes (hl3.2 (by omega)))]) | refine Round.mk (i + 1) (by omega) ⟨by omega, hno (fun h => by have := hl3.1 h; omega)⟩ SubE.a Ents.a | fail
    · have hil : i = c.hist.length := by omega
      subst hil
      have hbf := hany fun j h => hn j h h
      rw [hbf] at hk
      have hk : k = 0 := hk
      repeat' first | refine J_seq ?_ | refine J_region Tryz.tyOK ?_ | refine J_block ?_ | refine J_cond ?_ | refine J_ret ?_ | refine J_skip ?_ | refine J_exit ?_ | refine J_scope ?_ | refine CondP.y ?_ | refine CondP.n ?_ | refine CondP.mk (fun h => ?_) (fun h => ?_) | refine EqP.mk rfl ?_ | refine NewP.mk (fun ad => ?_) | refine ArP.x ?_ | refine SideP.a ?_ | refine FinE.int hk | fail
  · clear hany hany2 cf cw hrd; grind
  · clear hany hany2 cf cw hrd; grind
end Go.Proofs
