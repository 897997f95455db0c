/- This text walks through the function Altered of the made values. -/
import Derived.Test.YtcddpbpbebkdmaaGreatDoorK16
import Derived.Test.YtcddpbpbebkdmaaGreatDoorK03
set_option linter.all false
namespace Go.X
open Go Go.Lib
theorem UT {m : Im} {l : List PGM} {k : Nat} {x : PGM} (h : J8 m l) (hx : Z8 m 0 6 x.ha x.hist.length (Zb x.hist)) : J8 m (l.set k x) := fun p hp => by
 rcases List.mem_or_eq_of_mem_set hp with h1 | rfl
 ·exact h p h1
 ·exact hx
theorem G2 {m : Im} {l : List PGM} {x : PGM} (h : J8 m l) (hx : Z8 m 0 6 x.ha x.hist.length (Zb x.hist)) : J8 m (l ++ [x]) := fun p hp => by
 rcases List.mem_append.1 hp with h1 | h1
 ·exact h p h1
 ·rw [List.mem_singleton.1 h1]; exact hx
theorem Sf {l : List PGM} {i : Nat} (h : i < l.length) (sp : Int) (nm : Bs) : QP (i * 3 + 0) [C.i .i64 sp, C.s nm] (Qm l) = Qm (l.set i ⟨sp, nm, l[i].ha, l[i].hc, l[i].hist⟩) := by
 refine Wo (F := PGM.cells) (z := 3) (fun _ => rfl) h (by simp) ?_
 rfl
theorem Ep {e1 e2 : Nat} {L : List Chunk} {D : List Fact} {s' : STM} (h : ∀ m, QI m D → J8 m s'.pages ∧ Ew m s'.ga s'.gone ∧ Z8 m 0 8 s'.qa s'.props.length (XI s'.props) ∧ Z8 m 0 3 s'.wa s'.watches.length (ZM s'.watches) ∧ s'.gone.length ≤ s'.gc ∧ s'.props.length ≤ s'.qc ∧ s'.watches.length ≤ s'.wc) :
  Qb (.row e2 2 s'.la s'.lasts.length s'.lc (ZV s'.lasts) :: .row e1 3 s'.pa s'.pages.length s'.pc (Qm s'.pages) :: L) D [] [QG s'] :=
 Qb.toFactC.trans (Qb.toFactC.trans (Qb.dropAll.trans (Qb.facts fun m h' => by
  obtain ⟨⟨p1, p2⟩, ⟨l1, l2⟩, hd⟩ := h'
  obtain ⟨q1, q2, q3, q4, q5, q6, q7⟩ := h m hd
  exact ⟨⟨⟨p2, q1⟩, q2, q3, q4, l2, ⟨p1, q5, q6, q7, l1⟩⟩, trivial⟩)))
theorem Kd {m : Im} {s : STM} {l : List PGM} (h : YA m s) (hl : J8 m l) : J8 m l ∧ Ew m s.ga s.gone ∧ Z8 m 0 8 s.qa s.props.length (XI s.props) ∧ Z8 m 0 3 s.wa s.watches.length (ZM s.watches) ∧ s.gone.length ≤ s.gc ∧ s.props.length ≤ s.qc ∧ s.watches.length ≤ s.wc :=
 ⟨hl, h.gone, h.props, h.watches, h.room.gone, h.room.props, h.room.watches⟩
abbrev SomeSt : V → List Chunk → List Fact → Prop := fun v L D => ∃ s' : STM, v = .agg s'.cells ∧ L = [] ∧ D = [QG s'] ∧ Vs s'
theorem LA (r : RV) (T : List RV) (v : Int) : QP (0 * 6 + 0) [C.i .i64 v] (Zb (r :: T)) = Zb ({ r with num := v } :: T) := rfl
theorem Lz (r : RV) (T : List RV) (v : Int) : QP (0 * 6 + 4) [C.i .i64 v] (Zb (r :: T)) = Zb ({ r with min := v } :: T) := rfl
theorem Ly (r : RV) (T : List RV) (v : Int) : QP (0 * 6 + 5) [C.i .i64 v] (Zb (r :: T)) = Zb ({ r with seq := v } :: T) := rfl
theorem LE (r : RV) (T : List RV) : ((Zb (r :: T)).drop (0 * 6 + 0)).take 1 = [C.i .i64 r.num] := rfl
theorem LD (r : RV) (T : List RV) : ((Zb (r :: T)).drop (0 * 6 + 4)).take 1 = [C.i .i64 r.min] := rfl
theorem LC (r : RV) (T : List RV) : ((Zb (r :: T)).drop (0 * 6 + 5)).take 1 = [C.i .i64 r.seq] := rfl
theorem Qe.pre {post : V → List Chunk → List Fact → Prop} {L L1 : List Chunk} {D D1 : List Fact} {v : V} (h : Qb L D L1 D1) (k : Qe post L1 D1 v) : Qe post L D v := by
 obtain ⟨L', D', h1, h2⟩ := k
 exact ⟨L', D', h1, h.trans h2⟩
theorem wF {l : List PGM} {k : Nat} {x : PGM} (h : ∀ p ∈ l, p.hist.length ≤ 1000) (hx : x.hist.length ≤ 1000) : ∀ p ∈ l.set k x, p.hist.length ≤ 1000 := fun p hp => by
 rcases List.mem_or_eq_of_mem_set hp with h1 | rfl
 ·exact h p h1
 ·exact hx
theorem UB {x k : Int} (hk : 1 ≤ k) (h0 : -9223372036854775808 ≤ x) (h1 : x ≤ 9223372036854775807) : -9223372036854775808 ≤ x.tdiv k ∧ x.tdiv k ≤ 9223372036854775807 := by
 rcases Int.le_total 0 x with h | h
 ·have a1 := Int.tdiv_nonneg h (show 0 ≤ k by omega)
  have a2 : x.tdiv k ≤ x := Int.tdiv_le_self _ h
  omega
 ·obtain ⟨y, rfl⟩ : ∃ y, x = -y := ⟨-x, by omega⟩
  rw [Int.neg_tdiv]
  have a1 := Int.tdiv_nonneg (show 0 ≤ y by omega) (show 0 ≤ k by omega)
  have a2 : y.tdiv k ≤ y := Int.tdiv_le_self _ (by omega)
  omega
theorem Jo {e1 e2 : Nat} {L : List Chunk} {D : List Fact} (s' : STM) (hs : Vs s') (h : ∀ m, QI m D → J8 m s'.pages ∧ Ew m s'.ga s'.gone ∧ Z8 m 0 8 s'.qa s'.props.length (XI s'.props) ∧ Z8 m 0 3 s'.wa s'.watches.length (ZM s'.watches) ∧ s'.gone.length ≤ s'.gc ∧ s'.props.length ≤ s'.qc ∧ s'.watches.length ≤ s'.wc) :
  Qe SomeSt (.row e2 2 s'.la s'.lasts.length s'.lc (ZV s'.lasts) :: .row e1 3 s'.pa s'.pages.length s'.pc (Qm s'.pages) :: L) D (.agg s'.cells) := Qe.mk [] [QG s'] ⟨s', rfl, rfl, rfl, hs⟩ (Ep h)
end Go.X
namespace Go.Proofs
open Go Go.X Tryz
set_option maxRecDepth 100000
set_option maxHeartbeats 4000000
theorem To (x : Int) (hx0 : -9223372036854775808 ≤ x) (hx1 : x ≤ 9223372036854775807) : FnS prog 57 [.c (.i .i64 x)] [] [] (fun v L D => ∃ a b, v = .agg [.i .i64 a, .s b] ∧ L = [] ∧ D = []) := by
 have hd := UB (k := 8) (by omega) hx0 hx1
 have q8 := ZG x 8 (by omega) (by omega)
 have q3 := ZG (x.tdiv 8) 3 (by omega) (by omega)
 have r8 := QR x (n := 8) (by omega)
 have r3 := QR (x.tdiv 8) (n := 3) (by omega)
 have hix := Hr [[97], [65], [65, 47, 47, 66]] r3.1 (by simpa using r3.2)
 generalize ([[97], [65], [65, 47, 47, 66]] : List (List UInt8)).getD (ZD (x.tdiv 8) 3).toNat [] = tx at *
 generalize ZD (x.tdiv 8) 3 = x3 at *
 generalize ZD x 8 = x8 at *
 have cv := Kk (x8 - 1) tx
 generalize Qw (x8 - 1) tx = vb at *
 refine FJ 0 func57 ntmps57 (fun G => ?_)
 repeat' first | refine Wk ?_ | refine Qa.mk (fun h => ?_) (fun h => ?_) | refine Qd.mk (fun ad => ?_) | refine Qc.is q8 ?_ | refine Qc.is q3 ?_ | refine kR.mk [C.s tx] (by omega) (by omega) (by exact hix) rfl ?_ | refine Qc.isB cv (fun _ => ?_) (fun _ => ?_) | refine Qe.mk [] [] ⟨_, _, rfl, rfl, rfl⟩ Qb.z
theorem yN (s : STM) (how x : Int) (hv : Zl s.pl = true) (hsq : s.seq ≤ 100) (hx0 : -9223372036854775808 ≤ x) (hx1 : x ≤ 9223372036854775807) : FnS prog 18 [.agg s.cells, .c (.i .i64 how), .c (.i .i64 x)] [] [QG s] SomeSt := by
 obtain ⟨v1, v2, vk⟩ := X.JM.1 hv
 have hs := vk.small
 have np := vk.np; have ng := vk.ng; have nw := vk.nw; have nl := vk.nl
 change (((s.pages.map PGM.pl).length : Nat) : Int) ≤ _ at np
 change (((s.gone.map PGM.pl).length : Nat) : Int) ≤ _ at ng
 change ((s.watches.length : Nat) : Int) ≤ _ at nw
 change ((s.lasts.length : Nat) : Int) ≤ _ at nl
 rw [List.length_map] at np ng
 have crd := fun v n h h' => ZG v n h h'
 have c10 := ZG how 10 (by omega) (by omega)
 have hr := QR how (n := 10) (by omega)
 generalize hR : ZD how 10 = R at *
 clear hR
 unfold STM.cells
 refine FJ 0 func18 ntmps18 (fun G => ?_)
 repeat' first | refine QF (c := .seq (.region 3 _ _) _) ?_ | refine Wk ?_ | refine Qa.mk (fun h => ?_) (fun h => ?_) | refine Qd.mk (fun ad => ?_) | refine QK.nil (Qm s.pages) s.pages.length rfl rfl rfl (QJ.sl 0 60 _ _ _ _ _ rfl rfl (.inr fun m h => h.1.pages.row) (Zs _)) (by dsimp only; omega) (fun a1 c1 => ?_) | refine QK.nil (ZV s.lasts) s.lasts.length rfl rfl rfl (QJ.sl 0 103 _ _ _ _ _ rfl rfl (.inr fun m h => h.1.lasts) (qJ _)) (by dsimp only; omega) (fun a2 c2 => ?_)
 rename_i ad0
 refine ⟨?_⟩
 refine Kj (x := .region 3 _ _) (α := Nat) (fun k => [(1, .c (.i .i64 how)), (2, .c (.i .i64 x)), (3, .c (.p 0 ad0 0)), (6, .c (.p 1 ad 0)), (7, .c (.i .i64 k))]) (fun k => [.row 103 2 a2 s.lasts.length c2 (ZV s.lasts), .row 60 3 a1 s.pages.length c1 (Qm s.pages), .box 1 ad 27 STM.nil.cells, .box 0 ad0 27 [.i .i64 s.seq, .i .i64 s.clk, .sl a1 s.pages.length c1, .sl s.ga s.gone.length s.gc, .sl s.qa s.props.length s.qc, .i .i64 s.proposed, .sl s.wa s.watches.length s.wc, .sl a2 s.lasts.length c2]]) (fun _ => [QG s]) 2 (fun k => (k : Int) < max (s.pages.length : Int) 1) ?_ (fun k hk => ?_)
 ·have h1 := QR x (n := 1) (by omega)
  have h2 := fun h => QR x (n := (s.pages.length : Int)) h
  repeat' first | refine Wk ?_ | refine Qa.mk (fun h => ?_) (fun h => ?_) | refine Qd.mk (fun ad => ?_) | refine Qc.is (crd _ _ (by omega) (by omega)) ?_ | refine Qq.mk (ZD x 1).toNat (by have h3 : (s.pages.length : Int) < 1 := (by omega); omega) (by repeat' first | exact Qh.nil | refine Qh.cons rfl ?_ ?_ | exact ZB.refl _ | exact ZB.int (Int.toNat_of_nonneg h1.1).symm) (Qb.of rfl) | refine Qq.mk (ZD x s.pages.length).toNat (by have := h2 (by omega); omega) (by repeat' first | exact Qh.nil | refine Qh.cons rfl ?_ ?_ | exact ZB.refl _ | exact ZB.int (Int.toNat_of_nonneg (h2 (by omega)).1).symm) (Qb.of rfl)
 repeat' first | refine QF (c := .block 0 _) ?_ | refine Wk ?_ | refine Qa.mk (fun h => ?_) (fun h => ?_) | refine Qd.mk (fun ad => ?_) | refine Qc.is c10 ?_
 refine ⟨?_⟩
 have q3 := ZG x 3 (by omega) (by omega)
 have q4 := ZG x 4 (by omega) (by omega)
 have q8 := ZG x 8 (by omega) (by omega)
 have r3 := QR x (n := 3) (by omega)
 have r4 := QR x (n := 4) (by omega)
 have r8 := QR x (n := 8) (by omega)
 generalize ZD x 3 = x3 at *
 generalize ZD x 4 = x4 at *
 generalize ZD x 8 = x8 at *
 clear crd c10
 obtain rfl | rfl | rfl | rfl | rfl | rfl | rfl | rfl | rfl | rfl : R = 0 ∨ R = 1 ∨ R = 2 ∨ R = 3 ∨ R = 4 ∨ R = 5 ∨ R = 6 ∨ R = 7 ∨ R = 8 ∨ R = 9 := by omega
 ·clear q4 q8
  repeat' first | refine Wk ?_ | refine Qa.mk (fun h => ?_) (fun h => ?_) | refine Qd.mk (fun ad => ?_) | refine Qc.is q3 ?_ | refine Jo ⟨x3 - 1, s.clk, a1, c1, s.pages, s.ga, s.gc, s.gone, s.qa, s.qc, s.props, s.proposed, s.wa, s.wc, s.watches, a2, c2, s.lasts⟩ ⟨hs.pages, hs.ph, hs.gone, hs.gh, hs.props, hs.watches, hs.lasts⟩ ?_ | exact fun m h => Kd (s := s) (l := s.pages) h.1 h.1.pages.his
 ·clear q3 q8
  have hix := idxI [-1, 52595999, 52596000, 0] r4.1 (by simpa using r4.2)
  generalize ([-1, 52595999, 52596000, 0] : List Int).getD x4.toNat 0 = ck at *
  repeat' first | refine Wk ?_ | refine Qa.mk (fun h => ?_) (fun h => ?_) | refine Qd.mk (fun ad => ?_) | refine Qc.is q4 ?_ | refine kR.mk [C.i .i64 ck] (by omega) (by omega) (by exact hix) rfl ?_ | refine Jo ⟨s.seq, ck, a1, c1, s.pages, s.ga, s.gc, s.gone, s.qa, s.qc, s.props, s.proposed, s.wa, s.wc, s.watches, a2, c2, s.lasts⟩ ⟨hs.pages, hs.ph, hs.gone, hs.gh, hs.props, hs.watches, hs.lasts⟩ ?_ | exact fun m h => Kd (s := s) (l := s.pages) h.1 h.1.pages.his
 ·clear q3 q4
  obtain ⟨n8, rfl⟩ : ∃ n : Nat, x8 = n := ⟨x8.toNat, by omega⟩
  have htt := wz (k := (n8 : Int)) (by omega) (by omega)
  generalize genTitles.getD (n8 : Int).toNat (0, []) = T at *
  obtain ⟨sp, nm⟩ := T
  dsimp only at htt
  by_cases hkl : k < s.pages.length
  ·have hst := Sf hkl sp nm
   have hln : s.pages.length = (s.pages.set k ⟨sp, nm, s.pages[k].ha, s.pages[k].hc, s.pages[k].hist⟩).length := by simp
   have hsm := hs.ph _ (List.getElem_mem hkl)
   have hrt : ∀ L ta, Qp L [Qf 45 2 ta 8 (Xe genTitles), QG s] 45 2 ta 8 (Xe genTitles) := fun L ta => .inr fun m h => h.1
   repeat' first | refine Wk ?_ | refine Qa.mk (fun h => ?_) (fun h => ?_) | refine Qd.mk (fun ad => ?_) | refine Dz (id := 12) [0,1,0,0,0,24,56,120,255,511,1023] [0,1,2,4,3,5,6,7,8,9,10] [3,6,7,10] [3,60] 10 true ?_ | refine Dz (id := 19) [0,1,3,7,0,16,48,127,255,511,1023] [0,1,2,3,4,5,6,7,8,9,10] [10] [91] 10 true ?_ | refine Dz (id := 20) [0,1,3,7,0,16,48,112,255,511,1023,2047] [0,1,2,3,4,5,6,7,8,9,10,11] [11] [101] 11 true ?_ | refine Dz (id := 21) [0,1,3,7,0,16,48,112,255,511,1023,2047] [0,1,2,3,4,5,6,7,8,9,10,11] [11] [112] 11 true ?_ | refine Dz (id := 28) [0,1,0,4,12,28,0,0,128,384,1020,2044,4092,8191,16383,32767] [0,1,2,6,7,8,9,3,4,5,10,11,12,13,14,15] [3,12,13,15] [3] 15 false ?_ | refine Dz (id := 30) [0,1,0,0,0,20,60,124,252,508,1020,2047,4095,8191] [0,1,2,3,4,5,6,7,8,9,10,11,12,13] [8,10,11,13] [3] 13 false ?_ | refine Qt.mk Qb.a ?_ | refine Qx.mk [] _ q8 QX ?_ | (refine Qc.mk [] _ [] _ zx QW QX (fun v L' D' hq => ?_); obtain ⟨ta, tc, rfl, rfl, rfl⟩ := hq) | refine Qr.a 45 2 _ (hrt _ _) ?_ | refine Qi.mk 45 _ _ [.i .i64 sp, .s nm] (hrt _ _) (by omega) (by omega) (by first | omega | decide) (by exact htt) ?_ | refine Qr.mk 60 3 (Qm s.pages) (.inl ⟨c1, (by first | exact List.Mem.head _ | exact List.Mem.tail _ QT | exact List.Mem.tail _ ZR | exact List.Mem.tail _ XQ | exact List.Mem.tail _ X8)⟩) (by omega) (by omega) ?_ | refine Zv.mk 60 3 _ (Qm s.pages) (.inl ⟨c1, (by first | exact List.Mem.head _ | exact List.Mem.tail _ QT | exact List.Mem.tail _ ZR | exact List.Mem.tail _ XQ | exact List.Mem.tail _ X8)⟩) (by omega) ?_ | (refine Xp.mk [_] _ _ _ _ _ _ rfl (by omega) (by omega) (Nat.le_of_ble_eq_true rfl) (by exact hst) ?_; rw [hln]) | refine Jo ⟨s.seq, s.clk, a1, c1, s.pages.set k ⟨sp, nm, s.pages[k].ha, s.pages[k].hc, s.pages[k].hist⟩, s.ga, s.gc, s.gone, s.qa, s.qc, s.props, s.proposed, s.wa, s.wc, s.watches, a2, c2, s.lasts⟩ ⟨by rw [List.length_set]; exact hs.pages, wF hs.ph hsm, hs.gone, hs.gh, hs.props, hs.watches, hs.lasts⟩ ?_ | exact fun m h => Kd (s := s) h.2.1 (UT h.2.1.pages.his (h.2.1.pages.his s.pages[k] (List.getElem_mem hkl)))
  ·repeat' first | refine Wk ?_ | refine Qa.mk (fun h => ?_) (fun h => ?_) | refine Qd.mk (fun ad => ?_) | refine Qc.is q8 ?_ | refine Jo ⟨s.seq, s.clk, a1, c1, s.pages, s.ga, s.gc, s.gone, s.qa, s.qc, s.props, s.proposed, s.wa, s.wc, s.watches, a2, c2, s.lasts⟩ ⟨hs.pages, hs.ph, hs.gone, hs.gh, hs.props, hs.watches, hs.lasts⟩ ?_ | exact fun m h => Kd (s := s) (l := s.pages) h.1 h.1.pages.his
 ·clear q3 q4 q8
  by_cases hkl : k < s.pages.length
  ·have hst := kX hkl (a := none) (c := 0) (n := 0) (x := ⟨s.pages[k].sp, s.pages[k].nm, none, 0, []⟩) rfl rfl rfl
   have hln : s.pages.length = (s.pages.set k ⟨s.pages[k].sp, s.pages[k].nm, none, 0, []⟩).length := by simp
   repeat' first | refine Wk ?_ | refine Qa.mk (fun h => ?_) (fun h => ?_) | refine Qd.mk (fun ad => ?_) | refine Qr.mk 60 3 (Qm s.pages) (.inl ⟨c1, (by first | exact List.Mem.head _ | exact List.Mem.tail _ QT | exact List.Mem.tail _ ZR | exact List.Mem.tail _ XQ | exact List.Mem.tail _ X8)⟩) (by omega) (by omega) ?_ | refine Zv.mk 60 3 _ (Qm s.pages) (.inl ⟨c1, (by first | exact List.Mem.head _ | exact List.Mem.tail _ QT | exact List.Mem.tail _ ZR | exact List.Mem.tail _ XQ | exact List.Mem.tail _ X8)⟩) (by omega) ?_ | (refine Xp.mk [_] _ _ _ _ _ _ rfl (by omega) (by omega) (Nat.le_of_ble_eq_true rfl) (by exact hst) ?_; rw [hln]) | refine Jo ⟨s.seq, s.clk, a1, c1, s.pages.set k ⟨s.pages[k].sp, s.pages[k].nm, none, 0, []⟩, s.ga, s.gc, s.gone, s.qa, s.qc, s.props, s.proposed, s.wa, s.wc, s.watches, a2, c2, s.lasts⟩ ⟨by rw [List.length_set]; exact hs.pages, wF hs.ph (Nat.zero_le _), hs.gone, hs.gh, hs.props, hs.watches, hs.lasts⟩ ?_ | exact fun m h => Kd (s := s) h.1 (UT h.1.pages.his (Z8.nil (e := 0)))
  ·repeat' first | refine Wk ?_ | refine Qa.mk (fun h => ?_) (fun h => ?_) | refine Qd.mk (fun ad => ?_) | refine Jo ⟨s.seq, s.clk, a1, c1, s.pages, s.ga, s.gc, s.gone, s.qa, s.qc, s.props, s.proposed, s.wa, s.wc, s.watches, a2, c2, s.lasts⟩ ⟨hs.pages, hs.ph, hs.gone, hs.gh, hs.props, hs.watches, hs.lasts⟩ ?_ | exact fun m h => Kd (s := s) (l := s.pages) h.1 h.1.pages.his
 ·clear q4 q8
  by_cases hkl : k < s.pages.length
  ·have hmem := List.getElem_mem hkl
   have hpo := X.Q4.1 (vk.pg s.pages[k].pl (List.mem_map.2 ⟨_, hmem, rfl⟩))
   obtain ⟨ho1, _, ho3⟩ := X.Xx.1 hpo.2
   have hph := hs.ph _ hmem
   have hg1 := YH hkl
   have hset : ∀ (ad : Option Addr) (n c : Nat) (h : List RV), n = h.length → QP (k * 3 + 2) [C.sl ad n c] (Qm s.pages) = Qm (s.pages.set k ⟨s.pages[k].sp, s.pages[k].nm, ad, c, h⟩) := fun ad n c h e => kX hkl rfl rfl (by rw [e])
   have hhis : ∀ m, YA m s → Z8 m 0 6 s.pages[k].ha s.pages[k].hist.length (Zb s.pages[k].hist) := fun m h => h.pages.his _ hmem
   change 1 ≤ ((s.pages[k].hist.length : Nat) : Int) at ho1
   change X.ZK s.pl.clk s.pl.seq 0 0 1 s.pages[k].hist = true at ho3
   generalize hP : s.pages[k] = P at *
   obtain ⟨psp, pnm, pa, pc, ph⟩ := P
   dsimp only at ho1 ho3 hph hhis hg1 hset
   cases ph with
   | nil => simp at ho1
   | cons r T =>
    simp only [X.ZK, Bool.and_eq_true] at ho3
    have hr1 := X.Xs.1 ho3.1
    have hck := vk.c1
    have hd3 := UB (k := 3) (by omega) hx0 hx1
    have hd9 := UB (k := 9) (by omega) hx0 hx1
    have q33 := ZG (x.tdiv 3) 3 (by omega) (by omega)
    have q39 := ZG (x.tdiv 9) 3 (by omega) (by omega)
    have r33 := QR (x.tdiv 3) (n := 3) (by omega)
    have r39 := QR (x.tdiv 9) (n := 3) (by omega)
    generalize ZD (x.tdiv 3) 3 = y3 at *
    generalize ZD (x.tdiv 9) 3 = y9 at *
    have hT : (r :: T).length = T.length + 1 := rfl
    repeat' first | refine QF (c := .seq (.region 19 _ _) _) ?_ | refine Wk ?_ | refine Qa.mk (fun h => ?_) (fun h => ?_) | refine Qd.mk (fun ad => ?_) | refine Qr.mk 60 3 (Qm s.pages) (.inl ⟨c1, (by first | exact List.Mem.head _ | exact List.Mem.tail _ QT | exact List.Mem.tail _ ZR | exact List.Mem.tail _ XQ | exact List.Mem.tail _ X8)⟩) (by omega) (by omega) ?_ | refine Zv.mk 60 3 _ (Qm s.pages) (.inl ⟨c1, (by first | exact List.Mem.head _ | exact List.Mem.tail _ QT | exact List.Mem.tail _ ZR | exact List.Mem.tail _ XQ | exact List.Mem.tail _ X8)⟩) (by omega) ?_ | refine Qi.mk 60 _ (Qm s.pages) [.sl pa (r :: T).length pc] (.inl ⟨c1, (by first | exact List.Mem.head _ | exact List.Mem.tail _ QT | exact List.Mem.tail _ ZR | exact List.Mem.tail _ XQ | exact List.Mem.tail _ X8)⟩) (by omega) (by omega) (by first | omega | decide) (by exact hg1) ?_ | refine QK.nil (Zb (r :: T)) (r :: T).length rfl rfl rfl (QJ.sl 0 73 _ _ _ _ _ rfl rfl (.inr fun m h => hhis m h.1) (kW _)) (by dsimp only; omega) (fun a3 c3 => ?_)
    refine ⟨?_⟩
    have hpT : Vs ⟨s.seq, s.clk, a1, c1, s.pages.set k ⟨psp, pnm, a3, c3, { r with num := r.num + (x3 - 1), min := r.min + (y3 - 1), seq := r.seq + (y9 - 1) } :: T⟩, s.ga, s.gc, s.gone, s.qa, s.qc, s.props, s.proposed, s.wa, s.wc, s.watches, a2, c2, s.lasts⟩ := ⟨by rw [List.length_set]; exact hs.pages, wF hs.ph hph, hs.gone, hs.gh, hs.props, hs.watches, hs.lasts⟩
    have hln : ∀ y, s.pages.length = (s.pages.set k y).length := fun y => by simp
    clear hg1 hhis hP
    repeat' first | refine Wk ?_ | refine Qa.mk (fun h => ?_) (fun h => ?_) | refine Qd.mk (fun ad => ?_) | refine Dz (id := 12) [0,1,0,0,0,24,56,120,255,511,1023] [0,1,2,4,3,5,6,7,8,9,10] [3,10] [3,60] 10 true ?_ | refine Dz (id := 19) [0,1,3,7,0,16,48,127,255,511,1023] [0,1,2,3,4,5,6,7,8,9,10] [10] [91] 10 true ?_ | refine Dz (id := 20) [0,1,3,7,0,16,48,112,255,511,1023,2047] [0,1,2,3,4,5,6,7,8,9,10,11] [11] [101] 11 true ?_ | refine Dz (id := 21) [0,1,3,7,0,16,48,112,255,511,1023,2047] [0,1,2,3,4,5,6,7,8,9,10,11] [11] [112] 11 true ?_ | refine Dz (id := 28) [0,1,0,4,12,28,0,0,128,384,1020,2044,4092,8191,16383,32767] [0,1,2,6,7,8,9,3,4,5,10,11,12,13,14,15] [3,12,13,15] [3] 15 false ?_ | refine Dz (id := 30) [0,1,0,0,0,20,60,124,252,508,1020,2047,4095,8191] [0,1,2,3,4,5,6,7,8,9,10,11,12,13] [8,10,11,13] [3] 13 false ?_ | refine Qt.mk Qb.a ?_ | refine Qx.mk [] _ q3 QX ?_ | refine Qx.mk [] _ q33 QX ?_ | refine Qx.mk [] _ q39 QX ?_ | refine Qr.mk 73 6 _ (.inl ⟨c3, (by first | exact List.Mem.head _ | exact List.Mem.tail _ QT | exact List.Mem.tail _ ZR | exact List.Mem.tail _ XQ | exact List.Mem.tail _ X8)⟩) (by omega) (by omega) ?_ | refine Zv.mk 73 6 _ _ (.inl ⟨c3, (by first | exact List.Mem.head _ | exact List.Mem.tail _ QT | exact List.Mem.tail _ ZR | exact List.Mem.tail _ XQ | exact List.Mem.tail _ X8)⟩) (by omega) ?_ | refine Qi.mk 73 _ _ _ (.inl ⟨c3, (by first | exact List.Mem.head _ | exact List.Mem.tail _ QT | exact List.Mem.tail _ ZR | exact List.Mem.tail _ XQ | exact List.Mem.tail _ X8)⟩) (by omega) (by omega) (by first | omega | decide) (by exact LE _ _) ?_ | refine Qi.mk 73 _ _ _ (.inl ⟨c3, (by first | exact List.Mem.head _ | exact List.Mem.tail _ QT | exact List.Mem.tail _ ZR | exact List.Mem.tail _ XQ | exact List.Mem.tail _ X8)⟩) (by omega) (by omega) (by first | omega | decide) (by exact LD _ _) ?_ | refine Qi.mk 73 _ _ _ (.inl ⟨c3, (by first | exact List.Mem.head _ | exact List.Mem.tail _ QT | exact List.Mem.tail _ ZR | exact List.Mem.tail _ XQ | exact List.Mem.tail _ X8)⟩) (by omega) (by omega) (by first | omega | decide) (by exact LC _ _) ?_ | refine Xp.mk [] _ _ _ _ _ _ rfl (by omega) (by omega) (Nat.le_of_ble_eq_true rfl) (by exact LA _ _ _) ?_ | refine Xp.mk [] _ _ _ _ _ _ rfl (by omega) (by omega) (Nat.le_of_ble_eq_true rfl) (by exact Lz _ _ _) ?_ | refine Xp.mk [] _ _ _ _ _ _ rfl (by omega) (by omega) (Nat.le_of_ble_eq_true rfl) (by exact Ly _ _ _) ?_ | refine Qr.mk 60 3 (Qm s.pages) (.inl ⟨c1, (by first | exact List.Mem.head _ | exact List.Mem.tail _ QT | exact List.Mem.tail _ ZR | exact List.Mem.tail _ XQ | exact List.Mem.tail _ X8)⟩) (by omega) (by omega) ?_ | refine Zv.mk 60 3 _ (Qm s.pages) (.inl ⟨c1, (by first | exact List.Mem.head _ | exact List.Mem.tail _ QT | exact List.Mem.tail _ ZR | exact List.Mem.tail _ XQ | exact List.Mem.tail _ X8)⟩) (by omega) ?_ | (refine Xp.mk [_, _] _ _ _ _ _ _ rfl (by omega) (by omega) (Nat.le_of_ble_eq_true rfl) (by exact hset _ _ _ ({ r with num := r.num + (x3 - 1), min := r.min + (y3 - 1), seq := r.seq + (y9 - 1) } :: T) rfl) ?_; rw [hln ⟨psp, pnm, a3, c3, { r with num := r.num + (x3 - 1), min := r.min + (y3 - 1), seq := r.seq + (y9 - 1) } :: T⟩]) | refine Qe.pre Qb.toFact (Jo _ hpT ?_) | exact fun m h => Kd (s := s) h.2.1 (UT h.2.1.pages.his h.1)
  ·repeat' first | refine Wk ?_ | refine Qa.mk (fun h => ?_) (fun h => ?_) | refine Qd.mk (fun ad => ?_) | refine Jo ⟨s.seq, s.clk, a1, c1, s.pages, s.ga, s.gc, s.gone, s.qa, s.qc, s.props, s.proposed, s.wa, s.wc, s.watches, a2, c2, s.lasts⟩ ⟨hs.pages, hs.ph, hs.gone, hs.gh, hs.props, hs.watches, hs.lasts⟩ ?_ | exact fun m h => Kd (s := s) (l := s.pages) h.1 h.1.pages.his
 ·clear q3 q8
  repeat' first | refine Wk ?_ | refine Qa.mk (fun h => ?_) (fun h => ?_) | refine Qd.mk (fun ad => ?_) | refine Qc.is q4 ?_ | refine Jo ⟨s.seq, s.clk, a1, c1, s.pages, s.ga, s.gc, s.gone, s.qa, s.qc, s.props, x4 - 1, s.wa, s.wc, s.watches, a2, c2, s.lasts⟩ ⟨hs.pages, hs.ph, hs.gone, hs.gh, hs.props, hs.watches, hs.lasts⟩ ?_ | exact fun m h => Kd (s := s) (l := s.pages) h.1 h.1.pages.his
 ·clear q3 q4
  obtain ⟨n8, rfl⟩ : ∃ n : Nat, x8 = n := ⟨x8.toNat, by omega⟩
  have htt := wz (k := (n8 : Int)) (by omega) (by omega)
  generalize genTitles.getD (n8 : Int).toNat (0, []) = T at *
  obtain ⟨sp, nm⟩ := T
  dsimp only at htt
  have cf := fun a c => qL 3 a c [x] (by simp [maxLen])
  have cu := fun a c ad => WL 3 a c ad [x] (gs0 [x]) (qi [x]) (by simp [maxLen])
  have hap : ∀ u, ZM s.watches ++ [.s u, .i .i64 sp, .s nm] = ZM (s.watches ++ [(⟨u, sp, nm⟩ : WT)]) := fun u => by simp [ZM, WT.cells]
  have hln : ∀ w : WT, s.watches.length + 1 = (s.watches ++ [w]).length := fun w => by simp
  repeat' first | refine Wk ?_ | refine Qa.mk (fun h => ?_) (fun h => ?_) | refine Qd.mk (fun ad => ?_) | refine Qc.is q8 ?_ | refine QK.nil (ZM s.watches) s.watches.length rfl rfl rfl (QJ.sl 0 69 _ _ _ _ _ rfl rfl (.inr fun m h => h.1.watches) (WZ _)) (by dsimp only; omega) (fun a3 c3 => ?_) | (refine Qc.mkE [] _ [_] _ _ (cf _ _) Qb.toFact Kh (fun v L' D' hq => ?_); obtain ⟨ads, rfl, rfl, rfl⟩ := hq) | (refine Qc.mk [_] _ [_] _ (cu _ _ _) QW Kh (fun v L' D' hq => ?_); obtain ⟨us, gg, rfl, hus, hgg, rfl, rfl⟩ := hq) | (refine Qc.mk [] _ [] _ zx QW QX (fun v L' D' hq => ?_); obtain ⟨ta, tc, rfl, rfl, rfl⟩ := hq) | refine Qr.a 45 2 (Xe genTitles) (.inr fun m h => h.1) ?_ | refine Qi.mk 45 _ (Xe genTitles) [.i .i64 sp, .s nm] (.inr fun m h => h.1) (by omega) (by omega) (by first | omega | decide) (by exact htt) ?_ | (refine QK.row [_, _] _ (ZM s.watches) [.s us, .i .i64 sp, .s nm] 1 rfl (QJ.sl 69 69 _ _ 1 1 _ rfl rfl (.inl ⟨1, QT⟩) rfl) (by dsimp only; omega) (fun a4 c4 => ?_); rw [hap us, hln ⟨us, sp, nm⟩]) | refine Qe.pre (Qb.drop.trans (Qb.drop.trans Qb.toFactC)) (Jo ⟨s.seq, s.clk, a1, c1, s.pages, s.ga, s.gc, s.gone, s.qa, s.qc, s.props, s.proposed, a4, c4, s.watches ++ [⟨us, sp, nm⟩], a2, c2, s.lasts⟩ ⟨hs.pages, hs.ph, hs.gone, hs.gh, hs.props, by simp; omega, hs.lasts⟩ ?_) | exact fun m h => ⟨h.2.2.2.1.pages.his, h.2.2.2.1.gone, h.2.2.2.1.props, h.1.2, h.2.2.2.1.room.gone, h.2.2.2.1.room.props, h.1.1⟩
 ·clear q3 q4 q8
  have cf := fun a c => qL 3 a c [x] (by simp [maxLen])
  have cu := fun a c ad => WL 3 a c ad [x] (gs0 [x]) (qi [x]) (by simp [maxLen])
  have v1' : 0 ≤ s.seq := v1
  have cr := ZG x (s.seq + 2) (by omega) (by omega)
  generalize ZD x (s.seq + 2) = xr at *
  have hap : ∀ u, ZV s.lasts ++ [.s u, .i .i64 xr] = ZV (s.lasts ++ [(⟨u, xr⟩ : LU)]) := fun u => by simp [ZV, LU.cells]
  have hln : ∀ w : LU, s.lasts.length + 1 = (s.lasts ++ [w]).length := fun w => by simp
  repeat' first | refine Wk ?_ | refine Qa.mk (fun h => ?_) (fun h => ?_) | refine Qd.mk (fun ad => ?_) | refine Dz (id := 12) [0,1,0,0,0,24,56,120,255,511,1023] [0,1,2,3,4,5,6,7,8,9,10] [10] [3,60] 10 true ?_ | refine Dz (id := 19) [0,1,3,7,0,16,48,127,255,511,1023] [0,1,2,3,4,5,6,7,8,9,10] [10] [91] 10 true ?_ | refine Dz (id := 20) [0,1,3,7,0,16,48,112,255,511,1023,2047] [0,1,2,3,4,5,6,7,8,9,10,11] [11] [101] 11 true ?_ | refine Dz (id := 21) [0,1,3,7,0,16,48,112,255,511,1023,2047] [0,1,2,3,4,5,6,7,8,9,10,11] [11] [112] 11 true ?_ | refine Dz (id := 28) [0,1,0,4,12,28,0,0,128,384,1020,2044,4092,8191,16383,32767] [0,1,2,6,7,8,9,3,4,5,10,11,12,13,14,15] [3,4,5,12,13,15] [3] 15 false ?_ | refine Dz (id := 30) [0,1,0,0,0,20,60,124,252,508,1020,2047,4095,8191] [0,1,2,3,4,5,6,7,8,9,10,11,12,13] [8,10,11,13] [3] 13 false ?_ | refine Qt.mk Qb.a ?_ | refine Qx.mk [] _ cr QX ?_ | (refine Qc.mkE [] _ [_] _ _ (cf _ _) Qb.toFact Kh (fun v L' D' hq => ?_); obtain ⟨ads, rfl, rfl, rfl⟩ := hq) | (refine Qc.mk [_] _ [_] _ (cu _ _ _) QW Kh (fun v L' D' hq => ?_); obtain ⟨us, gg, rfl, hus, hgg, rfl, rfl⟩ := hq) | (refine QK.row [_, _] _ (ZV s.lasts) [.s us, .i .i64 xr] 1 rfl (QJ.sl 103 103 _ _ 1 1 _ rfl rfl (.inl ⟨1, QT⟩) rfl) (by dsimp only; omega) (fun a4 c4 => ?_); rw [hap us, hln ⟨us, xr⟩]) | refine Qe.pre (Qb.drop.trans Qb.drop) (Jo ⟨s.seq, s.clk, a1, c1, s.pages, s.ga, s.gc, s.gone, s.qa, s.qc, s.props, s.proposed, s.wa, s.wc, s.watches, a4, c4, s.lasts ++ [⟨us, xr⟩]⟩ ⟨hs.pages, hs.ph, hs.gone, hs.gh, hs.props, hs.watches, by simp; omega⟩ ?_) | exact fun m h => Kd (s := s) (l := s.pages) h.2.1 h.2.1.pages.his
 ·clear q3 q4 q8
  have q2 := ZG x 2 (by omega) (by omega)
  have r2 := QR x (n := 2) (by omega)
  have hix := Hr [[120], []] r2.1 (by simpa using r2.2)
  generalize ([[120], []] : List (List UInt8)).getD (ZD x 2).toNat [] = tx at *
  generalize ZD x 2 = x2 at *
  have hap : ∀ ad : Option Addr, Qm s.pages ++ [.i .i64 5, .s policyNm, .sl ad 1 1] = Qm (s.pages ++ [(⟨5, policyNm, ad, 1, [⟨1, [], [], tx, 0, 1⟩]⟩ : PGM)]) := fun u => by simp [Qm, PGM.cells]
  have hln : ∀ w : PGM, s.pages.length + 1 = (s.pages ++ [w]).length := fun w => by simp
  have hsm : ∀ ad a4 c4, Vs ⟨s.seq, s.clk, a4, c4, s.pages ++ [(⟨5, policyNm, ad, 1, [⟨1, [], [], tx, 0, 1⟩]⟩ : PGM)], s.ga, s.gc, s.gone, s.qa, s.qc, s.props, s.proposed, s.wa, s.wc, s.watches, a2, c2, s.lasts⟩ := fun ad a4 c4 => ⟨by simp; omega, fun p hp => by
   rcases List.mem_append.1 hp with h1 | h1
   ·exact hs.ph p h1
   ·rw [List.mem_singleton.1 h1]; exact (by decide : 1 ≤ 1000), hs.gone, hs.gh, hs.props, hs.watches, hs.lasts⟩
  repeat' first | refine Wk ?_ | refine Qa.mk (fun h => ?_) (fun h => ?_) | refine Qd.mk (fun ad => ?_) | refine Dz (id := 12) [0,1,0,0,0,24,56,120,255,511,1023] [0,1,2,3,4,5,6,7,8,9,10] [10] [3,60] 10 true ?_ | refine Dz (id := 19) [0,1,3,7,0,16,48,127,255,511,1023] [0,1,2,3,4,5,6,7,8,9,10] [10] [91] 10 true ?_ | refine Dz (id := 20) [0,1,3,7,0,16,48,112,255,511,1023,2047] [0,1,2,3,4,5,6,7,8,9,10,11] [11] [101] 11 true ?_ | refine Dz (id := 21) [0,1,3,7,0,16,48,112,255,511,1023,2047] [0,1,2,3,4,5,6,7,8,9,10,11] [11] [112] 11 true ?_ | refine Dz (id := 28) [0,1,0,4,12,28,0,0,128,384,1020,2044,4092,8191,16383,32767] [0,1,2,6,7,8,9,3,4,5,10,11,12,13,14,15] [3,12,13,15] [3] 15 false ?_ | refine Dz (id := 30) [0,1,0,0,0,20,60,124,252,508,1020,2047,4095,8191] [0,1,2,3,4,5,6,7,8,9,10,11,12,13] [8,10,11,13] [3] 13 false ?_ | refine Qt.mk Qb.a ?_ | refine Qx.mk [] _ q2 QX ?_ | refine Qx.mk [] _ wW QX ?_ | refine kR.mk [C.s tx] (by omega) (by omega) (by exact hix) rfl ?_ | (refine QK.row [_, _, _] _ (Qm s.pages) [.i .i64 5, .s policyNm, .sl _ 1 1] 1 rfl (QJ.sl 60 60 _ _ 1 1 _ rfl rfl (.inl ⟨1, QT⟩) rfl) (by dsimp only; omega) (fun a4 c4 => ?_); rw [hap, hln]) | refine Qe.pre (Qb.drop.trans Qb.toFact) (Jo _ (hsm _ _ _) ?_) | exact fun m h => Kd (s := s) h.2.1 (G2 h.2.1.pages.his h.1)
 ·clear q3 q4 q8
  have ct := To x hx0 hx1
  have hap : ∀ a b, Qm s.gone ++ [.i .i64 a, .s b, .sl none 0 0] = Qm (s.gone ++ [(⟨a, b, none, 0, []⟩ : PGM)]) := fun a b => by simp [Qm, PGM.cells]
  have hln : ∀ w : PGM, s.gone.length + 1 = (s.gone ++ [w]).length := fun w => by simp
  have hsm : ∀ a b a4 c4, Vs ⟨s.seq, s.clk, a1, c1, s.pages, a4, c4, s.gone ++ [(⟨a, b, none, 0, []⟩ : PGM)], s.qa, s.qc, s.props, s.proposed, s.wa, s.wc, s.watches, a2, c2, s.lasts⟩ := fun a b a4 c4 => ⟨hs.pages, hs.ph, by simp; omega, fun p hp => by
   rcases List.mem_append.1 hp with h1 | h1
   ·exact hs.gh p h1
   ·rw [List.mem_singleton.1 h1]; exact Nat.zero_le _, hs.props, hs.watches, hs.lasts⟩
  repeat' first | refine Wk ?_ | refine Qa.mk (fun h => ?_) (fun h => ?_) | refine Qd.mk (fun ad => ?_) | refine QK.nil (Qm s.gone) s.gone.length rfl rfl rfl (QJ.sl 0 60 _ _ _ _ _ rfl rfl (.inr fun m h => h.1.gone.row) (Zs _)) (by dsimp only; omega) (fun a3 c3 => ?_) | (refine Qc.mk [] _ [] _ ct QW QX (fun v L' D' hq => ?_); obtain ⟨tsp, tnm, rfl, rfl, rfl⟩ := hq) | (refine QK.row [_] _ (Qm s.gone) [.i .i64 tsp, .s tnm, .sl none 0 0] 1 rfl (QJ.sl 60 60 _ _ 1 1 _ rfl rfl (.inl ⟨1, QT⟩) rfl) (by dsimp only; omega) (fun a4 c4 => ?_); rw [hap, hln]) | refine Qe.pre (Qb.drop.trans Qb.toFactC) (Jo _ (hsm tsp tnm _ _) ?_) | exact fun m h => ⟨h.2.1.pages.his, ⟨h.1.2, G2 h.2.1.gone.his (Z8.nil (e := 0))⟩, h.2.1.props, h.2.1.watches, h.1.1, h.2.1.room.props, h.2.1.room.watches⟩
end Go.Proofs
