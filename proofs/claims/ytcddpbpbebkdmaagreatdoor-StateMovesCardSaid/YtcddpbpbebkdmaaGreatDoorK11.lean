/- This text walks through the methods find, add, full, drop and put of drafts of the package state. -/
import Derived.Test.YtcddpbpbebkdmaaGreatDoorK07
import Derived.Test.YtcddpbpbebkdmaaGreatDoorK06
import Derived.Test.YtcddpbpbebkdmaaGreatDoorK08
import Derived.Test.YtcddpbpbebkdmaaGreatDoorK09
import Derived.Test.YtcddpbpbebkdmaaGreatDoorK10
set_option linter.all false
namespace Go.X
open Go Go.Lib
theorem w0 {x : Chunk} {A H H' G : List Chunk} (h : H'.Perm (x :: H)) : (x :: (A ++ (H ++ G))).Perm (A ++ (H' ++ G)) :=
 List.perm_middle.symm.trans (List.Perm.append_left A ((List.Perm.append_right G h).symm))
theorem LY {x : Chunk} {H H' G G' : List Chunk} (h : H.Perm (x :: H')) (g : G'.Perm (x :: G)) : (H ++ G).Perm (H' ++ G') :=
 (List.Perm.append_right G h).trans (List.perm_middle.symm.trans (List.Perm.append_left H' g.symm))
abbrev vu (ad : Nat) (sq : Int) (r : ST × Int) : V → List Chunk → List Fact → Prop := fun v L D => ∃ s' : STM, v = .c (.i .i64 r.2) ∧ L = WN 2 ad s' sq ∧ D = [] ∧ s'.pl = r.1
end Go.X
namespace Go.Proofs
open Go Go.X Tryz
set_option maxRecDepth 100000
set_option maxHeartbeats 4000000
theorem KG (ad : Nat) (s : STM) (sq sp : Int) (nm : Bs) (hl : s.pages.length ≤ 1000) (ha : (s.pages.map PGM.pl).Pairwise fun a b => cfP a b < 0) :
  FnS prog 209 [.c (.p 2 ad 0), .agg [.i .i64 sp, .s nm]] [ZZ 2 ad s sq, X2 s] []
   (fun v L D => v = .t2 (.c (.i .i64 (kG (QE sp nm) s.pages))) (.c (.b (ZJ (QE sp nm) s.pages))) ∧ L = [ZZ 2 ad s sq, X2 s] ∧ D = []) := by
 have cb := Nu s.pa s.pc s.pages sp nm hl (OR ha sp nm)
 generalize ZJ (QE sp nm) s.pages = W at *
 generalize kG (QE sp nm) s.pages = k at *
 delta ZZ X2 QC
 refine FJ 1000 func209 ntmps209 (fun G => ?_)
 repeat' first | refine Wk ?_ | refine Qa.mk (fun h => ?_) (fun h => ?_) | refine Qd.mk (fun ad => ?_) | refine Ds (id := 1) [0,1,3,7,15,0,63,127,127,511,1023] [0,1,2,3,4,5,6,7,8,9,10] [6] [0,3] true ?_ | refine Qt.mk Qb.a ?_ | refine Qc.keep [_] [_, _] [] _ cb (List.perm_append_comm (l₁ := [_, _]) (l₂ := [_])) QX (fun v L' D' hq => ?_); obtain ⟨rfl, rfl, rfl⟩ := hq; refine ⟨rfl, ?_⟩ | refine Qe.mk [_, _] [] ⟨rfl, rfl, rfl⟩ Qb.a
theorem yO (ad : Nat) (s : STM) (sq : Int) (x : PGM) (hl : s.pages.length ≤ 1000) (ha : (s.pages.map PGM.pl).Pairwise fun a b => cfP a b < 0) :
  FnS prog 211 [.c (.p 2 ad 0), .agg x.cells] [ZZ 2 ad s sq, X2 s] []
   (fun v L D => ∃ a c, v = .t0 ∧ L = [ZZ 2 ad { s with pa := a, pc := c, pages := Xn s.pages x } sq, X2 { s with pa := a, pc := c, pages := Xn s.pages x }] ∧ D = []) := by
 have cf := KG ad s sq x.sp x.nm hl ha
 have hi := yk (QE x.sp x.nm) s.pages
 have ci := fun va vc => SS s.pa s.pc s.pages (kG (QE x.sp x.nm) s.pages) x va vc hi hl
 rw [← O1, ← xO s.pages x] at ci
 generalize Xn s.pages x = W at *
 generalize ZJ (QE x.sp x.nm) s.pages = b at *
 generalize kG (QE x.sp x.nm) s.pages = k at *
 unfold PGM.cells at ci ⊢
 delta ZZ X2 QC at cf ⊢
 refine FJ 1000 func211 ntmps211 (fun G => ?_)
 repeat' first | refine Wk ?_ | refine Qa.mk (fun h => ?_) (fun h => ?_) | refine Qd.mk (fun ad => ?_) | refine Dz (id := 2) [0,0,2,6,14,30,0,0,128,510,1023,2047,4095,8191] [0,1,2,3,4,5,6,7,8,9,10,11,12,13] [8,9,13] [0,3] 13 false ?_ | refine Qt.mk Qb.a ?_ | refine Qc.keep [_, _] [_] [] _ cf (List.perm_append_comm (l₁ := [_]) (l₂ := [_, _])) QX (fun v L' D' hq => ?_); obtain ⟨rfl, rfl, rfl⟩ := hq; refine ⟨rfl, ?_⟩ | (refine Qc.mkO [_, _] [_, _] [] [] _ (ci _ _) (Qb.back [_, _, _] [_]) QX (fun v L' D' hq => ?_); obtain ⟨a', c', rfl, rfl, rfl⟩ := hq; refine ⟨_, _, Qb.back [_] [_, _], ?_⟩) | refine Qe.mk [_, _] [] ⟨a', c', rfl, rfl, rfl⟩ Qb.a
theorem qK (ad : Nat) (s : STM) (sq : Int) : FnS prog 210 [.c (.p 2 ad 0)] [ZZ 2 ad s sq] [] (fun v L D => v = .c (.b (decide (200 ≤ (s.pages.length : Int)))) ∧ L = [ZZ 2 ad s sq] ∧ D = []) := by
 delta ZZ QC
 refine FJ 1000 func210 ntmps210 (fun G => ?_)
 repeat' first | refine Wk ?_ | refine Qa.mk (fun h => ?_) (fun h => ?_) | refine Qd.mk (fun ad => ?_) | (rw [decide_eq_true (by omega)]; refine Qe.mk [_] [] ⟨rfl, rfl, rfl⟩ Qb.a) | (rw [decide_eq_false (by omega)]; refine Qe.mk [_] [] ⟨rfl, rfl, rfl⟩ Qb.a)
theorem Ri (x : PP) (ad : Nat) (sp : Int) (nm : Bs) : FnS prog 252 [.agg x.cells, .c (.p 1000 ad 0)] [.box 1000 ad 45 [.i .i64 sp, .s nm]] []
  (fun v L D => v = .c (.b (decide (x.sp = sp ∧ x.nm = nm))) ∧ L = [.box 1000 ad 45 [.i .i64 sp, .s nm]] ∧ D = []) := by
 unfold PP.cells
 refine FJ 7000 func252 ntmps252 (fun G => ?_)
 repeat' first | refine Wk ?_ | refine Qa.mk (fun h => ?_) (fun h => ?_) | refine Qd.mk (fun ad => ?_) | refine Qe.mk [_] [] ⟨?_, rfl, rfl⟩ Qb.a
 ·rename_i h; rw [decide_eq_true (show x.sp = sp ∧ x.nm = nm from ⟨h.1, h.2.1⟩)]
 ·rename_i h; rw [decide_eq_false (fun hh : x.sp = sp ∧ x.nm = nm => h ⟨hh.1, hh.2, trivial⟩)]
theorem O8 (ad : Nat) (s : STM) (sq sp : Int) (nm : Bs) (hl : s.props.length ≤ 1000) : FnS prog 213 [.c (.p 2 ad 0), .agg [.i .i64 sp, .s nm]] [ZZ 2 ad s sq, Ya s] []
  (fun v L D => v = .t0 ∧ L = [ZZ 2 ad { s with props := Xa s.props sp nm } sq, Ya { s with props := Xa s.props sp nm }] ∧ D = []) := by
 have cd := fun a0 => Ef s.qa s.qc s.props 252 1000 a0 0 [.box 1000 a0 45 [.i .i64 sp, .s nm]] (fun p => decide (p.sp = sp ∧ p.nm = nm)) hl (fun g _ => Ri g a0 sp nm)
 have hq : (s.props.filter fun x => !decide (x.sp = sp ∧ x.nm = nm)) = Xa s.props sp nm := rfl
 simp only [hq] at cd
 generalize Xa s.props sp nm = W at *
 delta ZZ Ya QC
 refine FJ 1000 func213 ntmps213 (fun G => ?_)
 repeat' first | refine Wk ?_ | refine Qa.mk (fun h => ?_) (fun h => ?_) | refine Qd.mk (fun ad => ?_) | (refine Qc.mkO [_, _] [_] [] [] _ (cd _) (Qb.back [_, _] [_]) QX (fun v L' D' hq => ?_); obtain ⟨rfl, rfl, rfl⟩ := hq; refine ⟨_, _, Qb.back [_] [_, _], ?_⟩) | refine Qe.mk [_, _] [] ⟨rfl, rfl, rfl⟩ Qb.a
abbrev vg (c : CHM) (clk sq : Int) (k : Int) (note text : Bs) : RV := ⟨k, c.user, note, text, clk, sq⟩
theorem LQ (ad : Nat) (s : STM) (sq : Int) (c : CHM) (hl : s.pages.length < 200) (ha : (s.pages.map PGM.pl).Pairwise fun a b => cfP a b < 0) (hn : ZJ (QE c.sp c.nm) s.pages = false) :
  FnS prog 165 [.c (.p 2 ad 0), .agg c.cells] [ZZ 2 ad s sq, X2 s] []
   (fun v L D => ∃ a k a2 k2, v = .c (.i .i64 0) ∧ L = [ZZ 2 ad { s with pa := a, pc := k, pages := Xn s.pages ⟨c.sp, c.nm, a2, k2, [vg c s.clk sq 1 c.note c.text]⟩ } sq, X2 { s with pa := a, pc := k, pages := Xn s.pages ⟨c.sp, c.nm, a2, k2, [vg c s.clk sq 1 c.note c.text]⟩ }, Vi ⟨c.sp, c.nm, a2, k2, [vg c s.clk sq 1 c.note c.text]⟩] ∧ D = []) := by
 have cf := KG ad s sq c.sp c.nm (by omega) ha
 have cfu := qK ad s sq
 rw [decide_eq_false (by omega)] at cfu
 rw [hn] at cf
 have ca := fun a2 k2 => yO ad s sq ⟨c.sp, c.nm, a2, k2, [vg c s.clk sq 1 c.note c.text]⟩ (by omega) ha
 generalize kG (QE c.sp c.nm) s.pages = k at *
 delta ZZ X2 QC Vi at *
 refine FJ 1000 func165 ntmps165 (fun G => ?_)
 repeat' first | refine Wk ?_ | refine Qa.mk (fun h => ?_) (fun h => ?_) | refine Qd.mk (fun ad => ?_) | refine Dz (id := 1) [0,1,0,4,0,16,0,64,192,448,960,0,2048,6144,14336,32767,0,131071] [0,1,2,3,4,5,6,7,8,9,10,11,12,13,14,15,16,17] [16,17] [0,3] 17 true ?_ | refine Dz (id := 9) [0,1,3,7,15,0,0,64,192,448,960,0,4032,8128,16320,0,32768,131008,262143,524287,1048575] [0,1,2,3,4,5,6,7,8,9,10,11,12,13,14,15,16,17,18,19,20] [16,17,18,20] [0,5,85] 20 false ?_ | refine Qt.mk Qb.a ?_ | refine Qc.keep [_, _] [_, _] [] _ cf (List.perm_append_comm (l₁ := [_, _]) (l₂ := [_, _])) QX (fun v L' D' hq => ?_); obtain ⟨rfl, rfl, rfl⟩ := hq; refine ⟨rfl, ?_⟩ | (refine Qc.keep [_] [_, _, _] [] _ cfu (List.perm_middle (l₁ := [_, _])) QX (fun v L' D' hq => ?_); obtain ⟨rfl, rfl, rfl⟩ := hq; refine ⟨rfl, ?_⟩) | (refine Qc.mk [_, _] [_, _, _] [] _ (ca _ _) (List.perm_append_comm (l₁ := [_, _, _]) (l₂ := [_, _])) QX (fun v L' D' hq => ?_); obtain ⟨a', c', rfl, rfl, rfl⟩ := hq) | refine Qe.mk [_, _, _] [] ⟨a', c', _, _, rfl, rfl, rfl⟩ Qb.a
theorem LR (ad : Nat) (s : STM) (sq : Int) (c : CHM) (h0 : s.pages.length ≤ 1000) (hl : 200 ≤ s.pages.length) (ha : (s.pages.map PGM.pl).Pairwise fun a b => cfP a b < 0) (hn : ZJ (QE c.sp c.nm) s.pages = false) :
  FnS prog 165 [.c (.p 2 ad 0), .agg c.cells] [ZZ 2 ad s sq, X2 s] [] (fun v L D => v = .c (.i .i64 8) ∧ L = [ZZ 2 ad s sq, X2 s] ∧ D = []) := by
 have cf := KG ad s sq c.sp c.nm h0 ha
 have cfu := qK ad s sq
 rw [decide_eq_true (by omega)] at cfu
 rw [hn] at cf
 generalize kG (QE c.sp c.nm) s.pages = k at *
 delta ZZ X2 QC at *
 refine FJ 1000 func165 ntmps165 (fun G => ?_)
 repeat' first | refine Wk ?_ | refine Qa.mk (fun h => ?_) (fun h => ?_) | refine Qd.mk (fun ad => ?_) | refine Dz (id := 1) [0,1,0,4,0,16,0,64,192,448,960,0,2048,6144,14336,32767,0,131071] [0,1,2,3,4,5,6,7,8,9,10,11,12,13,14,15,16,17] [16,17] [0,3] 17 true ?_ | refine Dz (id := 9) [0,1,3,7,15,0,0,64,192,448,960,0,4032,8128,16320,0,32768,131008,262143,524287,1048575] [0,1,2,3,4,5,6,7,8,9,10,11,12,13,14,15,16,17,18,19,20] [16,17,18,20] [0,5,85] 20 false ?_ | refine Qt.mk Qb.a ?_ | refine Qc.keep [_, _] [_, _] [] _ cf (List.perm_append_comm (l₁ := [_, _]) (l₂ := [_, _])) QX (fun v L' D' hq => ?_); obtain ⟨rfl, rfl, rfl⟩ := hq; refine ⟨rfl, ?_⟩ | (refine Qc.keep [_] [_, _, _] [] _ cfu (List.perm_middle (l₁ := [_, _])) QX (fun v L' D' hq => ?_); obtain ⟨rfl, rfl, rfl⟩ := hq; refine ⟨rfl, ?_⟩) | refine Qe.mk [_, _] [] ⟨rfl, rfl, rfl⟩ Qb.a
theorem LP (ad : Nat) (s : STM) (sq : Int) (c : CHM) (h0 : s.pages.length ≤ 1000) (ha : (s.pages.map PGM.pl).Pairwise fun a b => cfP a b < 0) (hn : ZJ (QE c.sp c.nm) s.pages = true) (hk : kG (QE c.sp c.nm) s.pages < s.pages.length) (hh : 40 ≤ (s.pages[kG (QE c.sp c.nm) s.pages]).hist.length) :
  FnS prog 165 [.c (.p 2 ad 0), .agg c.cells] [ZZ 2 ad s sq, X2 s] [] (fun v L D => v = .c (.i .i64 8) ∧ L = [ZZ 2 ad s sq, X2 s] ∧ D = []) := by
 have cf := KG ad s sq c.sp c.nm h0 ha
 rw [hn] at cf
 generalize kG (QE c.sp c.nm) s.pages = k at *
 have hg := YH hk
 generalize s.pages[k] = p at *
 delta ZZ X2 QC at *
 refine FJ 1000 func165 ntmps165 (fun G => ?_)
 repeat' first | refine Wk ?_ | refine Qa.mk (fun h => ?_) (fun h => ?_) | refine Qd.mk (fun ad => ?_) | refine Dz (id := 1) [0,1,0,4,0,16,0,64,192,448,960,0,2048,6144,14336,32767,0,131071] [0,1,2,3,4,5,6,7,8,9,10,11,12,13,14,15,16,17] [16,17] [0,3] 17 true ?_ | refine Dz (id := 9) [0,1,3,7,15,0,0,64,192,448,960,0,4032,8128,16320,0,32768,131008,262143,524287,1048575] [0,1,2,3,4,5,6,7,8,9,10,11,12,13,14,15,16,17,18,19,20] [16,17,18,20] [0,5,85] 20 false ?_ | refine Qt.mk Qb.a ?_ | refine Qc.keep [_, _] [_, _] [] _ cf (List.perm_append_comm (l₁ := [_, _]) (l₂ := [_, _])) QX (fun v L' D' hq => ?_); obtain ⟨rfl, rfl, rfl⟩ := hq; refine ⟨rfl, ?_⟩ | refine Qr.mk 60 3 _ (.inl ⟨s.pc, (by first | exact List.Mem.head _ | exact List.Mem.tail _ QT | exact List.Mem.tail _ ZR | exact List.Mem.tail _ XQ | exact List.Mem.tail _ X8)⟩) (by omega) (by omega) ?_ | refine Zv.mk 60 3 _ _ (.inl ⟨s.pc, (by first | exact List.Mem.head _ | exact List.Mem.tail _ QT | exact List.Mem.tail _ ZR | exact List.Mem.tail _ XQ | exact List.Mem.tail _ X8)⟩) (by omega) ?_ | refine Qi.mk 60 _ _ _ (.inl ⟨s.pc, (by first | exact List.Mem.head _ | exact List.Mem.tail _ QT | exact List.Mem.tail _ ZR | exact List.Mem.tail _ XQ | exact List.Mem.tail _ X8)⟩) (by omega) (by omega) (by first | omega | decide) (by exact hg) ?_ | refine Qe.mk [_, _] [] ⟨rfl, rfl, rfl⟩ Qb.a
theorem LO (ad : Nat) (s : STM) (sq : Int) (c : CHM) (h0 : s.pages.length ≤ 1000) (ha : (s.pages.map PGM.pl).Pairwise fun a b => cfP a b < 0) (hn : ZJ (QE c.sp c.nm) s.pages = true) (k : Nat) (hkk : kG (QE c.sp c.nm) s.pages = k) (hk : k < s.pages.length) (hh : (s.pages[k]).hist.length < 40) :
  FnS prog 165 [.c (.p 2 ad 0), .agg c.cells] [ZZ 2 ad s sq, X2 s, Vi s.pages[k]] []
   (fun v L D => ∃ a c', v = .c (.i .i64 0) ∧ L = [ZZ 2 ad { s with pages := s.pages.set k ⟨s.pages[k].sp, s.pages[k].nm, a, c', VF s.pages[k].hist c s.clk sq⟩ } sq, X2 { s with pages := s.pages.set k ⟨s.pages[k].sp, s.pages[k].nm, a, c', VF s.pages[k].hist c s.clk sq⟩ }, Vi ⟨s.pages[k].sp, s.pages[k].nm, a, c', VF s.pages[k].hist c s.clk sq⟩] ∧ D = []) := by
 have cf := KG ad s sq c.sp c.nm h0 ha
 rw [hn, hkk] at cf
 have hg := YH hk
 have hset : ∀ a k', QP (k * 3 + 2) [C.sl a ((VF s.pages[k].hist c s.clk sq).length) k'] (Qm s.pages) = Qm (s.pages.set k ⟨s.pages[k].sp, s.pages[k].nm, a, k', VF s.pages[k].hist c s.clk sq⟩) := fun a k' => kX hk rfl rfl rfl
 have hst : ∀ a, (s.pages.set k a).length = s.pages.length := fun a => List.length_set
 have hap : Zb s.pages[k].hist ++ [.i .i64 ((s.pages[k].hist.length : Int) + 1), .s c.user, .s c.note, .s c.text, .i .i64 s.clk, .i .i64 sq] = Zb (VF s.pages[k].hist c s.clk sq) := by simp [Zb, RV.cells, VF]
 have hln : s.pages[k].hist.length + 1 = (VF s.pages[k].hist c s.clk sq).length := by simp [VF]
 clear hkk hn ha
 generalize s.pages[k] = p at *
 generalize VF p.hist c s.clk sq = h2 at *
 delta ZZ X2 QC Vi at *
 dsimp only
 simp only [List.length_set]
 refine FJ 1000 func165 ntmps165 (fun G => ?_)
 repeat' first | refine Wk ?_ | refine Qa.mk (fun h => ?_) (fun h => ?_) | refine Qd.mk (fun ad => ?_) | refine Dz (id := 1) [0,1,0,4,0,16,0,64,192,448,960,0,2048,6144,14336,32767,0,131071] [0,1,2,3,4,5,6,7,8,9,10,11,12,13,14,15,16,17] [16,17] [0,3] 17 true ?_ | refine Ke (id := 9) tyOK (by kernel_rfl) [0, 1, 3, 7, 15, 0, 0, 64, 192, 448, 960, 0, 4032, 8128, 16320, 0, 32768, 131008, 262143, 524287, 1048575] (.node [0, 1, 2, 3, 4, 5, 6, 7, 8, 9, 10, 11, 15] 12 (.node [] 13 (.node [] 14 (.leaf [16, 17, 18, 19, 20]) 16 (.leaf [14, 17, 18, 19, 20])) 16 (.leaf [13, 14, 17, 18, 19, 20])) 16 (.leaf [12, 13, 14, 17, 18, 19, 20])) [12, 13, 14, 16, 17, 18, 19, 20] [0, 5, 85] 20 false (by kernel_rfl) ?_ | refine X3.mk ?_ ?_ | refine Qt.mk Qb.a ?_ | refine Qc.keep [_, _] [_, _, _] [] _ cf (List.Perm.append_right [_] (List.perm_append_comm (l₁ := [_, _]) (l₂ := [_, _]))) QX (fun v L' D' hq => ?_); obtain ⟨rfl, rfl, rfl⟩ := hq; refine ⟨rfl, ?_⟩ | refine Qr.mk 60 3 _ (.inl ⟨s.pc, (by first | exact List.Mem.head _ | exact List.Mem.tail _ QT | exact List.Mem.tail _ ZR | exact List.Mem.tail _ XQ | exact List.Mem.tail _ X8)⟩) (by omega) (by omega) ?_ | refine Zv.mk 60 3 _ _ (.inl ⟨s.pc, (by first | exact List.Mem.head _ | exact List.Mem.tail _ QT | exact List.Mem.tail _ ZR | exact List.Mem.tail _ XQ | exact List.Mem.tail _ X8)⟩) (by omega) ?_ | refine Qi.mk 60 _ _ _ (.inl ⟨s.pc, (by first | exact List.Mem.head _ | exact List.Mem.tail _ QT | exact List.Mem.tail _ ZR | exact List.Mem.tail _ XQ | exact List.Mem.tail _ X8)⟩) (by omega) (by omega) (by first | omega | decide) (by exact hg) ?_ | (refine QK.row [_, _, _, _, _] _ (Zb p.hist) [.i .i64 ((p.hist.length : Int) + 1), .s c.user, .s c.note, .s c.text, .i .i64 s.clk, .i .i64 sq] 1 rfl (QJ.sl 73 73 _ _ 1 1 _ rfl rfl (.inl ⟨1, QT⟩) rfl) (by dsimp only; omega) (fun a' c' => ?_); rw [hap, hln]) | refine Xp.mk [_, _, _, _] _ _ _ _ _ _ rfl (by omega) (by omega) (Nat.le_of_ble_eq_true rfl) (by exact hset _ _) ?_ | refine Qe.mk [_, _, _] [] ⟨a', c', rfl, rfl, rfl⟩ Qb.a
end Go.Proofs
namespace Go.X
open Go Go.Lib
theorem Td {s : ST} {c : CH} (h8 : c.kind = 8) (hh : ZJ (fun x => cfW x ⟨c.user, c.sp, c.nm⟩) s.watches = true) : Xm s c = ({ s with watches := s.watches.eraseIdx (kG (fun x => cfW x ⟨c.user, c.sp, c.nm⟩) s.watches) }, 0) := by
 have h1 := (wk s.watches ⟨c.user, c.sp, c.nm⟩).2 hh
 unfold Xm
 simp only [if_pos h8, if_pos h1]
 rw [OA, Uq, List.eraseIdx_eq_take_drop_succ, List.tail_drop]
theorem Gw {s : ST} {c : CH} (h8 : c.kind = 8) (hh : ZJ (fun x => cfW x ⟨c.user, c.sp, c.nm⟩) s.watches = false) : Xm s c = (s, 4) := by
 have h1 : ¬ ((s.watches.dropWhile fun x => kP x ⟨c.user, c.sp, c.nm⟩).head? = some ⟨c.user, c.sp, c.nm⟩) := fun e => by have := (wk _ _).1 e; rw [hh] at this; cases this
 unfold Xm
 simp only [if_pos h8, if_neg h1]
theorem Tc {s : ST} {c : CH} (h8 : ¬ c.kind = 8) (hh : ZJ (fun x => cfW x ⟨c.user, c.sp, c.nm⟩) s.watches = true) : Xm s c = (s, 5) := by
 have h1 := (wk s.watches ⟨c.user, c.sp, c.nm⟩).2 hh
 unfold Xm
 simp only [if_neg h8, if_pos h1]
theorem Gx {s : ST} {c : CH} (h8 : ¬ c.kind = 8) (hh : ZJ (fun x => cfW x ⟨c.user, c.sp, c.nm⟩) s.watches = false) (hl : 100 ≤ (s.watches.length : Int)) : Xm s c = (s, 8) := by
 have h1 : ¬ ((s.watches.dropWhile fun x => kP x ⟨c.user, c.sp, c.nm⟩).head? = some ⟨c.user, c.sp, c.nm⟩) := fun e => by have := (wk _ _).1 e; rw [hh] at this; cases this
 unfold Xm
 simp only [if_neg h8, if_neg h1, if_pos hl]
theorem Tf {s : ST} {c : CH} (h8 : ¬ c.kind = 8) (hh : ZJ (fun x => cfW x ⟨c.user, c.sp, c.nm⟩) s.watches = false) (hl : ¬ 100 ≤ (s.watches.length : Int)) : Xm s c = ({ s with watches := s.watches.take (kG (fun x => cfW x ⟨c.user, c.sp, c.nm⟩) s.watches) ++ ⟨c.user, c.sp, c.nm⟩ :: s.watches.drop (kG (fun x => cfW x ⟨c.user, c.sp, c.nm⟩) s.watches) }, 0) := by
 have h1 : ¬ ((s.watches.dropWhile fun x => kP x ⟨c.user, c.sp, c.nm⟩).head? = some ⟨c.user, c.sp, c.nm⟩) := fun e => by have := (wk _ _).1 e; rw [hh] at this; cases this
 unfold Xm
 simp only [if_neg h8, if_neg h1, if_neg hl]
 rw [OA, Uq]
theorem Sa {clk pr : Int} : ∀ {l : List PP} {la : Int}, KR clk pr la l = true → l.Pairwise (fun a b => a.id < b.id) ∧ ∀ x ∈ l, la < x.id
 | [], _, _ => ⟨List.Pairwise.nil, fun _ h => (by cases h)⟩
 | p :: l, la, h => by
  simp only [KR, Bool.and_eq_true] at h
  have h1 := Xu.1 h.1
  obtain ⟨h2, h3⟩ := Sa h.2
  refine ⟨List.pairwise_cons.2 ⟨h3, h2⟩, fun x hx => ?_⟩
  rcases List.mem_cons.1 hx with rfl | hx
  ·exact h1.1
  ·have := h3 x hx; have := h1.1; omega
theorem R9 {n : Int} : ∀ {l : List PP} {i : Nat} (_ : l.Pairwise fun a b => a.id < b.id) (h : i < l.length) (_ : l[i].id = n), l.filter (fun p => !decide (p.id = n)) = l.eraseIdx i
 | p :: r, 0, hp, h, he => by
  have h' := List.pairwise_cons.1 hp
  have he : p.id = n := he
  rw [List.filter_cons, if_neg (by simp [he]), List.eraseIdx_cons_zero, List.filter_eq_self]
  intro x hx
  have := h'.1 x hx
  rw [Bool.not_eq_true', decide_eq_false_iff_not]; omega
 | p :: r, i + 1, hp, h, he => by
  have h' := List.pairwise_cons.1 hp
  have hi : i < r.length := by simpa using h
  have hne : p.id ≠ n := by
   have := h'.1 r[i] (List.getElem_mem hi)
   have he : r[i].id = n := he
   omega
  rw [List.filter_cons, if_pos (by simp [hne]), List.eraseIdx_cons_succ, R9 h'.2 hi he]
theorem Tz {s : ST} {c : CH} (h : Q2 (fun p : PP => decide (p.id = c.n)) s.props < 0) : WA s c = (s, 4) := by
 unfold WA
 have : s.props.filter (fun p => !decide (p.id = c.n)) = s.props := by
  rw [List.filter_eq_self]
  intro x hx
  have := YP h x hx
  simp at this
  simp [this]
 simp only [this]
 exact if_pos trivial
theorem Tx {s : ST} {c : CH} {i : Nat} (hp : s.props.Pairwise fun a b => a.id < b.id) (h : i < s.props.length) (he : s.props[i].id = c.n) : WA s c = ({ s with props := s.props.eraseIdx i }, 0) := by
 unfold WA
 simp only [R9 hp h he]
 rw [if_neg]
 rw [List.length_eraseIdx_of_lt h]; omega
end Go.X
namespace Go.Proofs
open Go Go.X Tryz
set_option maxRecDepth 100000
set_option maxHeartbeats 4000000
theorem Np (ad : Nat) (s : STM) (sq : Int) (c : CHM) (hs : Vs s) (ha : (s.pages.map PGM.pl).Pairwise fun a b => cfP a b < 0) : FnS prog 165 [.c (.p 2 ad 0), .agg c.cells] (WN 2 ad s sq) [] (vu ad sq (K7 s.pl c.pl sq)) := by
 have h0 := hs.pages
 have hix := jx ha c.sp c.nm
 generalize hR : K7 s.pl c.pl sq = R
 unfold K7 at hR
 rw [show c.pl.sp = c.sp from rfl, show c.pl.nm = c.nm from rfl, K9, V3] at hR
 cases hh : ZJ (QE c.sp c.nm) s.pages with
 | false =>
  rw [hh, if_neg (by simp)] at hix
  rw [hix, if_pos (show (-1 : Int) < 0 by decide)] at hR
  by_cases hl : 200 ≤ s.pages.length
  ·rw [if_pos (by omega)] at hR
   subst hR
   exact (LR ad s sq c h0 hl ha hh).lift ([Wh s, Ya s, VI s, zk s] ++ (Zt s.pages ++ Zt s.gone)) QW (fun _ h => h) fun v L1 D1 ⟨h1, h2, h3⟩ => by
    subst h1 h2 h3
    exact ⟨_, _, Qb.of rfl, s, rfl, rfl, rfl, rfl⟩
  ·rw [if_neg (by omega)] at hR
   subst hR
   refine (LQ ad s sq c (by omega) ha hh).lift ([Wh s, Ya s, VI s, zk s] ++ (Zt s.pages ++ Zt s.gone)) QW (fun _ h => h) fun v L1 D1 ⟨a, k, a2, k2, h1, h2, h3⟩ => ?_
   subst h1 h2 h3
   refine ⟨_, _, Qb.perm (List.Perm.cons _ (List.Perm.cons _ (w0 (A := [Wh s, Ya s, VI s, zk s]) (qf s.pages _)))), { s with pa := a, pc := k, pages := Xn s.pages ⟨c.sp, c.nm, a2, k2, [vg c s.clk sq 1 c.note c.text]⟩ }, rfl, rfl, rfl, ?_⟩
   dsimp only [STM.pl]
   rw [J9]; rfl
 | true =>
  have hk := Yf hh
  rw [hh, if_pos rfl] at hix
  rw [hix, if_neg (by omega), Wp hk] at hR
  by_cases hl : 40 ≤ s.pages[kG (QE c.sp c.nm) s.pages].hist.length
  ·rw [if_pos (show 40 ≤ ((s.pages[kG (QE c.sp c.nm) s.pages].pl.hist.length : Nat) : Int) by show 40 ≤ ((s.pages[kG (QE c.sp c.nm) s.pages].hist.length : Nat) : Int); omega)] at hR
   subst hR
   exact (LP ad s sq c h0 ha hh hk hl).lift ([Wh s, Ya s, VI s, zk s] ++ (Zt s.pages ++ Zt s.gone)) QW (fun _ h => h) fun v L1 D1 ⟨h1, h2, h3⟩ => by
    subst h1 h2 h3
    exact ⟨_, _, Qb.of rfl, s, rfl, rfl, rfl, rfl⟩
  ·rw [if_neg (show ¬ 40 ≤ ((s.pages[kG (QE c.sp c.nm) s.pages].pl.hist.length : Nat) : Int) by show ¬ 40 ≤ ((s.pages[kG (QE c.sp c.nm) s.pages].hist.length : Nat) : Int); omega)] at hR
   subst hR
   refine (LO ad s sq c h0 ha hh _ rfl hk (by omega)).lift ([Wh s, Ya s, VI s, zk s] ++ (Zt (s.pages.eraseIdx (kG (QE c.sp c.nm) s.pages)) ++ Zt s.gone)) (List.Perm.cons _ (List.Perm.cons _ (w0 (A := [Wh s, Ya s, VI s, zk s]) (xS hk)).symm)) (fun _ h => h) fun v L1 D1 ⟨a, k, h1, h2, h3⟩ => ?_
   subst h1 h2 h3
   refine ⟨_, _, Qb.perm (List.Perm.cons _ (List.Perm.cons _ (w0 (A := [Wh s, Ya s, VI s, zk s]) (SY hk _)))), { s with pages := s.pages.set _ _ }, rfl, rfl, rfl, ?_⟩
   dsimp only [STM.pl]
   rw [vT hk (fun p => { p with hist := p.hist ++ [⟨(p.hist.length : Int) + 1, c.user, c.note, c.text, s.clk, sq⟩] }) _ rfl]
   rfl
theorem S9 (ad : Nat) (s : STM) (sq : Int) (c : CHM) (h0 : 0 ≤ s.clk) (h1 : s.clk ≤ 52595999) (hn : 1 ≤ c.n ∧ c.n ≤ 52596000) : FnS prog 170 [.c (.p 2 ad 0), .agg c.cells] (WN 2 ad s sq) [] (vu ad sq (zd s.pl c.pl)) := by
 have hw : ∃ k', ({ s with clk := k' } : STM).pl = (zd s.pl c.pl).1 ∧ FnS prog 170 [.c (.p 2 ad 0), .agg c.cells] [ZZ 2 ad s sq] [] (fun v L D => v = .c (.i .i64 (zd s.pl c.pl).2) ∧ L = [ZZ 2 ad { s with clk := k' } sq] ∧ D = []) := by
  by_cases h : 52595999 - s.clk < c.n
  ·have e : zd s.pl c.pl = (s.pl, 2) := if_pos h
   rw [e]
   refine ⟨s.clk, rfl, ?_⟩
   delta ZZ QC
   refine FJ 1000 func170 ntmps170 (fun G => ?_)
   repeat' first | refine Wk ?_ | refine Qa.mk (fun h => ?_) (fun h => ?_) | refine Qd.mk (fun ad => ?_) | refine Ds (id := 1) [0,1,3,7,15,0,32,127,255] [0,1,2,3,4,5,6,7,8] [] [0,3] true ?_ | refine Dz (id := 3) [0,1,3,7,15,0,32,127,255,511,1023,2047] [0,1,2,3,4,5,6,7,8,9,10,11] [11] [0,3] 11 true ?_ | refine Qt.mk Qb.a ?_ | refine Qe.mk [_] [] ⟨rfl, rfl, rfl⟩ Qb.a
  ·have e : zd s.pl c.pl = ({ s.pl with clk := s.clk + c.n }, 0) := if_neg h
   rw [e]
   refine ⟨s.clk + c.n, rfl, ?_⟩
   delta ZZ QC
   refine FJ 1000 func170 ntmps170 (fun G => ?_)
   repeat' first | refine Wk ?_ | refine Qa.mk (fun h => ?_) (fun h => ?_) | refine Qd.mk (fun ad => ?_) | refine Ds (id := 1) [0,1,3,7,15,0,32,127,255] [0,1,2,3,4,5,6,7,8] [] [0,3] true ?_ | refine Dz (id := 3) [0,1,3,7,15,0,32,127,255,511,1023,2047] [0,1,2,3,4,5,6,7,8,9,10,11] [11] [0,3] 11 true ?_ | refine Qt.mk Qb.a ?_ | refine Qe.mk [_] [] ⟨rfl, rfl, rfl⟩ Qb.a
 obtain ⟨k', hp, hf⟩ := hw
 exact hf.lift (ve s) QW (fun _ h => h) fun v L1 D1 ⟨h1, h2, h3⟩ => by
  subst h1 h2 h3
  exact ⟨_, _, Qb.of rfl, { s with clk := k' }, rfl, rfl, rfl, hp⟩
theorem HH (ad : Nat) (s : STM) (sq : Int) (c : CHM) (hl : s.props.length ≤ 1000) (h0 : 0 ≤ s.proposed) : FnS prog 171 [.c (.p 2 ad 0), .agg c.cells] (WN 2 ad s sq) [] (vu ad sq (Jc s.pl c.pl)) := by
 generalize hR : Jc s.pl c.pl = R
 unfold Jc at hR
 by_cases hf : 40 ≤ (s.props.length : Int) ∨ 1073741824 ≤ s.proposed
 ·have e : R = (s.pl, 8) := by rw [← hR]; exact if_pos hf
  subst e
  have hw : FnS prog 171 [.c (.p 2 ad 0), .agg c.cells] [ZZ 2 ad s sq] [] (fun v L D => v = .c (.i .i64 8) ∧ L = [ZZ 2 ad s sq] ∧ D = []) := by
   delta ZZ QC
   refine FJ 1000 func171 ntmps171 (fun G => ?_)
   repeat' first | refine Wk ?_ | refine Qa.mk (fun h => ?_) (fun h => ?_) | refine Qd.mk (fun ad => ?_) | refine Dz (id := 4) [0,1,3,7,15,0,32,0,128,0,512,0,2048,0,8192,0,32768,98304,229376,491520,1048575,0,4194303] [0,1,2,3,4,5,6,7,8,9,10,11,12,13,14,15,16,17,18,19,20,21,22] [21,22] [0,3] 22 true ?_ | refine Dz (id := 5) [0,0,2,6,14,30,0,64,254,511,1023,2047,4095] [0,1,2,3,4,5,6,7,8,9,10,11,12] [7,8,12] [0,5] 12 false ?_ | refine Qt.mk Qb.a ?_ | refine Qe.mk [_] [] ⟨rfl, rfl, rfl⟩ Qb.a
  exact hw.lift (ve s) QW (fun _ h => h) fun v L1 D1 ⟨h1, h2, h3⟩ => by
   subst h1 h2 h3
   exact ⟨_, _, Qb.of rfl, s, rfl, rfl, rfl, rfl⟩
 ·have e : R = ({ s.pl with proposed := s.proposed + 1, props := s.props ++ [⟨s.proposed + 1, c.user, c.note, c.sp, c.nm, c.n, c.text, s.clk⟩] }, 0) := by rw [← hR]; exact if_neg hf
  subst e
  clear hR
  have hap : XI s.props ++ [.i .i64 (s.proposed + 1), .s c.user, .s c.note, .i .i64 c.sp, .s c.nm, .i .i64 c.n, .s c.text, .i .i64 s.clk] = XI (s.props ++ [⟨s.proposed + 1, c.user, c.note, c.sp, c.nm, c.n, c.text, s.clk⟩]) := by simp [XI, PP.cells]
  have hln : s.props.length + 1 = (s.props ++ [(⟨s.proposed + 1, c.user, c.note, c.sp, c.nm, c.n, c.text, s.clk⟩ : PP)]).length := by simp
  have hw : ∀ P : List PP, P = s.props ++ [⟨s.proposed + 1, c.user, c.note, c.sp, c.nm, c.n, c.text, s.clk⟩] → FnS prog 171 [.c (.p 2 ad 0), .agg c.cells] [ZZ 2 ad s sq, Ya s] [] (fun v L D => ∃ a k, v = .c (.i .i64 0) ∧ L = [ZZ 2 ad { s with proposed := s.proposed + 1, qa := a, qc := k, props := P } sq, Ya { s with proposed := s.proposed + 1, qa := a, qc := k, props := P }] ∧ D = []) := by
   intro P hP
   rw [← hP] at hap hln
   clear hP
   delta ZZ Ya QC
   refine FJ 1000 func171 ntmps171 (fun G => ?_)
   repeat' first | refine Wk ?_ | refine Qa.mk (fun h => ?_) (fun h => ?_) | refine Qd.mk (fun ad => ?_) | refine Dz (id := 4) [0,1,3,7,15,0,32,0,128,0,512,0,2048,0,8192,0,32768,98304,229376,491520,1048575,0,4194303] [0,1,2,3,4,5,6,7,8,9,10,11,12,13,14,15,16,17,18,19,20,21,22] [21,22] [0,3] 22 true ?_ | refine Dz (id := 5) [0,0,2,6,14,30,0,64,254,511,1023,2047,4095] [0,1,2,3,4,5,6,7,8,9,10,11,12] [7,8,12] [0,5] 12 false ?_ | refine Qt.mk Qb.a ?_ | (refine QK.row [_, _, _, _] _ (XI s.props) [.i .i64 (s.proposed + 1), .s c.user, .s c.note, .i .i64 c.sp, .s c.nm, .i .i64 c.n, .s c.text, .i .i64 s.clk] 1 rfl (QJ.sl 122 122 _ _ 1 1 _ rfl rfl (.inl ⟨1, QT⟩) rfl) (by dsimp only; omega) (fun a' c' => ?_); rw [hap, hln]) | refine Qe.mk [_, _] [] ⟨a', c', rfl, rfl, rfl⟩ Qb.a
  refine (hw _ rfl).lift ([X2 s, Wh s, VI s, zk s] ++ (Zt s.pages ++ Zt s.gone)) (List.Perm.cons _ (List.perm_middle (l₁ := [X2 s, Wh s]))) (fun _ h => h) fun v L1 D1 ⟨a, k, h1, h2, h3⟩ => ?_
  subst h1 h2 h3
  exact ⟨_, _, Qb.perm (List.Perm.cons _ (List.perm_middle (l₁ := [X2 s, Wh s])).symm), { s with proposed := s.proposed + 1, qa := a, qc := k, props := _ }, rfl, rfl, rfl, rfl⟩
end Go.Proofs
namespace Go.X
open Go Go.Lib
theorem TQ {s : ST} {u : Bs} {sq : Int} (hu : ¬ u = []) (hh : ZJ (Xd u) s.lasts = true) : Q9 s u sq = ({ s with lasts := s.lasts.set (kG (Xd u) s.lasts) ⟨u, sq⟩ }, 0) := by
 have h1 := (TZ s.lasts u).2 hh
 have hk := Yf hh
 unfold Q9
 simp only [if_neg hu, if_pos h1]
 rw [OS, U3, List.set_eq_take_append_cons_drop, if_pos hk, List.tail_drop]
theorem Hd {s : ST} {u : Bs} {sq : Int} (hu : ¬ u = []) (hh : ZJ (Xd u) s.lasts = false) (hl : 60 ≤ (s.lasts.length : Int)) : Q9 s u sq = (s, 8) := by
 have h1 : ¬ ((s.lasts.dropWhile fun x => U6 x.user u).head?.map (·.user)) = some u := fun e => by have := (TZ _ _).1 e; rw [hh] at this; cases this
 unfold Q9
 simp only [if_neg hu, if_neg h1, if_pos hl]
theorem TR {s : ST} {u : Bs} {sq : Int} (hu : ¬ u = []) (hh : ZJ (Xd u) s.lasts = false) (hl : ¬ 60 ≤ (s.lasts.length : Int)) : Q9 s u sq = ({ s with lasts := s.lasts.take (kG (Xd u) s.lasts) ++ ⟨u, sq⟩ :: s.lasts.drop (kG (Xd u) s.lasts) }, 0) := by
 have h1 : ¬ ((s.lasts.dropWhile fun x => U6 x.user u).head?.map (·.user)) = some u := fun e => by have := (TZ _ _).1 e; rw [hh] at this; cases this
 unfold Q9
 simp only [if_neg hu, if_neg h1, if_neg hl]
 rw [OS, U3]
theorem SF {l : List LU} {k : Nat} (h : k < l.length) (x : LU) (hx : x.user = l[k].user) : QP (k * 2 + 1) [C.i .i64 x.seq] (ZV l) = ZV (l.set k x) := by
 rw [ZV, ZV]
 refine Wo (F := LU.cells) (z := 2) (fun _ => rfl) h (by simp) ?_
 simp [QP, LU.cells, hx]
theorem Nh {l : List LU} {k : Nat} (h : k ≤ l.length) (x y : LU) : (l.take k ++ x :: l.drop k).set k y = l.take k ++ y :: l.drop k := by
 have : (l.take k).length = k := by rw [List.length_take]; omega
 rw [List.set_append_right _ _ (by omega), this, Nat.sub_self, List.set_cons_zero]
theorem ins_at {l : List LU} {k : Nat} (h : k ≤ l.length) (x : LU) (hk : k < (l.take k ++ x :: l.drop k).length) : (l.take k ++ x :: l.drop k)[k] = x := by
 have : (l.take k).length = k := by rw [List.length_take]; omega
 rw [List.getElem_append_right (by omega)]
 simp [this]
end Go.X
namespace Go.Proofs
open Go Go.X Tryz
set_option maxRecDepth 100000
set_option maxHeartbeats 4000000
theorem S8 (x : PP) (ad : Nat) (c : CHM) : FnS prog 216 [.agg x.cells, .c (.p 1000 ad 0)] [.box 1000 ad 64 c.cells] []
  (fun v L D => v = .c (.b (decide (x.id = c.n))) ∧ L = [.box 1000 ad 64 c.cells] ∧ D = []) := by
 unfold PP.cells
 refine FJ 7000 func216 ntmps216 (fun G => ?_)
 repeat' first | refine Wk ?_ | refine Qa.mk (fun h => ?_) (fun h => ?_) | refine Qd.mk (fun ad => ?_) | fail | (rw [decide_eq_true (by omega)]; refine Qe.mk [_] [] ⟨rfl, rfl, rfl⟩ Qb.a) | (rw [decide_eq_false (by omega)]; refine Qe.mk [_] [] ⟨rfl, rfl, rfl⟩ Qb.a)
theorem Nr (ad : Nat) (s : STM) (sq : Int) (c : CHM) (hl : s.props.length ≤ 1000) (hp : s.props.Pairwise fun a b => a.id < b.id) : FnS prog 172 [.c (.p 2 ad 0), .agg c.cells] (WN 2 ad s sq) [] (vu ad sq (WA s.pl c.pl)) := by
 have ci := fun a0 => Hp s.qa s.qc s.props 216 1000 a0 0 [.box 1000 a0 64 c.cells] (fun p => decide (p.id = c.n)) hl (fun g _ => S8 g a0 c)
 rcases JV (fun p : PP => decide (p.id = c.n)) s.props with ⟨h1, _⟩ | ⟨i, hi, h1, h3⟩
 ·have e : WA s.pl c.pl = (s.pl, 4) := Tz (by show Q2 (fun p : PP => decide (p.id = c.n)) s.props < 0; omega)
  rw [e]
  rw [h1] at ci
  have hw : FnS prog 172 [.c (.p 2 ad 0), .agg c.cells] [ZZ 2 ad s sq, Ya s] [] (fun v L D => v = .c (.i .i64 4) ∧ L = [ZZ 2 ad s sq, Ya s] ∧ D = []) := by
   delta ZZ Ya QC
   refine FJ 1000 func172 ntmps172 (fun G => ?_)
   repeat' first | refine Wk ?_ | refine Qa.mk (fun h => ?_) (fun h => ?_) | refine Qd.mk (fun ad => ?_) | (refine Qc.keep [_, _] [_] [] _ (ci _) (List.perm_append_comm (l₁ := [_, _]) (l₂ := [_])) QX (fun v L' D' hq => ?_); obtain ⟨rfl, rfl, rfl⟩ := hq; refine ⟨rfl, ?_⟩) | refine Qe.mk [_, _] [] ⟨rfl, rfl, rfl⟩ Qb.a
  refine hw.lift ([X2 s, Wh s, VI s, zk s] ++ (Zt s.pages ++ Zt s.gone)) (List.Perm.cons _ (List.perm_middle (l₁ := [X2 s, Wh s]))) (fun _ h => h) fun v L1 D1 ⟨h1, h2, h3⟩ => ?_
  subst h1 h2 h3
  exact ⟨_, _, Qb.perm (List.Perm.cons _ (List.perm_middle (l₁ := [X2 s, Wh s])).symm), s, rfl, rfl, rfl, rfl⟩
 ·have e : WA s.pl c.pl = ({ s.pl with props := s.props.eraseIdx i }, 0) := Tx (s := s.pl) (c := c.pl) hp hi (of_decide_eq_true h3)
  rw [e]
  rw [h1] at ci
  have cd := Rm s.qa s.qc s.props i hi hl
  have hw : ∀ P : List PP, P = s.props.eraseIdx i → FnS prog 172 [.c (.p 2 ad 0), .agg c.cells] [ZZ 2 ad s sq, Ya s] [] (fun v L D => v = .c (.i .i64 0) ∧ L = [ZZ 2 ad { s with props := P } sq, Ya { s with props := P }] ∧ D = []) := by
   intro P hP
   rw [← hP] at cd
   clear hP
   delta ZZ Ya QC
   refine FJ 1000 func172 ntmps172 (fun G => ?_)
   repeat' first | refine Wk ?_ | refine Qa.mk (fun h => ?_) (fun h => ?_) | refine Qd.mk (fun ad => ?_) | (refine Qc.keep [_, _] [_] [] _ (ci _) (List.perm_append_comm (l₁ := [_, _]) (l₂ := [_])) QX (fun v L' D' hq => ?_); obtain ⟨rfl, rfl, rfl⟩ := hq; refine ⟨rfl, ?_⟩) | (refine Qc.mkO [_] [_, _] [] [] _ cd (Qb.back [_, _] [_]) QX (fun v L' D' hq => ?_); obtain ⟨rfl, rfl, rfl⟩ := hq; refine ⟨_, _, Qb.back [_] [_, _], ?_⟩) | refine Qe.mk [_, _] [] ⟨rfl, rfl, rfl⟩ Qb.a
  refine (hw _ rfl).lift ([X2 s, Wh s, VI s, zk s] ++ (Zt s.pages ++ Zt s.gone)) (List.Perm.cons _ (List.perm_middle (l₁ := [X2 s, Wh s]))) (fun _ h => h) fun v L1 D1 ⟨h1, h2, h3⟩ => ?_
  subst h1 h2 h3
  exact ⟨_, _, Qb.perm (List.Perm.cons _ (List.perm_middle (l₁ := [X2 s, Wh s])).symm), { s with props := _ }, rfl, rfl, rfl, rfl⟩
theorem Rf (ad : Nat) (s : STM) (sq : Int) (c : CHM) (hk : c.kind = 7 ∨ c.kind = 8) (hl : s.watches.length ≤ 100) (ha : s.watches.Pairwise fun a b => cfW a b < 0) : FnS prog 173 [.c (.p 2 ad 0), .agg c.cells] (WN 2 ad s sq) [] (vu ad sq (Xm s.pl c.pl)) := by
 have cb := Nt s.wa s.wc s.watches ⟨c.user, c.sp, c.nm⟩ (by omega) (L5 ha _)
 have hki := yk (fun x => cfW x ⟨c.user, c.sp, c.nm⟩) s.watches
 have key : ∀ (W : List WT) (e : Int), Xm s.pl c.pl = ({ s.pl with watches := W }, e) → FnS prog 173 [.c (.p 2 ad 0), .agg c.cells] [ZZ 2 ad s sq, VI s] [] (fun v L D => ∃ a k, v = .c (.i .i64 e) ∧ L = [ZZ 2 ad { s with wa := a, wc := k, watches := W } sq, VI { s with wa := a, wc := k, watches := W }] ∧ D = []) →
   FnS prog 173 [.c (.p 2 ad 0), .agg c.cells] (WN 2 ad s sq) [] (vu ad sq (Xm s.pl c.pl)) := fun W e he hw => by
  rw [he]
  refine hw.lift ([X2 s, Wh s, Ya s, zk s] ++ (Zt s.pages ++ Zt s.gone)) (List.Perm.cons _ (List.perm_middle (l₁ := [X2 s, Wh s, Ya s]))) (fun _ h => h) fun v L1 D1 ⟨a, k, h1, h2, h3⟩ => ?_
  subst h1 h2 h3
  exact ⟨_, _, Qb.perm (List.Perm.cons _ (List.perm_middle (l₁ := [X2 s, Wh s, Ya s])).symm), { s with wa := a, wc := k, watches := W }, rfl, rfl, rfl, rfl⟩
 cases hh : ZJ (fun x => cfW x ⟨c.user, c.sp, c.nm⟩) s.watches with
 | true =>
  have hlt := Yf hh
  rw [hh] at cb
  rcases hk with h7 | h8
  ·refine key s.watches 5 (Tc (s := s.pl) (c := c.pl) (by show ¬ c.kind = 8; omega) hh) ?_
   generalize kG (fun x => cfW x ⟨c.user, c.sp, c.nm⟩) s.watches = k at *
   delta ZZ VI QC
   unfold WT.cells at cb
   refine FJ 1000 func173 ntmps173 (fun G => ?_)
   repeat' first | refine Wk ?_ | refine Qa.mk (fun h => ?_) (fun h => ?_) | refine Qd.mk (fun ad => ?_) | refine Ds (id := 2) [0,1,3,7,15,0,63,127,255,255,511,2047] [0,1,2,3,4,5,6,7,8,9,10,11] [6] [0,5] true ?_ | refine Dz (id := 12) [0,0,2,6,14,30,0,0,128,510,1023,2047,4095,8191] [0,1,2,3,4,5,6,7,8,9,10,11,12,13] [8,9,13] [0,5] 13 false ?_ | refine Qt.mk Qb.a ?_ | (refine Qc.keep [_] [_, _, _] [] _ cb (List.perm_append_comm (l₁ := [_, _, _]) (l₂ := [_])) QX (fun v L' D' hq => ?_); obtain ⟨rfl, rfl, rfl⟩ := hq; refine ⟨rfl, ?_⟩) | refine Qe.mk [_, _] [] ⟨s.wa, s.wc, rfl, rfl, rfl⟩ Qb.a
  ·refine key _ 0 (Td (s := s.pl) (c := c.pl) h8 hh) ?_
   have cd := Rl s.wa s.wc s.watches _ hlt (by omega)
   change FnS _ _ _ _ _ (fun v L D => ∃ a k, v = .c (.i .i64 0) ∧ L = [ZZ 2 ad { s with wa := a, wc := k, watches := s.watches.eraseIdx (kG (fun x => cfW x ⟨c.user, c.sp, c.nm⟩) s.watches) } sq, VI { s with wa := a, wc := k, watches := s.watches.eraseIdx (kG (fun x => cfW x ⟨c.user, c.sp, c.nm⟩) s.watches) }] ∧ D = [])
   generalize s.watches.eraseIdx (kG (fun x => cfW x ⟨c.user, c.sp, c.nm⟩) s.watches) = P at *
   generalize kG (fun x => cfW x ⟨c.user, c.sp, c.nm⟩) s.watches = k at *
   delta ZZ VI QC
   unfold WT.cells at cb
   refine FJ 1000 func173 ntmps173 (fun G => ?_)
   repeat' first | refine Wk ?_ | refine Qa.mk (fun h => ?_) (fun h => ?_) | refine Qd.mk (fun ad => ?_) | refine Ds (id := 2) [0,1,3,7,15,0,63,127,255,255,511,2047] [0,1,2,3,4,5,6,7,8,9,10,11] [6] [0,5] true ?_ | refine Dz (id := 12) [0,0,2,6,14,30,0,0,128,510,1023,2047,4095,8191] [0,1,2,3,4,5,6,7,8,9,10,11,12,13] [8,9,13] [0,5] 13 false ?_ | refine Qt.mk Qb.a ?_ | (refine Qc.keep [_] [_, _, _] [] _ cb (List.perm_append_comm (l₁ := [_, _, _]) (l₂ := [_])) QX (fun v L' D' hq => ?_); obtain ⟨rfl, rfl, rfl⟩ := hq; refine ⟨rfl, ?_⟩) | (refine Qc.mkO [_] [_, _, _] [] [] _ cd (Qb.back [_, _, _] [_]) QX (fun v L' D' hq => ?_); obtain ⟨rfl, rfl, rfl⟩ := hq; refine ⟨_, _, Qb.back [_] [_, _, _], ?_⟩) | refine Qe.mk [_, _] [] ⟨s.wa, s.wc, rfl, rfl, rfl⟩ Qb.a
 | false =>
  rw [hh] at cb
  rcases hk with h7 | h8
  ·by_cases hf : 100 ≤ (s.watches.length : Int)
   ·refine key s.watches 8 (Gx (s := s.pl) (c := c.pl) (by show ¬ c.kind = 8; omega) hh hf) ?_
    generalize kG (fun x => cfW x ⟨c.user, c.sp, c.nm⟩) s.watches = k at *
    delta ZZ VI QC
    unfold WT.cells at cb
    refine FJ 1000 func173 ntmps173 (fun G => ?_)
    repeat' first | refine Wk ?_ | refine Qa.mk (fun h => ?_) (fun h => ?_) | refine Qd.mk (fun ad => ?_) | refine Ds (id := 2) [0,1,3,7,15,0,63,127,255,255,511,2047] [0,1,2,3,4,5,6,7,8,9,10,11] [6] [0,5] true ?_ | refine Dz (id := 12) [0,0,2,6,14,30,0,0,128,510,1023,2047,4095,8191] [0,1,2,3,4,5,6,7,8,9,10,11,12,13] [8,9,13] [0,5] 13 false ?_ | refine Qt.mk Qb.a ?_ | (refine Qc.keep [_] [_, _, _] [] _ cb (List.perm_append_comm (l₁ := [_, _, _]) (l₂ := [_])) QX (fun v L' D' hq => ?_); obtain ⟨rfl, rfl, rfl⟩ := hq; refine ⟨rfl, ?_⟩) | refine Qe.mk [_, _] [] ⟨s.wa, s.wc, rfl, rfl, rfl⟩ Qb.a
   ·refine key _ 0 (Tf (s := s.pl) (c := c.pl) (by show ¬ c.kind = 8; omega) hh hf) ?_
    have ci := fun va vc => SR s.wa s.wc s.watches _ ⟨c.user, c.sp, c.nm⟩ va vc hki (by omega)
    have hln : (s.watches.take (kG (fun x => cfW x ⟨c.user, c.sp, c.nm⟩) s.watches) ++ (⟨c.user, c.sp, c.nm⟩ : WT) :: s.watches.drop (kG (fun x => cfW x ⟨c.user, c.sp, c.nm⟩) s.watches)).length = s.watches.length + 1 := by simp; omega
    change FnS _ _ _ _ _ (fun v L D => ∃ a k, v = .c (.i .i64 0) ∧ L = [ZZ 2 ad { s with wa := a, wc := k, watches := s.watches.take (kG (fun x => cfW x ⟨c.user, c.sp, c.nm⟩) s.watches) ++ (⟨c.user, c.sp, c.nm⟩ : WT) :: s.watches.drop (kG (fun x => cfW x ⟨c.user, c.sp, c.nm⟩) s.watches) } sq, VI { s with wa := a, wc := k, watches := s.watches.take (kG (fun x => cfW x ⟨c.user, c.sp, c.nm⟩) s.watches) ++ (⟨c.user, c.sp, c.nm⟩ : WT) :: s.watches.drop (kG (fun x => cfW x ⟨c.user, c.sp, c.nm⟩) s.watches) }] ∧ D = [])
    rw [← hln] at ci
    generalize s.watches.take (kG (fun x => cfW x ⟨c.user, c.sp, c.nm⟩) s.watches) ++ (⟨c.user, c.sp, c.nm⟩ : WT) :: s.watches.drop (kG (fun x => cfW x ⟨c.user, c.sp, c.nm⟩) s.watches) = P at *
    generalize kG (fun x => cfW x ⟨c.user, c.sp, c.nm⟩) s.watches = k at *
    delta ZZ VI QC
    unfold WT.cells at cb ci
    refine FJ 1000 func173 ntmps173 (fun G => ?_)
    repeat' first | refine Wk ?_ | refine Qa.mk (fun h => ?_) (fun h => ?_) | refine Qd.mk (fun ad => ?_) | refine Ds (id := 2) [0,1,3,7,15,0,63,127,255,255,511,2047] [0,1,2,3,4,5,6,7,8,9,10,11] [6] [0,5] true ?_ | refine Dz (id := 12) [0,0,2,6,14,30,0,0,128,510,1023,2047,4095,8191] [0,1,2,3,4,5,6,7,8,9,10,11,12,13] [8,9,13] [0,5] 13 false ?_ | refine Qt.mk Qb.a ?_ | (refine Qc.keep [_] [_, _, _] [] _ cb (List.perm_append_comm (l₁ := [_, _, _]) (l₂ := [_])) QX (fun v L' D' hq => ?_); obtain ⟨rfl, rfl, rfl⟩ := hq; refine ⟨rfl, ?_⟩) | (refine Qc.mkO [_, _] [_, _, _] [] [] _ (ci _ _) (Qb.back [_, _, _, _] [_]) QX (fun v L' D' hq => ?_); obtain ⟨a', c', rfl, rfl, rfl⟩ := hq; refine ⟨_, _, Qb.back [_] [_, _, _], ?_⟩) | refine Qe.mk [_, _] [] ⟨a', c', rfl, rfl, rfl⟩ Qb.a
  ·refine key s.watches 4 (Gw (s := s.pl) (c := c.pl) h8 hh) ?_
   generalize kG (fun x => cfW x ⟨c.user, c.sp, c.nm⟩) s.watches = k at *
   delta ZZ VI QC
   unfold WT.cells at cb
   refine FJ 1000 func173 ntmps173 (fun G => ?_)
   repeat' first | refine Wk ?_ | refine Qa.mk (fun h => ?_) (fun h => ?_) | refine Qd.mk (fun ad => ?_) | refine Ds (id := 2) [0,1,3,7,15,0,63,127,255,255,511,2047] [0,1,2,3,4,5,6,7,8,9,10,11] [6] [0,5] true ?_ | refine Dz (id := 12) [0,0,2,6,14,30,0,0,128,510,1023,2047,4095,8191] [0,1,2,3,4,5,6,7,8,9,10,11,12,13] [8,9,13] [0,5] 13 false ?_ | refine Qt.mk Qb.a ?_ | (refine Qc.keep [_] [_, _, _] [] _ cb (List.perm_append_comm (l₁ := [_, _, _]) (l₂ := [_])) QX (fun v L' D' hq => ?_); obtain ⟨rfl, rfl, rfl⟩ := hq; refine ⟨rfl, ?_⟩) | refine Qe.mk [_, _] [] ⟨s.wa, s.wc, rfl, rfl, rfl⟩ Qb.a
end Go.Proofs
namespace Go.X
open Go Go.Lib
theorem Qb.unpick (l1 : List Chunk) {x : Chunk} {l2 : List Chunk} {D : List Fact} : Qb (x :: (l1 ++ l2)) D (l1 ++ x :: l2) D := Qb.perm List.perm_middle.symm
theorem Sk {x : Chunk} {H H' G G' : List Chunk} (h : H'.Perm (x :: H)) (g : G.Perm (x :: G')) : (H ++ G).Perm (H' ++ G') :=
 (List.Perm.append_left H g).trans (List.perm_middle.trans (List.Perm.append_right G' h.symm))
end Go.X
namespace Go.Proofs
open Go Go.X Tryz
set_option maxRecDepth 100000
set_option maxHeartbeats 4000000
theorem Ec (ad : Nat) (s : STM) (sq : Int) (u : Bs) (hl : s.lasts.length ≤ 60) (ha : s.lasts.Pairwise fun a b => cfL a b < 0) : FnS prog 120 [.c (.p 2 ad 0), .c (.s u)] (WN 2 ad s sq) [] (vu ad sq (Q9 s.pl u sq)) := by
 have cb := Nv s.la s.lc s.lasts u (by omega) (L6 ha u)
 have hki := yk (Xd u) s.lasts
 have key : ∀ (W : List LU) (e : Int), Q9 s.pl u sq = ({ s.pl with lasts := W }, e) → FnS prog 120 [.c (.p 2 ad 0), .c (.s u)] [ZZ 2 ad s sq, zk s] [] (fun v L D => ∃ a k, v = .c (.i .i64 e) ∧ L = [ZZ 2 ad { s with la := a, lc := k, lasts := W } sq, zk { s with la := a, lc := k, lasts := W }] ∧ D = []) →
   FnS prog 120 [.c (.p 2 ad 0), .c (.s u)] (WN 2 ad s sq) [] (vu ad sq (Q9 s.pl u sq)) := fun W e he hw => by
  rw [he]
  refine hw.lift ([X2 s, Wh s, Ya s, VI s] ++ (Zt s.pages ++ Zt s.gone)) (List.Perm.cons _ (List.perm_middle (l₁ := [X2 s, Wh s, Ya s, VI s]))) (fun _ h => h) fun v L1 D1 ⟨a, k, h1, h2, h3⟩ => ?_
  subst h1 h2 h3
  exact ⟨_, _, Qb.perm (List.Perm.cons _ (List.perm_middle (l₁ := [X2 s, Wh s, Ya s, VI s])).symm), { s with la := a, lc := k, lasts := W }, rfl, rfl, rfl, rfl⟩
 by_cases hu : u = []
 ·refine key s.lasts 0 (by unfold Q9; rw [if_pos hu]; rfl) ?_
  subst hu
  delta ZZ zk QC
  refine FJ 1000 func120 ntmps120 (fun G => ?_)
  repeat' first | refine Qa.yes rfl ?_ | refine Wk ?_ | refine Qa.mk (fun h => ?_) (fun h => ?_) | refine Qd.mk (fun ad => ?_) | refine Qe.mk [_, _] [] ⟨s.la, s.lc, rfl, rfl, rfl⟩ Qb.a
 cases hh : ZJ (Xd u) s.lasts with
 | true =>
  have hlt := Yf hh
  have heq := (KJ _ _).1 (Nj hh)
  refine key _ 0 (TQ (s := s.pl) hu hh) ?_
  change FnS _ _ _ _ _ (fun v L D => ∃ a k, v = .c (.i .i64 0) ∧ L = [ZZ 2 ad { s with la := a, lc := k, lasts := s.lasts.set (kG (Xd u) s.lasts) ⟨u, sq⟩ } sq, zk { s with la := a, lc := k, lasts := s.lasts.set (kG (Xd u) s.lasts) ⟨u, sq⟩ }] ∧ D = [])
  rw [hh] at cb
  obtain ⟨k, hkk⟩ : ∃ k, kG (Xd u) s.lasts = k := ⟨_, rfl⟩
  simp only [hkk] at hlt heq cb ⊢
  have hst := SF hlt ⟨u, sq⟩ heq.symm
  have hln : (s.lasts.set k ⟨u, sq⟩).length = s.lasts.length := List.length_set
  delta ZZ zk QC
  dsimp only
  simp only [hln]
  generalize s.lasts.set k ⟨u, sq⟩ = P at *
  refine FJ 1000 func120 ntmps120 (fun G => ?_)
  repeat' first | refine Qa.no hu ?_ | refine Wk ?_ | refine Qa.mk (fun h => ?_) (fun h => ?_) | refine Qd.mk (fun ad => ?_) | refine Dz (id := 8) [0,1,3,7,15,0,0,64,192,448,1023,2047,4095] [0,1,2,3,4,5,6,7,8,9,10,11,12] [12] [0] 12 true ?_ | refine Qt.mk Qb.a ?_ | (refine Qc.keep [_] [_] [] _ cb (List.perm_append_comm (l₁ := [_]) (l₂ := [_])) QX (fun v L' D' hq => ?_); obtain ⟨rfl, rfl, rfl⟩ := hq; refine ⟨rfl, ?_⟩) | refine Qr.mk 103 2 _ (.inl ⟨_, (by first | exact List.Mem.head _ | exact List.Mem.tail _ QT | exact List.Mem.tail _ ZR | exact List.Mem.tail _ XQ | exact List.Mem.tail _ X8)⟩) (by omega) (by omega) ?_ | refine Zv.mk 103 2 s.lasts.length _ (.inl ⟨_, (by first | exact List.Mem.head _ | exact List.Mem.tail _ QT | exact List.Mem.tail _ ZR | exact List.Mem.tail _ XQ | exact List.Mem.tail _ X8)⟩) (by omega) ?_ | refine Xp.mk [_] _ _ _ _ _ _ rfl (by omega) (by omega) (Nat.le_of_ble_eq_true rfl) (by exact hst) ?_ | refine Qe.mk [_, _] [] ⟨s.la, s.lc, rfl, rfl, rfl⟩ Qb.a
 | false =>
  rw [hh] at cb
  by_cases hf : 60 ≤ (s.lasts.length : Int)
  ·refine key s.lasts 8 (Hd (s := s.pl) hu hh hf) ?_
   generalize kG (Xd u) s.lasts = k at *
   delta ZZ zk QC
   refine FJ 1000 func120 ntmps120 (fun G => ?_)
   repeat' first | refine Qa.no hu ?_ | refine Wk ?_ | refine Qa.mk (fun h => ?_) (fun h => ?_) | refine Qd.mk (fun ad => ?_) | refine Dz (id := 8) [0,1,3,7,15,0,0,64,192,448,1023,2047,4095] [0,1,2,3,4,5,6,7,8,9,10,11,12] [12] [0] 12 true ?_ | refine Qt.mk Qb.a ?_ | (refine Qc.keep [_] [_] [] _ cb (List.perm_append_comm (l₁ := [_]) (l₂ := [_])) QX (fun v L' D' hq => ?_); obtain ⟨rfl, rfl, rfl⟩ := hq; refine ⟨rfl, ?_⟩) | refine Qe.mk [_, _] [] ⟨s.la, s.lc, rfl, rfl, rfl⟩ Qb.a
  ·refine key _ 0 (TR (s := s.pl) hu hh hf) ?_
   change FnS _ _ _ _ _ (fun v L D => ∃ a k, v = .c (.i .i64 0) ∧ L = [ZZ 2 ad { s with la := a, lc := k, lasts := s.lasts.take (kG (Xd u) s.lasts) ++ (⟨u, sq⟩ : LU) :: s.lasts.drop (kG (Xd u) s.lasts) } sq, zk { s with la := a, lc := k, lasts := s.lasts.take (kG (Xd u) s.lasts) ++ (⟨u, sq⟩ : LU) :: s.lasts.drop (kG (Xd u) s.lasts) }] ∧ D = [])
   generalize kG (Xd u) s.lasts = k at *
   have ci := fun va vc => SV s.la s.lc s.lasts k ⟨u, 0⟩ va vc hki (by omega)
   have hln : (s.lasts.take k ++ (⟨u, sq⟩ : LU) :: s.lasts.drop k).length = s.lasts.length + 1 := by simp; omega
   have hln0 : (s.lasts.take k ++ (⟨u, 0⟩ : LU) :: s.lasts.drop k).length = s.lasts.length + 1 := by simp; omega
   have hst := SF (l := s.lasts.take k ++ (⟨u, 0⟩ : LU) :: s.lasts.drop k) (k := k) (by omega) ⟨u, sq⟩ (by rw [ins_at hki])
   rw [Nh hki] at hst
   delta ZZ zk QC
   dsimp only
   simp only [hln]
   generalize s.lasts.take k ++ (⟨u, sq⟩ : LU) :: s.lasts.drop k = P at *
   generalize s.lasts.take k ++ (⟨u, 0⟩ : LU) :: s.lasts.drop k = Q at *
   unfold LU.cells at ci
   refine FJ 1000 func120 ntmps120 (fun G => ?_)
   repeat' first | refine Qa.no hu ?_ | refine Wk ?_ | refine Qa.mk (fun h => ?_) (fun h => ?_) | refine Qd.mk (fun ad => ?_) | refine Dz (id := 8) [0,1,3,7,15,0,0,64,192,448,1023,2047,4095] [0,1,2,3,4,5,6,7,8,9,10,11,12] [12] [0] 12 true ?_ | refine Qt.mk Qb.a ?_ | (refine Qc.keep [_] [_] [] _ cb (List.perm_append_comm (l₁ := [_]) (l₂ := [_])) QX (fun v L' D' hq => ?_); obtain ⟨rfl, rfl, rfl⟩ := hq; refine ⟨rfl, ?_⟩) | (refine Qc.mkO [_, _] [_] [] [] _ (ci _ _) (Qb.back [_, _] [_]) QX (fun v L' D' hq => ?_); obtain ⟨a', c', rfl, rfl, rfl⟩ := hq; refine ⟨_, _, Qb.back [_] [_], ?_⟩) | refine Qr.mk 103 2 _ (.inl ⟨_, (by first | exact List.Mem.head _ | exact List.Mem.tail _ QT | exact List.Mem.tail _ ZR | exact List.Mem.tail _ XQ | exact List.Mem.tail _ X8)⟩) (by omega) (by omega) ?_ | refine Zv.mk 103 2 (s.lasts.length + 1) _ (.inl ⟨_, (by first | exact List.Mem.head _ | exact List.Mem.tail _ QT | exact List.Mem.tail _ ZR | exact List.Mem.tail _ XQ | exact List.Mem.tail _ X8)⟩) (by omega) ?_ | refine Xp.mk [_] _ _ _ _ _ _ rfl (by omega) (by omega) (Nat.le_of_ble_eq_true rfl) (by exact hst) ?_ | refine Qe.mk [_, _] [] ⟨a', c', rfl, rfl, rfl⟩ Qb.a
theorem Oh (ad : Nat) (s : STM) (sq : Int) (c : CHM) (hs : Vs s) (ha : (s.pages.map PGM.pl).Pairwise fun a b => cfP a b < 0) : FnS prog 166 [.c (.p 2 ad 0), .agg c.cells] (WN 2 ad s sq) [] (vu ad sq (JA s.pl c.pl)) := by
 have h0 := hs.pages
 have hix := jx ha c.sp c.nm
 have cf := KG ad s sq c.sp c.nm h0 ha
 generalize hR : JA s.pl c.pl = R
 unfold JA at hR
 rw [show c.pl.sp = c.sp from rfl, show c.pl.nm = c.nm from rfl, K9, OU] at hR
 have keep : ∀ e, R = (s.pl, e) → FnS prog 166 [.c (.p 2 ad 0), .agg c.cells] [ZZ 2 ad s sq, X2 s] [] (fun v L D => v = .c (.i .i64 e) ∧ L = [ZZ 2 ad s sq, X2 s] ∧ D = []) → FnS prog 166 [.c (.p 2 ad 0), .agg c.cells] (WN 2 ad s sq) [] (vu ad sq R) := fun e he hw => by
  subst he
  exact hw.lift ([Wh s, Ya s, VI s, zk s] ++ (Zt s.pages ++ Zt s.gone)) QW (fun _ h => h) fun v L1 D1 ⟨h1, h2, h3⟩ => by
   subst h1 h2 h3
   exact ⟨_, _, Qb.of rfl, s, rfl, rfl, rfl, rfl⟩
 cases hh : ZJ (QE c.sp c.nm) s.pages with
 | false =>
  rw [hh, if_neg (by simp)] at hix
  rw [hix, if_pos (show (-1 : Int) < 0 by decide)] at hR
  rw [hh] at cf
  refine keep 4 hR.symm ?_
  generalize kG (QE c.sp c.nm) s.pages = k at *
  delta ZZ X2 QC at *
  refine FJ 1000 func166 ntmps166 (fun G => ?_)
  repeat' first | refine Wk ?_ | refine Qa.mk (fun h => ?_) (fun h => ?_) | refine Qd.mk (fun ad => ?_) | (refine Qc.keep [_, _] [_] [] _ cf (List.perm_append_comm (l₁ := [_]) (l₂ := [_, _])) QX (fun v L' D' hq => ?_); obtain ⟨rfl, rfl, rfl⟩ := hq; refine ⟨rfl, ?_⟩) | refine Qe.mk [_, _] [] ⟨rfl, rfl, rfl⟩ Qb.a
 | true =>
  have hk := Yf hh
  rw [hh, if_pos rfl] at hix
  rw [hix, if_neg (by omega), Wp hk, Int.toNat_natCast] at hR
  rw [hh] at cf
  by_cases hf : 100 ≤ (s.gone.length : Int)
  ·rw [if_pos hf] at hR
   refine keep 8 hR.symm ?_
   generalize kG (QE c.sp c.nm) s.pages = k at *
   delta ZZ X2 QC at *
   refine FJ 1000 func166 ntmps166 (fun G => ?_)
   repeat' first | refine Wk ?_ | refine Qa.mk (fun h => ?_) (fun h => ?_) | refine Qd.mk (fun ad => ?_) | (refine Qc.keep [_, _] [_] [] _ cf (List.perm_append_comm (l₁ := [_]) (l₂ := [_, _])) QX (fun v L' D' hq => ?_); obtain ⟨rfl, rfl, rfl⟩ := hq; refine ⟨rfl, ?_⟩) | refine Qe.mk [_, _] [] ⟨rfl, rfl, rfl⟩ Qb.a
  ·rw [if_neg hf] at hR
   clear keep hix
   have cd := jI s.pa s.pc s.pages _ hk (by omega)
   have cdr := fun s' (h : STM.props s' = s.props) => O8 ad s' sq c.sp c.nm (by rw [h]; exact hs.props)
   have hw : ∃ gi, FnS prog 166 [.c (.p 2 ad 0), .agg c.cells] [ZZ 2 ad s sq, X2 s, Wh s, Ya s] [] (fun v L D => ∃ a k, v = .c (.i .i64 0) ∧
     L = [ZZ 2 ad { s with pages := s.pages.eraseIdx (kG (QE c.sp c.nm) s.pages), ga := a, gc := k, gone := s.gone ++ [gi], props := Xa s.props c.sp c.nm } sq, X2 { s with pages := s.pages.eraseIdx (kG (QE c.sp c.nm) s.pages) }, Wh { s with ga := a, gc := k, gone := s.gone ++ [gi] }, Ya { s with props := Xa s.props c.sp c.nm }] ∧ D = []) ∧ gi = s.pages[kG (QE c.sp c.nm) s.pages] := by
    refine ⟨_, ?_, rfl⟩
    have hg := Z5 hk
    have hlg := hs.gone
    have hap : Qm s.gone ++ [.i .i64 s.pages[kG (QE c.sp c.nm) s.pages].sp, .s s.pages[kG (QE c.sp c.nm) s.pages].nm, .sl s.pages[kG (QE c.sp c.nm) s.pages].ha s.pages[kG (QE c.sp c.nm) s.pages].hist.length s.pages[kG (QE c.sp c.nm) s.pages].hc] = Qm (s.gone ++ [s.pages[kG (QE c.sp c.nm) s.pages]]) := by simp [Qm, PGM.cells]
    have hln : s.gone.length + 1 = (s.gone ++ [s.pages[kG (QE c.sp c.nm) s.pages]]).length := by simp
    generalize s.pages[kG (QE c.sp c.nm) s.pages] = p at *
    generalize s.gone ++ [p] = G at *
    generalize hE : s.pages.eraseIdx (kG (QE c.sp c.nm) s.pages) = E at *
    generalize kG (QE c.sp c.nm) s.pages = k at *
    have cdr := fun a' c' => cdr { s with pages := E, ga := a', gc := c', gone := G } rfl
    dsimp only at cdr
    generalize Xa s.props c.sp c.nm = Q at *
    clear hR ha hs hh hE
    delta ZZ X2 Wh Ya QC at *
    dsimp only at *
    refine FJ 1000 func166 ntmps166 (fun G => ?_)
    repeat' first | refine Wk ?_ | refine Qa.mk (fun h => ?_) (fun h => ?_) | refine Qd.mk (fun ad => ?_) | refine Dz (id := 6) [0,0,2,6,14,30,0,64,192,448,960,0,4032,8128,16320,32766,65535,131071,262143,524287] [0,1,2,3,4,5,6,7,8,9,10,11,12,13,14,15,16,17,18,19] [12,13,14,15,19] [0,37] 19 false ?_ | refine Qt.mk Qb.a ?_ | (refine Qc.keep [_, _] [_, _, _] [] _ cf (List.Perm.append_right [_, _] (List.perm_append_comm (l₁ := [_]) (l₂ := [_, _]))) QX (fun v L' D' hq => ?_); obtain ⟨rfl, rfl, rfl⟩ := hq; refine ⟨rfl, ?_⟩) | refine Qr.mk 60 3 _ (.inl ⟨_, (by first | exact List.Mem.head _ | exact List.Mem.tail _ QT | exact List.Mem.tail _ ZR | exact List.Mem.tail _ XQ | exact List.Mem.tail _ X8)⟩) (by omega) (by omega) ?_ | refine Qi.mk 60 _ _ _ (.inl ⟨_, (by first | exact List.Mem.head _ | exact List.Mem.tail _ QT | exact List.Mem.tail _ ZR | exact List.Mem.tail _ XQ | exact List.Mem.tail _ X8)⟩) (by omega) (by omega) (by first | omega | decide) (by exact hg) ?_ | (refine QK.row [_, _, _, _] _ (Qm s.gone) [.i .i64 p.sp, .s p.nm, .sl p.ha p.hist.length p.hc] 1 rfl (QJ.sl 60 60 _ _ 1 1 _ rfl rfl (.inl ⟨1, QT⟩) rfl) (by dsimp only; omega) (fun a' c' => ?_); rw [hap, hln]) | (refine Qc.mkO [_] [_, _, _, _, _] [] [] _ cd (Qb.pick [_, _, _]) QX (fun v L' D' hq => ?_); obtain ⟨rfl, rfl, rfl⟩ := hq; refine ⟨_, _, Qb.unpick [_, _, _], ?_⟩) | (refine Qc.mkO [_, _] [_, _, _, _] [] [] _ (cdr _ _) ((Qb.pick [_, _, _, _, _]).trans (Qb.pick [_, _, _])) QX (fun v L' D' hq => ?_); obtain ⟨rfl, rfl, rfl⟩ := hq; refine ⟨_, _, (Qb.back [_, _] [_, _, _, _]).trans (Qb.pick [_, _, _, _]), ?_⟩) | refine Qe.mk [_, _, _, _] [] ⟨a', c', rfl, rfl, rfl⟩ Qb.a
   obtain ⟨gi, hw, hgi⟩ := hw
   subst hgi hR
   refine hw.lift ([VI s, zk s] ++ (Zt s.pages ++ Zt s.gone)) QW (fun _ h => h) fun v L1 D1 ⟨a, k, h1, h2, h3⟩ => ?_
   subst h1 h2 h3
   refine ⟨_, _, Qb.perm (List.Perm.append_left [_, _, _, _, _, _] (LY (xS hk) (Uc s.gone _))), { s with pages := s.pages.eraseIdx (kG (QE c.sp c.nm) s.pages), ga := a, gc := k, gone := s.gone ++ [s.pages[kG (QE c.sp c.nm) s.pages]], props := Xa s.props c.sp c.nm }, rfl, rfl, rfl, ?_⟩
   dsimp only [STM.pl]
   rw [YV, List.map_append]
   rfl
end Go.Proofs
namespace Go.X
open Go Go.Lib
theorem j8 {α : Type} {p : α → Bool} : ∀ {l : List α} {i j : Nat} (_ : Jr p l = i) (hj : j < l.length), i < j → p l[j] = false
 | x :: r, i, j, h, hj, hij => by
  simp only [Jr] at h
  match j, hij with
  | j + 1, hij =>
   have hj' : j < r.length := by simpa using hj
   split at h
   ·exact j8 (l := r) (i := i - 1) (by omega) hj' (by omega)
   ·rename_i hn
    rcases JH p r with ⟨_, h2⟩ | ⟨q, _, h2, _⟩
    ·exact h2 _ (List.getElem_mem hj')
    ·omega
end Go.X
namespace Go.Proofs
open Go Go.X Tryz
set_option maxRecDepth 100000
set_option maxHeartbeats 4000000
theorem SL {f : FuncId} {args : List V} {D : List Fact} {ad : Nat} {s : STM} {sq e : Int} {R : ST × Int} (he : R = (s.pl, e)) (hw : FnS prog f args [ZZ 2 ad s sq, X2 s, Wh s] D (fun v L D => v = .c (.i .i64 e) ∧ L = [ZZ 2 ad s sq, X2 s, Wh s] ∧ D = [])) : FnS prog f args (WN 2 ad s sq) D (vu ad sq R) := by
 subst he
 exact hw.lift ([Ya s, VI s, zk s] ++ (Zt s.pages ++ Zt s.gone)) QW (fun _ h => h) fun v L1 D1 ⟨h1, h2, h3⟩ => by
  subst h1 h2 h3
  exact ⟨WN 2 ad s sq, [], Qb.facts fun _ _ => trivial, s, rfl, rfl, rfl, rfl⟩
theorem HG (pd : Nat) (s : STM) (sq : Int) (c : CHM) (hs : Vs s) (ha : (s.pages.map PGM.pl).Pairwise fun a b => cfP a b < 0) : FnS prog 167 [.c (.p 2 pd 0), .agg c.cells] (WN 2 pd s sq) [] (vu pd sq (XS s.pl c.pl)) := by
 have h0 := hs.pages
 have hlg := hs.gone
 have hix := jx ha c.sp c.nm
 have cf := KG pd s sq c.sp c.nm h0 ha
 generalize hR : XS s.pl c.pl = R
 unfold XS at hR
 rw [show c.pl.sp = c.sp from rfl, show c.pl.nm = c.nm from rfl, K9, OV, V3] at hR
 cases hh : ZJ (QE c.sp c.nm) s.pages with
 | true =>
  rw [hh, if_pos rfl] at hix
  rw [hix, if_pos (by omega)] at hR
  rw [hh] at cf
  refine SL hR.symm ?_
  generalize kG (QE c.sp c.nm) s.pages = k at *
  delta ZZ X2 Wh QC at *
  refine FJ 1000 func167 ntmps167 (fun G => ?_)
  repeat' first | refine Wk ?_ | refine Qa.mk (fun h => ?_) (fun h => ?_) | refine Qd.mk (fun ad => ?_) | (refine Qc.keep [_, _] [_, _] [] _ cf (List.Perm.append_right [_] (List.perm_append_comm (l₁ := [_]) (l₂ := [_, _]))) QX (fun v L' D' hq => ?_); obtain ⟨rfl, rfl, rfl⟩ := hq; refine ⟨rfl, ?_⟩) | refine Qe.mk [_, _, _] [] ⟨rfl, rfl, rfl⟩ Qb.a
 | false =>
  rw [hh, if_neg (by simp)] at hix
  rw [hix, if_neg (by omega)] at hR
  rw [hh] at cf
  rcases JH (X7 c.sp c.nm) s.gone with ⟨h1, hno⟩ | ⟨i, hi, h1, h3⟩
  ·rw [h1, if_pos (by decide)] at hR
   refine SL hR.symm ?_
   generalize kG (QE c.sp c.nm) s.pages = k at *
   delta ZZ X2 Wh QC at *
   refine FJ 1000 func167 ntmps167 (fun G => ?_)
   repeat' first | refine Wk ?_ | refine Qa.mk (fun h => ?_) (fun h => ?_) | refine Qd.mk (fun ad => ?_) | (refine Qc.keep [_, _] [_, _] [] _ cf (List.Perm.append_right [_] (List.perm_append_comm (l₁ := [_]) (l₂ := [_, _]))) QX (fun v L' D' hq => ?_); obtain ⟨rfl, rfl, rfl⟩ := hq; refine ⟨rfl, ?_⟩)
   refine Qn (α := Nat) (fun x => [(0, .c (.p 2 pd 0)), (3, .c (.p 1000 ad 0)), (7, .c (.i .i64 ((x : Int) - 1)))]) (fun _ => [.box 1000 ad 64 c.cells, ZZ 2 pd s sq, X2 s, Wh s]) (fun _ => []) 1001
    (fun x => x ≤ s.gone.length) (fun x => x) (Qq.mk s.gone.length (Nat.le_refl _) Qh.a (Qb.refl _ _)) (fun x hx => ?_)
   delta ZZ X2 Wh QC
   by_cases hx0 : x = 0
   ·subst hx0
    repeat' first | refine Wk ?_ | refine Qa.mk (fun h => ?_) (fun h => ?_) | refine Qd.mk (fun ad => ?_) | refine Ds (id := 5) [0,1,3,7,15,31,63,127,7,511,1023,2047,7,4103,16383,32767] [0,1,2,3,4,5,6,7,8,9,10,11,12,13,14,15] [] [0,3,32] true ?_ | refine Qt.mk Qb.a ?_ | refine Qe.mk [_, _, _] [] ⟨rfl, rfl, rfl⟩ Qb.a
   ·have hlt : x - 1 < s.gone.length := by omega
    have hg : ((Qm s.gone).drop (((x : Int) - 1).toNat * 3 + 0)).take 2 = [.i .i64 s.gone[x - 1].sp, .s s.gone[x - 1].nm] := by
     rw [show ((x : Int) - 1).toNat = x - 1 by omega]; exact XT hlt
    have hne : ¬ (s.gone[x - 1].sp = c.sp ∧ s.gone[x - 1].nm = c.nm ∧ True) := fun h => by
     have := hno _ (List.getElem_mem hlt)
     rw [show X7 c.sp c.nm s.gone[x - 1] = true from decide_eq_true ⟨h.1, h.2.1⟩] at this; cases this
    generalize s.gone[x - 1] = y at *
    repeat' first | refine Qa.no hne ?_ | refine Wk ?_ | refine Qa.mk (fun h => ?_) (fun h => ?_) | refine Qd.mk (fun ad => ?_) | refine Ds (id := 5) [0,1,3,7,15,31,63,127,7,511,1023,2047,7,4103,16383,32767] [0,1,2,3,4,5,6,7,8,9,10,11,12,13,14,15] [] [0,3,32] true ?_ | refine Qt.mk Qb.a ?_ | refine Qr.mk 60 3 _ (.inl ⟨_, (by first | exact List.Mem.head _ | exact List.Mem.tail _ QT | exact List.Mem.tail _ ZR | exact List.Mem.tail _ XQ | exact List.Mem.tail _ X8)⟩) (by omega) (by omega) ?_ | refine Zv.mk 60 3 s.gone.length _ (.inl ⟨_, (by first | exact List.Mem.head _ | exact List.Mem.tail _ QT | exact List.Mem.tail _ ZR | exact List.Mem.tail _ XQ | exact List.Mem.tail _ X8)⟩) (by omega) ?_ | refine Qi.mk 60 _ _ [.i .i64 y.sp, .s y.nm] (.inl ⟨_, (by first | exact List.Mem.head _ | exact List.Mem.tail _ QT | exact List.Mem.tail _ ZR | exact List.Mem.tail _ XQ | exact List.Mem.tail _ X8)⟩) (by omega) (by omega) (by first | omega | decide) (by exact hg) ?_ | refine Qo.mk (x - 1) (by omega) (by omega) Qh.a (Qb.refl _ _)
  ·rw [h1, if_neg (by omega), Int.toNat_natCast, US, Vk (by simpa using hi), List.getElem_map] at hR
   have hcc := of_decide_eq_true (show decide (s.gone[i].sp = c.sp ∧ s.gone[i].nm = c.nm) = true from h3)
   have hlast : ∀ j (hj : j < s.gone.length), i < j → ¬ (s.gone[j].sp = c.sp ∧ s.gone[j].nm = c.nm ∧ True) := fun j hj hij h => by
    have := j8 h1 hj hij
    rw [show X7 c.sp c.nm s.gone[j] = true from decide_eq_true ⟨h.1, h.2.1⟩] at this; cases this
   have hgi : ((Qm s.gone).drop ((((i + 1 : Nat) : Int) - 1).toNat * 3 + 0)).take 3 = [.i .i64 s.gone[i].sp, .s s.gone[i].nm, .sl s.gone[i].ha s.gone[i].hist.length s.gone[i].hc] := by
    rw [show (((i + 1 : Nat) : Int) - 1).toNat = i by omega]; exact Z5 hi
   have hgi2 : ((Qm s.gone).drop ((((i + 1 : Nat) : Int) - 1).toNat * 3 + 0)).take 2 = [.i .i64 s.gone[i].sp, .s s.gone[i].nm] := by
    rw [show (((i + 1 : Nat) : Int) - 1).toNat = i by omega]; exact XT hi
   by_cases hf : 200 ≤ s.pages.length
   ·rw [if_pos (by omega)] at hR
    have cfu := qK pd s sq
    rw [decide_eq_true (by omega)] at cfu
    refine SL hR.symm ?_
    generalize kG (QE c.sp c.nm) s.pages = k at *
    delta ZZ X2 Wh QC at *
    refine FJ 1000 func167 ntmps167 (fun G => ?_)
    repeat' first | refine Wk ?_ | refine Qa.mk (fun h => ?_) (fun h => ?_) | refine Qd.mk (fun ad => ?_) | (refine Qc.keep [_, _] [_, _] [] _ cf (List.Perm.append_right [_] (List.perm_append_comm (l₁ := [_]) (l₂ := [_, _]))) QX (fun v L' D' hq => ?_); obtain ⟨rfl, rfl, rfl⟩ := hq; refine ⟨rfl, ?_⟩)
    refine Qn (α := Nat) (fun x => [(0, .c (.p 2 pd 0)), (3, .c (.p 1000 ad 0)), (7, .c (.i .i64 ((x : Int) - 1)))]) (fun _ => [.box 1000 ad 64 c.cells, ZZ 2 pd s sq, X2 s, Wh s]) (fun _ => []) 1001
     (fun x => x ≤ s.gone.length ∧ i < x) (fun x => x) (Qq.mk s.gone.length ⟨Nat.le_refl _, hi⟩ Qh.a (Qb.refl _ _)) (fun x hx => ?_)
    delta ZZ X2 Wh QC
    obtain ⟨hx, hix2⟩ := hx
    by_cases hxi : x = i + 1
    ·subst hxi
     have hg := hgi2
     generalize s.gone[i] = y at *
     repeat' first | refine Qa.yes ⟨hcc.1, hcc.2, trivial⟩ ?_ | refine Wk ?_ | refine Qa.mk (fun h => ?_) (fun h => ?_) | refine Qd.mk (fun ad => ?_) | refine Ds (id := 5) [0,1,3,7,15,31,63,127,7,511,1023,2047,7,4103,16383,32767] [0,1,2,3,4,5,6,7,8,9,10,11,12,13,14,15] [] [0,3,32] true ?_ | refine Qt.mk Qb.a ?_ | refine Qr.mk 60 3 _ (.inl ⟨_, (by first | exact List.Mem.head _ | exact List.Mem.tail _ QT | exact List.Mem.tail _ ZR | exact List.Mem.tail _ XQ | exact List.Mem.tail _ X8)⟩) (by omega) (by omega) ?_ | refine Zv.mk 60 3 s.gone.length _ (.inl ⟨_, (by first | exact List.Mem.head _ | exact List.Mem.tail _ QT | exact List.Mem.tail _ ZR | exact List.Mem.tail _ XQ | exact List.Mem.tail _ X8)⟩) (by omega) ?_ | refine Qi.mk 60 _ _ [.i .i64 y.sp, .s y.nm] (.inl ⟨_, (by first | exact List.Mem.head _ | exact List.Mem.tail _ QT | exact List.Mem.tail _ ZR | exact List.Mem.tail _ XQ | exact List.Mem.tail _ X8)⟩) (by omega) (by omega) (by first | omega | decide) (by exact hg) ?_ | (refine Qc.keep [_] [_, _, _] [] _ cfu (List.perm_middle (l₁ := [_])) QX (fun v L' D' hq => ?_); obtain ⟨rfl, rfl, rfl⟩ := hq; refine ⟨rfl, ?_⟩) | refine Qe.mk [_, _, _] [] ⟨rfl, rfl, rfl⟩ Qb.a
    ·have hlt : x - 1 < s.gone.length := by omega
     have hg : ((Qm s.gone).drop (((x : Int) - 1).toNat * 3 + 0)).take 2 = [.i .i64 s.gone[x - 1].sp, .s s.gone[x - 1].nm] := by
      rw [show ((x : Int) - 1).toNat = x - 1 by omega]; exact XT hlt
     have hne := hlast (x - 1) hlt (by omega)
     generalize s.gone[x - 1] = y at *
     repeat' first | refine Qa.no hne ?_ | refine Wk ?_ | refine Qa.mk (fun h => ?_) (fun h => ?_) | refine Qd.mk (fun ad => ?_) | refine Ds (id := 5) [0,1,3,7,15,31,63,127,7,511,1023,2047,7,4103,16383,32767] [0,1,2,3,4,5,6,7,8,9,10,11,12,13,14,15] [] [0,3,32] true ?_ | refine Qt.mk Qb.a ?_ | refine Qr.mk 60 3 _ (.inl ⟨_, (by first | exact List.Mem.head _ | exact List.Mem.tail _ QT | exact List.Mem.tail _ ZR | exact List.Mem.tail _ XQ | exact List.Mem.tail _ X8)⟩) (by omega) (by omega) ?_ | refine Zv.mk 60 3 s.gone.length _ (.inl ⟨_, (by first | exact List.Mem.head _ | exact List.Mem.tail _ QT | exact List.Mem.tail _ ZR | exact List.Mem.tail _ XQ | exact List.Mem.tail _ X8)⟩) (by omega) ?_ | refine Qi.mk 60 _ _ [.i .i64 y.sp, .s y.nm] (.inl ⟨_, (by first | exact List.Mem.head _ | exact List.Mem.tail _ QT | exact List.Mem.tail _ ZR | exact List.Mem.tail _ XQ | exact List.Mem.tail _ X8)⟩) (by omega) (by omega) (by first | omega | decide) (by exact hg) ?_ | refine Qo.mk (x - 1) (by omega) (by omega) Qh.a (Qb.refl _ _)
   ·rw [if_neg (by omega)] at hR
    have cfu := qK pd s sq
    rw [decide_eq_false (by omega)] at cfu
    have ca := yO pd s sq s.gone[i] h0 ha
    have cd := jI s.ga s.gc s.gone i hi hlg
    rw [show ((i : Nat) : Int) = ((i + 1 : Nat) : Int) - 1 by omega] at cd
    have hw : ∃ y, FnS prog 167 [.c (.p 2 pd 0), .agg c.cells] [ZZ 2 pd s sq, X2 s, Wh s] [] (fun v L D => ∃ a k, v = .c (.i .i64 0) ∧
      L = [ZZ 2 pd { s with pa := a, pc := k, pages := Xn s.pages y, gone := s.gone.eraseIdx i } sq, X2 { s with pa := a, pc := k, pages := Xn s.pages y }, Wh { s with gone := s.gone.eraseIdx i }] ∧ D = []) ∧ y = s.gone[i] := by
     refine ⟨_, ?_, rfl⟩
     generalize hE : s.gone.eraseIdx i = E at *
     obtain ⟨W, hW⟩ : ∃ W, Xn s.pages s.gone[i] = W := ⟨_, rfl⟩
     rw [hW] at ca
     simp only [hW]
     generalize kG (QE c.sp c.nm) s.pages = k at *
     delta ZZ X2 Wh QC at *
     dsimp only at *
     refine FJ 1000 func167 ntmps167 (fun G => ?_)
     repeat' first | refine Wk ?_ | refine Qa.mk (fun h => ?_) (fun h => ?_) | refine Qd.mk (fun ad => ?_) | (refine Qc.keep [_, _] [_, _] [] _ cf (List.Perm.append_right [_] (List.perm_append_comm (l₁ := [_]) (l₂ := [_, _]))) QX (fun v L' D' hq => ?_); obtain ⟨rfl, rfl, rfl⟩ := hq; refine ⟨rfl, ?_⟩)
     refine Qn (α := Nat) (fun x => [(0, .c (.p 2 pd 0)), (3, .c (.p 1000 ad 0)), (7, .c (.i .i64 ((x : Int) - 1)))]) (fun _ => [.box 1000 ad 64 c.cells, ZZ 2 pd s sq, X2 s, Wh s]) (fun _ => []) 1001
      (fun x => x ≤ s.gone.length ∧ i < x) (fun x => x) (Qq.mk s.gone.length ⟨Nat.le_refl _, hi⟩ Qh.a (Qb.refl _ _)) (fun x hx => ?_)
     delta ZZ X2 Wh QC
     obtain ⟨hx, hix2⟩ := hx
     by_cases hxi : x = i + 1
     ·subst hxi
      have hg := hgi2
      clear hlast hR hW hE
      generalize s.gone[i] = y at *
      repeat' first | refine Qa.yes ⟨hcc.1, hcc.2, trivial⟩ ?_ | refine Wk ?_ | refine Qa.mk (fun h => ?_) (fun h => ?_) | refine Qd.mk (fun ad => ?_) | refine Ds (id := 5) [0,1,3,7,15,31,63,127,7,511,1023,2047,7,4103,16383,32767] [0,1,2,3,4,5,6,7,8,9,10,11,12,13,14,15] [] [0,3,32] true ?_ | refine Qt.mk Qb.a ?_ | refine Qr.mk 60 3 _ (.inl ⟨_, (by first | exact List.Mem.head _ | exact List.Mem.tail _ QT | exact List.Mem.tail _ ZR | exact List.Mem.tail _ XQ | exact List.Mem.tail _ X8)⟩) (by omega) (by omega) ?_ | refine Zv.mk 60 3 s.gone.length _ (.inl ⟨_, (by first | exact List.Mem.head _ | exact List.Mem.tail _ QT | exact List.Mem.tail _ ZR | exact List.Mem.tail _ XQ | exact List.Mem.tail _ X8)⟩) (by omega) ?_ | refine Qi.mk 60 _ _ [.i .i64 y.sp, .s y.nm] (.inl ⟨_, (by first | exact List.Mem.head _ | exact List.Mem.tail _ QT | exact List.Mem.tail _ ZR | exact List.Mem.tail _ XQ | exact List.Mem.tail _ X8)⟩) (by omega) (by omega) (by first | omega | decide) (by exact hg) ?_ | refine Qi.mk 60 _ _ _ (.inl ⟨_, (by first | exact List.Mem.head _ | exact List.Mem.tail _ QT | exact List.Mem.tail _ ZR | exact List.Mem.tail _ XQ | exact List.Mem.tail _ X8)⟩) (by omega) (by omega) (by first | omega | decide) (by exact hgi) ?_ | (refine Qc.keep [_] [_, _, _] [] _ cfu (List.perm_middle (l₁ := [_])) QX (fun v L' D' hq => ?_); obtain ⟨rfl, rfl, rfl⟩ := hq; refine ⟨rfl, ?_⟩) | (refine Qc.mkO [_, _] [_, _] [] [] _ ca ((Qb.pick [_, _]).trans (Qb.pick [_, _])) QX (fun v L' D' hq => ?_); obtain ⟨a', c', rfl, rfl, rfl⟩ := hq; refine ⟨_, _, Qb.refl _ _, ?_⟩) | (refine Qc.mkO [_] [_, _, _] [] [] _ cd (Qb.pick [_, _, _]) QX (fun v L' D' hq => ?_); obtain ⟨rfl, rfl, rfl⟩ := hq; refine ⟨_, _, Qb.unpick [_, _], ?_⟩) | refine Qe.mk [_, _, _] [] ⟨a', c', rfl, rfl, rfl⟩ Qb.a
     ·have hlt : x - 1 < s.gone.length := by omega
      have hg : ((Qm s.gone).drop (((x : Int) - 1).toNat * 3 + 0)).take 2 = [.i .i64 s.gone[x - 1].sp, .s s.gone[x - 1].nm] := by
       rw [show ((x : Int) - 1).toNat = x - 1 by omega]; exact XT hlt
      have hne := hlast (x - 1) hlt (by omega)
      generalize s.gone[x - 1] = y at *
      repeat' first | refine Qa.no hne ?_ | refine Wk ?_ | refine Qa.mk (fun h => ?_) (fun h => ?_) | refine Qd.mk (fun ad => ?_) | refine Ds (id := 5) [0,1,3,7,15,31,63,127,7,511,1023,2047,7,4103,16383,32767] [0,1,2,3,4,5,6,7,8,9,10,11,12,13,14,15] [] [0,3,32] true ?_ | refine Qt.mk Qb.a ?_ | refine Qr.mk 60 3 _ (.inl ⟨_, (by first | exact List.Mem.head _ | exact List.Mem.tail _ QT | exact List.Mem.tail _ ZR | exact List.Mem.tail _ XQ | exact List.Mem.tail _ X8)⟩) (by omega) (by omega) ?_ | refine Zv.mk 60 3 s.gone.length _ (.inl ⟨_, (by first | exact List.Mem.head _ | exact List.Mem.tail _ QT | exact List.Mem.tail _ ZR | exact List.Mem.tail _ XQ | exact List.Mem.tail _ X8)⟩) (by omega) ?_ | refine Qi.mk 60 _ _ [.i .i64 y.sp, .s y.nm] (.inl ⟨_, (by first | exact List.Mem.head _ | exact List.Mem.tail _ QT | exact List.Mem.tail _ ZR | exact List.Mem.tail _ XQ | exact List.Mem.tail _ X8)⟩) (by omega) (by omega) (by first | omega | decide) (by exact hg) ?_ | refine Qo.mk (x - 1) (by omega) (by omega) Qh.a (Qb.refl _ _)
    obtain ⟨y, hw, hy⟩ := hw
    subst hy hR
    refine hw.lift ([Ya s, VI s, zk s] ++ (Zt s.pages ++ Zt s.gone)) QW (fun _ h => h) fun v L1 D1 ⟨a, k, h1, h2, h3⟩ => ?_
    subst h1 h2 h3
    refine ⟨_, _, Qb.perm (List.Perm.append_left [_, _, _, _, _, _] (Sk (qf s.pages _) (xS hi))), { s with pa := a, pc := k, pages := Xn s.pages s.gone[i], gone := s.gone.eraseIdx i }, rfl, rfl, rfl, ?_⟩
    dsimp only [STM.pl]
    rw [YV, J9, hcc.1, hcc.2]
end Go.Proofs
namespace Go.Proofs
open Go Go.X Tryz
set_option maxRecDepth 100000
set_option maxHeartbeats 4000000
theorem vY {f : FuncId} {args : List V} {D : List Fact} {ad : Nat} {s : STM} {sq e : Int} {R : ST × Int} (he : R = (s.pl, e)) (hw : FnS prog f args [ZZ 2 ad s sq, X2 s] D (fun v L D => v = .c (.i .i64 e) ∧ L = [ZZ 2 ad s sq, X2 s] ∧ D = [])) : FnS prog f args (WN 2 ad s sq) D (vu ad sq R) := by
 subst he
 exact hw.lift ([Wh s, Ya s, VI s, zk s] ++ (Zt s.pages ++ Zt s.gone)) QW (fun _ h => h) fun v L1 D1 ⟨h1, h2, h3⟩ => by
  subst h1 h2 h3
  exact ⟨WN 2 ad s sq, [], Qb.facts fun _ _ => trivial, s, rfl, rfl, rfl, rfl⟩
theorem Rp (pd : Nat) (s : STM) (sq : Int) (c : CHM) (hs : Vs s) (ha : (s.pages.map PGM.pl).Pairwise fun a b => cfP a b < 0) (g1 : 1 ≤ c.hist.length) (g2 : c.hist.length ≤ 1000) : FnS prog 169 [.c (.p 2 pd 0), .agg c.cells] (WN 2 pd s sq) [Yy c] (vu pd sq (Vw s.pl c.pl sq)) := by
 have h0 := hs.pages
 have hix := jx ha c.sp c.nm
 have cf := KG pd s sq c.sp c.nm h0 ha
 have hg := OK (l := c.hist) (by omega)
 have hrc : ∀ L, Qp L [Yy c] 0 6 c.ha c.hist.length (Zb c.hist) := fun L => .inr fun m h => h.1
 generalize hR : Vw s.pl c.pl sq = R
 unfold Vw at hR
 rw [show c.pl.sp = c.sp from rfl, show c.pl.nm = c.nm from rfl, show c.pl.hist = c.hist from rfl, show s.pl.clk = s.clk from rfl, K9, V3] at hR
 cases hh : ZJ (QE c.sp c.nm) s.pages with
 | true =>
  rw [hh, if_pos rfl] at hix
  rw [hix, if_pos (by omega)] at hR
  rw [hh] at cf
  refine vY hR.symm ?_
  generalize kG (QE c.sp c.nm) s.pages = k at *
  delta ZZ X2 QC at *
  refine FJ 1000 func169 ntmps169 (fun G => ?_)
  repeat' first | refine Wk ?_ | refine Qa.mk (fun h => ?_) (fun h => ?_) | refine Qd.mk (fun ad => ?_) | (refine Qc.keep [_, _] [_] [] _ cf (List.perm_append_comm (l₁ := [_]) (l₂ := [_, _])) QX (fun v L' D' hq => ?_); obtain ⟨rfl, rfl, rfl⟩ := hq; refine ⟨rfl, ?_⟩) | refine Qe.mk [_, _] [] ⟨rfl, rfl, rfl⟩ Qb.a
 | false =>
  rw [hh, if_neg (by simp)] at hix
  rw [hix, if_neg (by omega)] at hR
  rw [hh] at cf
  generalize (c.hist.getLast?.getD default).min = mn at *
  by_cases hm : s.clk < mn
  ·rw [if_pos hm] at hR
   refine vY hR.symm ?_
   generalize kG (QE c.sp c.nm) s.pages = k at *
   delta ZZ X2 QC at *
   refine FJ 1000 func169 ntmps169 (fun G => ?_)
   repeat' first | refine Wk ?_ | refine Qa.mk (fun h => ?_) (fun h => ?_) | refine Qd.mk (fun ad => ?_) | (refine Qc.keep [_, _] [_] [] _ cf (List.perm_append_comm (l₁ := [_]) (l₂ := [_, _])) QX (fun v L' D' hq => ?_); obtain ⟨rfl, rfl, rfl⟩ := hq; refine ⟨rfl, ?_⟩) | refine Ds (id := 4) [0,1,0,4,12,28,63,127,255,0,512,1536,3584,7680,16383,32767] [0,1,2,3,4,5,6,7,8,9,10,11,12,13,14,15] [] [0,3,25] true ?_ | refine Qt.mk Qb.a ?_ | refine Qr.a 0 6 _ (hrc _) ?_ | refine Zv.mk 0 6 _ _ (hrc _) (by omega) ?_ | refine Qi.mk 0 _ _ [.i .i64 mn] (hrc _) (by omega) (by omega) (by first | omega | decide) (by exact hg) ?_ | refine Qe.mk [_, _] [] ⟨rfl, rfl, rfl⟩ Qb.a
  ·rw [if_neg hm] at hR
   have cfu := qK pd s sq
   by_cases hf : 200 ≤ s.pages.length
   ·rw [if_pos (by omega)] at hR
    rw [decide_eq_true (by omega)] at cfu
    refine vY hR.symm ?_
    generalize kG (QE c.sp c.nm) s.pages = k at *
    delta ZZ X2 QC at *
    refine FJ 1000 func169 ntmps169 (fun G => ?_)
    repeat' first | refine Wk ?_ | refine Qa.mk (fun h => ?_) (fun h => ?_) | refine Qd.mk (fun ad => ?_) | (refine Qc.keep [_, _] [_] [] _ cf (List.perm_append_comm (l₁ := [_]) (l₂ := [_, _])) QX (fun v L' D' hq => ?_); obtain ⟨rfl, rfl, rfl⟩ := hq; refine ⟨rfl, ?_⟩) | refine Ds (id := 4) [0,1,0,4,12,28,63,127,255,0,512,1536,3584,7680,16383,32767] [0,1,2,3,4,5,6,7,8,9,10,11,12,13,14,15] [] [0,3,25] true ?_ | refine Qt.mk Qb.a ?_ | refine Qr.a 0 6 _ (hrc _) ?_ | refine Zv.mk 0 6 _ _ (hrc _) (by omega) ?_ | refine Qi.mk 0 _ _ [.i .i64 mn] (hrc _) (by omega) (by omega) (by first | omega | decide) (by exact hg) ?_ | (refine Qc.keep [_] [_, _] [] _ cfu (List.perm_middle (l₁ := [_])) QX (fun v L' D' hq => ?_); obtain ⟨rfl, rfl, rfl⟩ := hq; refine ⟨rfl, ?_⟩) | refine Qe.mk [_, _] [] ⟨rfl, rfl, rfl⟩ Qb.a
   ·rw [if_neg (by omega)] at hR
    rw [decide_eq_false (by omega)] at cfu
    have cc := yK 0 c.ha c.hc c.hist g2
    have hcl : (Jv c.hist sq c.hist.length).length = c.hist.length := wG _ _ _
    have ca := fun a1 k1 => yO pd s sq ⟨c.sp, c.nm, a1, k1, Jv c.hist sq c.hist.length⟩ h0 ha
    have hxc : ∀ a k', (PGM.mk c.sp c.nm a k' (Jv c.hist sq c.hist.length)).cells = [.i .i64 c.sp, .s c.nm, .sl a c.hist.length k'] := fun a k' => by simp only [PGM.cells]; rw [hcl]
    simp only [hxc] at ca
    have hw : FnS prog 169 [.c (.p 2 pd 0), .agg c.cells] [ZZ 2 pd s sq, X2 s] [Yy c] (fun v L D => ∃ a k a1 k1, v = .c (.i .i64 0) ∧
      L = [ZZ 2 pd { s with pa := a, pc := k, pages := Xn s.pages ⟨c.sp, c.nm, a1, k1, Jv c.hist sq c.hist.length⟩ } sq, X2 { s with pa := a, pc := k, pages := Xn s.pages ⟨c.sp, c.nm, a1, k1, Jv c.hist sq c.hist.length⟩ }, .row 73 6 a1 c.hist.length k1 (Zb (Jv c.hist sq c.hist.length))] ∧ D = []) := by
     generalize kG (QE c.sp c.nm) s.pages = k at *
     clear hR
     delta ZZ X2 QC at *
     dsimp only at *
     refine FJ 1000 func169 ntmps169 (fun G => ?_)
     repeat' first | refine Wk ?_ | refine Qa.mk (fun h => ?_) (fun h => ?_) | refine Qd.mk (fun ad => ?_) | (refine Qc.keep [_, _] [_] [] _ cf (List.perm_append_comm (l₁ := [_]) (l₂ := [_, _])) QX (fun v L' D' hq => ?_); obtain ⟨rfl, rfl, rfl⟩ := hq; refine ⟨rfl, ?_⟩) | refine Ds (id := 4) [0,1,0,4,12,28,63,127,255,0,512,1536,3584,7680,16383,32767] [0,1,2,3,4,5,6,7,8,9,10,11,12,13,14,15] [] [0,3,25] true ?_ | refine Qt.mk Qb.a ?_ | refine Qr.a 0 6 _ (hrc _) ?_ | refine Zv.mk 0 6 _ _ (hrc _) (by omega) ?_ | refine Qi.mk 0 _ _ [.i .i64 mn] (hrc _) (by omega) (by omega) (by first | omega | decide) (by exact hg) ?_ | (refine Qc.keep [_] [_, _] [] _ cfu (List.perm_middle (l₁ := [_])) QX (fun v L' D' hq => ?_); obtain ⟨rfl, rfl, rfl⟩ := hq; refine ⟨rfl, ?_⟩) | (refine Qc.mk [] [_, _, _] [_] _ cc QW Kh (fun v L' D' hq => ?_); obtain ⟨a1, k1, rfl, rfl, rfl⟩ := hq)
     refine Qn (α := Nat) (fun i => [(0, .c (.p 2 pd 0)), (3, .c (.p 1000 ad 0)), (7, .c (.sl a1 c.hist.length k1)), (41, .c (.i .i64 c.hist.length)), (42, .c (.i .i64 i))]) (fun i => [.row 73 6 a1 c.hist.length k1 (Zb (Jv c.hist sq i)), .box 1000 ad 64 c.cells, ZZ 2 pd s sq, X2 s]) (fun _ => [Yy c]) 1001
      (fun i => i ≤ c.hist.length) (fun i => c.hist.length - i) (Qq.mk 0 (Nat.zero_le _) Qh.a Qb.a) (fun i hi => ?_)
     delta ZZ X2 QC
     by_cases hlt : i < c.hist.length
     ·have hst := GJ (sq := sq) hlt
      repeat' first | refine Wk ?_ | refine Qa.mk (fun h => ?_) (fun h => ?_) | refine Qd.mk (fun ad => ?_) | refine Ds (id := 4) [0,1,0,4,12,28,63,127,255,0,512,1536,3584,7680,16383,32767] [0,1,2,3,4,5,6,7,8,9,10,11,12,13,14,15] [] [0,3,25] true ?_ | refine Qt.mk Qb.a ?_ | refine Qr.mk 73 6 _ (.inl ⟨_, (by first | exact List.Mem.head _ | exact List.Mem.tail _ QT | exact List.Mem.tail _ ZR | exact List.Mem.tail _ XQ | exact List.Mem.tail _ X8)⟩) (by omega) (by omega) ?_ | refine Zv.mk 73 6 c.hist.length _ (.inl ⟨_, (by first | exact List.Mem.head _ | exact List.Mem.tail _ QT | exact List.Mem.tail _ ZR | exact List.Mem.tail _ XQ | exact List.Mem.tail _ X8)⟩) (by omega) ?_ | refine Xp.mk [] _ _ _ _ _ _ rfl (by omega) (by omega) (Nat.le_of_ble_eq_true rfl) (by exact hst) ?_ | refine Qo.mk (i + 1) (by omega) (by omega) Qh.a Qb.a
     ·have hil : i = c.hist.length := by omega
      subst hil
      repeat' first | refine Wk ?_ | refine Qa.mk (fun h => ?_) (fun h => ?_) | refine Qd.mk (fun ad => ?_) | (refine Qc.mkO [_, _] [_, _] [] [_] _ (ca _ _) ((Qb.pick [_, _, _]).trans (Qb.pick [_, _, _])) QX (fun v L' D' hq => ?_); obtain ⟨a', c', rfl, rfl, rfl⟩ := hq; refine ⟨_, _, Qb.refl _ _, ?_⟩) | refine Qe.mk [_, _, _] [] ⟨a', c', a1, k1, rfl, rfl, rfl⟩ (Qb.ofSub (by repeat (first | exact List.Sublist.slnil | refine List.Sublist.cons_cons _ ?_ | refine List.Sublist.cons _ ?_)) QX)
    subst hR
    refine hw.lift ([Wh s, Ya s, VI s, zk s] ++ (Zt s.pages ++ Zt s.gone)) QW (fun _ h => h) fun v L1 D1 ⟨a, k, a1, k1, h1, h2, h3⟩ => ?_
    have hrow : Chunk.row 73 6 a1 c.hist.length k1 (Zb (Jv c.hist sq c.hist.length)) = Vi ⟨c.sp, c.nm, a1, k1, Jv c.hist sq c.hist.length⟩ := by
     show _ = Chunk.row 73 6 a1 (Jv c.hist sq c.hist.length).length k1 (Zb (Jv c.hist sq c.hist.length))
     rw [hcl]
    rw [hrow] at h2
    subst h1 h2 h3
    refine ⟨_, [], (Qb.perm (List.Perm.cons _ (List.Perm.cons _ (w0 (A := [Wh s, Ya s, VI s, zk s]) (qf s.pages _))))).trans (Qb.facts fun _ _ => trivial), { s with pa := a, pc := k, pages := Xn s.pages ⟨c.sp, c.nm, a1, k1, Jv c.hist sq c.hist.length⟩ }, rfl, rfl, rfl, ?_⟩
    dsimp only [STM.pl]
    rw [J9, GK]; rfl
end Go.Proofs
namespace Go.Proofs
open Go Go.X Tryz
set_option maxRecDepth 100000
set_option maxHeartbeats 4000000
theorem Ed (pd : Nat) (s : STM) (sq : Int) (c : CHM) (hs : Vs s) (ha : (s.pages.map PGM.pl).Pairwise fun a b => cfP a b < 0) (hn : c.tnm.length ≤ 1000000) : FnS prog 168 [.c (.p 2 pd 0), .agg c.cells] (WN 2 pd s sq) [gM] (vu pd sq (VB s.pl c.pl sq)) := by
  have h0 := hs.pages
  have hix := jx ha c.sp c.nm
  have hix2 := jx ha c.tsp c.tnm
  have cf := KG pd s sq c.sp c.nm h0 ha
  have cf2 := KG pd s sq c.tsp c.tnm h0 ha
  generalize hR : VB s.pl c.pl sq = R
  unfold VB at hR
  rw [show c.pl.sp = c.sp from rfl, show c.pl.nm = c.nm from rfl, show c.pl.tsp = c.tsp from rfl, show c.pl.tnm = c.tnm from rfl, show c.pl.n = c.n from rfl, show c.pl.user = c.user from rfl, K9, K9, V3] at hR
  cases hh : ZJ (QE c.sp c.nm) s.pages with
  | false =>
    rw [hh, if_neg (by simp)] at hix
    rw [hix, if_pos (by omega)] at hR
    rw [hh] at cf
    refine vY hR.symm ?_
    generalize kG (QE c.sp c.nm) s.pages = k at *
    delta ZZ X2 QC at *
    refine FJ 1000 func168 ntmps168 (fun G => ?_)
    repeat' first | refine Wk ?_ | refine Qa.mk (fun h => ?_) (fun h => ?_) | refine Qd.mk (fun ad => ?_) | (refine Qc.keep [_, _] [_] [] _ cf (List.perm_append_comm (l₁ := [_]) (l₂ := [_, _])) QX (fun v L' D' hq => ?_); obtain ⟨rfl, rfl, rfl⟩ := hq; refine ⟨rfl, ?_⟩) | refine Qe.mk [_, _] [] ⟨rfl, rfl, rfl⟩ Qb.a
  | true =>
    have hk := Yf hh
    rw [hh, if_pos rfl] at hix
    rw [hix, if_neg (by omega), Wp hk, Int.toNat_natCast] at hR
    rw [hh] at cf
    cases hh2 : ZJ (QE c.tsp c.tnm) s.pages with
    | true =>
      rw [hh2, if_pos rfl] at hix2
      rw [hix2, if_pos (by omega)] at hR
      rw [hh2] at cf2
      refine vY hR.symm ?_
      generalize kG (QE c.sp c.nm) s.pages = k at *
      generalize kG (QE c.tsp c.tnm) s.pages = k2 at *
      delta ZZ X2 QC at *
      refine FJ 1000 func168 ntmps168 (fun G => ?_)
      repeat' first | refine Wk ?_ | refine Qa.mk (fun h => ?_) (fun h => ?_) | refine Qd.mk (fun ad => ?_) | (refine Qc.keep [_, _] [_] [] _ cf (List.perm_append_comm (l₁ := [_]) (l₂ := [_, _])) QX (fun v L' D' hq => ?_); obtain ⟨rfl, rfl, rfl⟩ := hq; refine ⟨rfl, ?_⟩) | (refine Qc.keep [_, _] [_] [] _ cf2 (List.perm_append_comm (l₁ := [_]) (l₂ := [_, _])) QX (fun v L' D' hq => ?_); obtain ⟨rfl, rfl, rfl⟩ := hq; refine ⟨rfl, ?_⟩) | refine Qe.mk [_, _] [] ⟨rfl, rfl, rfl⟩ Qb.a
    | false =>
      rw [hh2, if_neg (by simp)] at hix2
      rw [hix2, if_neg (by omega)] at hR
      rw [hh2] at cf2
      have cfu := qK pd s sq
      by_cases hf : c.n = 1 ∧ 200 ≤ (s.pages.length : Int)
      · rw [if_pos hf] at hR
        rw [decide_eq_true (by omega)] at cfu
        have hn1 := hf.1
        refine vY hR.symm ?_
        generalize kG (QE c.sp c.nm) s.pages = k at *
        generalize kG (QE c.tsp c.tnm) s.pages = k2 at *
        delta ZZ X2 QC at *
        refine FJ 1000 func168 ntmps168 (fun G => ?_)
        repeat' first | refine Wk ?_ | refine Qa.mk (fun h => ?_) (fun h => ?_) | refine Qd.mk (fun ad => ?_) | (refine Qc.keep [_, _] [_] [] _ cf (List.perm_append_comm (l₁ := [_]) (l₂ := [_, _])) QX (fun v L' D' hq => ?_); obtain ⟨rfl, rfl, rfl⟩ := hq; refine ⟨rfl, ?_⟩) | (refine Qc.keep [_, _] [_] [] _ cf2 (List.perm_append_comm (l₁ := [_]) (l₂ := [_, _])) QX (fun v L' D' hq => ?_); obtain ⟨rfl, rfl, rfl⟩ := hq; refine ⟨rfl, ?_⟩) | (refine Qc.keep [_] [_, _] [] _ cfu (List.perm_middle (l₁ := [_])) QX (fun v L' D' hq => ?_); obtain ⟨rfl, rfl, rfl⟩ := hq; refine ⟨rfl, ?_⟩) | refine Qe.mk [_, _] [] ⟨rfl, rfl, rfl⟩ Qb.a
      · rw [if_neg hf] at hR
        dsimp only at hR
        have hnone : ∀ y ∈ s.pages, X7 c.tsp c.tnm y = false := YP (by omega)
        have hE : (s.pages.eraseIdx (kG (QE c.sp c.nm) s.pages)).map PGM.pl = s.pl.pages.eraseIdx (kG (QE c.sp c.nm) s.pages) := YV _ _
        have haE : ((s.pages.eraseIdx (kG (QE c.sp c.nm) s.pages)).map PGM.pl).Pairwise fun a b => cfP a b < 0 := by rw [hE]; exact ha.sublist (List.eraseIdx_sublist _ _)
        have hlE : (s.pages.eraseIdx (kG (QE c.sp c.nm) s.pages)).length ≤ 999 := by rw [List.length_eraseIdx_of_lt hk]; omega
        have cd := jI s.pa s.pc s.pages _ hk h0
        have hg := Z5 hk
        have hat := xS hk
        obtain ⟨p', hp'⟩ : ∃ p' : PGM, p' = ⟨c.tsp, c.tnm, s.pages[kG (QE c.sp c.nm) s.pages].ha, s.pages[kG (QE c.sp c.nm) s.pages].hc, s.pages[kG (QE c.sp c.nm) s.pages].hist⟩ := ⟨_, rfl⟩
        have hpc : p'.cells = [.i .i64 c.tsp, .s c.tnm, .sl s.pages[kG (QE c.sp c.nm) s.pages].ha s.pages[kG (QE c.sp c.nm) s.pages].hist.length s.pages[kG (QE c.sp c.nm) s.pages].hc] := by rw [hp']; rfl
        have hhC : Vi p' = Vi s.pages[kG (QE c.sp c.nm) s.pages] := by rw [hp']
        have hx : Kv (je c.tsp c.tnm) (s.pl.pages.eraseIdx (kG (QE c.sp c.nm) s.pages)) ⟨c.tsp, c.tnm, s.pages[kG (QE c.sp c.nm) s.pages].pl.hist⟩ = (Xn (s.pages.eraseIdx (kG (QE c.sp c.nm) s.pages)) p').map PGM.pl := by rw [J9, hE, hp']; rfl
        have hps : p'.sp = c.tsp ∧ p'.nm = c.tnm := by rw [hp']; exact ⟨rfl, rfl⟩
        clear hp'
        have haM : ((Xn (s.pages.eraseIdx (kG (QE c.sp c.nm) s.pages)) p').map PGM.pl).Pairwise fun a b => cfP a b < 0 := by
          rw [J9]
          refine O0 (x := p'.pl) haE fun y hy => ?_
          obtain ⟨z, hz, rfl⟩ := List.mem_map.1 hy
          have := hnone z (qI hz)
          rw [← hps.1, ← hps.2] at this
          exact this
        have hM := (hat.trans (by rw [← hhC]; exact (qf _ p').symm) : (Zt s.pages).Perm (Zt (Xn (s.pages.eraseIdx (kG (QE c.sp c.nm) s.pages)) p')))
        have hlM : (Xn (s.pages.eraseIdx (kG (QE c.sp c.nm) s.pages)) p').length ≤ 1000 := by rw [xO]; omega
        rw [hx] at hR
        have ca := yO pd { s with pages := s.pages.eraseIdx (kG (QE c.sp c.nm) s.pages) } sq p' (by show (s.pages.eraseIdx _).length ≤ 1000; omega) haE
        dsimp only at ca
        rw [hpc] at ca
        generalize s.pages[kG (QE c.sp c.nm) s.pages] = p at *
        generalize Xn (s.pages.eraseIdx (kG (QE c.sp c.nm) s.pages)) p' = M at *
        generalize s.pages.eraseIdx (kG (QE c.sp c.nm) s.pages) = E at *
        generalize kG (QE c.sp c.nm) s.pages = k at *
        generalize kG (QE c.tsp c.tnm) s.pages = k2 at *
        have cdr := fun a1 c1 => O8 pd { s with pa := a1, pc := c1, pages := M } sq c.sp c.nm hs.props
        dsimp only at cdr
        by_cases h1 : c.n = 1
        · rw [decide_eq_false (by omega)] at cfu
          have cr := Rd c.tsp c.tnm hn
          have hw : FnS prog 168 [.c (.p 2 pd 0), .agg c.cells] [ZZ 2 pd s sq, X2 s, Ya s] [gM] (fun v L D => ∃ a k a2 k2, v = .c (.i .i64 0) ∧
              L = [ZZ 2 pd { s with pa := a, pc := k, pages := Xn M ⟨c.sp, c.nm, a2, k2, [vg c s.clk sq 1 [] (JF c.tsp c.tnm)]⟩, props := Xa s.props c.sp c.nm } sq, X2 { s with pa := a, pc := k, pages := Xn M ⟨c.sp, c.nm, a2, k2, [vg c s.clk sq 1 [] (JF c.tsp c.tnm)]⟩ }, Vi ⟨c.sp, c.nm, a2, k2, [vg c s.clk sq 1 [] (JF c.tsp c.tnm)]⟩, Ya { s with props := Xa s.props c.sp c.nm }] ∧ D = []) := by
            have ca2 := fun a1 c1 a2 k2 => yO pd { s with pa := a1, pc := c1, pages := M, props := Xa s.props c.sp c.nm } sq ⟨c.sp, c.nm, a2, k2, [vg c s.clk sq 1 [] (JF c.tsp c.tnm)]⟩ hlM haM
            dsimp only at ca2
            clear hR hx hM hat hE haE haM hnone hs ha hh hh2
            have hfl := zQ c.tsp c.tnm
            have hd : JF c.tsp c.tnm = [35, 82, 69, 68, 73, 82, 69, 67, 84, 32, 91, 91] ++ JC c.tsp c.tnm ++ [93, 93] := rfl
            rw [hd] at ca2
            rw [hd]
            clear hd
            generalize JC c.tsp c.tnm = tx at *
            generalize Xa s.props c.sp c.nm = Q at *
            delta ZZ X2 Ya QC Vi at *
            dsimp only at *
            refine FJ 1000 func168 ntmps168 (fun G => ?_)
            repeat' first | refine Wk ?_ | refine Qa.mk (fun h => ?_) (fun h => ?_) | refine Qd.mk (fun ad => ?_) | refine Dz (id := 15) [0,1,0,4,12,28,60,0,128,384,896,1920,0,4096,12288,28672,65535,0,262143] [0,1,2,3,4,5,6,7,8,9,10,11,12,13,14,15,16,17,18] [17,18] [0,3] 18 true ?_ | refine Qt.mk Qb.a ?_ | (refine Qc.keep [_, _] [_, _] [] _ cf (List.Perm.append_right [_] (List.perm_append_comm (l₁ := [_]) (l₂ := [_, _]))) QX (fun v L' D' hq => ?_); obtain ⟨rfl, rfl, rfl⟩ := hq; refine ⟨rfl, ?_⟩) | (refine Qc.keep [_, _] [_, _] [] _ cf2 (List.Perm.append_right [_] (List.perm_append_comm (l₁ := [_]) (l₂ := [_, _]))) QX (fun v L' D' hq => ?_); obtain ⟨rfl, rfl, rfl⟩ := hq; refine ⟨rfl, ?_⟩) | (refine Qc.keep [_] [_, _, _] [] _ cfu (List.perm_middle (l₁ := [_])) QX (fun v L' D' hq => ?_); obtain ⟨rfl, rfl, rfl⟩ := hq; refine ⟨rfl, ?_⟩) | refine Qr.mk 60 3 _ (.inl ⟨_, (by first | exact List.Mem.head _ | exact List.Mem.tail _ QT | exact List.Mem.tail _ ZR | exact List.Mem.tail _ XQ | exact List.Mem.tail _ X8)⟩) (by omega) (by omega) ?_ | refine Qi.mk 60 _ _ _ (.inl ⟨_, (by first | exact List.Mem.head _ | exact List.Mem.tail _ QT | exact List.Mem.tail _ ZR | exact List.Mem.tail _ XQ | exact List.Mem.tail _ X8)⟩) (by omega) (by omega) (by first | omega | decide) (by exact hg) ?_ | (refine Qc.mkO [_] [_, _, _, _] [] [_] _ cd (Qb.pick [_, _, _]) QX (fun v L' D' hq => ?_); obtain ⟨rfl, rfl, rfl⟩ := hq; refine ⟨_, _, Qb.unpick [_, _, _], ?_⟩) | (refine Qc.mkO [_, _] [_, _, _] [] [_] _ ca ((Qb.pick [_, _, _]).trans (Qb.pick [_, _, _])) QX (fun v L' D' hq => ?_); obtain ⟨a1, c1, rfl, rfl, rfl⟩ := hq; refine ⟨_, _, Qb.refl _ _, ?_⟩) | (refine Qc.mkO [_, _] [_, _, _] [] [_] _ (cdr _ _) ((Qb.pick [_, _, _, _]).trans (Qb.pick [_])) QX (fun v L' D' hq => ?_); obtain ⟨rfl, rfl, rfl⟩ := hq; refine ⟨_, _, Qb.perm (List.Perm.cons _ (List.Perm.swap _ _ _)), ?_⟩) | refine Qx.mk [_] _ cr (fun _ h => h) ?_ | (refine Qc.mkO [_, _] [_, _, _, _, _] [] [_] _ (ca2 _ _ _ _) ((Qb.pick [_, _, _]).trans (Qb.pick [_, _, _])) QX (fun v L' D' hq => ?_); obtain ⟨a', c', rfl, rfl, rfl⟩ := hq; refine ⟨_, _, Qb.refl _ _, ?_⟩) | refine Qe.mk [_, _, _, _] [] ⟨a', c', _, _, rfl, rfl, rfl⟩ (Qb.ofSub (by repeat (first | exact List.Sublist.slnil | refine List.Sublist.cons_cons _ ?_ | refine List.Sublist.cons _ ?_)) QX)
          rw [if_pos h1] at hR
          subst hR
          refine hw.lift ([Wh s, VI s, zk s] ++ (Zt s.pages ++ Zt s.gone)) (List.Perm.cons _ (List.Perm.cons _ (List.Perm.swap _ _ _))) (fun _ h => h) fun v L1 D1 ⟨a, k', a2, k2', g1, g2, g3⟩ => ?_
          subst g1 g2 g3
          refine ⟨_, [], (Qb.perm (List.Perm.cons _ (List.Perm.cons _ ((List.Perm.cons _ (List.Perm.swap _ _ _)).trans (w0 (A := [Wh s, Ya { s with props := Xa s.props c.sp c.nm }, VI s, zk s]) ((qf M _).trans (List.Perm.cons _ hM.symm))))))).trans (Qb.facts fun _ _ => trivial), { s with pa := a, pc := k', pages := Xn M ⟨c.sp, c.nm, a2, k2', [vg c s.clk sq 1 [] (JF c.tsp c.tnm)]⟩, props := Xa s.props c.sp c.nm }, rfl, rfl, rfl, ?_⟩
          dsimp only [STM.pl]
          rw [J9]
          rfl
        · have hw : FnS prog 168 [.c (.p 2 pd 0), .agg c.cells] [ZZ 2 pd s sq, X2 s, Ya s] [gM] (fun v L D => ∃ a k, v = .c (.i .i64 0) ∧
              L = [ZZ 2 pd { s with pa := a, pc := k, pages := M, props := Xa s.props c.sp c.nm } sq, X2 { s with pa := a, pc := k, pages := M }, Ya { s with props := Xa s.props c.sp c.nm }] ∧ D = []) := by
            clear hR hx hM hat hE haE haM hnone hs ha hh hh2
            generalize Xa s.props c.sp c.nm = Q at *
            delta ZZ X2 Ya QC at *
            dsimp only at *
            refine FJ 1000 func168 ntmps168 (fun G => ?_)
            repeat' first | refine Wk ?_ | refine Qa.mk (fun h => ?_) (fun h => ?_) | refine Qd.mk (fun ad => ?_) | refine Dz (id := 15) [0,1,0,4,12,28,60,0,128,384,896,1920,0,4096,12288,28672,65535,0,262143] [0,1,2,3,4,5,6,7,8,9,10,11,12,13,14,15,16,17,18] [17,18] [0,3] 18 true ?_ | refine Qt.mk Qb.a ?_ | (refine Qc.keep [_, _] [_, _] [] _ cf (List.Perm.append_right [_] (List.perm_append_comm (l₁ := [_]) (l₂ := [_, _]))) QX (fun v L' D' hq => ?_); obtain ⟨rfl, rfl, rfl⟩ := hq; refine ⟨rfl, ?_⟩) | (refine Qc.keep [_, _] [_, _] [] _ cf2 (List.Perm.append_right [_] (List.perm_append_comm (l₁ := [_]) (l₂ := [_, _]))) QX (fun v L' D' hq => ?_); obtain ⟨rfl, rfl, rfl⟩ := hq; refine ⟨rfl, ?_⟩) | refine Qr.mk 60 3 _ (.inl ⟨_, (by first | exact List.Mem.head _ | exact List.Mem.tail _ QT | exact List.Mem.tail _ ZR | exact List.Mem.tail _ XQ | exact List.Mem.tail _ X8)⟩) (by omega) (by omega) ?_ | refine Qi.mk 60 _ _ _ (.inl ⟨_, (by first | exact List.Mem.head _ | exact List.Mem.tail _ QT | exact List.Mem.tail _ ZR | exact List.Mem.tail _ XQ | exact List.Mem.tail _ X8)⟩) (by omega) (by omega) (by first | omega | decide) (by exact hg) ?_ | (refine Qc.mkO [_] [_, _, _, _] [] [_] _ cd (Qb.pick [_, _, _]) QX (fun v L' D' hq => ?_); obtain ⟨rfl, rfl, rfl⟩ := hq; refine ⟨_, _, Qb.unpick [_, _, _], ?_⟩) | (refine Qc.mkO [_, _] [_, _, _] [] [_] _ ca ((Qb.pick [_, _, _]).trans (Qb.pick [_, _, _])) QX (fun v L' D' hq => ?_); obtain ⟨a1, c1, rfl, rfl, rfl⟩ := hq; refine ⟨_, _, Qb.refl _ _, ?_⟩) | (refine Qc.mkO [_, _] [_, _, _] [] [_] _ (cdr _ _) ((Qb.pick [_, _, _, _]).trans (Qb.pick [_])) QX (fun v L' D' hq => ?_); obtain ⟨rfl, rfl, rfl⟩ := hq; refine ⟨_, _, Qb.perm (List.Perm.cons _ (List.Perm.swap _ _ _)), ?_⟩) | refine Qe.mk [_, _, _] [] ⟨a1, c1, rfl, rfl, rfl⟩ (Qb.ofSub (by repeat (first | exact List.Sublist.slnil | refine List.Sublist.cons_cons _ ?_ | refine List.Sublist.cons _ ?_)) QX)
          rw [if_neg h1] at hR
          subst hR
          refine hw.lift ([Wh s, VI s, zk s] ++ (Zt s.pages ++ Zt s.gone)) (List.Perm.cons _ (List.Perm.cons _ (List.Perm.swap _ _ _))) (fun _ h => h) fun v L1 D1 ⟨a, k', g1, g2, g3⟩ => ?_
          subst g1 g2 g3
          exact ⟨_, [], (Qb.perm (List.Perm.cons _ (List.Perm.cons _ ((List.Perm.swap _ _ _).trans (List.Perm.append_left [Wh s, Ya { s with props := Xa s.props c.sp c.nm }, VI s, zk s] (List.Perm.append_right _ hM)))))).trans (Qb.facts fun _ _ => trivial), { s with pa := a, pc := k', pages := M, props := Xa s.props c.sp c.nm }, rfl, rfl, rfl, rfl⟩
end Go.Proofs
