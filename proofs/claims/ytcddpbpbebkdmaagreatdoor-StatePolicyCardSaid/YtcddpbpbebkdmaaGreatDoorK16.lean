/- This text turns a contract that gives a new row into one that gives memory that does not change. -/
import Derived.Test.YtcddpbpbebkdmaaGreatDoorK02
import Derived.Test.YtcddpbpbebkdmaaGreatDoorK15
import Derived.Test.YtcddpbpbebkdmaaGreatDoorK13
import Derived.Test.YtcddpbpbebkdmaaGreatDoorK12
import Derived.Test.YtcddpbpbebkdmaaGreatDoorK05
import Derived.Test.YtcddpbpbebkdmaaGreatDoorK10
import Derived.Test.YtcddpbpbebkdmaaGreatDoorK14
set_option linter.all false
namespace Go.X
open Go
theorem FnS.rowF {P : Program} {f : FuncId} {args : List V} {D : List Fact} {ety esz n : Nat} {cs : List C} (h : FnS P f args [] D (fun v L D => ∃ a c, v = .c (.sl a n c) ∧ L = [.row ety esz a n c cs] ∧ D = [])) : FnS P f args [] D (fun v L D => ∃ a c, v = .c (.sl a n c) ∧ L = [] ∧ D = [Qf ety esz a n cs]) :=
 h.entsP fun v L D ⟨a, c, h1, h2, h3⟩ => ⟨[], [Qf ety esz a n cs], by rw [h2, h3]; exact Qb.toFact, a, c, h1, rfl, rfl⟩
def awkL : List CHM := [⟨1, [97, 110, 110], [], 0, [65], 0, [], [120], 0, none, 0, []⟩, ⟨1, [], [], 0, [65], 0, [], [121], 0, none, 0, []⟩]
def Ov : List RV := [⟨1, [97, 110, 110], [], [120], 0, 1⟩, ⟨2, [], [], [121], 0, 1⟩]
def Nw : ST := ⟨1, 0, [⟨0, [65], Ov⟩], [], [], 0, [], [⟨[97, 110, 110], 1⟩]⟩
set_option maxRecDepth 100000 in
theorem RC : Q0 STM.nil.pl (awkL.map CHM.pl) = (Nw, 0) := by decide +kernel
set_option maxRecDepth 100000 in
theorem Un : Zl Nw = true := by decide +kernel
theorem awk_st {s : STM} (h : s.pl = Nw) : ∃ pa pc ha hc ga gc qa qc wa wc la lc, s = ⟨1, 0, pa, pc, [⟨0, [65], ha, hc, Ov⟩], ga, gc, [], qa, qc, [], 0, wa, wc, [], la, lc, [⟨[97, 110, 110], 1⟩]⟩ := by
 obtain ⟨sq, ck, pa, pc, pages, ga, gc, gone, qa, qc, props, pr, wa, wc, watches, la, lc, lasts⟩ := s
 simp only [STM.pl, Nw, ST.mk.injEq] at h
 obtain ⟨rfl, rfl, h1, h2, rfl, rfl, rfl, rfl⟩ := h
 have h2 : gone = [] := List.map_eq_nil_iff.1 h2
 subst h2
 match pages, h1 with
 | [⟨sp, nm, ha, hc, hist⟩], h1 =>
  simp only [List.map_cons, List.map_nil, PGM.pl, List.cons.injEq, SP.mk.injEq, and_true] at h1
  obtain ⟨rfl, rfl, rfl⟩ := h1
  exact ⟨pa, pc, ha, hc, ga, gc, qa, qc, wa, wc, la, lc, rfl⟩
 | [], h1 => simp at h1
 | _ :: _ :: _, h1 => simp at h1
theorem HX {pa pc ha hc ga gc qa qc wa wc la lc} : QO STM.nil ⟨1, 0, pa, pc, [⟨0, [65], ha, hc, Ov⟩], ga, gc, [], qa, qc, [], 0, wa, wc, [], la, lc, [⟨[97, 110, 110], 1⟩]⟩ = [(0, [65])] := by rfl
end Go.X
namespace Go.Proofs
open Go Go.X Tryz
set_option maxRecDepth 100000
set_option maxHeartbeats 4000000
theorem Xo : FnS prog 16 [] [] [gM, XH] (Is tt) := by
 have hz : ∀ c ∈ awkL, c.hist.length ≤ big := by decide
 have ca := fun a k => jy STM.nil a k awkL ⟨Nat.zero_le _, fun _ h => (by cases h), Nat.zero_le _, fun _ h => (by cases h), Nat.zero_le _, Nat.zero_le _, Nat.zero_le _⟩ (fun _ h => (by cases h)) (by decide) hz
 rw [RC] at ca
 have hch : ∀ m a, Z8 m 0 10 a 2 (Wi awkL) → NE m a awkL := fun m a h => ⟨h, fun c hc => by
  have : c.hist = [] := by
   rcases List.mem_cons.1 hc with rfl | hc
   ·rfl
   ·rw [List.mem_singleton.1 hc]
  rw [this]; exact Z8.nil⟩
 refine FJ 0 func16 ntmps16 (fun G => ?_)
 repeat' first | refine QF (c := .seq (.region 3 _ _) _) ?_ | refine Wk ?_ | refine Qa.mk (fun h => ?_) (fun h => ?_) | refine Qd.mk (fun ad => ?_) | (refine Qc.mkE [] _ [_, _, _, _] _ _ (ca _ _) Qb.toFact (fun _ h => ⟨YA.nil, hch _ _ h.1, h.2.1, h.2.2.1, trivial⟩) (fun v L' D' hq => ?_); obtain ⟨s, rfl, rfl, rfl, hpl⟩ := hq)
 rename_i ad0 ad1
 refine ⟨?_⟩
 obtain ⟨pa, pc, ha, hc, ga, gc, qa, qc, wa, wc, la, lc, hsd⟩ := awk_st hpl
 have sm : Vs s := (X.JM.1 (show Zl s.pl = true by rw [hpl]; exact Un)).2.2.small
 have cp := xG s 0 [65] sm.big.pages sm.ph
 have cv := YG s sm.big sm.ph
 have cl := vW s [97, 110, 110] sm.big.lasts
 have ct := wB STM.nil s ⟨Nat.zero_le _, fun _ h => (by cases h), Nat.zero_le _, fun _ h => (by cases h), Nat.zero_le _, Nat.zero_le _, Nat.zero_le _⟩ sm.big (Nat.zero_le _) sm.pages (fun _ h => (by cases h)) sm.ph
 rw [show QO STM.nil s = [(0, [65])] by rw [hsd]; exact HX] at ct
 rw [hpl, Un] at cv
 rw [show (s.pages.find? (X7 0 [65])) = some ⟨0, [65], ha, hc, Ov⟩ by rw [hsd]; rfl] at cp
 rw [show Yd s.lasts [97, 110, 110] = 1 by rw [hsd]; rfl] at cl
 change FnS _ _ _ _ _ (fun v L D => ∃ q : PGM, v = .t2 (.agg q.cells) tt ∧ L = [] ∧ D = [_] ∧ q.pl = ⟨0, [65], Ov⟩) at cp
 have cu := fun a k => Vo 73 ⟨0, [65], a, k, Ov⟩ (show 2 ≤ 140737488355328 by decide)
 change ∀ a k, FnS _ _ [.agg [.i .i64 0, .s [65], .sl a 2 k]] [] [Qf _ 6 a 2 (Zb Ov)] (Is (.agg [.i .i64 2, .s [], .s [], .s [121], .i .i64 0, .i .i64 1])) at cu
 have cs := fun a b c d => qF 45 45 a b c d [(0, [65])] (by decide)
 change ∀ a b c d, FnS _ _ [.c (.sl a 1 c), .c (.sl b 1 d)] [] [Qf _ 2 a 1 [.i .i64 0, .s [65]], Qf _ 2 b 1 [.i .i64 0, .s [65]]] (Is tt) at cs
 change FnS _ _ _ _ _ (fun v L D => ∃ c d, v = .c (.sl c 1 d) ∧ L = [.row 45 2 c 1 d [.i .i64 0, .s [65]]] ∧ D = []) at ct
 have hseq : s.seq = 1 := by rw [hsd]
 have ct := ct.rowF
 clear ca hch hz sm hpl hsd
 repeat' first | refine Qa.yes rfl ?_ | refine Wk ?_ | refine Qa.mk (fun h => ?_) (fun h => ?_) | refine Qd.mk (fun ad => ?_) | refine ZF (id := 4) tyOK (by kernel_rfl) [0, 1, 3, 7, 15, 31, 63, 127, 255, 511, 1023, 2047, 4095, 8191, 16383, 32767, 65535, 131071, 262143, 524287, 1048575, 2097151, 4194303, 8388607, 16777215, 33554431, 67108863, 134217727, 268435455, 536870911, 1073741823, 2147483647, 4294967295, 4294967295, 17179869183, 4294967295, 38654705663, 137438953471, 274877906943, 549755813887] [0, 1, 2, 3, 4, 5, 6, 7, 8, 9, 10, 11, 12, 13, 14, 15, 16, 17, 18, 19, 20, 21, 22, 23, 24, 25, 26, 27, 28, 29, 30, 31, 32, 33, 35] 34 [36, 37, 38, 39] 36 [34, 37, 38, 39] [34, 36, 37] [1, 2, 4] 40 false (by kernel_rfl) ?_ | refine X3.mk ?_ ?_ | refine Qt.mk Qb.a ?_ | (refine Qc.mk [] _ [_] _ cp QW Kh (fun v L' D' hq => ?_); obtain ⟨q, rfl, rfl, rfl, hq⟩ := hq; obtain ⟨qsp, qnm, q1, q2, qh⟩ := q; simp only [PGM.pl, SP.mk.injEq] at hq; obtain ⟨rfl, rfl, rfl⟩ := hq) | refine Qx.mk [_] _ (cu _ _) Kh ?_ | refine Qx.mk [_, _, _] _ cv (fun _ h => ⟨h.2.1, h.2.2.2.1, h.2.2.2.2.1, trivial⟩) ?_ | refine Qx.mk [_] _ cl vt ?_ | (refine Qc.mk [] _ [_, _] _ ct QW (fun _ h => ⟨YA.nil, h.2.1, trivial⟩) (fun v L' D' hq => ?_); obtain ⟨tc, td, rfl, rfl, rfl⟩ := hq) | refine Qc.isE (cs _ _ _ _) Qb.toFact (fun _ h => ⟨h.2.1, h.1, trivial⟩) ?_ | refine Qe.is rfl
end Go.Proofs
namespace Go.X
open Go Go.Lib
theorem Vs.of_small {s : STM} (hp : s.pages.length ≤ 10 ∧ ∀ p ∈ s.pages, ju p) (hg : s.gone.length ≤ 10 ∧ ∀ p ∈ s.gone, ju p) (h1 : (s.props.length : Int) ≤ 10) (h2 : (s.watches.length : Int) ≤ 20) (h3 : (s.lasts.length : Int) ≤ 20) : Vs s :=
 ⟨by have := hp.1; omega, fun p h => by have := (hp.2 p h).1; omega, by have := hg.1; omega, fun p h => by have := (hg.2 p h).1; omega, by omega, by omega, by omega⟩
end Go.X
namespace Go.Proofs
open Go Go.X Tryz
set_option maxRecDepth 100000
set_option maxHeartbeats 4000000
theorem YC (s : STM) (h1 : s.pages.length ≤ 9223372036854775807) (h2 : ∀ p ∈ s.pages, p.hist.length ≤ 9223372036854775807) (h3 : s.gone.length ≤ 9223372036854775807) (h4 : ∀ p ∈ s.gone, p.hist.length ≤ 9223372036854775807) : FnS prog 15 [.agg s.cells] [] [QG s] (Oz (Vs s)) := by
 have c1 := vG s.pa s.pc s.pages h1 h2
 have c2 := vG s.ga s.gc s.gone h3 h4
 refine FJ 0 func15 ntmps15 (fun G => ?_)
 repeat' first | refine Qe.mk [] [] ⟨false, rfl, (fun h => absurd h (by decide)), rfl, rfl⟩ Qb.z | refine Wk ?_ | refine Qa.mk (fun h => ?_) (fun h => ?_) | refine Qd.mk (fun ad => ?_) | (refine Qc.mk [] _ [_] _ c1 QW (fun _ h => ⟨h.1.pages, trivial⟩) (fun v L' D' hq => ?_); obtain ⟨b1, rfl, hb1, rfl, rfl⟩ := hq; cases b1) | (refine Qc.mk [] _ [_] _ c2 QW (fun _ h => ⟨h.1.gone, trivial⟩) (fun v L' D' hq => ?_); obtain ⟨b2, rfl, hb2, rfl, rfl⟩ := hq; cases b2) | refine Qe.mk [] [] ⟨true, rfl, (fun _ => Vs.of_small (hb1 rfl) (hb2 rfl) (by omega) (by omega) (by omega)), rfl, rfl⟩ Qb.z
end Go.Proofs
namespace Go.X
open Go Go.Lib
def VN : List Bs := [[], [97, 110, 110], [98, 111, 98], [99, 121]]
end Go.X
namespace Go.Proofs
open Go Go.X Tryz
set_option maxRecDepth 100000
set_option maxHeartbeats 4000000
theorem zx : FnS prog 33 [] [] [] (fun v L D => ∃ a c, v = .c (.sl a 8 c) ∧ L = [] ∧ D = [Qf 45 2 a 8 (Xe genTitles)]) := js.rowF
theorem Pn : FnS prog 47 [] [] [] (fun v L D => ∃ a c, v = .c (.sl a 4 c) ∧ L = [] ∧ D = [Qf 9 1 a 4 (VN.map C.s)]) := by
 refine FnS.rowF ?_
 refine FJ 0 func47 ntmps47 (fun G => ?_)
 repeat' first | refine Wk ?_ | refine Qa.mk (fun h => ?_) (fun h => ?_) | refine Qd.mk (fun ad => ?_) | refine Qe.mk [_] [] ⟨_, _, rfl, rfl, rfl⟩ (Qb.refl _ _)
end Go.Proofs
namespace Go.X
open Go Go.Lib
theorem LJ (o : Option RV) : ∃ a1 a2 a3 a4 a5 a6 b, revV o = .t2 (.agg [.i .i64 a1, .s a2, .s a3, .s a4, .i .i64 a5, .i .i64 a6]) (.c (.b b)) := by
 cases o with
 | none => exact ⟨_, _, _, _, _, _, _, rfl⟩
 | some r => exact ⟨_, _, _, _, _, _, _, rfl⟩
theorem Sq (s : STM) (hs : Vs s) (sp : Int) (nm : Bs) : ∃ p : PGM, pageV (s.pages.find? (X7 sp nm)) = .t2 (.agg p.cells) (.c (.b (s.pages.find? (X7 sp nm)).isSome)) ∧ p.hist.length ≤ 1000 ∧ p.pl = (((s.pages.find? (X7 sp nm)).map PGM.pl).getD ⟨0, [], []⟩) ∧ ∀ m, YA m s → Z8 m 0 6 p.ha p.hist.length (Zb p.hist) := by
 cases h : s.pages.find? (X7 sp nm) with
 | none => exact ⟨⟨0, [], none, 0, []⟩, rfl, Nat.zero_le _, rfl, fun m _ => Z8.nil (e := 0)⟩
 | some p => exact ⟨p, rfl, hs.ph p (List.mem_of_find?_eq_some h), rfl, fun m hm => hm.pages.his p (List.mem_of_find?_eq_some h)⟩
end Go.X
namespace Go.Proofs
open Go Go.X Tryz
set_option maxRecDepth 100000
set_option maxHeartbeats 4000000
theorem Hi (s : STM) (hs : Vs s) (sp : Int) (nm : Bs) (n : Int) (u : Bs) : FnS prog 50 [.agg s.cells, .agg [.i .i64 sp, .s nm], .c (.i .i64 n), .c (.s u)] [] [QG s] (Is tt) := by
 have cp := xG s sp nm hs.big.pages hs.ph
 have cr := qG s sp nm hs.big
 have cv := GO s sp nm n hs.big.pages hs.ph
 have cw := y2 s sp nm n hs.big
 have cl := vW s u hs.big.lasts
 have cm := Hj s u hs.big.lasts
 obtain ⟨p, hp1, hp2, hp3, hp4⟩ := Sq s hs sp nm
 rw [hp1] at cr
 obtain ⟨a1, a2, a3, a4, a5, a6, rb, hr⟩ := LJ ((s.pages.find? (X7 sp nm)).bind fun p => WY p.hist n)
 rw [hr] at cv cw
 clear hr hp1
 change FnS _ _ _ _ _ (fun v L D => ∃ q : PGM, v = .t2 (.agg q.cells) (.c (.b (s.pages.find? (X7 sp nm)).isSome)) ∧ L = [] ∧ D = [_] ∧ q.pl = (((s.pages.find? (X7 sp nm)).map PGM.pl).getD ⟨0, [], []⟩)) at cp
 rw [← hp3] at cp
 generalize (s.pages.find? (X7 sp nm)).isSome = ob at *
 clear hp3
 obtain ⟨psp, pnm, pa, pc, ph⟩ := p
 change FnS _ _ _ _ _ (fun v L D => ∃ q : PGM, v = .t2 (.agg q.cells) (.c (.b ob)) ∧ L = [] ∧ D = [_] ∧ q.pl = ⟨psp, pnm, ph⟩) at cp
 change FnS _ _ _ _ _ (Is (.t2 (.agg [.i .i64 psp, .s pnm, .sl pa ph.length pc]) (.c (.b ob)))) at cr
 dsimp only at hp2 hp4
 have cs := fun (qa : Option Addr) (qc : Nat) => jZ ⟨psp, pnm, qa, qc, ph⟩ ⟨psp, pnm, pa, pc, ph⟩ rfl (show ph.length ≤ 140737488355328 by omega)
 have cu := fun (qa : Option Addr) (qc : Nat) => Vo 73 ⟨psp, pnm, qa, qc, ph⟩ (show ph.length ≤ 140737488355328 by omega)
 have cx := x9 0 ⟨psp, pnm, pa, pc, ph⟩ (show ph.length ≤ 140737488355328 by omega)
 change FnS _ _ [.agg [.i .i64 psp, .s pnm, .sl pa ph.length pc]] [] [Qf 0 6 pa ph.length (Zb ph)] (Is (.agg (J1 ph).cells)) at cx
 change ∀ qa qc, FnS _ _ [.agg [.i .i64 psp, .s pnm, .sl qa ph.length qc]] [] [Qf _ 6 qa ph.length (Zb ph)] (Is (.agg (J1 ph).cells)) at cu
 change ∀ qa qc, FnS _ _ [.agg [.i .i64 psp, .s pnm, .sl qa ph.length qc], .agg [.i .i64 psp, .s pnm, .sl pa ph.length pc]] [] [Qf 0 6 qa ph.length (Zb ph), Qf 0 6 pa ph.length (Zb ph)] (Is tt) at cs
 generalize J1 ph = cm0 at *
 unfold RV.cells at cu cx
 generalize Yd s.lasts u = lo at *
 refine FJ 0 func50 ntmps50 (fun G => ?_)
 repeat' first | refine Qa.yes ⟨rfl, rfl, rfl, rfl, rfl, rfl, trivial⟩ ?_ | refine Qa.yes rfl ?_ | refine Wk ?_ | refine Qa.mk (fun h => ?_) (fun h => ?_) | refine Qd.mk (fun ad => ?_) | refine Ds (id := 5) [0,0,3,7,15,15,63,127,255,511,511,2047,4095,8191,16383,16383,65535,131071,262143,524287,1048575,524287,4194303,8388607,16777215,33554431,67108863,67108863,268435455,67108863,67108863,2147483647,4294967295,8589934591,17179869183] [0,1,2,3,4,5,6,7,8,9,10,11,12,13,14,15,16,17,18,19,20,21,22,23,24,25,26,27,28,29,30,31,32,33,34] [] [4,9,11,13,15] true ?_ | refine Qt.mk Qb.a ?_ | (refine Qc.mk [] _ [_] _ cp QW Kh (fun v L' D' hq => ?_); obtain ⟨q, rfl, rfl, rfl, hq⟩ := hq; obtain ⟨qsp, qnm, qa, qc, qh⟩ := q; simp only [PGM.pl, SP.mk.injEq] at hq; obtain ⟨rfl, rfl, rfl⟩ := hq) | refine Qc.is cr ?_ | refine Qc.is cv ?_ | refine Qc.is cw ?_ | refine Qx.mk [_, _] _ (cs _ _) (fun m h => ⟨h.1, hp4 m h.2.1, trivial⟩) ?_ | refine Qx.mk [_] _ (cu _ _) (fun m h => ⟨h.1, trivial⟩) ?_ | refine Qx.mk [_] _ cx (fun m h => ⟨hp4 m h.2.1, trivial⟩) ?_ | refine Qx.mk [_] _ cl (fun m h => ⟨h.2.1, trivial⟩) ?_ | refine Qx.mk [_] _ cm (fun m h => ⟨h.2.1, trivial⟩) ?_ | refine Qe.is rfl
end Go.Proofs
