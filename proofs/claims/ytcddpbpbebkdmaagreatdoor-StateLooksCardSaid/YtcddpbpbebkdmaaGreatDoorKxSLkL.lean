/- This text walks through the statement StateLooks of chapter 27. -/
import Derived.Test.YtcddpbpbebkdmaaGreatDoorK16
set_option linter.all false
namespace Go.Proofs
open Go Go.X Tryz
set_option maxRecDepth 100000
set_option maxHeartbeats 4000000
theorem yW (e : Nat) (a : Option Addr) (c : Nat) (l : List Int) (hl : l.length ≤ maxLen) (s : STM) (h1 : s.pages.length ≤ 9223372036854775807) (h2 : ∀ p ∈ s.pages, p.hist.length ≤ 9223372036854775807) (h3 : s.gone.length ≤ 9223372036854775807) (h4 : ∀ p ∈ s.gone, p.hist.length ≤ 9223372036854775807) (sp : Int) (nm : Bs) (n : Int) (u : Bs) (at_ who : Int) :
  FnS prog 14 [.agg s.cells, .agg [.i .i64 sp, .s nm], .c (.i .i64 n), .c (.s u), .c (.sl a l.length c), .c (.i .i64 at_), .c (.i .i64 who)] [] [QG s, Zj e a l, gM, XH] (Is tt) := by
 have cs := YC s h1 h2 h3 h4
 have cg := KY e a c l hl
 have hrd : ∀ L R, Qp L (QG s :: R) 0 3 s.pa s.pages.length (Qm s.pages) := fun L R => .inr fun m h => h.1.pages.row
 refine FJ 0 func14 ntmps14 (fun G => ?_)
 repeat' first | refine QF (c := .seq (.region 3 _ _) _) ?_ | refine Wk ?_ | refine Qa.mk (fun h => ?_) (fun h => ?_) | refine Qd.mk (fun ad => ?_) | (refine Qc.mk [] _ [_] _ cs QW Kh (fun v L' D' hq => ?_); obtain ⟨b, rfl, hb, rfl, rfl⟩ := hq; cases b) | refine Qc.is Xo ?_ (fun _ h => ⟨h.2.2.1, h.2.2.2.1, trivial⟩) | refine Qe.is rfl
 refine ⟨?_⟩
 have hs := hb rfl
 clear hb cs h1 h2 h3 h4
 have cl := fun sp nm n u => Hi s hs sp nm n u
 have hpl := hs.pages
 by_cases hp : 0 < s.pages.length
 case' pos =>
  have cr := ZG at_ (s.pages.length : Int) (by omega) (by omega)
  have hr := QR at_ (n := (s.pages.length : Int)) (by omega)
  generalize ZD at_ (s.pages.length : Int) = R at *
  obtain ⟨i, rfl⟩ : ∃ i : Nat, R = i := ⟨R.toNat, by omega⟩
  have hi : i < s.pages.length := by omega
  have hg := XT hi
  have cli := cl s.pages[i].sp s.pages[i].nm n u
  generalize s.pages[i].sp = psp at *
  generalize s.pages[i].nm = pnm at *
  repeat' first | refine QF (c := .seq (.region 6 _ _) _) ?_ | refine Wk ?_ | refine Qa.mk (fun h => ?_) (fun h => ?_) | refine Qd.mk (fun ad => ?_) | refine Ds (id := 4) [0,1,3,7,7,23,7,7,199,503,1015,2039,7,7,16383,32767,65535] [0,1,2,3,4,5,6,7,8,9,10,11,12,13,14,15,16] [] [7,32] true ?_ | refine Ds (id := 6) [0,1,3,3,3,3,63,127,255,511,1023,2047,511,8191,16383,32767,511,81919,212991,511,999423,2047999,4145151,8388607,16777215,33554431] [0,1,2,3,4,5,6,7,8,9,10,11,12,13,14,15,16,17,18,19,20,21,22,23,24,25] [] [7,8,54,61] true ?_ | refine Qt.mk Qb.a ?_ | refine Qx.mk [] _ cr QX ?_ | refine Qr.a 0 3 _ (hrd _ _) ?_ | refine Zv.mk 0 3 _ _ (hrd _ _) (by omega) ?_ | refine Qi.mk 0 _ _ [.i .i64 psp, .s pnm] (hrd _ _) (by omega) (by omega) (by first | omega | decide) (by exact hg) ?_ | refine Qx.mk [QG s] _ cli Kh ?_ | refine Qe.is rfl
 case' neg =>
  repeat' first | refine QF (c := .seq (.region 6 _ _) _) ?_ | refine Wk ?_ | refine Qa.mk (fun h => ?_) (fun h => ?_) | refine Qd.mk (fun ad => ?_) | refine Ds (id := 4) [0,1,3,7,7,23,7,7,199,503,1015,2039,7,7,16383,32767,65535] [0,1,2,3,4,5,6,7,8,9,10,11,12,13,14,15,16] [] [7,32] true ?_ | refine Ds (id := 6) [0,1,3,3,3,3,63,127,255,511,1023,2047,511,8191,16383,32767,511,81919,212991,511,999423,2047999,4145151,8388607,16777215,33554431] [0,1,2,3,4,5,6,7,8,9,10,11,12,13,14,15,16,17,18,19,20,21,22,23,24,25] [] [7,8,54,61] true ?_ | refine Qt.mk Qb.a ?_ | refine Qe.is rfl
 all_goals
  refine ⟨?_⟩
  have q8 := ZG at_ 8 (by omega) (by omega)
  have q5 := ZG n 5 (by omega) (by omega)
  have q4 := ZG who 4 (by omega) (by omega)
  have r8 := QR at_ (n := 8) (by omega)
  have r4 := QR who (n := 4) (by omega)
  generalize ZD at_ 8 = x8 at *
  generalize ZD n 5 = x5 at *
  generalize ZD who 4 = x4 at *
  obtain ⟨n8, rfl⟩ : ∃ n : Nat, x8 = n := ⟨x8.toNat, by omega⟩
  have htt := wz (k := (n8 : Int)) (by omega) (by omega)
  have hut := Hr VN r4.1 (by simpa [VN] using r4.2)
  generalize genTitles.getD (n8 : Int).toNat (0, []) = T at *
  generalize VN.getD x4.toNat [] = usr at *
  obtain ⟨tsp, tnm⟩ := T
  dsimp only at htt
  have cu := fun (u : STM) (hu : WW 15 u.pl) => Hi u (XY hu.valid).1 tsp tnm x5 usr
  have cla := cl sp nm n u
  repeat' first | refine Wk ?_ | refine Qa.mk (fun h => ?_) (fun h => ?_) | refine Qd.mk (fun ad => ?_) | refine Ds (id := 4) [0,1,3,7,7,23,7,7,199,503,1015,2039,7,7,16383,32767,65535] [0,1,2,3,4,5,6,7,8,9,10,11,12,13,14,15,16] [14] [7,32] true ?_ | refine Ke (id := 6) tyOK (by kernel_rfl) [0, 1, 3, 3, 3, 3, 63, 127, 255, 511, 1023, 2047, 511, 8191, 16383, 32767, 511, 81919, 212991, 511, 999423, 2047999, 4145151, 8388607, 16777215, 33554431] (.node [0, 1, 2, 3, 4, 5, 6, 7, 8, 9, 12, 16, 19, 10, 11, 13, 17] 14 (.node [] 15 (.leaf [18, 20, 21, 22, 23, 24, 25]) 18 (.node [20] 15 (.leaf [21, 22, 23, 24, 25]) 21 (.node [] 15 (.leaf [22, 23, 24, 25]) 22 (.leaf [15, 23, 24, 25])))) 18 (.node [20] 14 (.node [] 15 (.leaf [21, 22, 23, 24, 25]) 21 (.node [] 15 (.leaf [22, 23, 24, 25]) 22 (.leaf [15, 23, 24, 25]))) 21 (.node [] 14 (.node [] 15 (.leaf [22, 23, 24, 25]) 22 (.leaf [15, 23, 24, 25])) 22 (.leaf [14, 15, 23, 24, 25])))) [6, 10, 11, 14, 15, 18, 21, 22, 23] [7, 8, 54, 61] 26 true (by kernel_rfl) ?_ | refine X3.mk ?_ ?_ | refine Qt.mk Qb.a ?_ | refine Qx.mk [_, _] _ Xo (fun _ h => ⟨h.2.2.1, h.2.2.2.1, trivial⟩) ?_ | refine Qx.mk [] _ q8 QX ?_ | refine Qx.mk [] _ q5 QX ?_ | refine Qx.mk [] _ q4 QX ?_ | refine Qc.is cla ?_ Kh | (refine Qc.mk [] _ [_] _ cg QW vt (fun v L' D' hq => ?_); obtain ⟨w, rfl, hw, rfl, rfl⟩ := hq) | (refine Qc.mk [] _ [] _ zx QW QX (fun v L' D' hq => ?_); obtain ⟨ta, tc, rfl, rfl, rfl⟩ := hq) | (refine Qc.mk [] _ [] _ Pn QW QX (fun v L' D' hq => ?_); obtain ⟨ua, uc, rfl, rfl, rfl⟩ := hq) | refine Qr.a 45 2 (Xe genTitles) (.inr fun m h => h.1) ?_ | refine Qr.a 45 2 (Xe genTitles) (.inr fun m h => h.2.1) ?_ | refine Qi.mk 45 _ (Xe genTitles) [.i .i64 tsp, .s tnm] (.inr fun m h => h.1) (by omega) (by omega) (by first | omega | decide) (by exact htt) ?_ | refine Qi.mk 45 _ (Xe genTitles) [.i .i64 tsp, .s tnm] (.inr fun m h => h.2.1) (by omega) (by omega) (by first | omega | decide) (by exact htt) ?_ | refine Qr.a 9 1 (VN.map C.s) (.inr fun m h => h.1) ?_ | refine Qr.a 9 1 (VN.map C.s) (.inr fun m h => h.2.1) ?_ | refine Qi.mk 9 _ (VN.map C.s) [.s usr] (.inr fun m h => h.1) (by omega) (by omega) (by first | omega | decide) (by exact hut) ?_ | refine Qi.mk 9 _ (VN.map C.s) [.s usr] (.inr fun m h => h.2.1) (by omega) (by omega) (by first | omega | decide) (by exact hut) ?_ | refine Qc.is (cu _ hw) ?_ (fun _ h => ⟨h.2.2.1, trivial⟩) | refine Qe.is rfl
end Go.Proofs
