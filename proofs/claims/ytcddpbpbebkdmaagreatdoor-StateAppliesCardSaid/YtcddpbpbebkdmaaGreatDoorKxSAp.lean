/- This text walks through the function applies and the statement StateKeeps of chapter 27. -/
import Derived.Test.YtcddpbpbebkdmaaGreatDoorK16
import Derived.Test.YtcddpbpbebkdmaaGreatDoorK13
import Derived.Test.YtcddpbpbebkdmaaGreatDoorK10
set_option linter.all false
namespace Go.X
open Go Go.Lib
theorem zn {s : ST} {l : List CH} {t : STM} (h : t.pl = (Q0 s l).1) : Vs t := by
 by_cases h0 : (Q0 s l).2 = 0
 ·exact (XY (s := t) (by rw [h]; exact (J0 h0).1)).1
 ·rw [qO h0] at h
  exact (XY (s := t) (by rw [h]; exact vS)).1
end Go.X
namespace Go.Proofs
open Go Go.X Tryz
set_option maxRecDepth 100000
set_option maxHeartbeats 4000000
theorem zX (s : STM) (hs : Vs s) (a : Option Addr) (k : Nat) (l : List CHM) (hl : l.length ≤ big) (hh : ∀ c ∈ l, c.hist.length ≤ big) : FnS prog 22 [.agg s.cells, .c (.sl a l.length k)] [] [QG s, WQ a l, gM, XH] (Is tt) := by
 have ca := jy s a k l hs.big hs.ph hl hh
 have cb := Vr s a k l hs.big hl hh
 refine FJ 0 func22 ntmps22 (fun G => ?_)
 repeat' first | refine QF (c := .seq (.region 3 _ _) _) ?_ | refine Wk ?_ | refine Qa.mk (fun h => ?_) (fun h => ?_) | refine Qd.mk (fun ad => ?_) | (refine Qc.mk [] _ [_, _, _, _] _ ca QW (fun _ h => h) (fun v L' D' hq => ?_); obtain ⟨x, rfl, rfl, rfl, hx⟩ := hq) | (refine Qc.mk [] _ [_, _] _ cb QW (fun _ h => ⟨h.2.1, h.2.2.1, trivial⟩) (fun v L' D' hq => ?_); obtain ⟨y, rfl, rfl, rfl, hy⟩ := hq)
 refine ⟨?_⟩
 have cs := xv x y (hx.trans hy.symm) (zn hx).big
 clear ca cb
 generalize (Q0 s.pl (l.map CHM.pl)).2 = E at *
 repeat' first | refine Qa.yes rfl ?_ | refine Wk ?_ | refine Qa.mk (fun h => ?_) (fun h => ?_) | refine Qd.mk (fun ad => ?_) | refine Qc.is cs ?_ (fun _ h => ⟨h.2.1, h.1, trivial⟩) | refine Qe.is rfl
theorem yX (e e2 : Nat) (a a2 : Option Addr) (c c2 : Nat) (l m : List Int) (hl : l.length ≤ maxLen) (hm : m.length ≤ maxLen) :
  FnS prog 6 [.c (.sl a l.length c), .c (.sl a2 m.length c2)] [] [Zj e a l, Zj e2 a2 m, gM, XH] (Is tt) := by
 have cg := KY e a c l hl
 have cf := qL e2 a2 c2 m hm
 refine FJ 0 func6 ntmps6 (fun G => ?_)
 repeat' first | refine QF (c := .seq (.region 2 _ _) _) ?_ | refine Wk ?_ | refine Qa.mk (fun h => ?_) (fun h => ?_) | refine Qd.mk (fun ad => ?_) | (refine Qc.mk [] _ [_] _ cg QW Kh (fun v L' D' hq => ?_); obtain ⟨u, rfl, hu, rfl, rfl⟩ := hq)
 refine ⟨?_⟩
 have huv := hu.valid
 obtain ⟨hus, hc0, hc1⟩ := XY huv
 obtain ⟨v1, v2, _⟩ := X.JM.1 huv
 change 0 ≤ u.seq at v1
 change u.seq ≤ 1073741824 at v2
 have ch := fun ad => KF e2 a2 c2 ad m (gs0 m) u.clk (qi m) hm hc0 hc1
 have ap := fun b k (cs : List CHM) (h2 : cs.length ≤ 2) (hm : ∀ ch ∈ cs, qB ch.pl) => jy u b k cs hus.big hus.ph (by simp only [big]; omega) (fun ch hch => by have := (hm ch hch).len; have h3 : ch.pl.hist = ch.hist := rfl; rw [h3] at this; simp only [big]; omega)
 clear cg
 repeat' first | refine QF (c := .seq (.region 3 _ _) _) ?_ | refine Wk ?_ | refine Qa.mk (fun h => ?_) (fun h => ?_) | refine Qd.mk (fun ad => ?_) | refine Ke (id := 2) tyOK (by kernel_rfl) [0, 0, 2, 0, 8, 30, 63, 127, 255, 255, 0, 1535, 4095] (.node [0, 1, 3, 4] 2 (.node [] 5 (.node [] 6 (.leaf [7, 8, 9, 10, 11, 12]) 10 (.leaf [6, 7, 8, 9, 11, 12])) 10 (.leaf [5, 6, 7, 8, 9, 11, 12])) 10 (.leaf [2, 5, 6, 7, 8, 9, 11, 12])) [2, 5, 6, 10, 11] [5] 13 true (by kernel_rfl) ?_ | refine X3.mk ?_ ?_ | refine Qt.mk Qb.a ?_ | (refine Qc.mk [] _ [_] _ cf QW (fun _ h => ⟨h.2.2.1, trivial⟩) (fun v L' D' hp => ?_); obtain ⟨ad0, rfl, rfl, rfl⟩ := hp) | (refine Qc.mk [_] _ [_] _ (ch _) QW (fun _ h => ⟨h.2.2.1, trivial⟩) (fun v L' D' hp => ?_); obtain ⟨b, k, cs, g2, rfl, h1, h2, hmc, hg2, rfl, rfl⟩ := hp) | (refine Qc.mk [_] _ [_] _ (ch _) (List.Perm.swap _ _ _) (fun _ h => ⟨h.2.2.1, trivial⟩) (fun v L' D' hp => ?_); obtain ⟨b, k, cs, g2, rfl, h1, h2, hmc, hg2, rfl, rfl⟩ := hp) | (refine Qc.mk [] _ [_, _, _, _] _ (ap b k cs h2 hmc) QW (fun _ h => by simp only [QI, Qs, List.cons_append, List.nil_append, and_true] at h ⊢; simp only [h, and_self]) (fun v L' D' hq => ?_); obtain ⟨t, rfl, rfl, rfl, ht⟩ := hq)
 all_goals
  refine ⟨?_⟩
  have hts := zn ht
  clear ch ap cf
  by_cases h0 : (Q0 u.pl (cs.map CHM.pl)).2 = 0
  ·have cv := Y0 t hts.big
   have hv := J0 h0
   rw [ht, hv.1] at cv
   have hsq : t.seq = u.seq + 1 := (congrArg ST.seq ht).trans hv.2.1
   rw [h0]
   clear ht hv h0
   repeat' first | refine Qa.yes rfl ?_ | refine Wk ?_ | refine Qa.mk (fun h => ?_) (fun h => ?_) | refine Qd.mk (fun ad => ?_) | refine Qc.is Xo ?_ (fun _ h => by simp only [QI, Qs, List.cons_append, List.nil_append, and_true] at h ⊢; simp only [h, and_self]) | refine Qc.is cv ?_ (fun _ h => by simp only [QI, Qs, List.cons_append, List.nil_append, and_true] at h ⊢; simp only [h, and_self]) | refine Qe.is rfl
  ·have cs0 := xv t STM.nil (by rw [ht, qO h0]; rfl) hts.big
   generalize (Q0 u.pl (cs.map CHM.pl)).2 = E at *
   repeat' first | refine Wk ?_ | refine Qa.mk (fun h => ?_) (fun h => ?_) | refine Qd.mk (fun ad => ?_) | refine Qc.is Xo ?_ (fun _ h => by simp only [QI, Qs, List.cons_append, List.nil_append, and_true] at h ⊢; simp only [h, and_self]) | refine Qc.is cs0 ?_ (fun _ h => ⟨h.1, YA.nil, trivial⟩) | refine Qe.is rfl
end Go.Proofs
