/- This text walks through the statement StateValid of chapter 27. -/
import Derived.Test.YtcddpbpbebkdmaaGreatDoorK16
import Derived.Test.YtcddpbpbebkdmaaGreatDoorKxAltT
set_option linter.all false
namespace Go.X
open Go Go.Lib
theorem WW.seq_le {n : Nat} {s : ST} (h : WW n s) : s.seq ≤ n := by
 induction h with
 | start p hp =>
  by_cases h0 : (Q0 ST.nil [PW p]).2 = 0
  ·rw [(J0 h0).2.1]; simp [ST.nil]
  ·rw [qO h0]; simp [ST.nil]
 | step h l hl h1 h2 he ih => rw [(J0 he).2.1]; omega
 | more h ih => omega
end Go.X
namespace Go.Proofs
open Go Go.X Tryz
set_option maxRecDepth 100000
set_option maxHeartbeats 4000000
theorem yV (e : Nat) (a : Option Addr) (c : Nat) (l : List Int) (hl : l.length ≤ maxLen) (s : STM) (h1 : s.pages.length ≤ 9223372036854775807) (h2 : ∀ p ∈ s.pages, p.hist.length ≤ 9223372036854775807) (h3 : s.gone.length ≤ 9223372036854775807) (h4 : ∀ p ∈ s.gone, p.hist.length ≤ 9223372036854775807) (how x : Int) (hx0 : -9223372036854775808 ≤ x) (hx1 : x ≤ 9223372036854775807) :
  FnS prog 3 [.agg s.cells, .c (.sl a l.length c), .c (.i .i64 how), .c (.i .i64 x)] [] [QG s, Zj e a l, gM, XH] (Is tt) := by
 have cs := YC s h1 h2 h3 h4
 have cg := KY e a c l hl
 refine FJ 0 func3 ntmps3 (fun G => ?_)
 repeat' first | refine QF (c := .seq (.region 4 _ _) _) ?_ | refine Wk ?_ | refine Qa.mk (fun h => ?_) (fun h => ?_) | refine Qd.mk (fun ad => ?_) | (refine Qc.mk [] _ [_] _ cs QW Kh (fun v L' D' hq => ?_); obtain ⟨b, rfl, hb, rfl, rfl⟩ := hq; cases b) | refine Qc.is Xo ?_ (fun _ h => ⟨h.2.2.1, h.2.2.2.1, trivial⟩) | (refine Qc.mk [] _ [_] _ cg QW vt (fun v L' D' hq => ?_); obtain ⟨u, rfl, hu, rfl, rfl⟩ := hq) | refine Qe.is rfl
 refine ⟨?_⟩
 have hs := hb rfl
 have hus := (XY hu.valid).1
 have hsq := hu.seq_le
 change u.seq ≤ _ at hsq
 have ca := yN u how x hu.valid (by omega) hx0 hx1
 clear hb cs cg h1 h2 h3 h4
 repeat' first | refine QF (c := .seq (.region 5 _ _) _) ?_ | refine Wk ?_ | refine Qa.mk (fun h => ?_) (fun h => ?_) | refine Qd.mk (fun ad => ?_) | (refine Qc.mk [] _ [_] _ ca QW Kh (fun v L' D' hq => ?_); obtain ⟨t, rfl, rfl, rfl, ht⟩ := hq)
 refine ⟨?_⟩
 have p1 := YG s hs.big hs.ph
 have r1 := Y0 s hs.big
 have p2 := YG u hus.big hus.ph
 have p3 := YG t ht.big ht.ph
 have r3 := Y0 t ht.big
 rw [hu.valid] at p2
 generalize Zl s.pl = b1 at *
 generalize Zl t.pl = b3 at *
 clear ca
 repeat' first | refine Qa.yes rfl ?_ | refine Wk ?_ | refine Qa.mk (fun h => ?_) (fun h => ?_) | refine Qd.mk (fun ad => ?_) | refine Ds (id := 5) [0,1,3,7,3,31,63,127,255,511,1023,2047,4095,8191,16383,8191,65535,131071,262143,524287] [0,1,2,3,4,5,6,7,8,9,10,11,12,13,14,15,16,17,18,19] [] [4,9,10] true ?_ | refine Qt.mk Qb.a ?_ | refine Qx.mk [gM, XH] _ Xo (fun _ h => by simp only [QI, Qs, List.cons_append, List.nil_append, and_true] at h ⊢; simp only [h, and_self]) ?_ | refine Qx.mk [QG s, gM, XH] _ p1 (fun _ h => by simp only [QI, Qs, List.cons_append, List.nil_append, and_true] at h ⊢; simp only [h, and_self]) ?_ | refine Qx.mk [QG s] _ r1 (fun _ h => by simp only [QI, Qs, List.cons_append, List.nil_append, and_true] at h ⊢; simp only [h, and_self]) ?_ | refine Qx.mk [QG u, gM, XH] _ p2 (fun _ h => by simp only [QI, Qs, List.cons_append, List.nil_append, and_true] at h ⊢; simp only [h, and_self]) ?_ | refine Qx.mk [QG t, gM, XH] _ p3 (fun _ h => by simp only [QI, Qs, List.cons_append, List.nil_append, and_true] at h ⊢; simp only [h, and_self]) ?_ | refine Qx.mk [QG t] _ r3 (fun _ h => by simp only [QI, Qs, List.cons_append, List.nil_append, and_true] at h ⊢; simp only [h, and_self]) ?_ | refine Qe.is rfl
end Go.Proofs
