/- This text turns a contract that gives a new row into one that gives memory that does not change. -/
import Derived.Test.YtcddpbpbebkdmaaGreatDoorK02
import Derived.Test.YtcddpbpbebkdmaaGreatDoorK15
import Derived.Test.YtcddpbpbebkdmaaGreatDoorK13
import Derived.Test.YtcddpbpbebkdmaaGreatDoorK12
import Derived.Test.YtcddpbpbebkdmaaGreatDoorK05
import Derived.Test.YtcddpbpbebkdmaaGreatDoorK10
import Derived.Test.YtcddpbpbebkdmaaGreatDoorK14
set_option linter.all false
namespace Go.X
open Go
theorem FnS.rowF {P : Program} {f : FuncId} {args : List V} {D : List Fact} {ety esz n : Nat} {cs : List C} (h : FnS P f args [] D (fun v L D => ∃ a c, v = .c (.sl a n c) ∧ L = [.row ety esz a n c cs] ∧ D = [])) : FnS P f args [] D (fun v L D => ∃ a c, v = .c (.sl a n c) ∧ L = [] ∧ D = [Qf ety esz a n cs]) :=
 h.entsP fun v L D ⟨a, c, h1, h2, h3⟩ => ⟨[], [Qf ety esz a n cs], by rw [h2, h3]; exact Qb.toFact, a, c, h1, rfl, rfl⟩
def awkL : List CHM := [⟨1, [97, 110, 110], [], 0, [65], 0, [], [120], 0, none, 0, []⟩, ⟨1, [], [], 0, [65], 0, [], [121], 0, none, 0, []⟩]
def Ov : List RV := [⟨1, [97, 110, 110], [], [120], 0, 1⟩, ⟨2, [], [], [121], 0, 1⟩]
def Nw : ST := ⟨1, 0, [⟨0, [65], Ov⟩], [], [], 0, [], [⟨[97, 110, 110], 1⟩]⟩
set_option maxRecDepth 100000 in
theorem RC : Q0 STM.nil.pl (awkL.map CHM.pl) = (Nw, 0) := by decide +kernel
set_option maxRecDepth 100000 in
theorem Un : Zl Nw = true := by decide +kernel
theorem awk_st {s : STM} (h : s.pl = Nw) : ∃ pa pc ha hc ga gc qa qc wa wc la lc, s = ⟨1, 0, pa, pc, [⟨0, [65], ha, hc, Ov⟩], ga, gc, [], qa, qc, [], 0, wa, wc, [], la, lc, [⟨[97, 110, 110], 1⟩]⟩ := by
 obtain ⟨sq, ck, pa, pc, pages, ga, gc, gone, qa, qc, props, pr, wa, wc, watches, la, lc, lasts⟩ := s
 simp only [STM.pl, Nw, ST.mk.injEq] at h
 obtain ⟨rfl, rfl, h1, h2, rfl, rfl, rfl, rfl⟩ := h
 have h2 : gone = [] := List.map_eq_nil_iff.1 h2
 subst h2
 match pages, h1 with
 | [⟨sp, nm, ha, hc, hist⟩], h1 =>
  simp only [List.map_cons, List.map_nil, PGM.pl, List.cons.injEq, SP.mk.injEq, and_true] at h1
  obtain ⟨rfl, rfl, rfl⟩ := h1
  exact ⟨pa, pc, ha, hc, ga, gc, qa, qc, wa, wc, la, lc, rfl⟩
 | [], h1 => simp at h1
 | _ :: _ :: _, h1 => simp at h1
theorem HX {pa pc ha hc ga gc qa qc wa wc la lc} : QO STM.nil ⟨1, 0, pa, pc, [⟨0, [65], ha, hc, Ov⟩], ga, gc, [], qa, qc, [], 0, wa, wc, [], la, lc, [⟨[97, 110, 110], 1⟩]⟩ = [(0, [65])] := by rfl
end Go.X
namespace Go.Proofs
open Go Go.X Tryz
set_option maxRecDepth 100000
set_option maxHeartbeats 4000000
theorem Xo : FnS prog 16 [] [] [gM, XH] (Is tt) := by
 have hz : ∀ c ∈ awkL, c.hist.length ≤ big := by decide
 have ca := fun a k => jy STM.nil a k awkL ⟨Nat.zero_le _, fun _ h => (by cases h), Nat.zero_le _, fun _ h => (by cases h), Nat.zero_le _, Nat.zero_le _, Nat.zero_le _⟩ (fun _ h => (by cases h)) (by decide) hz
 rw [RC] at ca
 have hch : ∀ m a, Z8 m 0 10 a 2 (Wi awkL) → NE m a awkL := fun m a h => ⟨h, fun c hc => by
  have : c.hist = [] := by
   rcases List.mem_cons.1 hc with rfl | hc
   ·rfl
   ·rw [List.mem_singleton.1 hc]
  rw [this]; exact Z8.nil⟩
 refine FJ 0 func16 ntmps16 (fun G => ?_)
 repeat' first | refine QF (c := .seq (.region 3 _ _) _) ?_ | refine Wk ?_ | refine Qa.mk (fun h => ?_) (fun h => ?_) | refine Qd.mk (fun ad => ?_) | (refine Qc.mkE [] _ [_, _, _, _] _ _ (ca _ _) Qb.toFact (fun _ h => ⟨YA.nil, hch _ _ h.1, h.2.1, h.2.2.1, trivial⟩) (fun v L' D' hq => ?_); obtain ⟨s, rfl, rfl, rfl, hpl⟩ := hq)
 rename_i ad0 ad1
 refine ⟨?_⟩
 obtain ⟨pa, pc, ha, hc, ga, gc, qa, qc, wa, wc, la, lc, hsd⟩ := awk_st hpl
 have sm : Vs s := (X.JM.1 (show Zl s.pl = true by rw [hpl]; exact Un)).2.2.small
 have cp := xG s 0 [65] sm.big.pages sm.ph
 have cv := YG s sm.big sm.ph
 have cl := vW s [97, 110, 110] sm.big.lasts
 have ct := wB STM.nil s ⟨Nat.zero_le _, fun _ h => (by cases h), Nat.zero_le _, fun _ h => (by cases h), Nat.zero_le _, Nat.zero_le _, Nat.zero_le _⟩ sm.big (Nat.zero_le _) sm.pages (fun _ h => (by cases h)) sm.ph
 rw [show QO STM.nil s = [(0, [65])] by rw [hsd]; exact HX] at ct
 rw [hpl, Un] at cv
 rw [show (s.pages.find? (X7 0 [65])) = some ⟨0, [65], ha, hc, Ov⟩ by rw [hsd]; rfl] at cp
 rw [show Yd s.lasts [97, 110, 110] = 1 by rw [hsd]; rfl] at cl
 change FnS _ _ _ _ _ (fun v L D => ∃ q : PGM, v = .t2 (.agg q.cells) tt ∧ L = [] ∧ D = [_] ∧ q.pl = ⟨0, [65], Ov⟩) at cp
 have cu := fun a k => Vo 73 ⟨0, [65], a, k, Ov⟩ (show 2 ≤ 140737488355328 by decide)
 change ∀ a k, FnS _ _ [.agg [.i .i64 0, .s [65], .sl a 2 k]] [] [Qf _ 6 a 2 (Zb Ov)] (Is (.agg [.i .i64 2, .s [], .s [], .s [121], .i .i64 0, .i .i64 1])) at cu
 have cs := fun a b c d => qF 45 45 a b c d [(0, [65])] (by decide)
 change ∀ a b c d, FnS _ _ [.c (.sl a 1 c), .c (.sl b 1 d)] [] [Qf _ 2 a 1 [.i .i64 0, .s [65]], Qf _ 2 b 1 [.i .i64 0, .s [65]]] (Is tt) at cs
 change FnS _ _ _ _ _ (fun v L D => ∃ c d, v = .c (.sl c 1 d) ∧ L = [.row 45 2 c 1 d [.i .i64 0, .s [65]]] ∧ D = []) at ct
 have hseq : s.seq = 1 := by rw [hsd]
 have ct := ct.rowF
 clear ca hch hz sm hpl hsd
 repeat' first | refine Qa.yes rfl ?_ | refine Wk ?_ | refine Qa.mk (fun h => ?_) (fun h => ?_) | refine Qd.mk (fun ad => ?_) | refine ZF (id := 4) tyOK (by kernel_rfl) [0, 1, 3, 7, 15, 31, 63, 127, 255, 511, 1023, 2047, 4095, 8191, 16383, 32767, 65535, 131071, 262143, 524287, 1048575, 2097151, 4194303, 8388607, 16777215, 33554431, 67108863, 134217727, 268435455, 536870911, 1073741823, 2147483647, 4294967295, 4294967295, 17179869183, 4294967295, 38654705663, 137438953471, 274877906943, 549755813887] [0, 1, 2, 3, 4, 5, 6, 7, 8, 9, 10, 11, 12, 13, 14, 15, 16, 17, 18, 19, 20, 21, 22, 23, 24, 25, 26, 27, 28, 29, 30, 31, 32, 33, 35] 34 [36, 37, 38, 39] 36 [34, 37, 38, 39] [34, 36, 37] [1, 2, 4] 40 false (by kernel_rfl) ?_ | refine X3.mk ?_ ?_ | refine Qt.mk Qb.a ?_ | (refine Qc.mk [] _ [_] _ cp QW Kh (fun v L' D' hq => ?_); obtain ⟨q, rfl, rfl, rfl, hq⟩ := hq; obtain ⟨qsp, qnm, q1, q2, qh⟩ := q; simp only [PGM.pl, SP.mk.injEq] at hq; obtain ⟨rfl, rfl, rfl⟩ := hq) | refine Qx.mk [_] _ (cu _ _) Kh ?_ | refine Qx.mk [_, _, _] _ cv (fun _ h => ⟨h.2.1, h.2.2.2.1, h.2.2.2.2.1, trivial⟩) ?_ | refine Qx.mk [_] _ cl vt ?_ | (refine Qc.mk [] _ [_, _] _ ct QW (fun _ h => ⟨YA.nil, h.2.1, trivial⟩) (fun v L' D' hq => ?_); obtain ⟨tc, td, rfl, rfl, rfl⟩ := hq) | refine Qc.isE (cs _ _ _ _) Qb.toFact (fun _ h => ⟨h.2.1, h.1, trivial⟩) ?_ | refine Qe.is rfl
end Go.Proofs
namespace Go.X
open Go Go.Lib
end Go.X
namespace Go.Proofs
open Go Go.X Tryz
set_option maxRecDepth 100000
set_option maxHeartbeats 4000000
end Go.Proofs
namespace Go.X
open Go Go.Lib
end Go.X
namespace Go.Proofs
open Go Go.X Tryz
set_option maxRecDepth 100000
set_option maxHeartbeats 4000000
theorem zx : FnS prog 33 [] [] [] (fun v L D => ∃ a c, v = .c (.sl a 8 c) ∧ L = [] ∧ D = [Qf 45 2 a 8 (Xe genTitles)]) := js.rowF
end Go.Proofs
namespace Go.X
open Go Go.Lib
theorem Sq (s : STM) (hs : Vs s) (sp : Int) (nm : Bs) : ∃ p : PGM, pageV (s.pages.find? (X7 sp nm)) = .t2 (.agg p.cells) (.c (.b (s.pages.find? (X7 sp nm)).isSome)) ∧ p.hist.length ≤ 1000 ∧ p.pl = (((s.pages.find? (X7 sp nm)).map PGM.pl).getD ⟨0, [], []⟩) ∧ ∀ m, YA m s → Z8 m 0 6 p.ha p.hist.length (Zb p.hist) := by
 cases h : s.pages.find? (X7 sp nm) with
 | none => exact ⟨⟨0, [], none, 0, []⟩, rfl, Nat.zero_le _, rfl, fun m _ => Z8.nil (e := 0)⟩
 | some p => exact ⟨p, rfl, hs.ph p (List.mem_of_find?_eq_some h), rfl, fun m hm => hm.pages.his p (List.mem_of_find?_eq_some h)⟩
end Go.X
namespace Go.Proofs
open Go Go.X Tryz
set_option maxRecDepth 100000
set_option maxHeartbeats 4000000
end Go.Proofs
