/- This text walks through Few of the made values and the statement StateApplies of chapter 27. -/
import Derived.Test.YtcddpbpbebkdmaaGreatDoorKxSVl
import Derived.Test.YtcddpbpbebkdmaaGreatDoorKxSAp
set_option linter.all false
namespace Go.X
open Go Go.Lib
theorem chm_f5 {l : List CHM} {i : Nat} (h : i < l.length) : ((Wi l).drop (i * 10 + 7)).take 1 = [.s l[i].text] := by
 rw [Wi, QL (F := CHM.cells) (z := 10) (fun _ => rfl) h (by omega)]; rfl
theorem chm_f2 {l : List CHM} {i : Nat} (h : i < l.length) : ((Wi l).drop (i * 10 + 2)).take 1 = [.s l[i].note] := by
 rw [Wi, QL (F := CHM.cells) (z := 10) (fun _ => rfl) h (by omega)]; rfl
theorem chm_f7 {l : List CHM} {i : Nat} (h : i < l.length) : ((Wi l).drop (i * 10 + 9)).take 1 = [.sl l[i].ha l[i].hist.length l[i].hc] := by
 rw [Wi, QL (F := CHM.cells) (z := 10) (fun _ => rfl) h (by omega)]; rfl
end Go.X
namespace Go.Proofs
open Go Go.X Tryz
set_option maxRecDepth 100000
set_option maxHeartbeats 4000000
theorem few_ok (a : Option Addr) (k : Nat) (l : List CHM) (hl : l.length ≤ 9223372036854775807) (hh : ∀ c ∈ l, c.hist.length ≤ 9223372036854775807) : FnS prog 21 [.c (.sl a l.length k)] [] [WQ a l] (Oz (l.length ≤ 20 ∧ ∀ c ∈ l, c.hist.length ≤ 6)) := by
 have hrd : ∀ L, Qp L [WQ a l] 0 10 a l.length (Wi l) := fun L => .inr fun m h => h.1.row
 refine FJ 0 func21 ntmps21 (fun G => ?_)
 repeat' first | refine Qe.mk [] [] ⟨false, rfl, (fun h => absurd h (by decide)), rfl, rfl⟩ Qb.z | refine Wk ?_ | refine Qa.mk (fun h => ?_) (fun h => ?_) | refine Qd.mk (fun ad => ?_) | refine Qn (α := Nat) (fun i => [(0, .c (.sl a l.length k)), (3, .c (.i .i64 i))]) (fun _ => []) (fun _ => [WQ a l]) 0 (fun i => i ≤ l.length ∧ l.length ≤ 20 ∧ ∀ c ∈ l.take i, c.hist.length ≤ 6) (fun i => l.length - i) (Qq.mk 0 ⟨Nat.zero_le _, by omega, fun _ h => by cases h⟩ Qh.a (Qb.refl _ _)) (fun i hx => QF ?_)
 refine ⟨?_⟩
 obtain ⟨hi, h10, hal⟩ := hx
 by_cases hlt : i < l.length
 ·have hg5 := chm_f5 hlt
  have hg2 := chm_f2 hlt
  have hg7 := chm_f7 hlt
  have hmem : l[i] ∈ l := List.getElem_mem hlt
  have hnext : l[i].hist.length ≤ 6 → ∀ p ∈ l.take (i + 1), p.hist.length ≤ 6 := fun h r hr => by
   rw [List.take_succ_eq_append_getElem hlt] at hr
   rcases List.mem_append.1 hr with hr | hr
   ·exact hal r hr
   ·rw [List.mem_singleton.1 hr]; exact h
  clear hal
  generalize l[i] = x at *
  have hhx := hh x hmem
  have hrh : ∀ L, Qp L [WQ a l] 0 6 x.ha x.hist.length (Zb x.hist) := fun L => .inr fun m h => h.1.his x hmem
  repeat' first | refine Qe.mk [] [] ⟨false, rfl, (fun h => absurd h (by decide)), rfl, rfl⟩ Qb.z | refine Wk ?_ | refine Qa.mk (fun h => ?_) (fun h => ?_) | refine Qd.mk (fun ad => ?_) | refine Ds (id := 6) [0,0,3,7,15,31,0,0,192,448,960,1984,4095,8191,16383,32767,32767,131071,262143,524287,1048575,2097151,4194303] [0,1,2,3,4,5,6,7,8,9,10,11,12,13,14,15,16,17,18,19,20,21,22] [] [16,22,31] true ?_ | refine Qt.mk Qb.a ?_ | refine Gt.wrap ?_ | refine Qr.a 0 10 _ (hrd _) ?_ | refine Zv.mk 0 10 _ _ (hrd _) (by omega) ?_ | refine Qi.mk 0 _ _ [.s x.text] (hrd _) (by omega) (by omega) (by first | omega | decide) (by exact hg5) ?_ | refine Qi.mk 0 _ _ [.s x.note] (hrd _) (by omega) (by omega) (by first | omega | decide) (by exact hg2) ?_ | refine Qi.mk 0 _ _ [.sl x.ha x.hist.length x.hc] (hrd _) (by omega) (by omega) (by first | omega | decide) (by exact hg7) ?_ | refine Qn (α := Nat) (fun k' => [(0, .c (.sl a l.length k)), (3, .c (.i .i64 i)), (4, .c (.i .i64 k'))]) (fun _ => []) (fun _ => [WQ a l]) 0 (fun k' => k' ≤ x.hist.length ∧ x.hist.length ≤ 6) (fun k' => x.hist.length - k') (Qq.mk 0 ⟨Nat.zero_le _, by omega⟩ Qh.a (Qb.refl _ _)) (fun k' hx => QF ?_)
  refine ⟨?_⟩
  obtain ⟨hk, h6⟩ := hx
  by_cases hkl : k' < x.hist.length
  ·have hg3 := UJ hkl
   clear hnext
   generalize x.hist[k'] = y at *
   repeat' first | refine Qe.mk [] [] ⟨false, rfl, (fun h => absurd h (by decide)), rfl, rfl⟩ Qb.z | refine Wk ?_ | refine Qa.mk (fun h => ?_) (fun h => ?_) | refine Qd.mk (fun ad => ?_) | refine Qr.a 0 10 _ (hrd _) ?_ | refine Zv.mk 0 10 _ _ (hrd _) (by omega) ?_ | refine Qi.mk 0 _ _ [.sl x.ha x.hist.length x.hc] (hrd _) (by omega) (by omega) (by first | omega | decide) (by exact hg7) ?_ | refine Qr.a 0 6 _ (hrh _) ?_ | refine Zv.mk 0 6 _ _ (hrh _) (by omega) ?_ | refine Qi.mk 0 _ _ [.s y.text] (hrh _) (by omega) (by omega) (by first | omega | decide) (by exact hg3) ?_ | refine Qo.mk (k' + 1) (by omega) ⟨by omega, h6⟩ Qh.a Qb.a
  ·have hke : k' = x.hist.length := by omega
   subst hke
   have hnext := hnext h6
   repeat' first | refine Wk ?_ | refine Qa.mk (fun h => ?_) (fun h => ?_) | refine Qd.mk (fun ad => ?_) | refine Qr.a 0 10 _ (hrd _) ?_ | refine Zv.mk 0 10 _ _ (hrd _) (by omega) ?_ | refine Qi.mk 0 _ _ [.sl x.ha x.hist.length x.hc] (hrd _) (by omega) (by omega) (by first | omega | decide) (by exact hg7) ?_ | refine Qo.mk (i + 1) (by omega) ⟨by omega, h10, hnext⟩ Qh.a Qb.a
 ·have hil : i = l.length := by omega
  subst hil
  rw [List.take_length] at hal
  repeat' first | refine Wk ?_ | refine Qa.mk (fun h => ?_) (fun h => ?_) | refine Qd.mk (fun ad => ?_) | refine Qe.mk [] [] ⟨true, rfl, (fun _ => ⟨h10, hal⟩), rfl, rfl⟩ Qb.z
theorem kK (e e2 : Nat) (a a2 : Option Addr) (c c2 : Nat) (l m : List Int) (hl : l.length ≤ maxLen) (hm : m.length ≤ maxLen) (s : STM) (h1 : s.pages.length ≤ 9223372036854775807) (h2 : ∀ p ∈ s.pages, p.hist.length ≤ 9223372036854775807) (h3 : s.gone.length ≤ 9223372036854775807) (h4 : ∀ p ∈ s.gone, p.hist.length ≤ 9223372036854775807)
  (ra : Option Addr) (rk : Nat) (raw : List CHM) (k1 : raw.length ≤ 9223372036854775807) (k2 : ∀ c ∈ raw, c.hist.length ≤ 9223372036854775807) (how x : Int) (hx0 : -9223372036854775808 ≤ x) (hx1 : x ≤ 9223372036854775807) :
  FnS prog 4 [.agg s.cells, .c (.sl ra raw.length rk), .c (.sl a l.length c), .c (.sl a2 m.length c2), .c (.i .i64 how), .c (.i .i64 x)] [] [QG s, WQ ra raw, Zj e a l, Zj e2 a2 m, gM, XH] (Is tt) := by
 have cs := YC s h1 h2 h3 h4
 have ct := few_ok ra rk raw k1 k2
 have cg := KY e a c l hl
 have cf := qL e2 a2 c2 m hm
 refine FJ 0 func4 ntmps4 (fun G => ?_)
 repeat' first | refine QF (c := .seq (.region 4 _ _) _) ?_ | refine Wk ?_ | refine Qa.mk (fun h => ?_) (fun h => ?_) | refine Qd.mk (fun ad => ?_) | (refine Qc.mk [] _ [_] _ cs QW Kh (fun v L' D' hq => ?_); obtain ⟨b, rfl, hb, rfl, rfl⟩ := hq; cases b) | (refine Qc.mk [] _ [_] _ ct QW vt (fun v L' D' hq => ?_); obtain ⟨b2, rfl, hb2, rfl, rfl⟩ := hq; cases b2) | refine Qc.is Xo ?_ (fun _ h => by simp only [QI, Qs, List.cons_append, List.nil_append, and_true] at h ⊢; simp only [h, and_self]) | (refine Qc.mk [] _ [_] _ cg QW (fun _ h => ⟨h.2.2.1, trivial⟩) (fun v L' D' hq => ?_); obtain ⟨u, rfl, hu, rfl, rfl⟩ := hq) | refine Qe.is rfl
 refine ⟨?_⟩
 have hs := hb rfl
 obtain ⟨w1, w2⟩ := hb2 rfl
 obtain ⟨hus, hc0, hc1⟩ := XY hu.valid
 have hsq := hu.seq_le
 change u.seq ≤ _ at hsq
 have ca := yN u how x hu.valid (by omega) hx0 hx1
 have ch := fun ad g hg => KF e2 a2 c2 ad m g u.clk hg hm hc0 hc1
 have ch0 := fun ad g hg => KF e2 a2 c2 ad m g 0 hg hm (by omega) (by omega)
 have ap1 := zX s hs ra rk raw (by simp only [big]; omega) (fun c hc => by have := w2 c hc; simp only [big]; omega)
 have ap2 := zX u hus ra rk raw (by simp only [big]; omega) (fun c hc => by have := w2 c hc; simp only [big]; omega)
 have ap := fun (t : STM) (ht : Vs t) b k (cs : List CHM) (h2 : cs.length ≤ 2) (hm : ∀ ch ∈ cs, qB ch.pl) => zX t ht b k cs (by simp only [big]; omega) (fun ch hch => by have := (hm ch hch).len; have h3 : ch.pl.hist = ch.hist := rfl; rw [h3] at this; simp only [big]; omega)
 clear hb hb2 cs ct cg h1 h2 h3 h4 k1 k2
 repeat' first | refine Wk ?_ | refine Qa.mk (fun h => ?_) (fun h => ?_) | refine Qd.mk (fun ad => ?_) | refine Ds (id := 4) [0,1,3,3,15,31,63,127,127,511,1023,2047,4095,4095,12287,4095,36863,126975,262143,524287,1048575,2097151,2097151,2097151,16777215,2097151,67108863,134217727,268435455,536870911,1073741823] [0,1,2,3,4,5,6,7,8,9,10,11,12,13,15,16,14,17,18,19,20,21,22,23,25,24,26,27,28,29,30] [4,9,14,17,18,24,26,27,28] [6,13] true ?_ | refine Qt.mk Qb.a ?_ | refine Qx.mk [gM, XH] _ Xo (fun _ h => by simp only [QI, Qs, List.cons_append, List.nil_append, and_true] at h ⊢; simp only [h, and_self]) ?_ | refine Qc.is ap1 ?_ (fun _ h => by simp only [QI, Qs, List.cons_append, List.nil_append, and_true] at h ⊢; simp only [h, and_self]) | refine Qc.is ap2 ?_ (fun _ h => by simp only [QI, Qs, List.cons_append, List.nil_append, and_true] at h ⊢; simp only [h, and_self]) | (refine Qc.mk [] _ [_] _ cf QW (fun _ h => by simp only [QI, Qs, List.cons_append, List.nil_append, and_true] at h ⊢; simp only [h, and_self]) (fun v L' D' hp => ?_); obtain ⟨ad0, rfl, rfl, rfl⟩ := hp) | (refine Qc.mk [_] _ [Zj e2 a2 m] _ (ch _ _ (qi m)) QW (fun _ h => by simp only [QI, Qs, List.cons_append, List.nil_append, and_true] at h ⊢; simp only [h, and_self]) (fun v L' D' hp => ?_); obtain ⟨b, k, cs, g2, rfl, n1, n2, hmc, hg2, rfl, rfl⟩ := hp) | refine Qc.is (ap u hus b k cs n2 hmc) ?_ (fun _ h => by simp only [QI, Qs, List.cons_append, List.nil_append, and_true] at h ⊢; simp only [h, and_self]) | (refine Qc.mk [] _ [QG u] _ ca QW (fun _ h => by simp only [QI, Qs, List.cons_append, List.nil_append, and_true] at h ⊢; simp only [h, and_self]) (fun v L' D' hq => ?_); obtain ⟨t, rfl, rfl, rfl, ht⟩ := hq) | (refine Qc.mk [_] _ [Zj e2 a2 m] _ (ch0 _ _ (qi m)) QW (fun _ h => by simp only [QI, Qs, List.cons_append, List.nil_append, and_true] at h ⊢; simp only [h, and_self]) (fun v L' D' hp => ?_); obtain ⟨b', k', cs', g3, rfl, n3, n4, hmc', hg3, rfl, rfl⟩ := hp) | refine Qc.is (ap t ht b' k' cs' n4 hmc') ?_ (fun _ h => by simp only [QI, Qs, List.cons_append, List.nil_append, and_true] at h ⊢; simp only [h, and_self]) | refine Qe.is rfl
end Go.Proofs
