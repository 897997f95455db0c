/- This text walks through the functions of the package state that look at a state: lists, ownPage, Page, ruled, Valid, Revision, LastOf. -/
import Derived.Test.YtcddpbpbebkdmaaGreatDoorK05
import Derived.Test.YtcddpbpbebkdmaaGreatDoorK03
import Derived.Test.YtcddpbpbebkdmaaGreatDoorK07
import Derived.Test.YtcddpbpbebkdmaaGreatDoorK12
set_option linter.all false
namespace Go.X
open Go Go.Lib
theorem RN (s : ST) : Zl s = true ↔ 0 ≤ s.seq ∧ s.seq ≤ 1073741824 ∧ 0 ≤ s.clk ∧ s.clk ≤ 52595999 ∧ Vb s = true ∧ Kq s = true ∧ Ku s = true ∧ Ko s = true := by
 rw [jU, Sp, Bool.and_eq_true]
 constructor
 ·rintro ⟨a, b, c, d, ⟨e, f⟩, g, h⟩; exact ⟨a, b, c, d, e, g, h, f⟩
 ·rintro ⟨a, b, c, d, e, g, h, f⟩; exact ⟨a, b, c, d, ⟨e, f⟩, g, h⟩
theorem Pd {sp : Int} {nm : Bs} {p : PGM} : X7 sp nm p = true ↔ p.sp = sp ∧ p.nm = nm := by simp [X7]
theorem G7 {s : STM} (h : Vb s.pl = true) : ∀ p ∈ s.pages, ((J1 p.hist).text.length : Int) ≤ 8192 := fun p hp => by
 obtain ⟨_, _, h3, _⟩ := (w6 s).1 h
 obtain ⟨j, hj, e⟩ := List.getElem_of_mem hp
 have h1 := (h3 j hj).1
 rw [Z6 hj, e] at h1
 exact HJ (Q4.1 h1).2
end Go.X
namespace Go.Proofs
open Go Go.X Tryz
set_option maxRecDepth 100000
set_option maxHeartbeats 4000000
theorem Nc (s : STM) (hs : Gp s) : FnS prog 60 [.agg s.cells] [] [QG s, gM] (Is (.c (.b (Ku s.pl)))) := by
  have hl1 := ZQ hs.watches
  have hl2 := ZQ hs.lasts
  have hrd : ∀ L, Qp L [QG s, gM] 0 3 s.wa s.watches.length (ZM s.watches) := fun L => .inr fun m h => h.1.watches
  have hrl : ∀ L, Qp L [QG s, gM] 0 2 s.la s.lasts.length (ZV s.lasts) := fun L => .inr fun m h => h.1.lasts
  have hW := yi s
  generalize Ku s.pl = W at *
  refine FJ 0 func60 ntmps60 (fun G => ?_)
  repeat' first | refine Wk ?_ | refine Qa.mk (fun h => ?_) (fun h => ?_) | refine Qd.mk (fun ad => ?_) | refine Qe.bool (ZL hW fun h => ?_)
  · omega
  · omega
  refine Qn (α := Nat) (fun i => [(1, .c (.p 0 ad 0)), (18, .c (.sl s.wa s.watches.length s.wc)), (19, .c (.i .i64 s.watches.length)), (20, .c (.i .i64 i))]) (fun _ => [.box 0 ad 27 s.cells]) (fun _ => [QG s, gM]) 1
    (fun i => i ≤ s.watches.length ∧ ∀ j, j < i → Pk s j) (fun i => s.watches.length - i) (Qq.mk 0 ⟨Nat.zero_le _, fun j h => absurd h (Nat.not_lt_zero j)⟩ Qh.a (Qb.refl _ _)) (fun i hx => ?_)
  obtain ⟨hi, hn⟩ := hx
  by_cases hlt : i < s.watches.length
  · have hg := VH hlt
    have hA : Pk s i ↔ Pk s i := Iff.rfl
    conv at hA => rhs; rw [Pk, Z6 hlt, Nb]
    have hnext : Pk s i → ∀ j, j < i + 1 → Pk s j := fun h j hj => by
      by_cases e : j = i
      · subst e; exact h
      · exact hn j (by omega)
    have cn := Vd s.watches[i].user
    have cv := YI s.watches[i].sp s.watches[i].nm
    have cb := zm (s.watches.getD (i - 1) default) s.watches[i]
    have hg1 : 0 < i → ((ZM s.watches).drop (((i : Int) - 1).toNat * 3 + 0)).take 3 = (s.watches.getD (i - 1) default).cells := fun h0 => by
      rw [show ((i : Int) - 1).toNat = i - 1 by omega, Z6 (show i - 1 < s.watches.length by omega)]; exact VH (by omega)
    generalize s.watches[i] = p at *
    generalize s.watches.getD (i - 1) default = q at *
    generalize cfW q p = k at *
    cases hv : QV p.user
    all_goals cases hh : Qw p.sp p.nm
    all_goals
      rw [hv] at cn hA
      rw [hh] at cv hA
      repeat' first | refine Wk ?_ | refine Qa.mk (fun h => ?_) (fun h => ?_) | refine Qd.mk (fun ad => ?_) | refine Ds (id := 6) [0,1,3,7,15,31,63,127,255,511,1023,2047,4095,8191,16383,32767,16383,81919,262143,524287,16383,2097151,4194303,8388607,16777215] [0,1,2,3,4,5,6,7,8,9,10,11,12,13,14,15,16,17,18,19,20,21,22,23,24] [] [1,4,43] true ?_ | refine Ds (id := 12) [0,1,3,7,15,31,63,127,255,511,1023,2047,1023,5119,16383,32767,65535,131071,262143,524287,1048575,2097151,1048575,5242879,16777215,33554431,67108863,1048575,135266303,536870911,1073741823,2147483647] [0,1,2,3,4,5,6,7,8,9,10,11,12,13,14,15,16,17,18,19,20,21,22,23,24,25,26,27,28,29,30,31] [] [1,6,83] true ?_ | refine Qt.mk Qb.a ?_ | refine Qr.a 0 3 _ (hrd _) ?_ | refine Qi.a 0 _ _ p.cells (hrd _) (by exact hg) ?_ | refine Qi.a 0 _ _ q.cells (hrd _) (by exact hg1 (by omega)) ?_ | refine Qx.mk [] _ cn QX ?_ | refine Qx.mk [_] _ cv vt ?_ | refine Qx.mk [] _ cb QX ?_ | refine Qe.bool (ZL hW fun h => ?_) | refine Qo.mk (i + 1) (by omega) ⟨by omega, hnext (hA.2 ⟨rfl, rfl, fun _ => by omega⟩)⟩ Qh.a Qb.a
    all_goals
      have hB := hA.1 (h.2.2.1 i hlt)
      first
        | (cases hB.1; done)
        | (cases hB.2.1; done)
        | (have := hB.2.2 (by omega); omega)
  · have hil : i = s.watches.length := by omega
    subst hil
    clear hi hlt
    repeat' first | refine Wk ?_ | refine Qa.mk (fun h => ?_) (fun h => ?_) | refine Qd.mk (fun ad => ?_)
    refine Qn (α := Nat) (fun i => [(1, .c (.p 0 ad 0)), (52, .c (.sl s.la s.lasts.length s.lc)), (53, .c (.i .i64 s.lasts.length)), (54, .c (.i .i64 i))]) (fun _ => [.box 0 ad 27 s.cells]) (fun _ => [QG s, gM]) 1
      (fun i => i ≤ s.lasts.length ∧ ∀ j, j < i → P2 s j) (fun i => s.lasts.length - i) (Qq.mk 0 ⟨Nat.zero_le _, fun j h => absurd h (Nat.not_lt_zero j)⟩ Qh.a Qb.a) (fun i hx => ?_)
    obtain ⟨hi, hn2⟩ := hx
    by_cases hlt : i < s.lasts.length
    · have hg := zL hlt
      have hA : P2 s i ↔ P2 s i := Iff.rfl
      conv at hA => rhs; rw [P2, Z6 hlt]
      have hnext : P2 s i → ∀ j, j < i + 1 → P2 s j := fun h j hj => by
        by_cases e : j = i
        · subst e; exact h
        · exact hn2 j (by omega)
      have cn := Vd s.lasts[i].user
      have hls := YL (s.lasts.getD (i - 1) default).user s.lasts[i].user
      have hlr := Ky (s.lasts.getD (i - 1) default).user s.lasts[i].user
      have hg1 : 0 < i → ((ZV s.lasts).drop (((i : Int) - 1).toNat * 2 + 0)).take 1 = [.s (s.lasts.getD (i - 1) default).user] := fun h0 => by
        rw [show ((i : Int) - 1).toNat = i - 1 by omega, Z6 (show i - 1 < s.lasts.length by omega), ZV, QL (F := LU.cells) (z := 2) (fun _ => rfl) (by omega) (by omega)]; rfl
      generalize s.lasts[i] = p at *
      generalize s.lasts.getD (i - 1) default = q at *
      cases hv : QV p.user
      all_goals
        rw [hv] at cn hA
        repeat' first | refine Wk ?_ | refine Qa.mk (fun h => ?_) (fun h => ?_) | refine Qd.mk (fun ad => ?_) | refine Ds (id := 6) [0,1,3,7,15,31,63,127,255,511,1023,2047,4095,8191,16383,32767,16383,81919,262143,524287,16383,2097151,4194303,8388607,16777215] [0,1,2,3,4,5,6,7,8,9,10,11,12,13,14,15,16,17,18,19,20,21,22,23,24] [] [1,4,43] true ?_ | refine Ds (id := 12) [0,1,3,7,15,31,63,127,255,511,1023,2047,1023,5119,16383,32767,65535,131071,262143,524287,1048575,2097151,1048575,5242879,16777215,33554431,67108863,1048575,135266303,536870911,1073741823,2147483647] [0,1,2,3,4,5,6,7,8,9,10,11,12,13,14,15,16,17,18,19,20,21,22,23,24,25,26,27,28,29,30,31] [] [1,6,83] true ?_ | refine Qt.mk Qb.a ?_ | refine Qr.a 0 2 _ (hrl _) ?_ | refine Zv.mk 0 2 _ _ (hrl _) (by omega) ?_ | refine Qi.a 0 _ _ p.cells (hrl _) (by exact hg) ?_ | refine Qi.a 0 _ _ [.s q.user] (hrl _) (by exact hg1 (by omega)) ?_ | refine Qx.mk [] _ cn QX ?_ | refine Qe.bool (ZL hW fun h => ?_) | refine Qo.mk (i + 1) (by omega) ⟨by omega, hnext (hA.2 ⟨rfl, by omega, by omega, fun _ => ?_⟩)⟩ Qh.a Qb.a
      all_goals
        first
          | (have hB := hA.1 (h.2.2.2 i hlt)
             first
               | (cases hB.1; done)
               | omega
               | (have hC := hB.2.2.2 (by omega); clear hB h hW hn hn2 hnext cn hrd hrl hA; simp only [hls] at *; omega))
          | (clear hW hn hn2 hnext cn hrd hrl hA; simp only [hls] at *; omega)
          | trace_state
    · have hil : i = s.lasts.length := by omega
      subst hil
      have hWt : W = true := hW.2 ⟨by omega, by omega, hn, hn2⟩
      repeat' first | refine Wk ?_ | refine Qa.mk (fun h => ?_) (fun h => ?_) | refine Qd.mk (fun ad => ?_) | refine Qe.bool hWt
theorem w7 (e : Nat) (p : PGM) (hl : p.hist.length ≤ 1000) : FnS prog 78 [.agg p.cells] [] [Qf e 6 p.ha p.hist.length (Zb p.hist)]
  (fun v L D => ∃ a c, v = .agg (PGM.cells ⟨p.sp, p.nm, a, c, p.hist⟩) ∧ L = [Vi ⟨p.sp, p.nm, a, c, p.hist⟩] ∧ D = []) := by
 obtain ⟨sp, nm, ha, hc, hist⟩ := p
 have cc := yK e ha hc hist hl
 unfold PGM.cells
 dsimp only at *
 refine FJ 0 func78 ntmps78 (fun G => ?_)
 repeat' first | refine Wk ?_ | refine Qa.mk (fun h => ?_) (fun h => ?_) | refine Qd.mk (fun ad => ?_) | fail | refine Qc.mk [] [_, _] [_] _ cc QW (fun _ h => h) (fun v L' D' hq => ?_); obtain ⟨a1, k1, rfl, rfl, rfl⟩ := hq | refine Qe.mk [_] [] ⟨a1, k1, rfl, rfl, rfl⟩ (Qb.ofSub (by repeat (first | exact List.Sublist.slnil | refine List.Sublist.cons_cons _ ?_ | refine List.Sublist.cons _ ?_)) QX)
abbrev PageP (q : Option PGM) : V → List Chunk → List Fact → Prop := fun v L D =>
 match q with
 | none => v = .t2 (.agg [.i .i64 0, .s [], .sl none 0 0]) ff ∧ L = [] ∧ D = []
 | some p => ∃ a c, v = .t2 (.agg [.i .i64 p.sp, .s p.nm, .sl a p.hist.length c]) tt ∧ L = [] ∧ D = [Qf 73 6 a p.hist.length (Zb p.hist)]
theorem UW (s : STM) (sp : Int) (nm : Bs) (hs : s.pages.length ≤ big) (hh : ∀ p ∈ s.pages, p.hist.length ≤ 1000) : FnS prog 36 [.agg s.cells, .agg [.i .i64 sp, .s nm]] [] [QG s] (PageP (s.pages.find? (X7 sp nm))) := by
 have hl := ZQ hs
 have hrd : ∀ L, Qp L [QG s] 0 3 s.pa s.pages.length (Qm s.pages) := fun L => .inr fun m h => h.1.pages.row
 generalize hq : s.pages.find? (X7 sp nm) = q
 refine FJ 0 func36 ntmps36 (fun G => ?_)
 repeat' first | refine Wk ?_ | refine Qa.mk (fun h => ?_) (fun h => ?_) | refine Qd.mk (fun ad => ?_)
 rename_i ad0 ad1
 refine Qn (α := Nat) (fun i => [(3, .c (.p 1 ad1 0)), (4, .c (.p 2 ad 0)), (9, .c (.sl s.pa s.pages.length s.pc)), (10, .c (.i .i64 s.pages.length)), (11, .c (.i .i64 i))]) (fun _ => [.box 2 ad 60 [.i .i64 0, .s [], .sl none 0 0], .box 1 ad1 45 [.i .i64 sp, .s nm]]) (fun _ => [QG s]) 3
  (fun i => i ≤ s.pages.length ∧ ∀ j, ∀ hj : j < s.pages.length, j < i → X7 sp nm s.pages[j] = false) (fun i => s.pages.length - i) (Qq.mk 0 ⟨Nat.zero_le _, fun j _ h => absurd h (Nat.not_lt_zero j)⟩ Qh.a Qb.a) (fun i hx => ?_)
 obtain ⟨hi, hn⟩ := hx
 by_cases hlt : i < s.pages.length
 ·have hg := Z5 hlt
  have hmem := List.getElem_mem hlt
  have co := w7 0 s.pages[i] (hh _ hmem)
  have hyes : s.pages[i].sp = sp ∧ s.pages[i].nm = nm ∧ True → q = some s.pages[i] := fun h => by
   rw [← hq]; exact qM hlt hn (Pd.2 ⟨h.1, h.2.1⟩)
  have hno : ¬ (s.pages[i].sp = sp ∧ s.pages[i].nm = nm ∧ True) → ∀ j, ∀ hj : j < s.pages.length, j < i + 1 → X7 sp nm s.pages[j] = false := fun h => yz hlt hn (by
   cases hb : X7 sp nm s.pages[i] with
   | false => rfl
   | true => exact absurd (Pd.1 hb) (fun e => h ⟨e.1, e.2, trivial⟩))
  generalize s.pages[i] = p at *
  unfold PGM.cells at co
  repeat' first | refine Wk ?_ | refine Qa.mk (fun h => ?_) (fun h => ?_) | refine Qd.mk (fun ad => ?_) | fail | refine Qr.a 0 3 _ (hrd _) ?_ | refine Qi.a 0 _ _ _ (hrd _) (by exact hg) ?_ | refine Qc.mk [] _ [_] _ co QW (fun _ h => ⟨h.1.pages.his p hmem, trivial⟩) (fun v L' D' hq => ?_); obtain ⟨a1, k1, rfl, rfl, rfl⟩ := hq | refine Qo.mk (i + 1) (by omega) ⟨by omega, hno (by assumption)⟩ Qh.a Qb.a | (rw [hyes (by assumption)]; refine Qe.mk [] [Qf 73 6 a1 p.hist.length (Zb p.hist)] ⟨a1, k1, rfl, rfl, rfl⟩ ((Qb.ofSub (L0 := [.row 73 6 a1 p.hist.length k1 (Zb p.hist)]) (by repeat (first | exact List.Sublist.slnil | refine List.Sublist.cons_cons _ ?_ | refine List.Sublist.cons _ ?_)) (fun _ h => h)).trans (Qb.toFact.trans (Qb.facts fun _ h => ⟨h.1, trivial⟩))))
 ·have hqn : q = none := by rw [← hq]; exact xW fun j hj => hn j hj (by omega)
  subst hqn
  repeat' first | refine Wk ?_ | refine Qa.mk (fun h => ?_) (fun h => ?_) | refine Qd.mk (fun ad => ?_) | refine Qe.mk [] [] ⟨rfl, rfl, rfl⟩ Qb.z
theorem R3 (s : STM) (hs : s.pages.length ≤ big) (hh : ∀ p ∈ s.pages, p.hist.length ≤ 1000) (ht : ∀ p ∈ s.pages, ((J1 p.hist).text.length : Int) ≤ 8192) : FnS prog 61 [.agg s.cells] [] [QG s, gM, XH] (Is (.c (.b (Ko s.pl)))) := by
 have hrg : ∀ L, Qp L [QG s, gM, XH] 0 2 (some ⟨0, 0, none⟩) 1 [.i .i64 5, .s policyNm] := fun L => .inr fun m h => h.2.2.1
 have cp := UW s 5 policyNm hs hh
 cases hf : s.pages.find? (X7 5 policyNm) with
 | none =>
  rw [hf] at cp
  rw [wL hf]
  refine FJ 0 func61 ntmps61 (fun G => ?_)
  repeat' first | refine Wk ?_ | refine Qa.mk (fun h => ?_) (fun h => ?_) | refine Qd.mk (fun ad => ?_) | refine Qi.a 0 _ _ _ (hrg _) rfl ?_ | refine Qc.mk [] _ [_] _ cp QW Kh (fun v L' D' hq => ?_); obtain ⟨rfl, rfl, rfl⟩ := hq | refine Qe.is rfl
 | some p =>
  rw [hf] at cp
  rw [wK hf]
  have hmem := List.mem_of_find?_eq_some hf
  have h1 := hh p hmem
  have cu := fun a c => Vo 73 ⟨p.sp, p.nm, a, c, p.hist⟩ (by show p.hist.length ≤ 140737488355328; omega)
  have cr := j4 (J1 p.hist).text (by have := ht p hmem; omega)
  unfold PGM.cells at cu
  dsimp only at cu
  generalize Zi (J1 p.hist).text = r at *
  refine FJ 0 func61 ntmps61 (fun G => ?_)
  repeat' first | refine Wk ?_ | refine Qa.mk (fun h => ?_) (fun h => ?_) | refine Qd.mk (fun ad => ?_) | refine Qi.a 0 _ _ _ (hrg _) rfl ?_ | refine Qc.mk [] _ [_] _ cp QW Kh (fun v L' D' hq => ?_); obtain ⟨a1, k1, rfl, rfl, rfl⟩ := hq | refine Qc.is (cu _ _) ?_ Kh | (refine Qc.mk [] _ [_] _ cr QW (fun _ h => ⟨h.2.2.1, trivial⟩) (fun v L' D' hq => ?_); obtain ⟨pm, _, _, _, rfl, rfl, rfl⟩ := hq) | refine Qe.bool ?_
  all_goals first | exact decide_eq_true (by assumption) | exact decide_eq_false (by assumption)
theorem YG (s : STM) (hs : Gp s) (hh : ∀ p ∈ s.pages, p.hist.length ≤ 1000) : FnS prog 19 [.agg s.cells] [] [QG s, gM, XH] (Is (.c (.b (Zl s.pl)))) := by
 have hW := RN s.pl
 have c1 := pgs_ok s hs
 have c2 := LS s hs
 have c3 := Nc s hs
 have c4 := fun h => R3 s hs.pages hh h
 have ht := fun h => G7 (s := s) h
 change _ ↔ 0 ≤ s.seq ∧ s.seq ≤ 1073741824 ∧ 0 ≤ s.clk ∧ s.clk ≤ 52595999 ∧ Vb s.pl = true ∧ Kq s.pl = true ∧ Ku s.pl = true ∧ Ko s.pl = true at hW
 generalize Zl s.pl = W at *
 generalize Vb s.pl = w1 at *
 generalize Kq s.pl = w2 at *
 generalize Ku s.pl = w3 at *
 generalize Ko s.pl = w4 at *
 cases w1
 ·have hf : W = false := ZL hW (fun h => by cases h.2.2.2.2.1)
  refine FJ 0 func19 ntmps19 (fun G => ?_)
  repeat' first | refine Wk ?_ | refine Qa.mk (fun h => ?_) (fun h => ?_) | refine Qd.mk (fun ad => ?_) | refine Qc.is c1 ?_ (fun _ h => ⟨h.1, h.2.1, trivial⟩) | refine Qe.bool hf
 ·have c4 := c4 (ht rfl)
  clear ht hh
  refine FJ 0 func19 ntmps19 (fun G => ?_)
  repeat' first | refine Wk ?_ | refine Qa.mk (fun h => ?_) (fun h => ?_) | refine Qd.mk (fun ad => ?_) | refine Qc.is c1 ?_ (fun _ h => ⟨h.1, h.2.1, trivial⟩) | refine Qc.isB c2 (fun h2 => ?_) (fun h2 => ?_) (fun _ h => ⟨h.1, h.2.1, trivial⟩) | refine Qc.isB c3 (fun h3 => ?_) (fun h3 => ?_) (fun _ h => ⟨h.1, h.2.1, trivial⟩) | refine Qc.isB c4 (fun h4 => ?_) (fun h4 => ?_) (fun _ h => h) | refine Qe.bool ?_
  all_goals
   clear c1 c2 c3 c4
   first
    | exact ZL hW (by omega)
    | exact hW.2 ⟨by omega, by omega, by omega, by omega, rfl, by assumption, by assumption, by assumption⟩
    | exact ZL hW (fun h => by simp_all)
theorem vW (s : STM) (u : Bs) (hs : s.lasts.length ≤ big) : FnS prog 48 [.agg s.cells, .c (.s u)] [] [QG s] (Is (.c (.i .i64 (Yd s.lasts u)))) := by
 have hl := ZQ hs
 have hrd : ∀ L, Qp L [QG s] 0 2 s.la s.lasts.length (ZV s.lasts) := fun L => .inr fun m h => h.1.lasts
 generalize hk : Yd s.lasts u = k
 unfold Yd at hk
 refine FJ 0 func48 ntmps48 (fun G => ?_)
 repeat' first | refine Wk ?_ | refine Qa.mk (fun h => ?_) (fun h => ?_) | refine Qd.mk (fun ad => ?_)
 refine Qn (α := Nat) (fun i => [(1, .c (.s u)), (8, .c (.sl s.la s.lasts.length s.lc)), (9, .c (.i .i64 s.lasts.length)), (10, .c (.i .i64 i))]) (fun _ => []) (fun _ => [QG s]) 1
  (fun i => i ≤ s.lasts.length ∧ ∀ j, ∀ hj : j < s.lasts.length, j < i → decide (s.lasts[j].user = u) = false) (fun i => s.lasts.length - i) (Qq.mk 0 ⟨Nat.zero_le _, fun j _ h => absurd h (Nat.not_lt_zero j)⟩ Qh.a Qb.dropAll) (fun i hx => ?_)
 obtain ⟨hi, hn⟩ := hx
 by_cases hlt : i < s.lasts.length
 ·have hg := zL hlt
  have hyes : s.lasts[i].user = u → k = s.lasts[i].seq := fun h => by
   rw [← hk, qM (p := fun x : LU => decide (x.user = u)) hlt hn (decide_eq_true h)]; rfl
  have hno : ¬ s.lasts[i].user = u → ∀ j, ∀ hj : j < s.lasts.length, j < i + 1 → decide (s.lasts[j].user = u) = false := fun h => yz (p := fun x : LU => decide (x.user = u)) hlt hn (decide_eq_false h)
  generalize s.lasts[i] = y at *
  repeat' first | refine Wk ?_ | refine Qa.mk (fun h => ?_) (fun h => ?_) | refine Qd.mk (fun ad => ?_) | fail | refine Qr.a 0 2 _ (hrd _) ?_ | refine Qi.a 0 _ _ y.cells (hrd _) (by exact hg) ?_ | refine Qo.mk (i + 1) (by omega) ⟨by omega, hno (by assumption)⟩ Qh.a Qb.dropAll | refine Qe.int (hyes (by assumption))
 ·have h1 : k = 0 := by
   rw [← hk, xW (p := fun x : LU => decide (x.user = u)) fun j hj => hn j hj (by omega)]; rfl
  subst h1
  repeat' first | refine Wk ?_ | refine Qa.mk (fun h => ?_) (fun h => ?_) | refine Qd.mk (fun ad => ?_) | refine Qe.is rfl
theorem GO (s : STM) (sp : Int) (nm : Bs) (n : Int) (hs : s.pages.length ≤ big) (hh : ∀ p ∈ s.pages, p.hist.length ≤ 1000) : FnS prog 86 [.agg s.cells, .agg [.i .i64 sp, .s nm], .c (.i .i64 n)] [] [QG s] (Is (revV ((s.pages.find? (X7 sp nm)).bind fun p => WY p.hist n))) := by
 have cp := UW s sp nm hs hh
 cases hf : s.pages.find? (X7 sp nm) with
 | none =>
  rw [hf] at cp
  have hR : (none : Option PGM).bind (fun p => WY p.hist n) = none := rfl
  rw [hR]
  refine FJ 0 func86 ntmps86 (fun G => ?_)
  repeat' first | refine Wk ?_ | refine Qa.mk (fun h => ?_) (fun h => ?_) | refine Qd.mk (fun ad => ?_) | (refine Qc.mk [] _ [_] _ cp QW Kh (fun v L' D' hq => ?_); obtain ⟨rfl, rfl, rfl⟩ := hq) | refine Ji 1 ?_ | refine Kf ?_ | refine Qe.mk [] [] ⟨rfl, rfl, rfl⟩ Qb.z
 | some p =>
  rw [hf] at cp
  have hmem := List.mem_of_find?_eq_some hf
  have hl := hh p hmem
  have hR : (some p).bind (fun p => WY p.hist n) = WY p.hist n := rfl
  rw [hR]
  generalize hk : WY p.hist n = k
  unfold WY at hk
  clear hf hmem hR
  obtain ⟨ps, pn, pa, pc, ph⟩ := p
  dsimp only at *
  refine FJ 0 func86 ntmps86 (fun G => ?_)
  repeat' first | refine Wk ?_ | refine Qa.mk (fun h => ?_) (fun h => ?_) | refine Qd.mk (fun ad => ?_) | (refine Qc.mk [] _ [_] _ cp QW Kh (fun v L' D' hq => ?_); obtain ⟨a1, k1, rfl, rfl, rfl⟩ := hq)
  rename_i ad0 ad1 ad2
  have hrd : ∀ L, Qp L [Qf 73 6 a1 ph.length (Zb ph)] 73 6 a1 ph.length (Zb ph) := fun L => .inr fun m h => h.1
  refine Qn (α := Nat) (fun i => [(2, .c (.i .i64 n)), (6, .c (.p 2 ad2 0)), (19, .c (.sl a1 ph.length k1)), (20, .c (.i .i64 ph.length)), (21, .c (.i .i64 i))]) (fun _ => [.box 2 ad2 73 [.i .i64 0, .s [], .s [], .s [], .i .i64 0, .i .i64 0]]) (fun _ => [Qf 73 6 a1 ph.length (Zb ph)]) 4
   (fun i => i ≤ ph.length ∧ ∀ j, ∀ hj : j < ph.length, j < i → decide (ph[j].num = n) = false) (fun i => ph.length - i) (Qq.mk 0 ⟨Nat.zero_le _, fun j _ h => absurd h (Nat.not_lt_zero j)⟩ Qh.a (Qb.ofSub (by repeat (first | exact List.Sublist.slnil | refine List.Sublist.cons_cons _ ?_ | refine List.Sublist.cons _ ?_)) Kh)) (fun i hx => ?_)
  obtain ⟨hi, hn⟩ := hx
  by_cases hlt : i < ph.length
  ·have hg := Yo hlt
   have hyes : ph[i].num = n → k = some ph[i] := fun h => by
    rw [← hk, qM (p := fun x : RV => decide (x.num = n)) hlt hn (decide_eq_true h)]
   have hno : ¬ ph[i].num = n → ∀ j, ∀ hj : j < ph.length, j < i + 1 → decide (ph[j].num = n) = false := fun h => yz (p := fun x : RV => decide (x.num = n)) hlt hn (decide_eq_false h)
   generalize ph[i] = y at *
   repeat' first | refine Wk ?_ | refine Qa.mk (fun h => ?_) (fun h => ?_) | refine Qd.mk (fun ad => ?_) | fail | refine Qr.a 73 6 _ (hrd _) ?_ | refine Qi.a 73 _ _ y.cells (hrd _) (by exact hg) ?_ | refine Qo.mk (i + 1) (by omega) ⟨by omega, hno (by assumption)⟩ Qh.a Qb.a | (rw [hyes (by assumption)]; refine Qe.mk [] [] ⟨rfl, rfl, rfl⟩ Qb.z)
  ·have h1 : k = none := by
    rw [← hk, xW (p := fun x : RV => decide (x.num = n)) fun j hj => hn j hj (by omega)]
   subst h1
   repeat' first | refine Wk ?_ | refine Qa.mk (fun h => ?_) (fun h => ?_) | refine Qd.mk (fun ad => ?_) | refine Qe.mk [] [] ⟨rfl, rfl, rfl⟩ Qb.z
end Go.Proofs
