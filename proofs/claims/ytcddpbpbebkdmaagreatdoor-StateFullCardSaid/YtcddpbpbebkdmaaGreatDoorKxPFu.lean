/- This text walks through the statement StateFull of chapter 27. -/
import Derived.Test.YtcddpbpbebkdmaaGreatDoorK10
import Derived.Test.YtcddpbpbebkdmaaGreatDoorK13
import Derived.Test.YtcddpbpbebkdmaaGreatDoorK16
import Derived.Test.YtcddpbpbebkdmaaGreatDoorK17
set_option linter.all false
namespace Go.X
open Go Go.Lib
theorem zn {s : ST} {l : List CH} {t : STM} (h : t.pl = (Q0 s l).1) : Vs t := by
 by_cases h0 : (Q0 s l).2 = 0
 ·exact (XY (s := t) (by rw [h]; exact (J0 h0).1)).1
 ·rw [qO h0] at h
  exact (XY (s := t) (by rw [h]; exact vS)).1
end Go.X
namespace Go.Proofs
open Go Go.X Tryz
set_option maxRecDepth 100000
set_option maxHeartbeats 4000000
end Go.Proofs
namespace Go.X
open Go Go.Lib
def fulR (i : Nat) : RV := ⟨(i : Int) + 1, [], [], [], 0, 1⟩
def fulH (n : Nat) : List RV := (List.range n).map fulR
def fulS (n : Nat) : ST := ⟨5, 0, [⟨0, [65], fulH n⟩], [], [], 0, [], []⟩
def fulC : List CH := [⟨1, [], [], 0, [65], 0, [], [], 0, []⟩, ⟨1, [], [], 0, [65], 0, [], [], 0, []⟩]
def fulN (i : Nat) : Bs := [80, UInt8.ofNat (65 + i % 50 / 26), UInt8.ofNat (65 + i % 50 % 26)]
def fulW (i : Nat) : WT := ⟨[117], ((i / 50 : Nat) : Int), fulN i⟩
def fulL (n : Nat) : List WT := (List.range n).map fulW
def fulT (n : Nat) : ST := ⟨5, 0, [], [], [], 0, fulL n, []⟩
def fulV (u : Bs) : CH := ⟨7, u, [], 0, [65], 0, [], [], 0, []⟩
def fulD : List CH := [fulV [118], fulV [119]]
set_option maxRecDepth 100000 in
theorem ful_a0 : (Q0 (fulS 40) fulC).2 = 8 := by decide +kernel
set_option maxRecDepth 100000 in
theorem ful_a1 : (Q0 (fulS 39) fulC).2 = 8 := by decide +kernel
set_option maxRecDepth 100000 in
theorem ful_a2 : (Q0 (fulS 38) fulC).2 = 0 ∧ (Q0 (fulS 38) fulC).1.pages.map (fun p => p.hist.length) = [40] := by decide +kernel
set_option maxRecDepth 100000 in
theorem ful_b0 : (Q0 (fulT 100) fulD).2 = 8 ∧ Zl (fulT 100) = true := by decide +kernel
set_option maxRecDepth 100000 in
theorem ful_b1 : (Q0 (fulT 99) fulD).2 = 8 ∧ Zl (fulT 99) = true := by decide +kernel
set_option maxRecDepth 100000 in
theorem ful_b2 : (Q0 (fulT 98) fulD).2 = 0 ∧ Zl (fulT 98) = true := by decide +kernel
theorem ful_a {k : Nat} (h : k < 3) : (k < 2 → (Q0 (fulS (40 - k)) fulC).2 = 8) ∧ (k = 2 → (Q0 (fulS (40 - k)) fulC).2 = 0 ∧ (Q0 (fulS (40 - k)) fulC).1.pages.map (fun p => p.hist.length) = [40]) :=
 match k, h with
 | 0, _ => ⟨fun _ => ful_a0, fun h => absurd h (by decide)⟩
 | 1, _ => ⟨fun _ => ful_a1, fun h => absurd h (by decide)⟩
 | 2, _ => ⟨fun h => absurd h (by decide), fun _ => ful_a2⟩
theorem ful_b {k : Nat} (h : k < 3) : (k < 2 → (Q0 (fulT (100 - k)) fulD).2 = 8) ∧ (k = 2 → (Q0 (fulT (100 - k)) fulD).2 = 0) ∧ Zl (fulT (100 - k)) = true :=
 match k, h with
 | 0, _ => ⟨fun _ => ful_b0.1, fun h => absurd h (by decide), ful_b0.2⟩
 | 1, _ => ⟨fun _ => ful_b1.1, fun h => absurd h (by decide), ful_b1.2⟩
 | 2, _ => ⟨fun h => absurd h (by decide), fun _ => ful_b2.1, ful_b2.2⟩
theorem ful_v : QM (fulV [118]) = 0 := by decide +kernel
def fulM (k : Int) (u : Bs) : CHM := ⟨k, u, [], 0, [65], 0, [], [], 0, none, 0, []⟩
theorem mk_twoF {m : Im} {a : Option Addr} {c d : CHM} (h : Z8 m 0 10 a 2 (c.cells ++ d.cells)) (hc : c.hist = []) (hd : d.hist = []) : NE m a [c, d] :=
 ⟨by rw [show Wi [c, d] = c.cells ++ d.cells by simp [Wi]]; exact h, fun x hx => by
  rcases List.mem_cons.1 hx with rfl | hx
  ·rw [hc]; exact Z8.nil (e := 0)
  ·rw [List.mem_singleton.1 hx, hd]; exact Z8.nil (e := 0)⟩
theorem fulH_len (n : Nat) : (fulH n).length = n := by simp [fulH]
theorem fulL_len (n : Nat) : (fulL n).length = n := by simp [fulL]
theorem fulH_snoc (n : Nat) : Zb (fulH n) ++ [.i .i64 ((n : Int) + 1), .s [], .s [], .s [], .i .i64 0, .i .i64 1] = Zb (fulH (n + 1)) := by
 simp [fulH, List.range_succ, Zb, fulR, RV.cells]
theorem fulL_snoc (n : Nat) : ZM (fulL n) ++ [.s [117], .i .i64 ((n / 50 : Nat) : Int), .s (fulN n)] = ZM (fulL (n + 1)) := by
 simp [fulL, List.range_succ, ZM, fulW, WT.cells]
def fulSM (ad : Nat) (ha : Option Addr) (hc n : Nat) : STM := ⟨5, 0, some ⟨ad, 0, none⟩, 1, [⟨0, [65], ha, hc, fulH n⟩], none, 0, [], none, 0, [], 0, none, 0, [], none, 0, []⟩
theorem ful_st {m : Im} {ad : Nat} {ha : Option Addr} {hc n : Nat} (h1 : Z8 m 0 3 (some ⟨ad, 0, none⟩) 1 [.i .i64 0, .s [65], .sl ha n hc]) (h2 : Z8 m 0 6 ha n (Zb (fulH n))) : YA m (fulSM ad ha hc n) := by
 refine ⟨⟨?_, fun p hp => ?_⟩, ⟨Z8.nil (e := 0), fun _ h => (by cases h)⟩, Z8.nil (e := 0), Z8.nil (e := 0), Z8.nil (e := 0), ⟨Nat.le_refl _, Nat.le_refl _, Nat.le_refl _, Nat.le_refl _, Nat.le_refl _⟩⟩
 ·show Z8 m 0 3 (some ⟨ad, 0, none⟩) 1 [.i .i64 0, .s [65], .sl ha (fulH n).length hc]
  rw [fulH_len]; exact h1
 ·have hp : p = ⟨0, [65], ha, hc, fulH n⟩ := List.mem_singleton.1 hp
  rw [hp]
  show Z8 m 0 6 ha (fulH n).length _
  rw [fulH_len]; exact h2
theorem ful_ss {ad : Nat} {ha : Option Addr} {hc n : Nat} (hn : n ≤ 1000) : Vs (fulSM ad ha hc n) := by
 refine ⟨by simp [fulSM], fun p hp => ?_, by simp [fulSM], fun p hp => (by cases hp), by simp [fulSM], by simp [fulSM], by simp [fulSM]⟩
 have hp : p = ⟨0, [65], ha, hc, fulH n⟩ := List.mem_singleton.1 hp
 rw [hp]; show (fulH n).length ≤ 1000
 rw [fulH_len]; exact hn
theorem one_page {l : List PGM} {n : Nat} (h : (l.map PGM.pl).map (fun p => p.hist.length) = [n]) : ∃ pg : PGM, l = [pg] ∧ pg.hist.length = n := by
 match l, h with
 | [pg], h => exact ⟨pg, rfl, by simpa [PGM.pl] using h⟩
 | [], h => simp at h
 | _ :: _ :: _, h => simp at h
def fulTM (wa : Option Addr) (wc n : Nat) : STM := ⟨5, 0, none, 0, [], none, 0, [], none, 0, [], 0, wa, wc, fulL n, none, 0, []⟩
theorem ful_tt {m : Im} {wa : Option Addr} {wc n : Nat} (hn : n ≤ wc) (h : Z8 m 0 3 wa n (ZM (fulL n))) : YA m (fulTM wa wc n) := by
 refine ⟨⟨Z8.nil (e := 0), fun _ h => (by cases h)⟩, ⟨Z8.nil (e := 0), fun _ h => (by cases h)⟩, Z8.nil (e := 0), ?_, Z8.nil (e := 0), ⟨Nat.le_refl _, Nat.le_refl _, Nat.le_refl _, ?_, Nat.le_refl _⟩⟩
 ·show Z8 m 0 3 wa (fulL n).length _
  rw [fulL_len]; exact h
 ·show (fulL n).length ≤ wc
  rw [fulL_len]; exact hn
theorem ful_ts {wa : Option Addr} {wc n : Nat} (hn : n ≤ 1000) : Vs (fulTM wa wc n) := by
 refine ⟨by simp [fulTM], fun p hp => (by cases hp), by simp [fulTM], fun p hp => (by cases hp), by simp [fulTM], ?_, by simp [fulTM]⟩
 show (fulL n).length ≤ 1000
 rw [fulL_len]; exact hn
end Go.X
namespace Go.Proofs
open Go Go.X Tryz
set_option maxRecDepth 100000
set_option maxHeartbeats 4000000
theorem fullA_ok (more which : Int) (k : Nat) (hk : k < 3) (ck : FnS prog 26 [.c (.i .i64 more), .c (.i .i64 3)] [] [] (Is (.c (.i .i64 (k : Int))))) (cw : FnS prog 26 [.c (.i .i64 which), .c (.i .i64 2)] [] [] (Is (.c (.i .i64 0)))) :
  FnS prog 13 [.c (.i .i64 more), .c (.i .i64 which)] [] [gM, XH] (Is tt) := by
 refine FJ 0 func13 ntmps13 (fun G => ?_)
 repeat' first | refine QF (c := .seq (.region 5 _ _) _) ?_ | refine Wk ?_ | refine Qa.mk (fun h => ?_) (fun h => ?_) | refine Qd.mk (fun ad => ?_) | refine Qc.is ck ?_ QX | refine Qc.is cw ?_ QX
 refine ⟨?_⟩
 rename_i ad0
 revert ad
 intro ad1
 repeat' first | refine Wk ?_ | refine Qa.mk (fun h => ?_) (fun h => ?_) | refine Qd.mk (fun ad => ?_)
 refine Qn (α := Nat × Option Addr × Nat) (fun x => [(4, .c (.b false)), (5, .c (.p 0 ad0 0)), (6, .c (.p 1 ad1 0)), (7, .c (.i .i64 k)), (8, .c (.p 2 ad 0)), (9, .c (.i .i64 x.1))]) (fun x => [.row 73 6 x.2.1 x.1 x.2.2 (Zb (fulH x.1)), .box 2 ad 60 [.i .i64 0, .s [65], .sl x.2.1 x.1 x.2.2], .box 1 ad1 27 [.i .i64 5, .i .i64 0, .sl none 0 0, .sl none 0 0, .sl none 0 0, .i .i64 0, .sl none 0 0, .sl none 0 0], .box 0 ad0 45 [.i .i64 0, .s [65]]]) (fun _ => [gM, XH]) 3 (fun x => x.1 ≤ 40 - k) (fun x => 40 - k - x.1) (Qq.mk (0, none, 0) (Nat.zero_le _) Qh.a (Qb.nilRow (ety := 73) (esz := 6))) (fun x hx => ?_)
 obtain ⟨i, ha, hc⟩ := x
 dsimp only at hx ⊢
 by_cases hlt : i < 40 - k
 ·have hsn := fulH_snoc i
  repeat' first | refine Wk ?_ | refine Qa.mk (fun h => ?_) (fun h => ?_) | refine Qd.mk (fun ad => ?_) | (refine QK.row [_] _ (Zb (fulH i)) [.i .i64 ((i : Int) + 1), .s [], .s [], .s [], .i .i64 0, .i .i64 1] 1 rfl (QJ.sl 73 73 _ _ 1 1 _ rfl rfl (.inl ⟨1, QT⟩) rfl) (by dsimp only; omega) (fun b' k' => ?_); rw [hsn]) | refine Qo.mk (i + 1, b', k') (by dsimp only; omega) (by dsimp only; omega) Qh.a Qb.a
 ·have hie : i = 40 - k := by omega
  subst hie
  repeat' first | refine QF (c := .seq (.region 11 _ _) _) ?_ | refine Wk ?_ | refine Qa.mk (fun h => ?_) (fun h => ?_) | refine Qd.mk (fun ad => ?_) | fail
  refine ⟨?_⟩
  rename_i ad2
  refine VE (L' := [.box 1 ad1 27 [.i .i64 5, .i .i64 0, .sl (some ⟨ad, 0, none⟩) 1 1, .sl none 0 0, .sl none 0 0, .i .i64 0, .sl none 0 0, .sl none 0 0], .box 0 ad0 45 [.i .i64 0, .s [65]]]) (D' := [QG (fulSM ad ha hc (40 - k)), gM, XH]) (n' := 4) (Qb.toFact.trans (Qb.toFact.trans (Qb.drop.trans (Qb.facts fun _ h => ⟨ful_st h.2.1 h.1, h.2.2.1, h.2.2.2.1, trivial⟩)))) ?_
  have hsm := ful_ss (ad := ad) (ha := ha) (hc := hc) (n := 40 - k) (by omega)
  have ca := fun a j => jy (fulSM ad ha hc (40 - k)) a j [fulM 1 [], fulM 1 []] hsm.big hsm.ph (by decide) (fun c hc => by
   rcases List.mem_cons.1 hc with rfl | hc
   ·exact Nat.zero_le _
   ·rw [List.mem_singleton.1 hc]; exact Nat.zero_le _)
  change ∀ a j, FnS _ _ [.agg [.i .i64 5, .i .i64 0, .sl (some ⟨ad, 0, none⟩) 1 1, .sl none 0 0, .sl none 0 0, .i .i64 0, .sl none 0 0, .sl none 0 0], .c (.sl a 2 j)] [] [_, _, _, _] (Kz (Q0 (fulS (40 - k)) fulC)) at ca
  have hfa := ful_a hk
  have hap : ∀ t : STM, t.pl = (Q0 (fulS (40 - k)) fulC).1 → Vs t := fun t h => zn h
  generalize Q0 (fulS (40 - k)) fulC = R at *
  obtain ⟨S1, E⟩ := R
  dsimp only at hfa hap
  by_cases hk2 : k = 2
  ·subst hk2
   obtain ⟨rfl, hpg⟩ := hfa.2 rfl
   clear hfa
   repeat' first | refine QF (c := .seq (.region 12 _ _) _) ?_ | refine Wk ?_ | refine Qa.mk (fun h => ?_) (fun h => ?_) | refine Qd.mk (fun ad => ?_) | (refine Qc.mkE [] _ [_, _, _, _] _ _ (ca _ _) Qb.toFact (fun _ h => ⟨h.2.1, mk_twoF h.1 rfl rfl, h.2.2.1, h.2.2.2.1, trivial⟩) (fun v L' D' hq => ?_); obtain ⟨t, rfl, rfl, rfl, ht⟩ := hq)
   refine ⟨?_⟩
   obtain ⟨pg, hpg1, hpg2⟩ := one_page (l := t.pages) ((congrArg (fun s : ST => s.pages.map fun p => p.hist.length) ht).trans hpg)
   have hlen : t.pages.length = 1 := by rw [hpg1]; rfl
   have hgh : ((Qm t.pages).drop (0 * 3 + 2)).take 1 = [C.sl pg.ha pg.hist.length pg.hc] := by rw [hpg1]; rfl
   clear ht hap ca hpg hsm hpg1
   have hrd : ∀ L R, Qp L (QG t :: R) 0 3 t.pa t.pages.length (Qm t.pages) := fun L R => .inr fun m h => h.1.pages.row
   repeat' first | refine Qa.yes rfl ?_ | refine Wk ?_ | refine Qa.mk (fun h => ?_) (fun h => ?_) | refine Qd.mk (fun ad => ?_) | refine Qc.is Xo ?_ (fun _ h => by simp only [QI, Qs, List.cons_append, List.nil_append, and_true] at h ⊢; simp only [h, and_self]) | refine Qr.a 0 3 _ (hrd _ _) ?_ | refine Zv.mk 0 3 _ _ (hrd _ _) (by omega) ?_ | refine Qi.mk 0 _ _ [.sl pg.ha pg.hist.length pg.hc] (hrd _ _) (by omega) (by omega) (by first | omega | decide) (by exact hgh) ?_ | refine Qe.is rfl
  ·obtain rfl := hfa.1 (by omega)
   clear hfa hap
   repeat' first | refine Qa.yes rfl ?_ | refine Wk ?_ | refine Qa.mk (fun h => ?_) (fun h => ?_) | refine Qd.mk (fun ad => ?_) | (refine Qc.mkE [] _ [_, _, _, _] _ _ (ca _ _) Qb.toFact (fun _ h => ⟨h.2.1, mk_twoF h.1 rfl rfl, h.2.2.1, h.2.2.2.1, trivial⟩) (fun v L' D' hq => ?_); obtain ⟨t, rfl, rfl, rfl, ht⟩ := hq) | refine Qc.is Xo ?_ (fun _ h => by simp only [QI, Qs, List.cons_append, List.nil_append, and_true] at h ⊢; simp only [h, and_self]) | refine Qe.is rfl
theorem fullB_ok (more which : Int) (k : Nat) (hk : k < 3) (w : Int) (hw : w ≠ 0) (ck : FnS prog 26 [.c (.i .i64 more), .c (.i .i64 3)] [] [] (Is (.c (.i .i64 (k : Int))))) (cw : FnS prog 26 [.c (.i .i64 which), .c (.i .i64 2)] [] [] (Is (.c (.i .i64 w)))) :
  FnS prog 13 [.c (.i .i64 more), .c (.i .i64 which)] [] [gM, XH] (Is tt) := by
 refine FJ 0 func13 ntmps13 (fun G => ?_)
 repeat' first | refine QF (c := .seq (.region 13 _ _) _) ?_ | refine Wk ?_ | refine Qa.mk (fun h => ?_) (fun h => ?_) | refine Qd.mk (fun ad => ?_) | refine Qc.is ck ?_ QX | refine Qc.is cw ?_ QX
 refine ⟨?_⟩
 rename_i ad0
 revert ad
 intro ad1
 repeat' first | refine Wk ?_ | refine Qa.mk (fun h => ?_) (fun h => ?_) | refine Qd.mk (fun ad => ?_)
 refine Qn (α := Nat × Option Addr × Nat) (fun x => [(4, .c (.b false)), (5, .c (.p 0 ad0 0)), (6, .c (.p 1 ad1 0)), (7, .c (.i .i64 k)), (12, .c (.i .i64 x.1))]) (fun x => [.row 69 3 x.2.1 x.1 x.2.2 (ZM (fulL x.1)), .box 1 ad1 27 [.i .i64 5, .i .i64 0, .sl none 0 0, .sl none 0 0, .sl none 0 0, .i .i64 0, .sl x.2.1 x.1 x.2.2, .sl none 0 0], .box 0 ad0 45 [.i .i64 0, .s [65]]]) (fun _ => [gM, XH]) 3 (fun x => x.1 ≤ 100 - k) (fun x => 100 - k - x.1) (Qq.mk (0, none, 0) (Nat.zero_le _) Qh.a (Qb.nilRow (ety := 69) (esz := 3))) (fun x hx => ?_)
 obtain ⟨i, wa, wc⟩ := x
 dsimp only at hx ⊢
 by_cases hlt : i < 100 - k
 ·have hsn := fulL_snoc i
  have q1 : (i : Int).tdiv 50 = ((i / 50 : Nat) : Int) := by rw [Int.tdiv_eq_ediv_of_nonneg (by omega)]; omega
  have q2 : (i : Int).tmod 50 = ((i % 50 : Nat) : Int) := by rw [Int.tmod_eq_emod_of_nonneg (by omega)]; omega
  have q3 : ((i % 50 : Nat) : Int).tdiv 26 = ((i % 50 / 26 : Nat) : Int) := by rw [Int.tdiv_eq_ediv_of_nonneg (by omega)]; omega
  have q4 : ((i % 50 : Nat) : Int).tmod 26 = ((i % 50 % 26 : Nat) : Int) := by rw [Int.tmod_eq_emod_of_nonneg (by omega)]; omega
  have hb : [C.i .u8 (65 + ((i % 50 / 26 : Nat) : Int)), C.i .u8 (65 + ((i % 50 % 26 : Nat) : Int))] = [UInt8.ofNat (65 + i % 50 / 26), UInt8.ofNat (65 + i % 50 % 26)].map byteC := by
   have e1 : (UInt8.ofNat (65 + i % 50 / 26)).toNat = 65 + i % 50 / 26 := by rw [UInt8.toNat_ofNat']; omega
   have e2 : (UInt8.ofNat (65 + i % 50 % 26)).toNat = 65 + i % 50 % 26 := by rw [UInt8.toNat_ofNat']; omega
   simp only [List.map_cons, List.map_nil, byteC, e1, e2]
   rw [Int.natCast_add, Int.natCast_add]; rfl
  repeat' first | (refine Gt.exact (by rw [q1]; simp only [jl]; omega) ?_; rw [q1]) | (refine Gt.exact (by rw [q2]; simp only [jl]; omega) ?_; rw [q2]) | (refine Gt.exact (by rw [q3]; simp only [jl]; omega) ?_; rw [q3]) | (refine Gt.exact (by rw [q4]; simp only [jl]; omega) ?_; rw [q4]) | refine Wk ?_ | refine Qa.mk (fun h => ?_) (fun h => ?_) | refine Qd.mk (fun ad => ?_) | refine Xq.mk (by simp) ?_ | refine yR.mk 5 [UInt8.ofNat (65 + i % 50 / 26), UInt8.ofNat (65 + i % 50 % 26)] (.inl ⟨2, by rw [← hb]; exact List.Mem.head _⟩) ?_ | (refine QK.row [_, _] _ (ZM (fulL i)) [.s [117], .i .i64 ((i / 50 : Nat) : Int), .s (fulN i)] 1 rfl (QJ.sl 69 69 _ _ 1 1 _ rfl rfl (.inl ⟨1, QT⟩) rfl) (by dsimp only; omega) (fun b' k' => ?_); rw [hsn]) | refine Qo.mk (i + 1, b', k') (by dsimp only; omega) (by dsimp only; omega) Qh.a Qb.a
 ·have hie : i = 100 - k := by omega
  subst hie
  repeat' first | refine QF (c := .seq (.region 17 _ _) _) ?_ | refine Wk ?_ | refine Qa.mk (fun h => ?_) (fun h => ?_) | refine Qd.mk (fun ad => ?_) | fail
  refine ⟨?_⟩
  refine VE (L' := [.box 1 ad1 27 [.i .i64 5, .i .i64 0, .sl none 0 0, .sl none 0 0, .sl none 0 0, .i .i64 0, .sl wa (100 - k) wc, .sl none 0 0], .box 0 ad0 45 [.i .i64 0, .s [65]]]) (D' := [QG (fulTM wa wc (100 - k)), gM, XH]) (n' := 4) (Qb.toFactC.trans (Qb.facts fun _ h => ⟨ful_tt h.1.1 h.1.2, h.2.1, h.2.2.1, trivial⟩)) ?_
  have hsm := ful_ts (wa := wa) (wc := wc) (n := 100 - k) (by omega)
  have ca := fun a j => jy (fulTM wa wc (100 - k)) a j [fulM 7 [118], fulM 7 [119]] hsm.big hsm.ph (by decide) (fun c hc => by
   rcases List.mem_cons.1 hc with rfl | hc
   ·exact Nat.zero_le _
   ·rw [List.mem_singleton.1 hc]; exact Nat.zero_le _)
  have hcl : (fulTM wa wc (100 - k)).cells = [.i .i64 5, .i .i64 0, .sl none 0 0, .sl none 0 0, .sl none 0 0, .i .i64 0, .sl wa (100 - k) wc, .sl none 0 0] := by
   show [C.i .i64 5, .i .i64 0, .sl none 0 0, .sl none 0 0, .sl none 0 0, .i .i64 0, .sl wa (fulL (100 - k)).length wc, .sl none 0 0] = _
   rw [fulL_len]
  have cv := Y0 (fulTM wa wc (100 - k)) hsm.big
  have hpl : (fulTM wa wc (100 - k)).pl = fulT (100 - k) := rfl
  rw [hcl, hpl, (ful_b hk).2.2] at cv
  rw [hcl, hpl] at ca
  change ∀ a j, FnS _ _ [_, .c (.sl a 2 j)] [] [_, _, _, _] (Kz (Q0 (fulT (100 - k)) fulD)) at ca
  have c26 := Ti (fulM 7 [118]) (Nat.zero_le _)
  change FnS _ _ [.agg [.i .i64 7, .s [118], .s [], .i .i64 0, .s [65], .i .i64 0, .s [], .s [], .i .i64 0, .sl none 0 0]] [] [Yy (fulM 7 [118])] (Is (.c (.i .i64 (QM (fulV [118]))))) at c26
  rw [ful_v] at c26
  have hfa := ful_b hk
  generalize Q0 (fulT (100 - k)) fulD = R at *
  obtain ⟨S1, E⟩ := R
  dsimp only at hfa
  have hE : (k = 2 ∧ E = 0) ∨ (k < 2 ∧ E = 8) := by
   by_cases h : k = 2
   ·exact .inl ⟨h, hfa.2.1 h⟩
   ·exact .inr ⟨by omega, hfa.1 (by omega)⟩
  clear hfa hpl hcl
  rcases hE with ⟨rfl, rfl⟩ | ⟨hk2, rfl⟩
  all_goals
   repeat' first | refine Qa.yes rfl ?_ | refine Wk ?_ | refine Qa.mk (fun h => ?_) (fun h => ?_) | refine Qd.mk (fun ad => ?_) | (refine Qc.mkE [] _ [_, _, _, _] _ _ (ca _ _) Qb.toFact (fun _ h => ⟨h.2.1, mk_twoF h.1 rfl rfl, h.2.2.1, h.2.2.2.1, trivial⟩) (fun v L' D' hq => ?_); obtain ⟨t, rfl, rfl, rfl, ht⟩ := hq) | refine Qc.is cv ?_ (fun _ h => by simp only [QI, Qs, List.cons_append, List.nil_append, and_true] at h ⊢; simp only [h, and_self]) | refine Qc.is c26 ?_ (fun _ _ => ⟨Z8.nil (e := 0), trivial⟩) | refine Qc.is Xo ?_ (fun _ h => by simp only [QI, Qs, List.cons_append, List.nil_append, and_true] at h ⊢; simp only [h, and_self]) | refine Qe.is rfl
theorem stateFull_ok (more which : Int) : FnS prog 13 [.c (.i .i64 more), .c (.i .i64 which)] [] [gM, XH] (Is tt) := by
 have q3 := ZG more 3 (by omega) (by omega)
 have r3 := QR more (n := 3) (by omega)
 have q2 := ZG which 2 (by omega) (by omega)
 generalize ZD more 3 = x3 at *
 generalize ZD which 2 = x2 at *
 obtain ⟨k, rfl⟩ : ∃ n : Nat, x3 = n := ⟨x3.toNat, by omega⟩
 by_cases h : x2 = 0
 ·subst h; exact fullA_ok more which k (by omega) q3 q2
 ·exact fullB_ok more which k (by omega) x2 h q3 q2
end Go.Proofs
