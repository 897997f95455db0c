/- This text walks through the statement StateUsers of chapter 27. -/
import Derived.Test.YtcddpbpbebkdmaaGreatDoorK10
import Derived.Test.YtcddpbpbebkdmaaGreatDoorK13
import Derived.Test.YtcddpbpbebkdmaaGreatDoorK16
import Derived.Test.YtcddpbpbebkdmaaGreatDoorK17
set_option linter.all false
namespace Go.X
open Go Go.Lib
def RV.z (r : RV) : RV := { r with seq := 0 }
def SP.z (p : SP) : SP := ⟨p.sp, p.nm, p.hist.map RV.z⟩
def LU.z (x : LU) : LU := ⟨x.user, 0⟩
def ST.z (s : ST) : ST := { s with seq := 0, pages := s.pages.map SP.z, gone := s.gone.map SP.z, lasts := s.lasts.map LU.z }
theorem nn {a b : Int} (h : a = b) : ¬ a ≠ b := fun h' => h' h
theorem step_ok {s : ST} {c : CH} {sq : Int} (h : (X4 s c sq).2 = 0) : QM c = 0 ∧ (Zm s c sq).2 = 0 ∧ Zx c = false ∧ (Q9 (Zm s c sq).1 c.user sq).2 = 0 ∧ X4 s c sq = Q9 (Zm s c sq).1 c.user sq := by
 unfold X4 at h ⊢
 by_cases h1 : QM c = 0
 ·rw [if_neg (nn h1)] at h ⊢
  by_cases h2 : (Zm s c sq).2 = 0
  ·rw [if_neg (nn h2)] at h ⊢
   by_cases h3 : Zx c = true
   ·rw [if_pos h3] at h; cases h
   ·rw [if_neg h3] at h ⊢
    by_cases h4 : (Q9 (Zm s c sq).1 c.user sq).2 = 0
    ·rw [if_neg (nn h4)]
     exact ⟨h1, h2, by simpa using h3, h4, rfl⟩
    ·rw [if_pos h4] at h; exact absurd h h4
  ·rw [if_pos h2] at h; exact absurd h h2
 ·rw [if_pos h1] at h; exact absurd h h1
theorem apply_ok {s : ST} {l : List CH} (h : (Q0 s l).2 = 0) : Zl s = true ∧ 1 ≤ l.length ∧ l.length ≤ 16 ∧ (Ja (s.seq + 1) s l).2 = 0 ∧ s.seq + 1 ≤ 1073741824 ∧ Q0 s l = ({ (Ja (s.seq + 1) s l).1 with seq := s.seq + 1 }, 0) := by
 unfold Q0 at h ⊢
 by_cases h1 : Zl s = false
 ·rw [if_pos h1] at h; cases h
 rw [if_neg h1] at h ⊢
 by_cases h2 : (l.length : Int) < 1 ∨ 16 < (l.length : Int)
 ·rw [if_pos h2] at h; cases h
 rw [if_neg h2] at h ⊢
 by_cases h3 : (Ja (s.seq + 1) s l).2 = 0
 ·rw [if_neg (nn h3)] at h ⊢
  by_cases h4 : 1073741824 < s.seq + 1
  ·rw [if_pos h4] at h; cases h
  rw [if_neg h4]
  exact ⟨by simpa using h1, by omega, by omega, h3, by omega, rfl⟩
 ·rw [if_pos h3] at h; exact absurd h h3
theorem steps_ok {s : ST} {c : CH} {l : List CH} {sq : Int} (h : (Ja sq s (c :: l)).2 = 0) : (X4 s c sq).2 = 0 ∧ (Ja sq (X4 s c sq).1 l).2 = 0 ∧ Ja sq s (c :: l) = Ja sq (X4 s c sq).1 l := by
 rw [wC] at h ⊢
 by_cases h1 : (X4 s c sq).2 = 0
 ·rw [if_neg (nn h1)] at h ⊢
  exact ⟨h1, h, rfl⟩
 ·rw [if_pos h1] at h; exact absurd h h1
theorem ltB_irr (u : Bs) : U6 u u = false := decide_eq_false (by have := WS u u; omega)
theorem tw_user {l : List LU} {u : Bs} {x : LU} (h : x ∈ l.takeWhile fun x => U6 x.user u) : x.user ≠ u := fun e => by
 have h1 : U6 x.user u = true := by
  induction l with
  | nil => cases h
  | cons y t ih =>
   rw [List.takeWhile_cons] at h
   split at h
   ·rename_i hy
    rcases List.mem_cons.1 h with rfl | h
    ·exact hy
    ·exact ih h
   ·cases h
 rw [e, ltB_irr] at h1; cases h1
theorem find_tw (l : List LU) (u : Bs) : (l.takeWhile fun x => U6 x.user u).find? (fun x => decide (x.user = u)) = none :=
 List.find?_eq_none.2 fun x hx => by have := tw_user hx; simpa using this
theorem noted_last {s : ST} {w u : Bs} {sq : Int} (h : (Q9 s w sq).2 = 0) : Yd (Q9 s w sq).1.lasts u = if w ≠ [] ∧ w = u then sq else Yd s.lasts u := by
 unfold Q9 at h ⊢
 by_cases hw : w = []
 ·rw [if_pos hw, if_neg (fun h' => h'.1 hw)]
 rw [if_neg hw] at h ⊢
 have hsplit := List.takeWhile_append_dropWhile (p := fun x : LU => U6 x.user w) (l := s.lasts)
 dsimp only at h ⊢
 have hft := find_tw s.lasts w
 generalize s.lasts.takeWhile (fun x => U6 x.user w) = a at *
 generalize s.lasts.dropWhile (fun x => U6 x.user w) = b at *
 by_cases h1 : b.head?.map (·.user) = some w
 ·rw [if_pos h1]
  cases b with
  | nil => cases h1
  | cons y t =>
   have hy : y.user = w := by simpa using h1
   show Yd (a ++ ⟨w, sq⟩ :: t) u = _
   by_cases hu : w = u
   ·subst hu
    rw [if_pos ⟨hw, rfl⟩]
    unfold Yd
    rw [List.find?_append, hft, List.find?_cons_of_pos (by simp)]; rfl
   ·rw [if_neg (fun h' => hu h'.2), ← hsplit]
    unfold Yd
    rw [List.find?_append, List.find?_append, List.find?_cons_of_neg (by simpa using hu), List.find?_cons_of_neg (by simpa [hy] using hu)]
 ·rw [if_neg h1] at h ⊢
  by_cases h2 : 60 ≤ (s.lasts.length : Int)
  ·rw [if_pos h2] at h; cases h
  rw [if_neg h2]
  show Yd (a ++ ⟨w, sq⟩ :: b) u = _
  by_cases hu : w = u
  ·subst hu
   rw [if_pos ⟨hw, rfl⟩]
   unfold Yd
   rw [List.find?_append, hft, List.find?_cons_of_pos (by simp)]; rfl
  ·rw [if_neg (fun h' => hu h'.2), ← hsplit]
   unfold Yd
   rw [List.find?_append, List.find?_append, List.find?_cons_of_neg (by simpa using hu)]
theorem kind_lasts (s : ST) (c : CH) (sq : Int) : (Zm s c sq).1.lasts = s.lasts := by
 unfold Zm
 split
 ·unfold K7
  split
  ·split <;> rfl
  ·split <;> rfl
 split
 ·unfold JA
  split
  ·rfl
  ·split <;> rfl
 split
 ·unfold XS
  split
  ·rfl
  ·split
   ·rfl
   ·split <;> rfl
 split
 ·unfold VB
  split
  ·rfl
  ·split
   ·rfl
   ·split <;> rfl
 split
 ·unfold Vw
  split
  ·rfl
  ·split
   ·rfl
   ·split <;> rfl
 split
 ·unfold zd
  split <;> rfl
 split
 ·unfold Xm
  dsimp only
  split
  ·split <;> rfl
  ·split
   ·rfl
   ·split <;> rfl
 split
 ·unfold Jc
  split <;> rfl
 ·unfold WA
  dsimp only
  split <;> rfl
def didT (l : List CH) (u : Bs) : Bool := l.any fun c => !decide (u = []) && decide (c.user = u)
theorem steps_last {sq : Int} {u : Bs} : ∀ {l : List CH} {s : ST}, (Ja sq s l).2 = 0 → Yd (Ja sq s l).1.lasts u = if didT l u = true then sq else Yd s.lasts u
 | [], s, _ => rfl
 | c :: l, s, h0 => by
  obtain ⟨h1, h2, h3⟩ := steps_ok h0
  rw [h3, steps_last h2]
  obtain ⟨_, _, _, h4, h5⟩ := step_ok h1
  rw [h5, noted_last h4, kind_lasts]
  unfold didT
  rw [List.any_cons]
  by_cases hd : (l.any fun c => !decide (u = []) && decide (c.user = u)) = true
  ·rw [hd, Bool.or_true, if_pos rfl, if_pos rfl]
  ·rw [if_neg hd]
   have hd' : (l.any fun c => !decide (u = []) && decide (c.user = u)) = false := by simpa using hd
   rw [hd', Bool.or_false]
   by_cases hc : c.user ≠ [] ∧ c.user = u
   ·rw [if_pos hc, if_pos]
    have : u ≠ [] := by rw [← hc.2]; exact hc.1
    simp [this, hc.2]
   ·rw [if_neg hc, if_neg]
    intro h
    simp only [Bool.and_eq_true, Bool.not_eq_true', decide_eq_false_iff_not, decide_eq_true_eq] at h
    exact hc ⟨by rw [h.2]; exact h.1, h.2⟩
theorem users_law {s : ST} {l : List CH} {u : Bs} (h : (Q0 s l).2 = 0) : Yd (Q0 s l).1.lasts u = if didT l u = true then (Q0 s l).1.seq else Yd s.lasts u := by
 obtain ⟨_, _, _, h4, _, h6⟩ := apply_ok h
 rw [h6]
 exact steps_last h4
theorem last_nobody {s : ST} (h : Zl s = true) : Yd s.lasts [] = 0 := by
 obtain ⟨_, _, vk⟩ := JM.1 h
 unfold Yd
 rw [List.find?_eq_none.2 fun x hx => ?_]
 ·rfl
 ·have h1 := vk.ls x hx
  simp only [Hf, Bool.and_eq_true] at h1
  intro h2
  rw [of_decide_eq_true h2] at h1
  exact absurd h1.1.1 (by decide)
theorem zn {s : ST} {l : List CH} {t : STM} (h : t.pl = (Q0 s l).1) : Vs t := by
 by_cases h0 : (Q0 s l).2 = 0
 ·exact (XY (s := t) (by rw [h]; exact (J0 h0).1)).1
 ·rw [qO h0] at h
  exact (XY (s := t) (by rw [h]; exact vS)).1
end Go.X
namespace Go.Proofs
open Go Go.X Tryz
set_option maxRecDepth 100000
set_option maxHeartbeats 4000000
end Go.Proofs
namespace Go.X
open Go Go.Lib
theorem chm_f1u {l : List CHM} {i : Nat} (h : i < l.length) : ((Wi l).drop (i * 10 + 1)).take 1 = [.s l[i].user] := by
 rw [Wi, QL (F := CHM.cells) (z := 10) (fun _ => rfl) h (by omega)]; rfl
theorem didT_succ {l : List CHM} {i : Nat} (h : i < l.length) (u : Bs) : didT ((l.take (i + 1)).map CHM.pl) u = (didT ((l.take i).map CHM.pl) u || (!decide (u = []) && decide (l[i].user = u))) := by
 rw [List.take_succ_eq_append_getElem h, List.map_append]
 unfold didT
 rw [List.any_append, List.map_cons, List.map_nil, List.any_cons, List.any_nil, Bool.or_false]
 rfl
end Go.X
namespace Go.Proofs
open Go Go.X Tryz
set_option maxRecDepth 100000
set_option maxHeartbeats 4000000
theorem stateUsers_ok (e e2 : Nat) (a a2 : Option Addr) (c c2 : Nat) (l m : List Int) (hl : l.length ≤ maxLen) (hm : m.length ≤ maxLen) (who : Int) :
  FnS prog 12 [.c (.sl a l.length c), .c (.sl a2 m.length c2), .c (.i .i64 who)] [] [Zj e a l, Zj e2 a2 m, gM, XH] (Is tt) := by
 have cg := KY e a c l hl
 have cf := qL e2 a2 c2 m hm
 refine FJ 0 func12 ntmps12 (fun G => ?_)
 repeat' first | refine QF (c := .seq (.region 2 _ _) _) ?_ | refine Wk ?_ | refine Qa.mk (fun h => ?_) (fun h => ?_) | refine Qd.mk (fun ad => ?_) | (refine Qc.mk [] _ [_] _ cg QW Kh (fun v L' D' hq => ?_); obtain ⟨u, rfl, hu, rfl, rfl⟩ := hq)
 refine ⟨?_⟩
 have huv := hu.valid
 obtain ⟨hus, hc0, hc1⟩ := XY huv
 have ch := fun ad => KF e2 a2 c2 ad m (gs0 m) u.clk (qi m) hm hc0 hc1
 have ap := fun b k (cs : List CHM) (h2 : cs.length ≤ 2) (hm : ∀ ch ∈ cs, qB ch.pl) => jy u b k cs hus.big hus.ph (by simp only [big]; omega) (fun ch hch => by have := (hm ch hch).len; have h3 : ch.pl.hist = ch.hist := rfl; rw [h3] at this; simp only [big]; omega)
 clear cg
 repeat' first | refine QF (c := .seq (.region 4 _ _) _) ?_ | refine Wk ?_ | refine Qa.mk (fun h => ?_) (fun h => ?_) | refine Qd.mk (fun ad => ?_) | refine Ds (id := 2) [0,1,0,4,15,31] [0,2,3,1,4,5] [1,4] [7] true ?_ | refine Qt.mk Qb.a ?_ | (refine Qc.mk [] _ [_] _ cf QW (fun _ h => ⟨h.2.2.1, trivial⟩) (fun v L' D' hp => ?_); obtain ⟨ad0, rfl, rfl, rfl⟩ := hp) | (refine Qc.mk [_] _ [_] _ (ch _) QW (fun _ h => ⟨h.2.2.1, trivial⟩) (fun v L' D' hp => ?_); obtain ⟨b, k, cs, g2, rfl, h1, h2, hmc, hg2, rfl, rfl⟩ := hp) | (refine Qc.mk [_] _ [_] _ (ch _) (List.Perm.swap _ _ _) (fun _ h => ⟨h.2.2.1, trivial⟩) (fun v L' D' hp => ?_); obtain ⟨b, k, cs, g2, rfl, h1, h2, hmc, hg2, rfl, rfl⟩ := hp) | (refine Qc.mk [] _ [_, _, _, _] _ (ap b k cs h2 hmc) QW (fun _ h => by simp only [QI, Qs, List.cons_append, List.nil_append, and_true] at h ⊢; simp only [h, and_self]) (fun v L' D' hq => ?_); obtain ⟨t, rfl, rfl, rfl, ht⟩ := hq)
 all_goals
  refine ⟨?_⟩
  have hts := zn ht
  clear ch ap cf
  by_cases h0 : (Q0 u.pl (cs.map CHM.pl)).2 = 0
  ·have q4 := ZG who 4 (by omega) (by omega)
   have r4 := QR who (n := 4) (by omega)
   generalize ZD who 4 = x4 at *
   have hut := Hr VN r4.1 (by simpa [VN] using r4.2)
   generalize VN.getD x4.toNat [] = usr at *
   have hul := users_law (u := usr) h0
   have hn0 := last_nobody (J0 h0).1
   rw [← ht] at hul hn0
   have ls := vW u usr hus.big.lasts
   have lt := vW t usr hts.big.lasts
   have ln := vW t [] hts.big.lasts
   rw [h0]
   clear ht h0
   repeat' first | refine QF (c := .seq (.region 7 _ _) _) ?_ | refine Wk ?_ | refine Qa.mk (fun h => ?_) (fun h => ?_) | refine Qd.mk (fun ad => ?_) | refine Qc.is q4 ?_ QX | (refine Qc.mk [] _ [] _ Pn QW QX (fun v L' D' hq => ?_); obtain ⟨ua, uc, rfl, rfl, rfl⟩ := hq) | refine Qr.a 9 1 (VN.map C.s) (.inr fun m h => h.1) ?_ | refine Qi.mk 9 _ (VN.map C.s) [.s usr] (.inr fun m h => h.1) (by omega) (by omega) (by first | omega | decide) (by exact hut) ?_
   refine ⟨?_⟩
   rename_i adu
   change Yd t.lasts usr = if didT (cs.map CHM.pl) usr = true then t.seq else Yd u.lasts usr at hul
   change Yd t.lasts [] = 0 at hn0
   rw [hn0] at ln
   have hrd : ∀ L, Qp L [QG t, WQ b cs, QG u, gM, XH] 0 10 b cs.length (Wi cs) := fun L => .inr fun m h => h.2.1.row
   repeat' first | refine Wk ?_ | refine Qa.mk (fun h => ?_) (fun h => ?_) | refine Qd.mk (fun ad => ?_)
   refine Qn (α := Nat × Bool) (fun x => [(7, .c (.p 0 adu 0)), (8, .c (.sl b cs.length k)), (9, .c (.p 1 ad 0)), (11, .c (.s usr)), (12, .c (.b x.2)), (13, .c (.i .i64 x.1))]) (fun _ => [.box 1 ad 27 t.cells, .box 0 adu 27 u.cells]) (fun _ => [QG t, WQ b cs, QG u, gM, XH]) 2 (fun x => x.1 ≤ cs.length ∧ didT ((cs.take x.1).map CHM.pl) usr = x.2) (fun x => cs.length - x.1) (Qq.mk (0, false) ⟨Nat.zero_le _, rfl⟩ Qh.a (Qb.ofSub (by repeat (first | exact List.Sublist.slnil | refine List.Sublist.cons_cons _ ?_ | refine List.Sublist.cons _ ?_)) (fun _ h => by simp only [QI, Qs, List.cons_append, List.nil_append, and_true] at h ⊢; simp only [h, and_self]))) (fun x hx => ?_)
   obtain ⟨i, did⟩ := x
   obtain ⟨hi, hd⟩ := hx
   dsimp only at hi hd ⊢
   by_cases hlt : i < cs.length
   ·have hg := chm_f1u hlt
    have hs1 := didT_succ hlt usr
    rw [hd] at hs1
    generalize cs[i].user = w at *
    have hy : ¬ usr = [] → w = usr → didT ((cs.take (i + 1)).map CHM.pl) usr = true := fun h1 h2 => by rw [hs1, decide_eq_false h1, decide_eq_true h2]; simp
    have hn1 : usr = [] → did = false → didT ((cs.take (i + 1)).map CHM.pl) usr = false := fun h1 h2 => by rw [hs1, decide_eq_true h1, h2]; rfl
    have hn2 : ¬ w = usr → did = false → didT ((cs.take (i + 1)).map CHM.pl) usr = false := fun h1 h2 => by rw [hs1, decide_eq_false h1, h2]; simp
    have ht1 : did = true → didT ((cs.take (i + 1)).map CHM.pl) usr = true := fun h2 => by rw [hs1, h2]; rfl
    clear hs1 hul ls lt ln hn0 hd
    cases did with
    | true =>
     repeat' first | refine Wk ?_ | refine Qa.mk (fun h => ?_) (fun h => ?_) | refine Qd.mk (fun ad => ?_) | refine Qr.a 0 10 _ (hrd _) ?_ | refine Zv.mk 0 10 _ _ (hrd _) (by omega) ?_ | refine Qi.mk 0 _ _ [.s w] (hrd _) (by omega) (by omega) (by first | omega | decide) (by exact hg) ?_ | refine Qo.mk (i + 1, true) (by dsimp only; omega) ⟨by dsimp only; omega, ht1 rfl⟩ Qh.a (Qb.refl _ _)
    | false =>
     repeat' first | refine Wk ?_ | refine Qa.mk (fun h => ?_) (fun h => ?_) | refine Qd.mk (fun ad => ?_) | refine Qr.a 0 10 _ (hrd _) ?_ | refine Zv.mk 0 10 _ _ (hrd _) (by omega) ?_ | refine Qi.mk 0 _ _ [.s w] (hrd _) (by omega) (by omega) (by first | omega | decide) (by exact hg) ?_ | refine Qo.mk (i + 1, true) (by dsimp only; omega) ⟨by dsimp only; omega, hy (by assumption) (by assumption)⟩ Qh.a (Qb.refl _ _) | refine Qo.mk (i + 1, false) (by dsimp only; omega) ⟨by dsimp only; omega, hn1 (by assumption) rfl⟩ Qh.a (Qb.refl _ _) | refine Qo.mk (i + 1, false) (by dsimp only; omega) ⟨by dsimp only; omega, hn2 (by assumption) rfl⟩ Qh.a (Qb.refl _ _)
   ·have hil : i = cs.length := by omega
    subst hil
    rw [List.take_length] at hd
    rw [hd] at hul
    rw [hul] at lt
    clear hul hd
    cases did with
    | true =>
     repeat' first | refine Qa.yes rfl ?_ | refine Wk ?_ | refine Qa.mk (fun h => ?_) (fun h => ?_) | refine Qd.mk (fun ad => ?_) | refine Qc.is ls ?_ (fun _ h => by simp only [QI, Qs, List.cons_append, List.nil_append, and_true] at h ⊢; simp only [h, and_self]) | refine Qc.is lt ?_ (fun _ h => by simp only [QI, Qs, List.cons_append, List.nil_append, and_true] at h ⊢; simp only [h, and_self]) | refine Qc.is ln ?_ (fun _ h => by simp only [QI, Qs, List.cons_append, List.nil_append, and_true] at h ⊢; simp only [h, and_self]) | refine Qc.is Xo ?_ (fun _ h => by simp only [QI, Qs, List.cons_append, List.nil_append, and_true] at h ⊢; simp only [h, and_self]) | refine Qe.is rfl
    | false =>
     repeat' first | refine Qa.yes rfl ?_ | refine Wk ?_ | refine Qa.mk (fun h => ?_) (fun h => ?_) | refine Qd.mk (fun ad => ?_) | refine Qc.is ls ?_ (fun _ h => by simp only [QI, Qs, List.cons_append, List.nil_append, and_true] at h ⊢; simp only [h, and_self]) | refine Qc.is lt ?_ (fun _ h => by simp only [QI, Qs, List.cons_append, List.nil_append, and_true] at h ⊢; simp only [h, and_self]) | refine Qc.is ln ?_ (fun _ h => by simp only [QI, Qs, List.cons_append, List.nil_append, and_true] at h ⊢; simp only [h, and_self]) | refine Qc.is Xo ?_ (fun _ h => by simp only [QI, Qs, List.cons_append, List.nil_append, and_true] at h ⊢; simp only [h, and_self]) | refine Qe.is rfl
  ·generalize (Q0 u.pl (cs.map CHM.pl)).2 = E at *
   repeat' first | refine Wk ?_ | refine Qa.mk (fun h => ?_) (fun h => ?_) | refine Qd.mk (fun ad => ?_) | refine Qc.is Xo ?_ (fun _ h => by simp only [QI, Qs, List.cons_append, List.nil_append, and_true] at h ⊢; simp only [h, and_self]) | refine Qe.is rfl
end Go.Proofs
