/- This text walks through the functions refused, kind, perform and own of the package state. -/
import Derived.Test.YtcddpbpbebkdmaaGreatDoorK11
import Derived.Test.YtcddpbpbebkdmaaGreatDoorK14
import Derived.Test.YtcddpbpbebkdmaaGreatDoorK10
set_option linter.all false
namespace Go.X
open Go Go.Lib
theorem VK.props_asc {sq : Int} {s : ST} (h : VK sq s) : s.props.Pairwise fun a b => a.id < b.id := (Sa h.pp).1
end Go.X
namespace Go.Proofs
open Go Go.X Tryz
set_option maxRecDepth 100000
set_option maxHeartbeats 4000000
theorem TF (c : CHM) (hk : 1 ≤ c.kind ∧ c.kind ≤ 10) (ht : c.text.length ≤ 1000000) (hto : c.kind = 4 ∨ (c.tsp = 0 ∧ c.tnm = [])) : FnS prog 119 [.agg c.cells] [] [gM, XH] (Is (.c (.b (Zx c.pl)))) := by
 have hrg : ∀ L D, Qp L (D ++ [gM, XH]) 0 2 (some ⟨0, 0, none⟩) 1 [.i .i64 5, .s policyNm] := fun L D => .inr fun m h => ((Qs D _).1 h).2.2.1
 have cr := j4 c.text ht
 obtain ⟨W, hW⟩ : ∃ W, Zx c.pl = W := ⟨_, rfl⟩
 rw [hW]
 unfold Zx xN at hW
 change (if c.kind = 1 then decide (c.sp = 5 ∧ c.nm = policyNm) && !decide ((Zi c.text).2.2 = 0) else if c.kind = 2 ∨ c.kind = 3 ∨ c.kind = 5 then decide (c.sp = 5 ∧ c.nm = policyNm) else if c.kind = 4 then decide (c.sp = 5 ∧ c.nm = policyNm) || decide (c.tsp = 5 ∧ c.tnm = policyNm) else false) = W at hW
 generalize Zi c.text = r at *
 have hne : ¬ (c.tsp = 5 ∧ c.tnm = policyNm) ∨ c.kind = 4 := by
  rcases hto with h | h
  ·exact .inr h
  ·exact .inl fun e => by omega
 obtain ⟨kd, us, no, sp, nm, tsp, tnm, tx, n, ha, hc, hi⟩ := c
 dsimp only at *
 clear hto ht
 generalize policyNm = pn at *
 rcases kinds hk with rfl | rfl | rfl | rfl | rfl | rfl | rfl | rfl | rfl | rfl
 all_goals
  refine FJ 0 func119 ntmps119 (fun G => ?_)
  repeat' first | refine Wk ?_ | refine Qa.mk (fun h => ?_) (fun h => ?_) | refine Qd.mk (fun ad => ?_) | (refine Qc.mk [] _ [_] _ cr QW Kh (fun v L' D' hq => ?_); obtain ⟨pm, _, _, _, rfl, rfl, rfl⟩ := hq) | refine Qi.a 0 _ _ _ (hrg _ _) rfl ?_ | refine Qi.a 0 _ _ _ (hrg _ []) rfl ?_ | refine Qe.bool ?_
 all_goals (clear hrg cr; grind)
end Go.Proofs
namespace Go.X
open Go Go.Lib
theorem Ls {c : CH} (h : QM c = 0) (h6 : c.kind = 6) : 1 ≤ c.n ∧ c.n ≤ 52596000 := by
 obtain ⟨_, hw, _⟩ := K0.1 h
 unfold Xf at hw
 rw [if_neg (by omega), if_neg (by omega), if_pos h6] at hw
 simp only [Bool.and_eq_true, decide_eq_true_eq] at hw
 exact hw.2
abbrev PfP (ad : Nat) (sq : Int) (r : ST × Int) : V → List Chunk → List Fact → Prop := fun v L D => ∃ s' : STM, v = .c (.i .i64 r.2) ∧ L = WN 2 ad s' sq ∧ D = [] ∧ (r.2 = 0 → s'.pl = r.1)
end Go.X
namespace Go.Proofs
open Go Go.X Tryz
set_option maxRecDepth 100000
set_option maxHeartbeats 4000000
theorem Ee (pd : Nat) (s : STM) (sq : Int) (c : CHM) (hv : QM c.pl = 0) (hk : VK sq s.pl) : FnS prog 118 [.c (.p 2 pd 0), .agg c.cells] (WN 2 pd s sq) [Yy c, gM] (vu pd sq (Zm s.pl c.pl sq)) := by
 have hs := hk.small
 have hc := Ru hv
 have hkk := jE hv
 have hhist := Ud hv
 change 1 ≤ c.kind ∧ c.kind ≤ 10 at hkk
 change c.hist.length ≤ 40 at hhist
 have nw := hk.nw
 change ((s.watches.length : Nat) : Int) ≤ 100 at nw
 have cp := Np pd s sq c hs hk.asc
 have cd := Oh pd s sq c hs hk.asc
 have cr := HG pd s sq c hs hk.asc
 have cm := fun h : c.kind = 4 => Ed pd s sq c hs hk.asc (by have := (XZ (hc.dest h)).2.2.2; have h2 : c.pl.tnm = c.tnm := rfl; rw [h2] at this; omega)
 have ct := fun h : c.kind = 5 => Rp pd s sq c hs hk.asc (by have := hc.hist h; simp only [Z7, Bool.and_eq_true, decide_eq_true_eq] at this; have h2 : c.pl.hist = c.hist := rfl; rw [h2] at this; omega) (by omega)
 have ck := fun h : c.kind = 6 => S9 pd s sq c hk.c0 hk.c1 (Ls hv h)
 have cw := fun h : c.kind = 7 ∨ c.kind = 8 => Rf pd s sq c h (by omega) hk.wa
 have cq := HH pd s sq c hs.props hk.q0
 have cs := Nr pd s sq c hs.props hk.props_asc
 generalize hR : Zm s.pl c.pl sq = R
 unfold Zm at hR
 rw [OW] at hR
 have r1 : c.kind = 1 → R = K7 s.pl c.pl sq := fun h => by rw [← hR, if_pos h]
 have r2 : c.kind = 2 → R = JA s.pl c.pl := fun h => by rw [← hR, if_neg (by omega), if_pos h]
 have r3 : c.kind = 3 → R = XS s.pl c.pl := fun h => by rw [← hR, if_neg (by omega), if_neg (by omega), if_pos h]
 have r4 : c.kind = 4 → R = VB s.pl c.pl sq := fun h => by rw [← hR, if_neg (by omega), if_neg (by omega), if_neg (by omega), if_pos h]
 have r5 : c.kind = 5 → R = Vw s.pl c.pl sq := fun h => by rw [← hR, if_neg (by omega), if_neg (by omega), if_neg (by omega), if_neg (by omega), if_pos h]
 have r6 : c.kind = 6 → R = zd s.pl c.pl := fun h => by rw [← hR, if_neg (by omega), if_neg (by omega), if_neg (by omega), if_neg (by omega), if_neg (by omega), if_pos h]
 have r7 : c.kind = 7 ∨ c.kind = 8 → R = Xm s.pl c.pl := fun h => by rw [← hR, if_neg (by omega), if_neg (by omega), if_neg (by omega), if_neg (by omega), if_neg (by omega), if_neg (by omega), if_pos h]
 have r9 : c.kind = 9 → R = Jc s.pl c.pl := fun h => by rw [← hR, if_neg (by omega), if_neg (by omega), if_neg (by omega), if_neg (by omega), if_neg (by omega), if_neg (by omega), if_neg (by omega), if_pos h]
 have r10 : c.kind = 10 → R = WA s.pl c.pl := fun h => by rw [← hR, if_neg (by omega), if_neg (by omega), if_neg (by omega), if_neg (by omega), if_neg (by omega), if_neg (by omega), if_neg (by omega), if_neg (by omega)]
 clear hR hc hv hk hs hhist nw
 obtain ⟨T, hT⟩ : ∃ T, WN 2 pd s sq = T := ⟨_, rfl⟩
 have go : ∀ {f : FuncId} {X : ST × Int} {ad : Nat} {D0 : List Fact} {K : V → List Chunk → List Fact → Prop}, FnS prog f [.c (.p 2 pd 0), .agg c.cells] (WN 2 pd s sq) D0 (vu pd sq X) → (∀ m, QI m [Yy c, gM] → QI m D0) → (∀ s' : STM, s'.pl = X.1 → K (.c (.i .i64 X.2)) (WN 2 pd s' sq ++ [.box 1000 ad 64 c.cells]) [Yy c, gM]) →
   Qc prog f [.c (.p 2 pd 0), .agg c.cells] (.box 1000 ad 64 c.cells :: WN 2 pd s sq) [Yy c, gM] K := fun {f X ad D0 K} h hd k =>
  Qc.mk (WN 2 pd s sq) [.box 1000 ad 64 c.cells] D0 _ h (List.perm_append_singleton _ _).symm hd (fun v L' D' ⟨s', h1, h2, h3, h4⟩ => by subst h1 h2 h3; exact k s' h4)
 have fin : ∀ {X : ST × Int} {ad : Nat} {s' : STM}, R = X → s'.pl = X.1 → Qe (vu pd sq R) (WN 2 pd s' sq ++ [.box 1000 ad 64 c.cells]) [Yy c, gM] (.c (.i .i64 X.2)) := fun {X ad s'} h h' => by
  subst h
  exact Qe.mk (WN 2 pd s' sq) [] ⟨s', rfl, rfl, rfl, h'⟩ (Qb.ofSub (List.sublist_append_left _ _) QX)
 refine FJ 1000 func118 ntmps118 (fun G => ?_)
 repeat' first | refine Wk ?_ | refine Qa.mk (fun h => ?_) (fun h => ?_) | refine Qd.mk (fun ad => ?_) | refine go cp QX (fun s' h' => ?_) | refine go cd QX (fun s' h' => ?_) | refine go cr QX (fun s' h' => ?_) | refine go (cm (by omega)) vt (fun s' h' => ?_) | refine go (ct (by omega)) Kh (fun s' h' => ?_) | refine go (ck (by omega)) QX (fun s' h' => ?_) | refine go cq QX (fun s' h' => ?_) | refine go cs QX (fun s' h' => ?_) | refine go (cw (by omega)) QX (fun s' h' => ?_) | exact fin (r1 (by omega)) (by assumption) | exact fin (r2 (by omega)) (by assumption) | exact fin (r3 (by omega)) (by assumption) | exact fin (r4 (by omega)) (by assumption) | exact fin (r5 (by omega)) (by assumption) | exact fin (r6 (by omega)) (by assumption) | exact fin (r7 (by omega)) (by assumption) | exact fin (r9 (by omega)) (by assumption) | exact fin (r10 (by omega)) (by assumption)
theorem TN (pd : Nat) (s : STM) (sq : Int) (c : CHM) (hq : 1 ≤ sq) (hk : VK sq s.pl) (hl : c.hist.length ≤ 140737488355328) : FnS prog 73 [.c (.p 2 pd 0), .agg c.cells] (WN 2 pd s sq) [Yy c, gM, XH] (PfP pd sq (X.X4 s.pl c.pl sq)) := by
 have cv := Rq c hl
 have gk : ∀ {X : ST × Int} {ad : Nat} {K : V → List Chunk → List Fact → Prop}, FnS prog 118 [.c (.p 2 pd 0), .agg c.cells] (WN 2 pd s sq) [Yy c, gM] (vu pd sq X) → (∀ s' : STM, s'.pl = X.1 → K (.c (.i .i64 X.2)) (.box 1000 ad 64 c.cells :: WN 2 pd s' sq) [Yy c, gM, XH]) →
   Qc prog 118 [.c (.p 2 pd 0), .agg c.cells] (.box 1000 ad 64 c.cells :: WN 2 pd s sq) [Yy c, gM, XH] K := fun {X ad K} h k =>
  Qc.mkO (WN 2 pd s sq) [.box 1000 ad 64 c.cells] [Yy c, gM] [Yy c, gM, XH] _ h (Qb.perm (List.perm_append_singleton _ _).symm) (fun _ h => ⟨h.1, h.2.1, trivial⟩) (fun v L' D' ⟨s', h1, h2, h3, h4⟩ => by subst h1 h2 h3; exact ⟨_, _, Qb.perm (List.perm_append_singleton _ _), k s' h4⟩)
 have gn : ∀ {s1 : STM} {X : ST × Int} {ad : Nat} {K : V → List Chunk → List Fact → Prop}, FnS prog 120 [.c (.p 2 pd 0), .c (.s c.user)] (WN 2 pd s1 sq) [] (vu pd sq X) → (∀ s' : STM, s'.pl = X.1 → K (.c (.i .i64 X.2)) (.box 1000 ad 64 c.cells :: WN 2 pd s' sq) [Yy c, gM, XH]) →
   Qc prog 120 [.c (.p 2 pd 0), .c (.s c.user)] (.box 1000 ad 64 c.cells :: WN 2 pd s1 sq) [Yy c, gM, XH] K := fun {s1 X ad K} h k =>
  Qc.mkO (WN 2 pd s1 sq) [.box 1000 ad 64 c.cells] [] [Yy c, gM, XH] _ h (Qb.perm (List.perm_append_singleton _ _).symm) QX (fun v L' D' ⟨s', h1, h2, h3, h4⟩ => by subst h1 h2 h3; exact ⟨_, _, Qb.perm (List.perm_append_singleton _ _), k s' h4⟩)
 generalize hR : X.X4 s.pl c.pl sq = R
 have fin : ∀ {e : Int} {ad : Nat} {s' : STM}, R.2 = e → (R.2 = 0 → s'.pl = R.1) → Qe (PfP pd sq R) (.box 1000 ad 64 c.cells :: WN 2 pd s' sq) [Yy c, gM, XH] (.c (.i .i64 e)) := fun {e ad s'} h h' => by
  subst h
  exact Qe.mk (WN 2 pd s' sq) [] ⟨s', rfl, rfl, rfl, h'⟩ (Qb.drop.trans (Qb.facts fun _ _ => trivial))
 unfold X.X4 at hR
 by_cases q1 : QM c.pl = 0
 ·have hco := Ru q1
  have ck := Ee pd s sq c q1 hk
  have hfk := jE q1
  change 1 ≤ c.kind ∧ c.kind ≤ 10 at hfk
  have htl := hco.text
  change ((c.text.length : Nat) : Int) ≤ 8192 at htl
  have cf := TF c hfk (by omega) (((Ws c.pl).1 (K0.1 q1).1).2.2.2.2.2.1)
  have hkk := hk.kind hq hco
  rw [q1] at cv
  rw [if_neg (by omega)] at hR
  by_cases q2 : (Zm s.pl c.pl sq).2 = 0
  ·rw [if_neg (by omega)] at hR
   cases q3 : Zx c.pl with
   | true =>
    rw [if_pos q3] at hR
    have e1 : R.2 = 7 := by rw [← hR]
    rw [q3] at cf
    clear hkk hR
    generalize Zm s.pl c.pl sq = K at *
    obtain ⟨K1, K2⟩ := K
    dsimp only at q2
    subst q2
    refine FJ 1000 func73 ntmps73 (fun G => ?_)
    repeat' first | refine Wk ?_ | refine Qa.mk (fun h => ?_) (fun h => ?_) | refine Qd.mk (fun ad => ?_) | refine Qc.is cv ?_ (fun _ h => ⟨h.1, h.2.1, trivial⟩) | refine gk ck (fun s1 hp1 => ?_) | refine Qc.is cf ?_ (fun _ h => ⟨h.2.1, h.2.2.1, trivial⟩) | exact fin e1 (fun h => by omega)
   | false =>
    rw [if_neg (by rw [q3]; decide)] at hR
    have hk1 := hkk q3 q2
    rw [q3] at cf
    have hk2 : ∀ s1 : STM, s1.pl = (Zm s.pl c.pl sq).1 → VK sq s1.pl := fun s1 h => by rw [h]; exact hk1
    have cn : ∀ s1 : STM, s1.pl = (Zm s.pl c.pl sq).1 → FnS prog 120 [.c (.p 2 pd 0), .c (.s c.user)] (WN 2 pd s1 sq) [] (vu pd sq (Q9 (Zm s.pl c.pl sq).1 c.user sq)) := fun s1 h => by
     have hv1 := hk2 s1 h
     have := hv1.nl
     change ((s1.lasts.length : Nat) : Int) ≤ 60 at this
     rw [← h]
     exact Ec pd s1 sq c.user (by omega) hv1.la
    have e1 : R.2 = (Q9 (Zm s.pl c.pl sq).1 c.user sq).2 := by
     rw [← hR]; split
     ·rfl
     ·rfl
    have e2 : R.2 = 0 → R.1 = (Q9 (Zm s.pl c.pl sq).1 c.user sq).1 := fun h => by
     rw [e1] at h
     rw [← hR, if_neg (show ¬ (Q9 (Zm s.pl c.pl sq).1 c.pl.user sq).2 ≠ 0 from fun h' => h' h)]; rfl
    clear hkk hR hk2 hk1
    generalize Zm s.pl c.pl sq = K at *
    obtain ⟨K1, K2⟩ := K
    dsimp only at q2 cn e1 e2
    subst q2
    generalize Q9 K1 c.user sq = M at *
    refine FJ 1000 func73 ntmps73 (fun G => ?_)
    repeat' first | refine Wk ?_ | refine Qa.mk (fun h => ?_) (fun h => ?_) | refine Qd.mk (fun ad => ?_) | refine Qc.is cv ?_ (fun _ h => ⟨h.1, h.2.1, trivial⟩) | refine gk ck (fun s1 hp1 => ?_) | refine Qc.is cf ?_ (fun _ h => ⟨h.2.1, h.2.2.1, trivial⟩) | refine gn (cn s1 hp1) (fun s2 hp2 => ?_) | exact fin e1 (fun h => by rw [e2 h]; exact hp2)
  ·rw [if_pos q2] at hR
   have e1 : R.2 = (Zm s.pl c.pl sq).2 := by rw [← hR]
   clear hkk hR cf
   generalize Zm s.pl c.pl sq = K at *
   obtain ⟨K1, K2⟩ := K
   dsimp only at q2 e1
   refine FJ 1000 func73 ntmps73 (fun G => ?_)
   repeat' first | refine Wk ?_ | refine Qa.mk (fun h => ?_) (fun h => ?_) | refine Qd.mk (fun ad => ?_) | refine Qc.is cv ?_ (fun _ h => ⟨h.1, h.2.1, trivial⟩) | refine gk ck (fun s1 hp1 => ?_) | exact fin e1 (fun h => absurd (e1.symm.trans h) q2)
 ·rw [if_pos q1] at hR
  have e1 : R.2 = QM c.pl := by rw [← hR]
  clear hR
  generalize QM c.pl = e at *
  refine FJ 1000 func73 ntmps73 (fun G => ?_)
  repeat' first | refine Wk ?_ | refine Qa.mk (fun h => ?_) (fun h => ?_) | refine Qd.mk (fun ad => ?_) | refine Qc.is cv ?_ (fun _ h => ⟨h.1, h.2.1, trivial⟩) | exact fin e1 (fun h => absurd (e1.symm.trans h) q1)
end Go.Proofs
namespace Go.X
open Go Go.Lib
theorem Sg {l : List PGM} {i : Nat} (h : i < l.length) (x : PGM) : QP (i * 3 + 0) x.cells (Qm l) = Qm (l.set i x) := by
 rw [Qm, Qm]
 exact Wo (F := PGM.cells) (z := 3) (fun _ => rfl) h (Nat.le_refl 3) (by simp [QP, PGM.cells])
theorem RR {l : List PGM} {i : Nat} (h : i < l.length) (x : PGM) : (l.set i x).take (i + 1) = l.take i ++ [x] := by
 rw [List.set_eq_take_append_cons_drop, if_pos h, List.take_append]
 have h1 : (l.take i).length = i := by rw [List.length_take]; omega
 rw [List.take_of_length_le (by omega), h1, show i + 1 - i = 1 by omega]
 rfl
theorem Ea {l : List PGM} {i : Nat} (x : PGM) : (l.set i x).drop (i + 1) = l.drop (i + 1) := by
 rw [List.drop_set_of_lt (by omega)]
theorem Sr {l w q b1 b0 p g : Chunk} {H1 H2 : List Chunk} {D : List Fact} : Qb (l :: w :: q :: b1 :: b0 :: p :: (H1 ++ g :: H2)) D (p :: g :: q :: w :: l :: (H1 ++ H2)) [] := by
 refine (Qb.perm (L' := b1 :: b0 :: p :: g :: q :: w :: l :: (H1 ++ H2)) ?_).trans (Qb.drop.trans (Qb.drop.trans (Qb.facts fun _ _ => trivial)))
 have h1 : (H1 ++ g :: H2).Perm (g :: (H1 ++ H2)) := List.perm_middle
 refine (List.Perm.append_left [l, w, q, b1, b0, p] h1).trans ?_
 refine List.Perm.append_right (H1 ++ H2) (l₁ := [l, w, q] ++ [b1, b0, p, g]) (l₂ := [b1, b0, p, g] ++ [q, w, l]) ?_
 exact List.perm_append_comm.trans (List.Perm.append_left _ (List.reverse_perm [l, w, q]).symm)
abbrev OwnPg (l : List PGM) : V → List Chunk → List Fact → Prop := fun v L D => ∃ a' c' l', v = .c (.sl a' l.length c') ∧ L = .row 60 3 a' l.length c' (Qm l') :: Zt l' ∧ D = [] ∧ l'.length = l.length ∧ l'.map PGM.pl = l.map PGM.pl
end Go.X
namespace Go.Proofs
open Go Go.X Tryz
set_option maxRecDepth 100000
set_option maxHeartbeats 4000000
theorem j6 (a : Option Addr) (c : Nat) (l : List PGM) (hl : l.length ≤ 1000) (hh : ∀ p ∈ l, p.hist.length ≤ 1000) : FnS prog 113 [.c (.sl a l.length c)] [] [H7 a l] (OwnPg l) := by
 have cc := Oq 0 a c l hl
 refine FJ 0 func113 ntmps113 (fun G => ?_)
 repeat' first | refine Wk ?_ | refine Qa.mk (fun h => ?_) (fun h => ?_) | refine Qd.mk (fun ad => ?_) | (refine Qc.mk [] _ [_] _ cc QW (fun _ h => ⟨h.1.row, trivial⟩) (fun v L' D' hq => ?_); obtain ⟨a1, c1, rfl, rfl, rfl⟩ := hq)
 refine Qn (α := Nat × List PGM) (fun x => [(3, .c (.sl a1 l.length c1)), (8, .c (.i .i64 l.length)), (9, .c (.i .i64 x.1))]) (fun x => .row 60 3 a1 l.length c1 (Qm x.2) :: Zt (x.2.take x.1)) (fun _ => [H7 a l]) 0
  (fun x => x.1 ≤ l.length ∧ x.2.length = l.length ∧ x.2.map PGM.pl = l.map PGM.pl ∧ x.2.drop x.1 = l.drop x.1) (fun x => l.length - x.1) (Qq.mk (0, l) ⟨Nat.zero_le _, rfl, rfl, rfl⟩ Qh.a (Qb.refl _ _)) (fun x hx => ?_)
 clear cc
 obtain ⟨i, q⟩ := x
 dsimp only at hx ⊢
 obtain ⟨hi, hql, hpl, hdr⟩ := hx
 by_cases hlt : i < l.length
 ·have hiq : i < q.length := by omega
  have hel : q[i] = l[i] := by
   rw [List.drop_eq_getElem_cons hiq, List.drop_eq_getElem_cons hlt] at hdr
   exact (List.cons.inj hdr).1
  have hg := Z5 hiq
  rw [hel] at hg
  have hset := fun x : PGM => Sg hiq x
  have hmem := List.getElem_mem hlt
  have cp := w7 0 l[i] (hh _ hmem)
  have hpl2 : ∀ x : PGM, x.pl = l[i].pl → (q.set i x).map PGM.pl = l.map PGM.pl := fun x hx => by
   have h1 : (q.map PGM.pl)[i]'(by simpa using hiq) = x.pl := by rw [List.getElem_map, hel]; exact hx.symm
   rw [List.map_set, ← h1, List.set_getElem_self]; exact hpl
  have hdr2 : ∀ x : PGM, (q.set i x).drop (i + 1) = l.drop (i + 1) := fun x => by
   rw [Ea]
   rw [List.drop_eq_getElem_cons hiq, List.drop_eq_getElem_cons hlt] at hdr
   exact (List.cons.inj hdr).2
  have htk := fun x : PGM => RR hiq x
  have hln2 : ∀ x : PGM, (q.set i x).length = l.length := fun x => by rw [List.length_set]; exact hql
  have hpf : ∀ m, QI m [H7 a l] → QI m [Qf 0 6 l[i].ha l[i].hist.length (Zb l[i].hist)] := fun m h => ⟨h.1.his _ hmem, trivial⟩
  clear hdr hel hmem hpl
  generalize l[i] = p at *
  obtain ⟨sp, nm, ha, hc, hist⟩ := p
  dsimp only at *
  generalize q.take i = tk at *
  repeat' first | refine Wk ?_ | refine Qa.mk (fun h => ?_) (fun h => ?_) | refine Qd.mk (fun ad => ?_) | refine Qr.mk 60 3 _ (.inl ⟨_, (by first | exact List.Mem.head _ | exact List.Mem.tail _ QT | exact List.Mem.tail _ ZR | exact List.Mem.tail _ XQ | exact List.Mem.tail _ X8)⟩) (by omega) (by omega) ?_ | refine Qi.mk 60 l.length _ (PGM.cells ⟨sp, nm, ha, hc, hist⟩) (.inl ⟨_, (by first | exact List.Mem.head _ | exact List.Mem.tail _ QT | exact List.Mem.tail _ ZR | exact List.Mem.tail _ XQ | exact List.Mem.tail _ X8)⟩) (by omega) (by omega) (by first | omega | decide) (by exact hg) ?_ | (refine Qc.mkO [] _ [_] [_] _ cp (Qb.refl _ _) hpf (fun v L' D' hq => ?_); obtain ⟨a2, c2, rfl, rfl, rfl⟩ := hq; refine ⟨_, _, Qb.back [_] _, ?_⟩) | refine Xp.mk [] _ _ _ _ _ _ rfl (by omega) (by omega) (Nat.le_of_ble_eq_true rfl) (by exact hset _) ?_ | refine Qo.mk (i + 1, q.set i ⟨sp, nm, a2, c2, hist⟩) (by dsimp only; omega) ⟨by dsimp only; omega, hln2 _, hpl2 _ rfl, hdr2 _⟩ Qh.a (by dsimp only; rw [htk]; exact Qb.perm (List.Perm.cons _ ((List.perm_append_comm (l₁ := Zt tk) (l₂ := [_])).trans (Uc tk ⟨sp, nm, a2, c2, hist⟩).symm)))
 ·have hil : i = l.length := by omega
  subst hil
  rw [List.take_of_length_le (by omega)]
  repeat' first | refine Wk ?_ | refine Qa.mk (fun h => ?_) (fun h => ?_) | refine Qd.mk (fun ad => ?_) | refine Qe.mk _ [] ⟨a1, c1, q, rfl, rfl, rfl, hql, hpl⟩ (Qb.facts fun _ _ => trivial)
theorem own_ok (s : STM) (hs : Vs s) : FnS prog 72 [.agg s.cells] [] [QG s] (fun v L D => ∃ s' : STM, v = .agg s'.cells ∧ L = ve s' ∧ D = [] ∧ s'.pl = s.pl) := by
 have c1 := j6 s.pa s.pc s.pages (by have := hs.pages; omega) hs.ph
 have c2 := j6 s.ga s.gc s.gone (by have := hs.gone; omega) hs.gh
 have c3 := Oo 0 s.qa s.qc s.props (by have := hs.props; omega)
 have c4 := On 0 s.wa s.wc s.watches (by have := hs.watches; omega)
 have c5 := Or 0 s.la s.lc s.lasts (by have := hs.lasts; omega)
 unfold STM.cells
 refine FJ 0 func72 ntmps72 (fun G => ?_)
 repeat' first | refine QF (c := .seq (.region 1 _ _) _) ?_ | refine Wk ?_ | refine Qa.mk (fun h => ?_) (fun h => ?_) | refine Qd.mk (fun ad => ?_)
 rename_i ad0
 refine ⟨?_⟩
 refine Kj (x := .region 1 _ _) (α := (Option Addr × Nat × List PGM) × (Option Addr × Nat × List PGM)) (fun _ => [(1, .c (.p 0 ad0 0)), (2, .c (.p 1 ad 0))]) (fun z => .box 1 ad 27 STM.nil.cells :: .box 0 ad0 27 [.i .i64 s.seq, .i .i64 s.clk, .sl z.1.1 s.pages.length z.1.2.1, .sl z.2.1 s.gone.length z.2.2.1, .sl s.qa s.props.length s.qc, .i .i64 s.proposed, .sl s.wa s.watches.length s.wc, .sl s.la s.lasts.length s.lc] :: ((.row 60 3 z.1.1 s.pages.length z.1.2.1 (Qm z.1.2.2) :: Zt z.1.2.2) ++ (.row 60 3 z.2.1 s.gone.length z.2.2.1 (Qm z.2.2.2) :: Zt z.2.2.2))) (fun _ => [QG s]) 2 (fun z => z.1.2.2.length = s.pages.length ∧ z.1.2.2.map PGM.pl = s.pages.map PGM.pl ∧ z.2.2.2.length = s.gone.length ∧ z.2.2.2.map PGM.pl = s.gone.map PGM.pl) ?_ (fun z hz => ?_)
 ·clear c3 c4 c5
  repeat' first | refine Qt.mk (Qb.ofSub (by repeat (first | exact List.nil_sublist _ | refine List.Sublist.cons_cons _ ?_ | refine List.Sublist.cons _ ?_)) (fun _ h => h)) ?_ | refine Wk ?_ | refine Qa.mk (fun h => ?_) (fun h => ?_) | refine Qd.mk (fun ad => ?_) | refine Ke (id := 1) tyOK (by kernel_rfl) [0, 1, 3, 0, 8, 31, 31, 127, 255, 511] (.node [0, 3] 1 (.node [] 2 (.leaf [4, 6, 5, 7, 8, 9]) 4 (.leaf [2, 6, 5, 7, 8, 9])) 4 (.leaf [1, 2, 6, 5, 7, 8, 9])) [1, 2, 4, 5, 7, 9] [] 9 true (by kernel_rfl) ?_ | refine X3.mk ?_ ?_ | refine Ke (id := 2) tyOK (by kernel_rfl) [0, 1, 3, 0, 8, 31, 0, 64, 255, 223, 1023, 2047, 4095, 8191, 16383] (.node3 [0, 3, 6] 1 (.node [2] 4 (.leaf [5, 7, 8, 9, 10, 11, 12, 13, 14]) 7 (.leaf [4, 5, 8, 9, 10, 11, 12, 13, 14])) 4 (.node [] 1 (.leaf [2, 5, 7, 8, 9, 10, 11, 12, 13, 14]) 7 (.leaf [1, 2, 5, 8, 9, 10, 11, 12, 13, 14])) 7 (.node [] 1 (.leaf [2, 4, 5, 8, 9, 10, 11, 12, 13, 14]) 4 (.leaf [1, 2, 5, 8, 9, 10, 11, 12, 13, 14]))) [1, 4, 7, 10, 12, 14] [] 14 true (by kernel_rfl) ?_ | refine X3.mk ?_ ?_ | refine Qt.mk Qb.a ?_ | (refine Qc.mkO [] _ [_] [_] _ c1 (Qb.refl _ _) (fun _ h => ⟨h.1.pages, trivial⟩) (fun v L' D' hq => ?_); obtain ⟨a1, k1, p1, rfl, rfl, rfl, e1, f1⟩ := hq; refine ⟨_, _, Qb.back _ _, ?_⟩) | (refine Qc.mkO [] _ [_] [_] _ c2 (Qb.refl _ _) (fun _ h => ⟨h.1.gone, trivial⟩) (fun v L' D' hq => ?_); obtain ⟨a2, k2, p2, rfl, rfl, rfl, e2, f2⟩ := hq; refine ⟨_, _, Qb.back _ _, ?_⟩) | refine Qq.mk ((a1, k1, p1), (a2, k2, p2)) ⟨e1, f1, e2, f2⟩ Qh.a (Qb.of rfl)
 clear c1 c2
 obtain ⟨⟨a1, k1, p1⟩, ⟨a2, k2, p2⟩⟩ := z
 dsimp only at *
 obtain ⟨hz1, hz2, hz3, hz4⟩ := hz
 rw [← hz1, ← hz3]
 refine Kj (x := .region 2 _ _) (α := Option Addr × Nat × Option Addr × Nat × Option Addr × Nat) (fun _ => [(1, .c (.p 0 ad0 0)), (2, .c (.p 1 ad 0))]) (fun z => .row 103 2 z.2.2.2.2.1 s.lasts.length z.2.2.2.2.2 (ZV s.lasts) :: .row 69 3 z.2.2.1 s.watches.length z.2.2.2.1 (ZM s.watches) :: .row 122 8 z.1 s.props.length z.2.1 (XI s.props) :: .box 1 ad 27 STM.nil.cells :: .box 0 ad0 27 [.i .i64 s.seq, .i .i64 s.clk, .sl a1 p1.length k1, .sl a2 p2.length k2, .sl z.1 s.props.length z.2.1, .i .i64 s.proposed, .sl z.2.2.1 s.watches.length z.2.2.2.1, .sl z.2.2.2.2.1 s.lasts.length z.2.2.2.2.2] :: (.row 60 3 a1 p1.length k1 (Qm p1) :: Zt p1) ++ (.row 60 3 a2 p2.length k2 (Qm p2) :: Zt p2)) (fun _ => [QG s]) 2 (fun _ => True) ?_ (fun z _ => ?_)
 ·generalize hT : (.row 60 3 a1 p1.length k1 (Qm p1) :: Zt p1 : List Chunk) ++ (.row 60 3 a2 p2.length k2 (Qm p2) :: Zt p2) = T
  repeat' first | refine Qt.mk (Qb.ofSub (by repeat (first | exact Xw true [] T | refine List.Sublist.cons _ ?_)) (fun _ h => h)) ?_ | refine Wk ?_ | refine Qa.mk (fun h => ?_) (fun h => ?_) | refine Qd.mk (fun ad => ?_) | refine ZF (id := 1) tyOK (by kernel_rfl) [0, 1, 3, 0, 8, 31, 31, 127, 255, 511] [0, 3] 1 [2, 4, 5, 6, 7, 8, 9] 4 [1, 2, 5, 6, 7, 8, 9] [1, 4, 7, 9] [] 9 true (by kernel_rfl) ?_ | refine X3.mk ?_ ?_ | refine Ke (id := 2) tyOK (by kernel_rfl) [0, 1, 3, 0, 8, 31, 0, 64, 255, 223, 1023, 2047, 4095, 8191, 16383] (.node3 [0, 3, 6] 1 (.node3 [] 2 (.node [] 4 (.node [] 5 (.leaf [7, 9, 8, 10, 11, 12, 13, 14]) 7 (.leaf [9, 5, 8, 10, 11, 12, 13, 14])) 7 (.leaf [4, 9, 5, 8, 10, 11, 12, 13, 14])) 4 (.node [] 2 (.node [] 5 (.leaf [7, 9, 8, 10, 11, 12, 13, 14]) 7 (.leaf [9, 5, 8, 10, 11, 12, 13, 14])) 7 (.leaf [2, 9, 5, 8, 10, 11, 12, 13, 14])) 7 (.node [] 2 (.leaf [4, 9, 5, 8, 10, 11, 12, 13, 14]) 4 (.leaf [2, 9, 5, 8, 10, 11, 12, 13, 14]))) 4 (.node [] 1 (.node [] 2 (.node [] 5 (.leaf [7, 9, 8, 10, 11, 12, 13, 14]) 7 (.leaf [9, 5, 8, 10, 11, 12, 13, 14])) 7 (.leaf [2, 9, 5, 8, 10, 11, 12, 13, 14])) 7 (.leaf [1, 2, 9, 5, 8, 10, 11, 12, 13, 14])) 7 (.node [] 1 (.node [] 2 (.leaf [4, 9, 5, 8, 10, 11, 12, 13, 14]) 4 (.leaf [2, 9, 5, 8, 10, 11, 12, 13, 14])) 4 (.leaf [1, 2, 9, 5, 8, 10, 11, 12, 13, 14]))) [1, 2, 4, 5, 7, 8, 10, 12, 14] [] 14 true (by kernel_rfl) ?_ | refine X3.mk ?_ ?_ | refine Qt.mk Qb.a ?_ | (refine Qc.mk [] _ [_] _ c3 QW (fun _ h => ⟨h.1.props, trivial⟩) (fun v L' D' hq => ?_); obtain ⟨a3, k3, rfl, rfl, rfl⟩ := hq) | (refine Qc.mk [] _ [_] _ c4 QW (fun _ h => ⟨h.1.watches, trivial⟩) (fun v L' D' hq => ?_); obtain ⟨a4, k4, rfl, rfl, rfl⟩ := hq) | (refine Qc.mk [] _ [_] _ c5 QW (fun _ h => ⟨h.1.lasts, trivial⟩) (fun v L' D' hq => ?_); obtain ⟨a5, k5, rfl, rfl, rfl⟩ := hq) | refine Qq.mk (a3, k3, a4, k4, a5, k5) trivial Qh.a (Qb.of (by rw [← hT]; rfl))
 clear c3 c4 c5
 obtain ⟨a3, k3, a4, k4, a5, k5⟩ := z
 dsimp only
 unfold STM.nil STM.cells
 dsimp only
 repeat' first | refine Wk ?_ | refine Qa.mk (fun h => ?_) (fun h => ?_) | refine Qd.mk (fun ad => ?_) | refine Qe.mk (ve ⟨s.seq, s.clk, a1, k1, p1, a2, k2, p2, a3, k3, s.props, s.proposed, a4, k4, s.watches, a5, k5, s.lasts⟩) [] ⟨⟨s.seq, s.clk, a1, k1, p1, a2, k2, p2, a3, k3, s.props, s.proposed, a4, k4, s.watches, a5, k5, s.lasts⟩, rfl, rfl, rfl, by unfold STM.pl; rw [hz2, hz4]⟩ Sr
end Go.Proofs
namespace Go.Proofs
open Go Go.X Tryz
set_option maxRecDepth 100000
set_option maxHeartbeats 4000000
theorem jy (s : STM) (a : Option Addr) (k : Nat) (l : List CHM) (hs : Gp s) (hp : ∀ p ∈ s.pages, p.hist.length ≤ 1000) (hl : l.length ≤ big) (hh : ∀ c ∈ l, c.hist.length ≤ big) : FnS prog 30 [.agg s.cells, .c (.sl a l.length k)] [] [QG s, WQ a l, gM, XH] (Kz (Q0 s.pl (l.map CHM.pl))) := by
 have hl := ZQ hl
 have cv := YG s hs hp
 generalize hR : Q0 s.pl (l.map CHM.pl) = R
 have hlm : ((l.map CHM.pl).length : Int) = l.length := by rw [List.length_map]
 cases hv : Zl s.pl with
 | false =>
  have e1 : R = (ST.nil, 11) := by rw [← hR]; unfold Q0; rw [hv, if_pos rfl]
  rw [hv] at cv
  subst e1
  refine FJ 0 func30 ntmps30 (fun G => ?_)
  repeat' first | refine Qe.mk [] [QG _] ⟨STM.nil, rfl, rfl, rfl, rfl⟩ (Qb.dropAll.trans (Qb.facts fun _ _ => ⟨YA.nil, trivial⟩)) | refine Wk ?_ | refine Qa.mk (fun h => ?_) (fun h => ?_) | refine Qd.mk (fun ad => ?_) | refine Qc.is cv ?_ (fun _ h => ⟨h.1, h.2.2.1, h.2.2.2.1, trivial⟩)
 | true =>
  rw [hv] at cv
  by_cases hln : (l.length : Int) < 1 ∨ 16 < (l.length : Int)
  ·have e1 : R = (ST.nil, 2) := by rw [← hR]; unfold Q0; rw [hv, if_neg (by decide), if_pos (by rw [hlm]; exact hln)]
   subst e1
   refine FJ 0 func30 ntmps30 (fun G => ?_)
   repeat' first | refine Qe.mk [] [QG _] ⟨STM.nil, rfl, rfl, rfl, rfl⟩ (Qb.dropAll.trans (Qb.facts fun _ _ => ⟨YA.nil, trivial⟩)) | refine Wk ?_ | refine Qa.mk (fun h => ?_) (fun h => ?_) | refine Qd.mk (fun ad => ?_) | refine Qc.is cv ?_ (fun _ h => ⟨h.1, h.2.2.1, h.2.2.2.1, trivial⟩)
  ·have e1 : R = kw (s.seq + 1) (Ja (s.seq + 1) s.pl (l.map CHM.pl)) := by rw [← hR]; exact Uo hv (by rw [hlm]; exact hln)
   obtain ⟨v1, v2, vk⟩ := X.JM.1 hv
   change 0 ≤ s.seq at v1
   change s.seq ≤ 1073741824 at v2
   have vk := vk.mono (show s.pl.seq ≤ s.seq + 1 by show s.seq ≤ s.seq + 1; omega)
   have co := own_ok s vk.small
   clear hR hv
   refine FJ 0 func30 ntmps30 (fun G => ?_)
   repeat' first | refine Qt.mk (Qb.ofSub (by repeat (first | exact List.nil_sublist _ | refine List.Sublist.cons_cons _ ?_ | refine List.Sublist.cons _ ?_)) (fun _ h => h)) ?_ | refine Wk ?_ | refine Qa.mk (fun h => ?_) (fun h => ?_) | refine Qd.mk (fun ad => ?_) | refine Qc.is cv ?_ (fun _ h => ⟨h.1, h.2.2.1, h.2.2.2.1, trivial⟩) | refine Ds (id := 5) [0,1,0,4,12,31,63,127] [0,2,3,4,1,5,6,7] [1,6] [2] true ?_ | refine Qt.mk Qb.a ?_ | (refine Qc.mkO [] _ [_] [_, _, _, _] _ co (Qb.refl _ _) Kh (fun v L' D' hq => ?_); obtain ⟨s1, rfl, rfl, rfl, hpl⟩ := hq; refine ⟨_, _, Qb.back _ _, ?_⟩)
   rename_i ad0 ad1
   refine Qn (α := Nat × STM) (fun x => [(2, .c (.p 0 ad0 0)), (4, .c (.p 1 ad1 0)), (6, .c (.p 2 ad 0)), (32, .c (.sl a l.length k)), (33, .c (.i .i64 l.length)), (34, .c (.i .i64 x.1))]) (fun x => .box 1 ad1 27 STM.nil.cells :: .box 0 ad0 27 s.cells :: WN 2 ad x.2 (s.seq + 1)) (fun _ => [WQ a l, gM, XH]) 3
    (fun x => x.1 ≤ l.length ∧ VK (s.seq + 1) x.2.pl ∧ R = kw (s.seq + 1) (Ja (s.seq + 1) x.2.pl ((l.map CHM.pl).drop x.1))) (fun x => l.length - x.1)
    (Qq.mk (0, s1) ⟨Nat.zero_le _, by rw [hpl]; exact vk, by rw [hpl]; exact e1⟩ Qh.a ((Qb.perm ((List.perm_append_comm (l₁ := [_]) (l₂ := [_, _])).append_right (ve s1))).trans (Qb.facts fun _ h => ⟨h.2.1, h.2.2.1, h.2.2.2.1, trivial⟩))) (fun x hx => ?_)
   clear cv e1 vk hpl s1 hs hp co
   generalize hsq : s.seq + 1 = sq at *
   have hsqr : 1 ≤ sq ∧ sq ≤ 1073741825 := by omega
   obtain ⟨i, s'⟩ := x
   dsimp only at hx ⊢
   obtain ⟨hi, hvk, he⟩ := hx
   by_cases hlt : i < l.length
   ·have hg := Pb hlt
    have hmem := List.getElem_mem hlt
    have hcl := ZQ (hh _ hmem)
    have hcf : ∀ m, QI m [WQ a l, gM, XH] → QI m [Yy l[i], gM, XH] := fun m h => ⟨h.1.his _ hmem, h.2.1, h.2.2.1, trivial⟩
    rw [HB _ hlt, wC] at he
    clear hmem hh
    generalize l[i] = c at *
    generalize hrest : (l.map CHM.pl).drop (i + 1) = rest at he
    have cp := TN ad s' sq c hsqr.1 hvk (by omega)
    have hst := hvk.step (c := c.pl) hsqr.1
    have hrd : ∀ L, Qp L [WQ a l, gM, XH] 0 10 a l.length (Wi l) := fun L => .inr fun m h => h.1.row
    have go : ∀ {X : ST × Int} {ad2 : Nat} {K : V → List Chunk → List Fact → Prop}, FnS prog 73 [.c (.p 2 ad 0), .agg c.cells] (WN 2 ad s' sq) [Yy c, gM, XH] (PfP ad sq X) → (∀ s2 : STM, (X.2 = 0 → s2.pl = X.1) → K (.c (.i .i64 X.2)) ([.box 3 ad2 64 c.cells, .box 1 ad1 27 STM.nil.cells, .box 0 ad0 27 s.cells] ++ WN 2 ad s2 sq) [WQ a l, gM, XH]) →
      Qc prog 73 [.c (.p 2 ad 0), .agg c.cells] (.box 3 ad2 64 c.cells :: .box 1 ad1 27 STM.nil.cells :: .box 0 ad0 27 s.cells :: WN 2 ad s' sq) [WQ a l, gM, XH] K := fun {X ad2 K} h k =>
     Qc.mkO (WN 2 ad s' sq) [_, _, _] [_, _, _] [_, _, _] _ h (Qb.back [_, _, _] (WN 2 ad s' sq)) hcf (fun v L' D' ⟨s2, h1, h2, h3, h4⟩ => by subst h1 h2 h3; exact ⟨_, _, Qb.back (WN 2 ad s2 sq) [_, _, _], k s2 h4⟩)
    generalize X.X4 s'.pl c.pl sq = M at *
    obtain ⟨M1, M2⟩ := M
    dsimp only at he hst
    by_cases hM : M2 = 0
    ·subst hM
     rw [if_neg (by omega)] at he
     have hst := hst rfl
     have hr : ∀ s2 : STM, s2.pl = M1 → VK sq s2.pl ∧ R = kw sq (Ja sq s2.pl ((l.map CHM.pl).drop (i + 1))) := fun s2 h => by rw [h, hrest]; exact ⟨hst, he⟩
     clear he hst hrest
     repeat' first | refine Wk ?_ | refine Qa.mk (fun h => ?_) (fun h => ?_) | refine Qd.mk (fun ad => ?_) | refine Qr.a 0 10 _ (hrd _) ?_ | refine Qi.mk 0 _ _ c.cells (hrd _) (by omega) (by omega) (by first | omega | decide) (by exact hg) ?_ | refine go cp (fun s2 hp2 => ?_) | refine Qo.mk (i + 1, s2) (by dsimp only; omega) ⟨by dsimp only; omega, hr s2 (hp2 rfl)⟩ Qh.a Qb.drop
    ·rw [if_pos hM] at he
     have hR : R = (ST.nil, M2) := by rw [he]; exact if_pos hM
     subst hR
     clear he hst
     repeat' first | refine Qe.mk [] [QG _] ⟨STM.nil, rfl, rfl, rfl, rfl⟩ (Qb.dropAll.trans (Qb.facts fun _ _ => ⟨YA.nil, trivial⟩)) | refine Wk ?_ | refine Qa.mk (fun h => ?_) (fun h => ?_) | refine Qd.mk (fun ad => ?_) | refine Qr.a 0 10 _ (hrd _) ?_ | refine Qi.mk 0 _ _ c.cells (hrd _) (by omega) (by omega) (by first | omega | decide) (by exact hg) ?_ | refine go cp (fun s2 hp2 => ?_)
   ·have hil : i = l.length := by omega
    subst hil
    have hdn : (l.map CHM.pl).drop l.length = [] := List.drop_eq_nil_of_le (by simp)
    rw [hdn] at he
    have hbig : 1073741824 < sq → R = (ST.nil, 8) := fun h => by rw [he]; exact (if_neg (show ¬ (0 : Int) ≠ 0 by decide)).trans (if_pos h)
    have hnew : ¬ 1073741824 < sq → R = ({ s'.pl with seq := sq }, 0) := fun h => by rw [he]; exact (if_neg (show ¬ (0 : Int) ≠ 0 by decide)).trans (if_neg h)
    unfold STM.cells
    delta WN ZZ QC
    repeat' first | refine Wk ?_ | refine Qa.mk (fun h => ?_) (fun h => ?_) | refine Qd.mk (fun ad => ?_) | (rw [hbig (by omega)]; refine Qe.mk [] [QG _] ⟨STM.nil, rfl, rfl, rfl, rfl⟩ (Qb.dropAll.trans (Qb.facts fun _ _ => ⟨YA.nil, trivial⟩))) | (rw [hnew (by omega)]; refine Qe.mk [] [QG _] ⟨⟨sq, s'.clk, s'.pa, s'.pc, s'.pages, s'.ga, s'.gc, s'.gone, s'.qa, s'.qc, s'.props, s'.proposed, s'.wa, s'.wc, s'.watches, s'.la, s'.lc, s'.lasts⟩, rfl, rfl, rfl, rfl⟩ (Qb.drop.trans (Qb.drop.trans (Qb.drop.trans ((Qb.of (List.append_nil (ve s')).symm).trans ((Qb.ownF s' [] _).trans (Qb.facts fun _ h => ⟨h.1.clk, trivial⟩)))))))
end Go.Proofs
