/- This text walks through the statements and the check of whole policies in the reference of chapter 12. -/
import Derived.Test.YtcddpbpbebkdmaaGreatDoorK03
set_option linter.all false
namespace Go.Proofs
open Go Go.X Tryz
set_option maxRecDepth 100000
set_option maxHeartbeats 4000000
theorem kM (p : PolM) (s : Bs) (hs : s.length ≤ 1000000) (hg : p.gs.length ≤ 1000000) (hl : p.rs.length ≤ 1000000) (hx : p.xs.length ≤ 1000000) :
  FnS prog 82 [.agg p.cells, .c (.s s)] [] p.facts (Yp p (Ju p.p3 s)) := by
 cases hW : QA Qk s with
 | nil => rw [Pw hW]; exact LH p s hs hW
 | cons a w =>
  have ha := Kr (Wm hW).1
  have hb := K3 (x := a.getD 0 0) (n := 35) (by decide)
  by_cases h0 : a.getD 0 0 = 35
  ·rw [Px hW h0]; exact LI p s a w hs hW ha (hb.2 h0)
  have h35 : ¬ (((a.getD (0 : Int).toNat 0).toNat : Int) = 35) := fun h => h0 (hb.1 h)
  by_cases h1 : a = wGroup
  ·subst h1
   rw [Tr hW]
   cases w with
   | nil => exact PR p s _ hs hW
   | cons b w => exact R7 p s b w hs hg hW
  by_cases h2 : a = wAllow ∨ a = wDeny
  ·rw [Pv hW h2]
   by_cases h3 : w.length < 3
   ·have : wM p.p3 (decide (a = wAllow)) w (Q8 s 3) = (false, p.p3) := by unfold wM; rw [if_pos (.inl h3)]
    rw [this]; exact R4 p s a w hs hW h2 h3
   ·match w, h3, hW with
    | [], h3, _ => simp at h3
    | [_], h3, _ => simp at h3
    | [_, _], h3, _ => simp at h3
    | b :: c :: d :: w, _, hW => exact LG p s a b c d w hs hl hW h2
  by_cases h3 : a = wGuard ∨ a = wStrict
  ·rw [Tq hW h3]
   by_cases h4 : w.length < 2
   ·have : qg p.p3 (decide (a = wStrict)) w (Q8 s 2) = (false, p.p3) := by unfold qg; rw [if_pos h4]
    rw [this]; exact PQ p s a w hs hW h3 h4
   ·match w, h4, hW with
    | [], h4, _ => simp at h4
    | [_], h4, _ => simp at h4
    | b :: c :: w, _, hW => exact R6 p s a b c w hs hx hW h3
  have h5 : ¬ a = wAllow := fun h => h2 (.inl h)
  have h6 : ¬ a = wDeny := fun h => h2 (.inr h)
  have h7 : ¬ a = wGuard := fun h => h3 (.inl h)
  have h8 : ¬ a = wStrict := fun h => h3 (.inr h)
  rw [Tp hW h0 h1 h5 h6 h7 h8]
  exact R5 p s a w hs hW ha h35 h1 h5 h6 h7 h8
theorem wR (p : PolM) (h : Up p) : FnS prog 83 [.agg p.cells] [] p.facts (Is (.c (.i .i64 (Zg (XU p.gs) p.rs p.xs)))) := by
 have hgl := h.gl
 have hrl := h.rl
 have hxl := h.xl
 have hrr : ∀ L, Qp L p.facts 0 6 p.ra p.rs.length (wO p.rs) := fun L => .inr fun m h => h.2.2.1
 have hrx : ∀ L, Qp L p.facts 0 5 p.xa p.xs.length (kD p.xs) := fun L => .inr fun m h => h.2.2.2.1
 have hgp : (XU p.gs).length = p.gs.length := by simp [XU]
 by_cases hbig : 24 < (p.gs.length : Int) ∨ 64 < (p.rs.length : Int) ∨ 64 < (p.xs.length : Int)
 ·have hv : Zg (XU p.gs) p.rs p.xs = 3 := by unfold Zg; rw [if_pos (by rw [hgp]; exact hbig)]
  rw [hv]
  refine FJ 0 func83 ntmps83 (fun G => ?_)
  repeat' first | refine Wk ?_ | refine Qa.mk (fun h => ?_) (fun h => ?_) | refine Qd.mk (fun ad => ?_) | refine Qe.int rfl
 ·have hv : Zg (XU p.gs) p.rs p.xs = ZU (Ka (XU p.gs) ++ (p.rs.map (WC (QY p.gs)) ++ p.xs.map (JI (QY p.gs)))) := by
   unfold Zg; rw [if_neg (by rw [hgp]; exact hbig), Hs, List.append_assoc]
  rw [hv]
  generalize hR : p.rs.map (WC (QY p.gs)) = R
  generalize hX : p.xs.map (JI (QY p.gs)) = X
  have hRl : R.length = p.rs.length := by rw [← hR]; simp
  have hXl : X.length = p.xs.length := by rw [← hX]; simp
  generalize hV : ZU (Ka (XU p.gs) ++ (R ++ X)) = v
  have hRg : ∀ (i : Nat) (hi : i < p.rs.length), R[i]'(by omega) = WC (QY p.gs) p.rs[i] := fun i hi => by simp [← hR]
  have hXg : ∀ (i : Nat) (hi : i < p.xs.length), X[i]'(by omega) = JI (QY p.gs) p.xs[i] := fun i hi => by simp [← hX]
  have ce := fun s => Y7 p.ga p.gc p.gs s hgl
  refine FJ 0 func83 ntmps83 (fun G => ?_)
  repeat' first | refine Wk ?_ | refine Qa.mk (fun h => ?_) (fun h => ?_) | refine Qd.mk (fun ad => ?_)
  refine Qn (α := Nat) (fun i => [(1, .c (.p 0 ad 0)), (3, .c (.i .i64 i))]) (fun _ => [.box 0 ad 85 p.cells]) (fun _ => p.facts) 1
   (fun i => i ≤ p.gs.length ∧ v = ZU ((Ka (XU p.gs)).drop i ++ (R ++ X))) (fun i => p.gs.length - i) (Qq.mk 0 ⟨by omega, hV.symm⟩ Qh.a (Qb.refl _ _)) (fun i hi => ?_)
  obtain ⟨hi, he⟩ := hi
  by_cases hlt : i < p.gs.length
  ·have hc := GY p i hlt h.gc h.gl h.gb
   rw [List.drop_eq_getElem_cons (by rw [KX]; exact hlt), km _ hlt, List.cons_append, X0] at he
   generalize Kw (QY p.gs) ((QY p.gs).take i) p.gs[i].name p.gs[i].mem = e at *
   repeat' first | refine Wk ?_ | refine Qa.mk (fun h => ?_) (fun h => ?_) | refine Qd.mk (fun ad => ?_) | refine Qc.is hc ?_ (fun _ h => h) | refine Qe.int ?_ | refine Qo.mk (i + 1) (by omega) ⟨by omega, ?_⟩ Qh.a (Qb.refl _ _)
   all_goals first | rw [he, if_pos (by assumption)] | rw [he, if_neg (by assumption)]
  ·have hil : i = p.gs.length := by omega
   subst hil
   rw [List.drop_of_length_le (by rw [KX]; omega), List.nil_append] at he
   clear hlt hi hV
   repeat' first | refine Wk ?_ | refine Qa.mk (fun h => ?_) (fun h => ?_) | refine Qd.mk (fun ad => ?_)
   refine Qn (α := Nat) (fun i => [(1, .c (.p 0 ad 0)), (5, .c (.i .i64 i))]) (fun _ => [.box 0 ad 85 p.cells]) (fun _ => p.facts) 1
    (fun i => i ≤ p.rs.length ∧ v = ZU (R.drop i ++ X)) (fun i => p.rs.length - i) (Qq.mk 0 ⟨by omega, he⟩ Qh.a (Qb.refl _ _)) (fun i hi => ?_)
   obtain ⟨hi, he⟩ := hi
   by_cases hlt : i < p.rs.length
   ·have hcell : ((wO p.rs).drop (i * 6 + 0)).take 6 = p.rs[i].cells := by rw [wO, QL (F := Pf.cells) (z := 6) (fun _ => rfl) hlt (by omega)]; rfl
    rw [List.drop_eq_getElem_cons (by omega), hRg i hlt, List.cons_append, X0] at he
    have hnb := h.rb _ (List.getElem_mem hlt)
    generalize p.rs[i] = r at *
    have c1 := ce r.group
    have c2 := GW r.kind r.sp r.nm hnb
    unfold WC at he
    generalize ZY (QY p.gs) r.group = b1 at *
    generalize xq r.kind r.sp r.nm = b2 at *
    by_cases hrr5 : r.right < 1 ∨ 5 < r.right
    ·simp only [if_pos hrr5] at he
     repeat' first | refine Wk ?_ | refine Qa.mk (fun h => ?_) (fun h => ?_) | refine Qd.mk (fun ad => ?_) | refine Qr.a 0 6 _ (hrr _) ?_ | refine Qi.mk 0 _ _ _ (hrr _) (by omega) (by omega) (by omega) hcell ?_ | refine Qc.is c1 ?_ Kh | refine Qc.is c2 ?_ | refine Qe.int ?_ | refine Qo.mk (i + 1) (by omega) ⟨by omega, ?_⟩ Qh.a Qb.drop
     all_goals (rw [he]; rfl)
    ·simp only [if_neg hrr5] at he
     cases b1 <;> cases b2 <;>
     ·simp at he
      repeat' first | refine Wk ?_ | refine Qa.mk (fun h => ?_) (fun h => ?_) | refine Qd.mk (fun ad => ?_) | refine Qr.a 0 6 _ (hrr _) ?_ | refine Qi.mk 0 _ _ _ (hrr _) (by omega) (by omega) (by omega) hcell ?_ | refine Qc.is c1 ?_ Kh | refine Qc.is c2 ?_ | refine Qe.int ?_ | refine Qo.mk (i + 1) (by omega) ⟨by omega, ?_⟩ Qh.a Qb.drop
      all_goals (first | exact he | (rw [he]; rfl))
   ·have hil : i = p.rs.length := by omega
    subst hil
    rw [List.drop_of_length_le (by omega), List.nil_append] at he
    clear hlt hi
    repeat' first | refine Wk ?_ | refine Qa.mk (fun h => ?_) (fun h => ?_) | refine Qd.mk (fun ad => ?_)
    refine Qn (α := Nat) (fun i => [(1, .c (.p 0 ad 0)), (7, .c (.i .i64 i))]) (fun _ => [.box 0 ad 85 p.cells]) (fun _ => p.facts) 1
     (fun i => i ≤ p.xs.length ∧ v = ZU (X.drop i)) (fun i => p.xs.length - i) (Qq.mk 0 ⟨by omega, he⟩ Qh.a (Qb.refl _ _)) (fun i hi => ?_)
    obtain ⟨hi, he⟩ := hi
    by_cases hlt : i < p.xs.length
    ·have hcell : ((kD p.xs).drop (i * 5 + 0)).take 5 = p.xs[i].cells := by rw [kD, QL (F := Ph.cells) (z := 5) (fun _ => rfl) hlt (by omega)]; rfl
     have hxb := h.xb _ (List.getElem_mem hlt)
     rw [List.drop_eq_getElem_cons (by omega), hXg i hlt, X0] at he
     generalize p.xs[i] = r at *
     have c1 := ce r.group
     have c2 := xB r.sp r.nm hxb.1
     have c3 := y6 r.sect hxb.2
     unfold JI at he
     generalize ZY (QY p.gs) r.group = b1 at *
     generalize Qw r.sp r.nm = b2 at *
     generalize Y5 r.sect = b3 at *
     cases b1 <;> cases b2 <;> cases b3 <;>
     ·simp at he
      repeat' first | refine Wk ?_ | refine Qa.mk (fun h => ?_) (fun h => ?_) | refine Qd.mk (fun ad => ?_) | refine Qr.a 0 5 _ (hrx _) ?_ | refine Qi.mk 0 _ _ _ (hrx _) (by omega) (by omega) (by omega) hcell ?_ | refine Qc.is c1 ?_ Kh | refine Qc.is c2 ?_ | refine Qc.is c3 ?_ | refine Qe.int ?_ | refine Qo.mk (i + 1) (by omega) ⟨by omega, ?_⟩ Qh.a Qb.drop
      all_goals (first | exact he | (rw [he]; rfl))
    ·have hil : i = p.xs.length := by omega
     subst hil
     rw [List.drop_of_length_le (by omega), ZU] at he
     repeat' first | refine Wk ?_ | refine Qa.mk (fun h => ?_) (fun h => ?_) | refine Qd.mk (fun ad => ?_) | refine Qe.int ?_
     exact he
end Go.Proofs
namespace Go.Proofs
open Go Go.X Tryz
set_option maxRecDepth 100000
set_option maxHeartbeats 4000000
theorem zf (s : Bs) (hs : s.length ≤ 1000000) : FnS prog 45 [.c (.s s)] [] [] (vR (Zi s)) := by
 unfold Zi
 by_cases hbig : 8192 < (s.length : Int)
 ·rw [if_pos hbig]
  refine FJ 0 func45 ntmps45 (fun G => ?_)
  repeat' first | refine Wk ?_ | refine Qa.mk (fun h => ?_) (fun h => ?_) | refine Qd.mk (fun ad => ?_) | exact Qe.mk [] Xv.facts ⟨Xv, rfl, Nat.le_refl _, (jg.nil _).more (by omega), rfl, rfl, rfl⟩ (Qb.dropAll.trans (Qb.facts fun m _ => XJ m))
 rw [if_neg hbig]
 have c1 := SI s (by omega)
 have hsl := Q5 10 s
 have hml := ZI 10 s
 generalize Qg 10 s = ls at *
 generalize hV : Oe (K8 ([], [], []) 0 ls) = res
 refine FJ 0 func45 ntmps45 (fun G => ?_)
 repeat' first | refine Wk ?_ | refine Qa.mk (fun h => ?_) (fun h => ?_) | refine Qd.mk (fun ad => ?_) | refine Qc.mk [] _ [] _ c1 QW (fun _ h => h) (fun v L' D' hp => ?_); obtain ⟨la, lc, rfl, rfl, rfl⟩ := hp
 rename_i ad0
 refine Qn (α := Nat × PolM) (fun x => [(2, .c (.p 0 ad0 0)), (5, .c (.p 1 ad 0)), (6, .c (.sl la ls.length lc)), (7, .c (.i .i64 x.1))]) (fun x => [.box 1 ad 85 x.2.cells, .box 0 ad0 85 Xv.cells]) (fun x => Qf 0 1 la ls.length (ls.map C.s) :: x.2.facts) 2
  (fun x => x.1 ≤ ls.length ∧ K8 ([], [], []) 0 ls = K8 x.2.p3 x.1 (ls.drop x.1) ∧ jg 8192 x.1 x.2.p3 ∧ x.2.gs.length ≤ x.2.gc) (fun x => ls.length - x.1) (Qq.mk (0, Xv) ⟨Nat.zero_le _, rfl, jg.nil _, Nat.le_refl _⟩ Qh.a ?_) (fun x hx => ?_)
 ·exact Qb.toFact.trans (Qb.facts (D' := Qf 0 1 la ls.length (ls.map C.s) :: Xv.facts) fun m h => ⟨h.1, XJ m⟩)
 obtain ⟨i, p⟩ := x
 dsimp only at hx ⊢
 obtain ⟨hi, he, hb, hgc⟩ := hx
 have hgl : p.gs.length ≤ i := by have := hb.gl; simpa [PolM.p3, XU] using this
 have hrl : p.rs.length ≤ i := hb.rl
 have hxl : p.xs.length ≤ i := hb.xl
 by_cases hlt : i < ls.length
 ·have hcm := Zw (f := C.s) hlt
  have hle := hml _ (List.getElem_mem hlt)
  rw [List.drop_eq_getElem_cons hlt, K8] at he
  generalize ls[i] = line at *
  have hB := hb.stmt (s := line) (by omega)
  have c2 := kM p line (by omega) (by omega) (by omega) (by omega)
  have hrd : ∀ L, Qp L (Qf 0 1 la ls.length (ls.map C.s) :: p.facts) 0 1 la ls.length (ls.map C.s) := fun L => .inr fun m h => h.1
  generalize Ju p.p3 line = r at *
  obtain ⟨ok, q⟩ := r
  dsimp only at *
  cases ok with
  | false =>
   rw [if_neg (by simp)] at he
   rw [he] at hV
   have hV' : res = (([], [], []), ((i + 1 : Nat) : Int), 1) := by rw [← hV]; simp [Oe]
   subst hV'
   repeat' first | refine Wk ?_ | refine Qa.mk (fun h => ?_) (fun h => ?_) | refine Qd.mk (fun ad => ?_) | refine ZF (id := 8) tyOK (by kernel_rfl) [0, 0, 0, 6, 14, 31, 63, 127, 127, 0, 767, 2047] [0, 1, 2, 3, 4] 5 [6, 7, 8, 9, 10, 11] 9 [5, 6, 7, 8, 10, 11] [5, 9, 10] [5, 27] 12 true (by kernel_rfl) ?_ | refine X3.mk ?_ ?_ | refine Qt.mk Qb.a ?_ | refine Qr.a 0 1 _ (hrd _) ?_ | refine Qi.mk 0 _ _ _ (hrd _) (by omega) (by omega) (by omega) hcm ?_ | refine Qc.mk [] _ p.facts _ c2 QW (fun m h => h.2) (fun v L' D' hp => ?_); obtain ⟨p', hp3, hpc, rfl, rfl, rfl⟩ := hp | exact Qe.mk [] Xv.facts ⟨Xv, rfl, Nat.le_refl _, (jg.nil _).more (by omega), rfl, rfl, rfl⟩ (Qb.dropAll.trans (Qb.facts fun m _ => XJ m))
  | true =>
   rw [if_pos rfl] at he
   repeat' first | refine Wk ?_ | refine Qa.mk (fun h => ?_) (fun h => ?_) | refine Qd.mk (fun ad => ?_) | refine ZF (id := 8) tyOK (by kernel_rfl) [0, 0, 0, 6, 14, 31, 63, 127, 127, 0, 767, 2047] [0, 1, 2, 3, 4] 5 [6, 7, 8, 9, 10, 11] 9 [5, 6, 7, 8, 10, 11] [5, 9, 10] [5, 27] 12 true (by kernel_rfl) ?_ | refine X3.mk ?_ ?_ | refine Qt.mk Qb.a ?_ | refine Qr.a 0 1 _ (hrd _) ?_ | refine Qi.mk 0 _ _ _ (hrd _) (by omega) (by omega) (by omega) hcm ?_ | refine Qc.mk [] _ p.facts _ c2 QW (fun m h => h.2) (fun v L' D' hp => ?_); obtain ⟨p', hp3, hpc, rfl, rfl, rfl⟩ := hp | refine Qo.mk (i + 1, p') (by dsimp only; omega) ⟨by dsimp only; omega, ?_, ?_, hpc hgc⟩ Qh.a (Qb.drop.trans (Qb.facts fun m h => ⟨h.2.2.2.2.1, h.1, h.2.1, h.2.2.1, h.2.2.2.1, trivial⟩))
   all_goals (dsimp only at hp3 ⊢; rw [hp3 rfl]; first | exact he | exact hB)
 ·have hil : i = ls.length := by omega
  subst hil
  rw [List.drop_length, K8] at he
  rw [he] at hV
  unfold Oe at hV
  dsimp only at hV
  rw [if_neg (by simp)] at hV
  have c3 := wR p (Up.of hb (by omega) (by omega) hgc)
  have hpv : Zg p.p3.1 p.p3.2.1 p.p3.2.2 = Zg (XU p.gs) p.rs p.xs := rfl
  rw [hpv] at hV
  have hbb := hb.more (m := 8193) (by omega)
  clear hlt he hml
  generalize Zg (XU p.gs) p.rs p.xs = e at *
  by_cases he0 : e = 0
  ·rw [if_neg (by simpa using he0)] at hV; subst hV
   repeat' first | refine Wk ?_ | refine Qa.mk (fun h => ?_) (fun h => ?_) | refine Qd.mk (fun ad => ?_) | refine Qc.is c3 ?_ (fun m h => h.2) | exact Qe.mk [] p.facts ⟨p, rfl, hgc, hbb, rfl, rfl, rfl⟩ (Qb.dropAll.trans (Qb.facts fun m h => h.2))
  ·rw [if_pos (by simpa using he0)] at hV; subst hV
   repeat' first | refine Wk ?_ | refine Qa.mk (fun h => ?_) (fun h => ?_) | refine Qd.mk (fun ad => ?_) | refine Qc.is c3 ?_ (fun m h => h.2) | exact Qe.mk [] Xv.facts ⟨Xv, rfl, Nat.le_refl _, (jg.nil _).more (by omega), rfl, rfl, rfl⟩ (Qb.dropAll.trans (Qb.facts fun m _ => XJ m))
end Go.Proofs
