/- This text walks through the functions insert, without, drop, LastGone, Redirect, LastOf and Revision of the reference of chapter 27. -/
import Derived.Test.YtcddpbpbebkdmaaGreatDoorK05
set_option linter.all false
namespace Go.X
open Go Go.Lib
def xQ (sp : Int) (nm : Bs) (p : PP) : Bool := !decide (p.sp = sp ∧ p.nm = nm)
theorem pp_ttl {l : List PP} {i : Nat} (h : i < l.length) : ((XI l).drop (i * 8 + 3)).take 2 = [.i .i64 l[i].sp, .s l[i].nm] := by
 rw [XI, QL (F := PP.cells) (z := 8) (fun _ => rfl) h (by omega)]; rfl
theorem YB {α : Type} {q : α → Bool} {l : List α} {i : Nat} (h : i < l.length) : (l.take (i + 1)).filter q = (l.take i).filter q ++ (if q l[i] = true then [l[i]] else []) := by
 rw [List.take_succ_eq_append_getElem h, List.filter_append]
 congr 1
 by_cases hq : q l[i] = true
 ·simp [hq]
 ·simp [hq]
theorem VC {α : Type} (q : α → Bool) (l : List α) (i : Nat) : ((l.take i).filter q).length ≤ i := Nat.le_trans (List.length_filter_le _ _) (by rw [List.length_take]; omega)
theorem Hl {α : Type} {p : α → Bool} : ∀ {l : List α} {k : Nat} (h : k < l.length) (_ : p l[k] = true) (_ : ∀ j, ∀ hj : j < l.length, k < j → p l[j] = false), Jr p l = k
 | x :: r, 0, h, hp, hn => by
  have h1 : Jr p r = -1 := by
   rcases JH p r with ⟨h1, _⟩ | ⟨i, h1, _, h3⟩
   ·exact h1
   ·have := hn (i + 1) (by simpa using h1) (by omega)
    simp at this
    rw [h3] at this; cases this
  rw [Jr, h1, if_neg (by omega), if_pos (by simpa using hp)]; rfl
 | x :: r, k + 1, h, hp, hn => by
  have h1 := Hl (p := p) (l := r) (k := k) (by simpa using h) (by simpa using hp) (fun j hj hk => hn (j + 1) (by simpa using hj) (by omega))
  rw [Jr, h1, if_pos (by omega)]; omega
theorem T4 {α : Type} {p : α → Bool} {l : List α} (hn : ∀ j, ∀ hj : j < l.length, p l[j] = false) : Jr p l = -1 := by
 rcases JH p l with ⟨h1, _⟩ | ⟨i, h1, _, h3⟩
 ·exact h1
 ·rw [hn i h1] at h3; cases h3
theorem vX {α β : Type} (f : α → β) (q : β → Bool) : ∀ l : List α, Jr q (l.map f) = Jr (fun x => q (f x)) l
 | [] => rfl
 | x :: r => by simp only [List.map_cons, Jr, vX f q r]
def Yd (l : List LU) (u : Bs) : Int := ((l.find? fun x => decide (x.user = u)).map (·.seq)).getD 0
def WY (l : List RV) (n : Int) : Option RV := l.find? fun r => decide (r.num = n)
theorem qM {α : Type} {p : α → Bool} : ∀ {l : List α} {i : Nat} (h : i < l.length) (_ : ∀ j, ∀ hj : j < l.length, j < i → p l[j] = false) (_ : p l[i] = true), l.find? p = some l[i]
 | x :: r, 0, h, hn, hp => by rw [List.find?_cons_of_pos (by simpa using hp)]; rfl
 | x :: r, i + 1, h, hn, hp => by
  have h0 : p x = false := hn 0 (by simp) (by omega)
  rw [List.find?_cons_of_neg (by simp [h0]), qM (i := i) (by simpa using h) (fun j hj hji => hn (j + 1) (by simpa using hj) (by omega)) (by simpa using hp)]; rfl
theorem xW {α : Type} {p : α → Bool} {l : List α} (hn : ∀ j, ∀ hj : j < l.length, p l[j] = false) : l.find? p = none := List.find?_eq_none.2 fun x hx => by
 obtain ⟨j, hj, rfl⟩ := List.getElem_of_mem hx
 rw [hn j hj]; decide
theorem yz {α : Type} {p : α → Bool} {l : List α} {i : Nat} (hi : i < l.length) (hn : ∀ j, ∀ hj : j < l.length, j < i → p l[j] = false) (h : p l[i] = false) : ∀ j, ∀ hj : j < l.length, j < i + 1 → p l[j] = false := fun j hj hji => by
 by_cases e : j = i
 ·subst e; exact h
 ·exact hn j hj (by omega)
def revV : Option RV → V
 | none => .t2 (.agg [.i .i64 0, .s [], .s [], .s [], .i .i64 0, .i .i64 0]) ff
 | some r => .t2 (.agg r.cells) tt
theorem OT {l : List LU} {i : Nat} (h : i < l.length) : ((ZV l).drop (i * 2 + 0)).take 1 = [.s l[i].user] := by
 rw [ZV, QL (F := LU.cells) (z := 2) (fun _ => rfl) h (by omega)]; rfl
theorem lt_seq {l : List LU} {i : Nat} (h : i < l.length) : ((ZV l).drop (i * 2 + 1)).take 1 = [.i .i64 l[i].seq] := by
 rw [ZV, QL (F := LU.cells) (z := 2) (fun _ => rfl) h (by omega)]; rfl
theorem rv_num {l : List RV} {i : Nat} (h : i < l.length) : ((Zb l).drop (i * 6 + 0)).take 1 = [.i .i64 l[i].num] := by
 rw [Zb, QL (F := RV.cells) (z := 6) (fun _ => rfl) h (by omega)]; rfl
end Go.X
namespace Go.Proofs
open Go Go.X Tryz
set_option maxRecDepth 100000
set_option maxHeartbeats 4000000
theorem KW (a : Option Addr) (c : Nat) (l : List PGM) (x : PGM) (hl : l.length ≤ 1000) : FnS prog 182 [.c (.sl a l.length c), .agg x.cells] [] [J2 3 a l.length c (Qm l)] (Oy 3 PGM.cells (Xn l x)) := by
 have hrd : ∀ L, Qp L [J2 3 a l.length c (Qm l)] 0 3 a l.length (Qm l) := fun L => .inr fun m h => h.1.2
 have hW : ∀ i, i ≤ l.length → (∀ j, ∀ h : j < l.length, j < i → HW x.sp x.nm l[j] = true) → (∀ h : i < l.length, HW x.sp x.nm l[i] = false) → Xn l x = l.take i ++ x :: l.drop i := fun i h1 h2 h3 => O2 h1 h2 h3
 have hlen := xO l x
 generalize Xn l x = W at *
 obtain ⟨xs, xn, xa, xc, xh⟩ := x
 refine FJ 0 func182 ntmps182 (fun G => ?_)
 refine Gq (fun m h => h.1.1) (fun hnc => ?_)
 repeat' first | refine Wk ?_ | refine Qa.mk (fun h => ?_) (fun h => ?_) | refine Qd.mk (fun ad => ?_)
 refine Qn (α := Nat × Option Addr × Nat) (fun x => [(0, .c (.sl a l.length c)), (3, .c (.p 0 ad 0)), (5, .c (.sl x.2.1 x.1 x.2.2)), (6, .c (.i .i64 x.1))]) (fun x => [.row 60 3 x.2.1 x.1 x.2.2 (Qm (l.take x.1)), .box 0 ad 60 [.i .i64 xs, .s xn, .sl xa xh.length xc]]) (fun _ => [J2 3 a l.length c (Qm l)]) 1
  (fun x => x.1 ≤ l.length ∧ ∀ j, ∀ h : j < l.length, j < x.1 → HW xs xn l[j] = true) (fun x => l.length - x.1) (Qq.mk (0, none, 0) ⟨Nat.zero_le _, fun j _ h => absurd h (Nat.not_lt_zero j)⟩ Qh.a (Qb.nilRow (ety := 60) (esz := 3))) (fun x hx => ?_)
 obtain ⟨i, a1, c1⟩ := x
 dsimp only at hx ⊢
 obtain ⟨hi, hn⟩ := hx
 have hend : (∀ h : i < l.length, HW xs xn l[i] = false) → W.length = i + 1 + (l.length - i) ∧ W.flatMap PGM.cells = Qm (l.take i) ++ [.i .i64 xs, .s xn, .sl xa xh.length xc] ++ Qm (l.drop i) := fun h => by
  rw [hW i hi hn h]
  refine ⟨by simp; omega, by simp [Qm, PGM.cells]⟩
 by_cases hlt : i < l.length
 ·have hg2 := XT hlt
  have hg := Z5 hlt
  have ht := List.take_succ_eq_append_getElem hlt
  have cc := J6 l[i].sp l[i].nm xs xn
  have hb : HW xs xn l[i] = decide (QH l[i].sp l[i].nm xs xn < 0) := rfl
  have hrow : Qm (l.take (i + 1)) = Qm (l.take i) ++ [.i .i64 l[i].sp, .s l[i].nm, .sl l[i].ha l[i].hist.length l[i].hc] := by
   rw [ht, Qm, List.flatMap_append, List.flatMap_cons, List.flatMap_nil, List.append_nil]; rfl
  have hnext : QH l[i].sp l[i].nm xs xn < 0 → ∀ j, ∀ h : j < l.length, j < i + 1 → HW xs xn l[j] = true := fun h j hj hji => by
   by_cases e : j = i
   ·subst e; rw [hb]; exact decide_eq_true h
   ·exact hn j hj (by omega)
  have hstop : ¬ QH l[i].sp l[i].nm xs xn < 0 → W.length = i + 1 + (l.length - i) ∧ W.flatMap PGM.cells = Qm (l.take i) ++ [.i .i64 xs, .s xn, .sl xa xh.length xc] ++ Qm (l.drop i) := fun h => hend fun _ => by rw [hb]; exact decide_eq_false h
  generalize QH l[i].sp l[i].nm xs xn = k at *
  generalize l[i] = y at *
  clear hend hW ht
  repeat' first | refine Wk ?_ | refine Qa.mk (fun h => ?_) (fun h => ?_) | refine Qd.mk (fun ad => ?_) | refine Ds (id := 3) [0,0,2,7,15,31,31,127,255,511,31,1055,4095,8191,16383] [0,1,2,3,4,5,6,7,8,9,10,11,12,13,14] [] [3,14] true ?_ | refine Qt.mk Qb.a ?_ | refine Qr.a 0 3 _ (hrd _) ?_ | refine Zv.mk 0 3 _ _ (hrd _) (by omega) ?_ | refine Qi.a 0 _ _ [.i .i64 y.sp, .s y.nm] (hrd _) (by exact hg2) ?_ | refine Qi.a 0 _ _ [.i .i64 y.sp, .s y.nm, .sl y.ha y.hist.length y.hc] (hrd _) (by exact hg) ?_ | refine Qx.mk [] _ cc QX ?_ | refine QK.row [_] _ (Qm (l.take i)) [.i .i64 y.sp, .s y.nm, .sl y.ha y.hist.length y.hc] 1 rfl (QJ.sl 60 60 _ _ 1 1 _ rfl rfl (.inl ⟨1, QT⟩) rfl) (by dsimp only; omega) (fun a' c' => ?_); rw [← hrow] | refine Qo.mk (i + 1, a', c') (by dsimp only; omega) ⟨by dsimp only; omega, hnext (by assumption)⟩ Qh.a Qb.a | refine QK.row [_] _ (Qm (l.take i)) [.i .i64 xs, .s xn, .sl xa xh.length xc] 1 rfl (QJ.sl 60 60 _ _ 1 1 _ rfl rfl (.inl ⟨1, QT⟩) rfl) (by dsimp only; omega) (fun a' c' => ?_) | refine QK.row [_] _ (Qm (l.take i) ++ [.i .i64 xs, .s xn, .sl xa xh.length xc]) (Qm (l.drop i)) (l.length - i) rfl (QJ.sl 0 60 _ _ _ _ _ rfl rfl (.inr fun m h => UU h.1.2 hi hnc (by omega)) (wZ _ _)) (by dsimp only; omega) (fun a' c' => ?_) | refine Qe.mk [] [J2 3 _ (i + 1 + (l.length - i)) _ (Qm (l.take i) ++ [.i .i64 xs, .s xn, .sl xa xh.length xc] ++ Qm (l.drop i))] ⟨_, _, by rw [(hstop (by assumption)).1], rfl, by rw [(hstop (by assumption)).1, (hstop (by assumption)).2]⟩ (Qb.drop.trans (Qb.toFactC.trans (Qb.dropAll.trans (Qb.facts fun _ h => ⟨h.1, trivial⟩))))
 ·have hstop := hend fun h => absurd h hlt
  clear hend hW
  repeat' first | refine Wk ?_ | refine Qa.mk (fun h => ?_) (fun h => ?_) | refine Qd.mk (fun ad => ?_) | refine Ds (id := 3) [0,0,2,7,15,31,31,127,255,511,31,1055,4095,8191,16383] [0,1,2,3,4,5,6,7,8,9,10,11,12,13,14] [] [3,14] true ?_ | refine Qt.mk Qb.a ?_ | refine QK.row [_] _ (Qm (l.take i)) [.i .i64 xs, .s xn, .sl xa xh.length xc] 1 rfl (QJ.sl 60 60 _ _ 1 1 _ rfl rfl (.inl ⟨1, QT⟩) rfl) (by dsimp only; omega) (fun a' c' => ?_) | refine QK.row [_] _ (Qm (l.take i) ++ [.i .i64 xs, .s xn, .sl xa xh.length xc]) (Qm (l.drop i)) (l.length - i) rfl (QJ.sl 0 60 _ _ _ _ _ rfl rfl (.inr fun m h => UU h.1.2 hi hnc (by omega)) (wZ _ _)) (by dsimp only; omega) (fun a' c' => ?_) | refine Qe.mk [] [J2 3 _ (i + 1 + (l.length - i)) _ (Qm (l.take i) ++ [.i .i64 xs, .s xn, .sl xa xh.length xc] ++ Qm (l.drop i))] ⟨_, _, by rw [hstop.1], rfl, by rw [hstop.1, hstop.2]⟩ (Qb.drop.trans (Qb.toFactC.trans (Qb.dropAll.trans (Qb.facts fun _ h => ⟨h.1, trivial⟩))))
theorem YY (a : Option Addr) (c : Nat) (l : List PGM) (i : Nat) (hl : l.length ≤ 1000) (hi : i < l.length) : FnS prog 183 [.c (.sl a l.length c), .c (.i .i64 i)] [] [J2 3 a l.length c (Qm l)] (Oy 3 PGM.cells (l.eraseIdx i)) := by
 have hW : (l.eraseIdx i).length = i + (l.length - (i + 1)) ∧ (l.eraseIdx i).flatMap PGM.cells = Qm (l.take i) ++ Qm (l.drop (i + 1)) := by
  rw [List.eraseIdx_eq_take_drop_succ]
  exact ⟨by simp; omega, by simp [Qm]⟩
 generalize l.eraseIdx i = W at *
 refine FJ 0 func183 ntmps183 (fun G => ?_)
 refine Gq (fun m h => h.1.1) (fun hnc => ?_)
 repeat' first | refine Wk ?_ | refine Qa.mk (fun h => ?_) (fun h => ?_) | refine Qd.mk (fun ad => ?_) | refine Ds (id := 1) [0,0,3,7,0,0,32,112,255,511] [0,1,2,4,5,6,7,3,8,9] [3,8] [] false ?_ | refine Qt.mk Qb.a ?_ | refine QK.nil (Qm (l.take i)) i rfl rfl rfl (QJ.sl 0 60 _ _ _ _ _ rfl rfl (.inr fun m h => pgmPre h.1.2 (by omega)) (Si (by omega))) (by dsimp only; omega) (fun a' c' => ?_) | refine QK.row [] _ (Qm (l.take i)) (Qm (l.drop (i + 1))) (l.length - (i + 1)) rfl (QJ.sl 0 60 _ _ _ _ _ rfl rfl (.inr fun m h => UU h.1.2 (by omega) hnc (by omega)) (wZ _ _)) (by dsimp only; omega) (fun a' c' => ?_) | refine Qe.mk [] [J2 3 _ (i + (l.length - (i + 1))) _ (Qm (l.take i) ++ Qm (l.drop (i + 1)))] ⟨_, _, by rw [hW.1], rfl, by rw [hW.1, hW.2]⟩ (Qb.toFactC.trans (Qb.dropAll.trans (Qb.facts fun _ h => ⟨h.1, trivial⟩)))
theorem Uk (e : Nat) (a : Option Addr) (c : Nat) (l : List PP) (sp : Int) (nm : Bs) (hl : l.length ≤ 1000) : FnS prog 184 [.c (.sl a l.length c), .agg [.i .i64 sp, .s nm]] [] [Qf e 8 a l.length (XI l)] (Oy 8 PP.cells (Xa l sp nm)) := by
 have hrd : ∀ L, Qp L [Qf e 8 a l.length (XI l)] e 8 a l.length (XI l) := fun L => .inr fun m h => h.1
 have hq : Xa l sp nm = (l.take l.length).filter (xQ sp nm) := by rw [List.take_length]; rfl
 generalize Xa l sp nm = W at *
 refine FJ 0 func184 ntmps184 (fun G => ?_)
 repeat' first | refine Wk ?_ | refine Qa.mk (fun h => ?_) (fun h => ?_) | refine Qd.mk (fun ad => ?_)
 refine Qn (α := Nat × Option Addr × Nat) (fun x => [(0, .c (.sl a l.length c)), (3, .c (.p 0 ad 0)), (5, .c (.sl x.2.1 ((l.take x.1).filter (xQ sp nm)).length x.2.2)), (6, .c (.i .i64 x.1))]) (fun x => [.row 122 8 x.2.1 ((l.take x.1).filter (xQ sp nm)).length x.2.2 (XI ((l.take x.1).filter (xQ sp nm))), .box 0 ad 45 [.i .i64 sp, .s nm]]) (fun _ => [Qf e 8 a l.length (XI l)]) 1
  (fun x => x.1 ≤ l.length) (fun x => l.length - x.1) (Qq.mk (0, none, 0) (Nat.zero_le _) Qh.a (Qb.nilRow (ety := 122) (esz := 8))) (fun x hi => ?_)
 obtain ⟨i, a1, c1⟩ := x
 dsimp only at hi ⊢
 have hfl := VC (xQ sp nm) l i
 by_cases hlt : i < l.length
 ·have hg := zG hlt
  have hg2 := pp_ttl hlt
  have hs := YB (q := xQ sp nm) hlt
  have hd : xQ sp nm l[i] = !decide (l[i].sp = sp ∧ l[i].nm = nm) := rfl
  have hyes : ¬ (l[i].sp = sp ∧ l[i].nm = nm ∧ True) → ((l.take i).filter (xQ sp nm)).length + 1 = ((l.take (i + 1)).filter (xQ sp nm)).length ∧ XI ((l.take i).filter (xQ sp nm)) ++ l[i].cells = XI ((l.take (i + 1)).filter (xQ sp nm)) := fun h => by
   rw [hs, hd, decide_eq_false (fun e => h ⟨e.1, e.2, trivial⟩)]
   exact ⟨by simp, by simp [XI]⟩
  have hno : (l[i].sp = sp ∧ l[i].nm = nm ∧ True) → (l.take (i + 1)).filter (xQ sp nm) = (l.take i).filter (xQ sp nm) := fun h => by
   rw [hs, hd, decide_eq_true ⟨h.1, h.2.1⟩]; simp
  clear hs hd
  generalize l[i] = y at *
  repeat' first | refine Wk ?_ | refine Qa.mk (fun h => ?_) (fun h => ?_) | refine Qd.mk (fun ad => ?_) | refine Ds (id := 5) [0,0,3,7,15,0,63] [0,1,2,3,4,5,6] [] [3,15] true ?_ | refine Qt.mk Qb.a ?_ | refine Qr.a e 8 _ (hrd _) ?_ | refine Zv.mk e 8 _ _ (hrd _) (by omega) ?_ | refine Qi.a e _ _ [.i .i64 y.sp, .s y.nm] (hrd _) (by exact hg2) ?_ | refine Qi.a e _ _ y.cells (hrd _) (by exact hg) ?_ | refine QK.row [_] _ (XI ((l.take i).filter (xQ sp nm))) y.cells 1 rfl (QJ.sl 122 122 _ _ 1 1 _ rfl rfl (.inl ⟨1, QT⟩) rfl) (by dsimp only; omega) (fun a' c' => ?_); rw [(hyes (by assumption)).1, (hyes (by assumption)).2] | refine Qo.mk (i + 1, a', c') (by dsimp only; omega) (by dsimp only; omega) Qh.a Qb.a | refine Qo.mk (i + 1, a1, c1) (by dsimp only; omega) (by dsimp only; omega) (by dsimp only; rw [hno (by assumption)]; repeat' first | exact Qh.nil | refine Qh.cons rfl ?_ ?_ | exact ZB.refl _ | refine ZB.int (by omega) | refine ZB.sl rfl (by first | rfl | omega | (rw [List.length_append]; rfl) | (simp; omega)) rfl) (by dsimp only; rw [hno (by assumption)]; exact Qb.a)
 ·have hil : i = l.length := by omega
  subst hil
  rw [← hq]
  repeat' first | refine Wk ?_ | refine Qa.mk (fun h => ?_) (fun h => ?_) | refine Qd.mk (fun ad => ?_) | refine Qe.mk [] [J2 8 _ W.length _ (XI W)] ⟨_, _, rfl, rfl, rfl⟩ (Qb.toFactC.trans (Qb.dropAll.trans (Qb.facts fun _ h => ⟨h.1, trivial⟩)))
theorem Hk (s : STM) (sp : Int) (nm : Bs) (hs : s.gone.length ≤ 1000) : FnS prog 185 [.agg s.cells, .agg [.i .i64 sp, .s nm]] [] [QG s] (Is (.c (.i .i64 (Jr (X7 sp nm) s.gone)))) := by
 have hrd : ∀ L, Qp L [QG s] 0 3 s.ga s.gone.length (Qm s.gone) := fun L => .inr fun m h => h.1.gone.row
 generalize hk : Jr (X7 sp nm) s.gone = k
 refine FJ 0 func185 ntmps185 (fun G => ?_)
 repeat' first | refine Wk ?_ | refine Qa.mk (fun h => ?_) (fun h => ?_) | refine Qd.mk (fun ad => ?_)
 rename_i ad0
 refine Qn (α := Nat) (fun i => [(2, .c (.p 0 ad0 0)), (3, .c (.p 1 ad 0)), (5, .c (.i .i64 ((i : Int) - 1)))]) (fun _ => [.box 1 ad 45 [.i .i64 sp, .s nm], .box 0 ad0 27 s.cells]) (fun _ => [QG s]) 2
  (fun i => i ≤ s.gone.length ∧ ∀ j, ∀ hj : j < s.gone.length, i ≤ j → X7 sp nm s.gone[j] = false) (fun i => i) (Qq.mk s.gone.length ⟨Nat.le_refl _, fun j h h' => absurd h (by omega)⟩ Qh.a (Qb.refl _ _)) (fun i hx => ?_)
 obtain ⟨hi, hn⟩ := hx
 by_cases h0 : 0 < i
 ·obtain ⟨q, rfl⟩ : ∃ q, i = q + 1 := ⟨i - 1, by omega⟩
  have hlt : q < s.gone.length := by omega
  have hg : ((Qm s.gone).drop ((((q + 1 : Nat) : Int) - 1).toNat * 3 + 0)).take 2 = [.i .i64 s.gone[q].sp, .s s.gone[q].nm] := by
   rw [show (((q + 1 : Nat) : Int) - 1).toNat = q by omega]; exact XT hlt
  have hyes : s.gone[q].sp = sp ∧ s.gone[q].nm = nm ∧ True → k = q := fun h => by
   rw [← hk]; exact Hl hlt (decide_eq_true ⟨h.1, h.2.1⟩) fun j hj hji => hn j hj (by omega)
  have hno : ¬ (s.gone[q].sp = sp ∧ s.gone[q].nm = nm ∧ True) → ∀ j, ∀ hj : j < s.gone.length, q ≤ j → X7 sp nm s.gone[j] = false := fun h j hj hji => by
   by_cases he : j = q
   ·subst he; exact decide_eq_false fun e => h ⟨e.1, e.2, trivial⟩
   ·exact hn j hj (by omega)
  generalize s.gone[q] = y at *
  repeat' first | refine Wk ?_ | refine Qa.mk (fun h => ?_) (fun h => ?_) | refine Qd.mk (fun ad => ?_) | refine Ds (id := 4) [0,1,0,7,15,31,0,127] [0,1,2,3,4,5,6,7] [] [2,3,17] true ?_ | refine Qt.mk Qb.a ?_ | refine Qr.a 0 3 _ (hrd _) ?_ | refine Zv.mk 0 3 _ _ (hrd _) (by omega) ?_ | refine Qi.a 0 _ _ [.i .i64 y.sp, .s y.nm] (hrd _) (by exact hg) ?_ | refine Qo.mk q (by omega) ⟨by omega, hno (by assumption)⟩ Qh.a Qb.a | refine Qe.int (by have := hyes (by assumption); omega)
 ·have h1 : k = -1 := by
   rw [← hk]
   exact T4 fun j hj => hn j hj (by omega)
  subst h1
  have hi0 : i = 0 := by omega
  subst hi0
  repeat' first | refine Wk ?_ | refine Qa.mk (fun h => ?_) (fun h => ?_) | refine Qd.mk (fun ad => ?_) | refine Qe.is rfl
theorem y8 (sp : Int) (nm : Bs) (hs : nm.length ≤ 1000000) : FnS prog 186 [.agg [.i .i64 sp, .s nm]] [] [] (Is (.c (.s (JF sp nm)))) := by
 have cf := UM sp nm hs
 have hl := zQ sp nm
 have hd : JF sp nm = [35, 82, 69, 68, 73, 82, 69, 67, 84, 32, 91, 91] ++ JC sp nm ++ [93, 93] := rfl
 rw [hd]
 generalize JC sp nm = f at *
 refine FJ 0 func186 ntmps186 (fun G => ?_)
 repeat' first | refine Wk ?_ | refine Qa.mk (fun h => ?_) (fun h => ?_) | refine Qd.mk (fun ad => ?_) | refine Qc.is cf ?_ | refine Qe.is rfl
theorem Hj (s : STM) (u : Bs) (hs : s.lasts.length ≤ big) : FnS prog 89 [.agg s.cells, .c (.s u)] [] [QG s] (Is (.c (.i .i64 (Yd s.lasts u)))) := by
 have hl := ZQ hs
 have hrd : ∀ L, Qp L [QG s] 0 2 s.la s.lasts.length (ZV s.lasts) := fun L => .inr fun m h => h.1.lasts
 generalize hk : Yd s.lasts u = k
 unfold Yd at hk
 refine FJ 0 func89 ntmps89 (fun G => ?_)
 repeat' first | refine Wk ?_ | refine Qa.mk (fun h => ?_) (fun h => ?_) | refine Qd.mk (fun ad => ?_)
 refine Qn (α := Nat) (fun i => [(1, .c (.s u)), (2, .c (.p 0 ad 0)), (5, .c (.i .i64 i))]) (fun _ => [.box 0 ad 27 s.cells]) (fun _ => [QG s]) 1
  (fun i => i ≤ s.lasts.length ∧ ∀ j, ∀ hj : j < s.lasts.length, j < i → decide (s.lasts[j].user = u) = false) (fun i => s.lasts.length - i) (Qq.mk 0 ⟨Nat.zero_le _, fun j _ h => absurd h (Nat.not_lt_zero j)⟩ Qh.a (Qb.refl _ _)) (fun i hx => ?_)
 obtain ⟨hi, hn⟩ := hx
 by_cases hlt : i < s.lasts.length
 ·have hg := OT hlt
  have hg1 := lt_seq hlt
  have hyes : s.lasts[i].user = u → k = s.lasts[i].seq := fun h => by
   rw [← hk, qM (p := fun x : LU => decide (x.user = u)) hlt hn (decide_eq_true h)]; rfl
  have hno : ¬ s.lasts[i].user = u → ∀ j, ∀ hj : j < s.lasts.length, j < i + 1 → decide (s.lasts[j].user = u) = false := fun h => yz (p := fun x : LU => decide (x.user = u)) hlt hn (decide_eq_false h)
  generalize s.lasts[i] = y at *
  repeat' first | refine Wk ?_ | refine Qa.mk (fun h => ?_) (fun h => ?_) | refine Qd.mk (fun ad => ?_) | fail | refine Qr.a 0 2 _ (hrd _) ?_ | refine Zv.mk 0 2 _ _ (hrd _) (by omega) ?_ | refine Qi.a 0 _ _ [.s y.user] (hrd _) (by exact hg) ?_ | refine Qi.a 0 _ _ [.i .i64 y.seq] (hrd _) (by exact hg1) ?_ | refine Qo.mk (i + 1) (by omega) ⟨by omega, hno (by assumption)⟩ Qh.a Qb.a | refine Qe.int (hyes (by assumption))
 ·have h1 : k = 0 := by
   rw [← hk, xW (p := fun x : LU => decide (x.user = u)) fun j hj => hn j hj (by omega)]; rfl
  subst h1
  repeat' first | refine Wk ?_ | refine Qa.mk (fun h => ?_) (fun h => ?_) | refine Qd.mk (fun ad => ?_) | refine Qe.is rfl
theorem y2 (s : STM) (sp : Int) (nm : Bs) (n : Int) (hs : Gp s) : FnS prog 87 [.agg s.cells, .agg [.i .i64 sp, .s nm], .c (.i .i64 n)] [] [QG s] (Is (revV ((s.pages.find? (X7 sp nm)).bind fun p => WY p.hist n))) := by
 have cp := qG s sp nm hs
 cases hf : s.pages.find? (X7 sp nm) with
 | none =>
  rw [hf] at cp
  have hR : (none : Option PGM).bind (fun p => WY p.hist n) = none := rfl
  rw [hR]
  refine FJ 0 func87 ntmps87 (fun G => ?_)
  repeat' first | refine Wk ?_ | refine Qa.mk (fun h => ?_) (fun h => ?_) | refine Qd.mk (fun ad => ?_) | refine Qc.is cp ?_ (fun _ h => h) | refine Ji 1 ?_ | refine Kf ?_ | refine Qe.mk [] [] ⟨rfl, rfl, rfl⟩ Qb.z
 | some p =>
  rw [hf] at cp
  have hmem := List.mem_of_find?_eq_some hf
  have hl := ZQ (hs.ph p hmem)
  have hrd : ∀ L, Qp L [QG s] 0 6 p.ha p.hist.length (Zb p.hist) := fun L => .inr fun m h => h.1.pages.his p hmem
  have hR : (some p).bind (fun p => WY p.hist n) = WY p.hist n := rfl
  rw [hR]
  generalize hk : WY p.hist n = k
  unfold WY at hk
  clear hf hmem hR
  obtain ⟨ps, pn, pa, pc, ph⟩ := p
  dsimp only at *
  refine FJ 0 func87 ntmps87 (fun G => ?_)
  repeat' first | refine Wk ?_ | refine Qa.mk (fun h => ?_) (fun h => ?_) | refine Qd.mk (fun ad => ?_) | refine Qc.is cp ?_ (fun _ h => h)
  rename_i ad0 ad1 ad2
  refine Qn (α := Nat) (fun i => [(2, .c (.i .i64 n)), (6, .c (.p 2 ad2 0)), (8, .c (.p 3 ad 0)), (10, .c (.i .i64 i))]) (fun _ => [.box 3 ad 60 [.i .i64 ps, .s pn, .sl pa ph.length pc], .box 2 ad2 73 [.i .i64 0, .s [], .s [], .s [], .i .i64 0, .i .i64 0]]) (fun _ => [QG s]) 4
   (fun i => i ≤ ph.length ∧ ∀ j, ∀ hj : j < ph.length, j < i → decide (ph[j].num = n) = false) (fun i => ph.length - i) (Qq.mk 0 ⟨Nat.zero_le _, fun j _ h => absurd h (Nat.not_lt_zero j)⟩ Qh.a Qb.a) (fun i hx => ?_)
  obtain ⟨hi, hn⟩ := hx
  by_cases hlt : i < ph.length
  ·have hg := rv_num hlt
   have hg1 := Yo hlt
   have hyes : ph[i].num = n → k = some ph[i] := fun h => by
    rw [← hk, qM (p := fun x : RV => decide (x.num = n)) hlt hn (decide_eq_true h)]
   have hno : ¬ ph[i].num = n → ∀ j, ∀ hj : j < ph.length, j < i + 1 → decide (ph[j].num = n) = false := fun h => yz (p := fun x : RV => decide (x.num = n)) hlt hn (decide_eq_false h)
   generalize ph[i] = y at *
   repeat' first | refine Wk ?_ | refine Qa.mk (fun h => ?_) (fun h => ?_) | refine Qd.mk (fun ad => ?_) | fail | refine Qr.a 0 6 _ (hrd _) ?_ | refine Zv.mk 0 6 _ _ (hrd _) (by omega) ?_ | refine Qi.a 0 _ _ [.i .i64 y.num] (hrd _) (by exact hg) ?_ | refine Qi.a 0 _ _ y.cells (hrd _) (by exact hg1) ?_ | refine Qo.mk (i + 1) (by omega) ⟨by omega, hno (by assumption)⟩ Qh.a Qb.a | rw [hyes (by assumption)]; refine Qe.mk [] [] ⟨rfl, rfl, rfl⟩ Qb.z
  ·have h1 : k = none := by
    rw [← hk]; exact xW (p := fun x : RV => decide (x.num = n)) fun j hj => hn j hj (by omega)
   subst h1
   repeat' first | refine Wk ?_ | refine Qa.mk (fun h => ?_) (fun h => ?_) | refine Qd.mk (fun ad => ?_) | refine Qe.mk [] [] ⟨rfl, rfl, rfl⟩ Qb.z
end Go.Proofs
namespace Go.X
open Go Go.Lib
theorem J8.ins {m : Im} {l : List PGM} {x : PGM} (h : J8 m l) (hx : Z8 m 0 6 x.ha x.hist.length (Zb x.hist)) : J8 m (Xn l x) := fun p hp => by
 rcases SU.1 hp with rfl | hp
 ·exact hx
 ·exact h p hp
theorem J8.erase {m : Im} {l : List PGM} (h : J8 m l) (i : Nat) : J8 m (l.eraseIdx i) := h.sub fun _ hp => qI hp
theorem J8.snoc {m : Im} {l : List PGM} {x : PGM} (h : J8 m l) (hx : Z8 m 0 6 x.ha x.hist.length (Zb x.hist)) : J8 m (l ++ [x]) := fun p hp => by
 rcases List.mem_append.1 hp with hp | hp
 ·exact h p hp
 ·rw [List.mem_singleton.1 hp]; exact hx
theorem J8.set {m : Im} {l : List PGM} {x : PGM} {i : Nat} (h : J8 m l) (hx : Z8 m 0 6 x.ha x.hist.length (Zb x.hist)) : J8 m (l.set i x) := fun p hp => by
 rcases List.mem_or_eq_of_mem_set hp with hp | rfl
 ·exact h p hp
 ·exact hx
theorem kX {l : List PGM} {i : Nat} (h : i < l.length) {a : Option Addr} {c n : Nat} {x : PGM} (h1 : x.sp = l[i].sp) (h2 : x.nm = l[i].nm) (h3 : C.sl a n c = C.sl x.ha x.hist.length x.hc) : QP (i * 3 + 2) [C.sl a n c] (Qm l) = Qm (l.set i x) := by
 refine Wo (F := PGM.cells) (z := 3) (fun _ => rfl) h (by simp) ?_
 rw [h3]
 simp only [PGM.cells, h1, h2]
 rfl
theorem vT {l : List PGM} {i : Nat} (h : i < l.length) (f : SP → SP) (x : PGM) (hx : x.pl = f l[i].pl) : (l.set i x).map PGM.pl = (l.map PGM.pl).modify i f := by
 refine List.ext_getElem (by simp) fun j h1 h2 => ?_
 rw [List.getElem_map, List.getElem_set, List.getElem_modify]
 split
 ·rename_i e; subst e
  rw [hx, List.getElem_map]
 ·rw [List.getElem_map]
theorem YV (l : List PGM) (i : Nat) : (l.eraseIdx i).map PGM.pl = (l.map PGM.pl).eraseIdx i := by
 rw [List.eraseIdx_eq_take_drop_succ, List.eraseIdx_eq_take_drop_succ, List.map_append, List.map_take, List.map_drop]
theorem G1 (s : STM) : s.pl.pages = s.pages.map PGM.pl := rfl
theorem US (s : STM) : s.pl.gone = s.gone.map PGM.pl := rfl
theorem K9 (s : STM) (sp : Int) (nm : Bs) : Q2 (YX sp nm) s.pl.pages = Q2 (X7 sp nm) s.pages := Hq PGM.pl (YX sp nm) s.pages
theorem OV (s : STM) (sp : Int) (nm : Bs) : Jr (YX sp nm) s.pl.gone = Jr (X7 sp nm) s.gone := vX PGM.pl (YX sp nm) s.gone
theorem V3 (s : STM) : (s.pl.pages.length : Int) = s.pages.length := by rw [G1, List.length_map]
theorem OU (s : STM) : (s.pl.gone.length : Int) = s.gone.length := by rw [US, List.length_map]
theorem Wp {s : STM} {i : Nat} (h : i < s.pages.length) : Vc s.pl (i : Int) = s.pages[i].pl := by
 rw [Vc, Int.toNat_natCast, G1, Vk (by simpa using h), List.getElem_map]
theorem YA.of {m : Im} {s : STM} {a1 a2 a3 : Option Addr} {c1 c2 c3 : Nat} {sq clk pr : Int} {l1 l2 : List PGM} {l3 : List PP} (h : YA m s) (h1 : l1.length ≤ c1) (h2 : Ew m a1 l1) (h3 : l2.length ≤ c2) (h4 : Ew m a2 l2) (h5 : l3.length ≤ c3) (h6 : Z8 m 0 8 a3 l3.length (XI l3)) : YA m ⟨sq, clk, a1, c1, l1, a2, c2, l2, a3, c3, l3, pr, s.wa, s.wc, s.watches, s.la, s.lc, s.lasts⟩ :=
 ⟨h2, h4, h6, h.watches, h.lasts, ⟨h1, h3, h5, h.room.watches, h.room.lasts⟩⟩
def VF (h : List RV) (c : CHM) (clk sq : Int) : List RV := h ++ [⟨(h.length : Int) + 1, c.user, c.note, c.text, clk, sq⟩]
end Go.X
namespace Go.Proofs
open Go Go.X Tryz
set_option maxRecDepth 100000
set_option maxHeartbeats 4000000
theorem R8 (s : STM) (c : CHM) (sq : Int) (hs : Vs s) : FnS prog 136 [.agg s.cells, .agg c.cells, .c (.i .i64 sq)] [] [QG s] (Kz (K7 s.pl c.pl sq)) := by
 have hrd : ∀ L, Qp L [QG s] 0 3 s.pa s.pages.length (Qm s.pages) := fun L => .inr fun m h => h.1.pages.row
 have cf := Kx 0 s.pa s.pc s.pages c.sp c.nm hs.big.pages
 have hl := hs.pages
 generalize hR : K7 s.pl c.pl sq = R
 unfold K7 at hR
 rw [show c.pl.sp = c.sp from rfl, show c.pl.nm = c.nm from rfl, K9, V3] at hR
 rcases qq (X7 c.sp c.nm) s.pages with ⟨h1, _⟩ | ⟨i, hi, h1, _, h3⟩
 ·rw [h1] at cf hR
  rw [if_pos (by omega)] at hR
  have hfull : 200 ≤ (s.pages.length : Int) → R = (s.pl, 8) := fun h => by rw [← hR, if_pos h]
  have hnew : ¬ 200 ≤ (s.pages.length : Int) → R = ({ s.pl with pages := Kv (je c.sp c.nm) s.pl.pages ⟨c.sp, c.nm, [⟨1, c.user, c.note, c.text, s.clk, sq⟩]⟩ }, 0) := fun h => by rw [← hR, if_neg h]; rfl
  have ci := fun ha hc => KW s.pa s.pc s.pages ⟨c.sp, c.nm, ha, hc, [⟨1, c.user, c.note, c.text, s.clk, sq⟩]⟩ hl
  clear hR
  refine FJ 0 func136 ntmps136 (fun G => ?_)
  repeat' first | refine Wk ?_ | refine Qa.mk (fun h => ?_) (fun h => ?_) | refine Qd.mk (fun ad => ?_) | refine Qc.is cf ?_ (fun _ h => ⟨h.1.pages.row, trivial⟩) | (rw [hfull (by assumption)]; refine Qe.mk [] [QG s] ⟨s, rfl, rfl, rfl, rfl⟩ Qb.dropAll) | refine Qc.mk [] _ [_] _ (ci _ _) QW (fun _ h => ⟨⟨h.1.room.pages, h.1.pages.row⟩, trivial⟩) (fun v L' D' hq => ?_); obtain ⟨a1, k1, rfl, rfl, rfl⟩ := hq | (rw [hnew (by assumption)]; refine Qe.mk [] [QG _] ⟨⟨s.seq, s.clk, a1, k1, Xn s.pages ⟨c.sp, c.nm, _, _, [⟨1, c.user, c.note, c.text, s.clk, sq⟩]⟩, s.ga, s.gc, s.gone, s.qa, s.qc, s.props, s.proposed, s.wa, s.wc, s.watches, s.la, s.lc, s.lasts⟩, rfl, rfl, rfl, (by dsimp only [STM.pl]; rw [J9]; rfl)⟩ ((Qb.ofSub (L0 := [.row 73 6 _ 1 _ _]) (by repeat (first | exact List.Sublist.slnil | refine List.Sublist.cons_cons _ ?_ | refine List.Sublist.cons _ ?_)) (fun _ h => h)).trans (Qb.toFact.trans (Qb.facts fun _ h => ⟨h.2.2.1.of h.2.1.1 ⟨h.2.1.2, h.2.2.1.pages.his.ins h.1⟩ h.2.2.1.room.gone h.2.2.1.gone h.2.2.1.room.props h.2.2.1.props, trivial⟩))))
 ·rw [h1] at cf hR
  rw [if_neg (by omega), Wp hi] at hR
  have hml := hs.ph _ (List.getElem_mem hi)
  have hmem := List.getElem_mem hi
  have hg1 := YH hi
  have hset : ∀ a k, QP (i * 3 + 2) [C.sl a ((VF s.pages[i].hist c s.clk sq).length) k] (Qm s.pages) = Qm (s.pages.set i ⟨s.pages[i].sp, s.pages[i].nm, a, k, VF s.pages[i].hist c s.clk sq⟩) := fun a k => kX hi rfl rfl rfl
  have hpl : ∀ a k, (s.pages.set i ⟨s.pages[i].sp, s.pages[i].nm, a, k, VF s.pages[i].hist c s.clk sq⟩).map PGM.pl = (s.pages.map PGM.pl).modify i (fun p => { p with hist := p.hist ++ [⟨(p.hist.length : Int) + 1, c.user, c.note, c.text, s.clk, sq⟩] }) := fun a k => vT hi _ _ rfl
  have hfull : 40 ≤ (s.pages[i].hist.length : Int) → R = (s.pl, 8) := fun h => by
   rw [← hR, if_pos (show 40 ≤ ((s.pages[i].pl.hist.length : Nat) : Int) from h)]
  have hnew : ¬ 40 ≤ (s.pages[i].hist.length : Int) → R = ({ s.pl with pages := s.pl.pages.modify i (fun p => { p with hist := p.hist ++ [⟨(p.hist.length : Int) + 1, c.user, c.note, c.text, s.clk, sq⟩] }) }, 0) := fun h => by
   rw [← hR, if_neg (show ¬ 40 ≤ ((s.pages[i].pl.hist.length : Nat) : Int) from h)]; rfl
  have hst : ∀ a, (s.pages.set i a).length = s.pages.length := fun a => List.length_set
  have hap : Zb s.pages[i].hist ++ [.i .i64 ((s.pages[i].hist.length : Int) + 1), .s c.user, .s c.note, .s c.text, .i .i64 s.clk, .i .i64 sq] = Zb (VF s.pages[i].hist c s.clk sq) := by simp [Zb, RV.cells, VF]
  have hln : s.pages[i].hist.length + 1 = (VF s.pages[i].hist c s.clk sq).length := by simp [VF]
  have hrh : ∀ L, Qp L [QG s] 0 6 s.pages[i].ha s.pages[i].hist.length (Zb s.pages[i].hist) := fun L => .inr fun m h => h.1.pages.his _ hmem
  clear hR
  generalize s.pages[i] = p at *
  generalize hR2 : VF p.hist c s.clk sq = h2 at *
  refine FJ 0 func136 ntmps136 (fun G => ?_)
  repeat' first | refine Wk ?_ | refine Qa.mk (fun h => ?_) (fun h => ?_) | refine Qd.mk (fun ad => ?_) | refine ZF (id := 13) tyOK (by kernel_rfl) [0, 1, 0, 0, 8, 0, 32, 120, 255, 511, 1023] [0, 1, 2, 3, 5] 4 [6, 7, 8, 9, 10] 6 [4, 7, 8, 9, 10] [4, 6, 7, 8, 9, 10] [3, 8] 10 false (by kernel_rfl) ?_ | refine X3.mk ?_ ?_ | refine Qt.mk Qb.a ?_ | refine Qc.is cf ?_ (fun _ h => ⟨h.1.pages.row, trivial⟩) | (rw [hfull (by assumption)]; refine Qe.mk [] [QG s] ⟨s, rfl, rfl, rfl, rfl⟩ Qb.dropAll) | refine Qr.a 0 3 _ (hrd _) ?_ | refine Zv.mk 0 3 _ _ (hrd _) (by omega) ?_ | refine Qi.a 0 _ _ [.sl p.ha p.hist.length p.hc] (hrd _) (by exact hg1) ?_ | refine QK.nil (Qm s.pages) s.pages.length rfl rfl rfl (QJ.sl 0 60 _ _ _ _ _ rfl rfl (hrd _) (Zs _)) (by dsimp only; omega) (fun a1 k1 => ?_) | refine QK.nil (Zb p.hist) p.hist.length rfl rfl rfl (QJ.sl 0 73 _ _ _ _ _ rfl rfl (hrh _) (kW _)) (by dsimp only; omega) (fun a2 k2 => ?_) | refine QK.row [_] _ (Zb p.hist) [.i .i64 ((p.hist.length : Int) + 1), .s c.user, .s c.note, .s c.text, .i .i64 s.clk, .i .i64 sq] 1 rfl (QJ.sl 73 73 _ _ 1 1 _ rfl rfl (.inl ⟨1, QT⟩) rfl) (by dsimp only; omega) (fun a3 k3 => ?_); rw [hap, hln] | refine QK.row [] _ (Zb p.hist) [.i .i64 ((p.hist.length : Int) + 1), .s c.user, .s c.note, .s c.text, .i .i64 s.clk, .i .i64 sq] 1 rfl (QJ.sl 73 73 _ _ 1 1 _ rfl rfl (.inl ⟨1, ZR⟩) rfl) (by dsimp only; omega) (fun a3 k3 => ?_); rw [hap, hln] | refine Qr.a 60 3 _ (.inl ⟨_, XQ⟩) ?_ | refine Zv.mk 60 3 s.pages.length _ (.inl ⟨_, XQ⟩) (by omega) ?_ | refine Xp.mk [_, _] _ _ _ _ _ _ rfl (by omega) (by omega) (Nat.le_of_ble_eq_true rfl) (by exact hset _ _) ?_ | (rw [hnew (by assumption)]; refine Qe.mk [] [QG _] ⟨⟨s.seq, s.clk, a1, k1, s.pages.set i ⟨p.sp, p.nm, a3, k3, h2⟩, s.ga, s.gc, s.gone, s.qa, s.qc, s.props, s.proposed, s.wa, s.wc, s.watches, s.la, s.lc, s.lasts⟩, by dsimp only [STM.cells]; rw [hst]; rfl, rfl, rfl, (by dsimp only [STM.pl]; rw [hpl])⟩ ((Qb.ofSub (L0 := [.row 73 6 a3 h2.length k3 (Zb h2), .row 60 3 a1 s.pages.length k1 (Qm (s.pages.set i ⟨p.sp, p.nm, a3, k3, h2⟩))]) (by repeat (first | exact List.Sublist.slnil | refine List.Sublist.cons_cons _ ?_ | refine List.Sublist.cons _ ?_)) (fun _ h => h)).trans (Qb.toFact.trans (Qb.toFactC.trans (Qb.facts fun _ h => ⟨h.2.2.1.of (by rw [hst]; exact h.1.1) ⟨by rw [hst]; exact h.1.2, h.2.2.1.pages.his.set h.2.1⟩ h.2.2.1.room.gone h.2.2.1.gone h.2.2.1.room.props h.2.2.1.props, trivial⟩)))))
theorem GV (s : STM) (c : CHM) (hs : Vs s) : FnS prog 137 [.agg s.cells, .agg c.cells] [] [QG s] (Kz (JA s.pl c.pl)) := by
 have hrd : ∀ L, Qp L [QG s] 0 3 s.pa s.pages.length (Qm s.pages) := fun L => .inr fun m h => h.1.pages.row
 have hrg : ∀ L, Qp L [QG s] 0 3 s.ga s.gone.length (Qm s.gone) := fun L => .inr fun m h => h.1.gone.row
 have cf := Kx 0 s.pa s.pc s.pages c.sp c.nm hs.big.pages
 have cd := Uk 0 s.qa s.qc s.props c.sp c.nm hs.props
 have hl := hs.pages
 have hlg := hs.gone
 generalize hR : JA s.pl c.pl = R
 unfold JA at hR
 rw [show c.pl.sp = c.sp from rfl, show c.pl.nm = c.nm from rfl, K9, OU] at hR
 rcases qq (X7 c.sp c.nm) s.pages with ⟨h1, _⟩ | ⟨i, hi, h1, _, h3⟩
 ·rw [h1, if_pos (by omega)] at hR
  rw [h1] at cf
  subst hR
  refine FJ 0 func137 ntmps137 (fun G => ?_)
  repeat' first | refine Wk ?_ | refine Qa.mk (fun h => ?_) (fun h => ?_) | refine Qd.mk (fun ad => ?_) | refine Qc.is cf ?_ (fun _ h => ⟨h.1.pages.row, trivial⟩) | refine Qe.mk [] [QG s] ⟨s, rfl, rfl, rfl, rfl⟩ Qb.dropAll
 ·rw [h1, if_neg (by omega), Wp hi, Int.toNat_natCast] at hR
  rw [h1] at cf
  have hmem := List.getElem_mem hi
  have hg := Z5 hi
  have cw := YY s.pa s.pc s.pages i hl hi
  have hfull : 100 ≤ (s.gone.length : Int) → R = (s.pl, 8) := fun h => by rw [← hR, if_pos h]
  have hnew : ¬ 100 ≤ (s.gone.length : Int) → R = ({ s.pl with gone := s.pl.gone ++ [s.pages[i].pl], pages := s.pl.pages.eraseIdx i, props := Xa s.pl.props c.sp c.nm }, 0) := fun h => by rw [← hR, if_neg h]
  clear hR
  have hap : Qm s.gone ++ [.i .i64 s.pages[i].sp, .s s.pages[i].nm, .sl s.pages[i].ha s.pages[i].hist.length s.pages[i].hc] = Qm (s.gone ++ [s.pages[i]]) := by simp [Qm, PGM.cells]
  have hln : s.gone.length + 1 = (s.gone ++ [s.pages[i]]).length := by simp
  have hgp : (s.gone ++ [s.pages[i]]).map PGM.pl = s.gone.map PGM.pl ++ [s.pages[i].pl] := by simp
  generalize s.pages[i] = p at *
  refine FJ 0 func137 ntmps137 (fun G => ?_)
  repeat' first | refine Wk ?_ | refine Qa.mk (fun h => ?_) (fun h => ?_) | refine Qd.mk (fun ad => ?_) | refine ZF (id := 6) tyOK (by kernel_rfl) [0, 1, 3, 0, 8, 0, 56, 120, 248, 511, 1023, 2047] [0, 1, 3, 4, 5, 6, 7] 2 [8, 9, 10, 11] 8 [2, 9, 10, 11] [2, 8, 9, 11] [2, 26] 11 false (by kernel_rfl) ?_ | refine X3.mk ?_ ?_ | refine Qt.mk Qb.a ?_ | refine Qc.is cf ?_ (fun _ h => ⟨h.1.pages.row, trivial⟩) | (rw [hfull (by assumption)]; refine Qe.mk [] [QG s] ⟨s, rfl, rfl, rfl, rfl⟩ Qb.dropAll) | refine Qr.a 0 3 _ (hrd _) ?_ | refine Qi.a 0 _ _ [.i .i64 p.sp, .s p.nm, .sl p.ha p.hist.length p.hc] (hrd _) (by exact hg) ?_ | refine QK.nil (Qm s.gone) s.gone.length rfl rfl rfl (QJ.sl 0 60 _ _ _ _ _ rfl rfl (hrg _) (Zs _)) (by dsimp only; omega) (fun a1 k1 => ?_) | refine QK.row [_] _ (Qm s.gone) [.i .i64 p.sp, .s p.nm, .sl p.ha p.hist.length p.hc] 1 rfl (QJ.sl 60 60 _ _ 1 1 _ rfl rfl (.inl ⟨1, QT⟩) rfl) (by dsimp only; omega) (fun a2 k2 => ?_); rw [hap, hln] | refine QK.row [] _ (Qm s.gone) [.i .i64 p.sp, .s p.nm, .sl p.ha p.hist.length p.hc] 1 rfl (QJ.sl 60 60 _ _ 1 1 _ rfl rfl (.inl ⟨1, ZR⟩) rfl) (by dsimp only; omega) (fun a2 k2 => ?_); rw [hap, hln] | refine Qc.mk [] _ [_] _ cw QW (fun _ h => ⟨⟨h.1.room.pages, h.1.pages.row⟩, trivial⟩) (fun v L' D' hq => ?_); obtain ⟨a3, k3, rfl, rfl, rfl⟩ := hq | refine Qc.mk [] _ [_] _ cd QW (fun _ h => ⟨h.2.1.props, trivial⟩) (fun v L' D' hq => ?_); obtain ⟨a4, k4, rfl, rfl, rfl⟩ := hq | (rw [hnew (by assumption)]; refine Qe.mk [] [QG _] ⟨⟨s.seq, s.clk, a3, k3, s.pages.eraseIdx i, a2, k2, s.gone ++ [p], a4, k4, Xa s.props c.sp c.nm, s.proposed, s.wa, s.wc, s.watches, s.la, s.lc, s.lasts⟩, rfl, rfl, rfl, (by dsimp only [STM.pl]; rw [YV, hgp])⟩ ((Qb.ofSub (L0 := [.row 60 3 a2 (s.gone ++ [p]).length k2 (Qm (s.gone ++ [p]))]) (by repeat (first | exact List.Sublist.slnil | refine List.Sublist.cons_cons _ ?_ | refine List.Sublist.cons _ ?_)) (fun _ h => h)).trans (Qb.toFactC.trans (Qb.facts fun _ h => ⟨h.2.2.2.1.of h.2.2.1.1 ⟨h.2.2.1.2, h.2.2.2.1.pages.his.erase _⟩ h.1.1 ⟨h.1.2, h.2.2.2.1.gone.his.snoc (h.2.2.2.1.pages.his p hmem)⟩ h.2.1.1 h.2.1.2, trivial⟩))))
theorem UK (s : STM) (c : CHM) (hs : Vs s) : FnS prog 138 [.agg s.cells, .agg c.cells] [] [QG s] (Kz (XS s.pl c.pl)) := by
 have hrg : ∀ L, Qp L [QG s] 0 3 s.ga s.gone.length (Qm s.gone) := fun L => .inr fun m h => h.1.gone.row
 have cf := Kx 0 s.pa s.pc s.pages c.sp c.nm hs.big.pages
 have cg := Hk s c.sp c.nm hs.gone
 have hl := hs.pages
 have hlg := hs.gone
 generalize hR : XS s.pl c.pl = R
 unfold XS at hR
 rw [show c.pl.sp = c.sp from rfl, show c.pl.nm = c.nm from rfl, K9, OV, V3] at hR
 have hfnd : 0 ≤ Q2 (X7 c.sp c.nm) s.pages → R = (s.pl, 5) := fun h => by rw [← hR, if_pos h]
 rcases JH (X7 c.sp c.nm) s.gone with ⟨h1, _⟩ | ⟨i, hi, h1, h3⟩
 ·have hno : ¬ 0 ≤ Q2 (X7 c.sp c.nm) s.pages → R = (s.pl, 4) := fun h => by rw [← hR, if_neg h, if_pos (by omega)]
  rw [h1] at cg
  clear hR
  generalize Q2 (X7 c.sp c.nm) s.pages = k at *
  refine FJ 0 func138 ntmps138 (fun G => ?_)
  repeat' first | refine Wk ?_ | refine Qa.mk (fun h => ?_) (fun h => ?_) | refine Qd.mk (fun ad => ?_) | refine Qc.is cg ?_ (fun _ h => h) | refine Qc.is cf ?_ (fun _ h => ⟨h.1.pages.row, trivial⟩) | (rw [hfnd (by omega)]; refine Qe.mk [] [QG s] ⟨s, rfl, rfl, rfl, rfl⟩ Qb.dropAll) | (rw [hno (by omega)]; refine Qe.mk [] [QG s] ⟨s, rfl, rfl, rfl, rfl⟩ Qb.dropAll)
 ·have hfull : ¬ 0 ≤ Q2 (X7 c.sp c.nm) s.pages → 200 ≤ (s.pages.length : Int) → R = (s.pl, 8) := fun h h' => by rw [← hR, if_neg h, if_neg (by omega), if_pos h']
  have hnew : ¬ 0 ≤ Q2 (X7 c.sp c.nm) s.pages → ¬ 200 ≤ (s.pages.length : Int) → R = ({ s.pl with pages := Kv (je c.sp c.nm) s.pl.pages s.gone[i].pl, gone := s.pl.gone.eraseIdx i }, 0) := fun h h' => by
   rw [← hR, if_neg h, if_neg (by omega), if_neg h', h1, Int.toNat_natCast, US, Vk (by simpa using hi), List.getElem_map]
  rw [h1] at cg
  clear hR
  have hat : s.gone[i].sp = c.sp ∧ s.gone[i].nm = c.nm := of_decide_eq_true h3
  have hins : Kv (je c.sp c.nm) s.pl.pages s.gone[i].pl = (Xn s.pages s.gone[i]).map PGM.pl := by rw [J9, hat.1, hat.2]; rfl
  rw [hins] at hnew
  have hmem := List.getElem_mem hi
  have hg := Z5 hi
  have ci := KW s.pa s.pc s.pages s.gone[i] hl
  have cw := YY s.ga s.gc s.gone i hlg hi
  clear hat hins h3
  generalize s.gone[i] = p at *
  generalize Q2 (X7 c.sp c.nm) s.pages = k at *
  refine FJ 0 func138 ntmps138 (fun G => ?_)
  repeat' first | refine Wk ?_ | refine Qa.mk (fun h => ?_) (fun h => ?_) | refine Qd.mk (fun ad => ?_) | refine Dz (id := 8) [0,1,0,4,0,28,60,127,255,511] [0,1,2,3,4,5,6,7,8,9] [7,9] [2,31] 9 true ?_ | refine Qt.mk Qb.a ?_ | refine Qc.is cg ?_ (fun _ h => h) | refine Qc.is cf ?_ (fun _ h => ⟨h.1.pages.row, trivial⟩) | (rw [hfnd (by omega)]; refine Qe.mk [] [QG s] ⟨s, rfl, rfl, rfl, rfl⟩ Qb.dropAll) | (rw [hfull (by omega) (by omega)]; refine Qe.mk [] [QG s] ⟨s, rfl, rfl, rfl, rfl⟩ Qb.dropAll) | refine Qr.a 0 3 _ (hrg _) ?_ | refine Qi.a 0 _ _ p.cells (hrg _) (by exact hg) ?_ | refine Qc.mk [] _ [_] _ ci QW (fun _ h => ⟨⟨h.1.room.pages, h.1.pages.row⟩, trivial⟩) (fun v L' D' hq => ?_); obtain ⟨a3, k3, rfl, rfl, rfl⟩ := hq | refine Qc.mk [] _ [_] _ cw QW (fun _ h => ⟨⟨h.2.1.room.gone, h.2.1.gone.row⟩, trivial⟩) (fun v L' D' hq => ?_); obtain ⟨a4, k4, rfl, rfl, rfl⟩ := hq | (rw [hnew (by omega) (by omega)]; refine Qe.mk [] [QG _] ⟨⟨s.seq, s.clk, a3, k3, Xn s.pages p, a4, k4, s.gone.eraseIdx i, s.qa, s.qc, s.props, s.proposed, s.wa, s.wc, s.watches, s.la, s.lc, s.lasts⟩, rfl, rfl, rfl, (by dsimp only [STM.pl]; rw [YV])⟩ (Qb.dropAll.trans (Qb.facts fun _ h => ⟨h.2.2.1.of h.2.1.1 ⟨h.2.1.2, h.2.2.1.pages.his.ins (h.2.2.1.gone.his p hmem)⟩ h.1.1 ⟨h.1.2, h.2.2.1.gone.his.erase _⟩ h.2.2.1.room.props h.2.2.1.props, trivial⟩)))
end Go.Proofs
namespace Go.X
open Go Go.Lib
theorem OK {l : List RV} (h : 0 < l.length) : ((Zb l).drop (((l.length : Int) - 1).toNat * 6 + 4)).take 1 = [.i .i64 (l.getLast?.getD default).min] := by
 rw [show ((l.length : Int) - 1).toNat = l.length - 1 by omega, List.getLast?_eq_getElem?, List.getElem?_eq_getElem (by omega)]
 rw [Zb, QL (F := RV.cells) (z := 6) (fun _ => rfl) (by omega) (by omega)]; rfl
def Jv (l : List RV) (sq : Int) (i : Nat) : List RV := (l.take i).map (fun r => { r with seq := sq }) ++ l.drop i
theorem wG (l : List RV) (sq : Int) (i : Nat) : (Jv l sq i).length = l.length := by
 have := congrArg List.length (List.take_append_drop i l)
 rw [List.length_append] at this
 rw [Jv, List.length_append, List.length_map]; exact this
theorem GK (l : List RV) (sq : Int) : Jv l sq l.length = l.map (fun r => { r with seq := sq }) := by
 rw [Jv, List.take_length, List.drop_length, List.append_nil]
theorem GJ {l : List RV} {sq : Int} {i : Nat} (h : i < l.length) : QP (i * 6 + 5) [C.i .i64 sq] (Zb (Jv l sq i)) = Zb (Jv l sq (i + 1)) := by
 have hi : i < (Jv l sq i).length := by rw [wG]; exact h
 have hml : ((l.take i).map fun r => ({ r with seq := sq } : RV)).length = i := by rw [List.length_map, List.length_take, Nat.min_eq_left (by omega)]
 have hel0 : (Jv l sq i)[i]? = some l[i] := by
  unfold Jv
  rw [List.getElem?_append_right (by omega), hml, Nat.sub_self, List.getElem?_drop, Nat.add_zero, List.getElem?_eq_getElem h]
 have hel : (Jv l sq i)[i] = l[i] := (List.getElem?_eq_some_iff.1 hel0).2
 have hset : (Jv l sq i).set i { l[i] with seq := sq } = Jv l sq (i + 1) := by
  unfold Jv
  rw [List.set_append_right _ _ (by omega), hml, Nat.sub_self, List.drop_eq_getElem_cons h, List.set_cons_zero, List.take_succ_eq_append_getElem h, List.map_append, List.append_assoc]
  rfl
 rw [Zb, ← hset]
 refine Wo (F := RV.cells) (z := 6) (fun _ => rfl) hi (by simp) ?_
 rw [hel]; rfl
theorem YA.pgs {m : Im} {s : STM} {a : Option Addr} {c : Nat} {l : List PGM} (h : YA m s) (h1 : l.length ≤ c) (h2 : Ew m a l) : YA m ⟨s.seq, s.clk, a, c, l, s.ga, s.gc, s.gone, s.qa, s.qc, s.props, s.proposed, s.wa, s.wc, s.watches, s.la, s.lc, s.lasts⟩ :=
 h.of h1 h2 h.room.gone h.gone h.room.props h.props
theorem YA.prs {m : Im} {s : STM} {a : Option Addr} {c : Nat} {l : List PP} {pr : Int} (h : YA m s) (h1 : l.length ≤ c) (h2 : Z8 m 0 8 a l.length (XI l)) : YA m ⟨s.seq, s.clk, s.pa, s.pc, s.pages, s.ga, s.gc, s.gone, a, c, l, pr, s.wa, s.wc, s.watches, s.la, s.lc, s.lasts⟩ :=
 h.of h.room.pages h.pages h.room.gone h.gone h1 h2
theorem pp_id {l : List PP} {i : Nat} (h : i < l.length) : ((XI l).drop (i * 8 + 0)).take 1 = [.i .i64 l[i].id] := by
 rw [XI, QL (F := PP.cells) (z := 8) (fun _ => rfl) h (by omega)]; rfl
def Gs (n : Int) (p : PP) : Bool := !decide (p.id = n)
end Go.X
namespace Go.Proofs
open Go Go.X Tryz
set_option maxRecDepth 100000
set_option maxHeartbeats 4000000
theorem PZ (s : STM) (c : CHM) (sq : Int) (hs : Vs s) (hn : c.tnm.length ≤ 1000000) : FnS prog 139 [.agg s.cells, .agg c.cells, .c (.i .i64 sq)] [] [QG s] (Kz (VB s.pl c.pl sq)) := by
 have hrd : ∀ L, Qp L [QG s] 0 3 s.pa s.pages.length (Qm s.pages) := fun L => .inr fun m h => h.1.pages.row
 have cf := Kx 0 s.pa s.pc s.pages c.sp c.nm hs.big.pages
 have cf2 := Kx 0 s.pa s.pc s.pages c.tsp c.tnm hs.big.pages
 have cd := Uk 0 s.qa s.qc s.props c.sp c.nm hs.props
 have cr := y8 c.tsp c.tnm hn
 have hl := hs.pages
 generalize hR : VB s.pl c.pl sq = R
 unfold VB at hR
 rw [show c.pl.sp = c.sp from rfl, show c.pl.nm = c.nm from rfl, show c.pl.tsp = c.tsp from rfl, show c.pl.tnm = c.tnm from rfl, show c.pl.n = c.n from rfl, show c.pl.user = c.user from rfl, K9, K9, V3] at hR
 rcases qq (X7 c.sp c.nm) s.pages with ⟨h1, _⟩ | ⟨i, hi, h1, _, h3⟩
 ·rw [h1, if_pos (by omega)] at hR
  rw [h1] at cf
  subst hR
  refine FJ 0 func139 ntmps139 (fun G => ?_)
  repeat' first | refine Wk ?_ | refine Qa.mk (fun h => ?_) (fun h => ?_) | refine Qd.mk (fun ad => ?_) | refine Qc.is cf ?_ (fun _ h => ⟨h.1.pages.row, trivial⟩) | refine Qe.mk [] [QG s] ⟨s, rfl, rfl, rfl, rfl⟩ Qb.dropAll
 ·rw [h1, if_neg (by omega), Wp hi, Int.toNat_natCast] at hR
  rw [h1] at cf
  have hmem := List.getElem_mem hi
  have hg := Z5 hi
  have cw := YY s.pa s.pc s.pages i hl hi
  generalize s.pages[i] = p at *
  generalize Q2 (X7 c.tsp c.tnm) s.pages = k at *
  have hlE : (s.pages.eraseIdx i).length ≤ 999 := by rw [List.length_eraseIdx_of_lt hi]; omega
  have hdup : 0 ≤ k → R = (s.pl, 5) := fun h => by rw [← hR, if_pos h]
  have hfull : ¬ 0 ≤ k → c.n = 1 → 200 ≤ (s.pages.length : Int) → R = (s.pl, 8) := fun h h' h'' => by rw [← hR, if_neg h, if_pos ⟨h', h''⟩]
  have hE : (s.pages.eraseIdx i).map PGM.pl = s.pl.pages.eraseIdx i := YV _ _
  have hx : Kv (je c.tsp c.tnm) (s.pl.pages.eraseIdx i) ⟨c.tsp, c.tnm, p.pl.hist⟩ = (Xn (s.pages.eraseIdx i) ⟨c.tsp, c.tnm, p.ha, p.hc, p.hist⟩).map PGM.pl := by rw [J9, hE]; rfl
  have hone : ¬ 0 ≤ k → ¬ (c.n = 1 ∧ 200 ≤ (s.pages.length : Int)) → ¬ c.n = 1 → R = ({ s.pl with pages := (Xn (s.pages.eraseIdx i) ⟨c.tsp, c.tnm, p.ha, p.hc, p.hist⟩).map PGM.pl, props := Xa s.props c.sp c.nm }, 0) := fun h h' h'' => by
   rw [← hR, if_neg h, if_neg h']
   dsimp only
   rw [if_neg h'', hx]; rfl
  have htwo : ∀ a k', ¬ 0 ≤ k → ¬ (c.n = 1 ∧ 200 ≤ (s.pages.length : Int)) → c.n = 1 → R = ({ s.pl with pages := (Xn (Xn (s.pages.eraseIdx i) ⟨c.tsp, c.tnm, p.ha, p.hc, p.hist⟩) ⟨c.sp, c.nm, a, k', [⟨1, c.user, [], JF c.tsp c.tnm, s.clk, sq⟩]⟩).map PGM.pl, props := Xa s.props c.sp c.nm }, 0) := fun a k' h h' h'' => by
   rw [← hR, if_neg h, if_neg h']
   dsimp only
   rw [if_pos h'', hx, J9 _ ⟨c.sp, c.nm, a, k', _⟩]; rfl
  clear hR hx hE
  have ci := fun a1 k1 => KW a1 k1 (s.pages.eraseIdx i) ⟨c.tsp, c.tnm, p.ha, p.hc, p.hist⟩ (by omega)
  have hlI : (Xn (s.pages.eraseIdx i) ⟨c.tsp, c.tnm, p.ha, p.hc, p.hist⟩).length ≤ 1000 := by rw [xO]; omega
  generalize hMM : Xn (s.pages.eraseIdx i) ⟨c.tsp, c.tnm, p.ha, p.hc, p.hist⟩ = M at *
  have ci2 := fun a1 k1 a k' => KW a1 k1 M ⟨c.sp, c.nm, a, k', [⟨1, c.user, [], JF c.tsp c.tnm, s.clk, sq⟩]⟩ hlI
  have hhis : ∀ m, YA m s → J8 m M := fun m h => by
   rw [← hMM]; exact (h.pages.his.erase i).ins (h.pages.his p hmem)
  clear hMM
  generalize JF c.tsp c.tnm = rt at *
  refine FJ 0 func139 ntmps139 (fun G => ?_)
  repeat' first | refine Wk ?_ | refine Qa.mk (fun h => ?_) (fun h => ?_) | refine Qd.mk (fun ad => ?_) | refine Dz (id := 10) [0,1,0,7,0,31,63,127] [0,1,2,4,3,5,6,7] [3,5,7] [3,9] 7 true ?_ | refine Dz (id := 12) [0,1,0,4,12,0,32,0,255,0,1023] [0,1,2,3,4,5,6,7,8,9,10] [9,10] [3,4] 10 true ?_ | refine Qt.mk Qb.a ?_ | refine Qc.is cf ?_ (fun _ h => ⟨h.1.pages.row, trivial⟩) | refine Qc.is cf2 ?_ (fun _ h => ⟨h.1.pages.row, trivial⟩) | (rw [hdup (by omega)]; refine Qe.mk [] [QG s] ⟨s, rfl, rfl, rfl, rfl⟩ Qb.dropAll) | (rw [hfull (by omega) (by omega) (by omega)]; refine Qe.mk [] [QG s] ⟨s, rfl, rfl, rfl, rfl⟩ Qb.dropAll) | refine Qr.a 0 3 _ (hrd _) ?_ | refine Qi.a 0 _ _ [.i .i64 p.sp, .s p.nm, .sl p.ha p.hist.length p.hc] (hrd _) (by exact hg) ?_ | refine Qc.mk [] _ [_] _ cw QW (fun _ h => ⟨⟨h.1.room.pages, h.1.pages.row⟩, trivial⟩) (fun v L' D' hq => ?_); obtain ⟨a3, k3, rfl, rfl, rfl⟩ := hq | refine Qc.mk [] _ [_] _ (ci _ _) QW Kh (fun v L' D' hq => ?_); obtain ⟨a4, k4, rfl, rfl, rfl⟩ := hq | refine Qx.mk [] _ cr QX ?_ | refine Qc.mk [] _ [_] _ (ci2 _ _ _ _) QW Kh (fun v L' D' hq => ?_); obtain ⟨a5, k5, rfl, rfl, rfl⟩ := hq | refine Qc.mk [] _ [_] _ cd QW (fun _ h => ⟨h.2.2.1.props, trivial⟩) (fun v L' D' hq => ?_); obtain ⟨a6, k6, rfl, rfl, rfl⟩ := hq | refine Qc.mk [] _ [_] _ cd QW (fun _ h => ⟨h.2.2.2.1.props, trivial⟩) (fun v L' D' hq => ?_); obtain ⟨a6, k6, rfl, rfl, rfl⟩ := hq | (rw [hone (by omega) (by omega) (by omega)]; refine Qe.mk [] [QG _] ⟨⟨s.seq, s.clk, a4, k4, M, s.ga, s.gc, s.gone, a6, k6, Xa s.props c.sp c.nm, s.proposed, s.wa, s.wc, s.watches, s.la, s.lc, s.lasts⟩, rfl, rfl, rfl, rfl⟩ (Qb.dropAll.trans (Qb.facts fun m h => ⟨h.2.2.2.1.of h.2.1.1 ⟨h.2.1.2, hhis m h.2.2.2.1⟩ h.2.2.2.1.room.gone h.2.2.2.1.gone h.1.1 h.1.2, trivial⟩))) | (rw [htwo _ _ (by omega) (by omega) (by omega)]; refine Qe.mk [] [QG _] ⟨⟨s.seq, s.clk, a5, k5, Xn M ⟨c.sp, c.nm, _, _, [⟨1, c.user, [], rt, s.clk, sq⟩]⟩, s.ga, s.gc, s.gone, a6, k6, Xa s.props c.sp c.nm, s.proposed, s.wa, s.wc, s.watches, s.la, s.lc, s.lasts⟩, rfl, rfl, rfl, rfl⟩ ((Qb.ofSub (L0 := [.row 73 6 _ 1 _ _]) (by repeat (first | exact List.Sublist.slnil | refine List.Sublist.cons_cons _ ?_ | refine List.Sublist.cons _ ?_)) (fun _ h => h)).trans (Qb.toFact.trans (Qb.facts fun m h => ⟨h.2.2.2.2.2.1.of h.2.2.1.1 ⟨h.2.2.1.2, (hhis m h.2.2.2.2.2.1).ins h.1⟩ h.2.2.2.2.2.1.room.gone h.2.2.2.2.2.1.gone h.2.1.1 h.2.1.2, trivial⟩))))
theorem Pt (s : STM) (c : CHM) (sq : Int) (hs : Vs s) (h1 : 1 ≤ c.hist.length) (h2 : c.hist.length ≤ 1000) : FnS prog 140 [.agg s.cells, .agg c.cells, .c (.i .i64 sq)] [] [QG s, Yy c] (Kz (Vw s.pl c.pl sq)) := by
 have hrc : ∀ L, Qp L [QG s, Yy c] 0 6 c.ha c.hist.length (Zb c.hist) := fun L => .inr fun m h => h.2.1
 have cf := Kx 0 s.pa s.pc s.pages c.sp c.nm hs.big.pages
 have hl := hs.pages
 have hg := OK (l := c.hist) (by omega)
 generalize hR : Vw s.pl c.pl sq = R
 unfold Vw at hR
 rw [show c.pl.sp = c.sp from rfl, show c.pl.nm = c.nm from rfl, show c.pl.hist = c.hist from rfl, show s.pl.clk = s.clk from rfl, K9, V3] at hR
 generalize Q2 (X7 c.sp c.nm) s.pages = k at *
 generalize (c.hist.getLast?.getD default).min = mn at *
 have hdup : 0 ≤ k → R = (s.pl, 5) := fun h => by rw [← hR, if_pos h]
 have hrng : ¬ 0 ≤ k → s.clk < mn → R = (s.pl, 2) := fun h h' => by rw [← hR, if_neg h, if_pos h']
 have hfull : ¬ 0 ≤ k → ¬ s.clk < mn → 200 ≤ (s.pages.length : Int) → R = (s.pl, 8) := fun h h' h'' => by rw [← hR, if_neg h, if_neg h', if_pos h'']
 have hnew : ∀ a k', ¬ 0 ≤ k → ¬ s.clk < mn → ¬ 200 ≤ (s.pages.length : Int) → R = ({ s.pl with pages := (Xn s.pages ⟨c.sp, c.nm, a, k', Jv c.hist sq c.hist.length⟩).map PGM.pl }, 0) := fun a k' h h' h'' => by
  rw [← hR, if_neg h, if_neg h', if_neg h'', J9, GK]; rfl
 clear hR
 have hcl : (Jv c.hist sq c.hist.length).length = c.hist.length := wG _ _ _
 have ci := fun a k' => KW s.pa s.pc s.pages ⟨c.sp, c.nm, a, k', Jv c.hist sq c.hist.length⟩ hl
 have hxc : ∀ a k', (PGM.mk c.sp c.nm a k' (Jv c.hist sq c.hist.length)).cells = [.i .i64 c.sp, .s c.nm, .sl a c.hist.length k'] := fun a k' => by simp only [PGM.cells]; rw [hcl]
 simp only [hxc] at ci
 refine FJ 0 func140 ntmps140 (fun G => ?_)
 repeat' first | refine Wk ?_ | refine Qa.mk (fun h => ?_) (fun h => ?_) | refine Qd.mk (fun ad => ?_) | refine Ds (id := 3) [0,1,0,4,12,28,63,127,255,0,512,2047] [0,1,2,3,4,5,6,7,8,9,10,11] [] [3,4,23] true ?_ | refine Qt.mk Qb.a ?_ | refine Qc.is cf ?_ (fun _ h => ⟨h.1.pages.row, trivial⟩) | refine Qr.a 0 6 _ (hrc _) ?_ | refine Zv.mk 0 6 _ _ (hrc _) (by omega) ?_ | refine Qi.a 0 _ _ [.i .i64 mn] (hrc _) (by exact hg) ?_ | (rw [hdup (by omega)]; refine Qe.mk [] [QG s] ⟨s, rfl, rfl, rfl, rfl⟩ (Qb.dropAll.trans (Qb.facts fun _ h => ⟨h.1, trivial⟩))) | (rw [hrng (by omega) (by omega)]; refine Qe.mk [] [QG s] ⟨s, rfl, rfl, rfl, rfl⟩ (Qb.dropAll.trans (Qb.facts fun _ h => ⟨h.1, trivial⟩))) | (rw [hfull (by omega) (by omega) (by omega)]; refine Qe.mk [] [QG s] ⟨s, rfl, rfl, rfl, rfl⟩ (Qb.dropAll.trans (Qb.facts fun _ h => ⟨h.1, trivial⟩))) | refine QK.nil (Zb c.hist) c.hist.length rfl rfl rfl (QJ.sl 0 73 _ _ _ _ _ rfl rfl (hrc _) (kW _)) (by dsimp only; omega) (fun a1 k1 => ?_)
 rename_i ad0 ad1 _ _
 refine Qn (α := Nat) (fun i => [(2, .c (.i .i64 sq)), (3, .c (.p 0 ad0 0)), (4, .c (.p 1 ad1 0)), (6, .c (.p 2 ad 0)), (8, .c (.sl a1 c.hist.length k1)), (9, .c (.i .i64 i))]) (fun i => [.row 73 6 a1 c.hist.length k1 (Zb (Jv c.hist sq i)), .box 2 ad 27 STM.nil.cells, .box 1 ad1 64 c.cells, .box 0 ad0 27 s.cells]) (fun _ => [QG s, Yy c]) 3
  (fun i => i ≤ c.hist.length) (fun i => c.hist.length - i) (Qq.mk 0 (Nat.zero_le _) Qh.a (Qb.refl _ _)) (fun i hi => ?_)
 by_cases hlt : i < c.hist.length
 ·have hst := GJ (sq := sq) hlt
  repeat' first | refine Wk ?_ | refine Qa.mk (fun h => ?_) (fun h => ?_) | refine Qd.mk (fun ad => ?_) | refine Qr.a 73 6 _ (.inl ⟨_, QT⟩) ?_ | refine Zv.mk 73 6 c.hist.length _ (.inl ⟨_, QT⟩) (by omega) ?_ | refine Xp.mk [] _ _ _ _ _ _ rfl (by omega) (by omega) (Nat.le_of_ble_eq_true rfl) (by exact hst) ?_ | refine Qo.mk (i + 1) (by omega) (by omega) Qh.a (Qb.refl _ _)
 ·have hil : i = c.hist.length := by omega
  subst hil
  repeat' first | refine Wk ?_ | refine Qa.mk (fun h => ?_) (fun h => ?_) | refine Qd.mk (fun ad => ?_) | refine Qc.mk [] _ [_] _ (ci _ _) QW (fun _ h => ⟨⟨h.1.room.pages, h.1.pages.row⟩, trivial⟩) (fun v L' D' hq => ?_); obtain ⟨a2, k2, rfl, rfl, rfl⟩ := hq | (rw [hnew a1 k1 (by omega) (by omega) (by omega)]; refine Qe.mk [] [QG _] ⟨⟨s.seq, s.clk, a2, k2, Xn s.pages ⟨c.sp, c.nm, a1, k1, Jv c.hist sq c.hist.length⟩, s.ga, s.gc, s.gone, s.qa, s.qc, s.props, s.proposed, s.wa, s.wc, s.watches, s.la, s.lc, s.lasts⟩, rfl, rfl, rfl, rfl⟩ ((Qb.ofSub (L0 := [.row 73 6 a1 c.hist.length k1 (Zb (Jv c.hist sq c.hist.length))]) (by repeat (first | exact List.Sublist.slnil | refine List.Sublist.cons_cons _ ?_ | refine List.Sublist.cons _ ?_)) (fun _ h => h)).trans (Qb.toFact.trans (Qb.facts fun _ h => ⟨h.2.2.1.pgs h.2.1.1 ⟨h.2.1.2, h.2.2.1.pages.his.ins (by dsimp only; rw [hcl]; exact h.1)⟩, trivial⟩))))
theorem UQ (s : STM) (c : CHM) (hs : Vs s) (h0 : 0 ≤ s.proposed) : FnS prog 142 [.agg s.cells, .agg c.cells] [] [QG s] (Kz (Jc s.pl c.pl)) := by
 have hrd : ∀ L, Qp L [QG s] 0 8 s.qa s.props.length (XI s.props) := fun L => .inr fun m h => h.1.props
 have hl := hs.props
 generalize hR : Jc s.pl c.pl = R
 unfold Jc at hR
 have hfull : 40 ≤ (s.props.length : Int) ∨ 1073741824 ≤ s.proposed → R = (s.pl, 8) := fun h => by rw [← hR]; exact if_pos h
 have hnew : ¬ (40 ≤ (s.props.length : Int) ∨ 1073741824 ≤ s.proposed) → R = ({ s.pl with proposed := s.proposed + 1, props := s.props ++ [⟨s.proposed + 1, c.user, c.note, c.sp, c.nm, c.n, c.text, s.clk⟩] }, 0) := fun h => by rw [← hR]; exact if_neg h
 clear hR
 have hap : XI s.props ++ [.i .i64 (s.proposed + 1), .s c.user, .s c.note, .i .i64 c.sp, .s c.nm, .i .i64 c.n, .s c.text, .i .i64 s.clk] = XI (s.props ++ [⟨s.proposed + 1, c.user, c.note, c.sp, c.nm, c.n, c.text, s.clk⟩]) := by simp [XI, PP.cells]
 have hln : s.props.length + 1 = (s.props ++ [(⟨s.proposed + 1, c.user, c.note, c.sp, c.nm, c.n, c.text, s.clk⟩ : PP)]).length := by simp
 refine FJ 0 func142 ntmps142 (fun G => ?_)
 repeat' first | refine Wk ?_ | refine Qa.mk (fun h => ?_) (fun h => ?_) | refine Qd.mk (fun ad => ?_) | refine ZF (id := 5) tyOK (by kernel_rfl) [0, 1, 3, 0, 8, 31, 63, 127] [0, 1, 3] 2 [4, 5, 6, 7] 4 [2, 5, 6, 7] [2, 4, 5, 7] [2, 6] 7 false (by kernel_rfl) ?_ | refine X3.mk ?_ ?_ | refine Qt.mk Qb.a ?_ | (rw [hfull (by omega)]; refine Qe.mk [] [QG s] ⟨s, rfl, rfl, rfl, rfl⟩ Qb.dropAll) | refine QK.nil (XI s.props) s.props.length rfl rfl rfl (QJ.sl 0 122 _ _ _ _ _ rfl rfl (hrd _) (xC _)) (by dsimp only; omega) (fun a1 k1 => ?_) | refine QK.row [_] _ (XI s.props) [.i .i64 (s.proposed + 1), .s c.user, .s c.note, .i .i64 c.sp, .s c.nm, .i .i64 c.n, .s c.text, .i .i64 s.clk] 1 rfl (QJ.sl 122 122 _ _ 1 1 _ rfl rfl (.inl ⟨1, QT⟩) rfl) (by dsimp only; omega) (fun a2 k2 => ?_); rw [hap, hln] | refine QK.row [] _ (XI s.props) [.i .i64 (s.proposed + 1), .s c.user, .s c.note, .i .i64 c.sp, .s c.nm, .i .i64 c.n, .s c.text, .i .i64 s.clk] 1 rfl (QJ.sl 122 122 _ _ 1 1 _ rfl rfl (.inl ⟨1, ZR⟩) rfl) (by dsimp only; omega) (fun a2 k2 => ?_); rw [hap, hln] | (rw [hnew (by omega)]; refine Qe.mk [] [QG _] ⟨⟨s.seq, s.clk, s.pa, s.pc, s.pages, s.ga, s.gc, s.gone, a2, k2, s.props ++ [⟨s.proposed + 1, c.user, c.note, c.sp, c.nm, c.n, c.text, s.clk⟩], s.proposed + 1, s.wa, s.wc, s.watches, s.la, s.lc, s.lasts⟩, rfl, rfl, rfl, rfl⟩ ((Qb.ofSub (L0 := [.row 122 8 a2 (s.props ++ [(⟨s.proposed + 1, c.user, c.note, c.sp, c.nm, c.n, c.text, s.clk⟩ : PP)]).length k2 (XI (s.props ++ [⟨s.proposed + 1, c.user, c.note, c.sp, c.nm, c.n, c.text, s.clk⟩]))]) (by repeat (first | exact List.Sublist.slnil | refine List.Sublist.cons_cons _ ?_ | refine List.Sublist.cons _ ?_)) (fun _ h => h)).trans (Qb.toFactC.trans (Qb.facts fun _ h => ⟨h.2.1.prs h.1.1 h.1.2, trivial⟩))))
theorem PC (s : STM) (c : CHM) (hs : Vs s) : FnS prog 143 [.agg s.cells, .agg c.cells] [] [QG s] (Kz (WA s.pl c.pl)) := by
 have hrd : ∀ L, Qp L [QG s] 0 8 s.qa s.props.length (XI s.props) := fun L => .inr fun m h => h.1.props
 have hl := hs.props
 generalize hR : WA s.pl c.pl = R
 unfold WA at hR
 have hq : s.props.filter (fun p => !decide (p.id = c.n)) = (s.props.take s.props.length).filter (Gs c.n) := by rw [List.take_length]; rfl
 have hnone : (((s.props.take s.props.length).filter (Gs c.n)).length : Int) = s.props.length → R = (s.pl, 4) := fun h => by
  rw [← hq] at h
  rw [← hR]
  exact if_pos (by exact_mod_cast h)
 have hnew : ¬ (((s.props.take s.props.length).filter (Gs c.n)).length : Int) = s.props.length → R = ({ s.pl with props := (s.props.take s.props.length).filter (Gs c.n) }, 0) := fun h => by
  rw [← hq] at h ⊢
  rw [← hR]
  exact if_neg (fun e => h (by exact_mod_cast e))
 clear hR hq
 refine FJ 0 func143 ntmps143 (fun G => ?_)
 repeat' first | refine Wk ?_ | refine Qa.mk (fun h => ?_) (fun h => ?_) | refine Qd.mk (fun ad => ?_)
 rename_i ad0 ad1
 refine Qn (α := Nat × Option Addr × Nat) (fun x => [(2, .c (.p 0 ad0 0)), (3, .c (.p 1 ad1 0)), (4, .c (.p 2 ad 0)), (6, .c (.sl x.2.1 ((s.props.take x.1).filter (Gs c.n)).length x.2.2)), (7, .c (.i .i64 x.1))]) (fun x => [.row 122 8 x.2.1 ((s.props.take x.1).filter (Gs c.n)).length x.2.2 (XI ((s.props.take x.1).filter (Gs c.n))), .box 2 ad 27 STM.nil.cells, .box 1 ad1 64 c.cells, .box 0 ad0 27 s.cells]) (fun _ => [QG s]) 3
  (fun x => x.1 ≤ s.props.length) (fun x => s.props.length - x.1) (Qq.mk (0, none, 0) (Nat.zero_le _) Qh.a (Qb.nilRow (ety := 122) (esz := 8))) (fun x hi => ?_)
 obtain ⟨i, a1, c1⟩ := x
 dsimp only at hi ⊢
 have hfl := VC (Gs c.n) s.props i
 by_cases hlt : i < s.props.length
 ·have hg := zG hlt
  have hg2 := pp_id hlt
  have hss := YB (q := Gs c.n) hlt
  have hd : Gs c.n s.props[i] = !decide (s.props[i].id = c.n) := rfl
  have hyes : ¬ s.props[i].id = c.n → ((s.props.take i).filter (Gs c.n)).length + 1 = ((s.props.take (i + 1)).filter (Gs c.n)).length ∧ XI ((s.props.take i).filter (Gs c.n)) ++ s.props[i].cells = XI ((s.props.take (i + 1)).filter (Gs c.n)) := fun h => by
   rw [hss, hd, decide_eq_false h]
   exact ⟨by simp, by simp [XI]⟩
  have hno : s.props[i].id = c.n → (s.props.take (i + 1)).filter (Gs c.n) = (s.props.take i).filter (Gs c.n) := fun h => by
   rw [hss, hd, decide_eq_true h]; simp
  clear hss hd
  generalize s.props[i] = y at *
  repeat' first | refine Wk ?_ | refine Qa.mk (fun h => ?_) (fun h => ?_) | refine Qd.mk (fun ad => ?_) | refine Ds (id := 5) [0,1,0,7,15,31,0,64,255] [0,1,2,3,4,5,6,7,8] [] [2,3,18] true ?_ | refine Qt.mk Qb.a ?_ | refine Qr.a 0 8 _ (hrd _) ?_ | refine Zv.mk 0 8 _ _ (hrd _) (by omega) ?_ | refine Qi.a 0 _ _ [.i .i64 y.id] (hrd _) (by exact hg2) ?_ | refine Qi.a 0 _ _ y.cells (hrd _) (by exact hg) ?_ | refine QK.row [_] _ (XI ((s.props.take i).filter (Gs c.n))) y.cells 1 rfl (QJ.sl 122 122 _ _ 1 1 _ rfl rfl (.inl ⟨1, QT⟩) rfl) (by dsimp only; omega) (fun a' c' => ?_); rw [(hyes (by assumption)).1, (hyes (by assumption)).2] | refine Qo.mk (i + 1, a', c') (by dsimp only; omega) (by dsimp only; omega) Qh.a Qb.a | refine Qo.mk (i + 1, a1, c1) (by dsimp only; omega) (by dsimp only; omega) (by dsimp only; rw [hno (by assumption)]; repeat' first | exact Qh.nil | refine Qh.cons rfl ?_ ?_ | exact ZB.refl _ | refine ZB.int (by omega) | refine ZB.sl rfl (by first | rfl | omega | (rw [List.length_append]; rfl) | (simp; omega)) rfl) (by dsimp only; rw [hno (by assumption)]; exact Qb.a)
 ·have hil : i = s.props.length := by omega
  subst hil
  generalize (s.props.take s.props.length).filter (Gs c.n) = W at *
  repeat' first | refine Wk ?_ | refine Qa.mk (fun h => ?_) (fun h => ?_) | refine Qd.mk (fun ad => ?_) | (rw [hnone (by assumption)]; refine Qe.mk [] [QG s] ⟨s, rfl, rfl, rfl, rfl⟩ Qb.dropAll) | (rw [hnew (by assumption)]; refine Qe.mk [] [QG _] ⟨⟨s.seq, s.clk, s.pa, s.pc, s.pages, s.ga, s.gc, s.gone, a1, c1, W, s.proposed, s.wa, s.wc, s.watches, s.la, s.lc, s.lasts⟩, rfl, rfl, rfl, rfl⟩ ((Qb.ofSub (L0 := [.row 122 8 a1 W.length c1 (XI W)]) (by repeat (first | exact List.Sublist.slnil | refine List.Sublist.cons_cons _ ?_ | refine List.Sublist.cons _ ?_)) (fun _ h => h)).trans (Qb.toFactC.trans (Qb.facts fun _ h => ⟨h.2.1.prs h.1.1 h.1.2, trivial⟩))))
end Go.Proofs
