/- This text walks through the functions watch, kind, forbidden, noted of the reference of chapter 27. -/
import Derived.Test.YtcddpbpbebkdmaaGreatDoorK08
import Derived.Test.YtcddpbpbebkdmaaGreatDoorK09
import Derived.Test.YtcddpbpbebkdmaaGreatDoorK06
set_option linter.all false
namespace Go.X
open Go Go.Lib
theorem YA.wts {m : Im} {s : STM} {a : Option Addr} {c : Nat} {l : List WT} (h : YA m s) (h1 : l.length ≤ c) (h2 : Z8 m 0 3 a l.length (ZM l)) : YA m ⟨s.seq, s.clk, s.pa, s.pc, s.pages, s.ga, s.gc, s.gone, s.qa, s.qc, s.props, s.proposed, a, c, l, s.la, s.lc, s.lasts⟩ :=
 ⟨h.pages, h.gone, h.props, h2, h.lasts, ⟨h.room.pages, h.room.gone, h.room.props, h1, h.room.lasts⟩⟩
theorem YA.lss {m : Im} {s : STM} {a : Option Addr} {c : Nat} {l : List LU} (h : YA m s) (h1 : l.length ≤ c) (h2 : Z8 m 0 2 a l.length (ZV l)) : YA m ⟨s.seq, s.clk, s.pa, s.pc, s.pages, s.ga, s.gc, s.gone, s.qa, s.qc, s.props, s.proposed, s.wa, s.wc, s.watches, a, c, l⟩ :=
 ⟨h.pages, h.gone, h.props, h.watches, h2, ⟨h.room.pages, h.room.gone, h.room.props, h.room.watches, h1⟩⟩
theorem YA.clk {m : Im} {s : STM} {k q : Int} (h : YA m s) : YA m ⟨q, k, s.pa, s.pc, s.pages, s.ga, s.gc, s.gone, s.qa, s.qc, s.props, s.proposed, s.wa, s.wc, s.watches, s.la, s.lc, s.lasts⟩ :=
 ⟨h.pages, h.gone, h.props, h.watches, h.lasts, ⟨h.room.pages, h.room.gone, h.room.props, h.room.watches, h.room.lasts⟩⟩
theorem wt_ext {x y : WT} (h : x.user = y.user ∧ x.sp = y.sp ∧ x.nm = y.nm ∧ True) : x = y := by
 obtain ⟨a, b, c⟩ := x
 obtain ⟨a', b', c'⟩ := y
 obtain ⟨h1, h2, h3, _⟩ := h
 dsimp only at h1 h2 h3
 subst h1 h2 h3
 rfl
theorem RG {l : List WT} {i : Nat} (h : i < l.length) : ZM (l.take (i + 1)) = ZM (l.take i) ++ l[i].cells := by
 rw [List.take_succ_eq_append_getElem h, ZM, List.flatMap_append, List.flatMap_cons, List.flatMap_nil, List.append_nil]; rfl
theorem SG {l : List LU} {i : Nat} (h : i < l.length) : ZV (l.take (i + 1)) = ZV (l.take i) ++ l[i].cells := by
 rw [List.take_succ_eq_append_getElem h, ZV, List.flatMap_append, List.flatMap_cons, List.flatMap_nil, List.append_nil]; rfl
theorem O9 {α : Type} {l : List α} {i : Nat} (h : i < l.length) : (l.drop i).head? = some l[i] := by
 rw [List.drop_eq_getElem_cons h]; rfl
theorem O7 {α : Type} (l : List α) (i : Nat) : (l.drop i).tail = l.drop (i + 1) := by
 rw [List.tail_drop]
end Go.X
namespace Go.Proofs
open Go Go.X Tryz
set_option maxRecDepth 100000
set_option maxHeartbeats 4000000
theorem Tg (s : STM) (c : CHM) (hs : Vs s) : FnS prog 141 [.agg s.cells, .agg c.cells] [] [QG s] (Kz (Xm s.pl c.pl)) := by
 have hrd : ∀ L, Qp L [QG s] 0 3 s.wa s.watches.length (ZM s.watches) := fun L => .inr fun m h => h.1.watches
 have hl := hs.watches
 generalize hR : Xm s.pl c.pl = R
 unfold Xm at hR
 dsimp only at hR
 rw [show s.pl.watches = s.watches from rfl, show c.pl.kind = c.kind from rfl, show (⟨c.pl.user, c.pl.sp, c.pl.nm⟩ : WT) = (WT.mk c.user c.sp c.nm) from rfl] at hR
 refine FJ 0 func141 ntmps141 (fun G => ?_)
 refine Gq (fun m h => h.1.room.watches) (fun hnc => ?_)
 repeat' first | refine Wk ?_ | refine Qa.mk (fun h => ?_) (fun h => ?_) | refine Qd.mk (fun ad => ?_)
 rename_i ad0 ad1 ad2
 refine Qn (α := Nat × Option Addr × Nat) (fun x => [(2, .c (.p 0 ad0 0)), (3, .c (.p 1 ad1 0)), (4, .c (.p 2 ad2 0)), (6, .c (.p 3 ad 0)), (7, .c (.sl x.2.1 x.1 x.2.2)), (8, .c (.i .i64 x.1))]) (fun x => [.row 69 3 x.2.1 x.1 x.2.2 (ZM (s.watches.take x.1)), .box 3 ad 69 [C.s c.user, .i .i64 c.sp, .s c.nm], .box 2 ad2 27 STM.nil.cells, .box 1 ad1 64 c.cells, .box 0 ad0 27 s.cells]) (fun _ => [QG s]) 4
  (fun x => x.1 ≤ s.watches.length ∧ ∀ j, ∀ h : j < s.watches.length, j < x.1 → kP s.watches[j] (WT.mk c.user c.sp c.nm) = true) (fun x => s.watches.length - x.1) (Qq.mk (0, none, 0) ⟨Nat.zero_le _, fun j _ h => absurd h (Nat.not_lt_zero j)⟩ Qh.a (Qb.nilRow (ety := 69) (esz := 3))) (fun x hx => ?_)
 obtain ⟨i, a1, c1⟩ := x
 dsimp only at hx ⊢
 obtain ⟨hi, hn⟩ := hx
 have hend : (∀ h : i < s.watches.length, kP s.watches[i] (WT.mk c.user c.sp c.nm) = false) → (if c.kind = 8 then (if (s.watches.drop i).head? = some (WT.mk c.user c.sp c.nm) then ({ s.pl with watches := s.watches.take i ++ s.watches.drop (i + 1) }, 0) else (s.pl, 4)) else if (s.watches.drop i).head? = some (WT.mk c.user c.sp c.nm) then (s.pl, 5) else if 100 ≤ (s.watches.length : Int) then (s.pl, 8) else ({ s.pl with watches := s.watches.take i ++ (WT.mk c.user c.sp c.nm) :: s.watches.drop i }, (0 : Int))) = R := fun h => by
  obtain ⟨e1, e2⟩ := UD (lt := fun x => kP x (WT.mk c.user c.sp c.nm)) hi hn h
  rw [← hR, e1, e2, O7]
 clear hR
 have hone : (s.watches.take i ++ (WT.mk c.user c.sp c.nm) :: s.watches.drop i).length = i + 1 + (s.watches.length - i) ∧ ZM (s.watches.take i ++ (WT.mk c.user c.sp c.nm) :: s.watches.drop i) = ZM (s.watches.take i) ++ (WT.mk c.user c.sp c.nm).cells ++ ZM (s.watches.drop i) := ⟨by simp; omega, by simp [ZM]⟩
 have hto : i < s.watches.length → (s.watches.take i ++ s.watches.drop (i + 1)).length = i + (s.watches.length - (i + 1)) ∧ ZM (s.watches.take i ++ s.watches.drop (i + 1)) = ZM (s.watches.take i) ++ ZM (s.watches.drop (i + 1)) := fun h => ⟨by simp; omega, by simp [ZM]⟩
 by_cases hlt : i < s.watches.length
 ·have hg := VH hlt
  have cb := Um s.watches[i] (WT.mk c.user c.sp c.nm)
  have hsn := RG hlt
  rw [O9 hlt] at hend
  have hto := hto hlt
  cases hb : kP s.watches[i] (WT.mk c.user c.sp c.nm) with
  | true =>
   have hnext : ∀ j, ∀ h : j < s.watches.length, j < i + 1 → kP s.watches[j] (WT.mk c.user c.sp c.nm) = true := fun j hj hji => by
    by_cases e : j = i
    ·subst e; exact hb
    ·exact hn j hj (by omega)
   rw [hb] at cb
   clear hend hto hone
   generalize s.watches[i] = y at *
   repeat' first | refine Wk ?_ | refine Qa.mk (fun h => ?_) (fun h => ?_) | refine Qd.mk (fun ad => ?_) | refine Ds (id := 4) [0,0,2,6,15,31,63,127,63,511,1023,63,4095,8191] [0,1,2,3,4,5,6,7,8,9,10,11,12,13] [] [2,6,24] true ?_ | refine Ds (id := 7) [0,0,2,6,15,31,63,127,63,511,1023,63,4095,8191,16383] [0,1,2,3,4,5,6,7,8,9,10,11,12,13,14] [] [2,6,48] true ?_ | refine Dz (id := 17) [0,0,2,7,0,16,0,112,255,511,1023] [0,1,4,5,6,7,2,3,8,9,10] [2,3,8,10] [2,6] 10 false ?_ | refine Qt.mk Qb.a ?_ | refine Qr.a 0 3 _ (hrd _) ?_ | refine Zv.mk 0 3 _ _ (hrd _) (by omega) ?_ | refine Qi.a 0 _ _ y.cells (hrd _) (by exact hg) ?_ | refine Qx.mk [] _ cb QX ?_ | refine QK.row [_] _ (ZM (s.watches.take i)) y.cells 1 rfl (QJ.sl 69 69 _ _ 1 1 _ rfl rfl (.inl ⟨1, QT⟩) rfl) (by dsimp only; omega) (fun a' c' => ?_); rw [← hsn] | refine Qo.mk (i + 1, a', c') (by dsimp only; omega) ⟨by dsimp only; omega, hnext⟩ Qh.a Qb.a
  | false =>
   have hend := hend fun _ => hb
   rw [hb] at cb
   have hd8 : c.kind = 8 → s.watches[i] = (WT.mk c.user c.sp c.nm) → R = ({ s.pl with watches := s.watches.take i ++ s.watches.drop (i + 1) }, 0) := fun h h' => by rw [← hend, if_pos h, if_pos (by rw [h'])]
   have hn8 : c.kind = 8 → ¬ s.watches[i] = (WT.mk c.user c.sp c.nm) → R = (s.pl, 4) := fun h h' => by rw [← hend, if_pos h, if_neg (fun e => h' (Option.some.inj e))]
   have hd7 : ¬ c.kind = 8 → s.watches[i] = (WT.mk c.user c.sp c.nm) → R = (s.pl, 5) := fun h h' => by rw [← hend, if_neg h, if_pos (by rw [h'])]
   have hf7 : ¬ c.kind = 8 → ¬ s.watches[i] = (WT.mk c.user c.sp c.nm) → 100 ≤ (s.watches.length : Int) → R = (s.pl, 8) := fun h h' h'' => by rw [← hend, if_neg h, if_neg (fun e => h' (Option.some.inj e)), if_pos h'']
   have hn7 : ¬ c.kind = 8 → ¬ s.watches[i] = (WT.mk c.user c.sp c.nm) → ¬ 100 ≤ (s.watches.length : Int) → R = ({ s.pl with watches := s.watches.take i ++ (WT.mk c.user c.sp c.nm) :: s.watches.drop i }, 0) := fun h h' h'' => by rw [← hend, if_neg h, if_neg (fun e => h' (Option.some.inj e)), if_neg h'']
   clear hend hn hsn
   by_cases hyw : s.watches[i] = (WT.mk c.user c.sp c.nm)
   ·have gd8 := fun h => hd8 h hyw
    have gd7 := fun h => hd7 h hyw
    rw [hyw] at hg cb
    clear hd8 hd7 hn8 hf7 hn7 hyw hone
    generalize hWW : s.watches.take i ++ s.watches.drop (i + 1) = W at *
    repeat' first | exact absurd (show c.user = c.user ∧ (c.sp = c.sp ∧ c.nm = c.nm ∧ True) ∧ True from ⟨rfl, ⟨rfl, rfl, trivial⟩, trivial⟩) (by assumption) | refine Wk ?_ | refine Qa.mk (fun h => ?_) (fun h => ?_) | refine Qd.mk (fun ad => ?_) | refine Ds (id := 4) [0,0,2,6,15,31,63,127,63,511,1023,63,4095,8191] [0,1,2,3,4,5,6,7,8,9,10,11,12,13] [] [2,6,24] true ?_ | refine Ds (id := 7) [0,0,2,6,15,31,63,127,63,511,1023,63,4095,8191,16383] [0,1,2,3,4,5,6,7,8,9,10,11,12,13,14] [] [2,6,48] true ?_ | refine Dz (id := 17) [0,0,2,7,0,16,0,112,255,511,1023] [0,1,4,5,6,7,2,3,8,9,10] [2,3,8,10] [2,6] 10 false ?_ | refine Qt.mk Qb.a ?_ | refine Qr.a 0 3 _ (hrd _) ?_ | refine Zv.mk 0 3 _ _ (hrd _) (by omega) ?_ | refine Qi.a 0 _ _ (WT.mk c.user c.sp c.nm).cells (hrd _) (by exact hg) ?_ | refine Qx.mk [] _ cb QX ?_ | refine QK.row [] _ (ZM (s.watches.take i)) (ZM (s.watches.drop (i + 1))) (s.watches.length - (i + 1)) rfl (QJ.sl 0 69 _ _ _ _ _ rfl rfl (.inr fun m h => wm h.1.watches (by omega) hnc (by omega)) (z2 _ _)) (by dsimp only; omega) (fun a' c' => ?_); rw [← hto.1, ← hto.2] | (rw [gd8 (by assumption)]; refine Qe.mk [] [QG _] ⟨⟨s.seq, s.clk, s.pa, s.pc, s.pages, s.ga, s.gc, s.gone, s.qa, s.qc, s.props, s.proposed, a', c', W, s.la, s.lc, s.lasts⟩, rfl, rfl, rfl, rfl⟩ ((Qb.ofSub (L0 := [.row 69 3 a' W.length c' (ZM W)]) (by repeat (first | exact List.Sublist.slnil | refine List.Sublist.cons_cons _ ?_ | refine List.Sublist.cons _ ?_)) (fun _ h => h)).trans (Qb.toFactC.trans (Qb.facts fun _ h => ⟨h.2.1.wts h.1.1 h.1.2, trivial⟩)))) | (rw [gd7 (by assumption)]; refine Qe.mk [] [QG s] ⟨s, rfl, rfl, rfl, rfl⟩ Qb.dropAll)
   ·have gn8 := fun h => hn8 h hyw
    have gf7 := fun h => hf7 h hyw
    have gn7 := fun h => hn7 h hyw
    clear hn8 hf7 hn7
    have hne : ¬ (s.watches[i].user = c.user ∧ (s.watches[i].sp = c.sp ∧ s.watches[i].nm = c.nm ∧ True) ∧ True) := fun e => hyw (wt_ext ⟨e.1, e.2.1.1, e.2.1.2.1, trivial⟩)
    clear hd8 hd7 hyw hto
    generalize s.watches[i] = y at *
    generalize hWW : s.watches.take i ++ (WT.mk c.user c.sp c.nm) :: s.watches.drop i = W at *
    repeat' first | exact absurd (show y.user = c.user ∧ (y.sp = c.sp ∧ y.nm = c.nm ∧ True) ∧ True by assumption) hne | refine Wk ?_ | refine Qa.mk (fun h => ?_) (fun h => ?_) | refine Qd.mk (fun ad => ?_) | refine Ds (id := 4) [0,0,2,6,15,31,63,127,63,511,1023,63,4095,8191] [0,1,2,3,4,5,6,7,8,9,10,11,12,13] [] [2,6,24] true ?_ | refine Ds (id := 7) [0,0,2,6,15,31,63,127,63,511,1023,63,4095,8191,16383] [0,1,2,3,4,5,6,7,8,9,10,11,12,13,14] [] [2,6,48] true ?_ | refine Dz (id := 17) [0,0,2,7,0,16,0,112,255,511,1023] [0,1,4,5,6,7,2,3,8,9,10] [2,3,8,10] [2,6] 10 false ?_ | refine Qt.mk Qb.a ?_ | refine Qr.a 0 3 _ (hrd _) ?_ | refine Zv.mk 0 3 _ _ (hrd _) (by omega) ?_ | refine Qi.a 0 _ _ y.cells (hrd _) (by exact hg) ?_ | refine Qx.mk [] _ cb QX ?_ | refine QK.row [_] _ (ZM (s.watches.take i)) (WT.mk c.user c.sp c.nm).cells 1 rfl (QJ.sl 69 69 _ _ 1 1 _ rfl rfl (.inl ⟨1, QT⟩) rfl) (by dsimp only; omega) (fun a' c' => ?_) | refine QK.row [] _ (ZM (s.watches.take i)) (WT.mk c.user c.sp c.nm).cells 1 rfl (QJ.sl 69 69 _ _ 1 1 _ rfl rfl (.inl ⟨1, ZR⟩) rfl) (by dsimp only; omega) (fun a' c' => ?_) | refine QK.row [_] _ (ZM (s.watches.take i) ++ (WT.mk c.user c.sp c.nm).cells) (ZM (s.watches.drop i)) (s.watches.length - i) rfl (QJ.sl 0 69 _ _ _ _ _ rfl rfl (.inr fun m h => wm h.1.watches (by omega) hnc (by omega)) (z2 _ _)) (by dsimp only; omega) (fun a2 c2 => ?_); rw [← hone.1, ← hone.2] | refine QK.row [] _ (ZM (s.watches.take i) ++ (WT.mk c.user c.sp c.nm).cells) (ZM (s.watches.drop i)) (s.watches.length - i) rfl (QJ.sl 0 69 _ _ _ _ _ rfl rfl (.inr fun m h => wm h.1.watches (by omega) hnc (by omega)) (z2 _ _)) (by dsimp only; omega) (fun a2 c2 => ?_); rw [← hone.1, ← hone.2] | (rw [gn8 (by assumption)]; refine Qe.mk [] [QG s] ⟨s, rfl, rfl, rfl, rfl⟩ Qb.dropAll) | (rw [gf7 (by assumption) (by assumption)]; refine Qe.mk [] [QG s] ⟨s, rfl, rfl, rfl, rfl⟩ Qb.dropAll) | (rw [gn7 (by assumption) (by assumption)]; refine Qe.mk [] [QG _] ⟨⟨s.seq, s.clk, s.pa, s.pc, s.pages, s.ga, s.gc, s.gone, s.qa, s.qc, s.props, s.proposed, a2, c2, W, s.la, s.lc, s.lasts⟩, rfl, rfl, rfl, rfl⟩ ((Qb.ofSub (L0 := [.row 69 3 a2 W.length c2 (ZM W)]) (by repeat (first | exact List.Sublist.slnil | refine List.Sublist.cons_cons _ ?_ | refine List.Sublist.cons _ ?_)) (fun _ h => h)).trans (Qb.toFactC.trans (Qb.facts fun _ h => ⟨h.2.1.wts h.1.1 h.1.2, trivial⟩))))
 ·have hend := hend fun h => absurd h hlt
  have hdn : s.watches.drop i = [] := List.drop_eq_nil_of_le (by omega)
  rw [hdn] at hend
  have hnn : ¬ (([] : List WT).head? = some (WT.mk c.user c.sp c.nm)) := fun e => by cases e
  rw [if_neg hnn, if_neg hnn] at hend
  rw [hdn] at hone
  have hlI : s.watches.length - i = 0 := by omega
  have hn8 : c.kind = 8 → R = (s.pl, 4) := fun h => by rw [← hend, if_pos h]
  have hf7 : ¬ c.kind = 8 → 100 ≤ (s.watches.length : Int) → R = (s.pl, 8) := fun h h'' => by rw [← hend, if_neg h, if_pos h'']
  have hn7 : ¬ c.kind = 8 → ¬ 100 ≤ (s.watches.length : Int) → R = ({ s.pl with watches := s.watches.take i ++ [(WT.mk c.user c.sp c.nm)] }, 0) := fun h h'' => by rw [← hend, if_neg h, if_neg h'']
  have hone : (s.watches.take i ++ [(WT.mk c.user c.sp c.nm)]).length = i + 1 + (s.watches.length - i) ∧ ZM (s.watches.take i ++ [(WT.mk c.user c.sp c.nm)]) = ZM (s.watches.take i) ++ (WT.mk c.user c.sp c.nm).cells ++ ZM (s.watches.drop i) := by rw [hdn]; exact hone
  clear hend hn
  generalize hWW : s.watches.take i ++ [(WT.mk c.user c.sp c.nm)] = W at *
  repeat' first | refine Wk ?_ | refine Qa.mk (fun h => ?_) (fun h => ?_) | refine Qd.mk (fun ad => ?_) | refine Ds (id := 4) [0,0,2,6,15,31,63,127,63,511,1023,63,4095,8191] [0,1,2,3,4,5,6,7,8,9,10,11,12,13] [] [2,6,24] true ?_ | refine Ds (id := 7) [0,0,2,6,15,31,63,127,63,511,1023,63,4095,8191,16383] [0,1,2,3,4,5,6,7,8,9,10,11,12,13,14] [] [2,6,48] true ?_ | refine Dz (id := 17) [0,0,2,7,0,16,0,112,255,511,1023] [0,1,4,5,6,7,2,3,8,9,10] [2,3,8,10] [2,6] 10 false ?_ | refine Qt.mk Qb.a ?_ | refine QK.row [_] _ (ZM (s.watches.take i)) (WT.mk c.user c.sp c.nm).cells 1 rfl (QJ.sl 69 69 _ _ 1 1 _ rfl rfl (.inl ⟨1, QT⟩) rfl) (by dsimp only; omega) (fun a' c' => ?_) | refine QK.row [] _ (ZM (s.watches.take i)) (WT.mk c.user c.sp c.nm).cells 1 rfl (QJ.sl 69 69 _ _ 1 1 _ rfl rfl (.inl ⟨1, ZR⟩) rfl) (by dsimp only; omega) (fun a' c' => ?_) | refine QK.row [_] _ (ZM (s.watches.take i) ++ (WT.mk c.user c.sp c.nm).cells) (ZM (s.watches.drop i)) (s.watches.length - i) rfl (QJ.sl 0 69 _ _ _ _ _ rfl rfl (.inr fun m h => wm h.1.watches (by omega) hnc (by omega)) (z2 _ _)) (by dsimp only; omega) (fun a2 c2 => ?_); rw [← hone.1, ← hone.2] | refine QK.row [] _ (ZM (s.watches.take i) ++ (WT.mk c.user c.sp c.nm).cells) (ZM (s.watches.drop i)) (s.watches.length - i) rfl (QJ.sl 0 69 _ _ _ _ _ rfl rfl (.inr fun m h => wm h.1.watches (by omega) hnc (by omega)) (z2 _ _)) (by dsimp only; omega) (fun a2 c2 => ?_); rw [← hone.1, ← hone.2] | (rw [hn8 (by assumption)]; refine Qe.mk [] [QG s] ⟨s, rfl, rfl, rfl, rfl⟩ Qb.dropAll) | (rw [hf7 (by assumption) (by assumption)]; refine Qe.mk [] [QG s] ⟨s, rfl, rfl, rfl, rfl⟩ Qb.dropAll) | (rw [hn7 (by assumption) (by assumption)]; refine Qe.mk [] [QG _] ⟨⟨s.seq, s.clk, s.pa, s.pc, s.pages, s.ga, s.gc, s.gone, s.qa, s.qc, s.props, s.proposed, a2, c2, W, s.la, s.lc, s.lasts⟩, rfl, rfl, rfl, rfl⟩ ((Qb.ofSub (L0 := [.row 69 3 a2 W.length c2 (ZM W)]) (by repeat (first | exact List.Sublist.slnil | refine List.Sublist.cons_cons _ ?_ | refine List.Sublist.cons _ ?_)) (fun _ h => h)).trans (Qb.toFactC.trans (Qb.facts fun _ h => ⟨h.2.1.wts h.1.1 h.1.2, trivial⟩))))
end Go.Proofs
namespace Go.X
open Go Go.Lib
end Go.X
namespace Go.Proofs
open Go Go.X Tryz
set_option maxRecDepth 100000
set_option maxHeartbeats 4000000
theorem TS (s : STM) (u : Bs) (sq : Int) (hs : Vs s) : FnS prog 92 [.agg s.cells, .c (.s u), .c (.i .i64 sq)] [] [QG s] (Kz (Q9 s.pl u sq)) := by
 have hrd : ∀ L, Qp L [QG s] 0 2 s.la s.lasts.length (ZV s.lasts) := fun L => .inr fun m h => h.1.lasts
 have hl := hs.lasts
 generalize hR : Q9 s.pl u sq = R
 unfold Q9 at hR
 dsimp only at hR
 rw [show s.pl.lasts = s.lasts from rfl] at hR
 by_cases hu : u = []
 ·rw [if_pos hu] at hR
  subst hR hu
  refine FJ 0 func92 ntmps92 (fun G => ?_)
  repeat' first | exact absurd (rfl : ([] : Bs) = []) (by assumption) | refine Wk ?_ | refine Qa.mk (fun h => ?_) (fun h => ?_) | refine Qd.mk (fun ad => ?_) | refine Qe.mk [] [QG s] ⟨s, rfl, rfl, rfl, rfl⟩ Qb.dropAll
 rw [if_neg hu] at hR
 refine FJ 0 func92 ntmps92 (fun G => ?_)
 refine Gq (fun m h => h.1.room.lasts) (fun hnc => ?_)
 repeat' first | exact absurd (by assumption) hu | refine Wk ?_ | refine Qa.mk (fun h => ?_) (fun h => ?_) | refine Qd.mk (fun ad => ?_)
 rename_i ad0
 refine Qn (α := Nat × Option Addr × Nat) (fun x => [(1, .c (.s u)), (2, .c (.i .i64 sq)), (3, .c (.p 0 ad0 0)), (6, .c (.p 1 ad 0)), (8, .c (.sl x.2.1 x.1 x.2.2)), (9, .c (.i .i64 x.1))]) (fun x => [.row 103 2 x.2.1 x.1 x.2.2 (ZV (s.lasts.take x.1)), .box 1 ad 27 STM.nil.cells, .box 0 ad0 27 s.cells]) (fun _ => [QG s]) 2
  (fun x => x.1 ≤ s.lasts.length ∧ ∀ j, ∀ h : j < s.lasts.length, j < x.1 → U6 s.lasts[j].user u = true) (fun x => s.lasts.length - x.1) (Qq.mk (0, none, 0) ⟨Nat.zero_le _, fun j _ h => absurd h (Nat.not_lt_zero j)⟩ Qh.a (Qb.nilRow (ety := 103) (esz := 2))) (fun x hx => ?_)
 obtain ⟨i, a1, c1⟩ := x
 dsimp only at hx ⊢
 obtain ⟨hi, hn⟩ := hx
 have hend : (∀ h : i < s.lasts.length, U6 s.lasts[i].user u = false) → (if ((s.lasts.drop i).head?.map (·.user)) = some u then ({ s.pl with lasts := s.lasts.take i ++ ⟨u, sq⟩ :: s.lasts.drop (i + 1) }, 0) else if 60 ≤ (s.lasts.length : Int) then (s.pl, 8) else ({ s.pl with lasts := s.lasts.take i ++ ⟨u, sq⟩ :: s.lasts.drop i }, (0 : Int))) = R := fun h => by
  obtain ⟨e1, e2⟩ := UD (lt := fun x : LU => U6 x.user u) hi hn h
  rw [← hR, e1, e2, O7]
 clear hR
 have hone : ∀ k, i ≤ k → k ≤ s.lasts.length → (s.lasts.take i ++ (⟨u, sq⟩ : LU) :: s.lasts.drop k).length = i + 1 + (s.lasts.length - k) ∧ ZV (s.lasts.take i ++ ⟨u, sq⟩ :: s.lasts.drop k) = ZV (s.lasts.take i) ++ [.s u, .i .i64 sq] ++ ZV (s.lasts.drop k) := fun k h1 h2 => ⟨by simp; omega, by simp [ZV, LU.cells]⟩
 by_cases hlt : i < s.lasts.length
 ·have hg := zL hlt
  have hgu := OT hlt
  have hsn := SG hlt
  have hlc := YL s.lasts[i].user u
  have hlr := Ky s.lasts[i].user u
  have hlb : U6 s.lasts[i].user u = decide (Lib.compareBytes s.lasts[i].user u < 0) := rfl
  rw [O9 hlt] at hend
  cases hb : U6 s.lasts[i].user u with
  | true =>
   have hnext : ∀ j, ∀ h : j < s.lasts.length, j < i + 1 → U6 s.lasts[j].user u = true := fun j hj hji => by
    by_cases e : j = i
    ·subst e; exact hb
    ·exact hn j hj (by omega)
   have hlt2 := hlc.2 (by rw [hlb] at hb; have := of_decide_eq_true hb; omega)
   clear hend hone hlc hlb hlr hb
   generalize s.lasts[i] = y at *
   repeat' first | exact absurd hlt2 (by assumption) | refine Wk ?_ | refine Qa.mk (fun h => ?_) (fun h => ?_) | refine Qd.mk (fun ad => ?_) | refine Qr.a 0 2 _ (hrd _) ?_ | refine Zv.mk 0 2 _ _ (hrd _) (by omega) ?_ | refine Qi.a 0 _ _ y.cells (hrd _) (by exact hg) ?_ | refine Qi.a 0 _ _ [.s y.user] (hrd _) (by exact hgu) ?_ | refine QK.row [_] _ (ZV (s.lasts.take i)) y.cells 1 rfl (QJ.sl 103 103 _ _ 1 1 _ rfl rfl (.inl ⟨1, QT⟩) rfl) (by dsimp only; omega) (fun a' c' => ?_); rw [← hsn] | refine Qo.mk (i + 1, a', c') (by dsimp only; omega) ⟨by dsimp only; omega, hnext⟩ Qh.a Qb.a
  | false =>
   have hend2 := hend fun _ => hb
   clear hend
   have hlt2 : ¬ Op.bytesLess s.lasts[i].user u = true := fun e => by have h1 := hlc.1 e; rw [hlb] at hb; have := of_decide_eq_false hb; omega
   clear hlc hlb hlr hb hn hsn
   by_cases hyw : s.lasts[i].user = u
   ·have hd : R = ({ s.pl with lasts := s.lasts.take i ++ ⟨u, sq⟩ :: s.lasts.drop (i + 1) }, 0) := by rw [← hend2, if_pos (by rw [Option.map_some, hyw])]
    have hone := hone (i + 1) (by omega) (by omega)
    clear hend2
    generalize s.lasts[i] = y at *
    generalize s.lasts.take i ++ (⟨u, sq⟩ : LU) :: s.lasts.drop (i + 1) = W at *
    subst hd
    repeat' first | first | exact absurd (by assumption) hlt2 | exact absurd hyw (by assumption) | refine Wk ?_ | refine Qa.mk (fun h => ?_) (fun h => ?_) | refine Qd.mk (fun ad => ?_) | refine Qr.a 0 2 _ (hrd _) ?_ | refine Zv.mk 0 2 _ _ (hrd _) (by omega) ?_ | refine Qi.a 0 _ _ [.s y.user] (hrd _) (by exact hgu) ?_ | refine QK.row [_] _ (ZV (s.lasts.take i)) [.s u, .i .i64 sq] 1 rfl (QJ.sl 103 103 _ _ 1 1 _ rfl rfl (.inl ⟨1, QT⟩) rfl) (by dsimp only; omega) (fun a' c' => ?_) | refine QK.row [_] _ (ZV (s.lasts.take i) ++ [.s u, .i .i64 sq]) (ZV (s.lasts.drop (i + 1))) (s.lasts.length - (i + 1)) rfl (QJ.sl 0 103 _ _ _ _ _ rfl rfl (.inr fun m h => T1 h.1.lasts (by omega) hnc (by omega)) (U4 _ _)) (by dsimp only; omega) (fun a2 c2 => ?_); rw [← hone.1, ← hone.2] | refine Qe.mk [] [QG _] ⟨⟨s.seq, s.clk, s.pa, s.pc, s.pages, s.ga, s.gc, s.gone, s.qa, s.qc, s.props, s.proposed, s.wa, s.wc, s.watches, a2, c2, W⟩, rfl, rfl, rfl, rfl⟩ ((Qb.ofSub (L0 := [.row 103 2 a2 W.length c2 (ZV W)]) (by repeat (first | exact List.Sublist.slnil | refine List.Sublist.cons_cons _ ?_ | refine List.Sublist.cons _ ?_)) (fun _ h => h)).trans (Qb.toFactC.trans (Qb.facts fun _ h => ⟨h.2.1.lss h.1.1 h.1.2, trivial⟩)))
   ·have hne : ¬ (some s.lasts[i]).map LU.user = some u := fun e => hyw (Option.some.inj e)
    have hf7 : 60 ≤ (s.lasts.length : Int) → R = (s.pl, 8) := fun h => by rw [← hend2, if_neg hne, if_pos h]
    have hn7 : ¬ 60 ≤ (s.lasts.length : Int) → R = ({ s.pl with lasts := s.lasts.take i ++ ⟨u, sq⟩ :: s.lasts.drop i }, 0) := fun h => by rw [← hend2, if_neg hne, if_neg h]
    have hone := hone i (by omega) (by omega)
    clear hend2 hne
    generalize s.lasts[i] = y at *
    generalize s.lasts.take i ++ (⟨u, sq⟩ : LU) :: s.lasts.drop i = W at *
    repeat' first | first | exact absurd (by assumption) hlt2 | exact absurd (by assumption) hyw | refine Wk ?_ | refine Qa.mk (fun h => ?_) (fun h => ?_) | refine Qd.mk (fun ad => ?_) | refine Qr.a 0 2 _ (hrd _) ?_ | refine Zv.mk 0 2 _ _ (hrd _) (by omega) ?_ | refine Qi.a 0 _ _ [.s y.user] (hrd _) (by exact hgu) ?_ | refine QK.row [_] _ (ZV (s.lasts.take i)) [.s u, .i .i64 sq] 1 rfl (QJ.sl 103 103 _ _ 1 1 _ rfl rfl (.inl ⟨1, QT⟩) rfl) (by dsimp only; omega) (fun a' c' => ?_) | refine QK.row [_] _ (ZV (s.lasts.take i) ++ [.s u, .i .i64 sq]) (ZV (s.lasts.drop i)) (s.lasts.length - i) rfl (QJ.sl 0 103 _ _ _ _ _ rfl rfl (.inr fun m h => T1 h.1.lasts (by omega) hnc (by omega)) (U4 _ _)) (by dsimp only; omega) (fun a2 c2 => ?_); rw [← hone.1, ← hone.2] | (rw [hf7 (by omega)]; refine Qe.mk [] [QG s] ⟨s, rfl, rfl, rfl, rfl⟩ Qb.dropAll) | (rw [hn7 (by omega)]; refine Qe.mk [] [QG _] ⟨⟨s.seq, s.clk, s.pa, s.pc, s.pages, s.ga, s.gc, s.gone, s.qa, s.qc, s.props, s.proposed, s.wa, s.wc, s.watches, a2, c2, W⟩, rfl, rfl, rfl, rfl⟩ ((Qb.ofSub (L0 := [.row 103 2 a2 W.length c2 (ZV W)]) (by repeat (first | exact List.Sublist.slnil | refine List.Sublist.cons_cons _ ?_ | refine List.Sublist.cons _ ?_)) (fun _ h => h)).trans (Qb.toFactC.trans (Qb.facts fun _ h => ⟨h.2.1.lss h.1.1 h.1.2, trivial⟩))))
 ·have hend2 := hend fun h => absurd h hlt
  clear hend
  have hdn : s.lasts.drop i = [] := List.drop_eq_nil_of_le (by omega)
  have hne : ¬ ((s.lasts.drop i).head?.map (·.user)) = some u := fun e => by rw [hdn] at e; cases e
  have hf7 : 60 ≤ (s.lasts.length : Int) → R = (s.pl, 8) := fun h => by rw [← hend2, if_neg hne, if_pos h]
  have hn7 : ¬ 60 ≤ (s.lasts.length : Int) → R = ({ s.pl with lasts := s.lasts.take i ++ ⟨u, sq⟩ :: s.lasts.drop i }, 0) := fun h => by rw [← hend2, if_neg hne, if_neg h]
  have hone := hone i (by omega) (by omega)
  clear hend2 hne hn hdn
  generalize s.lasts.take i ++ (⟨u, sq⟩ : LU) :: s.lasts.drop i = W at *
  repeat' first | refine Wk ?_ | refine Qa.mk (fun h => ?_) (fun h => ?_) | refine Qd.mk (fun ad => ?_) | refine QK.row [_] _ (ZV (s.lasts.take i)) [.s u, .i .i64 sq] 1 rfl (QJ.sl 103 103 _ _ 1 1 _ rfl rfl (.inl ⟨1, QT⟩) rfl) (by dsimp only; omega) (fun a' c' => ?_) | refine QK.row [_] _ (ZV (s.lasts.take i) ++ [.s u, .i .i64 sq]) (ZV (s.lasts.drop i)) (s.lasts.length - i) rfl (QJ.sl 0 103 _ _ _ _ _ rfl rfl (.inr fun m h => T1 h.1.lasts (by omega) hnc (by omega)) (U4 _ _)) (by dsimp only; omega) (fun a2 c2 => ?_); rw [← hone.1, ← hone.2] | (rw [hf7 (by omega)]; refine Qe.mk [] [QG s] ⟨s, rfl, rfl, rfl, rfl⟩ Qb.dropAll) | (rw [hn7 (by omega)]; refine Qe.mk [] [QG _] ⟨⟨s.seq, s.clk, s.pa, s.pc, s.pages, s.ga, s.gc, s.gone, s.qa, s.qc, s.props, s.proposed, s.wa, s.wc, s.watches, a2, c2, W⟩, rfl, rfl, rfl, rfl⟩ ((Qb.ofSub (L0 := [.row 103 2 a2 W.length c2 (ZV W)]) (by repeat (first | exact List.Sublist.slnil | refine List.Sublist.cons_cons _ ?_ | refine List.Sublist.cons _ ?_)) (fun _ h => h)).trans (Qb.toFactC.trans (Qb.facts fun _ h => ⟨h.2.1.lss h.1.1 h.1.2, trivial⟩))))
theorem Hx (c : CHM) (hl : (c.text.length : Int) ≤ 8192) : FnS prog 91 [.agg c.cells] [] [] (Is (.c (.b (Zx c.pl)))) := by
 obtain ⟨W, hW⟩ : ∃ W, Zx c.pl = W := ⟨_, rfl⟩
 rw [hW]
 unfold Zx xN at hW
 change (if c.kind = 1 then decide (c.sp = 5 ∧ c.nm = policyNm) && !decide ((Zi c.text).2.2 = 0) else if c.kind = 2 ∨ c.kind = 3 ∨ c.kind = 5 then decide (c.sp = 5 ∧ c.nm = policyNm) else if c.kind = 4 then decide (c.sp = 5 ∧ c.nm = policyNm) || decide (c.tsp = 5 ∧ c.tnm = policyNm) else false) = W at hW
 have cr := zf c.text (by omega)
 generalize Zi c.text = r at *
 have cp := wY
 generalize policyNm = pn at *
 refine FJ 0 func91 ntmps91 (fun G => ?_)
 repeat' first | refine Wk ?_ | refine Qa.mk (fun h => ?_) (fun h => ?_) | refine Qd.mk (fun ad => ?_) | refine Ds (id := 3) [0,1,0,7] [0,1,2,3] [] [1] true ?_ | refine Ds (id := 10) [0,1,0,7,15] [0,1,2,3,4] [] [1] true ?_ | refine Ds (id := 12) [0,1,0,7,15,31,63,31,255,511,1023] [0,1,2,3,4,5,6,7,8,9,10] [] [1] true ?_ | refine Qt.mk Qb.a ?_ | refine Qx.mk [] _ cp QX ?_ | refine Qc.mk [] _ [] _ cr QW QX (fun v L' D' hq => ?_); obtain ⟨pm, _, _, _, rfl, rfl, rfl⟩ := hq | refine Qe.bool ?_
 all_goals (clear cr cp; rw [← hW]; grind)
end Go.Proofs
namespace Go.X
open Go Go.Lib
theorem OW (c : CHM) : c.pl.kind = c.kind := rfl
theorem jE {c : CH} (h : QM c = 0) : 1 ≤ c.kind ∧ c.kind ≤ 10 := ((Ws c).1 (K0.1 h).1).1
theorem Ud {c : CH} (h : QM c = 0) : c.hist.length ≤ 40 := by
 have hf := (Ws c).1 (K0.1 h).1
 by_cases h5 : c.kind = 5
 ·have := (Ru h).hist h5
  simp only [Z7, Bool.and_eq_true, decide_eq_true_eq] at this
  omega
 ·rcases hf.2.2.2.2.2.2 with h | h
  ·exact absurd h h5
  ·rw [h]; simp
theorem wC (sq : Int) (s : ST) (c : CH) (l : List CH) : Ja sq s (c :: l) = if (X4 s c sq).2 ≠ 0 then (ST.nil, (X4 s c sq).2) else Ja sq (X4 s c sq).1 l := rfl
theorem HB {α β : Type} (f : α → β) {l : List α} {i : Nat} (h : i < l.length) : (l.map f).drop i = f l[i] :: (l.map f).drop (i + 1) := by
 rw [List.drop_eq_getElem_cons (by simpa using h), List.getElem_map]
def kw (sq : Int) (r : ST × Int) : ST × Int := if r.2 ≠ 0 then (ST.nil, r.2) else if 1073741824 < sq then (ST.nil, 8) else ({ r.1 with seq := sq }, 0)
theorem Uo {s : ST} {l : List CH} (h : Zl s = true) (hl : ¬ ((l.length : Int) < 1 ∨ 16 < (l.length : Int))) : Q0 s l = kw (s.seq + 1) (Ja (s.seq + 1) s l) := by
 unfold Q0 kw
 rw [h, if_neg (by decide), if_neg hl]
theorem Ek {l : List CHM} {i : Nat} (h : i < l.length) : ((Wi l).drop (i * 10 + 1)).take 1 = [.s l[i].user] := by
 rw [Wi, QL (F := CHM.cells) (z := 10) (fun _ => rfl) h (by omega)]; rfl
end Go.X
namespace Go.Proofs
open Go Go.X Tryz
set_option maxRecDepth 100000
set_option maxHeartbeats 4000000
theorem P4 (s : STM) (c : CHM) (sq : Int) (hs : Vs s) (h0 : 0 ≤ s.proposed) (hc0 : 0 ≤ s.clk) (hc1 : s.clk ≤ 52595999) (hc : Gr c.pl) (hk : 1 ≤ c.kind ∧ c.kind ≤ 10) (hh : c.hist.length ≤ 1000) : FnS prog 90 [.agg s.cells, .agg c.cells, .c (.i .i64 sq)] [] [QG s, Yy c] (Kz (Zm s.pl c.pl sq)) := by
 have cp := R8 s c sq hs
 have cd := GV s c hs
 have cr := UK s c hs
 have cm := fun h : c.kind = 4 => PZ s c sq hs (by have := (XZ (hc.dest h)).2.2.2; have h2 : c.pl.tnm = c.tnm := rfl; rw [h2] at this; omega)
 have ct := fun h : c.kind = 5 => Pt s c sq hs (by have := hc.hist h; simp only [Z7, Bool.and_eq_true, decide_eq_true_eq] at this; have h2 : c.pl.hist = c.hist := rfl; rw [h2] at this; omega) hh
 have cw := Tg s c hs
 have cq := UQ s c hs h0
 have cs := PC s c hs
 have hn : c.kind = 6 → 1 ≤ c.n := hc.num
 generalize hR : Zm s.pl c.pl sq = R
 unfold Zm at hR
 rw [OW] at hR
 have r1 : c.kind = 1 → R = K7 s.pl c.pl sq := fun h => by rw [← hR, if_pos h]
 have r2 : c.kind = 2 → R = JA s.pl c.pl := fun h => by rw [← hR, if_neg (by omega), if_pos h]
 have r3 : c.kind = 3 → R = XS s.pl c.pl := fun h => by rw [← hR, if_neg (by omega), if_neg (by omega), if_pos h]
 have r4 : c.kind = 4 → R = VB s.pl c.pl sq := fun h => by rw [← hR, if_neg (by omega), if_neg (by omega), if_neg (by omega), if_pos h]
 have r5 : c.kind = 5 → R = Vw s.pl c.pl sq := fun h => by rw [← hR, if_neg (by omega), if_neg (by omega), if_neg (by omega), if_neg (by omega), if_pos h]
 have r6 : c.kind = 6 → R = zd s.pl c.pl := fun h => by rw [← hR, if_neg (by omega), if_neg (by omega), if_neg (by omega), if_neg (by omega), if_neg (by omega), if_pos h]
 have r7 : c.kind = 7 ∨ c.kind = 8 → R = Xm s.pl c.pl := fun h => by rw [← hR, if_neg (by omega), if_neg (by omega), if_neg (by omega), if_neg (by omega), if_neg (by omega), if_neg (by omega), if_pos h]
 have r9 : c.kind = 9 → R = Jc s.pl c.pl := fun h => by rw [← hR, if_neg (by omega), if_neg (by omega), if_neg (by omega), if_neg (by omega), if_neg (by omega), if_neg (by omega), if_neg (by omega), if_pos h]
 have r10 : c.kind = 10 → R = WA s.pl c.pl := fun h => by rw [← hR, if_neg (by omega), if_neg (by omega), if_neg (by omega), if_neg (by omega), if_neg (by omega), if_neg (by omega), if_neg (by omega), if_neg (by omega)]
 have r61 : c.kind = 6 → 52595999 - s.clk < c.n → R = (s.pl, 2) := fun h h' => by rw [r6 h]; exact if_pos h'
 have r62 : c.kind = 6 → ¬ 52595999 - s.clk < c.n → R = ({ s.pl with clk := s.clk + c.n }, 0) := fun h h' => by rw [r6 h]; exact if_neg h'
 clear hR hc r6
 refine FJ 0 func90 ntmps90 (fun G => ?_)
 repeat' first | refine Wk ?_ | refine Qa.mk (fun h => ?_) (fun h => ?_) | refine Qd.mk (fun ad => ?_) | (refine Qc.mk [] _ [_] _ cp QW Kh (fun v L' D' hq => ?_); rw [← r1 (by omega)] at hq; obtain ⟨s', rfl, rfl, rfl, hpl⟩ := hq) | (refine Qc.mk [] _ [_] _ cd QW Kh (fun v L' D' hq => ?_); rw [← r2 (by omega)] at hq; obtain ⟨s', rfl, rfl, rfl, hpl⟩ := hq) | (refine Qc.mk [] _ [_] _ cr QW Kh (fun v L' D' hq => ?_); rw [← r3 (by omega)] at hq; obtain ⟨s', rfl, rfl, rfl, hpl⟩ := hq) | (refine Qc.mk [] _ [_] _ (cm (by omega)) QW Kh (fun v L' D' hq => ?_); rw [← r4 (by omega)] at hq; obtain ⟨s', rfl, rfl, rfl, hpl⟩ := hq) | (refine Qc.mk [] _ [_, _] _ (ct (by omega)) QW (fun _ h => h) (fun v L' D' hq => ?_); rw [← r5 (by omega)] at hq; obtain ⟨s', rfl, rfl, rfl, hpl⟩ := hq) | (refine Qc.mk [] _ [_] _ cw QW Kh (fun v L' D' hq => ?_); rw [← r7 (by omega)] at hq; obtain ⟨s', rfl, rfl, rfl, hpl⟩ := hq) | (refine Qc.mk [] _ [_] _ cq QW Kh (fun v L' D' hq => ?_); rw [← r9 (by omega)] at hq; obtain ⟨s', rfl, rfl, rfl, hpl⟩ := hq) | (refine Qc.mk [] _ [_] _ cs QW Kh (fun v L' D' hq => ?_); rw [← r10 (by omega)] at hq; obtain ⟨s', rfl, rfl, rfl, hpl⟩ := hq) | refine Qe.mk [] [QG _] ⟨s', rfl, rfl, rfl, hpl⟩ (Qb.dropAll.trans (Qb.facts fun _ h => ⟨h.1, trivial⟩)) | (rw [r61 (by omega) (by omega)]; refine Qe.mk [] [QG s] ⟨s, rfl, rfl, rfl, rfl⟩ (Qb.dropAll.trans (Qb.facts fun _ h => ⟨h.1, trivial⟩))) | (rw [r62 (by omega) (by omega)]; refine Qe.mk [] [QG _] ⟨⟨s.seq, s.clk + c.n, s.pa, s.pc, s.pages, s.ga, s.gc, s.gone, s.qa, s.qc, s.props, s.proposed, s.wa, s.wc, s.watches, s.la, s.lc, s.lasts⟩, rfl, rfl, rfl, rfl⟩ (Qb.dropAll.trans (Qb.facts fun _ h => ⟨h.1.clk, trivial⟩)))
end Go.Proofs
namespace Go.Proofs
open Go Go.X Tryz
set_option maxRecDepth 100000
set_option maxHeartbeats 4000000
theorem Vr (s : STM) (a : Option Addr) (k : Nat) (l : List CHM) (hs : Gp s) (hl : l.length ≤ big) (hh : ∀ c ∈ l, c.hist.length ≤ big) : FnS prog 54 [.agg s.cells, .c (.sl a l.length k)] [] [QG s, WQ a l] (Kz (Q0 s.pl (l.map CHM.pl))) := by
 have hl := ZQ hl
 have cv := Y0 s hs
 generalize hR : Q0 s.pl (l.map CHM.pl) = R
 have hlm : ((l.map CHM.pl).length : Int) = l.length := by rw [List.length_map]
 cases hv : Zl s.pl with
 | false =>
  have e1 : R = (ST.nil, 11) := by rw [← hR]; unfold Q0; rw [hv, if_pos rfl]
  rw [hv] at cv
  subst e1
  refine FJ 0 func54 ntmps54 (fun G => ?_)
  repeat' first | refine Qe.mk [] [QG _] ⟨STM.nil, rfl, rfl, rfl, rfl⟩ (Qb.dropAll.trans (Qb.facts fun _ _ => ⟨YA.nil, trivial⟩)) | refine Wk ?_ | refine Qa.mk (fun h => ?_) (fun h => ?_) | refine Qd.mk (fun ad => ?_) | refine Qc.is cv ?_ Kh
 | true =>
  rw [hv] at cv
  by_cases hln : (l.length : Int) < 1 ∨ 16 < (l.length : Int)
  ·have e1 : R = (ST.nil, 2) := by rw [← hR]; unfold Q0; rw [hv, if_neg (by decide), if_pos (by rw [hlm]; exact hln)]
   subst e1
   refine FJ 0 func54 ntmps54 (fun G => ?_)
   repeat' first | refine Qe.mk [] [QG _] ⟨STM.nil, rfl, rfl, rfl, rfl⟩ (Qb.dropAll.trans (Qb.facts fun _ _ => ⟨YA.nil, trivial⟩)) | refine Wk ?_ | refine Qa.mk (fun h => ?_) (fun h => ?_) | refine Qd.mk (fun ad => ?_) | refine Qc.is cv ?_ Kh
  ·have e1 : R = kw (s.seq + 1) (Ja (s.seq + 1) s.pl (l.map CHM.pl)) := by rw [← hR]; exact Uo hv (by rw [hlm]; exact hln)
   obtain ⟨v1, v2, vk⟩ := JM.1 hv
   change 0 ≤ s.seq at v1
   change s.seq ≤ 1073741824 at v2
   have vk := vk.mono (show s.pl.seq ≤ s.seq + 1 by show s.seq ≤ s.seq + 1; omega)
   generalize hsq : s.seq + 1 = sq at *
   have hsqr : 1 ≤ sq ∧ sq ≤ 1073741825 := by omega
   clear hR hv
   refine FJ 0 func54 ntmps54 (fun G => ?_)
   repeat' first | refine Wk ?_ | refine Qa.mk (fun h => ?_) (fun h => ?_) | refine Qd.mk (fun ad => ?_) | refine Qc.is cv ?_ Kh
   rename_i ad0
   have hrl : ∀ s' L, Qp L [QG s', WQ a l] 0 10 a l.length (Wi l) := fun s' L => .inr fun m h => h.2.1.row
   have hrl2 : ∀ s1 s' L, Qp L [QG s1, QG s', WQ a l] 0 10 a l.length (Wi l) := fun s1 s' L => .inr fun m h => h.2.2.1.row
   refine Qn (α := Nat × STM) (fun x => [(1, .c (.sl a l.length k)), (2, .c (.p 0 ad0 0)), (4, .c (.p 1 ad 0)), (6, .c (.i .i64 sq)), (7, .c (.i .i64 x.1))]) (fun x => [.box 1 ad 27 STM.nil.cells, .box 0 ad0 27 x.2.cells]) (fun x => [QG x.2, WQ a l]) 2
    (fun x => x.1 ≤ l.length ∧ VK sq x.2.pl ∧ R = kw sq (Ja sq x.2.pl ((l.map CHM.pl).drop x.1))) (fun x => l.length - x.1) (Qq.mk (0, s) ⟨Nat.zero_le _, vk, e1⟩ Qh.a (Qb.refl _ _)) (fun x hx => ?_)
   clear cv e1 vk v1 v2 hsq hs
   obtain ⟨i, s'⟩ := x
   dsimp only at hx ⊢
   obtain ⟨hi, hvk, he⟩ := hx
   by_cases hlt : i < l.length
   ·have hg := Pb hlt
    have hgu := Ek hlt
    have hmem := List.getElem_mem hlt
    have hcl := ZQ (hh _ hmem)
    rw [HB _ hlt, wC] at he
    generalize l[i] = c at *
    generalize hrest : (l.map CHM.pl).drop (i + 1) = rest at he
    have c26 := Ti c (by omega)
    by_cases q1 : QM c.pl = 0
    ·have hco := Ru q1
     have ck := P4 s' c sq hvk.small hvk.q0 hvk.c0 hvk.c1 hco (jE q1) (by have : c.hist.length ≤ 40 := Ud q1; omega)
     have cf := Hx c hco.text
     have hkk := hvk.kind hsqr.1 hco
     rw [q1] at c26
     have hst := hvk.step (c := c.pl) hsqr.1
     by_cases q2 : (Zm s'.pl c.pl sq).2 = 0
     ·by_cases q3 : Zx c.pl = true
      ·have hs2 : X.X4 s'.pl c.pl sq = (ST.nil, 7) := by unfold X.X4; rw [if_neg (by omega), if_neg (by omega), if_pos q3]
       have hR : R = (ST.nil, 7) := by rw [he, hs2, if_pos (show (ST.nil, (7 : Int)).2 ≠ 0 by decide)]; exact if_pos (show (7 : Int) ≠ 0 by decide)
       subst hR
       rw [q3] at cf
       clear hst hkk he hs2
       generalize Zm s'.pl c.pl sq = K at *
       obtain ⟨K1, K2⟩ := K
       dsimp only at q2
       subst q2
       repeat' first | refine Qe.mk [] [QG _] ⟨STM.nil, rfl, rfl, rfl, rfl⟩ (Qb.dropAll.trans (Qb.facts fun _ _ => ⟨YA.nil, trivial⟩)) | refine Wk ?_ | refine Qa.mk (fun h => ?_) (fun h => ?_) | refine Qd.mk (fun ad => ?_) | refine ZF (id := 12) tyOK (by kernel_rfl) [0, 0, 0, 6, 14, 0, 63, 127, 255, 255, 0, 1535, 4095] [0, 1, 2, 3, 4, 5] 6 [7, 8, 9, 10, 11, 12] 10 [6, 7, 8, 9, 11, 12] [6, 10, 11] [2, 46] 13 true (by kernel_rfl) ?_ | refine X3.mk ?_ ?_ | refine Ds (id := 17) [0,0,0,6,14,30,0,127,255,511,511,1023,4095] [0,1,2,3,4,5,6,7,8,9,10,11,12] [7,11] [9,66] true ?_ | refine Qt.mk Qb.a ?_ | refine Qr.a 0 10 _ (hrl _ _) ?_ | refine Qi.mk 0 _ _ c.cells (hrl _ _) (by omega) (by omega) (by first | omega | decide) (by exact hg) ?_ | refine Qr.a 0 10 _ (hrl2 _ _ _) ?_ | refine Qi.mk 0 _ _ c.cells (hrl2 _ _ _) (by omega) (by omega) (by first | omega | decide) (by exact hg) ?_ | refine Qc.is c26 ?_ (fun _ h => ⟨h.2.1.his c hmem, trivial⟩) | (refine Qc.mk [] _ [_, _] _ ck QW (fun _ h => ⟨h.1, h.2.1.his c hmem, trivial⟩) (fun v L' D' hq => ?_); obtain ⟨s1, rfl, rfl, rfl, hp1⟩ := hq) | refine Qc.is cf ?_
      ·have q3 : Zx c.pl = false := by simpa using q3
       have hk1 := hkk q3 q2
       rw [q3] at cf
       have cn := fun s1 (h : STM.pl s1 = (Zm s'.pl c.pl sq).1) => TS s1 c.user sq (VK.small (by rw [h]; exact hk1))
       by_cases q4 : (Q9 (Zm s'.pl c.pl sq).1 c.user sq).2 = 0
       ·have hs2 : X.X4 s'.pl c.pl sq = Q9 (Zm s'.pl c.pl sq).1 c.user sq := by unfold X.X4; rw [if_neg (by omega), if_neg (by omega), if_neg (by rw [q3]; decide), if_neg (show ¬ (Q9 (Zm s'.pl c.pl sq).1 c.pl.user sq).2 ≠ 0 from fun h => h q4)]; rfl
        rw [hs2] at he hst
        rw [if_neg (by omega)] at he
        have hst4 := hst q4
        clear hst hkk hs2 hk1
        generalize Zm s'.pl c.pl sq = K at *
        obtain ⟨K1, K2⟩ := K
        dsimp only at q2 q4 he hst4 cn
        subst q2
        have hvk2 : ∀ s2 : STM, s2.pl = (Q9 K1 c.user sq).1 → VK sq s2.pl := fun s2 h => by rw [h]; exact hst4
        have hre : ∀ s2 : STM, s2.pl = (Q9 K1 c.user sq).1 → R = kw sq (Ja sq s2.pl ((l.map CHM.pl).drop (i + 1))) := fun s2 h => by rw [h, hrest]; exact he
        have cn := fun s1 (h : STM.pl s1 = K1) => by
         have := cn s1 h
         rw [h] at this
         exact this
        clear hst4 he hrest
        generalize Q9 K1 c.user sq = M at *
        obtain ⟨M1, M2⟩ := M
        dsimp only at q4 hvk2 hre
        subst q4
        repeat' first | refine Qe.mk [] [QG _] ⟨STM.nil, rfl, rfl, rfl, rfl⟩ (Qb.dropAll.trans (Qb.facts fun _ _ => ⟨YA.nil, trivial⟩)) | refine Wk ?_ | refine Qa.mk (fun h => ?_) (fun h => ?_) | refine Qd.mk (fun ad => ?_) | refine ZF (id := 12) tyOK (by kernel_rfl) [0, 0, 0, 6, 14, 0, 63, 127, 255, 255, 0, 1535, 4095] [0, 1, 2, 3, 4, 5] 6 [7, 8, 9, 10, 11, 12] 10 [6, 7, 8, 9, 11, 12] [6, 10, 11] [2, 46] 13 true (by kernel_rfl) ?_ | refine X3.mk ?_ ?_ | refine Ds (id := 17) [0,0,0,6,14,30,0,127,255,511,511,1023,4095] [0,1,2,3,4,5,6,7,8,9,10,11,12] [7,11] [9,66] true ?_ | refine Qt.mk Qb.a ?_ | refine Qr.a 0 10 _ (hrl _ _) ?_ | refine Qi.mk 0 _ _ c.cells (hrl _ _) (by omega) (by omega) (by first | omega | decide) (by exact hg) ?_ | refine Qr.a 0 10 _ (hrl2 _ _ _) ?_ | refine Qi.mk 0 _ _ c.cells (hrl2 _ _ _) (by omega) (by omega) (by first | omega | decide) (by exact hg) ?_ | refine Qc.is c26 ?_ (fun _ h => ⟨h.2.1.his c hmem, trivial⟩) | (refine Qc.mk [] _ [_, _] _ ck QW (fun _ h => ⟨h.1, h.2.1.his c hmem, trivial⟩) (fun v L' D' hq => ?_); obtain ⟨s1, rfl, rfl, rfl, hp1⟩ := hq) | refine Qc.is cf ?_ | (refine Qc.mk [] _ [_] _ (cn s1 hp1) QW Kh (fun v L' D' hq => ?_); obtain ⟨s2, rfl, rfl, rfl, hp2⟩ := hq) | refine Qr.a 0 10 _ (hrl2 _ _ _) ?_ | refine Zv.mk 0 10 _ _ (hrl2 _ _ _) (by omega) ?_ | refine Qi.mk 0 _ _ [.s c.user] (hrl2 _ _ _) (by omega) (by omega) (by first | omega | decide) (by exact hgu) ?_ | refine Qo.mk (i + 1, s2) (by dsimp only; omega) ⟨by dsimp only; omega, hvk2 s2 hp2, hre s2 hp2⟩ Qh.a (Qb.ofSub (by repeat (first | exact List.Sublist.slnil | refine List.Sublist.cons_cons _ ?_ | refine List.Sublist.cons _ ?_)) (fun _ h => ⟨h.1, h.2.2.2.1, trivial⟩))
       ·have hs2 : X.X4 s'.pl c.pl sq = (ST.nil, (Q9 (Zm s'.pl c.pl sq).1 c.user sq).2) := by unfold X.X4; rw [if_neg (by omega), if_neg (by omega), if_neg (by rw [q3]; decide), if_pos (show (Q9 (Zm s'.pl c.pl sq).1 c.pl.user sq).2 ≠ 0 from q4)]; rfl
        have hR : R = (ST.nil, (Q9 (Zm s'.pl c.pl sq).1 c.user sq).2) := by rw [he, hs2, if_pos (show (ST.nil, (Q9 (Zm s'.pl c.pl sq).1 c.user sq).2).2 ≠ 0 from q4)]; exact if_pos q4
        subst hR
        clear hst hkk he hs2 hk1
        generalize Zm s'.pl c.pl sq = K at *
        obtain ⟨K1, K2⟩ := K
        dsimp only at q2 q4 cn ⊢
        subst q2
        have cn := fun s1 (h : STM.pl s1 = K1) => by
         have := cn s1 h
         rw [h] at this
         exact this
        generalize Q9 K1 c.user sq = M at *
        obtain ⟨M1, M2⟩ := M
        dsimp only at q4 ⊢
        repeat' first | refine Qe.mk [] [QG _] ⟨STM.nil, rfl, rfl, rfl, rfl⟩ (Qb.dropAll.trans (Qb.facts fun _ _ => ⟨YA.nil, trivial⟩)) | refine Wk ?_ | refine Qa.mk (fun h => ?_) (fun h => ?_) | refine Qd.mk (fun ad => ?_) | refine ZF (id := 12) tyOK (by kernel_rfl) [0, 0, 0, 6, 14, 0, 63, 127, 255, 255, 0, 1535, 4095] [0, 1, 2, 3, 4, 5] 6 [7, 8, 9, 10, 11, 12] 10 [6, 7, 8, 9, 11, 12] [6, 10, 11] [2, 46] 13 true (by kernel_rfl) ?_ | refine X3.mk ?_ ?_ | refine Ds (id := 17) [0,0,0,6,14,30,0,127,255,511,511,1023,4095] [0,1,2,3,4,5,6,7,8,9,10,11,12] [7,11] [9,66] true ?_ | refine Qt.mk Qb.a ?_ | refine Qr.a 0 10 _ (hrl _ _) ?_ | refine Qi.mk 0 _ _ c.cells (hrl _ _) (by omega) (by omega) (by first | omega | decide) (by exact hg) ?_ | refine Qr.a 0 10 _ (hrl2 _ _ _) ?_ | refine Qi.mk 0 _ _ c.cells (hrl2 _ _ _) (by omega) (by omega) (by first | omega | decide) (by exact hg) ?_ | refine Qc.is c26 ?_ (fun _ h => ⟨h.2.1.his c hmem, trivial⟩) | (refine Qc.mk [] _ [_, _] _ ck QW (fun _ h => ⟨h.1, h.2.1.his c hmem, trivial⟩) (fun v L' D' hq => ?_); obtain ⟨s1, rfl, rfl, rfl, hp1⟩ := hq) | refine Qc.is cf ?_ | (refine Qc.mk [] _ [_] _ (cn s1 hp1) QW Kh (fun v L' D' hq => ?_); obtain ⟨s2, rfl, rfl, rfl, hp2⟩ := hq) | refine Qr.a 0 10 _ (hrl2 _ _ _) ?_ | refine Zv.mk 0 10 _ _ (hrl2 _ _ _) (by omega) ?_ | refine Qi.mk 0 _ _ [.s c.user] (hrl2 _ _ _) (by omega) (by omega) (by first | omega | decide) (by exact hgu) ?_
     ·have hs2 : X.X4 s'.pl c.pl sq = (ST.nil, (Zm s'.pl c.pl sq).2) := by unfold X.X4; rw [if_neg (by omega), if_pos q2]
      have hR : R = (ST.nil, (Zm s'.pl c.pl sq).2) := by rw [he, hs2, if_pos (show (ST.nil, (Zm s'.pl c.pl sq).2).2 ≠ 0 from q2)]; exact if_pos q2
      subst hR
      clear hst hkk he hs2 cf
      generalize Zm s'.pl c.pl sq = K at *
      obtain ⟨K1, K2⟩ := K
      dsimp only at q2 ⊢
      repeat' first | refine Qe.mk [] [QG _] ⟨STM.nil, rfl, rfl, rfl, rfl⟩ (Qb.dropAll.trans (Qb.facts fun _ _ => ⟨YA.nil, trivial⟩)) | refine Wk ?_ | refine Qa.mk (fun h => ?_) (fun h => ?_) | refine Qd.mk (fun ad => ?_) | refine ZF (id := 12) tyOK (by kernel_rfl) [0, 0, 0, 6, 14, 0, 63, 127, 255, 255, 0, 1535, 4095] [0, 1, 2, 3, 4, 5] 6 [7, 8, 9, 10, 11, 12] 10 [6, 7, 8, 9, 11, 12] [6, 10, 11] [2, 46] 13 true (by kernel_rfl) ?_ | refine X3.mk ?_ ?_ | refine Ds (id := 17) [0,0,0,6,14,30,0,127,255,511,511,1023,4095] [0,1,2,3,4,5,6,7,8,9,10,11,12] [7,11] [9,66] true ?_ | refine Qt.mk Qb.a ?_ | refine Qr.a 0 10 _ (hrl _ _) ?_ | refine Qi.mk 0 _ _ c.cells (hrl _ _) (by omega) (by omega) (by first | omega | decide) (by exact hg) ?_ | refine Qr.a 0 10 _ (hrl2 _ _ _) ?_ | refine Qi.mk 0 _ _ c.cells (hrl2 _ _ _) (by omega) (by omega) (by first | omega | decide) (by exact hg) ?_ | refine Qc.is c26 ?_ (fun _ h => ⟨h.2.1.his c hmem, trivial⟩) | (refine Qc.mk [] _ [_, _] _ ck QW (fun _ h => ⟨h.1, h.2.1.his c hmem, trivial⟩) (fun v L' D' hq => ?_); obtain ⟨s1, rfl, rfl, rfl, hp1⟩ := hq)
    ·have hs2 : X.X4 s'.pl c.pl sq = (ST.nil, QM c.pl) := by unfold X.X4; rw [if_pos q1]
     have hR : R = (ST.nil, QM c.pl) := by rw [he, hs2, if_pos (show (ST.nil, QM c.pl).2 ≠ 0 from q1)]; exact if_pos q1
     subst hR
     clear he hs2
     generalize QM c.pl = e at *
     repeat' first | refine Qe.mk [] [QG _] ⟨STM.nil, rfl, rfl, rfl, rfl⟩ (Qb.dropAll.trans (Qb.facts fun _ _ => ⟨YA.nil, trivial⟩)) | refine Wk ?_ | refine Qa.mk (fun h => ?_) (fun h => ?_) | refine Qd.mk (fun ad => ?_) | refine Qr.a 0 10 _ (hrl _ _) ?_ | refine Qi.mk 0 _ _ c.cells (hrl _ _) (by omega) (by omega) (by first | omega | decide) (by exact hg) ?_ | refine Qc.is c26 ?_ (fun _ h => ⟨h.2.1.his c hmem, trivial⟩)
   ·have hil : i = l.length := by omega
    subst hil
    have hdn : (l.map CHM.pl).drop l.length = [] := List.drop_eq_nil_of_le (by simp)
    rw [hdn] at he
    have hbig : 1073741824 < sq → R = (ST.nil, 8) := fun h => by rw [he]; exact (if_neg (show ¬ (0 : Int) ≠ 0 by decide)).trans (if_pos h)
    have hnew : ¬ 1073741824 < sq → R = ({ s'.pl with seq := sq }, 0) := fun h => by rw [he]; exact (if_neg (show ¬ (0 : Int) ≠ 0 by decide)).trans (if_neg h)
    repeat' first | refine Wk ?_ | refine Qa.mk (fun h => ?_) (fun h => ?_) | refine Qd.mk (fun ad => ?_) | (rw [hbig (by omega)]; refine Qe.mk [] [QG _] ⟨STM.nil, rfl, rfl, rfl, rfl⟩ (Qb.dropAll.trans (Qb.facts fun _ _ => ⟨YA.nil, trivial⟩))) | (rw [hnew (by omega)]; refine Qe.mk [] [QG _] ⟨⟨sq, s'.clk, s'.pa, s'.pc, s'.pages, s'.ga, s'.gc, s'.gone, s'.qa, s'.qc, s'.props, s'.proposed, s'.wa, s'.wc, s'.watches, s'.la, s'.lc, s'.lasts⟩, rfl, rfl, rfl, rfl⟩ (Qb.dropAll.trans (Qb.facts fun _ h => ⟨h.1.clk, trivial⟩)))
end Go.Proofs
namespace Go.X
open Go Go.Lib
def PW (p : Bs) : CH := ⟨1, [], [], 5, policyNm, 0, [], p, 0, []⟩
inductive WW : Nat → ST → Prop where
 | start (p : Bs) (hp : p ∈ xT) : WW 1 (Q0 ST.nil [PW p]).1
 | step {n : Nat} {s : ST} (h : WW n s) (l : List CH) (hl : ∀ c ∈ l, qB c) (h1 : 1 ≤ l.length) (h2 : l.length ≤ 2) (he : (Q0 s l).2 = 0) : WW (n + 1) (Q0 s l).1
 | more {n : Nat} {s : ST} (h : WW n s) : WW (n + 1) s
theorem WW.le {n m : Nat} {s : ST} (h : WW n s) (hm : n ≤ m) : WW m s := by
 obtain ⟨k, rfl⟩ : ∃ k, m = n + k := ⟨m - n, by omega⟩
 clear hm
 induction k with
 | zero => exact h
 | succ k ih => exact ih.more
theorem qO {s : ST} {l : List CH} (h : (Q0 s l).2 ≠ 0) : (Q0 s l).1 = ST.nil := by
 unfold Q0 at h ⊢
 by_cases a : Zl s = false
 ·rw [if_pos a]
 rw [if_neg a] at h ⊢
 by_cases b : (l.length : Int) < 1 ∨ 16 < (l.length : Int)
 ·rw [if_pos b]
 rw [if_neg b] at h ⊢
 by_cases c : (Ja (s.seq + 1) s l).2 ≠ 0
 ·rw [if_pos c]
 rw [if_neg c] at h ⊢
 by_cases d : 1073741824 < s.seq + 1
 ·rw [if_pos d]
 rw [if_neg d] at h
 exact absurd rfl h
theorem vS : Zl ST.nil = true := rfl
theorem WW.valid {n : Nat} {s : ST} (h : WW n s) : Zl s = true := by
 induction h with
 | start p hp =>
  by_cases h : (Q0 ST.nil [PW p]).2 = 0
  ·exact (J0 h).1
  ·rw [qO h]; exact vS
 | step h l hl h1 h2 he ih => exact (J0 he).1
 | more h ih => exact ih
theorem XY {s : STM} (h : Zl s.pl = true) : Vs s ∧ 0 ≤ s.clk ∧ s.clk ≤ 52595999 := by
 obtain ⟨_, _, vk⟩ := JM.1 h
 exact ⟨vk.small, vk.c0, vk.c1⟩
end Go.X
namespace Go.Proofs
open Go Go.X Tryz
set_option maxRecDepth 100000
set_option maxHeartbeats 4000000
theorem KF (e : Nat) (a : Option Addr) (c ad : Nat) (l : List Int) (g : GS) (clk : Int) (hg : g.ok l) (hl : l.length ≤ maxLen) (h0 : 0 ≤ clk) (h1 : clk ≤ 52595999) : FnS prog 23 [.c (.p 1000 ad 0), .c (.i .i64 clk)] [ZW ad a l.length c g] [Zj e a l]
  (fun v L D => ∃ b k, ∃ cs : List CHM, ∃ g', v = .c (.sl b cs.length k) ∧ 1 ≤ cs.length ∧ cs.length ≤ 2 ∧ (∀ ch ∈ cs, qB ch.pl) ∧ g'.ok l ∧ L = [ZW ad a l.length c g'] ∧ D = [WQ b cs]) := by
 have k1 := KD e a c ad l g 6 (by omega) (by omega) hg hl
 have r1 := QS (l := l) g (n := 6) (by omega)
 have hg1 := Z1 hg
 generalize Zr l g 6 = v1 at *
 generalize Xb l g = g1 at *
 obtain ⟨n1, rfl⟩ : ∃ n1 : Nat, v1 = n1 := ⟨v1.toNat, by omega⟩
 have hq : ((n1 : Int)).tdiv 3 = ((n1 / 3 : Nat) : Int) := by
  rw [Int.tdiv_eq_ediv_of_nonneg (by omega)]; omega
 refine FJ 8000 func23 ntmps23 (fun G => ?_)
 repeat' first | refine Wk ?_ | refine Qa.mk (fun h => ?_) (fun h => ?_) | refine Qd.mk (fun ad => ?_) | (refine Qc.mk [_] [] [_] _ k1 QW (fun _ h => h) (fun v L' D' hp => ?_); obtain ⟨rfl, rfl, rfl⟩ := hp) | refine Gt.exact (by rw [hq]; simp only [jl]; omega) ?_; rw [hq] | refine Gt.exact (by simp only [jl]; omega) ?_
 refine Qn (α := Nat × List CHM × GS × Option Addr × Nat) (fun x => [(0, .c (.p 1000 ad 0)), (1, .c (.i .i64 clk)), (5, .c (.sl x.2.2.2.1 x.2.1.length x.2.2.2.2)), (6, .c (.i .i64 x.1))]) (fun x => [.row 64 10 x.2.2.2.1 x.2.1.length x.2.2.2.2 (Wi x.2.1), ZW ad a l.length c x.2.2.1]) (fun x => [chhF x.2.1, Zj e a l]) 8000
  (fun x => x.2.2.1.ok l ∧ x.1 + x.2.1.length ≤ 2 ∧ 1 ≤ x.1 + x.2.1.length ∧ (∀ ch ∈ x.2.1, qB ch.pl)) (fun x => x.1) (Qq.mk (n1 / 3 + 1, [], g1, none, 0) ⟨hg1, by simp; omega, by simp, (fun _ h => by cases h)⟩ Qh.a ((Qb.nilRow (ety := 64) (esz := 10)).trans (Qb.facts fun _ h => ⟨(fun _ h => by cases h), h.1, trivial⟩))) (fun x hx => ?_)
 clear k1 hg1 hg
 obtain ⟨n, out, g, b, k⟩ := x
 dsimp only at hx ⊢
 obtain ⟨hg, hn, hn1, hm⟩ := hx
 cases n with
 | zero =>
  repeat' first | refine Wk ?_ | refine Qa.mk (fun h => ?_) (fun h => ?_) | refine Qd.mk (fun ad => ?_) | refine Qe.mk [_] [_] ⟨_, _, out, _, rfl, by omega, by omega, hm, hg, rfl, rfl⟩ (Qb.toFact.trans (Qb.facts fun _ h => ⟨⟨h.1, h.2.1⟩, trivial⟩))
 | succ n =>
  have cc := Gd e a c ad l g clk hg hl h0 h1
  have hap : ∀ ch : CHM, Wi out ++ ch.cells = Wi (out ++ [ch]) := fun ch => by simp [Wi]
  have hln : ∀ x : CHM, out.length + 1 = (out ++ [x]).length := fun x => by simp
  have hmm : ∀ ch : CHM, qB ch.pl → ∀ y ∈ out ++ [ch], qB y.pl := fun ch h y hy => by
   rcases List.mem_append.1 hy with hy | hy
   ·exact hm y hy
   ·rw [List.mem_singleton.1 hy]; exact h
  repeat' first | refine Wk ?_ | refine Qa.mk (fun h => ?_) (fun h => ?_) | refine Qd.mk (fun ad => ?_) | (refine Qc.mk [_] [_] [_] _ cc (List.Perm.swap _ _ _) vt (fun v L' D' hp => ?_); obtain ⟨ch, g', rfl, hmc, hg', rfl, rfl⟩ := hp) | (refine QK.row [_, _] _ (Wi out) ch.cells 1 rfl (QJ.sl 64 64 _ _ 1 1 _ rfl rfl (.inl ⟨1, QT⟩) rfl) (by dsimp only; omega) (fun b' k' => ?_); rw [hap ch, hln ch]) | refine Qo.mk (n, out ++ [ch], g', b', k') (by dsimp only; omega) ⟨hg', by simp; omega, by simp; omega, hmm ch hmc⟩ Qh.a ((Qb.sub ⟨[_], List.Perm.trans (List.Perm.cons _ (List.Perm.swap _ _ _)) QW⟩).trans (Qb.facts fun _ h => ⟨h.2.1.snoc h.1, h.2.2.1, trivial⟩))
end Go.Proofs
namespace Go.X
open Go Go.Lib
def polM (p : Bs) : CHM := ⟨1, [], [], 5, policyNm, 0, [], p, 0, none, 0, []⟩
theorem TV {m : Im} {a : Option Addr} {c : CHM} (h : Z8 m 0 10 a 1 c.cells) (hc : Z8 m 0 6 c.ha c.hist.length (Zb c.hist)) : NE m a [c] :=
 ⟨by rw [show Wi [c] = c.cells by simp [Wi]]; exact h, fun x hx => by rw [List.mem_singleton.1 hx]; exact hc⟩
end Go.X
namespace Go.Proofs
open Go Go.X Tryz
set_option maxRecDepth 100000
set_option maxHeartbeats 4000000
theorem wW : FnS prog 43 [] [] [] (Is (.agg [.i .i64 5, .s policyNm])) := by
 refine FJ 0 func43 ntmps43 (fun G => ?_)
 repeat' first | refine Wk ?_ | refine Qa.mk (fun h => ?_) (fun h => ?_) | refine Qd.mk (fun ad => ?_) | refine Qe.is rfl
theorem Hv (p : Bs) : FnS prog 52 [.c (.s p)] [] [] (fun v L D => ∃ s : STM, v = .agg s.cells ∧ s.pl = (Q0 ST.nil [PW p]).1 ∧ L = [] ∧ D = [QG s]) := by
 have ap := fun adr => Vr STM.nil adr 1 [polM p] ⟨by decide, (fun _ h => by cases h), by decide, (fun _ h => by cases h), by decide, by decide, by decide⟩ (by simp [big]) (fun c hc => by rw [List.mem_singleton.1 hc]; exact Nat.zero_le _)
 have hr : Q0 STM.nil.pl ([polM p].map CHM.pl) = Q0 ST.nil [PW p] := rfl
 rw [hr] at ap
 generalize Q0 ST.nil [PW p] = R at *
 refine FJ 9000 func52 ntmps52 (fun G => ?_)
 repeat' first | refine Wk ?_ | refine Qa.mk (fun h => ?_) (fun h => ?_) | refine Qd.mk (fun ad => ?_) | refine Qc.is wW ?_ | (refine Qc.mkE [] _ [_, _] _ _ (ap _) (Qb.toFact.trans (Qb.facts (D' := [QG STM.nil, WQ _ [polM p]]) fun _ h => ⟨YA.nil, TV h.1 (Z8.nil (e := 0)), trivial⟩)) (fun _ h => h) (fun v L' D' hq => ?_); obtain ⟨s1, rfl, rfl, rfl, hp1⟩ := hq) | refine Qe.mk [] [QG _] ⟨s1, rfl, hp1, rfl, rfl⟩ (Qb.dropAll.trans (Qb.facts fun _ h => ⟨h.1, trivial⟩))
theorem kr (e : Nat) (a : Option Addr) (c ad0 : Nat) (l : List Int) (g : GS) (s : STM) (k0 N : Nat) (hr : WW k0 s.pl) (hg : g.ok l) (hl : l.length ≤ maxLen) (hN : N ≤ 10) : FnS prog 25 [.agg s.cells, .c (.p 1000 ad0 0), .c (.i .i64 N)] [ZW ad0 a l.length c g] [QG s, Zj e a l]
  (fun v L D => ∃ s' : STM, ∃ g', v = .agg s'.cells ∧ WW (k0 + N) s'.pl ∧ g'.ok l ∧ L = [ZW ad0 a l.length c g'] ∧ D = [QG s']) := by
 refine FJ 9500 func25 ntmps25 (fun G => ?_)
 repeat' first | refine Wk ?_ | refine Qa.mk (fun h => ?_) (fun h => ?_) | refine Qd.mk (fun ad => ?_)
 rename_i ad3
 refine Qn (α := Nat × STM × GS) (fun x => [(1, .c (.p 1000 ad0 0)), (2, .c (.i .i64 x.1)), (3, .c (.p 9500 ad3 0)), (6, .c (.p 9501 ad 0))]) (fun x => [ZW ad0 a l.length c x.2.2, .box 9501 ad 27 STM.nil.cells, .box 9500 ad3 27 x.2.1.cells]) (fun x => [QG x.2.1, Zj e a l]) 9502
  (fun x => x.2.2.ok l ∧ x.1 ≤ N ∧ WW (k0 + (N - x.1)) x.2.1.pl) (fun x => x.1) (Qq.mk (N, s, g) ⟨hg, Nat.le_refl _, by rw [Nat.sub_self]; exact hr⟩ Qh.a (Qb.perm (List.perm_append_comm (l₁ := [_, _]) (l₂ := [_])))) (fun x hx => ?_)
 obtain ⟨n, s', g'⟩ := x
 dsimp only at hx ⊢
 obtain ⟨hg', hn, hre⟩ := hx
 clear hg hr
 cases n with
 | zero =>
  repeat' first | refine Wk ?_ | refine Qa.mk (fun h => ?_) (fun h => ?_) | refine Qd.mk (fun ad => ?_) | refine Qe.mk [ZW ad0 a l.length c _] [QG _] ⟨s', _, rfl, hre, hg', rfl, rfl⟩ ((Qb.ofSub (by repeat (first | exact List.Sublist.slnil | refine List.Sublist.cons_cons _ ?_ | refine List.Sublist.cons _ ?_)) (fun _ h => h)).trans (Qb.facts fun _ h => ⟨h.1, trivial⟩))
 | succ n =>
  obtain ⟨hsm, hc0, hc1⟩ := XY hre.valid
  have cc := KF e a c ad0 l g' s'.clk hg' hl hc0 hc1
  have ap := fun b k (cs : List CHM) (h2 : cs.length ≤ 2) (hm : ∀ ch ∈ cs, qB ch.pl) => Vr s' b k cs hsm.big (by simp only [big]; omega) (fun ch hch => by have := (hm ch hch).len; have h3 : ch.pl.hist = ch.hist := rfl; rw [h3] at this; simp only [big]; omega)
  have hstep : ∀ cs : List CHM, 1 ≤ cs.length → cs.length ≤ 2 → (∀ ch ∈ cs, qB ch.pl) → ∀ s1 : STM, s1.pl = (Q0 s'.pl (cs.map CHM.pl)).1 → (Q0 s'.pl (cs.map CHM.pl)).2 = 0 → WW (k0 + (N - n)) s1.pl := fun cs h1 h2 hm s1 hp h0 => by
   rw [hp, show k0 + (N - n) = k0 + (N - (n + 1)) + 1 by omega]
   exact hre.step (cs.map CHM.pl) (fun ch hch => by obtain ⟨x, hx, rfl⟩ := List.mem_map.1 hch; exact hm x hx) (by simpa using h1) (by simpa using h2) h0
  have hstay : WW (k0 + (N - n)) s'.pl := hre.le (by omega)
  repeat' first | refine Wk ?_ | refine Qa.mk (fun h => ?_) (fun h => ?_) | refine Qd.mk (fun ad => ?_) | refine Ke (id := 3) tyOK (by kernel_rfl) [0, 0, 0, 4, 14, 31, 63, 127, 127, 0, 767, 2047] (.node [0, 1, 2, 3] 4 (.node [] 5 (.leaf [6, 7, 8, 9, 10, 11]) 9 (.leaf [5, 6, 7, 8, 10, 11])) 9 (.leaf [4, 5, 6, 7, 8, 10, 11])) [4, 5, 9, 10] [3] 12 true (by kernel_rfl) ?_ | refine X3.mk ?_ ?_ | refine Qt.mk Qb.a ?_ | (refine Qc.mk [_] [_, _] [_] _ cc QW vt (fun v L' D' hp => ?_); obtain ⟨b, k, cs, g2, rfl, h1, h2, hm, hg2, rfl, rfl⟩ := hp) | (refine Qc.mk [_] [_, _, _] [_] _ cc (List.Perm.swap _ _ _) vt (fun v L' D' hp => ?_); obtain ⟨b, k, cs, g2, rfl, h1, h2, hm, hg2, rfl, rfl⟩ := hp) | (refine Qc.mk [] _ [_, _] _ (ap b k cs h2 hm) QW (fun _ h => ⟨h.2.1, h.1, trivial⟩) (fun v L' D' hq => ?_); obtain ⟨s1, rfl, rfl, rfl, hp1⟩ := hq; have hst := hstep cs h1 h2 hm s1 hp1; generalize (Q0 s'.pl (cs.map CHM.pl)).2 = er at *) | refine Qo.mk (n, s1, g2) (by dsimp only; omega) ⟨hg2, by dsimp only; omega, hst (by assumption)⟩ Qh.a (Qb.ofSub (by repeat (first | exact List.Sublist.slnil | refine List.Sublist.cons_cons _ ?_ | refine List.Sublist.cons _ ?_)) (fun _ h => ⟨h.1, h.2.2.2.1, trivial⟩)) | refine Qo.mk (n, s', g2) (by dsimp only; omega) ⟨hg2, by dsimp only; omega, hstay⟩ Qh.a (Qb.ofSub (by repeat (first | exact List.Sublist.slnil | refine List.Sublist.cons_cons _ ?_ | refine List.Sublist.cons _ ?_)) (fun _ h => ⟨h.2.2.1, h.2.2.2.1, trivial⟩))
theorem KY (e : Nat) (a : Option Addr) (c : Nat) (l : List Int) (hl : l.length ≤ maxLen) : FnS prog 17 [.c (.sl a l.length c)] [] [Zj e a l]
  (fun v L D => ∃ s : STM, v = .agg s.cells ∧ WW 15 s.pl ∧ L = [] ∧ D = [QG s]) := by
 have cf := qL e a c l hl
 have cp := fun ad => Gc e a c ad l (gs0 l) (qi l) hl
 have cx := fun ad g n hn hn1 hg => KD e a c ad l g n hn hn1 hg hl
 have cu := fun ad g hg => WL e a c ad l g hg hl
 have ct := fun ad g hg => zP e a c ad l g hg hl
 have rr := fun g n (hn : 0 < n) => QS (l := l) g (n := n) hn
 have hgm := fun g (hg : GS.ok l g) => Z1 hg
 refine FJ 10000 func17 ntmps17 (fun G => ?_)
 repeat' first | refine Wk ?_ | refine Qa.mk (fun h => ?_) (fun h => ?_) | refine Qd.mk (fun ad => ?_) | (refine Qc.mk [] [_] [_] _ cf QW (fun _ h => h) (fun v L' D' hp => ?_); obtain ⟨ad0, rfl, rfl, rfl⟩ := hp) | (refine Qc.mk [_] [_] [_] _ (cp _) QW (fun _ h => h) (fun v L' D' hp => ?_); obtain ⟨p, g1, rfl, hpp, hg1, rfl, rfl⟩ := hp) | (refine Qc.mk [] _ [] _ (Hv p) QW QX (fun v L' D' hq => ?_); obtain ⟨sb, rfl, hpb, rfl, rfl⟩ := hq) | (refine Qc.mk [_] [_, _] [_] _ (cx _ _ 5 (by omega) (by omega) hg1) (List.Perm.swap _ _ _) vt (fun v L' D' hp => ?_); obtain ⟨rfl, rfl, rfl⟩ := hp; have r5 := rr g1 5 (by omega); have hg2 := hgm g1 hg1; generalize Zr l g1 5 = n5 at *; generalize Xb l g1 = g2 at *)
 obtain ⟨q, hq⟩ : ∃ q : Nat, 3 + n5 = q := ⟨(3 + n5).toNat, by omega⟩
 rw [hq]
 have hq7 : q ≤ 7 := by omega
 rename_i ad2
 refine Qn (α := Nat × STM × GS) (fun x => [(2, .c (.p 10000 ad2 0)), (3, .c (.p 1000 ad0 0)), (4, .c (.p 10001 ad 0)), (5, .c (.i .i64 q)), (6, .c (.i .i64 x.1))]) (fun x => [ZW ad0 a l.length c x.2.2, .box 10001 ad 27 x.2.1.cells, .box 10000 ad2 27 STM.nil.cells]) (fun x => [QG x.2.1, Zj e a l]) 10002
  (fun x => x.2.2.ok l ∧ x.1 ≤ q ∧ WW (1 + x.1) x.2.1.pl) (fun x => q - x.1) (Qq.mk (0, sb, g2) ⟨hg2, Nat.zero_le _, by rw [hpb]; exact WW.start p hpp⟩ Qh.a (Qb.facts fun _ h => ⟨h.1, h.2.1, trivial⟩)) (fun x hx => ?_)
 clear cf cp hg1 hg2 hpb r5
 obtain ⟨i, s', g⟩ := x
 dsimp only at hx ⊢
 obtain ⟨hg, hi, hre⟩ := hx
 obtain ⟨hsm, hc0, hc1⟩ := XY hre.valid
 by_cases hlt : i < q
 ·have htt := wz (k := (i : Int)) (by omega) (by omega)
  have htm := YS (l := genTitles) (d := (0, [])) (k := (i : Int)) (by omega) (by simp only [genTitles, List.length_cons, List.length_nil]; omega)
  generalize genTitles.getD (i : Int).toNat (0, []) = T at *
  obtain ⟨sp, nm⟩ := T
  dsimp only at htt
  have hmd : ∀ us tx, us ∈ genUsers → List.length tx ≤ 1000 → qB ⟨1, us, [], sp, nm, 0, [], tx, 0, []⟩ := fun us tx h1 h2 => ⟨⟨by dsimp only; omega, by dsimp only; omega⟩, fun _ => htm, (fun h => by cases h), h1, h2, (fun _ h => by cases h), Nat.zero_le _⟩
  have ap : ∀ us tx, us ∈ genUsers → List.length tx ≤ 1000 → ∀ adr, FnS prog 54 [.agg s'.cells, .c (.sl adr 1 1)] [] [QG s', WQ adr [⟨1, us, [], sp, nm, 0, [], tx, 0, none, 0, []⟩]] (Kz (Q0 s'.pl [⟨1, us, [], sp, nm, 0, [], tx, 0, []⟩])) := fun us tx h1 h2 adr => Vr s' adr 1 [⟨1, us, [], sp, nm, 0, [], tx, 0, none, 0, []⟩] hsm.big (by simp [big]) (fun c hc => by rw [List.mem_singleton.1 hc]; exact Nat.zero_le _)
  have hstep : ∀ us tx, us ∈ genUsers → List.length tx ≤ 1000 → ∀ s1 : STM, s1.pl = (Q0 s'.pl [⟨1, us, [], sp, nm, 0, [], tx, 0, []⟩]).1 → (Q0 s'.pl [⟨1, us, [], sp, nm, 0, [], tx, 0, []⟩]).2 = 0 → WW (1 + (i + 1)) s1.pl := fun us tx h1 h2 s1 hp h0 => by
   rw [hp]
   exact hre.step _ (fun ch hch => by rw [List.mem_singleton.1 hch]; exact hmd us tx h1 h2) (by simp) (by simp) h0
  have hstay : WW (1 + (i + 1)) s'.pl := hre.le (by omega)
  repeat' first | refine Wk ?_ | refine Qa.mk (fun h => ?_) (fun h => ?_) | refine Qd.mk (fun ad => ?_) | refine Ke (id := 7) tyOK (by kernel_rfl) [0, 0, 2, 6, 0, 30, 62, 0, 142, 510, 1022, 2047, 4095, 8191, 8191, 0, 49151, 131071] (.node [0, 1, 4, 7] 2 (.node [] 3 (.node3 [] 5 (.node3 [] 6 (.node [] 8 (.node [9] 10 (.node [] 11 (.leaf [12, 13, 14, 15, 16, 17]) 15 (.leaf [11, 12, 13, 14, 16, 17])) 15 (.leaf [10, 11, 12, 13, 14, 16, 17])) 15 (.leaf [8, 9, 10, 11, 12, 13, 14, 16, 17])) 8 (.node [] 6 (.node [9] 10 (.node [] 11 (.leaf [12, 13, 14, 15, 16, 17]) 15 (.leaf [11, 12, 13, 14, 16, 17])) 15 (.leaf [10, 11, 12, 13, 14, 16, 17])) 15 (.leaf [6, 9, 10, 11, 12, 13, 14, 16, 17])) 15 (.node [] 6 (.leaf [8, 9, 10, 11, 12, 13, 14, 16, 17]) 8 (.leaf [6, 9, 10, 11, 12, 13, 14, 16, 17]))) 8 (.node [] 5 (.node [] 6 (.node [9] 10 (.node [] 11 (.leaf [12, 13, 14, 15, 16, 17]) 15 (.leaf [11, 12, 13, 14, 16, 17])) 15 (.leaf [10, 11, 12, 13, 14, 16, 17])) 15 (.leaf [6, 9, 10, 11, 12, 13, 14, 16, 17])) 15 (.leaf [5, 6, 9, 10, 11, 12, 13, 14, 16, 17])) 15 (.node [] 5 (.node [] 6 (.leaf [8, 9, 10, 11, 12, 13, 14, 16, 17]) 8 (.leaf [6, 9, 10, 11, 12, 13, 14, 16, 17])) 8 (.leaf [5, 6, 9, 10, 11, 12, 13, 14, 16, 17]))) 15 (.node [3] 5 (.node [] 6 (.leaf [8, 9, 10, 11, 12, 13, 14, 16, 17]) 8 (.leaf [6, 9, 10, 11, 12, 13, 14, 16, 17])) 8 (.leaf [5, 6, 9, 10, 11, 12, 13, 14, 16, 17]))) 15 (.node [2, 3] 5 (.node [] 6 (.leaf [8, 9, 10, 11, 12, 13, 14, 16, 17]) 8 (.leaf [6, 9, 10, 11, 12, 13, 14, 16, 17])) 8 (.leaf [5, 6, 9, 10, 11, 12, 13, 14, 16, 17]))) [2, 3, 5, 6, 8, 10, 11, 15, 16] [4, 28] 18 true (by kernel_rfl) ?_ | refine X3.mk ?_ ?_ | refine Dz (id := 10) [0,0,0,4,15,31] [0,1,2,3,4,5] [5] [4] 5 true ?_ | refine Qt.mk Qb.a ?_ | (refine Qc.mk [_] [_, _] [_] _ (cu _ _ hg) QW vt (fun v L' D' hp => ?_); obtain ⟨us, gu, rfl, husr, hgu, rfl, rfl⟩ := hp) | (refine Qc.mk [_] [_, _, _] [_] _ (cu _ _ hg) (List.Perm.swap _ _ _) vt (fun v L' D' hp => ?_); obtain ⟨us, gu, rfl, husr, hgu, rfl, rfl⟩ := hp) | (refine Qc.mk [] _ [] _ js QW QX (fun v L' D' hp => ?_); obtain ⟨tb, td, rfl, rfl, rfl⟩ := hp) | refine Qr.a 45 2 (Xe genTitles) (.inl ⟨td, QT⟩) ?_ | refine Qr.a 45 2 (Xe genTitles) (.inl ⟨td, ZR⟩) ?_ | refine Qr.a 45 2 (Xe genTitles) (.inl ⟨td, XQ⟩) ?_ | refine Qi.a 45 _ (Xe genTitles) [.i .i64 sp, .s nm] (.inl ⟨td, QT⟩) (by exact htt) ?_ | refine Qi.a 45 _ (Xe genTitles) [.i .i64 sp, .s nm] (.inl ⟨td, ZR⟩) (by exact htt) ?_ | refine Qi.a 45 _ (Xe genTitles) [.i .i64 sp, .s nm] (.inl ⟨td, XQ⟩) (by exact htt) ?_ | (refine Qc.mk [_] [_, _, _] [_] _ (ct _ _ hgu) (List.Perm.swap _ _ _) vt (fun v L' D' hp => ?_); obtain ⟨tx, gt, rfl, htx, hgt, rfl, rfl⟩ := hp) | (refine Qc.mk [_] [_, _, _, _] [_] _ (ct _ _ hgu) (List.Perm.swap _ _ _) vt (fun v L' D' hp => ?_); obtain ⟨tx, gt, rfl, htx, hgt, rfl, rfl⟩ := hp) | (refine Qc.mk [_] [_, _, _, _] [_] _ (ct _ _ hgu) ((List.perm_append_comm (l₁ := [_, _]) (l₂ := [_])).append_right [_, _]) vt (fun v L' D' hp => ?_); obtain ⟨tx, gt, rfl, htx, hgt, rfl, rfl⟩ := hp) | (refine Qc.mkE [] _ [_, _] _ _ (ap us tx husr htx _) (Qb.toFact.trans (Qb.facts (D' := [WQ _ [⟨1, us, [], sp, nm, 0, [], tx, 0, none, 0, []⟩], QG s', Zj e a l]) fun _ h => ⟨TV h.1 (Z8.nil (e := 0)), h.2.1, h.2.2.1, trivial⟩)) (fun _ h => ⟨h.2.1, h.1, trivial⟩) (fun v L' D' hq => ?_); obtain ⟨s1, rfl, rfl, rfl, hp1⟩ := hq; have hst := hstep us tx husr htx s1 hp1; generalize (Q0 s'.pl [⟨1, us, [], sp, nm, 0, [], tx, 0, []⟩]).2 = er at *) | (refine Qc.mkE [] _ [_, _] _ _ (ap us tx husr htx _) ((Qb.perm (List.Perm.swap _ _ _)).trans (Qb.toFact.trans (Qb.facts (D' := [WQ _ [⟨1, us, [], sp, nm, 0, [], tx, 0, none, 0, []⟩], QG s', Zj e a l]) fun _ h => ⟨TV h.1 (Z8.nil (e := 0)), h.2.1, h.2.2.1, trivial⟩))) (fun _ h => ⟨h.2.1, h.1, trivial⟩) (fun v L' D' hq => ?_); obtain ⟨s1, rfl, rfl, rfl, hp1⟩ := hq; have hst := hstep us tx husr htx s1 hp1; generalize (Q0 s'.pl [⟨1, us, [], sp, nm, 0, [], tx, 0, []⟩]).2 = er at *) | refine Qo.mk (i + 1, s1, gt) (by dsimp only; omega) ⟨hgt, by dsimp only; omega, hst (by assumption)⟩ Qh.a (Qb.ofSub (by repeat (first | exact List.Sublist.slnil | refine List.Sublist.cons_cons _ ?_ | refine List.Sublist.cons _ ?_)) (fun _ h => ⟨h.1, h.2.2.2.1, trivial⟩)) | refine Qo.mk (i + 1, s', gt) (by dsimp only; omega) ⟨hgt, by dsimp only; omega, hstay⟩ Qh.a (Qb.ofSub (by repeat (first | exact List.Sublist.slnil | refine List.Sublist.cons_cons _ ?_ | refine List.Sublist.cons _ ?_)) (fun _ h => ⟨h.2.2.1, h.2.2.2.1, trivial⟩))
 ·have hil : i = q := by omega
  subst hil
  have k7 := cx ad0 g 7 (by omega) (by omega) hg
  have r7 := rr g 7 (by omega)
  have hgx := hgm g hg
  generalize Zr l g 7 = n7 at *
  generalize Xb l g = gx at *
  obtain ⟨N7, rfl⟩ : ∃ N : Nat, n7 = N := ⟨n7.toNat, by omega⟩
  have ca := kr e a c ad0 l gx s' (1 + i) N7 hre hgx hl (by omega)
  clear cx cu ct rr hgm
  repeat' first | refine Wk ?_ | refine Qa.mk (fun h => ?_) (fun h => ?_) | refine Qd.mk (fun ad => ?_) | refine Ke (id := 7) tyOK (by kernel_rfl) [0, 0, 2, 6, 0, 30, 62, 0, 142, 510, 1022, 2047, 4095, 8191, 8191, 0, 49151, 131071] (.node [0, 1, 4, 7] 2 (.node [] 3 (.node3 [] 5 (.node3 [] 6 (.node [] 8 (.node [9] 10 (.node [] 11 (.leaf [12, 13, 14, 15, 16, 17]) 15 (.leaf [11, 12, 13, 14, 16, 17])) 15 (.leaf [10, 11, 12, 13, 14, 16, 17])) 15 (.leaf [8, 9, 10, 11, 12, 13, 14, 16, 17])) 8 (.node [] 6 (.node [9] 10 (.node [] 11 (.leaf [12, 13, 14, 15, 16, 17]) 15 (.leaf [11, 12, 13, 14, 16, 17])) 15 (.leaf [10, 11, 12, 13, 14, 16, 17])) 15 (.leaf [6, 9, 10, 11, 12, 13, 14, 16, 17])) 15 (.node [] 6 (.leaf [8, 9, 10, 11, 12, 13, 14, 16, 17]) 8 (.leaf [6, 9, 10, 11, 12, 13, 14, 16, 17]))) 8 (.node [] 5 (.node [] 6 (.node [9] 10 (.node [] 11 (.leaf [12, 13, 14, 15, 16, 17]) 15 (.leaf [11, 12, 13, 14, 16, 17])) 15 (.leaf [10, 11, 12, 13, 14, 16, 17])) 15 (.leaf [6, 9, 10, 11, 12, 13, 14, 16, 17])) 15 (.leaf [5, 6, 9, 10, 11, 12, 13, 14, 16, 17])) 15 (.node [] 5 (.node [] 6 (.leaf [8, 9, 10, 11, 12, 13, 14, 16, 17]) 8 (.leaf [6, 9, 10, 11, 12, 13, 14, 16, 17])) 8 (.leaf [5, 6, 9, 10, 11, 12, 13, 14, 16, 17]))) 15 (.node [3] 5 (.node [] 6 (.leaf [8, 9, 10, 11, 12, 13, 14, 16, 17]) 8 (.leaf [6, 9, 10, 11, 12, 13, 14, 16, 17])) 8 (.leaf [5, 6, 9, 10, 11, 12, 13, 14, 16, 17]))) 15 (.node [2, 3] 5 (.node [] 6 (.leaf [8, 9, 10, 11, 12, 13, 14, 16, 17]) 8 (.leaf [6, 9, 10, 11, 12, 13, 14, 16, 17])) 8 (.leaf [5, 6, 9, 10, 11, 12, 13, 14, 16, 17]))) [2, 3, 5, 6, 8, 10, 11, 15, 16] [4, 28] 18 true (by kernel_rfl) ?_ | refine X3.mk ?_ ?_ | refine Dz (id := 10) [0,0,0,4,15,31] [0,1,2,3,4,5] [3,4,5] [4] 5 true ?_ | refine Qt.mk Qb.a ?_ | (refine Qc.mk [_] [_, _] [_] _ k7 QW vt (fun v L' D' hp => ?_); obtain ⟨rfl, rfl, rfl⟩ := hp) | (refine Qc.mk [_] [_, _] [_, _] _ ca QW (fun _ h => h) (fun v L' D' hp => ?_); obtain ⟨s2, g3, rfl, hr2, hg3, rfl, rfl⟩ := hp) | refine Qe.mk [] [QG _] ⟨s2, rfl, hr2.le (by omega), rfl, rfl⟩ (Qb.dropAll.trans (Qb.facts fun _ h => ⟨h.1, trivial⟩))
end Go.Proofs
