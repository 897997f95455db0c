/- This text walks through the function Touched of the reference of chapter 27. -/
import Derived.Test.YtcddpbpbebkdmaaGreatDoorK12
import Derived.Test.YtcddpbpbebkdmaaGreatDoorK06
import Derived.Test.YtcddpbpbebkdmaaGreatDoorK14
set_option linter.all false
namespace Go.X
open Go Go.Lib Go.Proofs
def ZS (p : PGM) : TT := (p.sp, p.nm)
def YQ (s : STM) (t : TT) : Bool := (s.pages.find? (X7 t.1 t.2)).isSome
theorem RQ (s : STM) (t : TT) : textV (s.pages.find? (X7 t.1 t.2)) = .t2 (.c (.s (Jp s t))) (.c (.b (YQ s t))) := by
 unfold Jp YQ
 cases s.pages.find? (X7 t.1 t.2) <;> rfl
def ZA (a b : STM) (t : TT) : Bool := !(decide (YQ a t = YQ b t) && decide (Jp a t = Jp b t))
def QO (a b : STM) : List TT := (((a.pages ++ b.pages).map ZS).filter (ZA a b)).foldl (Kg cmpTT) []
theorem LW {l : List PGM} {i : Nat} (h : i < l.length) : ((Qm l).drop (i * 3 + 0)).take 2 = [.i .i64 (ZS l[i]).1, .s (ZS l[i]).2] := XT h
end Go.X
namespace Go.Proofs
open Go Go.X Tryz
set_option maxRecDepth 100000
set_option maxHeartbeats 4000000
theorem UA (a b : STM) (ha : Gp a) (hb : Gp b) (na : a.pages.length ≤ 1000) (nb : b.pages.length ≤ 1000) : FnS prog 29 [.agg a.cells, .agg b.cells] [] [QG a, QG b]
  (fun v L D => ∃ c d, v = .c (.sl c (QO a b).length d) ∧ L = [.row 45 2 c (QO a b).length d (Xe (QO a b))] ∧ D = []) := by
 have hF : QO a b = (((a.pages ++ b.pages).map ZS).filter (ZA a b)).foldl (Kg cmpTT) [] := rfl
 generalize QO a b = F at *
 have hln : (a.pages ++ b.pages).length = a.pages.length + b.pages.length := List.length_append
 have hrow : Qm (a.pages ++ b.pages) = Qm a.pages ++ Qm b.pages := by simp [Qm]
 refine FJ 0 func29 ntmps29 (fun G => ?_)
 repeat' first | refine QF (c := .seq (.region 3 _ _) _) ?_ | refine Wk ?_ | refine Qa.mk (fun h => ?_) (fun h => ?_) | refine Qd.mk (fun ad => ?_) | refine Ds (id := 2) [0,1,3,0,8,31,63] [0,1,3,4,2,5,6] [2,5] [2,3] false ?_ | refine Ds (id := 11) [0,0,2,7,15,31,31,127,255,31,1023,2047,4095] [0,1,2,3,4,5,6,7,8,9,10,11,12] [] [8,58] true ?_ | refine Ds (id := 13) [0,0,2,7,15,31,31,127,255,31,1023,2047] [0,1,2,3,4,5,6,7,8,9,10,11] [] [8,73] true ?_ | refine ZF (id := 14) tyOK (by kernel_rfl) [0, 0, 3, 7, 0, 16, 63, 0, 0, 384, 1023, 2047] [0, 1, 2, 4, 7, 8, 9] 3 [5, 6, 10, 11] 5 [3, 6, 10, 11] [3, 5, 6, 10] [8] 12 false (by kernel_rfl) ?_ | refine X3.mk ?_ ?_ | refine Qt.mk Qb.a ?_ | refine QK.nil (Qm a.pages) a.pages.length rfl rfl rfl (QJ.sl 0 60 _ _ _ _ _ rfl rfl (.inr fun m h => h.1.pages.row) (Zs a.pages)) (by dsimp only; omega) (fun qa qc => ?_) | (refine QK.row [] _ (Qm a.pages) (Qm b.pages) b.pages.length rfl (QJ.sl 0 60 _ _ _ _ _ rfl rfl (.inr fun m h => h.2.1.pages.row) (Zs b.pages)) (by dsimp only; omega) (fun pa pc => ?_); rw [← hln, ← hrow])
 rename_i ad0
 obtain ⟨ad1, had1⟩ : ∃ x, x = ad := ⟨_, rfl⟩
 subst had1
 refine ⟨?_⟩
 have hll : (a.pages ++ b.pages).length ≤ 2000 := by omega
 generalize a.pages ++ b.pages = P at *
 have hrd : ∀ L, Qp L [Qf 60 3 pa P.length (Qm P), QG a, QG b] 60 3 pa P.length (Qm P) := fun L => .inr fun m h => h.1
 clear hln hrow
 repeat' first | refine Wk ?_ | refine Qa.mk (fun h => ?_) (fun h => ?_) | refine Qd.mk (fun ad => ?_)
 refine Qn (α := Nat × List TT × Option Addr × Nat) (fun x => [(2, .c (.p 0 ad0 0)), (3, .c (.p 1 ad1 0)), (5, .c (.sl x.2.2.1 x.2.1.length x.2.2.2)), (6, .c (.sl pa P.length pc)), (7, .c (.i .i64 x.1))]) (fun x => [.row 45 2 x.2.2.1 x.2.1.length x.2.2.2 (Xe x.2.1), .box 1 ad1 27 b.cells, .box 0 ad0 27 a.cells]) (fun _ => [Qf 60 3 pa P.length (Qm P), QG a, QG b]) 2
  (fun x => x.1 ≤ P.length ∧ x.2.1.length ≤ x.1 ∧ F = (((P.drop x.1).map ZS).filter (ZA a b)).foldl (Kg cmpTT) x.2.1) (fun x => P.length - x.1) (Qq.mk (0, [], none, 0) ⟨Nat.zero_le _, Nat.le_refl _, hF⟩ Qh.a (Qb.toFact.trans (Qb.nilRow (ety := 45) (esz := 2)))) (fun x hx => ?_)
 clear hF
 obtain ⟨i, out, b1, d1⟩ := x
 dsimp only at hx ⊢
 obtain ⟨hi, hol, he⟩ := hx
 by_cases hlt : i < P.length
 ·have hg := LW hlt
  rw [List.drop_eq_getElem_cons hlt, List.map_cons, List.filter_cons] at he
  generalize ZS P[i] = t at *
  have cxa := vB a t.1 t.2 ha
  have cxb := vB b t.1 t.2 hb
  rw [RQ] at cxa cxb
  have hds : YQ a t = YQ b t → Jp a t = Jp b t → ZA a b t = false := fun h1 h2 => by unfold ZA; rw [decide_eq_true h1, decide_eq_true h2]; rfl
  have hd1 : ¬ YQ a t = YQ b t → ZA a b t = true := fun h1 => by unfold ZA; rw [decide_eq_false h1]; rfl
  have hd2 : ¬ Jp a t = Jp b t → ZA a b t = true := fun h1 => by unfold ZA; rw [decide_eq_false h1]; simp
  generalize YQ a t = xa at *
  generalize YQ b t = xb at *
  generalize Jp a t = ya at *
  generalize Jp b t = yb at *
  have hskip : ZA a b t = false → F = (((P.drop (i + 1)).map ZS).filter (ZA a b)).foldl (Kg cmpTT) out := fun h => by rw [he, h]; rfl
  have hadd : ZA a b t = true → F = (((P.drop (i + 1)).map ZS).filter (ZA a b)).foldl (Kg cmpTT) (Kg cmpTT out t) := fun h => by rw [he, h]; rfl
  clear he
  repeat' first | refine QF (c := .seq (.region 10 _ _) _) ?_ | refine Wk ?_ | refine Qa.mk (fun h => ?_) (fun h => ?_) | refine Qd.mk (fun ad => ?_) | refine Qr.a 60 3 _ (hrd _) ?_ | refine Zv.mk 60 3 _ _ (hrd _) (by omega) ?_ | refine Qi.a 60 _ _ [.i .i64 t.1, .s t.2] (hrd _) (by exact hg) ?_ | refine Qc.is cxa ?_ (fun _ h => by simp only [QI, Qs, List.cons_append, List.nil_append, and_true] at h ⊢; simp only [h, and_self]) | refine Qc.is cxb ?_ (fun _ h => by simp only [QI, Qs, List.cons_append, List.nil_append, and_true] at h ⊢; simp only [h, and_self]) | refine Qo.mk (i + 1, out, b1, d1) (by dsimp only; omega) ⟨by dsimp only; omega, by dsimp only; omega, hskip (hds (by assumption) (by assumption))⟩ Qh.a Qb.a
  all_goals
   have hF := hadd (by first | exact hd1 (by assumption) | exact hd2 (by assumption))
   clear hadd hskip hds hd1 hd2 cxa cxb
   have hal := H3 (cf := cmpTT) out t
   generalize hW : Kg cmpTT out t = W at *
   refine ⟨?_⟩
   refine J_ent (n' := 3) (env' := [(2, .c (.p 0 ad0 0)), (3, .c (.p 1 ad1 0)), (5, .c (.sl b1 out.length d1)), (6, .c (.sl pa P.length pc)), (7, .c (.i .i64 i)), (8, .c (.p 2 ad 0))]) (L' := [.box 2 ad 45 [.i .i64 t.1, .s t.2], .row 45 2 b1 out.length d1 (Xe out), .box 1 ad1 27 b.cells, .box 0 ad0 27 a.cells]) (D' := [Qf 60 3 pa P.length (Qm P), QG a, QG b]) Qh.a (Qb.ofSub (by repeat (first | exact List.Sublist.slnil | refine List.Sublist.cons_cons _ ?_ | refine List.Sublist.cons _ ?_)) (fun _ h => by simp only [QI, Qs, List.cons_append, List.nil_append, and_true] at h ⊢; simp only [h, and_self])) ?_
   refine XX ZR (fun hnc _ _ => ?_)
   repeat' first | refine Kj (x := .block 2 _) (α := Nat) (fun j => [(2, .c (.p 0 ad0 0)), (3, .c (.p 1 ad1 0)), (5, .c (.sl b1 out.length d1)), (6, .c (.sl pa P.length pc)), (7, .c (.i .i64 i)), (8, .c (.p 2 ad 0)), (13, .c (.i .i64 j))]) (fun _ => [.box 2 ad 45 [.i .i64 t.1, .s t.2], .row 45 2 b1 out.length d1 (Xe out), .box 1 ad1 27 b.cells, .box 0 ad0 27 a.cells]) (fun _ => [Qf 60 3 pa P.length (Qm P), QG a, QG b]) 3 (fun j => j ≤ out.length ∧ W = out.take j ++ Kg cmpTT (out.drop j) t ∧ ∀ h : j < out.length, ¬ cmpTT out[j] t < 0) ?_ (fun j hx => QF ?_) | refine Wk ?_ | refine Qa.mk (fun h => ?_) (fun h => ?_) | refine Qd.mk (fun ad => ?_) | refine QF (c := .loop _) ?_
   ·refine ⟨?_⟩
    refine Qn (α := Nat) (fun j => [(2, .c (.p 0 ad0 0)), (3, .c (.p 1 ad1 0)), (5, .c (.sl b1 out.length d1)), (6, .c (.sl pa P.length pc)), (7, .c (.i .i64 i)), (8, .c (.p 2 ad 0)), (13, .c (.i .i64 j))]) (fun _ => [.box 2 ad 45 [.i .i64 t.1, .s t.2], .row 45 2 b1 out.length d1 (Xe out), .box 1 ad1 27 b.cells, .box 0 ad0 27 a.cells]) (fun _ => [Qf 60 3 pa P.length (Qm P), QG a, QG b]) 3
     (fun j => j ≤ out.length ∧ W = out.take j ++ Kg cmpTT (out.drop j) t) (fun j => out.length - j) (Qq.mk 0 ⟨Nat.zero_le _, hW.symm⟩ Qh.a (Qb.refl _ _)) (fun j hx => ?_)
    obtain ⟨hj, hHj⟩ := hx
    clear hW hF
    by_cases hjl : j < out.length
    ·have hgj := qC hjl
     have hat := Pe (cf := cmpTT) (r := t) hjl
     have htk := List.take_succ_eq_append_getElem hjl
     have cc : FnS prog 71 [.agg [.i .i64 out[j].1, .s out[j].2], .agg [.i .i64 t.1, .s t.2]] [] [] (Is (.c (.i .i64 (cmpTT out[j] t)))) := J6 out[j].1 out[j].2 t.1 t.2
     have hstop : ¬ cmpTT out[j] t < 0 → ∀ h : j < out.length, ¬ cmpTT out[j] t < 0 := fun h _ => h
     generalize out[j] = y at *
     have hstep : cmpTT y t < 0 → W = out.take (j + 1) ++ Kg cmpTT (out.drop (j + 1)) t := fun h => by rw [hHj, hat, if_pos h, htk, List.append_assoc]; rfl
     clear hat htk
     repeat' first | refine Wk ?_ | refine Qa.mk (fun h => ?_) (fun h => ?_) | refine Qd.mk (fun ad => ?_) | refine Ds (id := 2) [0,1,3,0,8,31,63] [0,1,3,4,2,5,6] [2,5] [2,3] false ?_ | refine Ds (id := 11) [0,0,2,7,15,31,31,127,255,31,1023,2047,4095] [0,1,2,3,4,5,6,7,8,9,10,11,12] [] [8,58] true ?_ | refine Ds (id := 13) [0,0,2,7,15,31,31,127,255,31,1023,2047] [0,1,2,3,4,5,6,7,8,9,10,11] [] [8,73] true ?_ | refine ZF (id := 14) tyOK (by kernel_rfl) [0, 0, 3, 7, 0, 16, 63, 0, 0, 384, 1023, 2047] [0, 1, 2, 4, 7, 8, 9] 3 [5, 6, 10, 11] 5 [3, 6, 10, 11] [3, 5, 6, 10] [8] 12 false (by kernel_rfl) ?_ | refine X3.mk ?_ ?_ | refine Qt.mk Qb.a ?_ | refine Qr.a 45 2 _ (.inl ⟨d1, ZR⟩) ?_ | refine Qi.a 45 _ _ [.i .i64 y.1, .s y.2] (.inl ⟨d1, ZR⟩) (by exact hgj) ?_ | refine Qx.mk [] _ cc QX ?_ | refine Qo.mk (j + 1) (by omega) ⟨by omega, hstep (by assumption)⟩ Qh.a (Qb.refl _ _) | refine Qq.mk j ⟨hj, hHj, hstop (by assumption)⟩ Qh.a (Qb.refl _ _)
    ·repeat' first | refine Wk ?_ | refine Qa.mk (fun h => ?_) (fun h => ?_) | refine Qd.mk (fun ad => ?_) | refine Ds (id := 2) [0,1,3,0,8,31,63] [0,1,3,4,2,5,6] [2,5] [2,3] false ?_ | refine Ds (id := 11) [0,0,2,7,15,31,31,127,255,31,1023,2047,4095] [0,1,2,3,4,5,6,7,8,9,10,11,12] [] [8,58] true ?_ | refine Ds (id := 13) [0,0,2,7,15,31,31,127,255,31,1023,2047] [0,1,2,3,4,5,6,7,8,9,10,11] [] [8,73] true ?_ | refine ZF (id := 14) tyOK (by kernel_rfl) [0, 0, 3, 7, 0, 16, 63, 0, 0, 384, 1023, 2047] [0, 1, 2, 4, 7, 8, 9] 3 [5, 6, 10, 11] 5 [3, 6, 10, 11] [3, 5, 6, 10] [8] 12 false (by kernel_rfl) ?_ | refine X3.mk ?_ ?_ | refine Qt.mk Qb.a ?_ | refine Qq.mk j ⟨hj, hHj, fun h => absurd h hjl⟩ Qh.a (Qb.refl _ _)
   ·refine ⟨?_⟩
    clear hW
    obtain ⟨hj, hHj, hns⟩ := hx
    by_cases hjl : j < out.length
    ·have hgj := qC hjl
     have hat := Pe (cf := cmpTT) (r := t) hjl
     have hns := hns hjl
     rw [if_neg hns] at hat
     have hfull : out.take j ++ out.drop j = out := List.take_append_drop j out
     have hxe := Tl (x := out[j]) (y := t)
     have hxn := RP (x := out[j]) (y := t)
     generalize out[j] = y at *
     have hsame : (y.1 = t.1 ∧ y.2 = t.2 ∧ True) → W = out := fun h => by rw [hHj, hat, if_pos (hxe h), hfull]
     have hnew : ¬ (y.1 = t.1 ∧ y.2 = t.2 ∧ True) → W = out.take j ++ t :: out.drop j := fun h => by rw [hHj, hat, if_neg (hxn h)]
     have h6l : ¬ (y.1 = t.1 ∧ y.2 = t.2 ∧ True) → W.length = j + 1 + (out.length - j) := fun h => by rw [hnew h]; simp; omega
     have h6c : ¬ (y.1 = t.1 ∧ y.2 = t.2 ∧ True) → Xe W = Xe (out.take j) ++ [.i .i64 t.1, .s t.2] ++ Xe (out.drop j) := fun h => by rw [hnew h]; simp [Xe]
     have hFo : (y.1 = t.1 ∧ y.2 = t.2 ∧ True) → F = (((P.drop (i + 1)).map ZS).filter (ZA a b)).foldl (Kg cmpTT) out := fun h => by rw [hF, hsame h]
     clear hat hfull hnew hHj hns hxe hxn hsame
     repeat' first | refine Wk ?_ | refine Qa.mk (fun h => ?_) (fun h => ?_) | refine Qd.mk (fun ad => ?_) | refine Ds (id := 2) [0,1,3,0,8,31,63] [0,1,3,4,2,5,6] [2,5] [2,3] false ?_ | refine Ds (id := 11) [0,0,2,7,15,31,31,127,255,31,1023,2047,4095] [0,1,2,3,4,5,6,7,8,9,10,11,12] [] [8,58] true ?_ | refine Ds (id := 13) [0,0,2,7,15,31,31,127,255,31,1023,2047] [0,1,2,3,4,5,6,7,8,9,10,11] [] [8,73] true ?_ | refine ZF (id := 14) tyOK (by kernel_rfl) [0, 0, 3, 7, 0, 16, 63, 0, 0, 384, 1023, 2047] [0, 1, 2, 4, 7, 8, 9] 3 [5, 6, 10, 11] 5 [3, 6, 10, 11] [3, 5, 6, 10] [8] 12 false (by kernel_rfl) ?_ | refine X3.mk ?_ ?_ | refine Qt.mk Qb.a ?_ | refine Qr.a 45 2 _ (.inl ⟨d1, ZR⟩) ?_ | refine Qi.a 45 _ _ [.i .i64 y.1, .s y.2] (.inl ⟨d1, ZR⟩) (by exact hgj) ?_ | refine QK.nil (Xe (out.take j)) j rfl rfl rfl (QJ.sl 45 45 _ _ _ _ _ rfl rfl (ttpre (m := out) (by first | exact List.Mem.head _ | exact List.Mem.tail _ QT | exact List.Mem.tail _ ZR | exact List.Mem.tail _ XQ | exact List.Mem.tail _ X8) rfl hj) (by rw [W4, List.length_take, Nat.min_eq_left hj]; rfl)) (by dsimp only; omega) (fun a' c' => ?_) | refine QK.row [_] _ (Xe (out.take j)) [.i .i64 t.1, .s t.2] 1 rfl (QJ.sl 45 45 _ _ 1 1 _ rfl rfl (.inl ⟨1, QT⟩) rfl) (by dsimp only; omega) (fun a' c' => ?_) | refine QK.row [] _ (Xe (out.take j)) [.i .i64 t.1, .s t.2] 1 rfl (QJ.sl 45 45 _ _ 1 1 _ rfl rfl (.inl ⟨1, ZR⟩) rfl) (by dsimp only; omega) (fun a' c' => ?_) | (refine QK.row [_] _ (Xe (out.take j) ++ [.i .i64 t.1, .s t.2]) (Xe (out.drop j)) (out.length - j) rfl (QJ.sl 45 45 _ _ _ _ _ rfl rfl (GB (m := out) (by first | exact List.Mem.head _ | exact List.Mem.tail _ QT | exact List.Mem.tail _ ZR | exact List.Mem.tail _ XQ | exact List.Mem.tail _ X8) rfl hj hnc) (by rw [W4, List.length_drop]; rfl)) (by dsimp only; omega) (fun a' c' => ?_); rw [← h6l (by assumption), ← h6c (by assumption)]) | (refine QK.row [] _ (Xe (out.take j) ++ [.i .i64 t.1, .s t.2]) (Xe (out.drop j)) (out.length - j) rfl (QJ.sl 45 45 _ _ _ _ _ rfl rfl (GB (m := out) (by first | exact List.Mem.head _ | exact List.Mem.tail _ QT | exact List.Mem.tail _ ZR | exact List.Mem.tail _ XQ | exact List.Mem.tail _ X8) rfl hj hnc) (by rw [W4, List.length_drop]; rfl)) (by dsimp only; omega) (fun a' c' => ?_); rw [← h6l (by assumption), ← h6c (by assumption)]) | refine Qo.mk (i + 1, W, a', c') (by dsimp only; omega) ⟨by dsimp only; omega, by dsimp only; omega, hF⟩ Qh.a Qb.a | refine Qo.mk (i + 1, out, b1, d1) (by dsimp only; omega) ⟨by dsimp only; omega, by dsimp only; omega, hFo (by assumption)⟩ Qh.a Qb.a
    ·have hdn : out.drop j = [] := List.drop_eq_nil_of_le (by omega)
     have hnew : W = out.take j ++ t :: out.drop j := by rw [hHj, hdn]; rfl
     have h6l : W.length = j + 1 + (out.length - j) := by rw [hnew]; simp; omega
     have h6c : Xe W = Xe (out.take j) ++ [.i .i64 t.1, .s t.2] ++ Xe (out.drop j) := by rw [hnew]; simp [Xe]
     clear hHj hnew hns
     repeat' first | refine Wk ?_ | refine Qa.mk (fun h => ?_) (fun h => ?_) | refine Qd.mk (fun ad => ?_) | refine Ds (id := 2) [0,1,3,0,8,31,63] [0,1,3,4,2,5,6] [2,5] [2,3] false ?_ | refine Ds (id := 11) [0,0,2,7,15,31,31,127,255,31,1023,2047,4095] [0,1,2,3,4,5,6,7,8,9,10,11,12] [] [8,58] true ?_ | refine Ds (id := 13) [0,0,2,7,15,31,31,127,255,31,1023,2047] [0,1,2,3,4,5,6,7,8,9,10,11] [] [8,73] true ?_ | refine ZF (id := 14) tyOK (by kernel_rfl) [0, 0, 3, 7, 0, 16, 63, 0, 0, 384, 1023, 2047] [0, 1, 2, 4, 7, 8, 9] 3 [5, 6, 10, 11] 5 [3, 6, 10, 11] [3, 5, 6, 10] [8] 12 false (by kernel_rfl) ?_ | refine X3.mk ?_ ?_ | refine Qt.mk Qb.a ?_ | refine QK.nil (Xe (out.take j)) j rfl rfl rfl (QJ.sl 45 45 _ _ _ _ _ rfl rfl (ttpre (m := out) (by first | exact List.Mem.head _ | exact List.Mem.tail _ QT | exact List.Mem.tail _ ZR | exact List.Mem.tail _ XQ | exact List.Mem.tail _ X8) rfl hj) (by rw [W4, List.length_take, Nat.min_eq_left hj]; rfl)) (by dsimp only; omega) (fun a' c' => ?_) | refine QK.row [_] _ (Xe (out.take j)) [.i .i64 t.1, .s t.2] 1 rfl (QJ.sl 45 45 _ _ 1 1 _ rfl rfl (.inl ⟨1, QT⟩) rfl) (by dsimp only; omega) (fun a' c' => ?_) | refine QK.row [] _ (Xe (out.take j)) [.i .i64 t.1, .s t.2] 1 rfl (QJ.sl 45 45 _ _ 1 1 _ rfl rfl (.inl ⟨1, ZR⟩) rfl) (by dsimp only; omega) (fun a' c' => ?_) | (refine QK.row [_] _ (Xe (out.take j) ++ [.i .i64 t.1, .s t.2]) (Xe (out.drop j)) (out.length - j) rfl (QJ.sl 45 45 _ _ _ _ _ rfl rfl (GB (m := out) (by first | exact List.Mem.head _ | exact List.Mem.tail _ QT | exact List.Mem.tail _ ZR | exact List.Mem.tail _ XQ | exact List.Mem.tail _ X8) rfl hj hnc) (by rw [W4, List.length_drop]; rfl)) (by dsimp only; omega) (fun a' c' => ?_); rw [← h6l, ← h6c]) | (refine QK.row [] _ (Xe (out.take j) ++ [.i .i64 t.1, .s t.2]) (Xe (out.drop j)) (out.length - j) rfl (QJ.sl 45 45 _ _ _ _ _ rfl rfl (GB (m := out) (by first | exact List.Mem.head _ | exact List.Mem.tail _ QT | exact List.Mem.tail _ ZR | exact List.Mem.tail _ XQ | exact List.Mem.tail _ X8) rfl hj hnc) (by rw [W4, List.length_drop]; rfl)) (by dsimp only; omega) (fun a' c' => ?_); rw [← h6l, ← h6c]) | refine Qo.mk (i + 1, W, a', c') (by dsimp only; omega) ⟨by dsimp only; omega, by dsimp only; omega, hF⟩ Qh.a Qb.a
 ·have hil : i = P.length := by omega
  rw [hil, List.drop_length] at he
  have he : F = out := he
  subst he
  repeat' first | refine Wk ?_ | refine Qa.mk (fun h => ?_) (fun h => ?_) | refine Qd.mk (fun ad => ?_) | refine Qe.mk [_] [] ⟨_, _, rfl, rfl, rfl⟩ (Qb.ofSub (by repeat (first | exact List.Sublist.slnil | refine List.Sublist.cons_cons _ ?_ | refine List.Sublist.cons _ ?_)) QX)
end Go.Proofs
namespace Go.Proofs
open Go Go.X Tryz
set_option maxRecDepth 100000
set_option maxHeartbeats 4000000
theorem qF (e e' : Nat) (a b : Option Addr) (c d : Nat) (l : List TT) (hl : l.length ≤ 140737488355328) :
  FnS prog 27 [.c (.sl a l.length c), .c (.sl b l.length d)] [] [Qf e 2 a l.length (Xe l), Qf e' 2 b l.length (Xe l)] (Is tt) := by
 have hr1 : ∀ L, Qp L [Qf e 2 a l.length (Xe l), Qf e' 2 b l.length (Xe l)] e 2 a l.length (Xe l) := fun L => .inr fun m h => h.1
 have hr2 : ∀ L, Qp L [Qf e 2 a l.length (Xe l), Qf e' 2 b l.length (Xe l)] e' 2 b l.length (Xe l) := fun L => .inr fun m h => h.2.1
 refine FJ 0 func27 ntmps27 (fun G => ?_)
 repeat' first | refine Wk ?_ | refine Qa.mk (fun h => ?_) (fun h => ?_) | refine Qd.mk (fun ad => ?_)
 refine Qn (α := Nat) (fun i => [(0, .c (.sl a l.length c)), (1, .c (.sl b l.length d)), (5, .c (.i .i64 i))]) (fun _ => []) (fun _ => [Qf e 2 a l.length (Xe l), Qf e' 2 b l.length (Xe l)]) 0 (fun i => i ≤ l.length) (fun i => l.length - i) (Qq.mk 0 (Nat.zero_le _) Qh.a (Qb.refl _ _)) (fun i hi => ?_)
 by_cases hlt : i < l.length
 ·have hg := qC hlt
  repeat' first | refine Qa.yes ⟨rfl, rfl, trivial⟩ ?_ | refine Wk ?_ | refine Qa.mk (fun h => ?_) (fun h => ?_) | refine Qd.mk (fun ad => ?_) | refine Ds (id := 6) [0,0,3,7,0,0,48,112,255] [0,1,2,3,4,5,6,7,8] [] [19,23] true ?_ | refine Qt.mk Qb.a ?_ | refine Qr.a e 2 _ (hr1 _) ?_ | refine Qr.a e' 2 _ (hr2 _) ?_ | refine Qi.a e _ _ _ (hr1 _) (by exact hg) ?_ | refine Qi.a e' _ _ _ (hr2 _) (by exact hg) ?_ | refine Qo.mk (i + 1) (by omega) (by omega) Qh.a (Qb.refl _ _)
 ·have hil : i = l.length := by omega
  subst hil
  repeat' first | refine Wk ?_ | refine Qa.mk (fun h => ?_) (fun h => ?_) | refine Qd.mk (fun ad => ?_) | refine Qe.is rfl
theorem PK (e e' : Nat) (a b : Option Addr) (c d : Nat) (l : List RV) (hl : l.length ≤ 140737488355328) :
  FnS prog 40 [.c (.sl a l.length c), .c (.sl b l.length d)] [] [Qf e 6 a l.length (Zb l), Qf e' 6 b l.length (Zb l)] (Is tt) := by
 have hr1 : ∀ L, Qp L [Qf e 6 a l.length (Zb l), Qf e' 6 b l.length (Zb l)] e 6 a l.length (Zb l) := fun L => .inr fun m h => h.1
 have hr2 : ∀ L, Qp L [Qf e 6 a l.length (Zb l), Qf e' 6 b l.length (Zb l)] e' 6 b l.length (Zb l) := fun L => .inr fun m h => h.2.1
 refine FJ 0 func40 ntmps40 (fun G => ?_)
 repeat' first | refine Wk ?_ | refine Qa.mk (fun h => ?_) (fun h => ?_) | refine Qd.mk (fun ad => ?_)
 refine Qn (α := Nat) (fun i => [(0, .c (.sl a l.length c)), (1, .c (.sl b l.length d)), (5, .c (.i .i64 i))]) (fun _ => []) (fun _ => [Qf e 6 a l.length (Zb l), Qf e' 6 b l.length (Zb l)]) 0 (fun i => i ≤ l.length) (fun i => l.length - i) (Qq.mk 0 (Nat.zero_le _) Qh.a (Qb.refl _ _)) (fun i hi => ?_)
 by_cases hlt : i < l.length
 ·have hg := Yo hlt
  repeat' first | refine Qa.yes ⟨rfl, rfl, rfl, rfl, rfl, rfl, trivial⟩ ?_ | refine Wk ?_ | refine Qa.mk (fun h => ?_) (fun h => ?_) | refine Qd.mk (fun ad => ?_) | refine Ds (id := 6) [0,0,3,7,0,0,48,112,255] [0,1,2,3,4,5,6,7,8] [] [19,23] true ?_ | refine Qt.mk Qb.a ?_ | refine Qr.a e 6 _ (hr1 _) ?_ | refine Qr.a e' 6 _ (hr2 _) ?_ | refine Qi.a e _ _ _ (hr1 _) (by exact hg) ?_ | refine Qi.a e' _ _ _ (hr2 _) (by exact hg) ?_ | refine Qo.mk (i + 1) (by omega) (by omega) Qh.a (Qb.refl _ _)
 ·have hil : i = l.length := by omega
  subst hil
  repeat' first | refine Wk ?_ | refine Qa.mk (fun h => ?_) (fun h => ?_) | refine Qd.mk (fun ad => ?_) | refine Qe.is rfl
theorem PL (e e' : Nat) (a b : Option Addr) (c d : Nat) (l : List PP) (hl : l.length ≤ 140737488355328) :
  FnS prog 74 [.c (.sl a l.length c), .c (.sl b l.length d)] [] [Qf e 8 a l.length (XI l), Qf e' 8 b l.length (XI l)] (Is tt) := by
 have hr1 : ∀ L, Qp L [Qf e 8 a l.length (XI l), Qf e' 8 b l.length (XI l)] e 8 a l.length (XI l) := fun L => .inr fun m h => h.1
 have hr2 : ∀ L, Qp L [Qf e 8 a l.length (XI l), Qf e' 8 b l.length (XI l)] e' 8 b l.length (XI l) := fun L => .inr fun m h => h.2.1
 refine FJ 0 func74 ntmps74 (fun G => ?_)
 repeat' first | refine Wk ?_ | refine Qa.mk (fun h => ?_) (fun h => ?_) | refine Qd.mk (fun ad => ?_)
 refine Qn (α := Nat) (fun i => [(0, .c (.sl a l.length c)), (1, .c (.sl b l.length d)), (5, .c (.i .i64 i))]) (fun _ => []) (fun _ => [Qf e 8 a l.length (XI l), Qf e' 8 b l.length (XI l)]) 0 (fun i => i ≤ l.length) (fun i => l.length - i) (Qq.mk 0 (Nat.zero_le _) Qh.a (Qb.refl _ _)) (fun i hi => ?_)
 by_cases hlt : i < l.length
 ·have hg := zG hlt
  repeat' first | refine Qa.yes ⟨rfl, rfl, rfl, ⟨rfl, rfl, trivial⟩, rfl, rfl, rfl, trivial⟩ ?_ | refine Wk ?_ | refine Qa.mk (fun h => ?_) (fun h => ?_) | refine Qd.mk (fun ad => ?_) | refine Ds (id := 6) [0,0,3,7,0,0,48,112,255] [0,1,2,3,4,5,6,7,8] [] [19,23] true ?_ | refine Qt.mk Qb.a ?_ | refine Qr.a e 8 _ (hr1 _) ?_ | refine Qr.a e' 8 _ (hr2 _) ?_ | refine Qi.a e _ _ _ (hr1 _) (by exact hg) ?_ | refine Qi.a e' _ _ _ (hr2 _) (by exact hg) ?_ | refine Qo.mk (i + 1) (by omega) (by omega) Qh.a (Qb.refl _ _)
 ·have hil : i = l.length := by omega
  subst hil
  repeat' first | refine Wk ?_ | refine Qa.mk (fun h => ?_) (fun h => ?_) | refine Qd.mk (fun ad => ?_) | refine Qe.is rfl
theorem PJ (e e' : Nat) (a b : Option Addr) (c d : Nat) (l : List WT) (hl : l.length ≤ 140737488355328) :
  FnS prog 39 [.c (.sl a l.length c), .c (.sl b l.length d)] [] [Qf e 3 a l.length (ZM l), Qf e' 3 b l.length (ZM l)] (Is tt) := by
 have hr1 : ∀ L, Qp L [Qf e 3 a l.length (ZM l), Qf e' 3 b l.length (ZM l)] e 3 a l.length (ZM l) := fun L => .inr fun m h => h.1
 have hr2 : ∀ L, Qp L [Qf e 3 a l.length (ZM l), Qf e' 3 b l.length (ZM l)] e' 3 b l.length (ZM l) := fun L => .inr fun m h => h.2.1
 refine FJ 0 func39 ntmps39 (fun G => ?_)
 repeat' first | refine Wk ?_ | refine Qa.mk (fun h => ?_) (fun h => ?_) | refine Qd.mk (fun ad => ?_)
 refine Qn (α := Nat) (fun i => [(0, .c (.sl a l.length c)), (1, .c (.sl b l.length d)), (5, .c (.i .i64 i))]) (fun _ => []) (fun _ => [Qf e 3 a l.length (ZM l), Qf e' 3 b l.length (ZM l)]) 0 (fun i => i ≤ l.length) (fun i => l.length - i) (Qq.mk 0 (Nat.zero_le _) Qh.a (Qb.refl _ _)) (fun i hi => ?_)
 by_cases hlt : i < l.length
 ·have hg := VH hlt
  repeat' first | refine Qa.yes ⟨rfl, ⟨rfl, rfl, trivial⟩, trivial⟩ ?_ | refine Wk ?_ | refine Qa.mk (fun h => ?_) (fun h => ?_) | refine Qd.mk (fun ad => ?_) | refine Ds (id := 6) [0,0,3,7,0,0,48,112,255] [0,1,2,3,4,5,6,7,8] [] [19,23] true ?_ | refine Qt.mk Qb.a ?_ | refine Qr.a e 3 _ (hr1 _) ?_ | refine Qr.a e' 3 _ (hr2 _) ?_ | refine Qi.a e _ _ _ (hr1 _) (by exact hg) ?_ | refine Qi.a e' _ _ _ (hr2 _) (by exact hg) ?_ | refine Qo.mk (i + 1) (by omega) (by omega) Qh.a (Qb.refl _ _)
 ·have hil : i = l.length := by omega
  subst hil
  repeat' first | refine Wk ?_ | refine Qa.mk (fun h => ?_) (fun h => ?_) | refine Qd.mk (fun ad => ?_) | refine Qe.is rfl
theorem PM (e e' : Nat) (a b : Option Addr) (c d : Nat) (l : List LU) (hl : l.length ≤ 140737488355328) :
  FnS prog 75 [.c (.sl a l.length c), .c (.sl b l.length d)] [] [Qf e 2 a l.length (ZV l), Qf e' 2 b l.length (ZV l)] (Is tt) := by
 have hr1 : ∀ L, Qp L [Qf e 2 a l.length (ZV l), Qf e' 2 b l.length (ZV l)] e 2 a l.length (ZV l) := fun L => .inr fun m h => h.1
 have hr2 : ∀ L, Qp L [Qf e 2 a l.length (ZV l), Qf e' 2 b l.length (ZV l)] e' 2 b l.length (ZV l) := fun L => .inr fun m h => h.2.1
 refine FJ 0 func75 ntmps75 (fun G => ?_)
 repeat' first | refine Wk ?_ | refine Qa.mk (fun h => ?_) (fun h => ?_) | refine Qd.mk (fun ad => ?_)
 refine Qn (α := Nat) (fun i => [(0, .c (.sl a l.length c)), (1, .c (.sl b l.length d)), (5, .c (.i .i64 i))]) (fun _ => []) (fun _ => [Qf e 2 a l.length (ZV l), Qf e' 2 b l.length (ZV l)]) 0 (fun i => i ≤ l.length) (fun i => l.length - i) (Qq.mk 0 (Nat.zero_le _) Qh.a (Qb.refl _ _)) (fun i hi => ?_)
 by_cases hlt : i < l.length
 ·have hg := zL hlt
  repeat' first | refine Qa.yes ⟨rfl, rfl, trivial⟩ ?_ | refine Wk ?_ | refine Qa.mk (fun h => ?_) (fun h => ?_) | refine Qd.mk (fun ad => ?_) | refine Ds (id := 6) [0,0,3,7,0,0,48,112,255] [0,1,2,3,4,5,6,7,8] [] [19,23] true ?_ | refine Qt.mk Qb.a ?_ | refine Qr.a e 2 _ (hr1 _) ?_ | refine Qr.a e' 2 _ (hr2 _) ?_ | refine Qi.a e _ _ _ (hr1 _) (by exact hg) ?_ | refine Qi.a e' _ _ _ (hr2 _) (by exact hg) ?_ | refine Qo.mk (i + 1) (by omega) (by omega) Qh.a (Qb.refl _ _)
 ·have hil : i = l.length := by omega
  subst hil
  repeat' first | refine Wk ?_ | refine Qa.mk (fun h => ?_) (fun h => ?_) | refine Qd.mk (fun ad => ?_) | refine Qe.is rfl
theorem jZ (p q : PGM) (h : p.pl = q.pl) (hl : p.hist.length ≤ 140737488355328) : FnS prog 37 [.agg p.cells, .agg q.cells] [] [Qf 0 6 p.ha p.hist.length (Zb p.hist), Qf 0 6 q.ha q.hist.length (Zb q.hist)] (Is tt) := by
 obtain ⟨sp, nm, ha, hc, hist⟩ := p
 obtain ⟨sp', nm', ha', hc', hist'⟩ := q
 simp only [PGM.pl, SP.mk.injEq] at h
 obtain ⟨rfl, rfl, rfl⟩ := h
 unfold PGM.cells
 dsimp only at hl ⊢
 have cs := PK 0 0 ha ha' hc hc' hist hl
 refine FJ 0 func37 ntmps37 (fun G => ?_)
 repeat' first | refine Qa.yes ⟨rfl, rfl, trivial⟩ ?_ | refine Wk ?_ | refine Qa.mk (fun h => ?_) (fun h => ?_) | refine Qd.mk (fun ad => ?_) | fail | refine Qc.is cs ?_ (fun _ h => h) | refine Qx.mk [] _ cs (fun _ h => h) ?_ | refine Qe.is rfl
theorem xw (a b : Option Addr) (c d : Nat) (l k : List PGM) (h : l.map PGM.pl = k.map PGM.pl) (hl : l.length ≤ 140737488355328) (hh : ∀ p ∈ l, p.hist.length ≤ 140737488355328) :
  FnS prog 38 [.c (.sl a l.length c), .c (.sl b k.length d)] [] [H7 a l, H7 b k] (Is tt) := by
 have hr1 : ∀ L, Qp L [H7 a l, H7 b k] 0 3 a l.length (Qm l) := fun L => .inr fun m h => h.1.row
 have hr2 : ∀ L, Qp L [H7 a l, H7 b k] 0 3 b k.length (Qm k) := fun L => .inr fun m h => h.2.1.row
 have hlk : k.length = l.length := by have := congrArg List.length h; simp at this; exact this.symm
 rw [hlk] at hr2 ⊢
 refine FJ 0 func38 ntmps38 (fun G => ?_)
 repeat' first | refine Wk ?_ | refine Qa.mk (fun h => ?_) (fun h => ?_) | refine Qd.mk (fun ad => ?_)
 refine Qn (α := Nat) (fun i => [(0, .c (.sl a l.length c)), (1, .c (.sl b l.length d)), (5, .c (.i .i64 i))]) (fun _ => []) (fun _ => [H7 a l, H7 b k]) 0 (fun i => i ≤ l.length) (fun i => l.length - i) (Qq.mk 0 (Nat.zero_le _) Qh.a (Qb.refl _ _)) (fun i hi => ?_)
 by_cases hlt : i < l.length
 ·have hg := Z5 hlt
  have hlt' : i < k.length := by omega
  have hg' := Z5 hlt'
  have hm := List.getElem_mem hlt
  have hm' := List.getElem_mem hlt'
  have heq : l[i].pl = k[i].pl := by
   have := congrArg (fun x => x[i]?) h
   simpa [hlt, hlt'] using this
  have cs := jZ l[i] k[i] heq (hh _ hm)
  generalize l[i] = p at *
  generalize k[i] = q at *
  unfold PGM.cells at cs
  repeat' first | refine Wk ?_ | refine Qa.mk (fun h => ?_) (fun h => ?_) | refine Qd.mk (fun ad => ?_) | refine Ds (id := 6) [0,0,3,7,0,0,48,112,255,511] [0,1,2,3,4,5,6,7,8,9] [] [19,23] true ?_ | refine Qt.mk Qb.a ?_ | refine Qr.a 0 3 _ (hr1 _) ?_ | refine Qr.a 0 3 _ (hr2 _) ?_ | refine Qi.a 0 _ _ _ (hr1 _) (by exact hg) ?_ | refine Qi.a 0 _ _ _ (hr2 _) (by exact hg') ?_ | refine Qx.mk [_, _] _ cs (fun _ h => ⟨h.1.his p hm, h.2.1.his q hm', trivial⟩) ?_ | refine Qc.is cs ?_ (fun _ h => ⟨h.1.his p hm, h.2.1.his q hm', trivial⟩) | refine Qo.mk (i + 1) (by omega) (by omega) Qh.a (Qb.refl _ _)
 ·have hil : i = l.length := by omega
  subst hil
  repeat' first | refine Wk ?_ | refine Qa.mk (fun h => ?_) (fun h => ?_) | refine Qd.mk (fun ad => ?_) | refine Qe.is rfl
theorem xv (s t : STM) (h : s.pl = t.pl) (hs : Gp s) : FnS prog 31 [.agg s.cells, .agg t.cells] [] [QG s, QG t] (Is tt) := by
 obtain ⟨sq, ck, pa, pc, pages, ga, gc, gone, qa, qc, props, pr, wa, wc, watches, la, lc, lasts⟩ := s
 obtain ⟨sq', ck', pa', pc', pages', ga', gc', gone', qa', qc', props', pr', wa', wc', watches', la', lc', lasts'⟩ := t
 simp only [STM.pl, ST.mk.injEq] at h
 obtain ⟨rfl, rfl, h1, h2, rfl, rfl, rfl, rfl⟩ := h
 have c1 := xw pa pa' pc pc' pages pages' h1 hs.pages hs.ph
 have c2 := xw ga ga' gc gc' gone gone' h2 hs.gone hs.gh
 have c3 := PL 0 0 qa qa' qc qc' props hs.props
 have c4 := PJ 0 0 wa wa' wc wc' watches hs.watches
 have c5 := PM 0 0 la la' lc lc' lasts hs.lasts
 unfold STM.cells
 dsimp only
 refine FJ 0 func31 ntmps31 (fun G => ?_)
 repeat' first | refine Qa.yes rfl ?_ | refine Wk ?_ | refine Qa.mk (fun h => ?_) (fun h => ?_) | refine Qd.mk (fun ad => ?_) | fail | refine Qc.is c1 ?_ (fun _ h => ⟨h.1.pages, h.2.1.pages, trivial⟩) | refine Qc.is c2 ?_ (fun _ h => ⟨h.1.gone, h.2.1.gone, trivial⟩) | refine Qc.is c3 ?_ (fun _ h => ⟨h.1.props, h.2.1.props, trivial⟩) | refine Qc.is c4 ?_ (fun _ h => ⟨h.1.watches, h.2.1.watches, trivial⟩) | refine Qc.is c5 ?_ (fun _ h => ⟨h.1.lasts, h.2.1.lasts, trivial⟩) | refine Qe.is rfl
end Go.Proofs
namespace Go.X
open Go Go.Lib
def qR {α : Type} [DecidableEq α] : α → List α → List α
 | _, [] => []
 | p, y :: r => if y = p then qR p r else y :: qR y r
def cmG {α : Type} [DecidableEq α] : List α → List α
 | [] => []
 | x :: r => x :: qR x r
def vf (l : List TT) (i : Nat) : TT := l.getD i (0, [])
theorem qH {l : List TT} {i : Nat} (h : i < l.length) : vf l i = l[i] := by
 unfold vf; rw [List.getD_eq_getElem?_getD, List.getElem?_eq_getElem h]; rfl
theorem Pp (l : List TT) (k : Nat) : (Xe l).take (k * 2) = Xe (l.take k) := by
 by_cases h : k ≤ l.length
 ·exact YU (F := ttF2) (z := 2) (fun _ => rfl) l k h
 ·rw [List.take_of_length_le (by rw [W4]; omega), List.take_of_length_le (by omega)]
theorem HC {m l : List TT} {d i : Nat} (h : m.drop d = l.drop d) (hi : d ≤ i) (h1 : i < m.length) (h2 : i < l.length) : m[i] = l[i] := by
 have := congrArg (fun x => x[i - d]?) h
 simp only [List.getElem?_drop, show d + (i - d) = i by omega, List.getElem?_eq_getElem h1, List.getElem?_eq_getElem h2] at this
 exact Option.some.inj this
theorem rsubT {e : Nat} {a : Option Addr} {n c k : Nat} {m : List TT} {L : List Chunk} {D : List Fact} (hm : Chunk.row e 2 a n c (Xe m) ∈ L) (hn : m.length = n) (hk : k < n) (hc : n ≤ c) : Qp L D e 2 (Z9 a k c 2) (n - k) (Xe (m.drop k)) := GB hm hn (by omega) hc
theorem RO {m : List TT} {k i : Nat} (h : k + i < m.length) : ((Xe (m.drop k)).drop (i * 2 + 0)).take 2 = [.i .i64 m[k + i].1, .s m[k + i].2] := by
 rw [qC (l := m.drop k) (i := i) (by rw [List.length_drop]; omega)]
 simp
theorem Lr {l : List TT} {j : Nat} (hj : j < l.length) (x : TT) : QP (j * 2 + 0) (ttF2 x) (Xe l) = Xe (l.set j x) := by
 have key : ∀ (l : List TT) (j : Nat), j < l.length → QP (j * 2) (ttF2 x) (l.flatMap ttF2) = (l.set j x).flatMap ttF2 := by
  intro l
  induction l with
  | nil => intro j h; simp at h
  | cons y r ih =>
   intro j h
   cases j with
   | zero =>
    simp only [List.flatMap_cons, List.set_cons_zero, Nat.zero_mul, QP, List.take_zero, List.nil_append, Nat.zero_add]
    rw [show (ttF2 x).length = (ttF2 y).length from rfl, List.drop_left]
   | succ j =>
    have := ih j (by simpa using h)
    simp only [List.flatMap_cons, List.set_cons_succ, ← this, QP]
    rw [show (j + 1) * 2 = (ttF2 y).length + j * 2 by show (j + 1) * 2 = 2 + j * 2; omega, List.take_append, List.take_of_length_le (by omega), Nat.add_sub_cancel_left, Nat.add_assoc, ← List.drop_drop, List.drop_left]
    simp
 exact key l j hj
theorem yJ {α : Type} [DecidableEq α] {cf : α → α → Int} (hc : H8 cf) (he : ∀ x y, cf x y = 0 → x = y) : ∀ (r : List α) (p : α), (p :: r).Pairwise (fun x y => cf x y ≤ 0) → H4 cf (p :: qR p r) ∧ ∀ z, z ∈ p :: qR p r ↔ z ∈ p :: r
 | [], p, _ => ⟨List.pairwise_singleton _ _, fun z => Iff.rfl⟩
 | y :: r, p, h => by
  have h1 := List.pairwise_cons.1 h
  rw [qR]
  by_cases hy : y = p
  ·subst hy
   rw [if_pos rfl]
   obtain ⟨i1, i2⟩ := yJ hc he r y h1.2
   exact ⟨i1, fun z => by rw [i2]; simp⟩
  ·rw [if_neg hy]
   obtain ⟨i1, i2⟩ := yJ hc he r y h1.2
   have hpy : cf p y < 0 := by
    have h0 := h1.1 y (List.mem_cons_self ..)
    have : cf p y ≠ 0 := fun e => hy (he _ _ e).symm
    omega
   refine ⟨List.pairwise_cons.2 ⟨fun z hz => ?_, i1⟩, fun z => ?_⟩
   ·rcases List.mem_cons.1 ((i2 z).1 hz) with rfl | hz'
    ·exact hpy
    ·have h2 := (List.pairwise_cons.1 h1.2).1 z hz'
     exact hc.lt_trans hpy h2
   ·rw [List.mem_cons, i2, List.mem_cons (a := z) (b := p)]
theorem Ns {α : Type} [DecidableEq α] {cf : α → α → Int} (hc : H8 cf) (he : ∀ x y, cf x y = 0 → x = y) (l : List α) (h : l.Pairwise (fun x y => cf x y ≤ 0)) : H4 cf (cmG l) ∧ ∀ z, z ∈ cmG l ↔ z ∈ l := by
 cases l with
 | nil => exact ⟨List.Pairwise.nil, fun z => Iff.rfl⟩
 | cons x r => exact yJ hc he r x h
instance : Inhabited TT := ⟨(0, [])⟩
end Go.X
namespace Go.Proofs
open Go Go.X Tryz
set_option maxRecDepth 100000
set_option maxHeartbeats 8000000
theorem insTt0 (g : Nat) : FnS prog 149 [.c (.sl none 0 0), .c (.i .i64 0), .c (.i .i64 0), .c (.fn g [])] [] [] (Is .t0) := by
 refine FJ 0 func149 ntmps149 (fun G => ?_)
 repeat' first | refine Wk ?_ | refine Qa.mk (fun h => ?_) (fun h => ?_) | refine Qd.mk (fun ad => ?_) | refine Ji 1 ?_ | refine Kf ?_ | refine Qe.is rfl
theorem pdqTt0 (g : Nat) : FnS prog 108 [.c (.sl none 0 0), .c (.i .i64 0), .c (.i .i64 0), .c (.i .i64 0), .c (.fn g [])] [] [] (Is .t0) := by
 refine FJ 0 func108 ntmps108 (fun G => ?_)
 repeat' first | refine Wk ?_ | refine Qa.mk (fun h => ?_) (fun h => ?_) | refine Qd.mk (fun ad => ?_) | refine Ji 1 ?_ | refine Kf ?_ | refine Qc.is (insTt0 g) ?_ | refine Qe.is rfl
theorem Lx (g : Nat) : FnS prog 67 [.c (.sl none 0 0), .c (.fn g [])] [] [] (Is .t0) := by
 refine FJ 0 func67 ntmps67 (fun G => ?_)
 repeat' first | refine Wk ?_ | refine Qa.mk (fun h => ?_) (fun h => ?_) | refine Qd.mk (fun ad => ?_) | refine Qc.is (pdqTt0 g) ?_ | refine Qc.is HU ?_ | refine Qe.is rfl
theorem Py (a : Option Addr) (c : Nat) (l : List TT) (hl : l.length < 4611686018427387904) :
  FnS prog 67 [.c (.sl a l.length c), .c (.fn 68 [])] [.row 45 2 a l.length c (Xe l)] []
   (fun v L D => ∃ l' : List TT, l'.Perm l ∧ l'.Pairwise (fun x y => ltOf cmpTT y x = false) ∧ v = .t0 ∧ L = [.row 45 2 a l.length c (Xe l')] ∧ D = []) :=
 Nk (F := ttF2) (lt := ltOf cmpTT) (fun _ => rfl) (fun x y hy => by simp [ttF2] at hy; rcases hy with rfl | rfl <;> rfl) (Lx _)
  (fun blk cap d w hH hblk hsz => AnyQ.slices_SortFunc Tryz.sortF_Title 2 Tryz.isAgg45 Tryz.sizeOf45 (jG ttF2) (fun _ => rfl) (fun x v hv => by simp [jG, ttF2] at hv; rcases hv with rfl | rfl <;> rfl) cmpTT Vp.swo 68 #[] blk 0 cap d w
   (enters_of func68 (by kernel_rfl) rfl) (fun m os dk hs x y => Go.Y.exact_of (Sm := ⟨Jh.strict⟩) rfl (Go.Y.compare_ok (Sm := ⟨Jh.strict⟩) x.1 x.2 y.1 y.2) _) hH hblk hsz) a c l hl
theorem Eh (a : Option Addr) (c : Nat) (l : List TT) (hl : l.length ≤ 10000000) :
  FnS prog 69 [.c (.sl a l.length c)] [.row 45 2 a l.length c (Xe l)] []
   (fun v L D => v = .c (.sl a (cmG l).length c) ∧ L = [.row 45 2 a (cmG l).length c (Xe (cmG l))] ∧ D = []) := by
 by_cases h2 : l.length < 2
 ·have he : cmG l = l := by
   match l, h2 with
   | [], _ => rfl
   | [x], _ => rfl
   | x :: y :: r, h => simp at h; omega
  rw [he]
  refine FJ 0 func69 ntmps69 (fun G => ?_)
  repeat' first | refine Wk ?_ | refine Qa.mk (fun h => ?_) (fun h => ?_) | refine Qd.mk (fun ad => ?_) | refine Qe.mk [_] [] ⟨rfl, rfl, rfl⟩ (Qb.refl _ _)
 ·generalize hq : cmG l = q
  refine FJ 0 func69 ntmps69 (fun G => ?_)
  refine XX QT (fun hnc _ _ => ?_)
  repeat' first | refine Wk ?_ | refine Qa.mk (fun h => ?_) (fun h => ?_) | refine Qd.mk (fun ad => ?_)
  refine Qn (α := Nat) (fun k => [(0, .c (.sl a l.length c)), (3, .c (.i .i64 k))]) (fun _ => [.row 45 2 a l.length c (Xe l)]) (fun _ => []) 0
   (fun k => 1 ≤ k ∧ k ≤ l.length ∧ q = l.take k ++ qR (vf l (k - 1)) (l.drop k)) (fun k => l.length - k) (Qq.mk 1 ⟨Nat.le_refl _, by omega, ?_⟩ Qh.a (Qb.refl _ _)) (fun k hx => ?_)
  ·rw [← hq]
   match l, h2 with
   | [], h => simp at h
   | x :: r, _ => rfl
  obtain ⟨hk1, hkn, he⟩ := hx
  by_cases hlt : k < l.length
  ·have hg := qC hlt
   have hkk : ((k : Int) - 1).toNat = k - 1 := by omega
   have hg1 : ((Xe l).drop (((k : Int) - 1).toNat * 2 + 0)).take 2 = [.i .i64 l[k - 1].1, .s l[k - 1].2] := by rw [hkk]; exact qC (by omega)
   have hn1 : vf l (k - 1) = l[k - 1] := qH (by omega)
   have hyes : l[k] = l[k - 1] → q = l.take k ++ qR (vf l k) (l.drop (k + 1)) := fun h => by
    rw [he, List.drop_eq_getElem_cons hlt, qR, hn1, if_pos h, qH hlt, h]
   have hno : ¬ l[k] = l[k - 1] → q = l.take (k + 1) ++ qR (vf l k) (l.drop (k + 1)) := fun h => by
    rw [he, List.drop_eq_getElem_cons hlt, qR, hn1, if_neg h, qH hlt, List.take_succ_eq_append_getElem hlt, List.append_assoc]
    rfl
   repeat' first | refine QF (c := .seq (.region 7 _ _) _) ?_ | refine Wk ?_ | refine Qa.mk (fun h => ?_) (fun h => ?_) | refine Qd.mk (fun ad => ?_) | refine Ds (id := 6) [0,0,3,7,0,0,32,112,240,511] [0,1,2,3,4,5,6,7,8,9] [] [18,23] true ?_ | refine Ds (id := 11) [0,0,3,7,0,0,32,112,240,511] [0,1,2,3,4,5,6,7,8,9] [] [37,42] true ?_ | refine Qt.mk Qb.a ?_ | refine Qr.a 45 2 _ (.inl ⟨c, QT⟩) ?_ | refine Qi.a 45 _ _ _ (.inl ⟨c, QT⟩) hg ?_ | refine Qi.a 45 _ _ _ (.inl ⟨c, QT⟩) hg1 ?_ | refine Qo.mk (k + 1) (by omega) ⟨by omega, by omega, ?_⟩ Qh.a (Qb.refl _ _)
   ·have hxy := Tl h
    have hq0 := hyes hxy
    clear hyes hno hg hg1 hn1 hkk he
    refine ⟨?_⟩
    refine J_ent (n' := 0) (env' := [(0, .c (.sl a l.length c)), (3, .c (.i .i64 k))]) Qh.a (Qb.refl _ _) ?_
    repeat' first | refine Wk ?_ | refine Qa.mk (fun h => ?_) (fun h => ?_) | refine Qd.mk (fun ad => ?_)
    refine Qn (α := Nat × Nat × List TT) (fun x => [(0, .c (.sl a l.length c)), (3, .c (.i .i64 x.2.1)), (4, .c (.sl (Z9 a k c 2) (l.length - k) (c - k))), (5, .c (.i .i64 x.1))]) (fun x => [.row 45 2 a l.length c (Xe x.2.2)]) (fun _ => []) 0
     (fun x => 1 ≤ x.1 ∧ x.1 ≤ l.length - k ∧ k ≤ x.2.1 ∧ x.2.1 ≤ k + x.1 - 1 ∧ x.2.2.length = l.length ∧ x.2.2.drop (k + x.1 - 1) = l.drop (k + x.1 - 1) ∧ q = x.2.2.take x.2.1 ++ qR (vf l (k + x.1 - 1)) (l.drop (k + x.1))) (fun x => l.length - x.1) (Qq.mk (1, k, l) ⟨Nat.le_refl _, by dsimp only; omega, Nat.le_refl _, by dsimp only; omega, rfl, rfl, by dsimp only; exact hq0⟩ Qh.a (Qb.refl _ _)) (fun x hx => ?_)
    obtain ⟨j, i, m⟩ := x
    dsimp only at hx ⊢
    obtain ⟨hj1, hj2, hki, hij, hml, hdr, hq1⟩ := hx
    have hR : Qp [.row 45 2 a l.length c (Xe m)] [] 45 2 (Z9 a k c 2) (l.length - k) (Xe (m.drop k)) := rsubT QT hml (by omega) hnc
    by_cases hjl : j < l.length - k
    ·have e1 := HC hdr (i := k + j) (by omega) (by omega) (by omega)
     have e2 := HC hdr (i := k + (j - 1)) (by omega) (by omega) (by omega)
     have hg := RO (m := m) (k := k) (i := j) (by omega)
     rw [e1] at hg
     have hg1 : ((Xe (m.drop k)).drop (((j : Int) - 1).toNat * 2 + 0)).take 2 = [.i .i64 l[k + (j - 1)].1, .s l[k + (j - 1)].2] := by
      rw [show ((j : Int) - 1).toNat = j - 1 by omega]
      have := RO (m := m) (k := k) (i := j - 1) (by omega)
      rw [e2] at this
      exact this
     have hst : QP (i * 2 + 0) (ttF2 l[k + j]) (Xe m) = Xe (m.set i l[k + j]) := Lr (by omega) _
     have hn1 : vf l (k + j - 1) = l[k + (j - 1)] := by rw [qH (by omega)]; simp only [show k + j - 1 = k + (j - 1) by omega]
     have hyes : l[k + j] = l[k + (j - 1)] → q = m.take i ++ qR (vf l (k + (j + 1) - 1)) (l.drop (k + (j + 1))) := fun h => by
      rw [hq1, List.drop_eq_getElem_cons (show k + j < l.length by omega), qR, hn1, if_pos h, show k + (j + 1) - 1 = k + j by omega, qH (by omega), h]
      rfl
     have hno : ¬ l[k + j] = l[k + (j - 1)] → q = (m.set i l[k + j]).take (i + 1) ++ qR (vf l (k + (j + 1) - 1)) (l.drop (k + (j + 1))) := fun h => by
      rw [hq1, List.drop_eq_getElem_cons (show k + j < l.length by omega), qR, hn1, if_neg h, show k + (j + 1) - 1 = k + j by omega, qH (by omega), List.take_succ_eq_append_getElem (by rw [List.length_set]; omega), List.append_assoc]
      simp [List.take_set_of_le]
      rfl
     have hdr1 : m.drop (k + (j + 1) - 1) = l.drop (k + (j + 1) - 1) := by
      rw [show k + (j + 1) - 1 = (k + j - 1) + 1 by omega, ← List.drop_drop, hdr, List.drop_drop]
     have hdr2 : (m.set i l[k + j]).drop (k + (j + 1) - 1) = l.drop (k + (j + 1) - 1) := by
      rw [List.drop_set_of_lt (by omega)]; exact hdr1
     repeat' first | refine Wk ?_ | refine Qa.mk (fun h => ?_) (fun h => ?_) | refine Qd.mk (fun ad => ?_) | refine Ds (id := 6) [0,0,3,7,0,0,32,112,240,511] [0,1,2,3,4,5,6,7,8,9] [] [18,23] true ?_ | refine Ds (id := 11) [0,0,3,7,0,0,32,112,240,511] [0,1,2,3,4,5,6,7,8,9] [] [37,42] true ?_ | refine Qt.mk Qb.a ?_ | refine Qr.a 45 2 _ hR ?_ | refine Qr.a 45 2 _ (.inl ⟨c, QT⟩) ?_ | refine Qi.a 45 _ _ _ hR hg ?_ | refine Qi.a 45 _ _ _ hR hg1 ?_ | refine Xp.mk [] _ _ _ _ _ _ rfl (by omega) (by omega) (Nat.le_of_ble_eq_true rfl) hst ?_ | refine Qo.mk (j + 1, i, m) (by dsimp only; omega) ⟨by dsimp only; omega, by dsimp only; omega, hki, by dsimp only; omega, hml, hdr1, hyes (Tl (by assumption))⟩ Qh.a (Qb.refl _ _) | refine Qo.mk (j + 1, i + 1, m.set i l[k + j]) (by dsimp only; omega) ⟨by dsimp only; omega, by dsimp only; omega, by dsimp only; omega, by dsimp only; omega, by rw [List.length_set]; exact hml, hdr2, hno (RP (by assumption))⟩ Qh.a (Qb.refl _ _)
    ·have hjn : j = l.length - k := by omega
     subst hjn
     rw [show l.drop (k + (l.length - k)) = [] from List.drop_eq_nil_of_le (by omega)] at hq1
     have hq1 : q = m.take i ++ [] := hq1
     rw [List.append_nil] at hq1
     have hql : q.length = i := by rw [hq1, List.length_take]; omega
     have hwl := W4 m
     repeat' first | refine Wk ?_ | refine Qa.mk (fun h => ?_) (fun h => ?_) | refine Qd.mk (fun ad => ?_) | refine z1.mk [] _ _ _ _ (i : Int).toNat _ _ rfl (if_neg (by omega)) (by omega) ?_ | refine Qe.mk [_] [] ⟨?_, rfl, rfl⟩ ((Qb.rowPre (k := i) (by omega)).trans (Qb.of ?_))
     ·show V.c (C.sl (Z9 a 0 c 2) (i : Int).toNat c) = _
      rw [Jq, hql, Int.toNat_natCast]
     ·show [Chunk.row _ 2 a i c ((QP ((i : Int).toNat * 2) (XA (l.length - (i : Int).toNat) [C.i .i64 0, C.s []]) (Xe m)).take (i * 2))] = _
      rw [Int.toNat_natCast, vH (by omega), Pp, ← hq1, hql]
   ·exact hno (RP h)
  ·have hkl : k = l.length := by omega
   subst hkl
   rw [List.take_length, List.drop_length] at he
   have he : q = l ++ [] := he
   rw [List.append_nil] at he
   subst he
   repeat' first | refine Wk ?_ | refine Qa.mk (fun h => ?_) (fun h => ?_) | refine Qd.mk (fun ad => ?_) | refine Qe.mk [_] [] ⟨rfl, rfl, rfl⟩ (Qb.refl _ _)
end Go.Proofs
namespace Go.X
open Go Go.Lib
theorem Rx {x y zs : List C} (h : zs.length = x.length + y.length) : QP x.length y (QP 0 x zs) = x ++ y := by
 unfold QP
 rw [List.take_zero, List.nil_append, Nat.zero_add, List.take_left, List.drop_append]
 have h1 : x.drop (x.length + y.length) = [] := List.drop_eq_nil_of_le (by omega)
 have h2 : (zs.drop x.length).drop (x.length + y.length - x.length) = [] := List.drop_eq_nil_of_le (by rw [List.length_drop]; omega)
 rw [h1, h2]; simp
abbrev zPG : List C := [.i .i64 0, .s [], .sl none 0 0]
theorem cat_pg (p q : List PGM) : QP (p.length * 3) (Qm q) (QP (0 * 3) (Qm p) (XA (p.length + q.length) zPG)) = Qm (p ++ q) := by
 rw [Nat.zero_mul, ← Zs, Rx (by rw [ZH, Zs, Zs, Nat.add_mul]; rfl)]
 simp [Qm]
end Go.X
namespace Go.Proofs
open Go Go.X Tryz
set_option maxRecDepth 100000
set_option maxHeartbeats 4000000
theorem S2 (n : Nat) (hn : n ≤ 100000) : FnS prog 107 [.c (.sl none 0 0), .c (.i .i64 n)] [] [] (fun v L D => ∃ a c, v = .c (.sl a 0 c) ∧ L = [.row 60 3 a n c (XA n zPG)] ∧ D = []) := by
 refine FJ 0 func107 ntmps107 (fun G => ?_)
 by_cases h0 : n = 0
 ·subst h0
  repeat' first | refine Wk ?_ | refine Qa.mk (fun h => ?_) (fun h => ?_) | refine Qd.mk (fun ad => ?_) | refine Qe.mk [_] [] ⟨none, 0, rfl, rfl, rfl⟩ Qb.nilRow
 ·repeat' first | refine Wk ?_ | refine Qa.mk (fun h => ?_) (fun h => ?_) | refine Qd.mk (fun ad => ?_) | refine QK.zero [] .i64 n (congrArg (fun t => V.c (C.i .i64 t)) (by omega)) rfl (by omega) (by omega) (by dsimp only; omega) (.inr fun m _ => Z8.nil) rfl (fun a' c' => ?_)
  refine Qe.mk [_] [] ⟨a', c', congrArg (fun t => V.c (.sl t 0 c')) (Jq _ _ _), rfl, rfl⟩ (Qb.of (congrArg (fun t => [Chunk.row 60 3 a' t c' (XA n zPG)]) (Nat.zero_add n)))
theorem Rr (e : Nat) (r : Option Addr) (rc : Nat) (pa qa : Option Addr) (pc qc : Nat) (p q : List PGM) (hp : p.length ≤ 1000) (hq : q.length ≤ 1000) : FnS prog 66 [.c (.sl r 2 rc)] [] [Qf e 1 r 2 [.sl pa p.length pc, .sl qa q.length qc], Qf 0 3 pa p.length (Qm p), Qf 0 3 qa q.length (Qm q)]
  (fun v L D => ∃ a c, v = .c (.sl a (p.length + q.length) c) ∧ L = [] ∧ D = [Qf 60 3 a (p.length + q.length) (Qm (p ++ q))]) := by
 have cg := fun (x : Int) (hx : x = ((p.length + q.length : Nat) : Int)) => (show FnS prog 107 [.c (.sl none 0 0), .c (.i .i64 x)] [] [] _ from hx ▸ S2 (p.length + q.length) (by omega))
 have hc : QP ((0 + p.length) * 3) (Qm q) (QP (0 * 3) (Qm p) (XA (p.length + q.length) zPG)) = Qm (p ++ q) := by rw [Nat.zero_add]; exact cat_pg p q
 have hr : ∀ L, Qp L [Qf e 1 r 2 [.sl pa p.length pc, .sl qa q.length qc], Qf 0 3 pa p.length (Qm p), Qf 0 3 qa q.length (Qm q)] e 1 r 2 [.sl pa p.length pc, .sl qa q.length qc] := fun L => .inr fun m h => h.1
 refine FJ 0 func66 ntmps66 (fun G => ?_)
 repeat' first | refine Wk ?_ | refine Qa.mk (fun h => ?_) (fun h => ?_) | refine Qd.mk (fun ad => ?_) | refine Ji 3 ?_ | refine Kf ?_ | refine Qr.a e 1 _ (hr _) ?_ | refine Qi.a e 2 _ _ (hr _) rfl ?_ | (refine Qc.mk [] _ [] _ (cg _ (by omega)) QW QX (fun v L' D' hq => ?_); obtain ⟨a, c, rfl, rfl, rfl⟩ := hq) | refine QK.pre [] _ (p.length + q.length) _ _ (Qm p) _ p.length rfl rfl (QJ.sl 0 60 _ _ _ _ _ rfl rfl (.inr fun m h => h.2.1) (Zs p)) (by omega) rfl ?_ | refine QK.pre [] _ (p.length + q.length) _ _ (Qm q) _ q.length rfl rfl (QJ.sl 0 60 _ _ _ _ _ rfl rfl (.inr fun m h => h.2.2.1) (Zs q)) (by omega) rfl ?_ | refine Qe.mk [] [_] ⟨a, c, congrArg (fun t => V.c (.sl a (t + q.length) c)) (Nat.zero_add _), rfl, rfl⟩ ((Qb.of (congrArg (fun t => [Chunk.row 60 3 a (p.length + q.length) c t]) hc)).trans (Qb.toFact.trans (Qb.facts fun _ h => ⟨h.1, trivial⟩)))
abbrev Page2 (o : Option PGM) : V → List Chunk → List Fact → Prop := fun v L D => ∃ q : PGM, v = .t2 (.agg q.cells) (.c (.b o.isSome)) ∧ L = [] ∧ D = [Qf 73 6 q.ha q.hist.length (Zb q.hist)] ∧ q.pl = ((o.map PGM.pl).getD ⟨0, [], []⟩)
theorem xG (s : STM) (sp : Int) (nm : Bs) (hs : s.pages.length ≤ big) (hh : ∀ p ∈ s.pages, p.hist.length ≤ 1000) : FnS prog 36 [.agg s.cells, .agg [.i .i64 sp, .s nm]] [] [QG s] (Page2 (s.pages.find? (X7 sp nm))) :=
 (UW s sp nm hs hh).entsP fun v L D h => by
  cases hf : s.pages.find? (X7 sp nm) with
  | none =>
   rw [hf] at h
   obtain ⟨rfl, rfl, rfl⟩ := h
   exact ⟨[], [Qf 73 6 none 0 (Zb [])], Qb.facts fun _ _ => ⟨Z8.nil (e := 73), trivial⟩, ⟨0, [], none, 0, []⟩, rfl, rfl, rfl, rfl⟩
  | some p =>
   rw [hf] at h
   obtain ⟨a, c, rfl, rfl, rfl⟩ := h
   exact ⟨[], _, Qb.refl _ _, ⟨p.sp, p.nm, a, c, p.hist⟩, rfl, rfl, rfl, rfl⟩
theorem wB (a b : STM) (ha : Gp a) (hb : Gp b) (na : a.pages.length ≤ 1000) (nb : b.pages.length ≤ 1000) (ja : ∀ p ∈ a.pages, p.hist.length ≤ 1000) (jb : ∀ p ∈ b.pages, p.hist.length ≤ 1000) : FnS prog 28 [.agg a.cells, .agg b.cells] [] [QG a, QG b]
  (fun v L D => ∃ c d, v = .c (.sl c (QO a b).length d) ∧ L = [.row 45 2 c (QO a b).length d (Xe (QO a b))] ∧ D = []) := by
 have hln : (a.pages ++ b.pages).length = a.pages.length + b.pages.length := List.length_append
 have cc := fun e r rc => Rr e r rc a.pa b.pa a.pc b.pc a.pages b.pages na nb
 refine FJ 0 func28 ntmps28 (fun G => ?_)
 repeat' first | refine Wk ?_ | refine Qa.mk (fun h => ?_) (fun h => ?_) | refine Qd.mk (fun ad => ?_) | (refine Qc.mkE [] _ [_, _, _] _ _ (cc 1 _ _) Qb.toFact (fun _ h => ⟨h.1, h.2.1.pages.row, h.2.2.1.pages.row, trivial⟩) (fun v L' D' hq => ?_); obtain ⟨pa, pc, rfl, rfl, rfl⟩ := hq)
 rename_i ad0 ad1
 clear cc
 rw [← hln]
 have hll : (a.pages ++ b.pages).length ≤ 2000 := by omega
 have hTW : QO a b = (((a.pages ++ b.pages).map ZS).filter (ZA a b)).foldl (Kg cmpTT) [] := rfl
 generalize QO a b = TW at *
 generalize a.pages ++ b.pages = P at *
 have hrd : ∀ L, Qp L [Qf 60 3 pa P.length (Qm P), QG a, QG b] 60 3 pa P.length (Qm P) := fun L => .inr fun m h => h.1
 clear hln
 refine Qn (α := Nat × List TT × Option Addr × Nat) (fun x => [(2, .c (.p 0 ad0 0)), (3, .c (.p 1 ad1 0)), (5, .c (.sl x.2.2.1 x.2.1.length x.2.2.2)), (17, .c (.sl pa P.length pc)), (18, .c (.i .i64 P.length)), (19, .c (.i .i64 x.1))]) (fun x => [.row 45 2 x.2.2.1 x.2.1.length x.2.2.2 (Xe x.2.1), .box 1 ad1 27 b.cells, .box 0 ad0 27 a.cells]) (fun _ => [Qf 60 3 pa P.length (Qm P), QG a, QG b]) 2
  (fun x => x.1 ≤ P.length ∧ x.2.1.length ≤ x.1 ∧ x.2.1 = ((P.take x.1).map ZS).filter (ZA a b)) (fun x => P.length - x.1) (Qq.mk (0, [], none, 0) ⟨Nat.zero_le _, Nat.le_refl _, rfl⟩ Qh.a ((Qb.nilRow (ety := 45) (esz := 2)).trans ((Qb.ofSub (by repeat (first | exact List.Sublist.slnil | refine List.Sublist.cons_cons _ ?_ | refine List.Sublist.cons _ ?_)) (fun _ h => h)).trans (Qb.facts fun _ h => ⟨h.1, h.2.2.1, h.2.2.2.1, trivial⟩)))) (fun x hx => ?_)
 obtain ⟨i, out, b1, d1⟩ := x
 dsimp only at hx ⊢
 obtain ⟨hi, hol, he⟩ := hx
 by_cases hlt : i < P.length
 ·have hg := Z5 hlt
  have htk : (P.take (i + 1)).map ZS = (P.take i).map ZS ++ [ZS P[i]] := by rw [List.take_succ_eq_append_getElem hlt, List.map_append]; rfl
  have hskip : ZA a b (ZS P[i]) = false → out = ((P.take (i + 1)).map ZS).filter (ZA a b) := fun h => by rw [htk, List.filter_append, ← he, List.filter_cons, h]; simp
  have hadd : ZA a b (ZS P[i]) = true → out ++ [ZS P[i]] = ((P.take (i + 1)).map ZS).filter (ZA a b) := fun h => by rw [htk, List.filter_append, ← he, List.filter_cons, h]; simp
  have cxa := xG a P[i].sp P[i].nm ha.pages ja
  have cxb := xG b P[i].sp P[i].nm hb.pages jb
  have hds : YQ a (ZS P[i]) = YQ b (ZS P[i]) → Jp a (ZS P[i]) = Jp b (ZS P[i]) → ZA a b (ZS P[i]) = false := fun h1 h2 => by unfold ZA; rw [decide_eq_true h1, decide_eq_true h2]; rfl
  have hd1 : ¬ YQ a (ZS P[i]) = YQ b (ZS P[i]) → ZA a b (ZS P[i]) = true := fun h1 => by unfold ZA; rw [decide_eq_false h1]; rfl
  have hd2 : ¬ Jp a (ZS P[i]) = Jp b (ZS P[i]) → ZA a b (ZS P[i]) = true := fun h1 => by unfold ZA; rw [decide_eq_false h1]; simp
  have hxa : ∀ q : PGM, q.pl = ((a.pages.find? (X7 P[i].sp P[i].nm)).map PGM.pl).getD ⟨0, [], []⟩ → (J1 q.hist).text = Jp a (ZS P[i]) ∧ q.hist.length ≤ 1000 := fun q h => by
   unfold Jp ZS
   have h2 : q.hist = (((a.pages.find? (X7 P[i].sp P[i].nm)).map PGM.pl).getD ⟨0, [], []⟩).hist := congrArg SP.hist h
   rw [h2]
   cases hf : a.pages.find? (X7 P[i].sp P[i].nm) with
   | none => exact ⟨rfl, Nat.zero_le _⟩
   | some p => exact ⟨rfl, ja p (List.mem_of_find?_eq_some hf)⟩
  have hxb : ∀ q : PGM, q.pl = ((b.pages.find? (X7 P[i].sp P[i].nm)).map PGM.pl).getD ⟨0, [], []⟩ → (J1 q.hist).text = Jp b (ZS P[i]) ∧ q.hist.length ≤ 1000 := fun q h => by
   unfold Jp ZS
   have h2 : q.hist = (((b.pages.find? (X7 P[i].sp P[i].nm)).map PGM.pl).getD ⟨0, [], []⟩).hist := congrArg SP.hist h
   rw [h2]
   cases hf : b.pages.find? (X7 P[i].sp P[i].nm) with
   | none => exact ⟨rfl, Nat.zero_le _⟩
   | some p => exact ⟨rfl, jb p (List.mem_of_find?_eq_some hf)⟩
  change FnS _ _ _ _ _ (fun v L D => ∃ q : PGM, v = .t2 (.agg q.cells) (.c (.b (YQ a (ZS P[i])))) ∧ L = [] ∧ D = [_] ∧ _) at cxa
  change FnS _ _ _ _ _ (fun v L D => ∃ q : PGM, v = .t2 (.agg q.cells) (.c (.b (YQ b (ZS P[i])))) ∧ L = [] ∧ D = [_] ∧ _) at cxb
  have htt : ZS P[i] = (P[i].sp, P[i].nm) := rfl
  have cuc := fun (q : PGM) (h : q.hist.length ≤ 1000) => Vo 73 q (by show _ ≤ 140737488355328; omega)
  generalize (a.pages.find? (X7 P[i].sp P[i].nm)).map PGM.pl = oa at *
  generalize (b.pages.find? (X7 P[i].sp P[i].nm)).map PGM.pl = ob at *
  generalize YQ a (ZS P[i]) = xa at *
  generalize YQ b (ZS P[i]) = xb at *
  generalize Jp a (ZS P[i]) = ya at *
  generalize Jp b (ZS P[i]) = yb at *
  generalize ZA a b (ZS P[i]) = df at *
  generalize hnx : ((P.take (i + 1)).map ZS).filter (ZA a b) = nx at *
  generalize ZS P[i] = tt at *
  generalize P[i] = p at *
  clear htk hTW
  repeat' first | refine QF (c := .seq (.region 7 _ _) _) ?_ | refine Wk ?_ | refine Qa.mk (fun h => ?_) (fun h => ?_) | refine Qd.mk (fun ad => ?_) | refine Qr.a 60 3 _ (hrd _) ?_ | refine Qi.a 60 _ _ [.i .i64 p.sp, .s p.nm, .sl p.ha p.hist.length p.hc] (hrd _) (by exact hg) ?_ | (refine Qc.mk [] _ [_] _ cxa QW vt (fun v L' D' hq => ?_); obtain ⟨qa, rfl, rfl, rfl, hqa⟩ := hq) | (refine Qc.mk [] _ [_] _ cxb QW (fun _ h => ⟨h.2.2.2.1, trivial⟩) (fun v L' D' hq => ?_); obtain ⟨qb, rfl, rfl, rfl, hqb⟩ := hq)
  refine ⟨?_⟩
  obtain ⟨ta, la⟩ := hxa qa hqa
  obtain ⟨tb, lb⟩ := hxb qb hqb
  have cua := cuc qa la
  have cub := cuc qb lb
  clear cuc cxa cxb hxa hxb hg
  have hn1 : xa = xb → (J1 qa.hist).text = (J1 qb.hist).text → out = nx := fun h1 h2 => hskip (hds h1 (by rw [← ta, ← tb]; exact h2))
  have hn2 : ¬ (J1 qa.hist).text = (J1 qb.hist).text → out ++ [tt] = nx := fun h2 => hadd (hd2 (by rw [← ta, ← tb]; exact h2))
  have hn3 : ¬ xa = xb → out ++ [tt] = nx := fun h1 => hadd (hd1 h1)
  have hap : Xe out ++ [.i .i64 p.sp, .s p.nm] = Xe (out ++ [tt]) := by rw [htt]; simp [Xe]
  have hla : out.length + 1 = (out ++ [tt]).length := by simp
  have hnl : (out ++ [tt]).length ≤ i + 1 := by omega
  clear hskip hadd hds hd1 hd2 ta tb la lb hqa hqb htt
  generalize J1 qa.hist = ra at *
  generalize J1 qb.hist = rb at *
  obtain ⟨asp, anm, aha, ahc, ahi⟩ := qa
  obtain ⟨bsp, bnm, bha, bhc, bhi⟩ := qb
  obtain ⟨psp, pnm, pha, phc, phi⟩ := p
  unfold PGM.cells at cua cub ⊢
  unfold RV.cells at cua cub
  dsimp only at *
  repeat' first | refine Wk ?_ | refine Qa.mk (fun h => ?_) (fun h => ?_) | refine Qd.mk (fun ad => ?_) | refine Ds (id := 7) [0,0,3,7,15,31,63,15,191,447,1023,2047] [0,1,2,3,4,5,6,7,8,9,10,11] [] [8,10] true ?_ | refine Qt.mk Qb.a ?_ | refine Qx.mk [_] _ cua vt ?_ | refine Qx.mk [_] _ cub Kh ?_ | (refine QK.row [_, _, _, _] _ (Xe out) [.i .i64 psp, .s pnm] 1 rfl (QJ.sl 45 45 _ _ 1 _ _ rfl rfl (.inl ⟨_, QT⟩) rfl) (by dsimp only; omega) (fun b2 d2 => ?_); rw [hap, hla]) | refine Qo.mk (i + 1, out, b1, d1) (by dsimp only; omega) ⟨by dsimp only; omega, by dsimp only; omega, (hn1 (by assumption) (by assumption)).trans hnx.symm⟩ Qh.a (Qb.ofSub (by repeat (first | exact List.Sublist.slnil | refine List.Sublist.cons_cons _ ?_ | refine List.Sublist.cons _ ?_)) (fun _ h => ⟨h.2.2.1, h.2.2.2.1, h.2.2.2.2.1, trivial⟩)) | refine Qo.mk (i + 1, out ++ [tt], b2, d2) (by dsimp only; omega) ⟨by dsimp only; omega, by dsimp only; omega, by first | exact (hn3 (by assumption)).trans hnx.symm | exact (hn2 (by assumption)).trans hnx.symm⟩ Qh.a (Qb.ofSub (by repeat (first | exact List.Sublist.slnil | refine List.Sublist.cons_cons _ ?_ | refine List.Sublist.cons _ ?_)) (fun _ h => ⟨h.2.2.1, h.2.2.2.1, h.2.2.2.2.1, trivial⟩))
 ·have hil : i = P.length := by omega
  rw [hil, List.take_length] at he
  have cs := Py b1 d1 out (by omega)
  have cc : ∀ l' : List TT, l'.length = out.length → FnS prog 69 [.c (.sl b1 out.length d1)] [.row 45 2 b1 out.length d1 (Xe l')] [] _ := fun l' h => (show _ from h ▸ Eh b1 d1 l' (by omega))
  have hfin : ∀ l' : List TT, l'.Perm out → l'.Pairwise (fun x y => ltOf cmpTT y x = false) → cmG l' = TW := fun l' hp hw => by
   have h1 := Ns Vp qw l' (hw.imp fun {x y} h => by
    have h2 := Vp.swap x y
    have h3 : ¬ cmpTT y x < 0 := of_decide_eq_false h
    omega)
   have h2 := xV Vp qw ((P.map ZS).filter (ZA a b)) [] List.Pairwise.nil
   rw [hTW]
   refine UE Vp h1.1 h2.1 fun z => ?_
   rw [h1.2, h2.2, hp.mem_iff, he]
   simp
  clear hTW he
  repeat' first | refine Wk ?_ | refine Qa.mk (fun h => ?_) (fun h => ?_) | refine Qd.mk (fun ad => ?_) | (refine Qc.mk [_] [_, _] [] _ cs QW QX (fun v L' D' hq => ?_); obtain ⟨l', hperm, hpw, rfl, rfl, rfl⟩ := hq) | (refine Qc.mk [_] [_, _] [] _ (cc l' hperm.length_eq) QW QX (fun v L' D' hq => ?_); obtain ⟨rfl, rfl, rfl⟩ := hq; rw [hfin l' hperm hpw]) | refine Qe.mk [_] [] ⟨b1, d1, rfl, rfl, rfl⟩ Qb.a
end Go.Proofs
