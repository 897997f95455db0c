/- This text walks through the functions of the reference of chapter 26 that check a change. -/
import Derived.Test.YtcddpbpbebkdmaaGreatDoorK05
import Derived.Test.YtcddpbpbebkdmaaGreatDoorK02
set_option linter.all false
namespace Go.X
open Go Go.Lib
theorem Ws (c : CH) : KZ c = true ↔ (1 ≤ c.kind ∧ c.kind ≤ 10) ∧ ((c.kind = 1 ∨ c.kind = 9) ∨ (c.note = [] ∧ c.text = [])) ∧ ((c.kind = 4 ∨ c.kind = 6 ∨ c.kind = 9 ∨ c.kind = 10) ∨ c.n = 0) ∧ ((¬ c.kind = 6 ∧ ¬ c.kind = 10) ∨ (c.sp = 0 ∧ c.nm = [])) ∧ (¬ c.kind = 6 ∨ c.user = []) ∧ (c.kind = 4 ∨ (c.tsp = 0 ∧ c.tnm = [])) ∧ (c.kind = 5 ∨ c.hist = []) := by
 simp only [KZ, noteK, numK, jt, Bool.and_eq_true, Bool.or_eq_true, decide_eq_true_eq, Bool.not_eq_true', decide_eq_false_iff_not, and_assoc, or_assoc]
theorem Vq {i mi : Int} {r : RV} : Yx i mi r = true ↔ r.num = i + 1 ∧ r.seq = 0 ∧ Xg r.user = true ∧ 0 ≤ r.min ∧ r.min ≤ 52595999 ∧ mi ≤ r.min := by
 simp only [Yx, Bool.and_eq_true, decide_eq_true_eq, and_assoc]
theorem kz {i mi : Int} {l : List RV} {k : Nat} (h : k < l.length) : XV i mi (l.drop k) = (Yx i mi l[k] && XV (i + 1) l[k].min (l.drop (k + 1))) := by
 rw [List.drop_eq_getElem_cons h, XV]
theorem S3 {l : List RV} {i : Nat} (h : i < l.length) : l.getD i default = l[i] := by
 rw [List.getD_eq_getElem?_getD, List.getElem?_eq_getElem h]; rfl
def W9 (l : List RV) (i : Nat) : Int := if i = 0 then 0 else (l.getD (i - 1) default).min
theorem UR {l : List RV} {i : Nat} (h : i < l.length) : W9 l (i + 1) = l[i].min := by
 unfold W9
 rw [if_neg (by omega), Nat.add_sub_cancel, List.getD_eq_getElem?_getD, List.getElem?_eq_getElem h]; rfl
theorem rv_min {l : List RV} {i : Nat} (h : i < l.length) : ((Zb l).drop (i * 6 + 4)).take 1 = [.i .i64 l[i].min] := by
 rw [Zb, QL (F := RV.cells) (z := 6) (fun _ => rfl) h (by omega)]; rfl
theorem UJ {l : List RV} {i : Nat} (h : i < l.length) : ((Zb l).drop (i * 6 + 3)).take 1 = [.s l[i].text] := by
 rw [Zb, QL (F := RV.cells) (z := 6) (fun _ => rfl) h (by omega)]; rfl
theorem LB {l : List RV} {i : Nat} (h : i < l.length) : ((Zb l).drop (i * 6 + 2)).take 1 = [.s l[i].note] := by
 rw [Zb, QL (F := RV.cells) (z := 6) (fun _ => rfl) h (by omega)]; rfl
end Go.X
namespace Go.Proofs
open Go Go.X Tryz
set_option maxRecDepth 100000
set_option maxHeartbeats 4000000
theorem vA (s : Bs) : FnS prog 134 [.c (.s s)] [] [] (Is (.c (.b (Xg s)))) := by
 have c1 := Vh s
 have hu : Xg s = (decide (s = []) || QV s) := rfl
 refine FJ 0 func134 ntmps134 (fun G => ?_)
 repeat' first | refine Wk ?_ | refine Qa.mk (fun h => ?_) (fun h => ?_) | refine Qd.mk (fun ad => ?_) | refine Qc.isB c1 (fun h1 => ?_) (fun h1 => ?_) | refine Qe.bool ?_
 all_goals (rw [hu]; simp [*])
theorem Re (c : CHM) : FnS prog 84 [.agg c.cells] [] [] (Is (.c (.b (KZ c.pl)))) := by
 have hW := Ws c.pl
 change _ ↔ (1 ≤ c.kind ∧ c.kind ≤ 10) ∧ ((c.kind = 1 ∨ c.kind = 9) ∨ (c.note = [] ∧ c.text = [])) ∧ ((c.kind = 4 ∨ c.kind = 6 ∨ c.kind = 9 ∨ c.kind = 10) ∨ c.n = 0) ∧ ((¬ c.kind = 6 ∧ ¬ c.kind = 10) ∨ (c.sp = 0 ∧ c.nm = [])) ∧ (¬ c.kind = 6 ∨ c.user = []) ∧ (c.kind = 4 ∨ (c.tsp = 0 ∧ c.tnm = [])) ∧ (c.kind = 5 ∨ c.hist = []) at hW
 generalize KZ c.pl = W at *
 have hh : c.hist = [] ↔ (c.hist.length : Int) = 0 := by
  rw [← List.length_eq_zero_iff]; omega
 rw [hh] at hW
 clear hh
 obtain ⟨kd, us, no, sp, nm, tsp, tnm, tx, n, ha, hc, hi⟩ := c
 dsimp only at hW
 refine FJ 0 func84 ntmps84 (fun G => ?_)
 repeat' first | refine Wk ?_ | refine Qa.mk (fun h => ?_) (fun h => ?_) | refine Qd.mk (fun ad => ?_) | refine Qe.bool ?_
 all_goals grind
theorem Ra (e : Nat) (a : Option Addr) (c : Nat) (l : List RV) (hl : l.length ≤ 9223372036854775807) : FnS prog 135 [.c (.sl a l.length c)] [] [Qf e 6 a l.length (Zb l)] (Is (.c (.b (Z7 l)))) := by
 have hrd : ∀ L, Qp L [Qf e 6 a l.length (Zb l)] e 6 a l.length (Zb l) := fun L => .inr fun m h => h.1
 obtain ⟨W, hW⟩ : ∃ W, Z7 l = W := ⟨_, rfl⟩
 rw [hW]
 have hno : ¬ (1 ≤ l.length ∧ l.length ≤ 40) → W = false := fun h => by
  rw [← hW, Z7]
  by_cases h1 : 1 ≤ (l.length : Int)
  ·rw [decide_eq_false (show ¬ (l.length : Int) ≤ 40 by omega)]; simp
  ·rw [decide_eq_false h1]; simp
 have hyes : 1 ≤ l.length ∧ l.length ≤ 40 → W = XV 0 0 l := fun h => by
  rw [← hW, Z7, decide_eq_true (show (1 : Int) ≤ (l.length : Int) by omega), decide_eq_true (show (l.length : Int) ≤ 40 by omega)]; simp
 clear hW
 refine FJ 0 func135 ntmps135 (fun G => ?_)
 repeat' first | refine Wk ?_ | refine Qa.mk (fun h => ?_) (fun h => ?_) | refine Qd.mk (fun ad => ?_) | refine Qe.bool ?_
 ·exact hno (by omega)
 ·exact hno (by omega)
 have hyes := hyes (by omega)
 clear hno
 refine Qn (α := Nat) (fun i => [(0, .c (.sl a l.length c)), (3, .c (.i .i64 i))]) (fun _ => []) (fun _ => [Qf e 6 a l.length (Zb l)]) 0
  (fun i => i ≤ l.length ∧ W = XV i (W9 l i) (l.drop i)) (fun i => l.length - i) (Qq.mk 0 ⟨Nat.zero_le _, hyes⟩ Qh.a (Qb.refl _ _)) (fun i hx => ?_)
 obtain ⟨hi, he⟩ := hx
 by_cases hlt : i < l.length
 ·have hg := Yo hlt
  have hpm := UR hlt
  have hpi : W9 l i = if i = 0 then 0 else (l.getD (i - 1) default).min := rfl
  have hg1 : 0 < i → ((Zb l).drop (((i : Int) - 1).toNat * 6 + 4)).take 1 = [.i .i64 (W9 l i)] := fun h0 => by
   rw [hpi, if_neg (by omega), show ((i : Int) - 1).toNat = i - 1 by omega, S3 (show i - 1 < l.length by omega)]; exact rv_min (by omega)
  have hp0 : i = 0 → W9 l i = 0 := fun h => by rw [hpi, if_pos h]
  clear hpi
  rw [kz hlt, ← hpm] at he
  generalize hM : W9 l (i + 1) = m2 at *
  generalize hP : W9 l i = mi at *
  generalize l[i] = x at *
  have cu := vA x.user
  by_cases hq : Yx i mi x = true
  ·obtain ⟨q1, q2, q3, q4, q5, q6⟩ := Vq.1 hq
   rw [hq, Bool.true_and] at he
   rw [q3] at cu
   clear hq
   repeat' first | refine Wk ?_ | refine Qa.mk (fun h => ?_) (fun h => ?_) | refine Qd.mk (fun ad => ?_) | refine Ds (id := 7) [0,1,0,4,15,31,63,127,255,511,1023,2047,4095,8191,16383,32767,65535,131071,262143,524287,1048575,2097151,4194303,8388607,16777215,33554431,67108863,134217727,268435455,536870911,1073741823,2147483647,1073741823,1073741823,9663676415,31138512895,65498251263,134217727999,274877906943,549755813887,1099511627775] [0,1,2,3,4,5,6,7,8,9,10,11,12,13,14,15,16,17,18,19,20,21,22,23,24,25,26,27,28,29,30,31,32,33,34,35,36,37,38,39,40] [] [4,58] true ?_ | refine Qt.mk Qb.a ?_ | refine Qr.a e 6 _ (hrd _) ?_ | refine Zv.mk e 6 _ _ (hrd _) (by omega) ?_ | refine Qi.a e _ _ x.cells (hrd _) (by exact hg) ?_ | refine Qi.a e _ _ [.i .i64 mi] (hrd _) (by exact hg1 (by omega)) ?_ | refine Qx.mk [] _ cu QX ?_ | refine Qo.mk (i + 1) (by omega) ⟨by omega, by rw [hM]; exact he⟩ Qh.a Qb.a
  ·have hq0 : Yx i mi x = false := by simpa using hq
   rw [hq0, Bool.false_and] at he
   subst he
   cases hu : Xg x.user
   all_goals
    rw [hu] at cu
    repeat' first | refine Wk ?_ | refine Qa.mk (fun h => ?_) (fun h => ?_) | refine Qd.mk (fun ad => ?_) | refine Ds (id := 7) [0,1,0,4,15,31,63,127,255,511,1023,2047,4095,8191,16383,32767,65535,131071,262143,524287,1048575,2097151,4194303,8388607,16777215,33554431,67108863,134217727,268435455,536870911,1073741823,2147483647,1073741823,1073741823,9663676415,31138512895,65498251263,134217727999,274877906943,549755813887,1099511627775] [0,1,2,3,4,5,6,7,8,9,10,11,12,13,14,15,16,17,18,19,20,21,22,23,24,25,26,27,28,29,30,31,32,33,34,35,36,37,38,39,40] [] [4,58] true ?_ | refine Qt.mk Qb.a ?_ | refine Qr.a e 6 _ (hrd _) ?_ | refine Zv.mk e 6 _ _ (hrd _) (by omega) ?_ | refine Qi.a e _ _ x.cells (hrd _) (by exact hg) ?_ | refine Qi.a e _ _ [.i .i64 mi] (hrd _) (by exact hg1 (by omega)) ?_ | refine Qx.mk [] _ cu QX ?_ | refine Qe.is rfl | exact absurd (Vq.2 ⟨by omega, by omega, hu, by omega, by omega, by omega⟩) hq
 ·have hil : i = l.length := by omega
  subst hil
  rw [List.drop_length] at he
  have he : W = true := he
  subst he
  repeat' first | refine Wk ?_ | refine Qa.mk (fun h => ?_) (fun h => ?_) | refine Qd.mk (fun ad => ?_) | refine Qe.is rfl
theorem Gu (c : CHM) (hl : c.hist.length ≤ 9223372036854775807) : FnS prog 85 [.agg c.cells] [] [Yy c] (Is (.c (.b (Xf c.pl)))) := by
 have cv := Kk c.sp c.nm
 have cv2 := Kk c.tsp c.tnm
 have cu := vA c.user
 have ch := Ra 0 c.ha c.hc c.hist hl
 obtain ⟨W, hW⟩ : ∃ W, Xf c.pl = W := ⟨_, rfl⟩
 rw [hW]
 unfold Xf jt at hW
 change ((!(!decide (c.kind = 6) && !decide (c.kind = 10)) || Qw c.sp c.nm) && Xg c.user && (if c.kind = 7 ∨ c.kind = 8 then !decide (c.user = []) else if c.kind = 4 then Qw c.tsp c.tnm && (decide (c.n = 0) || decide (c.n = 1)) else if c.kind = 6 then decide (1 ≤ c.n) && decide (c.n ≤ 52596000) else if c.kind = 9 then decide (0 ≤ c.n) && decide (c.n ≤ 40) else if c.kind = 10 then decide (1 ≤ c.n) && decide (c.n ≤ 1073741824) else if c.kind = 5 then Z7 c.hist else true)) = W at hW
 have hF : Yy c = Qf 0 6 c.ha c.hist.length (Zb c.hist) := rfl
 rw [hF]
 generalize Qw c.sp c.nm = v1 at *
 generalize Qw c.tsp c.tnm = v2 at *
 generalize Xg c.user = u at *
 generalize Z7 c.hist = hh at *
 refine FJ 0 func85 ntmps85 (fun G => ?_)
 repeat' first | refine Wk ?_ | refine Qa.mk (fun h => ?_) (fun h => ?_) | refine Qd.mk (fun ad => ?_) | refine Qc.isB cv (fun h1 => ?_) (fun h1 => ?_) | refine Qc.isB cv2 (fun h2 => ?_) (fun h2 => ?_) | refine Qc.isB cu (fun h3 => ?_) (fun h3 => ?_) | refine Qc.isB ch (fun h4 => ?_) (fun h4 => ?_) (fun _ h => h) | refine Qe.bool ?_
 all_goals (clear cv cv2 cu ch hF hl; grind)
theorem Ti (c : CHM) (hl : c.hist.length ≤ 9223372036854775807) : FnS prog 49 [.agg c.cells] [] [Yy c] (Is (.c (.i .i64 (QM c.pl)))) := by
 have cf := Re c
 have cw := Gu c hl
 have hF : Yy c = Qf 0 6 c.ha c.hist.length (Zb c.hist) := rfl
 rw [hF] at cw ⊢
 have hrd : ∀ L, Qp L [Qf 0 6 c.ha c.hist.length (Zb c.hist)] 0 6 c.ha c.hist.length (Zb c.hist) := fun L => .inr fun m h => h.1
 obtain ⟨k, hk⟩ : ∃ k, QM c.pl = k := ⟨_, rfl⟩
 rw [hk]
 unfold QM at hk
 change (if KZ c.pl = false then 7 else if Xf c.pl = false then 2 else if 8192 < (c.text.length : Int) ∨ 200 < (c.note.length : Int) then 3 else if c.hist.any rvLong = true then 3 else 0) = k at hk
 generalize KZ c.pl = f at *
 generalize Xf c.pl = wi at *
 have hany : (∀ j, ∀ h : j < c.hist.length, rvLong c.hist[j] = false) → c.hist.any rvLong = false := fun h => by
  rw [List.any_eq_false]
  intro x hx
  obtain ⟨j, hj, rfl⟩ := List.getElem_of_mem hx
  rw [h j hj]; decide
 have hany2 : ∀ j, ∀ h : j < c.hist.length, rvLong c.hist[j] = true → c.hist.any rvLong = true := fun j hj h => List.any_eq_true.2 ⟨_, List.getElem_mem hj, h⟩
 generalize hB : c.hist.any rvLong = b at *
 refine FJ 0 func49 ntmps49 (fun G => ?_)
 repeat' first | refine Wk ?_ | refine Qa.mk (fun h => ?_) (fun h => ?_) | refine Qd.mk (fun ad => ?_) | refine Qc.isB cf (fun h1 => ?_) (fun h1 => ?_) | refine Qc.isB cw (fun h2 => ?_) (fun h2 => ?_) (fun _ h => h) | refine Qe.int ?_
 ·clear hany hany2 cf cw hrd; grind
 ·clear hany hany2 cf cw hrd; grind
 ·have hk : k = if b = true then 3 else 0 := by clear hany hany2 cf cw hrd; grind
  clear cf cw
  refine Qn (α := Nat) (fun i => [(1, .c (.p 0 ad 0)), (3, .c (.i .i64 i))]) (fun _ => [.box 0 ad 64 c.cells]) (fun _ => [Qf 0 6 c.ha c.hist.length (Zb c.hist)]) 1
   (fun i => i ≤ c.hist.length ∧ ∀ j, ∀ h : j < c.hist.length, j < i → rvLong c.hist[j] = false) (fun i => c.hist.length - i) (Qq.mk 0 ⟨Nat.zero_le _, fun j _ h => absurd h (Nat.not_lt_zero j)⟩ Qh.a (Qb.refl _ _)) (fun i hx => ?_)
  obtain ⟨hi, hn⟩ := hx
  by_cases hlt : i < c.hist.length
  ·have hg3 := UJ hlt
   have hg2 := LB hlt
   have hyes := hany2 i hlt
   have hl3 : rvLong c.hist[i] = true ↔ 8192 < (c.hist[i].text.length : Int) ∨ 200 < (c.hist[i].note.length : Int) := by simp [rvLong]
   have hno : ¬ rvLong c.hist[i] = true → ∀ j, ∀ h : j < c.hist.length, j < i + 1 → rvLong c.hist[j] = false := fun h j hj hji => by
    by_cases he : j = i
    ·subst he; simpa using h
    ·exact hn j hj (by omega)
   generalize c.hist[i] = x at *
   repeat' first | refine Wk ?_ | refine Qa.mk (fun h => ?_) (fun h => ?_) | refine Qd.mk (fun ad => ?_) | refine Qr.a 0 6 _ (hrd _) ?_ | refine Zv.mk 0 6 _ _ (hrd _) (by omega) ?_ | refine Qi.a 0 _ _ [.s x.text] (hrd _) (by exact hg3) ?_ | refine Qi.a 0 _ _ [.s x.note] (hrd _) (by exact hg2) ?_ | refine Qe.int (by rw [hk, if_pos (hyes (hl3.2 (by omega)))]) | refine Qo.mk (i + 1) (by omega) ⟨by omega, hno (fun h => by have := hl3.1 h; omega)⟩ Qh.a Qb.a
  ·have hil : i = c.hist.length := by omega
   subst hil
   have hbf := hany fun j h => hn j h h
   rw [hbf] at hk
   have hk : k = 0 := hk
   repeat' first | refine Wk ?_ | refine Qa.mk (fun h => ?_) (fun h => ?_) | refine Qd.mk (fun ad => ?_) | refine Qe.int hk
 ·clear hany hany2 cf cw hrd; grind
 ·clear hany hany2 cf cw hrd; grind
end Go.Proofs
namespace Go.X
open Go Go.Lib
def Tj (k : Int) : List C :=
 if k = 1 then [.b true, .b true, .b true, .b false, .b true, .b false, .b false] else if k = 2 ∨ k = 3 ∨ k = 7 ∨ k = 8 then [.b true, .b false, .b true, .b false, .b false, .b false, .b false] else
 if k = 4 then [.b true, .b false, .b true, .b true, .b false, .b true, .b false] else if k = 5 then [.b true, .b false, .b true, .b false, .b false, .b false, .b true] else
 if k = 6 then [.b false, .b false, .b false, .b false, .b false, .b true, .b false] else if k = 9 then [.b true, .b true, .b true, .b false, .b true, .b true, .b false] else
 if k = 10 then [.b true, .b false, .b false, .b false, .b false, .b true, .b false] else [.b false, .b false, .b false, .b false, .b false, .b false, .b false]
theorem OF (k : Int) : ∃ b1 b2 b3 b4 b5 b6 b7, Tj k = [.b b1, .b b2, .b b3, .b b4, .b b5, .b b6, .b b7] := by
 unfold Tj
 repeat' split
 all_goals exact ⟨_, _, _, _, _, _, _, rfl⟩
theorem kinds {k : Int} (h : 1 ≤ k ∧ k ≤ 10) : k = 1 ∨ k = 2 ∨ k = 3 ∨ k = 4 ∨ k = 5 ∨ k = 6 ∨ k = 7 ∨ k = 8 ∨ k = 9 ∨ k = 10 := by omega
end Go.X
namespace Go.Proofs
open Go Go.X Tryz
set_option maxRecDepth 100000
set_option maxHeartbeats 4000000
theorem EC (k : Int) : FnS prog 162 [.c (.i .i64 k)] [] [] (Is (.t2 (.agg (Tj k)) (.c (.b (decide (1 ≤ k ∧ k ≤ 10)))))) := by
 by_cases hk : 1 ≤ k ∧ k ≤ 10
 ·rw [decide_eq_true hk]
  rcases kinds hk with rfl | rfl | rfl | rfl | rfl | rfl | rfl | rfl | rfl | rfl
  all_goals
   refine FJ 0 func162 ntmps162 (fun G => ?_)
   repeat' first | refine Wk ?_ | refine Qa.mk (fun h => ?_) (fun h => ?_) | refine Qd.mk (fun ad => ?_) | refine Qe.mk [] [] ⟨rfl, rfl, rfl⟩ Qb.z
 ·rw [decide_eq_false hk]
  have hu : Tj k = [.b false, .b false, .b false, .b false, .b false, .b false, .b false] := by
   unfold Tj
   rw [if_neg (by omega), if_neg (by omega), if_neg (by omega), if_neg (by omega), if_neg (by omega), if_neg (by omega), if_neg (by omega)]
  rw [hu]
  refine FJ 0 func162 ntmps162 (fun G => ?_)
  repeat' first | refine Wk ?_ | refine Qa.mk (fun h => ?_) (fun h => ?_) | refine Qd.mk (fun ad => ?_) | refine Qe.mk [] [] ⟨rfl, rfl, rfl⟩ Qb.z
theorem Rc (c : CHM) (hk : 1 ≤ c.kind ∧ c.kind ≤ 10) : FnS prog 163 [.agg c.cells, .agg (Tj c.kind)] [] [] (Is (.c (.b (KZ c.pl)))) := by
 have hW := Ws c.pl
 change _ ↔ (1 ≤ c.kind ∧ c.kind ≤ 10) ∧ ((c.kind = 1 ∨ c.kind = 9) ∨ (c.note = [] ∧ c.text = [])) ∧ ((c.kind = 4 ∨ c.kind = 6 ∨ c.kind = 9 ∨ c.kind = 10) ∨ c.n = 0) ∧ ((¬ c.kind = 6 ∧ ¬ c.kind = 10) ∨ (c.sp = 0 ∧ c.nm = [])) ∧ (¬ c.kind = 6 ∨ c.user = []) ∧ (c.kind = 4 ∨ (c.tsp = 0 ∧ c.tnm = [])) ∧ (c.kind = 5 ∨ c.hist = []) at hW
 generalize KZ c.pl = W at *
 have hh : c.hist = [] ↔ (c.hist.length : Int) = 0 := by
  rw [← List.length_eq_zero_iff]; omega
 rw [hh] at hW
 clear hh
 obtain ⟨kd, us, no, sp, nm, tsp, tnm, tx, n, ha, hc, hi⟩ := c
 dsimp only at hW hk
 unfold CHM.cells
 dsimp only
 rcases kinds hk with rfl | rfl | rfl | rfl | rfl | rfl | rfl | rfl | rfl | rfl
 all_goals
  refine FJ 0 func163 ntmps163 (fun G => ?_)
  repeat' first | refine Wk ?_ | refine Qa.mk (fun h => ?_) (fun h => ?_) | refine Qd.mk (fun ad => ?_) | refine Qe.bool ?_
 all_goals grind
theorem El (e : Nat) (a : Option Addr) (c : Nat) (l : List RV) (hl : l.length ≤ 9223372036854775807) : FnS prog 208 [.c (.sl a l.length c)] [] [Qf e 6 a l.length (Zb l)] (Is (.c (.b (Z7 l)))) := by
 have hrd : ∀ L, Qp L [Qf e 6 a l.length (Zb l)] e 6 a l.length (Zb l) := fun L => .inr fun m h => h.1
 obtain ⟨W, hW⟩ : ∃ W, Z7 l = W := ⟨_, rfl⟩
 rw [hW]
 have hno : ¬ (1 ≤ l.length ∧ l.length ≤ 40) → W = false := fun h => by
  rw [← hW, Z7]
  by_cases h1 : 1 ≤ (l.length : Int)
  ·rw [decide_eq_false (show ¬ (l.length : Int) ≤ 40 by omega)]; simp
  ·rw [decide_eq_false h1]; simp
 have hyes : 1 ≤ l.length ∧ l.length ≤ 40 → W = XV 0 0 l := fun h => by
  rw [← hW, Z7, decide_eq_true (show (1 : Int) ≤ (l.length : Int) by omega), decide_eq_true (show (l.length : Int) ≤ 40 by omega)]; simp
 clear hW
 refine FJ 0 func208 ntmps208 (fun G => ?_)
 repeat' first | refine Wk ?_ | refine Qa.mk (fun h => ?_) (fun h => ?_) | refine Qd.mk (fun ad => ?_) | refine Qe.bool ?_
 ·exact hno (by omega)
 ·exact hno (by omega)
 have hyes := hyes (by omega)
 clear hno
 refine Qn (α := Nat × Int) (fun x => [(3, .c (.i .i64 x.2)), (14, .c (.sl a l.length c)), (15, .c (.i .i64 l.length)), (16, .c (.i .i64 x.1))]) (fun _ => []) (fun _ => [Qf e 6 a l.length (Zb l)]) 0
  (fun x => x.1 ≤ l.length ∧ 0 ≤ x.2 ∧ W = XV x.1 x.2 (l.drop x.1)) (fun x => l.length - x.1) (Qq.mk (0, 0) ⟨Nat.zero_le _, Int.le_refl _, hyes⟩ Qh.a (Qb.refl _ _)) (fun x hx => ?_)
 obtain ⟨i, mi⟩ := x
 dsimp only at hx ⊢
 obtain ⟨hi, hmi, he⟩ := hx
 by_cases hlt : i < l.length
 ·have hg := Yo hlt
  rw [kz hlt] at he
  generalize l[i] = x at *
  have cu := HQ x.user
  by_cases hq : Yx i mi x = true
  ·obtain ⟨q1, q2, q3, q4, q5, q6⟩ := Vq.1 hq
   rw [hq, Bool.true_and] at he
   rw [q3] at cu
   clear hq
   repeat' first | refine Wk ?_ | refine Qa.mk (fun h => ?_) (fun h => ?_) | refine Qd.mk (fun ad => ?_) | fail | refine Qr.a e 6 _ (hrd _) ?_ | refine Qi.a e _ _ x.cells (hrd _) (by exact hg) ?_ | refine Qc.is cu ?_ | refine Qo.mk (i + 1, x.min) (by dsimp only; omega) ⟨by dsimp only; omega, q4, he⟩ Qh.a Qb.a
  ·have hq0 : Yx i mi x = false := by simpa using hq
   rw [hq0, Bool.false_and] at he
   subst he
   cases hu : Xg x.user
   all_goals
    rw [hu] at cu
    repeat' first | refine Wk ?_ | refine Qa.mk (fun h => ?_) (fun h => ?_) | refine Qd.mk (fun ad => ?_) | fail | refine Qr.a e 6 _ (hrd _) ?_ | refine Qi.a e _ _ x.cells (hrd _) (by exact hg) ?_ | refine Qc.is cu ?_ | refine Qe.is rfl | exact absurd (Vq.2 ⟨by omega, by omega, hu, by omega, by omega, by omega⟩) hq
 ·have hil : i = l.length := by omega
  subst hil
  rw [List.drop_length] at he
  have he : W = true := he
  subst he
  repeat' first | refine Wk ?_ | refine Qa.mk (fun h => ?_) (fun h => ?_) | refine Qd.mk (fun ad => ?_) | refine Qe.is rfl
def loT (k : Int) : Int := if k = 4 ∨ k = 9 then 0 else 1
def hiT (k : Int) : Int := if k = 4 then 1 else if k = 6 then 52596000 else if k = 9 then 40 else 1073741824
theorem Rz (k : Int) (hk : 1 ≤ k ∧ k ≤ 10) : FnS prog 207 [.c (.i .i64 k)] [] [] (Is (.t2 (.c (.i .i64 (loT k))) (.c (.i .i64 (hiT k))))) := by
 rcases kinds hk with rfl | rfl | rfl | rfl | rfl | rfl | rfl | rfl | rfl | rfl
 all_goals
  refine FJ 0 func207 ntmps207 (fun G => ?_)
  repeat' first | refine Wk ?_ | refine Qa.mk (fun h => ?_) (fun h => ?_) | refine Qd.mk (fun ad => ?_) | refine Qe.mk [] [] ⟨rfl, rfl, rfl⟩ Qb.z
theorem PU (c : CHM) (hk : 1 ≤ c.kind ∧ c.kind ≤ 10) (hl : c.hist.length ≤ 9223372036854775807) : FnS prog 164 [.agg c.cells, .agg (Tj c.kind)] [] [Yy c, gM] (Is (.c (.b (Xf c.pl)))) := by
 have cv := YI c.sp c.nm
 have cv2 := YI c.tsp c.tnm
 have cu := HQ c.user
 have ch := El 0 c.ha c.hc c.hist hl
 have cb := Rz c.kind hk
 obtain ⟨W, hW⟩ : ∃ W, Xf c.pl = W := ⟨_, rfl⟩
 rw [hW]
 unfold Xf jt at hW
 change ((!(!decide (c.kind = 6) && !decide (c.kind = 10)) || Qw c.sp c.nm) && Xg c.user && (if c.kind = 7 ∨ c.kind = 8 then !decide (c.user = []) else if c.kind = 4 then Qw c.tsp c.tnm && (decide (c.n = 0) || decide (c.n = 1)) else if c.kind = 6 then decide (1 ≤ c.n) && decide (c.n ≤ 52596000) else if c.kind = 9 then decide (0 ≤ c.n) && decide (c.n ≤ 40) else if c.kind = 10 then decide (1 ≤ c.n) && decide (c.n ≤ 1073741824) else if c.kind = 5 then Z7 c.hist else true)) = W at hW
 have hF : Yy c = Qf 0 6 c.ha c.hist.length (Zb c.hist) := rfl
 rw [hF]
 obtain ⟨kd, us, no, sp, nm, tsp, tnm, tx, n, ha, hc, hi⟩ := c
 dsimp only at *
 generalize Qw sp nm = v1 at *
 generalize Qw tsp tnm = v2 at *
 generalize Xg us = u at *
 generalize Z7 hi = hh at *
 unfold CHM.cells
 dsimp only
 rcases kinds hk with rfl | rfl | rfl | rfl | rfl | rfl | rfl | rfl | rfl | rfl
 all_goals
  simp only [loT, hiT, show ¬ (1 : Int) = 4 by decide, show ¬ (1 : Int) = 6 by decide, show ¬ (1 : Int) = 9 by decide] at cb
  refine FJ 0 func164 ntmps164 (fun G => ?_)
  repeat' first | refine Wk ?_ | refine Qa.mk (fun h => ?_) (fun h => ?_) | refine Qd.mk (fun ad => ?_) | refine Qc.isB cv (fun h1 => ?_) (fun h1 => ?_) | refine Qc.isB cv2 (fun h2 => ?_) (fun h2 => ?_) | refine Qc.isB cu (fun h3 => ?_) (fun h3 => ?_) | refine Qc.isB ch (fun h4 => ?_) (fun h4 => ?_) Kh | refine Qc.is cb ?_ | refine Qe.bool ?_
 all_goals (clear cv cv2 cu ch cb hF hl; first | grind | (by_cases e0 : n = 0 <;> by_cases e1 : n = 1 <;> grind))
theorem Rq (c : CHM) (hl : c.hist.length ≤ 140737488355328) : FnS prog 117 [.agg c.cells] [] [Yy c, gM] (Is (.c (.i .i64 (QM c.pl)))) := by
 have cs := EC c.kind
 have hkk : c.pl.kind = c.kind := rfl
 by_cases hk : 1 ≤ c.kind ∧ c.kind ≤ 10
 ·have cf := Rc c hk
  have cr := PU c hk (by omega)
  rw [decide_eq_true hk] at cs
  have h7 : KZ c.pl = false → QM c.pl = 7 := fun h => by unfold QM; rw [if_pos h]
  have h2 : KZ c.pl = true → Xf c.pl = false → QM c.pl = 2 := fun h h' => by unfold QM; rw [if_neg (by rw [h]; decide), if_pos h']
  have h3 : KZ c.pl = true → Xf c.pl = true → (8192 < (c.text.length : Int) ∨ 200 < (c.note.length : Int)) → QM c.pl = 3 := fun h h' h'' => by unfold QM; rw [if_neg (by rw [h]; decide), if_neg (by rw [h']; decide)]; exact if_pos h''
  have h0 : KZ c.pl = true → Xf c.pl = true → ¬ (8192 < (c.text.length : Int) ∨ 200 < (c.note.length : Int)) → QM c.pl = if c.hist.any rvLong = true then 3 else 0 := fun h h' h'' => by unfold QM; rw [if_neg (by rw [h]; decide), if_neg (by rw [h']; decide)]; exact if_neg h''
  have hrd : ∀ L, Qp L [Yy c, gM] 0 6 c.ha c.hist.length (Zb c.hist) := fun L => .inr fun m h => h.1
  generalize QM c.pl = W at *
  generalize KZ c.pl = w1 at *
  generalize Xf c.pl = w2 at *
  obtain ⟨b1, b2, b3, b4, b5, b6, b7, hu⟩ := OF c.kind
  rw [hu] at cs cf cr
  clear hu
  refine FJ 0 func117 ntmps117 (fun G => ?_)
  repeat' first | refine Wk ?_ | refine Qa.mk (fun h => ?_) (fun h => ?_) | refine Qd.mk (fun ad => ?_) | refine Qc.is cs ?_ | refine Qc.isB cf (fun g1 => ?_) (fun g1 => ?_) | refine Qc.isB cr (fun g2 => ?_) (fun g2 => ?_) (fun _ h => h) | refine Qe.int (h7 (by assumption)) | refine Qe.int (h2 (by assumption) (by assumption)) | refine Qe.int (h3 (by assumption) (by assumption) (by omega))
  have h0 := h0 (by assumption) (by assumption) (by omega)
  clear h7 h2 h3 cf cr cs
  refine Qn (α := Nat) (fun i => [(39, .c (.sl c.ha c.hist.length c.hc)), (40, .c (.i .i64 c.hist.length)), (41, .c (.i .i64 i))]) (fun _ => []) (fun _ => [Yy c, gM]) 2
   (fun i => i ≤ c.hist.length ∧ c.hist.any rvLong = (c.hist.drop i).any rvLong) (fun i => c.hist.length - i) (Qq.mk 0 ⟨Nat.zero_le _, rfl⟩ Qh.a (Qb.dropAll)) (fun i hx => ?_)
  obtain ⟨hi, he⟩ := hx
  by_cases hlt : i < c.hist.length
  ·have hg := Yo hlt
   rw [List.drop_eq_getElem_cons hlt, List.any_cons] at he
   generalize c.hist[i] = x at *
   have hyes : (8192 < (x.text.length : Int) ∨ 200 < (x.note.length : Int)) → W = 3 := fun h => by
    rw [h0, he, show rvLong x = true by unfold rvLong; rcases h with h | h <;> simp [h], Bool.true_or, if_pos rfl]
   have hno : ¬ (8192 < (x.text.length : Int) ∨ 200 < (x.note.length : Int)) → c.hist.any rvLong = (c.hist.drop (i + 1)).any rvLong := fun h => by
    rw [he, show rvLong x = false by unfold rvLong; rw [decide_eq_false (by omega), decide_eq_false (by omega)]; rfl, Bool.false_or]
   clear h0 he
   repeat' first | refine Wk ?_ | refine Qa.mk (fun h => ?_) (fun h => ?_) | refine Qd.mk (fun ad => ?_) | fail | refine Qr.a 0 6 _ (hrd _) ?_ | refine Qi.a 0 _ _ x.cells (hrd _) (by exact hg) ?_ | refine Qe.int (hyes (by omega)) | refine Qo.mk (i + 1) (by omega) ⟨by omega, hno (by omega)⟩ Qh.a Qb.a
  ·have hil : i = c.hist.length := by omega
   subst hil
   rw [List.drop_length] at he
   have hW : W = 0 := by rw [h0, he]; rfl
   repeat' first | refine Wk ?_ | refine Qa.mk (fun h => ?_) (fun h => ?_) | refine Qd.mk (fun ad => ?_) | refine Qe.int hW
 ·rw [decide_eq_false hk] at cs
  have hW : QM c.pl = 7 := by
   unfold QM
   rw [if_pos]
   cases hf : KZ c.pl with
   | false => rfl
   | true => exact absurd ((Ws c.pl).1 hf).1 hk
  rw [hW]
  obtain ⟨b1, b2, b3, b4, b5, b6, b7, hu⟩ := OF c.kind
  rw [hu] at cs
  clear hu
  refine FJ 0 func117 ntmps117 (fun G => ?_)
  repeat' first | refine Wk ?_ | refine Qa.mk (fun h => ?_) (fun h => ?_) | refine Qd.mk (fun ad => ?_) | refine Qc.is cs ?_ | refine Qe.is rfl
end Go.Proofs
