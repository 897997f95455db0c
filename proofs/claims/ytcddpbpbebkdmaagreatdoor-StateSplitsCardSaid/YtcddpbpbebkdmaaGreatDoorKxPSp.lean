/- This text walks through the functions unnumbered and timeless and the statement StateSplits of chapter 27. -/
import Derived.Test.YtcddpbpbebkdmaaGreatDoorK06
import Derived.Test.YtcddpbpbebkdmaaGreatDoorK08
import Derived.Test.YtcddpbpbebkdmaaGreatDoorK10
import Derived.Test.YtcddpbpbebkdmaaGreatDoorK11
import Derived.Test.YtcddpbpbebkdmaaGreatDoorK13
import Derived.Test.YtcddpbpbebkdmaaGreatDoorK16
import Derived.Test.YtcddpbpbebkdmaaGreatDoorK17
set_option linter.all false
namespace Go.X
open Go Go.Lib
def RV.z (r : RV) : RV := { r with seq := 0 }
def SP.z (p : SP) : SP := ⟨p.sp, p.nm, p.hist.map RV.z⟩
def LU.z (x : LU) : LU := ⟨x.user, 0⟩
def ST.z (s : ST) : ST := { s with seq := 0, pages := s.pages.map SP.z, gone := s.gone.map SP.z, lasts := s.lasts.map LU.z }
theorem nn {a b : Int} (h : a = b) : ¬ a ≠ b := fun h' => h' h
def zRx (r : ST × Int) : ST × Int := (r.1.z, r.2)
theorem idx_z (sp : Int) (nm : Bs) (l : List SP) : Q2 (YX sp nm) (l.map SP.z) = Q2 (YX sp nm) l := Hq SP.z (YX sp nm) l
theorem lastG_z (sp : Int) (nm : Bs) (l : List SP) : Jr (YX sp nm) (l.map SP.z) = Jr (YX sp nm) l := vX SP.z (YX sp nm) l
theorem getD_z (l : List SP) (i : Nat) : (l.map SP.z).getD i default = (l.getD i default).z := by
 rw [List.getD_eq_getElem?_getD, List.getD_eq_getElem?_getD, List.getElem?_map]
 cases l[i]? <;> rfl
theorem insZ (sp : Int) (nm : Bs) (l : List SP) (x : SP) : (Kv (je sp nm) l x).map SP.z = Kv (je sp nm) (l.map SP.z) x.z := SW (f := SP.z) (p := je sp nm) (q := je sp nm) (fun _ => rfl) l x
theorem eraseZ {α β : Type} (f : α → β) : ∀ (l : List α) (i : Nat), (l.eraseIdx i).map f = (l.map f).eraseIdx i
 | [], i => rfl
 | x :: l, 0 => rfl
 | x :: l, i + 1 => by rw [List.eraseIdx_cons_succ, List.map_cons, List.map_cons, List.eraseIdx_cons_succ, eraseZ f l i]
theorem modifyZ {α β : Type} (f : α → β) (g : α → α) (k : β → β) (h : ∀ x, f (g x) = k (f x)) (l : List α) (i : Nat) : (l.modify i g).map f = (l.map f).modify i k := by
 refine List.ext_getElem (by simp) fun j h1 h2 => ?_
 simp only [List.getElem_map, List.getElem_modify]
 split
 ·exact h _
 ·rfl
theorem pageAt_z (s : ST) (i : Int) : Vc s.z i = (Vc s i).z := getD_z s.pages i.toNat
theorem ST.z_idx (s : ST) (sp : Int) (nm : Bs) : Q2 (YX sp nm) s.z.pages = Q2 (YX sp nm) s.pages := idx_z sp nm s.pages
theorem ST.z_last (s : ST) (sp : Int) (nm : Bs) : Jr (YX sp nm) s.z.gone = Jr (YX sp nm) s.gone := lastG_z sp nm s.gone
theorem ST.z_np (s : ST) : s.z.pages.length = s.pages.length := List.length_map _
theorem ST.z_ng (s : ST) : s.z.gone.length = s.gone.length := List.length_map _
theorem ST.z_nl (s : ST) : s.z.lasts.length = s.lasts.length := List.length_map _
theorem SP.z_nh (p : SP) : p.z.hist.length = p.hist.length := List.length_map _
theorem ST.ext8 {a b : ST} (h1 : a.seq = b.seq) (h2 : a.clk = b.clk) (h3 : a.pages = b.pages) (h4 : a.gone = b.gone) (h5 : a.props = b.props) (h6 : a.proposed = b.proposed) (h7 : a.watches = b.watches) (h8 : a.lasts = b.lasts) : a = b := by
 cases a; cases b; simp_all
theorem put_z (s : ST) (c : CH) (sq : Int) : zRx (K7 s c sq) = K7 s.z c 0 := by
 unfold K7
 rw [s.z_idx, s.z_np, pageAt_z, SP.z_nh]
 by_cases h1 : Q2 (YX c.sp c.nm) s.pages < 0
 ·rw [if_pos h1, if_pos h1]
  by_cases h2 : 200 ≤ (s.pages.length : Int)
  ·rw [if_pos h2, if_pos h2]; rfl
  ·rw [if_neg h2, if_neg h2]
   refine Prod.ext (ST.ext8 rfl rfl ?_ rfl rfl rfl rfl rfl) rfl
   exact insZ _ _ _ _
 ·rw [if_neg h1, if_neg h1]
  by_cases h2 : 40 ≤ ((Vc s (Q2 (YX c.sp c.nm) s.pages)).hist.length : Int)
  ·rw [if_pos h2, if_pos h2]; rfl
  ·rw [if_neg h2, if_neg h2]
   refine Prod.ext (ST.ext8 rfl rfl ?_ rfl rfl rfl rfl rfl) rfl
   refine modifyZ SP.z _ _ (fun p => ?_) s.pages _
   simp [SP.z, RV.z, ST.z]
theorem remove_z (s : ST) (c : CH) : zRx (JA s c) = JA s.z c := by
 unfold JA
 rw [s.z_idx, s.z_ng, pageAt_z]
 by_cases h1 : Q2 (YX c.sp c.nm) s.pages < 0
 ·rw [if_pos h1, if_pos h1]; rfl
 rw [if_neg h1, if_neg h1]
 by_cases h2 : 100 ≤ (s.gone.length : Int)
 ·rw [if_pos h2, if_pos h2]; rfl
 rw [if_neg h2, if_neg h2]
 refine Prod.ext (ST.ext8 rfl rfl ?_ ?_ rfl rfl rfl rfl) rfl
 ·exact eraseZ SP.z _ _
 ·exact List.map_append
theorem restore_z (s : ST) (c : CH) : zRx (XS s c) = XS s.z c := by
 unfold XS
 rw [s.z_idx, s.z_last, s.z_np]
 by_cases h1 : 0 ≤ Q2 (YX c.sp c.nm) s.pages
 ·rw [if_pos h1, if_pos h1]; rfl
 rw [if_neg h1, if_neg h1]
 by_cases h2 : Jr (YX c.sp c.nm) s.gone < 0
 ·rw [if_pos h2, if_pos h2]; rfl
 rw [if_neg h2, if_neg h2]
 by_cases h3 : 200 ≤ (s.pages.length : Int)
 ·rw [if_pos h3, if_pos h3]; rfl
 rw [if_neg h3, if_neg h3]
 refine Prod.ext (ST.ext8 rfl rfl ?_ ?_ rfl rfl rfl rfl) rfl
 ·exact (insZ _ _ _ _).trans (congrArg (Kv _ _) (getD_z _ _).symm)
 ·exact eraseZ SP.z _ _
theorem move_z (s : ST) (c : CH) (sq : Int) : zRx (VB s c sq) = VB s.z c 0 := by
 unfold VB
 rw [s.z_idx, s.z_idx, s.z_np, pageAt_z]
 by_cases h1 : Q2 (YX c.sp c.nm) s.pages < 0
 ·rw [if_pos h1, if_pos h1]; rfl
 rw [if_neg h1, if_neg h1]
 by_cases h2 : 0 ≤ Q2 (YX c.tsp c.tnm) s.pages
 ·rw [if_pos h2, if_pos h2]; rfl
 rw [if_neg h2, if_neg h2]
 by_cases h3 : c.n = 1 ∧ 200 ≤ (s.pages.length : Int)
 ·rw [if_pos h3, if_pos h3]; rfl
 rw [if_neg h3, if_neg h3]
 dsimp only
 by_cases h4 : c.n = 1
 ·simp only [if_pos h4]
  refine Prod.ext (ST.ext8 rfl rfl ?_ rfl rfl rfl rfl rfl) rfl
  refine (insZ _ _ _ _).trans ?_
  refine congrArg (fun l => Kv (je c.sp c.nm) l _) ?_
  refine (insZ _ _ _ _).trans ?_
  exact congrArg (fun l => Kv (je c.tsp c.tnm) l _) (eraseZ SP.z _ _)
 ·simp only [if_neg h4]
  refine Prod.ext (ST.ext8 rfl rfl ?_ rfl rfl rfl rfl rfl) rfl
  refine (insZ _ _ _ _).trans ?_
  exact congrArg (fun l => Kv (je c.tsp c.tnm) l _) (eraseZ SP.z _ _)
theorem take_z (s : ST) (c : CH) (sq : Int) : zRx (Vw s c sq) = Vw s.z c 0 := by
 unfold Vw
 rw [s.z_idx, s.z_np]
 by_cases h1 : 0 ≤ Q2 (YX c.sp c.nm) s.pages
 ·rw [if_pos h1, if_pos h1]; rfl
 rw [if_neg h1, if_neg h1]
 by_cases h2 : s.clk < (c.hist.getLast?.getD default).min
 ·rw [if_pos h2, if_pos (show s.z.clk < _ from h2)]; rfl
 rw [if_neg h2, if_neg (show ¬ s.z.clk < _ from h2)]
 by_cases h3 : 200 ≤ (s.pages.length : Int)
 ·rw [if_pos h3, if_pos h3]; rfl
 rw [if_neg h3, if_neg h3]
 refine Prod.ext (ST.ext8 rfl rfl ?_ rfl rfl rfl rfl rfl) rfl
 refine (insZ _ _ _ _).trans ?_
 refine congrArg (Kv _ _) ?_
 simp only [SP.z, List.map_map]
 rfl
theorem tick_z (s : ST) (c : CH) : zRx (zd s c) = zd s.z c := by
 unfold zd
 by_cases h1 : 52595999 - s.clk < c.n
 ·rw [if_pos h1, if_pos (show 52595999 - s.z.clk < c.n from h1)]; rfl
 ·rw [if_neg h1, if_neg (show ¬ 52595999 - s.z.clk < c.n from h1)]; rfl
theorem watch_z (s : ST) (c : CH) : zRx (Xm s c) = Xm s.z c := by
 unfold Xm
 dsimp only
 show _ = (if c.kind = 8 then (if ((s.watches.dropWhile fun x => kP x ⟨c.user, c.sp, c.nm⟩).head? = some ⟨c.user, c.sp, c.nm⟩) then _ else _) else (if ((s.watches.dropWhile fun x => kP x ⟨c.user, c.sp, c.nm⟩).head? = some ⟨c.user, c.sp, c.nm⟩) then _ else if 100 ≤ (s.watches.length : Int) then _ else _))
 split
 ·split <;> rfl
 ·split
  ·rfl
  ·split <;> rfl
theorem propose_z (s : ST) (c : CH) : zRx (Jc s c) = Jc s.z c := by
 unfold Jc
 by_cases h1 : 40 ≤ (s.props.length : Int) ∨ 1073741824 ≤ s.proposed
 ·rw [if_pos h1, if_pos (show 40 ≤ (s.z.props.length : Int) ∨ 1073741824 ≤ s.z.proposed from h1)]; rfl
 ·rw [if_neg h1, if_neg (show ¬ (40 ≤ (s.z.props.length : Int) ∨ 1073741824 ≤ s.z.proposed) from h1)]; rfl
theorem shut_z (s : ST) (c : CH) : zRx (WA s c) = WA s.z c := by
 unfold WA
 dsimp only
 by_cases h1 : (s.props.filter fun p => !decide (p.id = c.n)).length = s.props.length
 ·rw [if_pos h1, if_pos (show (s.z.props.filter fun p => !decide (p.id = c.n)).length = s.z.props.length from h1)]; rfl
 ·rw [if_neg h1, if_neg (show ¬ (s.z.props.filter fun p => !decide (p.id = c.n)).length = s.z.props.length from h1)]; rfl
theorem kind_z (s : ST) (c : CH) (sq : Int) : zRx (Zm s c sq) = Zm s.z c 0 := by
 unfold Zm
 by_cases k1 : c.kind = 1
 ·rw [if_pos k1, if_pos k1]; exact put_z s c sq
 rw [if_neg k1, if_neg k1]
 by_cases k2 : c.kind = 2
 ·rw [if_pos k2, if_pos k2]; exact remove_z s c
 rw [if_neg k2, if_neg k2]
 by_cases k3 : c.kind = 3
 ·rw [if_pos k3, if_pos k3]; exact restore_z s c
 rw [if_neg k3, if_neg k3]
 by_cases k4 : c.kind = 4
 ·rw [if_pos k4, if_pos k4]; exact move_z s c sq
 rw [if_neg k4, if_neg k4]
 by_cases k5 : c.kind = 5
 ·rw [if_pos k5, if_pos k5]; exact take_z s c sq
 rw [if_neg k5, if_neg k5]
 by_cases k6 : c.kind = 6
 ·rw [if_pos k6, if_pos k6]; exact tick_z s c
 rw [if_neg k6, if_neg k6]
 by_cases k7 : c.kind = 7 ∨ c.kind = 8
 ·rw [if_pos k7, if_pos k7]; exact watch_z s c
 rw [if_neg k7, if_neg k7]
 by_cases k9 : c.kind = 9
 ·rw [if_pos k9, if_pos k9]; exact propose_z s c
 rw [if_neg k9, if_neg k9]
 exact shut_z s c
theorem takeW_map {α β : Type} (f : α → β) (p : β → Bool) : ∀ l : List α, (l.map f).takeWhile p = (l.takeWhile fun x => p (f x)).map f
 | [] => rfl
 | x :: l => by
  rw [List.map_cons, List.takeWhile_cons, List.takeWhile_cons, takeW_map f p l]
  split <;> rfl
theorem dropW_map {α β : Type} (f : α → β) (p : β → Bool) : ∀ l : List α, (l.map f).dropWhile p = (l.dropWhile fun x => p (f x)).map f
 | [] => rfl
 | x :: l => by
  rw [List.map_cons, List.dropWhile_cons, List.dropWhile_cons, dropW_map f p l]
  split <;> rfl
theorem noted_z (s : ST) (u : Bs) (sq : Int) : zRx (Q9 s u sq) = Q9 s.z u 0 := by
 unfold Q9
 by_cases hu : u = []
 ·rw [if_pos hu, if_pos hu]; rfl
 rw [if_neg hu, if_neg hu]
 have ht : s.z.lasts.takeWhile (fun x => U6 x.user u) = (s.lasts.takeWhile fun x => U6 x.user u).map LU.z := takeW_map LU.z (fun x => U6 x.user u) s.lasts
 have hd : s.z.lasts.dropWhile (fun x => U6 x.user u) = (s.lasts.dropWhile fun x => U6 x.user u).map LU.z := dropW_map LU.z (fun x => U6 x.user u) s.lasts
 dsimp only
 rw [ht, hd, s.z_nl]
 generalize s.lasts.takeWhile (fun x => U6 x.user u) = a
 generalize s.lasts.dropWhile (fun x => U6 x.user u) = b
 have hh : (b.map LU.z).head?.map (·.user) = b.head?.map (·.user) := by cases b <;> rfl
 rw [hh]
 by_cases h1 : b.head?.map (·.user) = some u
 ·rw [if_pos h1, if_pos h1]
  refine Prod.ext (ST.ext8 rfl rfl rfl rfl rfl rfl rfl ?_) rfl
  show (a ++ ⟨u, sq⟩ :: b.tail).map LU.z = a.map LU.z ++ ⟨u, 0⟩ :: (b.map LU.z).tail
  rw [List.map_append, List.map_cons, List.map_tail]; rfl
 rw [if_neg h1, if_neg h1]
 by_cases h2 : 60 ≤ (s.lasts.length : Int)
 ·rw [if_pos h2, if_pos h2]; rfl
 rw [if_neg h2, if_neg h2]
 refine Prod.ext (ST.ext8 rfl rfl rfl rfl rfl rfl rfl ?_) rfl
 show (a ++ ⟨u, sq⟩ :: b).map LU.z = a.map LU.z ++ ⟨u, 0⟩ :: b.map LU.z
 rw [List.map_append, List.map_cons]; rfl
theorem step_z (s : ST) (c : CH) (sq : Int) : zRx (X4 s c sq) = X4 s.z c 0 := by
 unfold X4
 rw [← kind_z s c sq]
 have hn := noted_z (Zm s c sq).1 c.user sq
 change _ = Q9 (zRx (Zm s c sq)).1 c.user 0 at hn
 rw [← hn]
 generalize Q9 (Zm s c sq).1 c.user sq = N
 generalize Zm s c sq = K
 by_cases h1 : QM c = 0
 ·rw [if_neg (nn h1), if_neg (nn h1)]
  by_cases h2 : K.2 = 0
  ·rw [if_neg (nn h2), if_neg (nn (show (zRx K).2 = 0 from h2))]
   by_cases h3 : Zx c = true
   ·rw [if_pos h3, if_pos h3]; rfl
   ·rw [if_neg h3, if_neg h3]
    by_cases h4 : N.2 = 0
    ·rw [if_neg (nn h4), if_neg (nn (show (zRx N).2 = 0 from h4))]
    ·rw [if_pos h4, if_pos (show (zRx N).2 ≠ 0 from h4)]; rfl
  ·rw [if_pos (show K.2 ≠ 0 from h2), if_pos (show (zRx K).2 ≠ 0 from h2)]; rfl
 ·rw [if_pos (show QM c ≠ 0 from h1), if_pos (show QM c ≠ 0 from h1)]; rfl
theorem steps_z (sq : Int) : ∀ (l : List CH) (s : ST), zRx (Ja sq s l) = Ja 0 s.z l
 | [], s => rfl
 | c :: l, s => by
  rw [wC, wC, ← step_z s c sq]
  by_cases h : (X4 s c sq).2 = 0
  ·rw [if_neg (nn h), if_neg (nn (show (zRx (X4 s c sq)).2 = 0 from h))]
   exact steps_z sq l _
  ·rw [if_pos h, if_pos (show (zRx (X4 s c sq)).2 ≠ 0 from h)]; rfl
theorem steps_append (sq : Int) (b : List CH) : ∀ (a : List CH) (s : ST), Ja sq s (a ++ b) = if (Ja sq s a).2 ≠ 0 then (ST.nil, (Ja sq s a).2) else Ja sq (Ja sq s a).1 b
 | [], s => by rw [if_neg (by exact fun h => h rfl)]; rfl
 | c :: a, s => by
  rw [List.cons_append, wC, wC]
  by_cases h : (X4 s c sq).2 = 0
  ·rw [if_neg (nn h), if_neg (nn h)]
   exact steps_append sq b a _
  ·rw [if_pos h, if_pos h, if_pos h]
theorem ST.z_seq (s : ST) (q : Int) : ({ s with seq := q } : ST).z = s.z := rfl
theorem splits_law {s : ST} {a b : List CH} (hv : Zl s = true) (hs : s.seq + 2 ≤ 1073741824) (ha : 1 ≤ a.length) (ha2 : a.length ≤ 8) (hb : 1 ≤ b.length) (hb2 : b.length ≤ 8) :
  ((Q0 s a).2 ≠ 0 → (Q0 s (a ++ b)).2 = (Q0 s a).2) ∧
  ((Q0 s a).2 = 0 → (Q0 (Q0 s a).1 b).2 = (Q0 s (a ++ b)).2 ∧ ((Q0 s (a ++ b)).2 = 0 → (Q0 s (a ++ b)).1.z = (Q0 (Q0 s a).1 b).1.z ∧ (Q0 (Q0 s a).1 b).1.seq = (Q0 s (a ++ b)).1.seq + 1)) := by
 have hq : ¬ 1073741824 < s.seq + 1 := by omega
 have e1 := Uo (l := a) hv (by omega)
 have e2 := Uo (l := a ++ b) hv (by rw [List.length_append]; omega)
 rw [steps_append] at e2
 by_cases h : (Ja (s.seq + 1) s a).2 = 0
 ·have e3 : Q0 s a = ({ (Ja (s.seq + 1) s a).1 with seq := s.seq + 1 }, 0) := by
   rw [e1, kw, if_neg (fun h' => h' h), if_neg hq]
  have hva := J0 (s := s) (l := a) (by rw [e3])
  rw [e3] at hva ⊢
  refine ⟨fun h' => absurd rfl h', fun _ => ?_⟩
  rw [if_neg (fun h' => h' h)] at e2
  have e4 := Uo (l := b) hva.1 (by omega)
  have z1 := steps_z (s.seq + 1) b (Ja (s.seq + 1) s a).1
  have z2 := steps_z (s.seq + 1 + 1) b { (Ja (s.seq + 1) s a).1 with seq := s.seq + 1 }
  rw [ST.z_seq, ← z1] at z2
  have hq2 : ¬ 1073741824 < s.seq + 1 + 1 := by omega
  have e5 := congrArg Prod.snd z2
  have e6 := congrArg Prod.fst z2
  change (Ja (s.seq + 1 + 1) { (Ja (s.seq + 1) s a).1 with seq := s.seq + 1 } b).2 = (Ja (s.seq + 1) (Ja (s.seq + 1) s a).1 b).2 at e5
  change (Ja (s.seq + 1 + 1) { (Ja (s.seq + 1) s a).1 with seq := s.seq + 1 } b).1.z = (Ja (s.seq + 1) (Ja (s.seq + 1) s a).1 b).1.z at e6
  change Q0 { (Ja (s.seq + 1) s a).1 with seq := s.seq + 1 } b = kw (s.seq + 1 + 1) (Ja (s.seq + 1 + 1) { (Ja (s.seq + 1) s a).1 with seq := s.seq + 1 } b) at e4
  show (Q0 { (Ja (s.seq + 1) s a).1 with seq := s.seq + 1 } b).2 = _ ∧ (_ → _ = (Q0 { (Ja (s.seq + 1) s a).1 with seq := s.seq + 1 } b).1.z ∧ (Q0 { (Ja (s.seq + 1) s a).1 with seq := s.seq + 1 } b).1.seq = _)
  rw [e4, e2]
  generalize Ja (s.seq + 1 + 1) { (Ja (s.seq + 1) s a).1 with seq := s.seq + 1 } b = X at *
  generalize Ja (s.seq + 1) (Ja (s.seq + 1) s a).1 b = Y at *
  unfold kw
  by_cases hy : Y.2 = 0
  ·rw [if_neg (fun h' => h' (e5.trans hy)), if_neg hq2, if_neg (fun h' => h' hy), if_neg hq]
   exact ⟨rfl, fun _ => ⟨e6.symm, rfl⟩⟩
  ·rw [if_pos (by rw [e5]; exact hy), if_pos hy]
   exact ⟨e5, fun h' => absurd h' hy⟩
 ·have e3 : Q0 s a = (ST.nil, (Ja (s.seq + 1) s a).2) := by rw [e1, kw, if_pos h]
  refine ⟨fun _ => ?_, fun h' => ?_⟩
  ·rw [e3, e2, kw, if_pos h, if_pos h]
  ·rw [e3] at h'; exact absurd h' h
theorem zn {s : ST} {l : List CH} {t : STM} (h : t.pl = (Q0 s l).1) : Vs t := by
 by_cases h0 : (Q0 s l).2 = 0
 ·exact (XY (s := t) (by rw [h]; exact (J0 h0).1)).1
 ·rw [qO h0] at h
  exact (XY (s := t) (by rw [h]; exact vS)).1
end Go.X
namespace Go.Proofs
open Go Go.X Tryz
set_option maxRecDepth 100000
set_option maxHeartbeats 4000000
end Go.Proofs
namespace Go.X
open Go Go.Lib
structure PgcP (m : Im) (a : Option Addr) (k : Nat) (l : List PGM) : Prop where
 room : l.length ≤ k
 pg : Ew m a l
def pgcF (a : Option Addr) (k : Nat) (l : List PGM) : Fact := ⟨fun m => PgcP m a k l, fun _ _ hm h => ⟨h.room, h.pg.row.mono hm, h.pg.his.mono hm⟩⟩
theorem rv_snocZ {l : List RV} {i : Nat} (h : i < l.length) : Zb ((l.take i).map RV.z) ++ [.i .i64 l[i].num, .s l[i].user, .s l[i].note, .s l[i].text, .i .i64 l[i].min, .i .i64 0] = Zb ((l.take (i + 1)).map RV.z) := by
 rw [List.take_succ_eq_append_getElem h, List.map_append]
 simp [Zb, RV.z, RV.cells]
theorem lt_snocZ {l : List LU} {i : Nat} (h : i < l.length) : ZV ((l.take i).map LU.z) ++ [.s l[i].user, .i .i64 0] = ZV ((l.take (i + 1)).map LU.z) := by
 rw [List.take_succ_eq_append_getElem h, List.map_append]
 simp [ZV, LU.z, LU.cells]
theorem pgs_snocZ {m : Im} {l : List PGM} {x : PGM} (h : J8 m l) (hx : Z8 m 0 6 x.ha x.hist.length (Zb x.hist)) : J8 m (l ++ [x]) := fun p hp => by
 rcases List.mem_append.1 hp with hp | hp
 ·exact h p hp
 ·rw [List.mem_singleton.1 hp]; exact hx
theorem chm_app (l k : List CHM) : Wi l ++ Wi k = Wi (l ++ k) := by simp [Wi]
theorem chmC_lenS (l : List CHM) : (Wi l).length = l.length * 10 := Q7 (F := CHM.cells) (z := 10) (fun _ => rfl) l
theorem chs_app {m : Im} {a : Option Addr} {l k : List CHM} (h : Z8 m 0 10 a (l.length + k.length) (Wi l ++ Wi k)) (h1 : Ej m l) (h2 : Ej m k) : NE m a (l ++ k) :=
 ⟨by rw [List.length_append, ← chm_app]; exact h, fun c hc => by
  rcases List.mem_append.1 hc with hc | hc
  ·exact h1 c hc
  ·exact h2 c hc⟩
theorem WW.seq_leS {n : Nat} {s : ST} (h : WW n s) : s.seq ≤ n := by
 induction h with
 | start p hp =>
  by_cases h0 : (Q0 ST.nil [PW p]).2 = 0
  ·rw [(J0 h0).2.1]; simp [ST.nil]
  ·rw [qO h0]; simp [ST.nil]
 | step h l hl h1 h2 he ih => rw [(J0 he).2.1]; omega
 | more h ih => omega
theorem pgs_z {l k : List PGM} (h : l.map PGM.pl = (k.map PGM.pl).map SP.z) (hl : k.length ≤ 1000) (hh : ∀ p ∈ k, p.hist.length ≤ 1000) : l.length ≤ 1000 ∧ ∀ p ∈ l, p.hist.length ≤ 1000 := by
 refine ⟨?_, fun p hp => ?_⟩
 ·have := congrArg List.length h
  simp only [List.length_map] at this
  omega
 ·have h1 : p.pl ∈ (k.map PGM.pl).map SP.z := h ▸ List.mem_map_of_mem hp
  obtain ⟨q, hq, he⟩ := List.mem_map.1 h1
  obtain ⟨r, hr, rfl⟩ := List.mem_map.1 hq
  have h2 : (r.pl.z).hist.length = p.pl.hist.length := by rw [he]
  have h3 : r.pl.z.hist.length = r.hist.length := List.length_map _
  have h4 : p.pl.hist.length = p.hist.length := rfl
  have := hh r hr
  omega
theorem Vs.of_z {s t : STM} (h : s.pl = t.pl.z) (ht : Vs t) : Vs s := by
 have h1 := pgs_z (congrArg ST.pages h) ht.pages ht.ph
 have h2 := pgs_z (congrArg ST.gone h) ht.gone ht.gh
 have h3 : s.props = t.props := congrArg ST.props h
 have h4 : s.watches = t.watches := congrArg ST.watches h
 have h5 : s.lasts.length = t.lasts.length := (congrArg (fun x : ST => x.lasts.length) h).trans (List.length_map _)
 exact ⟨h1.1, h1.2, h2.1, h2.2, by rw [h3]; exact ht.props, by rw [h4]; exact ht.watches, by rw [h5]; exact ht.lasts⟩
end Go.X
namespace Go.Proofs
open Go Go.X Tryz
set_option maxRecDepth 100000
set_option maxHeartbeats 4000000
theorem unnumbered_ok (a : Option Addr) (k : Nat) (l : List PGM) (hl : l.length ≤ 1000) (hh : ∀ p ∈ l, p.hist.length ≤ 1000) : FnS prog 76 [.c (.sl a l.length k)] [] [H7 a l]
  (fun v L D => ∃ b d l', v = .c (.sl b l'.length d) ∧ l'.map PGM.pl = (l.map PGM.pl).map SP.z ∧ L = [] ∧ D = [pgcF b d l']) := by
 have hrd : ∀ L R, Qp L (H7 a l :: R) 0 3 a l.length (Qm l) := fun L R => .inr fun m h => h.1.row
 refine FJ 0 func76 ntmps76 (fun G => ?_)
 repeat' first | refine Wk ?_ | refine Qa.mk (fun h => ?_) (fun h => ?_) | refine Qd.mk (fun ad => ?_)
 refine Qn (α := Nat × List PGM × Option Addr × Nat) (fun x => [(0, .c (.sl a l.length k)), (3, .c (.sl x.2.2.1 x.2.1.length x.2.2.2)), (4, .c (.i .i64 x.1))]) (fun x => [.row 60 3 x.2.2.1 x.2.1.length x.2.2.2 (Qm x.2.1)]) (fun x => [H7 a l, pgsF x.2.1]) 0
  (fun x => x.1 ≤ l.length ∧ x.2.1.map PGM.pl = ((l.take x.1).map PGM.pl).map SP.z) (fun x => l.length - x.1) (Qq.mk (0, [], none, 0) ⟨Nat.zero_le _, rfl⟩ Qh.a ((Qb.nilRow (ety := 60) (esz := 3)).trans (Qb.facts fun _ h => ⟨h.1, fun _ h => (by cases h), trivial⟩))) (fun x hx => ?_)
 obtain ⟨i, out, b, d⟩ := x
 obtain ⟨hi, ho⟩ := hx
 dsimp only at hi ho ⊢
 by_cases hlt : i < l.length
 ·have hg := XT hlt
  have hgh := YH hlt
  have hmem := List.getElem_mem hlt
  have hxh := hh _ hmem
  have hol : out.length = i := by
   have := congrArg List.length ho
   simp only [List.length_map, List.length_take] at this
   omega
  have hnext : ∀ q : PGM, q.pl = l[i].pl.z → (out ++ [q]).map PGM.pl = ((l.take (i + 1)).map PGM.pl).map SP.z := fun q hq => by
   rw [List.map_append, ho, List.take_succ_eq_append_getElem hlt, List.map_append, List.map_append]
   simp only [List.map_cons, List.map_nil, hq]
  clear ho
  generalize l[i] = x at *
  have hrh : ∀ L R, Qp L (H7 a l :: R) 0 6 x.ha x.hist.length (Zb x.hist) := fun L R => .inr fun m h => h.1.his x hmem
  repeat' first | refine Wk ?_ | refine Qa.mk (fun h => ?_) (fun h => ?_) | refine Qd.mk (fun ad => ?_) | refine Qr.a 0 3 _ (hrd _ _) ?_ | refine Zv.mk 0 3 _ _ (hrd _ _) (by omega) ?_ | refine Qi.mk 0 _ _ [.i .i64 x.sp, .s x.nm] (hrd _ _) (by omega) (by omega) (by first | omega | decide) (by exact hg) ?_
  refine Qn (α := Nat × Option Addr × Nat) (fun y => [(0, .c (.sl a l.length k)), (3, .c (.sl b out.length d)), (4, .c (.i .i64 i)), (5, .c (.p 0 ad 0)), (6, .c (.i .i64 y.1))]) (fun y => [.row 73 6 y.2.1 y.1 y.2.2 (Zb ((x.hist.take y.1).map RV.z)), .box 0 ad 60 [.i .i64 x.sp, .s x.nm, .sl y.2.1 y.1 y.2.2], .row 60 3 b out.length d (Qm out)]) (fun _ => [H7 a l, pgsF out]) 1
   (fun y => y.1 ≤ x.hist.length) (fun y => x.hist.length - y.1) (Qq.mk (0, none, 0) (Nat.zero_le _) Qh.a (Qb.nilRow (ety := 73) (esz := 6))) (fun y hy => ?_)
  obtain ⟨j, hb, hd⟩ := y
  dsimp only at hy ⊢
  by_cases hjl : j < x.hist.length
  ·have hg6 := Yo hjl
   have hsn := rv_snocZ hjl
   generalize x.hist[j] = r at *
   repeat' first | refine Wk ?_ | refine Qa.mk (fun h => ?_) (fun h => ?_) | refine Qd.mk (fun ad => ?_) | refine Qr.a 0 3 _ (hrd _ _) ?_ | refine Zv.mk 0 3 _ _ (hrd _ _) (by omega) ?_ | refine Qi.mk 0 _ _ [.sl x.ha x.hist.length x.hc] (hrd _ _) (by omega) (by omega) (by first | omega | decide) (by exact hgh) ?_ | refine Qr.a 0 6 _ (hrh _ _) ?_ | refine Qi.mk 0 _ _ _ (hrh _ _) (by omega) (by omega) (by first | omega | decide) (by exact hg6) ?_ | (refine QK.row [_, _] _ (Zb ((x.hist.take j).map RV.z)) [.i .i64 r.num, .s r.user, .s r.note, .s r.text, .i .i64 r.min, .i .i64 0] 1 rfl (QJ.sl 73 73 _ _ 1 1 _ rfl rfl (.inl ⟨1, QT⟩) rfl) (by dsimp only; omega) (fun b' k' => ?_); rw [hsn]) | refine Qo.mk (j + 1, b', k') (by dsimp only; omega) (by dsimp only; omega) Qh.a Qb.a
  ·have hje : j = x.hist.length := by omega
   subst hje
   rw [List.take_length]
   have hap : Qm out ++ [.i .i64 x.sp, .s x.nm, .sl hb x.hist.length hd] = Qm (out ++ [⟨x.sp, x.nm, hb, hd, x.hist.map RV.z⟩]) := by simp [Qm, PGM.cells]
   have hln : out.length + 1 = (out ++ [(⟨x.sp, x.nm, hb, hd, x.hist.map RV.z⟩ : PGM)]).length := by simp
   have hnx := hnext ⟨x.sp, x.nm, hb, hd, x.hist.map RV.z⟩ rfl
   repeat' first | refine Wk ?_ | refine Qa.mk (fun h => ?_) (fun h => ?_) | refine Qd.mk (fun ad => ?_) | refine Qr.a 0 3 _ (hrd _ _) ?_ | refine Zv.mk 0 3 _ _ (hrd _ _) (by omega) ?_ | refine Qi.mk 0 _ _ [.sl x.ha x.hist.length x.hc] (hrd _ _) (by omega) (by omega) (by first | omega | decide) (by exact hgh) ?_ | (refine QK.row [_, _, _] _ (Qm out) [.i .i64 x.sp, .s x.nm, .sl hb x.hist.length hd] 1 rfl (QJ.sl 60 60 _ _ 1 1 _ rfl rfl (.inl ⟨1, QT⟩) rfl) (by dsimp only; omega) (fun b' k' => ?_); rw [hap, hln]) | refine Qo.mk (i + 1, out ++ [⟨x.sp, x.nm, hb, hd, x.hist.map RV.z⟩], b', k') (by dsimp only; omega) ⟨by dsimp only; omega, hnx⟩ Qh.a (Qb.drop.trans (Qb.toFact.trans (Qb.drop.trans (Qb.facts (D := [Qf 73 6 hb x.hist.length (Zb (x.hist.map RV.z)), H7 a l, pgsF out]) (D' := [H7 a l, pgsF (out ++ [⟨x.sp, x.nm, hb, hd, x.hist.map RV.z⟩])]) fun _ h => ⟨h.2.1, pgs_snocZ h.2.2.1 (by show Z8 _ _ _ hb (x.hist.map RV.z).length _; rw [List.length_map]; exact h.1), trivial⟩))))
 ·have hil : i = l.length := by omega
  subst hil
  rw [List.take_length] at ho
  repeat' first | refine Wk ?_ | refine Qa.mk (fun h => ?_) (fun h => ?_) | refine Qd.mk (fun ad => ?_) | refine Qe.mk [] [pgcF b d out] ⟨b, d, out, rfl, ho, rfl, rfl⟩ (Qb.toFactC.trans (Qb.facts fun _ h => ⟨⟨h.1.1, h.1.2, h.2.2.1⟩, trivial⟩))
theorem timeless_ok (s : STM) (hs : Vs s) : FnS prog 32 [.agg s.cells] [] [QG s] (fun v L D => ∃ s' : STM, v = .agg s'.cells ∧ s'.pl = s.pl.z ∧ L = [] ∧ D = [QG s']) := by
 have cu := unnumbered_ok s.pa s.pc s.pages hs.pages hs.ph
 have cv := unnumbered_ok s.ga s.gc s.gone hs.gone hs.gh
 have hl := hs.lasts
 refine FJ 0 func32 ntmps32 (fun G => ?_)
 repeat' first | refine QF (c := .seq (.region 3 _ _) _) ?_ | refine Wk ?_ | refine Qa.mk (fun h => ?_) (fun h => ?_) | refine Qd.mk (fun ad => ?_) | refine Ke (id := 2) tyOK (by kernel_rfl) [0, 1, 3, 0, 8, 31, 31, 127, 255, 511] (.node [0, 3] 1 (.node [] 2 (.leaf [4, 6, 5, 7, 8, 9]) 4 (.leaf [2, 6, 5, 7, 8, 9])) 4 (.leaf [1, 2, 6, 5, 7, 8, 9])) [1, 2, 4, 5, 7, 9] [] 9 true (by kernel_rfl) ?_ | refine X3.mk ?_ ?_ | refine Qt.mk Qb.a ?_ | (refine Qc.mk [] _ [_] _ cu QW (fun _ h => ⟨h.1.pages, trivial⟩) (fun v L' D' hq => ?_); obtain ⟨b1, d1, l1, rfl, h1, rfl, rfl⟩ := hq) | (refine Qc.mk [] _ [_] _ cv QW (fun _ h => ⟨h.2.1.gone, trivial⟩) (fun v L' D' hq => ?_); obtain ⟨b2, d2, l2, rfl, h2, rfl, rfl⟩ := hq)
 all_goals
  refine ⟨?_⟩
  rename_i ad1
  have hrd : ∀ L, Qp L [pgcF b2 d2 l2, pgcF b1 d1 l1, QG s] 0 2 s.la s.lasts.length (ZV s.lasts) := fun L => .inr fun m h => h.2.2.1.lasts
  clear cu cv
  repeat' first | refine Wk ?_ | refine Qa.mk (fun h => ?_) (fun h => ?_) | refine Qd.mk (fun ad => ?_)
  refine Qn (α := Nat × Option Addr × Nat) (fun x => [(1, .c (.p 0 ad1 0)), (2, .c (.p 1 ad 0)), (3, .c (.sl x.2.1 x.1 x.2.2)), (4, .c (.i .i64 x.1))]) (fun x => [.row 103 2 x.2.1 x.1 x.2.2 (ZV ((s.lasts.take x.1).map LU.z)), .box 1 ad 27 [.i .i64 0, .i .i64 0, .sl none 0 0, .sl none 0 0, .sl none 0 0, .i .i64 0, .sl none 0 0, .sl none 0 0], .box 0 ad1 27 [.i .i64 0, .i .i64 s.clk, .sl b1 l1.length d1, .sl b2 l2.length d2, .sl s.qa s.props.length s.qc, .i .i64 s.proposed, .sl s.wa s.watches.length s.wc, .sl s.la s.lasts.length s.lc]]) (fun _ => [pgcF b2 d2 l2, pgcF b1 d1 l1, QG s]) 2
   (fun x => x.1 ≤ s.lasts.length) (fun x => s.lasts.length - x.1) (Qq.mk (0, none, 0) (Nat.zero_le _) Qh.a (Qb.nilRow (ety := 103) (esz := 2))) (fun x hx => ?_)
  obtain ⟨i, la, lc⟩ := x
  dsimp only at hx ⊢
  by_cases hlt : i < s.lasts.length
  ·have hg := OT hlt
   have hsn := lt_snocZ hlt
   generalize s.lasts[i] = y at *
   repeat' first | refine Wk ?_ | refine Qa.mk (fun h => ?_) (fun h => ?_) | refine Qd.mk (fun ad => ?_) | refine Qr.a 0 2 _ (hrd _) ?_ | refine Zv.mk 0 2 _ _ (hrd _) (by omega) ?_ | refine Qi.mk 0 _ _ [.s y.user] (hrd _) (by omega) (by omega) (by first | omega | decide) (by exact hg) ?_ | (refine QK.row [_] _ (ZV ((s.lasts.take i).map LU.z)) [.s y.user, .i .i64 0] 1 rfl (QJ.sl 103 103 _ _ 1 1 _ rfl rfl (.inl ⟨1, QT⟩) rfl) (by dsimp only; omega) (fun b' k' => ?_); rw [hsn]) | refine Qo.mk (i + 1, b', k') (by dsimp only; omega) (by dsimp only; omega) Qh.a Qb.a
  ·have hil : i = s.lasts.length := by omega
   subst hil
   rw [List.take_length]
   have hcl : STM.cells ⟨0, s.clk, b1, d1, l1, b2, d2, l2, s.qa, s.qc, s.props, s.proposed, s.wa, s.wc, s.watches, la, lc, s.lasts.map LU.z⟩ = [.i .i64 0, .i .i64 s.clk, .sl b1 l1.length d1, .sl b2 l2.length d2, .sl s.qa s.props.length s.qc, .i .i64 s.proposed, .sl s.wa s.watches.length s.wc, .sl la s.lasts.length lc] := by
    show [C.i .i64 0, .i .i64 s.clk, .sl b1 l1.length d1, .sl b2 l2.length d2, .sl s.qa s.props.length s.qc, .i .i64 s.proposed, .sl s.wa s.watches.length s.wc, .sl la (s.lasts.map LU.z).length lc] = _
    rw [List.length_map]
   have hpl : STM.pl ⟨0, s.clk, b1, d1, l1, b2, d2, l2, s.qa, s.qc, s.props, s.proposed, s.wa, s.wc, s.watches, la, lc, s.lasts.map LU.z⟩ = s.pl.z := by
    show ST.mk 0 s.clk (l1.map PGM.pl) (l2.map PGM.pl) s.props s.proposed s.watches (s.lasts.map LU.z) = _
    rw [h1, h2]; rfl
   repeat' first | refine Wk ?_ | refine Qa.mk (fun h => ?_) (fun h => ?_) | refine Qd.mk (fun ad => ?_) | refine Qe.mk [] [QG ⟨0, s.clk, b1, d1, l1, b2, d2, l2, s.qa, s.qc, s.props, s.proposed, s.wa, s.wc, s.watches, la, lc, s.lasts.map LU.z⟩] ⟨_, congrArg V.agg hcl.symm, hpl, rfl, rfl⟩ (Qb.toFactC.trans (Qb.dropAll.trans (Qb.facts fun _ h => ⟨⟨h.2.2.1.pg, h.2.1.pg, h.2.2.2.1.props, h.2.2.2.1.watches, by show Z8 _ 0 2 la (s.lasts.map LU.z).length _; rw [List.length_map]; exact h.1.2, ⟨h.2.2.1.room, h.2.1.room, h.2.2.2.1.room.props, h.2.2.2.1.room.watches, by show (s.lasts.map LU.z).length ≤ lc; rw [List.length_map]; exact h.1.1⟩⟩, trivial⟩)))
theorem stateSplits_ok (e e2 e3 : Nat) (a a2 a3 : Option Addr) (c c2 c3 : Nat) (l m n : List Int) (hl : l.length ≤ maxLen) (hm : m.length ≤ maxLen) (hn : n.length ≤ maxLen) :
  FnS prog 7 [.c (.sl a l.length c), .c (.sl a2 m.length c2), .c (.sl a3 n.length c3)] [] [Zj e a l, Zj e2 a2 m, Zj e3 a3 n, gM, XH] (Is tt) := by
 have cg := KY e a c l hl
 have cf := qL e2 a2 c2 m hm
 have cf3 := qL e3 a3 c3 n hn
 refine FJ 0 func7 ntmps7 (fun G => ?_)
 repeat' first | refine QF (c := .seq (.region 2 _ _) _) ?_ | refine Wk ?_ | refine Qa.mk (fun h => ?_) (fun h => ?_) | refine Qd.mk (fun ad => ?_) | (refine Qc.mk [] _ [_] _ cg QW (fun _ h => by simp only [QI, Qs, List.cons_append, List.nil_append, and_true] at h ⊢; simp only [h, and_self]) (fun v L' D' hq => ?_); obtain ⟨u, rfl, hu, rfl, rfl⟩ := hq)
 refine ⟨?_⟩
 have huv := hu.valid
 obtain ⟨hus, hc0, hc1⟩ := XY huv
 have hsq := hu.seq_leS
 have ch := fun ad => KF e2 a2 c2 ad m (gs0 m) u.clk (qi m) hm hc0 hc1
 have ch3 := fun ad => KF e3 a3 c3 ad n (gs0 n) u.clk (qi n) hn hc0 hc1
 clear cg
 revert ad
 intro adu
 repeat' first | refine QF (c := .seq (.region 3 _ _) _) ?_ | refine Wk ?_ | refine Qa.mk (fun h => ?_) (fun h => ?_) | refine Qd.mk (fun ad => ?_) | refine Ds (id := 2) [0,1,0,4,15,0,63,0,128,511,1023,2047] [0,2,3,5,7,8,1,4,6,9,10,11] [1,4,6,9] [7] true ?_ | refine Ke (id := 3) tyOK (by kernel_rfl) [0, 0, 2, 0, 14, 31, 63, 127, 127, 0, 767, 2047] (.node [0, 1, 3] 2 (.node [] 4 (.leaf [5, 6, 7, 8, 9, 10, 11]) 9 (.leaf [4, 5, 6, 7, 8, 10, 11])) 9 (.leaf [2, 4, 5, 6, 7, 8, 10, 11])) [2, 4, 9, 10] [7] 12 true (by kernel_rfl) ?_ | refine X3.mk ?_ ?_ | refine Ds (id := 8) [0,1,3,3,15,31,63,127,255,511,1023,2047,1023,8191,16383,32767,65535,131071,65535,327679,851967,2097151,4194303,8388607,16777215,33554431] [0,1,2,3,4,5,6,7,8,9,10,11,12,13,14,15,16,17,18,19,20,21,22,23,24,25] [] [10,14] true ?_ | refine Qt.mk Qb.a ?_ | (refine Qc.mk [] _ [_] _ cf QW (fun _ h => by simp only [QI, Qs, List.cons_append, List.nil_append, and_true] at h ⊢; simp only [h, and_self]) (fun v L' D' hp => ?_); obtain ⟨ad0, rfl, rfl, rfl⟩ := hp) | (refine Qc.mk [] _ [_] _ cf3 QW (fun _ h => by simp only [QI, Qs, List.cons_append, List.nil_append, and_true] at h ⊢; simp only [h, and_self]) (fun v L' D' hp => ?_); obtain ⟨ad3, rfl, rfl, rfl⟩ := hp) | (refine Qc.mk [_] _ [_] _ (ch _) QW (fun _ h => by simp only [QI, Qs, List.cons_append, List.nil_append, and_true] at h ⊢; simp only [h, and_self]) (fun v L' D' hp => ?_); obtain ⟨b, k, cs, g2, rfl, h1, h2, hmc, hg2, rfl, rfl⟩ := hp) | (refine Qc.mk [_] _ [_] _ (ch3 _) QW (fun _ h => by simp only [QI, Qs, List.cons_append, List.nil_append, and_true] at h ⊢; simp only [h, and_self]) (fun v L' D' hp => ?_); obtain ⟨b', k', ds, g3, rfl, h3, h4, hmd, hg3, rfl, rfl⟩ := hp)
 refine ⟨?_⟩
 refine VE (L' := [.box 0 adu 27 u.cells]) (D' := [WQ b cs, WQ b' ds, QG u, gM, XH]) (n' := 1) (Qb.ofSub (by repeat (first | exact List.Sublist.slnil | refine List.Sublist.cons_cons _ ?_ | refine List.Sublist.cons _ ?_)) (fun _ h => by simp only [QI, Qs, List.cons_append, List.nil_append, and_true] at h ⊢; simp only [h, and_self])) ?_
 clear ch ch3 cf cf3
 have sp := splits_law (s := u.pl) (a := cs.map CHM.pl) (b := ds.map CHM.pl) huv (by change u.seq ≤ _ at hsq; change u.seq + 2 ≤ _; omega) (by rw [List.length_map]; exact h1) (by rw [List.length_map]; omega) (by rw [List.length_map]; exact h3) (by rw [List.length_map]; omega)
 have hlc : ∀ (ch : CHM), qB ch.pl → ch.hist.length ≤ big := fun ch h => by have := h.len; have h3 : ch.pl.hist = ch.hist := rfl; rw [h3] at this; simp only [big]; omega
 have c0 := fun b k => jy u b k (cs ++ ds) hus.big hus.ph (by rw [List.length_append]; simp only [big]; omega) (fun ch hch => by
  rcases List.mem_append.1 hch with hch | hch
  ·exact hlc ch (hmc ch hch)
  ·exact hlc ch (hmd ch hch))
 rw [List.length_append, List.map_append] at c0
 have c1 := jy u b k cs hus.big hus.ph (by simp only [big]; omega) (fun ch hch => hlc ch (hmc ch hch))
 have c2 := fun (v : STM) (hv : Vs v) => jy v b' k' ds hv.big hv.ph (by simp only [big]; omega) (fun ch hch => hlc ch (hmd ch hch))
 have s0 := fun (t : STM) => zn (s := u.pl) (l := cs.map CHM.pl ++ ds.map CHM.pl) (t := t)
 have s1 := fun (t : STM) => zn (s := u.pl) (l := cs.map CHM.pl) (t := t)
 have s2 := fun (t : STM) => zn (s := (Q0 u.pl (cs.map CHM.pl)).1) (l := ds.map CHM.pl) (t := t)
 have c2 := fun (v : STM) (hv : v.pl = (Q0 u.pl (cs.map CHM.pl)).1) => show FnS _ _ _ _ _ (Kz (Q0 (Q0 u.pl (cs.map CHM.pl)).1 (ds.map CHM.pl))) from hv ▸ c2 v (s1 v hv)
 have hv0 := fun h => X.JM.1 (J0 (s := u.pl) (l := cs.map CHM.pl ++ ds.map CHM.pl) h).1
 generalize Q0 (Q0 u.pl (cs.map CHM.pl)).1 (ds.map CHM.pl) = R2 at *
 generalize Q0 u.pl (cs.map CHM.pl ++ ds.map CHM.pl) = R0 at *
 generalize Q0 u.pl (cs.map CHM.pl) = R1 at *
 obtain ⟨S0, E0⟩ := R0
 obtain ⟨S1', E1⟩ := R1
 obtain ⟨S2, E2⟩ := R2
 dsimp only at sp s0 s1 s2 c2 hv0
 clear hu huv hc0 hc1 hmc hmd hlc hg2 hg3
 refine Kj (x := .region 3 _ _) (α := STM × Nat) (fun z => [(6, .c (.b false)), (7, .c (.p 0 adu 0)), (8, .c (.sl b cs.length k)), (9, .c (.sl b' ds.length k')), (10, .c (.p 1 z.2 0)), (11, .c (.i .i64 E0))]) (fun z => [.box 1 z.2 27 z.1.cells, .box 0 adu 27 u.cells]) (fun z => [QG z.1, WQ b cs, WQ b' ds, QG u, gM, XH]) 2 (fun z => z.1.pl = S0) ?_ (fun z hz => ?_)
 ·repeat' first | refine Wk ?_ | refine Qa.mk (fun h => ?_) (fun h => ?_) | refine Qd.mk (fun ad => ?_) | refine Ds (id := 2) [0,1,0,4,15,0,63,0,128,511,1023,2047] [0,1,2,3,4,5,6,7,8,9,10,11] [] [7] true ?_ | refine Ke (id := 3) tyOK (by kernel_rfl) [0, 0, 2, 0, 14, 31, 63, 127, 127, 0, 767, 2047] (.node [0, 1, 3] 2 (.node [] 4 (.node [] 5 (.leaf [6, 7, 8, 9, 10, 11]) 9 (.leaf [5, 6, 7, 8, 10, 11])) 9 (.leaf [4, 5, 6, 7, 8, 10, 11])) 9 (.leaf [2, 4, 5, 6, 7, 8, 10, 11])) [2, 4, 5, 9, 10] [7] 12 true (by kernel_rfl) ?_ | refine X3.mk ?_ ?_ | refine Ds (id := 8) [0,1,3,3,15,31,63,127,255,511,1023,2047,1023,8191,16383,32767,65535,131071,65535,327679,851967,2097151,4194303,8388607,16777215,33554431] [0,1,2,3,4,5,6,7,8,9,10,11,12,13,14,15,16,17,18,19,20,21,22,23,24,25] [] [10,14] true ?_ | refine Qt.mk Qb.a ?_ | refine QK.nil (Wi cs) cs.length rfl rfl rfl (QJ.sl 0 64 _ _ _ _ _ rfl rfl (.inr fun m h => h.1.row) (chmC_lenS cs)) (by dsimp only; omega) (fun a' c' => ?_) | refine QK.row [] _ (Wi cs) (Wi ds) ds.length rfl (QJ.sl 0 64 _ _ _ _ _ rfl rfl (.inr fun m h => h.2.1.row) (chmC_lenS ds)) (by dsimp only; omega) (fun a' c' => ?_) | refine QK.row [_] _ (Wi cs) (Wi ds) ds.length rfl (QJ.sl 0 64 _ _ _ _ _ rfl rfl (.inr fun m h => h.2.1.row) (chmC_lenS ds)) (by dsimp only; omega) (fun a' c' => ?_) | (refine Qc.mkE [] _ [_, _, _, _] _ _ (c0 _ _) Qb.toFact (fun _ h => ⟨h.2.2.2.1, chs_app h.1 h.2.1.his h.2.2.1.his, h.2.2.2.2.1, h.2.2.2.2.2.1, trivial⟩) (fun v L' D' hq => ?_); obtain ⟨t, rfl, rfl, rfl, ht⟩ := hq) | (refine Qc.mkE [] _ [_, _, _, _] _ _ (c0 _ _) ((Qb.perm (List.Perm.swap _ _ _)).trans Qb.toFact) (fun _ h => ⟨h.2.2.2.1, chs_app h.1 h.2.1.his h.2.2.1.his, h.2.2.2.2.1, h.2.2.2.2.2.1, trivial⟩) (fun v L' D' hq => ?_); obtain ⟨t, rfl, rfl, rfl, ht⟩ := hq) | refine Qq.mk (t, ad) ht Qh.a (Qb.ofSub (by repeat (first | exact List.Sublist.slnil | refine List.Sublist.cons_cons _ ?_ | refine List.Sublist.cons _ ?_)) (fun _ h => by simp only [QI, Qs, List.cons_append, List.nil_append, and_true] at h ⊢; simp only [h, and_self]))
 obtain ⟨t, ad1⟩ := z
 dsimp only at hz ⊢
 have hts := s0 t hz
 by_cases hE : E1 = 0
 ·obtain ⟨e20, hz2⟩ := sp.2 hE
  subst hE e20
  clear sp c0
  repeat' first | refine QF (c := .seq (.region 7 _ _) _) ?_ | refine Wk ?_ | refine Qa.mk (fun h => ?_) (fun h => ?_) | refine Qd.mk (fun ad => ?_) | (refine Qc.mk [] _ [_, _, _, _] _ c1 QW (fun _ h => by simp only [QI, Qs, List.cons_append, List.nil_append, and_true] at h ⊢; simp only [h, and_self]) (fun v L' D' hq => ?_); obtain ⟨v1, rfl, rfl, rfl, hv1⟩ := hq)
  refine ⟨?_⟩
  have cv := c2 v1 hv1
  repeat' first | refine QF (c := .seq (.region 8 _ _) _) ?_ | refine Wk ?_ | refine Qa.mk (fun h => ?_) (fun h => ?_) | refine Qd.mk (fun ad => ?_) | (refine Qc.mk [] _ [_, _, _, _] _ cv QW (fun _ h => by simp only [QI, Qs, List.cons_append, List.nil_append, and_true] at h ⊢; simp only [h, and_self]) (fun v L' D' hq => ?_); obtain ⟨v2, rfl, rfl, rfl, hv2⟩ := hq)
  refine ⟨?_⟩
  have hvs := s2 v2 hv2
  have ct := timeless_ok t hts
  have cu := timeless_ok v2 hvs
  clear c1 c2 cv s0 s1 s2
  by_cases h0 : E2 = 0
  ·obtain ⟨hzz, hq⟩ := hz2 h0
   obtain ⟨w0, w1, _⟩ := hv0 h0
   have hsz : t.seq = S0.seq := congrArg ST.seq hz
   have hvq : v2.seq = t.seq + 1 := (congrArg ST.seq hv2).trans (hq.trans (congrArg (fun x : ST => x.seq + 1) hz.symm))
   have css := fun (x y : STM) (hx : x.pl = t.pl.z) (hy : y.pl = v2.pl.z) => xv x y (by rw [hx, hy, hz, hv2, hzz]) (Vs.of_z hx hts).big
   subst h0
   clear hz2
   repeat' first | refine Qa.yes rfl ?_ | refine Wk ?_ | refine Qa.mk (fun h => ?_) (fun h => ?_) | refine Qd.mk (fun ad => ?_) | refine Ds (id := 2) [0,1,0,4,15,0,63,0,128,511,1023,2047] [0,1,2,3,4,5,6,7,8,9,10,11] [] [7] true ?_ | refine Ke (id := 3) tyOK (by kernel_rfl) [0, 0, 2, 0, 14, 31, 63, 127, 127, 0, 767, 2047] (.node [0, 1, 3] 2 (.node [] 4 (.leaf [5, 6, 7, 8, 9, 10, 11]) 9 (.leaf [4, 5, 6, 7, 8, 10, 11])) 9 (.leaf [2, 4, 5, 6, 7, 8, 10, 11])) [2, 4, 9, 10] [7] 12 true (by kernel_rfl) ?_ | refine X3.mk ?_ ?_ | refine Ds (id := 8) [0,1,3,3,15,31,63,127,255,511,1023,2047,1023,8191,16383,32767,65535,131071,65535,327679,851967,2097151,4194303,8388607,16777215,33554431] [0,1,2,3,4,5,6,7,8,9,10,12,11,13,14,15,16,17,18,19,20,21,22,23,24,25] [11,13,14] [10,14] true ?_ | refine Qt.mk Qb.a ?_ | refine Qc.is Xo ?_ (fun _ h => by simp only [QI, Qs, List.cons_append, List.nil_append, and_true] at h ⊢; simp only [h, and_self]) | (refine Qc.mk [] _ [QG t] _ ct QW (fun _ h => by simp only [QI, Qs, List.cons_append, List.nil_append, and_true] at h ⊢; simp only [h, and_self]) (fun v L' D' hq => ?_); obtain ⟨x, rfl, hx, rfl, rfl⟩ := hq) | (refine Qc.mk [] _ [QG v2] _ cu QW (fun _ h => by simp only [QI, Qs, List.cons_append, List.nil_append, and_true] at h ⊢; simp only [h, and_self]) (fun v L' D' hq => ?_); obtain ⟨y, rfl, hy, rfl, rfl⟩ := hq) | refine Qc.is (css x y hx hy) ?_ (fun _ h => by simp only [QI, Qs, List.cons_append, List.nil_append, and_true] at h ⊢; simp only [h, and_self]) | refine Qx.mk [gM, XH] _ Xo (fun _ h => by simp only [QI, Qs, List.cons_append, List.nil_append, and_true] at h ⊢; simp only [h, and_self]) ?_ | refine Qx.mk [QG x, QG y] _ (css x y hx hy) (fun _ h => by simp only [QI, Qs, List.cons_append, List.nil_append, and_true] at h ⊢; simp only [h, and_self]) ?_ | refine Qe.is rfl
  ·clear hz2
   repeat' first | refine Qa.yes rfl ?_ | refine Wk ?_ | refine Qa.mk (fun h => ?_) (fun h => ?_) | refine Qd.mk (fun ad => ?_) | refine Ds (id := 2) [0,1,0,4,15,0,63,0,128,511,1023,2047] [0,1,2,3,4,5,6,7,8,9,10,11] [] [7] true ?_ | refine Ke (id := 3) tyOK (by kernel_rfl) [0, 0, 2, 0, 14, 31, 63, 127, 127, 0, 767, 2047] (.node [0, 1, 3] 2 (.node [] 4 (.leaf [5, 6, 7, 8, 9, 10, 11]) 9 (.leaf [4, 5, 6, 7, 8, 10, 11])) 9 (.leaf [2, 4, 5, 6, 7, 8, 10, 11])) [2, 4, 9, 10] [7] 12 true (by kernel_rfl) ?_ | refine X3.mk ?_ ?_ | refine Ds (id := 8) [0,1,3,3,15,31,63,127,255,511,1023,2047,1023,8191,16383,32767,65535,131071,65535,327679,851967,2097151,4194303,8388607,16777215,33554431] [0,1,2,3,4,5,6,7,8,9,10,12,11,13,14,15,16,17,18,19,20,21,22,23,24,25] [11,13,14] [10,14] true ?_ | refine Qt.mk Qb.a ?_ | refine Qc.is Xo ?_ (fun _ h => by simp only [QI, Qs, List.cons_append, List.nil_append, and_true] at h ⊢; simp only [h, and_self]) | refine Qx.mk [gM, XH] _ Xo (fun _ h => by simp only [QI, Qs, List.cons_append, List.nil_append, and_true] at h ⊢; simp only [h, and_self]) ?_ | refine Qe.is rfl
 ·obtain rfl := sp.1 hE
  clear sp c0 c2 s0 s1 s2
  repeat' first | refine Qa.yes rfl ?_ | refine Wk ?_ | refine Qa.mk (fun h => ?_) (fun h => ?_) | refine Qd.mk (fun ad => ?_) | (refine Qc.mk [] _ [_, _, _, _] _ c1 QW (fun _ h => by simp only [QI, Qs, List.cons_append, List.nil_append, and_true] at h ⊢; simp only [h, and_self]) (fun v L' D' hq => ?_); obtain ⟨v1, rfl, rfl, rfl, hv1⟩ := hq) | refine Qc.is Xo ?_ (fun _ h => by simp only [QI, Qs, List.cons_append, List.nil_append, and_true] at h ⊢; simp only [h, and_self]) | refine Qe.is rfl
end Go.Proofs
