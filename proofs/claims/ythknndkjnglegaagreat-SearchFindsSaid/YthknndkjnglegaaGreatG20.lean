/- This text walks through the functions insert, without, drop, LastGone, Redirect, LastOf and Revision of the reference of chapter 27. -/
import Derived.Test.YthknndkjnglegaaGreatG19
import Derived.Test.YthknndkjnglegaaGreatG18
import Derived.Test.YthknndkjnglegaaGreatG16
import Derived.Test.YthknndkjnglegaaGreatG14
set_option linter.all false

namespace Go.X
open Go Go.Lib
def hitP (sp : Int) (nm : Bs) (p : PP) : Bool := !decide (p.sp = sp ∧ p.nm = nm)
theorem pp_ttl {l : List PP} {i : Nat} (h : i < l.length) : ((ppC l).drop (i * 8 + 3)).take 2 = [.i .i64 l[i].sp, .s l[i].nm] := by
  rw [ppC, flat_get (F := PP.cells) (z := 8) (fun _ => rfl) h (by omega)]; rfl
theorem take_filter_succ {α : Type} {q : α → Bool} {l : List α} {i : Nat} (h : i < l.length) : (l.take (i + 1)).filter q = (l.take i).filter q ++ (if q l[i] = true then [l[i]] else []) := by
  rw [List.take_succ_eq_append_getElem h, List.filter_append]
  congr 1
  by_cases hq : q l[i] = true
  · simp [hq]
  · simp [hq]
theorem filter_take_len {α : Type} (q : α → Bool) (l : List α) (i : Nat) : ((l.take i).filter q).length ≤ i := Nat.le_trans (List.length_filter_le _ _) (by rw [List.length_take]; omega)
/-- The place of the last page with a title. -/
theorem lastG_at {α : Type} {p : α → Bool} : ∀ {l : List α} {k : Nat} (h : k < l.length) (_ : p l[k] = true) (_ : ∀ j, ∀ hj : j < l.length, k < j → p l[j] = false), lastG p l = k
  | x :: r, 0, h, hp, hn => by
    have h1 : lastG p r = -1 := by
      rcases lastG_spec p r with ⟨h1, _⟩ | ⟨i, h1, _, h3⟩
      · exact h1
      · have := hn (i + 1) (by simpa using h1) (by omega)
        simp at this
        rw [h3] at this; cases this
    rw [lastG, h1, if_neg (by omega), if_pos (by simpa using hp)]; rfl
  | x :: r, k + 1, h, hp, hn => by
    have h1 := lastG_at (p := p) (l := r) (k := k) (by simpa using h) (by simpa using hp) (fun j hj hk => hn (j + 1) (by simpa using hj) (by omega))
    rw [lastG, h1, if_pos (by omega)]; omega
theorem lastG_none {α : Type} {p : α → Bool} {l : List α} (hn : ∀ j, ∀ hj : j < l.length, p l[j] = false) : lastG p l = -1 := by
  rcases lastG_spec p l with ⟨h1, _⟩ | ⟨i, h1, _, h3⟩
  · exact h1
  · rw [hn i h1] at h3; cases h3
theorem lastG_map {α β : Type} (f : α → β) (q : β → Bool) : ∀ l : List α, lastG q (l.map f) = lastG (fun x => q (f x)) l
  | [] => rfl
  | x :: r => by simp only [List.map_cons, lastG, lastG_map f q r]
theorem lt_user {l : List LU} {i : Nat} (h : i < l.length) : ((ltC l).drop (i * 2 + 0)).take 1 = [.s l[i].user] := by
  rw [ltC, flat_get (F := LU.cells) (z := 2) (fun _ => rfl) h (by omega)]; rfl
end Go.X
namespace Go.Proofs
open Go Go.X
set_option maxRecDepth 100000
set_option maxHeartbeats 4000000
theorem insert27_ok (a : Option Addr) (c : Nat) (l : List PGM) (x : PGM) (hl : l.length ≤ 1000) : FnS Tryz.prog 147 [.c (.sl a l.length c), .agg x.cells] [] [slcFact 3 a l.length c (pgmC l)] (SlPost 3 PGM.cells (insM l x)) := by
  have hrd : ∀ L, Reads L [slcFact 3 a l.length c (pgmC l)] 0 3 a l.length (pgmC l) := fun L => .inr fun m h => h.1.2
  have hW : ∀ i, i ≤ l.length → (∀ j, ∀ h : j < l.length, j < i → befM x.sp x.nm l[j] = true) → (∀ h : i < l.length, befM x.sp x.nm l[i] = false) → insM l x = l.take i ++ x :: l.drop i := fun i h1 h2 h3 => insG_at h1 h2 h3
  have hlen := insM_len l x
  generalize insM l x = W at *
  obtain ⟨xs, xn, xa, xc, xh⟩ := x
  refine fn_of_J Tryz.tyOK 0 Tryz.func147 (by kernel_rfl) (c := Tryz.f147.body.getD .skip) (by kernel_rfl) Tryz.ntmps147 (rs := Tryz.f147.results.toList) rfl (by simp) (fun G => ?_)
  refine J_know (fun m h => h.1.1) (fun hnc => ?_)
  repeat' first | refine J_seq ?_ | refine J_region Tryz.tyOK ?_ | refine J_block ?_ | refine J_cond ?_ | refine J_ret ?_ | refine J_skip ?_ | refine J_exit ?_ | refine J_scope ?_ | refine CondP.y ?_ | refine CondP.n ?_ | refine CondP.mk (fun h => ?_) (fun h => ?_) | refine EqP.mk rfl ?_ | refine NewP.mk (fun ad => ?_) | refine ArP.x ?_ | refine SideP.a ?_ | fail
  refine J_loop (α := Nat × Option Addr × Nat) (fun x => [(0, .c (.sl a l.length c)), (3, .c (.p 0 ad 0)), (5, .c (.sl x.2.1 x.1 x.2.2)), (6, .c (.i .i64 x.1))]) (fun x => [.row 95 3 x.2.1 x.1 x.2.2 (pgmC (l.take x.1)), .box 0 ad 95 [.i .i64 xs, .s xn, .sl xa xh.length xc]]) (fun _ => [slcFact 3 a l.length c (pgmC l)]) 1
    (fun x => x.1 ≤ l.length ∧ ∀ j, ∀ h : j < l.length, j < x.1 → befM xs xn l[j] = true) (fun x => l.length - x.1) (InFam.mk (0, none, 0) ⟨Nat.zero_le _, fun j _ h => absurd h (Nat.not_lt_zero j)⟩ SubE.a (Ents.nilRow (ety := 95) (esz := 3))) (fun x hx => ?_)
  obtain ⟨i, a1, c1⟩ := x
  dsimp only at hx ⊢
  obtain ⟨hi, hn⟩ := hx
  have hend : (∀ h : i < l.length, befM xs xn l[i] = false) → W.length = i + 1 + (l.length - i) ∧ W.flatMap PGM.cells = pgmC (l.take i) ++ [.i .i64 xs, .s xn, .sl xa xh.length xc] ++ pgmC (l.drop i) := fun h => by
    rw [hW i hi hn h]
    refine ⟨by simp; omega, by simp [pgmC, PGM.cells]⟩
  by_cases hlt : i < l.length
  · have hg2 := pgm_get2 hlt
    have hg := pgm_get hlt
    have ht := List.take_succ_eq_append_getElem hlt
    have cc := refCompareT_ok l[i].sp l[i].nm xs xn
    have hb : befM xs xn l[i] = decide (compareT l[i].sp l[i].nm xs xn < 0) := rfl
    have hrow : pgmC (l.take (i + 1)) = pgmC (l.take i) ++ [.i .i64 l[i].sp, .s l[i].nm, .sl l[i].ha l[i].hist.length l[i].hc] := by
      rw [ht, pgmC, List.flatMap_append, List.flatMap_cons, List.flatMap_nil, List.append_nil]; rfl
    have hnext : compareT l[i].sp l[i].nm xs xn < 0 → ∀ j, ∀ h : j < l.length, j < i + 1 → befM xs xn l[j] = true := fun h j hj hji => by
      by_cases e : j = i
      · subst e; rw [hb]; exact decide_eq_true h
      · exact hn j hj (by omega)
    have hstop : ¬ compareT l[i].sp l[i].nm xs xn < 0 → W.length = i + 1 + (l.length - i) ∧ W.flatMap PGM.cells = pgmC (l.take i) ++ [.i .i64 xs, .s xn, .sl xa xh.length xc] ++ pgmC (l.drop i) := fun h => hend fun _ => by rw [hb]; exact decide_eq_false h
    generalize compareT l[i].sp l[i].nm xs xn = k at *
    generalize l[i] = y at *
    clear hend hW ht
    repeat' first | refine J_seq ?_ | refine J_region Tryz.tyOK ?_ | refine J_block ?_ | refine J_cond ?_ | refine J_ret ?_ | refine J_skip ?_ | refine J_exit ?_ | refine J_scope ?_ | refine CondP.y ?_ | refine CondP.n ?_ | refine CondP.mk (fun h => ?_) (fun h => ?_) | refine EqP.mk rfl ?_ | refine NewP.mk (fun ad => ?_) | refine ArP.x ?_ | refine SideP.a ?_ | refine J_drawS (id := 3) Tryz.tyOK (by kernel_rfl) [0, 0, 2, 7, 15, 31, 31, 127, 255, 511, 31, 1055, 4095, 8191, 16383] [0, 1, 2, 3, 4, 5, 6, 7, 8, 9, 10, 11, 12, 13, 14] [] [3, 14] true (by kernel_rfl) ?_ | refine EntP.mk Ents.a ?_ | refine IdxE.mk 0 3 _ (hrd _) (by omega) (by omega) ?_ | refine FldE.mk 0 3 _ _ (hrd _) (by omega) ?_ | refine LoadE.mk 0 _ _ [.i .i64 y.sp, .s y.nm] (hrd _) (by omega) (by omega) (by first | omega | decide) (by exact hg2) ?_ | refine LoadE.mk 0 _ _ [.i .i64 y.sp, .s y.nm, .sl y.ha y.hist.length y.hc] (hrd _) (by omega) (by omega) (by first | omega | decide) (by exact hg) ?_ | refine CallQ.mk [] _ cc (fun _ _ => trivial) ?_ | refine AppE.row [_] _ (pgmC (l.take i)) [.i .i64 y.sp, .s y.nm, .sl y.ha y.hist.length y.hc] 1 rfl (SrcE.sl 95 95 _ _ 1 1 _ rfl rfl (.inl ⟨1, List.Mem.head _⟩) rfl) (by dsimp only; omega) (fun a' c' => ?_); rw [← hrow] | refine Round.mk (i + 1, a', c') (by dsimp only; omega) ⟨by dsimp only; omega, hnext (by assumption)⟩ SubE.a Ents.a | refine AppE.row [_] _ (pgmC (l.take i)) [.i .i64 xs, .s xn, .sl xa xh.length xc] 1 rfl (SrcE.sl 95 95 _ _ 1 1 _ rfl rfl (.inl ⟨1, List.Mem.head _⟩) rfl) (by dsimp only; omega) (fun a' c' => ?_) | refine AppE.row [_] _ (pgmC (l.take i) ++ [.i .i64 xs, .s xn, .sl xa xh.length xc]) (pgmC (l.drop i)) (l.length - i) rfl (SrcE.sl 0 95 _ _ _ _ _ rfl rfl (.inr fun m h => pgmFrom h.1.2 hi hnc (by omega)) (pgm_lenD _ _)) (by dsimp only; omega) (fun a' c' => ?_) | refine FinE.mk [] [slcFact 3 _ (i + 1 + (l.length - i)) _ (pgmC (l.take i) ++ [.i .i64 xs, .s xn, .sl xa xh.length xc] ++ pgmC (l.drop i))] ⟨_, _, by rw [(hstop (by assumption)).1], rfl, by rw [(hstop (by assumption)).1, (hstop (by assumption)).2]⟩ (Ents.drop.trans (Ents.toFactC.trans (Ents.dropAll.trans (Ents.facts fun _ h => ⟨h.1, trivial⟩)))) | fail
  · have hstop := hend fun h => absurd h hlt
    clear hend hW
    repeat' first | refine J_seq ?_ | refine J_region Tryz.tyOK ?_ | refine J_block ?_ | refine J_cond ?_ | refine J_ret ?_ | refine J_skip ?_ | refine J_exit ?_ | refine J_scope ?_ | refine CondP.y ?_ | refine CondP.n ?_ | refine CondP.mk (fun h => ?_) (fun h => ?_) | refine EqP.mk rfl ?_ | refine NewP.mk (fun ad => ?_) | refine ArP.x ?_ | refine SideP.a ?_ | refine J_drawS (id := 3) Tryz.tyOK (by kernel_rfl) [0, 0, 2, 7, 15, 31, 31, 127, 255, 511, 31, 1055, 4095, 8191, 16383] [0, 1, 2, 3, 4, 5, 6, 7, 8, 9, 10, 11, 12, 13, 14] [] [3, 14] true (by kernel_rfl) ?_ | refine EntP.mk Ents.a ?_ | refine AppE.row [_] _ (pgmC (l.take i)) [.i .i64 xs, .s xn, .sl xa xh.length xc] 1 rfl (SrcE.sl 95 95 _ _ 1 1 _ rfl rfl (.inl ⟨1, List.Mem.head _⟩) rfl) (by dsimp only; omega) (fun a' c' => ?_) | refine AppE.row [_] _ (pgmC (l.take i) ++ [.i .i64 xs, .s xn, .sl xa xh.length xc]) (pgmC (l.drop i)) (l.length - i) rfl (SrcE.sl 0 95 _ _ _ _ _ rfl rfl (.inr fun m h => pgmFrom h.1.2 hi hnc (by omega)) (pgm_lenD _ _)) (by dsimp only; omega) (fun a' c' => ?_) | refine FinE.mk [] [slcFact 3 _ (i + 1 + (l.length - i)) _ (pgmC (l.take i) ++ [.i .i64 xs, .s xn, .sl xa xh.length xc] ++ pgmC (l.drop i))] ⟨_, _, by rw [hstop.1], rfl, by rw [hstop.1, hstop.2]⟩ (Ents.drop.trans (Ents.toFactC.trans (Ents.dropAll.trans (Ents.facts fun _ h => ⟨h.1, trivial⟩)))) | fail
theorem without27_ok (a : Option Addr) (c : Nat) (l : List PGM) (i : Nat) (hl : l.length ≤ 1000) (hi : i < l.length) : FnS Tryz.prog 148 [.c (.sl a l.length c), .c (.i .i64 i)] [] [slcFact 3 a l.length c (pgmC l)] (SlPost 3 PGM.cells (l.eraseIdx i)) := by
  have hW : (l.eraseIdx i).length = i + (l.length - (i + 1)) ∧ (l.eraseIdx i).flatMap PGM.cells = pgmC (l.take i) ++ pgmC (l.drop (i + 1)) := by
    rw [List.eraseIdx_eq_take_drop_succ]
    exact ⟨by simp; omega, by simp [pgmC]⟩
  generalize l.eraseIdx i = W at *
  refine fn_of_J Tryz.tyOK 0 Tryz.func148 (by kernel_rfl) (c := Tryz.f148.body.getD .skip) (by kernel_rfl) Tryz.ntmps148 (rs := Tryz.f148.results.toList) rfl (by simp) (fun G => ?_)
  refine J_know (fun m h => h.1.1) (fun hnc => ?_)
  repeat' first | refine J_seq ?_ | refine J_region Tryz.tyOK ?_ | refine J_block ?_ | refine J_cond ?_ | refine J_ret ?_ | refine J_skip ?_ | refine J_exit ?_ | refine J_scope ?_ | refine CondP.y ?_ | refine CondP.n ?_ | refine CondP.mk (fun h => ?_) (fun h => ?_) | refine EqP.mk rfl ?_ | refine NewP.mk (fun ad => ?_) | refine ArP.x ?_ | refine SideP.a ?_ | refine J_drawS (id := 1) Tryz.tyOK (by kernel_rfl) [0, 0, 3, 7, 0, 0, 32, 112, 255, 511] [0, 1, 2, 4, 5, 6, 7, 3, 8, 9] [3, 8] [] false (by kernel_rfl) ?_ | refine EntP.mk Ents.a ?_ | refine AppE.nil (pgmC (l.take i)) i rfl rfl rfl (SrcE.sl 0 95 _ _ _ _ _ rfl rfl (.inr fun m h => pgmPre h.1.2 (by omega)) (pgm_lenT (by omega))) (by dsimp only; omega) (fun a' c' => ?_) | refine AppE.row [] _ (pgmC (l.take i)) (pgmC (l.drop (i + 1))) (l.length - (i + 1)) rfl (SrcE.sl 0 95 _ _ _ _ _ rfl rfl (.inr fun m h => pgmFrom h.1.2 (by omega) hnc (by omega)) (pgm_lenD _ _)) (by dsimp only; omega) (fun a' c' => ?_) | refine FinE.mk [] [slcFact 3 _ (i + (l.length - (i + 1))) _ (pgmC (l.take i) ++ pgmC (l.drop (i + 1)))] ⟨_, _, by rw [hW.1], rfl, by rw [hW.1, hW.2]⟩ (Ents.toFactC.trans (Ents.dropAll.trans (Ents.facts fun _ h => ⟨h.1, trivial⟩))) | fail
theorem drop27_ok (e : Nat) (a : Option Addr) (c : Nat) (l : List PP) (sp : Int) (nm : Bs) (hl : l.length ≤ 1000) : FnS Tryz.prog 149 [.c (.sl a l.length c), .agg [.i .i64 sp, .s nm]] [] [slFact e 8 a l.length (ppC l)] (SlPost 8 PP.cells (dropT l sp nm)) := by
  have hrd : ∀ L, Reads L [slFact e 8 a l.length (ppC l)] e 8 a l.length (ppC l) := fun L => .inr fun m h => h.1
  have hq : dropT l sp nm = (l.take l.length).filter (hitP sp nm) := by rw [List.take_length]; rfl
  generalize dropT l sp nm = W at *
  refine fn_of_J Tryz.tyOK 0 Tryz.func149 (by kernel_rfl) (c := Tryz.f149.body.getD .skip) (by kernel_rfl) Tryz.ntmps149 (rs := Tryz.f149.results.toList) rfl (by simp) (fun G => ?_)
  repeat' first | refine J_seq ?_ | refine J_region Tryz.tyOK ?_ | refine J_block ?_ | refine J_cond ?_ | refine J_ret ?_ | refine J_skip ?_ | refine J_exit ?_ | refine J_scope ?_ | refine CondP.y ?_ | refine CondP.n ?_ | refine CondP.mk (fun h => ?_) (fun h => ?_) | refine EqP.mk rfl ?_ | refine NewP.mk (fun ad => ?_) | refine ArP.x ?_ | refine SideP.a ?_ | fail
  refine J_loop (α := Nat × Option Addr × Nat) (fun x => [(0, .c (.sl a l.length c)), (3, .c (.p 0 ad 0)), (5, .c (.sl x.2.1 ((l.take x.1).filter (hitP sp nm)).length x.2.2)), (6, .c (.i .i64 x.1))]) (fun x => [.row 196 8 x.2.1 ((l.take x.1).filter (hitP sp nm)).length x.2.2 (ppC ((l.take x.1).filter (hitP sp nm))), .box 0 ad 50 [.i .i64 sp, .s nm]]) (fun _ => [slFact e 8 a l.length (ppC l)]) 1
    (fun x => x.1 ≤ l.length) (fun x => l.length - x.1) (InFam.mk (0, none, 0) (Nat.zero_le _) SubE.a (Ents.nilRow (ety := 196) (esz := 8))) (fun x hi => ?_)
  obtain ⟨i, a1, c1⟩ := x
  dsimp only at hi ⊢
  have hfl := filter_take_len (hitP sp nm) l i
  by_cases hlt : i < l.length
  · have hg := pp_get hlt
    have hg2 := pp_ttl hlt
    have hs := take_filter_succ (q := hitP sp nm) hlt
    have hd : hitP sp nm l[i] = !decide (l[i].sp = sp ∧ l[i].nm = nm) := rfl
    have hyes : ¬ (l[i].sp = sp ∧ l[i].nm = nm ∧ True) → ((l.take i).filter (hitP sp nm)).length + 1 = ((l.take (i + 1)).filter (hitP sp nm)).length ∧ ppC ((l.take i).filter (hitP sp nm)) ++ l[i].cells = ppC ((l.take (i + 1)).filter (hitP sp nm)) := fun h => by
      rw [hs, hd, decide_eq_false (fun e => h ⟨e.1, e.2, trivial⟩)]
      exact ⟨by simp, by simp [ppC]⟩
    have hno : (l[i].sp = sp ∧ l[i].nm = nm ∧ True) → (l.take (i + 1)).filter (hitP sp nm) = (l.take i).filter (hitP sp nm) := fun h => by
      rw [hs, hd, decide_eq_true ⟨h.1, h.2.1⟩]; simp
    clear hs hd
    generalize l[i] = y at *
    repeat' first | refine J_seq ?_ | refine J_region Tryz.tyOK ?_ | refine J_block ?_ | refine J_cond ?_ | refine J_ret ?_ | refine J_skip ?_ | refine J_exit ?_ | refine J_scope ?_ | refine CondP.y ?_ | refine CondP.n ?_ | refine CondP.mk (fun h => ?_) (fun h => ?_) | refine EqP.mk rfl ?_ | refine NewP.mk (fun ad => ?_) | refine ArP.x ?_ | refine SideP.a ?_ | refine J_drawS (id := 5) Tryz.tyOK (by kernel_rfl) [0, 0, 3, 7, 15, 0, 63] [0, 1, 2, 3, 4, 5, 6] [] [3, 15] true (by kernel_rfl) ?_ | refine EntP.mk Ents.a ?_ | refine IdxE.mk e 8 _ (hrd _) (by omega) (by omega) ?_ | refine FldE.mk e 8 _ _ (hrd _) (by omega) ?_ | refine LoadE.mk e _ _ [.i .i64 y.sp, .s y.nm] (hrd _) (by omega) (by omega) (by first | omega | decide) (by exact hg2) ?_ | refine LoadE.mk e _ _ y.cells (hrd _) (by omega) (by omega) (by first | omega | decide) (by exact hg) ?_ | refine AppE.row [_] _ (ppC ((l.take i).filter (hitP sp nm))) y.cells 1 rfl (SrcE.sl 196 196 _ _ 1 1 _ rfl rfl (.inl ⟨1, List.Mem.head _⟩) rfl) (by dsimp only; omega) (fun a' c' => ?_); rw [(hyes (by assumption)).1, (hyes (by assumption)).2] | refine Round.mk (i + 1, a', c') (by dsimp only; omega) (by dsimp only; omega) SubE.a Ents.a | refine Round.mk (i + 1, a1, c1) (by dsimp only; omega) (by dsimp only; omega) (by dsimp only; rw [hno (by assumption)]; repeat' first | exact SubE.nil | refine SubE.cons rfl ?_ ?_ | exact VEq.refl _ | refine VEq.int (by omega) | refine VEq.sl rfl (by first | rfl | omega | (rw [List.length_append]; rfl) | (simp; omega)) rfl) (by dsimp only; rw [hno (by assumption)]; exact Ents.a) | fail
  · have hil : i = l.length := by omega
    subst hil
    rw [← hq]
    repeat' first | refine J_seq ?_ | refine J_region Tryz.tyOK ?_ | refine J_block ?_ | refine J_cond ?_ | refine J_ret ?_ | refine J_skip ?_ | refine J_exit ?_ | refine J_scope ?_ | refine CondP.y ?_ | refine CondP.n ?_ | refine CondP.mk (fun h => ?_) (fun h => ?_) | refine EqP.mk rfl ?_ | refine NewP.mk (fun ad => ?_) | refine ArP.x ?_ | refine SideP.a ?_ | refine FinE.mk [] [slcFact 8 _ W.length _ (ppC W)] ⟨_, _, rfl, rfl, rfl⟩ (Ents.toFactC.trans (Ents.dropAll.trans (Ents.facts fun _ h => ⟨h.1, trivial⟩))) | fail
theorem lastGone_ok (s : STM) (sp : Int) (nm : Bs) (hs : s.gone.length ≤ 1000) : FnS Tryz.prog 150 [.agg s.cells, .agg [.i .i64 sp, .s nm]] [] [stF s] (Is (.c (.i .i64 (lastG (atM sp nm) s.gone)))) := by
  have hrd : ∀ L, Reads L [stF s] 0 3 s.ga s.gone.length (pgmC s.gone) := fun L => .inr fun m h => h.1.gone.row
  generalize hk : lastG (atM sp nm) s.gone = k
  refine fn_of_J Tryz.tyOK 0 Tryz.func150 (by kernel_rfl) (c := Tryz.f150.body.getD .skip) (by kernel_rfl) Tryz.ntmps150 (rs := Tryz.f150.results.toList) rfl (by simp) (fun G => ?_)
  repeat' first | refine J_seq ?_ | refine J_region Tryz.tyOK ?_ | refine J_block ?_ | refine J_cond ?_ | refine J_ret ?_ | refine J_skip ?_ | refine J_exit ?_ | refine J_scope ?_ | refine CondP.y ?_ | refine CondP.n ?_ | refine CondP.mk (fun h => ?_) (fun h => ?_) | refine EqP.mk rfl ?_ | refine NewP.mk (fun ad => ?_) | refine ArP.x ?_ | refine SideP.a ?_ | fail
  rename_i ad0
  refine J_loop (α := Nat) (fun i => [(2, .c (.p 0 ad0 0)), (3, .c (.p 1 ad 0)), (5, .c (.i .i64 ((i : Int) - 1)))]) (fun _ => [.box 1 ad 50 [.i .i64 sp, .s nm], .box 0 ad0 42 s.cells]) (fun _ => [stF s]) 2
    (fun i => i ≤ s.gone.length ∧ ∀ j, ∀ hj : j < s.gone.length, i ≤ j → atM sp nm s.gone[j] = false) (fun i => i) (InFam.mk s.gone.length ⟨Nat.le_refl _, fun j h h' => absurd h (by omega)⟩ SubE.a (Ents.refl _ _)) (fun i hx => ?_)
  obtain ⟨hi, hn⟩ := hx
  by_cases h0 : 0 < i
  · obtain ⟨q, rfl⟩ : ∃ q, i = q + 1 := ⟨i - 1, by omega⟩
    have hlt : q < s.gone.length := by omega
    have hg : ((pgmC s.gone).drop ((((q + 1 : Nat) : Int) - 1).toNat * 3 + 0)).take 2 = [.i .i64 s.gone[q].sp, .s s.gone[q].nm] := by
      rw [show (((q + 1 : Nat) : Int) - 1).toNat = q by omega]; exact pgm_get2 hlt
    have hyes : s.gone[q].sp = sp ∧ s.gone[q].nm = nm ∧ True → k = q := fun h => by
      rw [← hk]; exact lastG_at hlt (decide_eq_true ⟨h.1, h.2.1⟩) fun j hj hji => hn j hj (by omega)
    have hno : ¬ (s.gone[q].sp = sp ∧ s.gone[q].nm = nm ∧ True) → ∀ j, ∀ hj : j < s.gone.length, q ≤ j → atM sp nm s.gone[j] = false := fun h j hj hji => by
      by_cases he : j = q
      · subst he; exact decide_eq_false fun e => h ⟨e.1, e.2, trivial⟩
      · exact hn j hj (by omega)
    generalize s.gone[q] = y at *
    repeat' first | refine J_seq ?_ | refine J_region Tryz.tyOK ?_ | refine J_block ?_ | refine J_cond ?_ | refine J_ret ?_ | refine J_skip ?_ | refine J_exit ?_ | refine J_scope ?_ | refine CondP.y ?_ | refine CondP.n ?_ | refine CondP.mk (fun h => ?_) (fun h => ?_) | refine EqP.mk rfl ?_ | refine NewP.mk (fun ad => ?_) | refine ArP.x ?_ | refine SideP.a ?_ | refine J_drawS (id := 4) Tryz.tyOK (by kernel_rfl) [0, 1, 0, 7, 15, 31, 0, 127] [0, 1, 2, 3, 4, 5, 6, 7] [] [2, 3, 17] true (by kernel_rfl) ?_ | refine EntP.mk Ents.a ?_ | refine IdxE.mk 0 3 _ (hrd _) (by omega) (by omega) ?_ | refine FldE.mk 0 3 _ _ (hrd _) (by omega) ?_ | refine LoadE.mk 0 _ _ [.i .i64 y.sp, .s y.nm] (hrd _) (by omega) (by omega) (by first | omega | decide) (by exact hg) ?_ | refine Round.mk q (by omega) ⟨by omega, hno (by assumption)⟩ SubE.a Ents.a | refine FinE.int (by have := hyes (by assumption); omega) | fail
  · have h1 : k = -1 := by
      rw [← hk]
      exact lastG_none fun j hj => hn j hj (by omega)
    subst h1
    have hi0 : i = 0 := by omega
    subst hi0
    repeat' first | refine J_seq ?_ | refine J_region Tryz.tyOK ?_ | refine J_block ?_ | refine J_cond ?_ | refine J_ret ?_ | refine J_skip ?_ | refine J_exit ?_ | refine J_scope ?_ | refine CondP.y ?_ | refine CondP.n ?_ | refine CondP.mk (fun h => ?_) (fun h => ?_) | refine EqP.mk rfl ?_ | refine NewP.mk (fun ad => ?_) | refine ArP.x ?_ | refine SideP.a ?_ | refine FinE.is rfl | fail
theorem redirect27_ok (sp : Int) (nm : Bs) (hs : nm.length ≤ 1000000) : FnS Tryz.prog 151 [.agg [.i .i64 sp, .s nm]] [] [] (Is (.c (.s (redirT sp nm)))) := by
  have cf := refFormat_ok sp nm hs
  have hl := formatT_le sp nm
  have hd : redirT sp nm = [35, 82, 69, 68, 73, 82, 69, 67, 84, 32, 91, 91] ++ formatT sp nm ++ [93, 93] := rfl
  rw [hd]
  generalize formatT sp nm = f at *
  refine fn_of_J Tryz.tyOK 0 Tryz.func151 (by kernel_rfl) (c := Tryz.f151.body.getD .skip) (by kernel_rfl) Tryz.ntmps151 (rs := Tryz.f151.results.toList) rfl (by simp) (fun G => ?_)
  repeat' first | refine J_seq ?_ | refine J_region Tryz.tyOK ?_ | refine J_block ?_ | refine J_cond ?_ | refine J_ret ?_ | refine J_skip ?_ | refine J_exit ?_ | refine J_scope ?_ | refine CondP.y ?_ | refine CondP.n ?_ | refine CondP.mk (fun h => ?_) (fun h => ?_) | refine EqP.mk rfl ?_ | refine NewP.mk (fun ad => ?_) | refine ArP.x ?_ | refine SideP.a ?_ | refine CallP.is cf ?_ | refine FinE.is rfl | fail
end Go.Proofs

/- This text walks through the functions of the references of chapters 13, 29 and 31 that say what a user sees: Has, put, Groups, Levels, May, PolicyOf, View. -/
namespace Go.X
open Go Go.Lib
theorem nodup_len {α : Type} [DecidableEq α] : ∀ {l S : List α}, l.Nodup → (∀ z ∈ l, z ∈ S) → l.length ≤ S.length
  | [], _, _, _ => Nat.zero_le _
  | x :: r, S, h, hs => by
    have h' := List.nodup_cons.1 h
    have hx := hs x (List.mem_cons_self ..)
    have := nodup_len (l := r) (S := S.erase x) h'.2 fun z hz => (List.mem_erase_of_ne (fun e => by subst e; exact h'.1 hz)).2 (hs z (List.mem_cons_of_mem _ hz))
    rw [List.length_erase_of_mem hx] at this
    have := List.length_pos_of_mem hx
    rw [List.length_cons]; omega
theorem strTo {m : Im} {a : Option Addr} {n c k : Nat} {l : List (List UInt8)} (h : SlF m 0 1 a n (sC l)) (hk : k ≤ n) : SlF m 0 1 (resl a 0 c 1) k (sC (l.take k)) := by
  have := slFact_pre (e := 0) (z := 1) (hi := k) c (show (slFact 0 1 a n (sC l)).p m from h) hk
  rw [sC_take] at this
  exact this
theorem strFrom {m : Im} {a : Option Addr} {n c k : Nat} {l : List (List UInt8)} (h : SlF m 0 1 a n (sC l)) (hl : l.length = n) (hk : k ≤ n) (hc : n ≤ c) : SlF m 0 1 (resl a k c 1) (n - k) (sC (l.drop k)) := by
  have := slFact_sub (e := 0) (z := 1) (lo := k) (hi := n) (show (slFact 0 1 a n (sC l)).p m from h) hk (Nat.le_refl _) hc
  rw [sC_take, List.take_of_length_le (by omega), sC_drop] at this
  exact this
/-- A list of strings that stays. -/
abbrev StrF (W : List (List UInt8)) : V → List Chunk → List Fact → Prop := fun v L D => ∃ a c, v = .c (.sl a W.length c) ∧ L = [] ∧ D = [slcFact 1 a W.length c (sC W)]
/-- Some truth value. -/
abbrev BoolP : V → List Chunk → List Fact → Prop := fun v L D => ∃ b, v = .c (.b b) ∧ L = [] ∧ D = []
/-- Some truth value that tells something if true. -/
abbrev BoolIf (p : Prop) : V → List Chunk → List Fact → Prop := fun v L D => ∃ b : Bool, v = .c (.b b) ∧ (b = true → p) ∧ L = [] ∧ D = []
/-- A scope, and its cells. -/
abbrev SCP := Int × Int × List UInt8
def scF (s : SCP) : List C := [.i .i64 s.1, .i .i64 s.2.1, .s s.2.2]
def scC (l : List SCP) : List C := l.flatMap scF
theorem sc_get {l : List SCP} {i : Nat} (h : i < l.length) : ((scC l).drop (i * 3 + 0)).take 3 = [.i .i64 l[i].1, .i .i64 l[i].2.1, .s l[i].2.2] := by
  rw [scC, flat_get (F := scF) (z := 3) (fun _ => rfl) h (by omega)]; rfl
theorem tit_get {sp : Int} {l : List Bs} {i : Nat} (h : i < l.length) : ((Go.Proofs.titlesC sp l).drop (i * 2 + 0)).take 2 = [.i .i64 sp, .s l[i]] := by
  unfold Go.Proofs.titlesC
  rw [flat_get (F := fun s => [C.i .i64 sp, .s s]) (z := 2) (fun _ => rfl) h (by omega)]; rfl
theorem rs_get {l : List Rul} {i : Nat} (h : i < l.length) : ((rsC l).drop (i * 6 + 0)).take 6 = [.b l[i].allow, .i .i64 l[i].right, .s l[i].group, .i .i64 l[i].kind, .i .i64 l[i].sp, .s l[i].nm] := by
  unfold rsC
  rw [flat_get (F := Rul.cells) (z := 6) (fun _ => rfl) h (by omega)]; rfl
theorem gs_get {l : List GrpM} {i : Nat} (h : i < l.length) : ((gsC l).drop (i * 2 + 0)).take 2 = l[i].cells := by
  unfold gsC
  rw [flat_get (F := GrpM.cells) (z := 2) (fun _ => rfl) h (by omega)]; rfl
theorem gs_name {l : List GrpM} {i : Nat} (h : i < l.length) : ((gsC l).drop (i * 2 + 0)).take 1 = [.s l[i].name] := by
  unfold gsC
  rw [flat_get (F := GrpM.cells) (z := 2) (fun _ => rfl) h (by omega)]; rfl
end Go.X
namespace Go.Proofs
open Go Go.X
set_option maxRecDepth 100000
set_option maxHeartbeats 4000000
theorem refAncestors0_ok (sp : Int) (s : List UInt8) (hs : s.length ≤ 1000000) : FnS Tryz.prog 118 [.agg [.i .i64 sp, .s s]] [] []
    (fun v L D => ∃ a c, v = .c (.sl a (ancT sp s).length c) ∧ L = [.row 50 2 a (ancT sp s).length c (titlesC sp (ancT sp s))] ∧ D = []) := by
  have hno : validT sp s = false → ancT sp s = [] := fun h => by simp [ancT, h]
  have hyes : validT sp s = true → ancT sp s = ancL s s.length := fun h => by simp [ancT, h]
  refine fn_of_J Tryz.tyOK 0 Tryz.func118 (by kernel_rfl) (c := Tryz.f118.body.getD .skip) (by kernel_rfl) Tryz.ntmps118 (rs := Tryz.f118.results.toList) rfl (by simp) (fun G => ?_)
  repeat' first | refine J_stop (c := .seq (.seq (.region 4 _ _) _) _) ?_ | refine J_seq ?_ | refine J_region Tryz.tyOK ?_ | refine J_block ?_ | refine J_cond ?_ | refine J_ret ?_ | refine J_skip ?_ | refine J_exit ?_ | refine J_scope ?_ | refine CondP.y ?_ | refine CondP.n ?_ | refine CondP.mk (fun h => ?_) (fun h => ?_) | refine EqP.mk rfl ?_ | refine NewP.mk (fun ad => ?_) | refine ArP.x ?_ | refine SideP.a ?_ | refine CallP.isB (refValid_ok sp s hs) (fun hv => ?_) (fun hv => ?_) | fail
  rotate_left
  · refine FinE.mk [.row 50 2 none 0 0 []] [] ⟨none, 0, ?_, ?_, rfl⟩ (Ents.dropAll.trans ((Ents.facts (D' := []) fun _ _ => trivial).trans Ents.nilRow))
    · rw [hno hv]; rfl
    · rw [hno hv]; rfl
  rw [hyes hv]
  refine ⟨?_⟩
  refine J_seq ?_
  repeat' first | refine J_seq ?_ | refine J_region Tryz.tyOK ?_ | refine J_block ?_ | refine J_cond ?_ | refine J_ret ?_ | refine J_skip ?_ | refine J_exit ?_ | refine J_scope ?_ | refine CondP.y ?_ | refine CondP.n ?_ | refine CondP.mk (fun h => ?_) (fun h => ?_) | refine EqP.mk rfl ?_ | refine NewP.mk (fun ad => ?_) | refine ArP.x ?_ | refine SideP.a ?_ | fail | fail
  refine J_loop (α := Nat × Option Addr × Nat) (fun x => [(4, .c (.i .i64 x.1)), (3, .c (.sl x.2.1 (ancL s x.1).length x.2.2)), (1, .c (.p 0 ad 0))])
    (fun x => [.row 50 2 x.2.1 (ancL s x.1).length x.2.2 (titlesC sp (ancL s x.1)), .box 0 ad 50 [.i .i64 sp, .s s]]) (fun _ => []) 1 (fun x => x.1 ≤ s.length) (fun x => s.length - x.1)
    (InFam.mk (0, none, 0) (by simp) SubE.a (Ents.nilRow.trans (Ents.facts (D' := []) fun _ _ => trivial))) (fun x hi => ?_)
  obtain ⟨i, a, c⟩ := x
  dsimp only at hi ⊢
  have hal := ancL_le s i
  by_cases hlt : i < s.length
  · have hst : ancL s (i + 1) = if ((s.getD i 0).toNat : Int) = 47 then ancL s i ++ [s.take i] else ancL s i := rfl
    repeat' first | refine J_seq ?_ | refine J_region Tryz.tyOK ?_ | refine J_block ?_ | refine J_cond ?_ | refine J_ret ?_ | refine J_skip ?_ | refine J_exit ?_ | refine J_scope ?_ | refine CondP.y ?_ | refine CondP.n ?_ | refine CondP.mk (fun h => ?_) (fun h => ?_) | refine EqP.mk rfl ?_ | refine NewP.mk (fun ad => ?_) | refine ArP.x ?_ | refine SideP.a ?_ | refine J_draw Tryz.tyOK (by kernel_rfl) [0, 1, 2, 3, 4, 5, 6, 7, 8, 9, 10] [8, 9] [.box 0 ad 50 [.i .i64 sp, .s s]] [] (by kernel_rfl) Ents.drop ?_ | refine EntP.mk Ents.drop ?_ | refine EntP.mk (Ents.drop.trans Ents.drop) ?_ | refine AppE.row [_] [_] (titlesC sp (ancL s i)) [.i .i64 sp, .s (s.take i)] 1 rfl (SrcE.sl 50 50 _ _ 1 1 _ rfl rfl (.inl ⟨1, List.Mem.head _⟩) rfl) (by dsimp only; omega) (fun a' c' => ?_) | refine Round.mk (i + 1, a', c') (by simp; omega) (by simp; omega) ?_ ?_ | refine Round.mk (i + 1, a, c) (by simp; omega) (by simp; omega) ?_ ?_ | fail
    all_goals
      first
        | (have e : ancL s (i + 1) = ancL s i ++ [s.take i] := by rw [hst, if_pos (by assumption)]
           dsimp only; rw [e])
        | (have e : ancL s (i + 1) = ancL s i := by rw [hst, if_neg (by assumption)]
           dsimp only; rw [e])
      first
        | exact Ents.refl _ _
        | refine Ents.drop.trans (Ents.of (by unfold titlesC; rw [List.length_append, List.flatMap_append]; rfl))
        | skip
      repeat' first | exact SubE.nil | refine SubE.cons rfl ?_ ?_ | exact VEq.refl _ | refine VEq.int (by omega) | refine VEq.sl rfl (by first | rfl | omega | (rw [List.length_append]; rfl) | (simp; omega)) rfl | fail
  · have hil : i = s.length := by omega
    subst hil
    repeat' first | refine J_seq ?_ | refine J_region Tryz.tyOK ?_ | refine J_block ?_ | refine J_cond ?_ | refine J_ret ?_ | refine J_skip ?_ | refine J_exit ?_ | refine J_scope ?_ | refine CondP.y ?_ | refine CondP.n ?_ | refine CondP.mk (fun h => ?_) (fun h => ?_) | refine EqP.mk rfl ?_ | refine NewP.mk (fun ad => ?_) | refine ArP.x ?_ | refine SideP.a ?_ | refine FinE.mk [.row 50 2 a (ancL s s.length).length c (titlesC sp (ancL s s.length))] [] ⟨a, c, rfl, rfl, rfl⟩ ((Ents.perm (List.perm_append_comm (l₁ := [_]) (l₂ := [_]))).trans Ents.drop) | fail
theorem has13_ok (e : Nat) (a : Option Addr) (c : Nat) (l : List (List UInt8)) (s : List UInt8) (hl : l.length ≤ 10000000) : FnS Tryz.prog 84 [.c (.sl a l.length c), .c (.s s)] [] [slFact e 1 a l.length (sC l)] BoolP := by
  have hrd : ∀ L, Reads L [slFact e 1 a l.length (sC l)] e 1 a l.length (sC l) := fun L => .inr fun m h => h.1
  refine fn_of_J Tryz.tyOK 0 Tryz.func84 (by kernel_rfl) (c := Tryz.f84.body.getD .skip) (by kernel_rfl) Tryz.ntmps84 (rs := Tryz.f84.results.toList) rfl (by simp) (fun G => ?_)
  repeat' first | refine J_seq ?_ | refine J_region Tryz.tyOK ?_ | refine J_block ?_ | refine J_cond ?_ | refine J_ret ?_ | refine J_skip ?_ | refine J_exit ?_ | refine J_scope ?_ | refine CondP.y ?_ | refine CondP.n ?_ | refine CondP.mk (fun h => ?_) (fun h => ?_) | refine EqP.mk rfl ?_ | refine NewP.mk (fun ad => ?_) | refine ArP.x ?_ | refine SideP.a ?_ | fail
  refine J_loop (α := Nat) (fun i => [(0, .c (.sl a l.length c)), (1, .c (.s s)), (5, .c (.i .i64 i))]) (fun _ => []) (fun _ => [slFact e 1 a l.length (sC l)]) 0
    (fun i => i ≤ l.length) (fun i => l.length - i) (InFam.mk 0 (Nat.zero_le _) SubE.a (Ents.refl _ _)) (fun i hi => ?_)
  by_cases hlt : i < l.length
  · have hg := s_get hlt
    generalize l[i] = x at *
    repeat' first | refine J_seq ?_ | refine J_region Tryz.tyOK ?_ | refine J_block ?_ | refine J_cond ?_ | refine J_ret ?_ | refine J_skip ?_ | refine J_exit ?_ | refine J_scope ?_ | refine CondP.y ?_ | refine CondP.n ?_ | refine CondP.mk (fun h => ?_) (fun h => ?_) | refine EqP.mk rfl ?_ | refine NewP.mk (fun ad => ?_) | refine ArP.x ?_ | refine SideP.a ?_ | fail | refine IdxE.mk e 1 _ (hrd _) (by omega) (by omega) ?_ | refine LoadE.mk e _ _ [.s x] (hrd _) (by omega) (by omega) (by first | omega | decide) (by exact hg) ?_ | refine Round.mk (i + 1) (by omega) (by omega) SubE.a Ents.a | refine FinE.mk [] [] ⟨_, rfl, rfl, rfl⟩ (Ents.dropAll.trans (Ents.facts fun _ _ => trivial)) | fail
  · repeat' first | refine J_seq ?_ | refine J_region Tryz.tyOK ?_ | refine J_block ?_ | refine J_cond ?_ | refine J_ret ?_ | refine J_skip ?_ | refine J_exit ?_ | refine J_scope ?_ | refine CondP.y ?_ | refine CondP.n ?_ | refine CondP.mk (fun h => ?_) (fun h => ?_) | refine EqP.mk rfl ?_ | refine NewP.mk (fun ad => ?_) | refine ArP.x ?_ | refine SideP.a ?_ | refine FinE.mk [] [] ⟨_, rfl, rfl, rfl⟩ (Ents.dropAll.trans (Ents.facts fun _ _ => trivial)) | fail
theorem put13_ok (a : Option Addr) (c : Nat) (l : List (List UInt8)) (s : List UInt8) (hl : l.length ≤ 10000000) : FnS Tryz.prog 80 [.c (.sl a l.length c), .c (.s s)] [] [slcFact 1 a l.length c (sC l)] (StrF (addG Lib.compareBytes l s)) := by
  have hrd : ∀ L, Reads L [slcFact 1 a l.length c (sC l)] 0 1 a l.length (sC l) := fun L => .inr fun m h => h.1.2
  generalize hW : addG Lib.compareBytes l s = W
  refine fn_of_J Tryz.tyOK 0 Tryz.func80 (by kernel_rfl) (c := Tryz.f80.body.getD .skip) (by kernel_rfl) Tryz.ntmps80 (rs := Tryz.f80.results.toList) rfl (by simp) (fun G => ?_)
  refine J_know (fun m h => h.1.1) (fun hnc => ?_)
  repeat' first | refine J_seq ?_ | refine J_region Tryz.tyOK ?_ | refine J_block ?_ | refine J_cond ?_ | refine J_ret ?_ | refine J_skip ?_ | refine J_exit ?_ | refine J_scope ?_ | refine CondP.y ?_ | refine CondP.n ?_ | refine CondP.mk (fun h => ?_) (fun h => ?_) | refine EqP.mk rfl ?_ | refine NewP.mk (fun ad => ?_) | refine ArP.x ?_ | refine SideP.a ?_ | fail
  refine J_loop (α := Nat) (fun i => [(0, .c (.sl a l.length c)), (1, .c (.s s)), (5, .c (.i .i64 i))]) (fun _ => []) (fun _ => [slcFact 1 a l.length c (sC l)]) 0
    (fun i => i ≤ l.length ∧ W = l.take i ++ addG Lib.compareBytes (l.drop i) s) (fun i => l.length - i) (InFam.mk 0 ⟨Nat.zero_le _, by rw [← hW]; rfl⟩ SubE.a (Ents.refl _ _)) (fun i hx => ?_)
  obtain ⟨hi, he⟩ := hx
  have h6l : W = l.take i ++ s :: l.drop i → W.length = i + 1 + (l.length - i) := fun h => by rw [h]; simp; omega
  have h6c : W = l.take i ++ s :: l.drop i → sC W = sC (l.take i) ++ [.s s] ++ sC (l.drop i) := fun h => by rw [h]; simp [sC]
  by_cases hlt : i < l.length
  · have hg := s_get hlt
    have hat := addG_at (cf := Lib.compareBytes) (r := s) hlt
    have ht := List.take_succ_eq_append_getElem hlt
    have hfull : l.take i ++ l.drop i = l := List.take_append_drop i l
    generalize l[i] = x at *
    have hbl := less_cmp x s
    have hbr := cmpB_range x s
    have hstep : Op.bytesLess x s = true → W = l.take (i + 1) ++ addG Lib.compareBytes (l.drop (i + 1)) s := fun h => by rw [he, hat, if_pos (by have := hbl.1 h; omega), ht, List.append_assoc]; rfl
    have hsame : ¬ Op.bytesLess x s = true → x = s → W = l := fun h1 h2 => by rw [he, hat, if_neg (fun e => h1 (hbl.2 (by omega))), if_pos h2, hfull]
    have hnew : ¬ Op.bytesLess x s = true → ¬ x = s → W = l.take i ++ s :: l.drop i := fun h1 h2 => by rw [he, hat, if_neg (fun e => h1 (hbl.2 (by omega))), if_neg h2]
    clear hat ht hfull he hW hbl hbr
    repeat' first | refine J_seq ?_ | refine J_region Tryz.tyOK ?_ | refine J_block ?_ | refine J_cond ?_ | refine J_ret ?_ | refine J_skip ?_ | refine J_exit ?_ | refine J_scope ?_ | refine CondP.y ?_ | refine CondP.n ?_ | refine CondP.mk (fun h => ?_) (fun h => ?_) | refine EqP.mk rfl ?_ | refine NewP.mk (fun ad => ?_) | refine ArP.x ?_ | refine SideP.a ?_ | refine J_drawT (id := 6) Tryz.tyOK (by kernel_rfl) [0, 0, 3, 7, 0, 16, 63, 0, 0, 384, 1023, 2047] [0, 1, 2, 4, 7, 8, 9] 3 [5, 6, 10, 11] 5 [3, 6, 10, 11] [3, 5, 6, 10] [] 12 false (by kernel_rfl) ?_ | refine TwoP.mk ?_ ?_ | refine EntP.mk Ents.a ?_ | refine IdxE.mk 0 1 _ (hrd _) (by omega) (by omega) ?_ | refine LoadE.mk 0 _ _ [.s x] (hrd _) (by omega) (by omega) (by first | omega | decide) (by exact hg) ?_ | refine Round.mk (i + 1) (by omega) ⟨by omega, hstep (by assumption)⟩ SubE.a (Ents.refl _ _) | refine AppE.nil (sC (l.take i)) i rfl rfl rfl (SrcE.sl 0 9 _ _ _ _ _ rfl rfl (.inr fun m h => strTo h.1.2 hi) (by rw [sC_len, List.length_take, Nat.min_eq_left hi]; rfl)) (by dsimp only; omega) (fun a' c' => ?_) | refine AppE.row [_] _ (sC (l.take i)) [.s s] 1 rfl (SrcE.sl 9 9 _ _ 1 1 _ rfl rfl (.inl ⟨1, List.Mem.head _⟩) rfl) (by dsimp only; omega) (fun a' c' => ?_) | refine AppE.row [] _ (sC (l.take i)) [.s s] 1 rfl (SrcE.sl 9 9 _ _ 1 1 _ rfl rfl (.inl ⟨1, List.Mem.tail _ (List.Mem.head _)⟩) rfl) (by dsimp only; omega) (fun a' c' => ?_) | refine AppE.row [_] _ (sC (l.take i) ++ [.s s]) (sC (l.drop i)) (l.length - i) rfl (SrcE.sl 0 9 _ _ _ _ _ rfl rfl (.inr fun m h => strFrom h.1.2 rfl hi hnc) (by rw [sC_len, List.length_drop]; rfl)) (by dsimp only; omega) (fun a' c' => ?_) | refine AppE.row [] _ (sC (l.take i) ++ [.s s]) (sC (l.drop i)) (l.length - i) rfl (SrcE.sl 0 9 _ _ _ _ _ rfl rfl (.inr fun m h => strFrom h.1.2 rfl hi hnc) (by rw [sC_len, List.length_drop]; rfl)) (by dsimp only; omega) (fun a' c' => ?_) | refine FinE.mk [] [_] ⟨a, c, by rw [hsame (by assumption) (by assumption)], rfl, by rw [hsame (by assumption) (by assumption)]⟩ (Ents.dropAll.trans (Ents.facts fun _ h => h)) | refine FinE.mk [] [slcFact 1 a' (i + 1 + (l.length - i)) c' (sC (l.take i) ++ [.s s] ++ sC (l.drop i))] ⟨a', c', by rw [h6l (hnew (by assumption) (by assumption))], rfl, by rw [h6l (hnew (by assumption) (by assumption)), h6c (hnew (by assumption) (by assumption))]⟩ (Ents.drop.trans (Ents.toFactC.trans (Ents.dropAll.trans (Ents.facts fun _ h => ⟨h.1, trivial⟩)))) | refine FinE.mk [] [slcFact 1 a' (i + 1 + (l.length - i)) c' (sC (l.take i) ++ [.s s] ++ sC (l.drop i))] ⟨a', c', by rw [h6l (hnew (by assumption) (by assumption))], rfl, by rw [h6l (hnew (by assumption) (by assumption)), h6c (hnew (by assumption) (by assumption))]⟩ (Ents.toFactC.trans (Ents.dropAll.trans (Ents.facts fun _ h => ⟨h.1, trivial⟩))) | fail
  · have hil : i = l.length := by omega
    have hdn : l.drop i = [] := List.drop_eq_nil_of_le (by omega)
    have hnew : W = l.take i ++ s :: l.drop i := by rw [he, hdn]; rfl
    repeat' first | refine J_seq ?_ | refine J_region Tryz.tyOK ?_ | refine J_block ?_ | refine J_cond ?_ | refine J_ret ?_ | refine J_skip ?_ | refine J_exit ?_ | refine J_scope ?_ | refine CondP.y ?_ | refine CondP.n ?_ | refine CondP.mk (fun h => ?_) (fun h => ?_) | refine EqP.mk rfl ?_ | refine NewP.mk (fun ad => ?_) | refine ArP.x ?_ | refine SideP.a ?_ | refine J_drawT (id := 6) Tryz.tyOK (by kernel_rfl) [0, 0, 3, 7, 0, 16, 63, 0, 0, 384, 1023, 2047] [0, 1, 2, 4, 7, 8, 9] 3 [5, 6, 10, 11] 5 [3, 6, 10, 11] [3, 5, 6, 10] [] 12 false (by kernel_rfl) ?_ | refine TwoP.mk ?_ ?_ | refine EntP.mk Ents.a ?_ | refine AppE.nil (sC (l.take i)) i rfl rfl rfl (SrcE.sl 0 9 _ _ _ _ _ rfl rfl (.inr fun m h => strTo h.1.2 hi) (by rw [sC_len, List.length_take, Nat.min_eq_left hi]; rfl)) (by dsimp only; omega) (fun a' c' => ?_) | refine AppE.row [_] _ (sC (l.take i)) [.s s] 1 rfl (SrcE.sl 9 9 _ _ 1 1 _ rfl rfl (.inl ⟨1, List.Mem.head _⟩) rfl) (by dsimp only; omega) (fun a' c' => ?_) | refine AppE.row [] _ (sC (l.take i)) [.s s] 1 rfl (SrcE.sl 9 9 _ _ 1 1 _ rfl rfl (.inl ⟨1, List.Mem.tail _ (List.Mem.head _)⟩) rfl) (by dsimp only; omega) (fun a' c' => ?_) | refine AppE.row [_] _ (sC (l.take i) ++ [.s s]) (sC (l.drop i)) (l.length - i) rfl (SrcE.sl 0 9 _ _ _ _ _ rfl rfl (.inr fun m h => strFrom h.1.2 rfl hi hnc) (by rw [sC_len, List.length_drop]; rfl)) (by dsimp only; omega) (fun a' c' => ?_) | refine AppE.row [] _ (sC (l.take i) ++ [.s s]) (sC (l.drop i)) (l.length - i) rfl (SrcE.sl 0 9 _ _ _ _ _ rfl rfl (.inr fun m h => strFrom h.1.2 rfl hi hnc) (by rw [sC_len, List.length_drop]; rfl)) (by dsimp only; omega) (fun a' c' => ?_) | refine FinE.mk [] [slcFact 1 a' (i + 1 + (l.length - i)) c' (sC (l.take i) ++ [.s s] ++ sC (l.drop i))] ⟨a', c', by rw [h6l hnew], rfl, by rw [h6l hnew, h6c hnew]⟩ (Ents.drop.trans (Ents.toFactC.trans (Ents.dropAll.trans (Ents.facts fun _ h => ⟨h.1, trivial⟩)))) | refine FinE.mk [] [slcFact 1 a' (i + 1 + (l.length - i)) c' (sC (l.take i) ++ [.s s] ++ sC (l.drop i))] ⟨a', c', by rw [h6l hnew], rfl, by rw [h6l hnew, h6c hnew]⟩ (Ents.toFactC.trans (Ents.dropAll.trans (Ents.facts fun _ h => ⟨h.1, trivial⟩))) | fail
end Go.Proofs
