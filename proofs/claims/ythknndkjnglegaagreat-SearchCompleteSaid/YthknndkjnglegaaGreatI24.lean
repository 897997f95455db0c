/- This text walks through the functions watch, kind, forbidden, noted of the reference of chapter 27. -/
import Derived.Test.YthknndkjnglegaaGreatI23
set_option linter.all false

namespace Go.X
open Go Go.Lib
theorem StP.wts {m : Im} {s : STM} {a : Option Addr} {c : Nat} {l : List WT} (h : StP m s) (h1 : l.length ≤ c) (h2 : SlF m 0 3 a l.length (wtC l)) : StP m ⟨s.seq, s.clk, s.pa, s.pc, s.pages, s.ga, s.gc, s.gone, s.qa, s.qc, s.props, s.proposed, a, c, l, s.la, s.lc, s.lasts⟩ :=
  ⟨h.pages, h.gone, h.props, h2, h.lasts, ⟨h.room.pages, h.room.gone, h.room.props, h1, h.room.lasts⟩⟩
theorem StP.lss {m : Im} {s : STM} {a : Option Addr} {c : Nat} {l : List LU} (h : StP m s) (h1 : l.length ≤ c) (h2 : SlF m 0 2 a l.length (ltC l)) : StP m ⟨s.seq, s.clk, s.pa, s.pc, s.pages, s.ga, s.gc, s.gone, s.qa, s.qc, s.props, s.proposed, s.wa, s.wc, s.watches, a, c, l⟩ :=
  ⟨h.pages, h.gone, h.props, h.watches, h2, ⟨h.room.pages, h.room.gone, h.room.props, h.room.watches, h1⟩⟩
theorem StP.clk {m : Im} {s : STM} {k q : Int} (h : StP m s) : StP m ⟨q, k, s.pa, s.pc, s.pages, s.ga, s.gc, s.gone, s.qa, s.qc, s.props, s.proposed, s.wa, s.wc, s.watches, s.la, s.lc, s.lasts⟩ :=
  ⟨h.pages, h.gone, h.props, h.watches, h.lasts, ⟨h.room.pages, h.room.gone, h.room.props, h.room.watches, h.room.lasts⟩⟩
theorem wt_ext {x y : WT} (h : x.user = y.user ∧ x.sp = y.sp ∧ x.nm = y.nm ∧ True) : x = y := by
  obtain ⟨a, b, c⟩ := x
  obtain ⟨a', b', c'⟩ := y
  obtain ⟨h1, h2, h3, _⟩ := h
  dsimp only at h1 h2 h3
  subst h1 h2 h3
  rfl
theorem wtC_snoc {l : List WT} {i : Nat} (h : i < l.length) : wtC (l.take (i + 1)) = wtC (l.take i) ++ l[i].cells := by
  rw [List.take_succ_eq_append_getElem h, wtC, List.flatMap_append, List.flatMap_cons, List.flatMap_nil, List.append_nil]; rfl
theorem ltC_snoc {l : List LU} {i : Nat} (h : i < l.length) : ltC (l.take (i + 1)) = ltC (l.take i) ++ l[i].cells := by
  rw [List.take_succ_eq_append_getElem h, ltC, List.flatMap_append, List.flatMap_cons, List.flatMap_nil, List.append_nil]; rfl
theorem drop_hd {α : Type} {l : List α} {i : Nat} (h : i < l.length) : (l.drop i).head? = some l[i] := by
  rw [List.drop_eq_getElem_cons h]; rfl
theorem drop_tl {α : Type} (l : List α) (i : Nat) : (l.drop i).tail = l.drop (i + 1) := by
  rw [List.tail_drop]
end Go.X
namespace Go.Proofs
open Go Go.X
set_option maxRecDepth 100000
set_option maxHeartbeats 4000000
theorem watch27_ok (s : STM) (c : CHM) (hs : StS s) : FnS Tryz.prog 108 [.agg s.cells, .agg c.cells] [] [stF s] (StPost (watchT s.pl c.pl)) := by
  have hrd : ∀ L, Reads L [stF s] 0 3 s.wa s.watches.length (wtC s.watches) := fun L => .inr fun m h => h.1.watches
  have hl := hs.watches
  generalize hR : watchT s.pl c.pl = R
  unfold watchT at hR
  dsimp only at hR
  rw [show s.pl.watches = s.watches from rfl, show c.pl.kind = c.kind from rfl, show (⟨c.pl.user, c.pl.sp, c.pl.nm⟩ : WT) = (WT.mk c.user c.sp c.nm) from rfl] at hR
  refine fn_of_J Tryz.tyOK 0 Tryz.func108 (by kernel_rfl) (c := Tryz.f108.body.getD .skip) (by kernel_rfl) Tryz.ntmps108 (rs := Tryz.f108.results.toList) rfl (by simp) (fun G => ?_)
  refine J_know (fun m h => h.1.room.watches) (fun hnc => ?_)
  repeat' first | refine J_seq ?_ | refine J_region Tryz.tyOK ?_ | refine J_block ?_ | refine J_cond ?_ | refine J_ret ?_ | refine J_skip ?_ | refine J_exit ?_ | refine J_scope ?_ | refine CondP.y ?_ | refine CondP.n ?_ | refine CondP.mk (fun h => ?_) (fun h => ?_) | refine EqP.mk rfl ?_ | refine NewP.mk (fun ad => ?_) | refine ArP.x ?_ | refine SideP.a ?_ | fail
  rename_i ad0 ad1 ad2
  refine J_loop (α := Nat × Option Addr × Nat) (fun x => [(2, .c (.p 0 ad0 0)), (3, .c (.p 1 ad1 0)), (4, .c (.p 2 ad2 0)), (6, .c (.p 3 ad 0)), (7, .c (.sl x.2.1 x.1 x.2.2)), (8, .c (.i .i64 x.1))]) (fun x => [.row 198 3 x.2.1 x.1 x.2.2 (wtC (s.watches.take x.1)), .box 3 ad 198 [C.s c.user, .i .i64 c.sp, .s c.nm], .box 2 ad2 42 STM.nil.cells, .box 1 ad1 90 c.cells, .box 0 ad0 42 s.cells]) (fun _ => [stF s]) 4
    (fun x => x.1 ≤ s.watches.length ∧ ∀ j, ∀ h : j < s.watches.length, j < x.1 → ltW s.watches[j] (WT.mk c.user c.sp c.nm) = true) (fun x => s.watches.length - x.1) (InFam.mk (0, none, 0) ⟨Nat.zero_le _, fun j _ h => absurd h (Nat.not_lt_zero j)⟩ SubE.a (Ents.nilRow (ety := 198) (esz := 3))) (fun x hx => ?_)
  obtain ⟨i, a1, c1⟩ := x
  dsimp only at hx ⊢
  obtain ⟨hi, hn⟩ := hx
  have hend : (∀ h : i < s.watches.length, ltW s.watches[i] (WT.mk c.user c.sp c.nm) = false) → (if c.kind = 8 then (if (s.watches.drop i).head? = some (WT.mk c.user c.sp c.nm) then ({ s.pl with watches := s.watches.take i ++ s.watches.drop (i + 1) }, 0) else (s.pl, 4)) else if (s.watches.drop i).head? = some (WT.mk c.user c.sp c.nm) then (s.pl, 5) else if 100 ≤ (s.watches.length : Int) then (s.pl, 8) else ({ s.pl with watches := s.watches.take i ++ (WT.mk c.user c.sp c.nm) :: s.watches.drop i }, (0 : Int))) = R := fun h => by
    obtain ⟨e1, e2⟩ := take_at (lt := fun x => ltW x (WT.mk c.user c.sp c.nm)) hi hn h
    rw [← hR, e1, e2, drop_tl]
  clear hR
  have hone : (s.watches.take i ++ (WT.mk c.user c.sp c.nm) :: s.watches.drop i).length = i + 1 + (s.watches.length - i) ∧ wtC (s.watches.take i ++ (WT.mk c.user c.sp c.nm) :: s.watches.drop i) = wtC (s.watches.take i) ++ (WT.mk c.user c.sp c.nm).cells ++ wtC (s.watches.drop i) := ⟨by simp; omega, by simp [wtC]⟩
  have hto : i < s.watches.length → (s.watches.take i ++ s.watches.drop (i + 1)).length = i + (s.watches.length - (i + 1)) ∧ wtC (s.watches.take i ++ s.watches.drop (i + 1)) = wtC (s.watches.take i) ++ wtC (s.watches.drop (i + 1)) := fun h => ⟨by simp; omega, by simp [wtC]⟩
  by_cases hlt : i < s.watches.length
  · have hg := wt_get hlt
    have cb := before_ok s.watches[i] (WT.mk c.user c.sp c.nm)
    have hsn := wtC_snoc hlt
    rw [drop_hd hlt] at hend
    have hto := hto hlt
    cases hb : ltW s.watches[i] (WT.mk c.user c.sp c.nm) with
    | true =>
      have hnext : ∀ j, ∀ h : j < s.watches.length, j < i + 1 → ltW s.watches[j] (WT.mk c.user c.sp c.nm) = true := fun j hj hji => by
        by_cases e : j = i
        · subst e; exact hb
        · exact hn j hj (by omega)
      rw [hb] at cb
      clear hend hto hone
      generalize s.watches[i] = y at *
      repeat' first | refine J_seq ?_ | refine J_region Tryz.tyOK ?_ | refine J_block ?_ | refine J_cond ?_ | refine J_ret ?_ | refine J_skip ?_ | refine J_exit ?_ | refine J_scope ?_ | refine CondP.y ?_ | refine CondP.n ?_ | refine CondP.mk (fun h => ?_) (fun h => ?_) | refine EqP.mk rfl ?_ | refine NewP.mk (fun ad => ?_) | refine ArP.x ?_ | refine SideP.a ?_ | refine J_drawS (id := 4) Tryz.tyOK (by kernel_rfl) [0, 0, 2, 6, 15, 31, 63, 127, 63, 511, 1023, 63, 4095, 8191] [0, 1, 2, 3, 4, 5, 6, 7, 8, 9, 10, 11, 12, 13] [] [2, 6, 24] true (by kernel_rfl) ?_ | refine J_drawS (id := 7) Tryz.tyOK (by kernel_rfl) [0, 0, 2, 6, 15, 31, 63, 127, 63, 511, 1023, 63, 4095, 8191, 16383] [0, 1, 2, 3, 4, 5, 6, 7, 8, 9, 10, 11, 12, 13, 14] [] [2, 6, 48] true (by kernel_rfl) ?_ | refine J_drawZ (id := 17) Tryz.tyOK (by kernel_rfl) [0, 0, 2, 7, 0, 16, 0, 112, 255, 511, 1023] [0, 1, 4, 5, 6, 7, 2, 3, 8, 9, 10] [2, 3, 8, 10] [2, 6] 10 false (by kernel_rfl) ?_ | refine EntP.mk Ents.a ?_ | refine IdxE.mk 0 3 _ (hrd _) (by omega) (by omega) ?_ | refine FldE.mk 0 3 _ _ (hrd _) (by omega) ?_ | refine LoadE.mk 0 _ _ y.cells (hrd _) (by omega) (by omega) (by first | omega | decide) (by exact hg) ?_ | refine CallQ.mk [] _ cb (fun _ _ => trivial) ?_ | refine AppE.row [_] _ (wtC (s.watches.take i)) y.cells 1 rfl (SrcE.sl 198 198 _ _ 1 1 _ rfl rfl (.inl ⟨1, List.Mem.head _⟩) rfl) (by dsimp only; omega) (fun a' c' => ?_); rw [← hsn] | refine Round.mk (i + 1, a', c') (by dsimp only; omega) ⟨by dsimp only; omega, hnext⟩ SubE.a Ents.a | fail
    | false =>
      have hend := hend fun _ => hb
      rw [hb] at cb
      have hd8 : c.kind = 8 → s.watches[i] = (WT.mk c.user c.sp c.nm) → R = ({ s.pl with watches := s.watches.take i ++ s.watches.drop (i + 1) }, 0) := fun h h' => by rw [← hend, if_pos h, if_pos (by rw [h'])]
      have hn8 : c.kind = 8 → ¬ s.watches[i] = (WT.mk c.user c.sp c.nm) → R = (s.pl, 4) := fun h h' => by rw [← hend, if_pos h, if_neg (fun e => h' (Option.some.inj e))]
      have hd7 : ¬ c.kind = 8 → s.watches[i] = (WT.mk c.user c.sp c.nm) → R = (s.pl, 5) := fun h h' => by rw [← hend, if_neg h, if_pos (by rw [h'])]
      have hf7 : ¬ c.kind = 8 → ¬ s.watches[i] = (WT.mk c.user c.sp c.nm) → 100 ≤ (s.watches.length : Int) → R = (s.pl, 8) := fun h h' h'' => by rw [← hend, if_neg h, if_neg (fun e => h' (Option.some.inj e)), if_pos h'']
      have hn7 : ¬ c.kind = 8 → ¬ s.watches[i] = (WT.mk c.user c.sp c.nm) → ¬ 100 ≤ (s.watches.length : Int) → R = ({ s.pl with watches := s.watches.take i ++ (WT.mk c.user c.sp c.nm) :: s.watches.drop i }, 0) := fun h h' h'' => by rw [← hend, if_neg h, if_neg (fun e => h' (Option.some.inj e)), if_neg h'']
      clear hend hn hsn
      by_cases hyw : s.watches[i] = (WT.mk c.user c.sp c.nm)
      · have gd8 := fun h => hd8 h hyw
        have gd7 := fun h => hd7 h hyw
        rw [hyw] at hg cb
        clear hd8 hd7 hn8 hf7 hn7 hyw hone
        generalize hWW : s.watches.take i ++ s.watches.drop (i + 1) = W at *
        repeat' first | exact absurd (show c.user = c.user ∧ (c.sp = c.sp ∧ c.nm = c.nm ∧ True) ∧ True from ⟨rfl, ⟨rfl, rfl, trivial⟩, trivial⟩) (by assumption) | refine J_seq ?_ | refine J_region Tryz.tyOK ?_ | refine J_block ?_ | refine J_cond ?_ | refine J_ret ?_ | refine J_skip ?_ | refine J_exit ?_ | refine J_scope ?_ | refine CondP.y ?_ | refine CondP.n ?_ | refine CondP.mk (fun h => ?_) (fun h => ?_) | refine EqP.mk rfl ?_ | refine NewP.mk (fun ad => ?_) | refine ArP.x ?_ | refine SideP.a ?_ | refine J_drawS (id := 4) Tryz.tyOK (by kernel_rfl) [0, 0, 2, 6, 15, 31, 63, 127, 63, 511, 1023, 63, 4095, 8191] [0, 1, 2, 3, 4, 5, 6, 7, 8, 9, 10, 11, 12, 13] [] [2, 6, 24] true (by kernel_rfl) ?_ | refine J_drawS (id := 7) Tryz.tyOK (by kernel_rfl) [0, 0, 2, 6, 15, 31, 63, 127, 63, 511, 1023, 63, 4095, 8191, 16383] [0, 1, 2, 3, 4, 5, 6, 7, 8, 9, 10, 11, 12, 13, 14] [] [2, 6, 48] true (by kernel_rfl) ?_ | refine J_drawZ (id := 17) Tryz.tyOK (by kernel_rfl) [0, 0, 2, 7, 0, 16, 0, 112, 255, 511, 1023] [0, 1, 4, 5, 6, 7, 2, 3, 8, 9, 10] [2, 3, 8, 10] [2, 6] 10 false (by kernel_rfl) ?_ | refine EntP.mk Ents.a ?_ | refine IdxE.mk 0 3 _ (hrd _) (by omega) (by omega) ?_ | refine FldE.mk 0 3 _ _ (hrd _) (by omega) ?_ | refine LoadE.mk 0 _ _ (WT.mk c.user c.sp c.nm).cells (hrd _) (by omega) (by omega) (by first | omega | decide) (by exact hg) ?_ | refine CallQ.mk [] _ cb (fun _ _ => trivial) ?_ | refine AppE.row [] _ (wtC (s.watches.take i)) (wtC (s.watches.drop (i + 1))) (s.watches.length - (i + 1)) rfl (SrcE.sl 0 198 _ _ _ _ _ rfl rfl (.inr fun m h => wtFrom h.1.watches (by omega) hnc (by omega)) (wt_lenD _ _)) (by dsimp only; omega) (fun a' c' => ?_); rw [← hto.1, ← hto.2] | (rw [gd8 (by assumption)]; refine FinE.mk [] [stF _] ⟨⟨s.seq, s.clk, s.pa, s.pc, s.pages, s.ga, s.gc, s.gone, s.qa, s.qc, s.props, s.proposed, a', c', W, s.la, s.lc, s.lasts⟩, rfl, rfl, rfl, rfl⟩ ((Ents.ofSub (L0 := [.row 198 3 a' W.length c' (wtC W)]) (by repeat (first | exact List.Sublist.slnil | refine List.Sublist.cons_cons _ ?_ | refine List.Sublist.cons _ ?_)) (fun _ h => h)).trans (Ents.toFactC.trans (Ents.facts fun _ h => ⟨h.2.1.wts h.1.1 h.1.2, trivial⟩)))) | (rw [gd7 (by assumption)]; refine FinE.mk [] [stF s] ⟨s, rfl, rfl, rfl, rfl⟩ Ents.dropAll) | fail
      · have gn8 := fun h => hn8 h hyw
        have gf7 := fun h => hf7 h hyw
        have gn7 := fun h => hn7 h hyw
        clear hn8 hf7 hn7
        have hne : ¬ (s.watches[i].user = c.user ∧ (s.watches[i].sp = c.sp ∧ s.watches[i].nm = c.nm ∧ True) ∧ True) := fun e => hyw (wt_ext ⟨e.1, e.2.1.1, e.2.1.2.1, trivial⟩)
        clear hd8 hd7 hyw hto
        generalize s.watches[i] = y at *
        generalize hWW : s.watches.take i ++ (WT.mk c.user c.sp c.nm) :: s.watches.drop i = W at *
        repeat' first | exact absurd (show y.user = c.user ∧ (y.sp = c.sp ∧ y.nm = c.nm ∧ True) ∧ True by assumption) hne | refine J_seq ?_ | refine J_region Tryz.tyOK ?_ | refine J_block ?_ | refine J_cond ?_ | refine J_ret ?_ | refine J_skip ?_ | refine J_exit ?_ | refine J_scope ?_ | refine CondP.y ?_ | refine CondP.n ?_ | refine CondP.mk (fun h => ?_) (fun h => ?_) | refine EqP.mk rfl ?_ | refine NewP.mk (fun ad => ?_) | refine ArP.x ?_ | refine SideP.a ?_ | refine J_drawS (id := 4) Tryz.tyOK (by kernel_rfl) [0, 0, 2, 6, 15, 31, 63, 127, 63, 511, 1023, 63, 4095, 8191] [0, 1, 2, 3, 4, 5, 6, 7, 8, 9, 10, 11, 12, 13] [] [2, 6, 24] true (by kernel_rfl) ?_ | refine J_drawS (id := 7) Tryz.tyOK (by kernel_rfl) [0, 0, 2, 6, 15, 31, 63, 127, 63, 511, 1023, 63, 4095, 8191, 16383] [0, 1, 2, 3, 4, 5, 6, 7, 8, 9, 10, 11, 12, 13, 14] [] [2, 6, 48] true (by kernel_rfl) ?_ | refine J_drawZ (id := 17) Tryz.tyOK (by kernel_rfl) [0, 0, 2, 7, 0, 16, 0, 112, 255, 511, 1023] [0, 1, 4, 5, 6, 7, 2, 3, 8, 9, 10] [2, 3, 8, 10] [2, 6] 10 false (by kernel_rfl) ?_ | refine EntP.mk Ents.a ?_ | refine IdxE.mk 0 3 _ (hrd _) (by omega) (by omega) ?_ | refine FldE.mk 0 3 _ _ (hrd _) (by omega) ?_ | refine LoadE.mk 0 _ _ y.cells (hrd _) (by omega) (by omega) (by first | omega | decide) (by exact hg) ?_ | refine CallQ.mk [] _ cb (fun _ _ => trivial) ?_ | refine AppE.row [_] _ (wtC (s.watches.take i)) (WT.mk c.user c.sp c.nm).cells 1 rfl (SrcE.sl 198 198 _ _ 1 1 _ rfl rfl (.inl ⟨1, List.Mem.head _⟩) rfl) (by dsimp only; omega) (fun a' c' => ?_) | refine AppE.row [] _ (wtC (s.watches.take i)) (WT.mk c.user c.sp c.nm).cells 1 rfl (SrcE.sl 198 198 _ _ 1 1 _ rfl rfl (.inl ⟨1, List.Mem.tail _ (List.Mem.head _)⟩) rfl) (by dsimp only; omega) (fun a' c' => ?_) | refine AppE.row [_] _ (wtC (s.watches.take i) ++ (WT.mk c.user c.sp c.nm).cells) (wtC (s.watches.drop i)) (s.watches.length - i) rfl (SrcE.sl 0 198 _ _ _ _ _ rfl rfl (.inr fun m h => wtFrom h.1.watches (by omega) hnc (by omega)) (wt_lenD _ _)) (by dsimp only; omega) (fun a2 c2 => ?_); rw [← hone.1, ← hone.2] | refine AppE.row [] _ (wtC (s.watches.take i) ++ (WT.mk c.user c.sp c.nm).cells) (wtC (s.watches.drop i)) (s.watches.length - i) rfl (SrcE.sl 0 198 _ _ _ _ _ rfl rfl (.inr fun m h => wtFrom h.1.watches (by omega) hnc (by omega)) (wt_lenD _ _)) (by dsimp only; omega) (fun a2 c2 => ?_); rw [← hone.1, ← hone.2] | (rw [gn8 (by assumption)]; refine FinE.mk [] [stF s] ⟨s, rfl, rfl, rfl, rfl⟩ Ents.dropAll) | (rw [gf7 (by assumption) (by assumption)]; refine FinE.mk [] [stF s] ⟨s, rfl, rfl, rfl, rfl⟩ Ents.dropAll) | (rw [gn7 (by assumption) (by assumption)]; refine FinE.mk [] [stF _] ⟨⟨s.seq, s.clk, s.pa, s.pc, s.pages, s.ga, s.gc, s.gone, s.qa, s.qc, s.props, s.proposed, a2, c2, W, s.la, s.lc, s.lasts⟩, rfl, rfl, rfl, rfl⟩ ((Ents.ofSub (L0 := [.row 198 3 a2 W.length c2 (wtC W)]) (by repeat (first | exact List.Sublist.slnil | refine List.Sublist.cons_cons _ ?_ | refine List.Sublist.cons _ ?_)) (fun _ h => h)).trans (Ents.toFactC.trans (Ents.facts fun _ h => ⟨h.2.1.wts h.1.1 h.1.2, trivial⟩)))) | fail
  · have hend := hend fun h => absurd h hlt
    have hdn : s.watches.drop i = [] := List.drop_eq_nil_of_le (by omega)
    rw [hdn] at hend
    have hnn : ¬ (([] : List WT).head? = some (WT.mk c.user c.sp c.nm)) := fun e => by cases e
    rw [if_neg hnn, if_neg hnn] at hend
    rw [hdn] at hone
    have hlI : s.watches.length - i = 0 := by omega
    have hn8 : c.kind = 8 → R = (s.pl, 4) := fun h => by rw [← hend, if_pos h]
    have hf7 : ¬ c.kind = 8 → 100 ≤ (s.watches.length : Int) → R = (s.pl, 8) := fun h h'' => by rw [← hend, if_neg h, if_pos h'']
    have hn7 : ¬ c.kind = 8 → ¬ 100 ≤ (s.watches.length : Int) → R = ({ s.pl with watches := s.watches.take i ++ [(WT.mk c.user c.sp c.nm)] }, 0) := fun h h'' => by rw [← hend, if_neg h, if_neg h'']
    have hone : (s.watches.take i ++ [(WT.mk c.user c.sp c.nm)]).length = i + 1 + (s.watches.length - i) ∧ wtC (s.watches.take i ++ [(WT.mk c.user c.sp c.nm)]) = wtC (s.watches.take i) ++ (WT.mk c.user c.sp c.nm).cells ++ wtC (s.watches.drop i) := by rw [hdn]; exact hone
    clear hend hn
    generalize hWW : s.watches.take i ++ [(WT.mk c.user c.sp c.nm)] = W at *
    repeat' first | refine J_seq ?_ | refine J_region Tryz.tyOK ?_ | refine J_block ?_ | refine J_cond ?_ | refine J_ret ?_ | refine J_skip ?_ | refine J_exit ?_ | refine J_scope ?_ | refine CondP.y ?_ | refine CondP.n ?_ | refine CondP.mk (fun h => ?_) (fun h => ?_) | refine EqP.mk rfl ?_ | refine NewP.mk (fun ad => ?_) | refine ArP.x ?_ | refine SideP.a ?_ | refine J_drawS (id := 4) Tryz.tyOK (by kernel_rfl) [0, 0, 2, 6, 15, 31, 63, 127, 63, 511, 1023, 63, 4095, 8191] [0, 1, 2, 3, 4, 5, 6, 7, 8, 9, 10, 11, 12, 13] [] [2, 6, 24] true (by kernel_rfl) ?_ | refine J_drawS (id := 7) Tryz.tyOK (by kernel_rfl) [0, 0, 2, 6, 15, 31, 63, 127, 63, 511, 1023, 63, 4095, 8191, 16383] [0, 1, 2, 3, 4, 5, 6, 7, 8, 9, 10, 11, 12, 13, 14] [] [2, 6, 48] true (by kernel_rfl) ?_ | refine J_drawZ (id := 17) Tryz.tyOK (by kernel_rfl) [0, 0, 2, 7, 0, 16, 0, 112, 255, 511, 1023] [0, 1, 4, 5, 6, 7, 2, 3, 8, 9, 10] [2, 3, 8, 10] [2, 6] 10 false (by kernel_rfl) ?_ | refine EntP.mk Ents.a ?_ | refine AppE.row [_] _ (wtC (s.watches.take i)) (WT.mk c.user c.sp c.nm).cells 1 rfl (SrcE.sl 198 198 _ _ 1 1 _ rfl rfl (.inl ⟨1, List.Mem.head _⟩) rfl) (by dsimp only; omega) (fun a' c' => ?_) | refine AppE.row [] _ (wtC (s.watches.take i)) (WT.mk c.user c.sp c.nm).cells 1 rfl (SrcE.sl 198 198 _ _ 1 1 _ rfl rfl (.inl ⟨1, List.Mem.tail _ (List.Mem.head _)⟩) rfl) (by dsimp only; omega) (fun a' c' => ?_) | refine AppE.row [_] _ (wtC (s.watches.take i) ++ (WT.mk c.user c.sp c.nm).cells) (wtC (s.watches.drop i)) (s.watches.length - i) rfl (SrcE.sl 0 198 _ _ _ _ _ rfl rfl (.inr fun m h => wtFrom h.1.watches (by omega) hnc (by omega)) (wt_lenD _ _)) (by dsimp only; omega) (fun a2 c2 => ?_); rw [← hone.1, ← hone.2] | refine AppE.row [] _ (wtC (s.watches.take i) ++ (WT.mk c.user c.sp c.nm).cells) (wtC (s.watches.drop i)) (s.watches.length - i) rfl (SrcE.sl 0 198 _ _ _ _ _ rfl rfl (.inr fun m h => wtFrom h.1.watches (by omega) hnc (by omega)) (wt_lenD _ _)) (by dsimp only; omega) (fun a2 c2 => ?_); rw [← hone.1, ← hone.2] | (rw [hn8 (by assumption)]; refine FinE.mk [] [stF s] ⟨s, rfl, rfl, rfl, rfl⟩ Ents.dropAll) | (rw [hf7 (by assumption) (by assumption)]; refine FinE.mk [] [stF s] ⟨s, rfl, rfl, rfl, rfl⟩ Ents.dropAll) | (rw [hn7 (by assumption) (by assumption)]; refine FinE.mk [] [stF _] ⟨⟨s.seq, s.clk, s.pa, s.pc, s.pages, s.ga, s.gc, s.gone, s.qa, s.qc, s.props, s.proposed, a2, c2, W, s.la, s.lc, s.lasts⟩, rfl, rfl, rfl, rfl⟩ ((Ents.ofSub (L0 := [.row 198 3 a2 W.length c2 (wtC W)]) (by repeat (first | exact List.Sublist.slnil | refine List.Sublist.cons_cons _ ?_ | refine List.Sublist.cons _ ?_)) (fun _ h => h)).trans (Ents.toFactC.trans (Ents.facts fun _ h => ⟨h.2.1.wts h.1.1 h.1.2, trivial⟩)))) | fail
end Go.Proofs

/- This text walks through the functions noted, forbidden, kind of the reference of chapter 27. -/
namespace Go.X
open Go Go.Lib
end Go.X
namespace Go.Proofs
open Go Go.X
set_option maxRecDepth 100000
set_option maxHeartbeats 4000000
theorem noted27_ok (s : STM) (u : Bs) (sq : Int) (hs : StS s) : FnS Tryz.prog 76 [.agg s.cells, .c (.s u), .c (.i .i64 sq)] [] [stF s] (StPost (notedT s.pl u sq)) := by
  have hrd : ∀ L, Reads L [stF s] 0 2 s.la s.lasts.length (ltC s.lasts) := fun L => .inr fun m h => h.1.lasts
  have hl := hs.lasts
  generalize hR : notedT s.pl u sq = R
  unfold notedT at hR
  dsimp only at hR
  rw [show s.pl.lasts = s.lasts from rfl] at hR
  by_cases hu : u = []
  · rw [if_pos hu] at hR
    subst hR hu
    refine fn_of_J Tryz.tyOK 0 Tryz.func76 (by kernel_rfl) (c := Tryz.f76.body.getD .skip) (by kernel_rfl) Tryz.ntmps76 (rs := Tryz.f76.results.toList) rfl (by simp) (fun G => ?_)
    repeat' first | exact absurd (rfl : ([] : Bs) = []) (by assumption) | refine J_seq ?_ | refine J_region Tryz.tyOK ?_ | refine J_block ?_ | refine J_cond ?_ | refine J_ret ?_ | refine J_skip ?_ | refine J_exit ?_ | refine J_scope ?_ | refine CondP.y ?_ | refine CondP.n ?_ | refine CondP.mk (fun h => ?_) (fun h => ?_) | refine EqP.mk rfl ?_ | refine NewP.mk (fun ad => ?_) | refine ArP.x ?_ | refine SideP.a ?_ | refine FinE.mk [] [stF s] ⟨s, rfl, rfl, rfl, rfl⟩ Ents.dropAll | fail
  rw [if_neg hu] at hR
  refine fn_of_J Tryz.tyOK 0 Tryz.func76 (by kernel_rfl) (c := Tryz.f76.body.getD .skip) (by kernel_rfl) Tryz.ntmps76 (rs := Tryz.f76.results.toList) rfl (by simp) (fun G => ?_)
  refine J_know (fun m h => h.1.room.lasts) (fun hnc => ?_)
  repeat' first | exact absurd (by assumption) hu | refine J_seq ?_ | refine J_region Tryz.tyOK ?_ | refine J_block ?_ | refine J_cond ?_ | refine J_ret ?_ | refine J_skip ?_ | refine J_exit ?_ | refine J_scope ?_ | refine CondP.y ?_ | refine CondP.n ?_ | refine CondP.mk (fun h => ?_) (fun h => ?_) | refine EqP.mk rfl ?_ | refine NewP.mk (fun ad => ?_) | refine ArP.x ?_ | refine SideP.a ?_ | fail
  rename_i ad0
  refine J_loop (α := Nat × Option Addr × Nat) (fun x => [(1, .c (.s u)), (2, .c (.i .i64 sq)), (3, .c (.p 0 ad0 0)), (6, .c (.p 1 ad 0)), (8, .c (.sl x.2.1 x.1 x.2.2)), (9, .c (.i .i64 x.1))]) (fun x => [.row 168 2 x.2.1 x.1 x.2.2 (ltC (s.lasts.take x.1)), .box 1 ad 42 STM.nil.cells, .box 0 ad0 42 s.cells]) (fun _ => [stF s]) 2
    (fun x => x.1 ≤ s.lasts.length ∧ ∀ j, ∀ h : j < s.lasts.length, j < x.1 → ltB s.lasts[j].user u = true) (fun x => s.lasts.length - x.1) (InFam.mk (0, none, 0) ⟨Nat.zero_le _, fun j _ h => absurd h (Nat.not_lt_zero j)⟩ SubE.a (Ents.nilRow (ety := 168) (esz := 2))) (fun x hx => ?_)
  obtain ⟨i, a1, c1⟩ := x
  dsimp only at hx ⊢
  obtain ⟨hi, hn⟩ := hx
  have hend : (∀ h : i < s.lasts.length, ltB s.lasts[i].user u = false) → (if ((s.lasts.drop i).head?.map (·.user)) = some u then ({ s.pl with lasts := s.lasts.take i ++ ⟨u, sq⟩ :: s.lasts.drop (i + 1) }, 0) else if 60 ≤ (s.lasts.length : Int) then (s.pl, 8) else ({ s.pl with lasts := s.lasts.take i ++ ⟨u, sq⟩ :: s.lasts.drop i }, (0 : Int))) = R := fun h => by
    obtain ⟨e1, e2⟩ := take_at (lt := fun x : LU => ltB x.user u) hi hn h
    rw [← hR, e1, e2, drop_tl]
  clear hR
  have hone : ∀ k, i ≤ k → k ≤ s.lasts.length → (s.lasts.take i ++ (⟨u, sq⟩ : LU) :: s.lasts.drop k).length = i + 1 + (s.lasts.length - k) ∧ ltC (s.lasts.take i ++ ⟨u, sq⟩ :: s.lasts.drop k) = ltC (s.lasts.take i) ++ [.s u, .i .i64 sq] ++ ltC (s.lasts.drop k) := fun k h1 h2 => ⟨by simp; omega, by simp [ltC, LU.cells]⟩
  by_cases hlt : i < s.lasts.length
  · have hg := lt_get hlt
    have hgu := lt_user hlt
    have hsn := ltC_snoc hlt
    have hlc := less_cmp s.lasts[i].user u
    have hlr := cmpB_range s.lasts[i].user u
    have hlb : ltB s.lasts[i].user u = decide (Lib.compareBytes s.lasts[i].user u < 0) := rfl
    rw [drop_hd hlt] at hend
    cases hb : ltB s.lasts[i].user u with
    | true =>
      have hnext : ∀ j, ∀ h : j < s.lasts.length, j < i + 1 → ltB s.lasts[j].user u = true := fun j hj hji => by
        by_cases e : j = i
        · subst e; exact hb
        · exact hn j hj (by omega)
      have hlt2 := hlc.2 (by rw [hlb] at hb; have := of_decide_eq_true hb; omega)
      clear hend hone hlc hlb hlr hb
      generalize s.lasts[i] = y at *
      repeat' first | exact absurd hlt2 (by assumption) | refine J_seq ?_ | refine J_region Tryz.tyOK ?_ | refine J_block ?_ | refine J_cond ?_ | refine J_ret ?_ | refine J_skip ?_ | refine J_exit ?_ | refine J_scope ?_ | refine CondP.y ?_ | refine CondP.n ?_ | refine CondP.mk (fun h => ?_) (fun h => ?_) | refine EqP.mk rfl ?_ | refine NewP.mk (fun ad => ?_) | refine ArP.x ?_ | refine SideP.a ?_ | refine IdxE.mk 0 2 _ (hrd _) (by omega) (by omega) ?_ | refine FldE.mk 0 2 _ _ (hrd _) (by omega) ?_ | refine LoadE.mk 0 _ _ y.cells (hrd _) (by omega) (by omega) (by first | omega | decide) (by exact hg) ?_ | refine LoadE.mk 0 _ _ [.s y.user] (hrd _) (by omega) (by omega) (by first | omega | decide) (by exact hgu) ?_ | refine AppE.row [_] _ (ltC (s.lasts.take i)) y.cells 1 rfl (SrcE.sl 168 168 _ _ 1 1 _ rfl rfl (.inl ⟨1, List.Mem.head _⟩) rfl) (by dsimp only; omega) (fun a' c' => ?_); rw [← hsn] | refine Round.mk (i + 1, a', c') (by dsimp only; omega) ⟨by dsimp only; omega, hnext⟩ SubE.a Ents.a | fail
    | false =>
      have hend2 := hend fun _ => hb
      clear hend
      have hlt2 : ¬ Op.bytesLess s.lasts[i].user u = true := fun e => by have h1 := hlc.1 e; rw [hlb] at hb; have := of_decide_eq_false hb; omega
      clear hlc hlb hlr hb hn hsn
      by_cases hyw : s.lasts[i].user = u
      · have hd : R = ({ s.pl with lasts := s.lasts.take i ++ ⟨u, sq⟩ :: s.lasts.drop (i + 1) }, 0) := by rw [← hend2, if_pos (by rw [Option.map_some, hyw])]
        have hone := hone (i + 1) (by omega) (by omega)
        clear hend2
        generalize s.lasts[i] = y at *
        generalize s.lasts.take i ++ (⟨u, sq⟩ : LU) :: s.lasts.drop (i + 1) = W at *
        subst hd
        repeat' first | first | exact absurd (by assumption) hlt2 | exact absurd hyw (by assumption) | refine J_seq ?_ | refine J_region Tryz.tyOK ?_ | refine J_block ?_ | refine J_cond ?_ | refine J_ret ?_ | refine J_skip ?_ | refine J_exit ?_ | refine J_scope ?_ | refine CondP.y ?_ | refine CondP.n ?_ | refine CondP.mk (fun h => ?_) (fun h => ?_) | refine EqP.mk rfl ?_ | refine NewP.mk (fun ad => ?_) | refine ArP.x ?_ | refine SideP.a ?_ | refine IdxE.mk 0 2 _ (hrd _) (by omega) (by omega) ?_ | refine FldE.mk 0 2 _ _ (hrd _) (by omega) ?_ | refine LoadE.mk 0 _ _ [.s y.user] (hrd _) (by omega) (by omega) (by first | omega | decide) (by exact hgu) ?_ | refine AppE.row [_] _ (ltC (s.lasts.take i)) [.s u, .i .i64 sq] 1 rfl (SrcE.sl 168 168 _ _ 1 1 _ rfl rfl (.inl ⟨1, List.Mem.head _⟩) rfl) (by dsimp only; omega) (fun a' c' => ?_) | refine AppE.row [_] _ (ltC (s.lasts.take i) ++ [.s u, .i .i64 sq]) (ltC (s.lasts.drop (i + 1))) (s.lasts.length - (i + 1)) rfl (SrcE.sl 0 168 _ _ _ _ _ rfl rfl (.inr fun m h => ltFrom h.1.lasts (by omega) hnc (by omega)) (lt_lenD _ _)) (by dsimp only; omega) (fun a2 c2 => ?_); rw [← hone.1, ← hone.2] | refine FinE.mk [] [stF _] ⟨⟨s.seq, s.clk, s.pa, s.pc, s.pages, s.ga, s.gc, s.gone, s.qa, s.qc, s.props, s.proposed, s.wa, s.wc, s.watches, a2, c2, W⟩, rfl, rfl, rfl, rfl⟩ ((Ents.ofSub (L0 := [.row 168 2 a2 W.length c2 (ltC W)]) (by repeat (first | exact List.Sublist.slnil | refine List.Sublist.cons_cons _ ?_ | refine List.Sublist.cons _ ?_)) (fun _ h => h)).trans (Ents.toFactC.trans (Ents.facts fun _ h => ⟨h.2.1.lss h.1.1 h.1.2, trivial⟩))) | fail
      · have hne : ¬ (some s.lasts[i]).map LU.user = some u := fun e => hyw (Option.some.inj e)
        have hf7 : 60 ≤ (s.lasts.length : Int) → R = (s.pl, 8) := fun h => by rw [← hend2, if_neg hne, if_pos h]
        have hn7 : ¬ 60 ≤ (s.lasts.length : Int) → R = ({ s.pl with lasts := s.lasts.take i ++ ⟨u, sq⟩ :: s.lasts.drop i }, 0) := fun h => by rw [← hend2, if_neg hne, if_neg h]
        have hone := hone i (by omega) (by omega)
        clear hend2 hne
        generalize s.lasts[i] = y at *
        generalize s.lasts.take i ++ (⟨u, sq⟩ : LU) :: s.lasts.drop i = W at *
        repeat' first | first | exact absurd (by assumption) hlt2 | exact absurd (by assumption) hyw | refine J_seq ?_ | refine J_region Tryz.tyOK ?_ | refine J_block ?_ | refine J_cond ?_ | refine J_ret ?_ | refine J_skip ?_ | refine J_exit ?_ | refine J_scope ?_ | refine CondP.y ?_ | refine CondP.n ?_ | refine CondP.mk (fun h => ?_) (fun h => ?_) | refine EqP.mk rfl ?_ | refine NewP.mk (fun ad => ?_) | refine ArP.x ?_ | refine SideP.a ?_ | refine IdxE.mk 0 2 _ (hrd _) (by omega) (by omega) ?_ | refine FldE.mk 0 2 _ _ (hrd _) (by omega) ?_ | refine LoadE.mk 0 _ _ [.s y.user] (hrd _) (by omega) (by omega) (by first | omega | decide) (by exact hgu) ?_ | refine AppE.row [_] _ (ltC (s.lasts.take i)) [.s u, .i .i64 sq] 1 rfl (SrcE.sl 168 168 _ _ 1 1 _ rfl rfl (.inl ⟨1, List.Mem.head _⟩) rfl) (by dsimp only; omega) (fun a' c' => ?_) | refine AppE.row [_] _ (ltC (s.lasts.take i) ++ [.s u, .i .i64 sq]) (ltC (s.lasts.drop i)) (s.lasts.length - i) rfl (SrcE.sl 0 168 _ _ _ _ _ rfl rfl (.inr fun m h => ltFrom h.1.lasts (by omega) hnc (by omega)) (lt_lenD _ _)) (by dsimp only; omega) (fun a2 c2 => ?_); rw [← hone.1, ← hone.2] | (rw [hf7 (by omega)]; refine FinE.mk [] [stF s] ⟨s, rfl, rfl, rfl, rfl⟩ Ents.dropAll) | (rw [hn7 (by omega)]; refine FinE.mk [] [stF _] ⟨⟨s.seq, s.clk, s.pa, s.pc, s.pages, s.ga, s.gc, s.gone, s.qa, s.qc, s.props, s.proposed, s.wa, s.wc, s.watches, a2, c2, W⟩, rfl, rfl, rfl, rfl⟩ ((Ents.ofSub (L0 := [.row 168 2 a2 W.length c2 (ltC W)]) (by repeat (first | exact List.Sublist.slnil | refine List.Sublist.cons_cons _ ?_ | refine List.Sublist.cons _ ?_)) (fun _ h => h)).trans (Ents.toFactC.trans (Ents.facts fun _ h => ⟨h.2.1.lss h.1.1 h.1.2, trivial⟩)))) | fail
  · have hend2 := hend fun h => absurd h hlt
    clear hend
    have hdn : s.lasts.drop i = [] := List.drop_eq_nil_of_le (by omega)
    have hne : ¬ ((s.lasts.drop i).head?.map (·.user)) = some u := fun e => by rw [hdn] at e; cases e
    have hf7 : 60 ≤ (s.lasts.length : Int) → R = (s.pl, 8) := fun h => by rw [← hend2, if_neg hne, if_pos h]
    have hn7 : ¬ 60 ≤ (s.lasts.length : Int) → R = ({ s.pl with lasts := s.lasts.take i ++ ⟨u, sq⟩ :: s.lasts.drop i }, 0) := fun h => by rw [← hend2, if_neg hne, if_neg h]
    have hone := hone i (by omega) (by omega)
    clear hend2 hne hn hdn
    generalize s.lasts.take i ++ (⟨u, sq⟩ : LU) :: s.lasts.drop i = W at *
    repeat' first | refine J_seq ?_ | refine J_region Tryz.tyOK ?_ | refine J_block ?_ | refine J_cond ?_ | refine J_ret ?_ | refine J_skip ?_ | refine J_exit ?_ | refine J_scope ?_ | refine CondP.y ?_ | refine CondP.n ?_ | refine CondP.mk (fun h => ?_) (fun h => ?_) | refine EqP.mk rfl ?_ | refine NewP.mk (fun ad => ?_) | refine ArP.x ?_ | refine SideP.a ?_ | refine AppE.row [_] _ (ltC (s.lasts.take i)) [.s u, .i .i64 sq] 1 rfl (SrcE.sl 168 168 _ _ 1 1 _ rfl rfl (.inl ⟨1, List.Mem.head _⟩) rfl) (by dsimp only; omega) (fun a' c' => ?_) | refine AppE.row [_] _ (ltC (s.lasts.take i) ++ [.s u, .i .i64 sq]) (ltC (s.lasts.drop i)) (s.lasts.length - i) rfl (SrcE.sl 0 168 _ _ _ _ _ rfl rfl (.inr fun m h => ltFrom h.1.lasts (by omega) hnc (by omega)) (lt_lenD _ _)) (by dsimp only; omega) (fun a2 c2 => ?_); rw [← hone.1, ← hone.2] | (rw [hf7 (by omega)]; refine FinE.mk [] [stF s] ⟨s, rfl, rfl, rfl, rfl⟩ Ents.dropAll) | (rw [hn7 (by omega)]; refine FinE.mk [] [stF _] ⟨⟨s.seq, s.clk, s.pa, s.pc, s.pages, s.ga, s.gc, s.gone, s.qa, s.qc, s.props, s.proposed, s.wa, s.wc, s.watches, a2, c2, W⟩, rfl, rfl, rfl, rfl⟩ ((Ents.ofSub (L0 := [.row 168 2 a2 W.length c2 (ltC W)]) (by repeat (first | exact List.Sublist.slnil | refine List.Sublist.cons_cons _ ?_ | refine List.Sublist.cons _ ?_)) (fun _ h => h)).trans (Ents.toFactC.trans (Ents.facts fun _ h => ⟨h.2.1.lss h.1.1 h.1.2, trivial⟩)))) | fail
theorem forbid27_ok (c : CHM) (hl : (c.text.length : Int) ≤ 8192) : FnS Tryz.prog 75 [.agg c.cells] [] [] (Is (.c (.b (forbidT c.pl)))) := by
  obtain ⟨W, hW⟩ : ∃ W, forbidT c.pl = W := ⟨_, rfl⟩
  rw [hW]
  unfold forbidT isPol at hW
  change (if c.kind = 1 then decide (c.sp = 5 ∧ c.nm = policyNm) && !decide ((polParseT c.text).2.2 = 0) else if c.kind = 2 ∨ c.kind = 3 ∨ c.kind = 5 then decide (c.sp = 5 ∧ c.nm = policyNm) else if c.kind = 4 then decide (c.sp = 5 ∧ c.nm = policyNm) || decide (c.tsp = 5 ∧ c.tnm = policyNm) else false) = W at hW
  have cr := refParse12_ok c.text (by omega)
  generalize polParseT c.text = r at *
  have cp := pol27_ok
  generalize policyNm = pn at *
  refine fn_of_J Tryz.tyOK 0 Tryz.func75 (by kernel_rfl) (c := Tryz.f75.body.getD .skip) (by kernel_rfl) Tryz.ntmps75 (rs := Tryz.f75.results.toList) rfl (by simp) (fun G => ?_)
  repeat' first | refine J_seq ?_ | refine J_region Tryz.tyOK ?_ | refine J_block ?_ | refine J_cond ?_ | refine J_ret ?_ | refine J_skip ?_ | refine J_exit ?_ | refine J_scope ?_ | refine CondP.y ?_ | refine CondP.n ?_ | refine CondP.mk (fun h => ?_) (fun h => ?_) | refine EqP.mk rfl ?_ | refine NewP.mk (fun ad => ?_) | refine ArP.x ?_ | refine SideP.a ?_ | refine J_drawS (id := 3) Tryz.tyOK (by kernel_rfl) [0, 1, 0, 7] [0, 1, 2, 3] [] [1] true (by kernel_rfl) ?_ | refine J_drawS (id := 10) Tryz.tyOK (by kernel_rfl) [0, 1, 0, 7, 15] [0, 1, 2, 3, 4] [] [1] true (by kernel_rfl) ?_ | refine J_drawS (id := 12) Tryz.tyOK (by kernel_rfl) [0, 1, 0, 7, 15, 31, 63, 31, 255, 511, 1023] [0, 1, 2, 3, 4, 5, 6, 7, 8, 9, 10] [] [1] true (by kernel_rfl) ?_ | refine EntP.mk Ents.a ?_ | refine CallQ.mk [] _ cp (fun _ _ => trivial) ?_ | refine CallP.mk [] _ [] _ cr (List.Perm.refl _) (fun _ _ => trivial) (fun v L' D' hq => ?_); obtain ⟨pm, _, _, _, rfl, rfl, rfl⟩ := hq | refine FinE.bool ?_ | fail
  all_goals (clear cr cp; rw [← hW]; grind)
end Go.Proofs

/- This text walks through the functions kind and Apply of the reference of chapter 27. -/
namespace Go.X
open Go Go.Lib
theorem kind_pl (c : CHM) : c.pl.kind = c.kind := rfl
theorem form_kind {c : CH} (h : chValidT c = 0) : 1 ≤ c.kind ∧ c.kind ≤ 10 := ((formT_iff c).1 (chValid_iff.1 h).1).1
theorem form_hist {c : CH} (h : chValidT c = 0) : c.hist.length ≤ 40 := by
  have hf := (formT_iff c).1 (chValid_iff.1 h).1
  by_cases h5 : c.kind = 5
  · have := (chOK h).hist h5
    simp only [chHistT, Bool.and_eq_true, decide_eq_true_eq] at this
    omega
  · rcases hf.2.2.2.2.2.2 with h | h
    · exact absurd h h5
    · rw [h]; simp
theorem steps_cons (sq : Int) (s : ST) (c : CH) (l : List CH) : stepsT sq s (c :: l) = if (stepT s c sq).2 ≠ 0 then (ST.nil, (stepT s c sq).2) else stepsT sq (stepT s c sq).1 l := rfl
theorem drop_map {α β : Type} (f : α → β) {l : List α} {i : Nat} (h : i < l.length) : (l.map f).drop i = f l[i] :: (l.map f).drop (i + 1) := by
  rw [List.drop_eq_getElem_cons (by simpa using h), List.getElem_map]
def fin27 (sq : Int) (r : ST × Int) : ST × Int := if r.2 ≠ 0 then (ST.nil, r.2) else if 1073741824 < sq then (ST.nil, 8) else ({ r.1 with seq := sq }, 0)
theorem applyT_is {s : ST} {l : List CH} (h : validST s = true) (hl : ¬ ((l.length : Int) < 1 ∨ 16 < (l.length : Int))) : applyT s l = fin27 (s.seq + 1) (stepsT (s.seq + 1) s l) := by
  unfold applyT fin27
  rw [h, if_neg (by decide), if_neg hl]
theorem chm_user {l : List CHM} {i : Nat} (h : i < l.length) : ((chmC l).drop (i * 10 + 1)).take 1 = [.s l[i].user] := by
  rw [chmC, flat_get (F := CHM.cells) (z := 10) (fun _ => rfl) h (by omega)]; rfl
end Go.X
namespace Go.Proofs
open Go Go.X
set_option maxRecDepth 100000
set_option maxHeartbeats 4000000
theorem kind27_ok (s : STM) (c : CHM) (sq : Int) (hs : StS s) (h0 : 0 ≤ s.proposed) (hc0 : 0 ≤ s.clk) (hc1 : s.clk ≤ 52595999) (hc : ChOK c.pl) (hk : 1 ≤ c.kind ∧ c.kind ≤ 10) (hh : c.hist.length ≤ 1000) : FnS Tryz.prog 74 [.agg s.cells, .agg c.cells, .c (.i .i64 sq)] [] [stF s, chF c] (StPost (kindT s.pl c.pl sq)) := by
  have cp := put27_ok s c sq hs
  have cd := remove27_ok s c hs
  have cr := restore27_ok s c hs
  have cm := fun h : c.kind = 4 => move27_ok s c sq hs (by have := (validT_bounds (hc.dest h)).2.2.2; have h2 : c.pl.tnm = c.tnm := rfl; rw [h2] at this; omega)
  have ct := fun h : c.kind = 5 => take27_ok s c sq hs (by have := hc.hist h; simp only [chHistT, Bool.and_eq_true, decide_eq_true_eq] at this; have h2 : c.pl.hist = c.hist := rfl; rw [h2] at this; omega) hh
  have cw := watch27_ok s c hs
  have cq := propose27_ok s c hs h0
  have cs := shut27_ok s c hs
  have hn : c.kind = 6 → 1 ≤ c.n := hc.num
  generalize hR : kindT s.pl c.pl sq = R
  unfold kindT at hR
  rw [kind_pl] at hR
  have r1 : c.kind = 1 → R = putT27 s.pl c.pl sq := fun h => by rw [← hR, if_pos h]
  have r2 : c.kind = 2 → R = removeT s.pl c.pl := fun h => by rw [← hR, if_neg (by omega), if_pos h]
  have r3 : c.kind = 3 → R = restoreT s.pl c.pl := fun h => by rw [← hR, if_neg (by omega), if_neg (by omega), if_pos h]
  have r4 : c.kind = 4 → R = moveT s.pl c.pl sq := fun h => by rw [← hR, if_neg (by omega), if_neg (by omega), if_neg (by omega), if_pos h]
  have r5 : c.kind = 5 → R = takeT s.pl c.pl sq := fun h => by rw [← hR, if_neg (by omega), if_neg (by omega), if_neg (by omega), if_neg (by omega), if_pos h]
  have r6 : c.kind = 6 → R = tickT s.pl c.pl := fun h => by rw [← hR, if_neg (by omega), if_neg (by omega), if_neg (by omega), if_neg (by omega), if_neg (by omega), if_pos h]
  have r7 : c.kind = 7 ∨ c.kind = 8 → R = watchT s.pl c.pl := fun h => by rw [← hR, if_neg (by omega), if_neg (by omega), if_neg (by omega), if_neg (by omega), if_neg (by omega), if_neg (by omega), if_pos h]
  have r9 : c.kind = 9 → R = proposeT s.pl c.pl := fun h => by rw [← hR, if_neg (by omega), if_neg (by omega), if_neg (by omega), if_neg (by omega), if_neg (by omega), if_neg (by omega), if_neg (by omega), if_pos h]
  have r10 : c.kind = 10 → R = shutT s.pl c.pl := fun h => by rw [← hR, if_neg (by omega), if_neg (by omega), if_neg (by omega), if_neg (by omega), if_neg (by omega), if_neg (by omega), if_neg (by omega), if_neg (by omega)]
  have r61 : c.kind = 6 → 52595999 - s.clk < c.n → R = (s.pl, 2) := fun h h' => by rw [r6 h]; exact if_pos h'
  have r62 : c.kind = 6 → ¬ 52595999 - s.clk < c.n → R = ({ s.pl with clk := s.clk + c.n }, 0) := fun h h' => by rw [r6 h]; exact if_neg h'
  clear hR hc r6
  refine fn_of_J Tryz.tyOK 0 Tryz.func74 (by kernel_rfl) (c := Tryz.f74.body.getD .skip) (by kernel_rfl) Tryz.ntmps74 (rs := Tryz.f74.results.toList) rfl (by simp) (fun G => ?_)
  repeat' first | refine J_seq ?_ | refine J_region Tryz.tyOK ?_ | refine J_block ?_ | refine J_cond ?_ | refine J_ret ?_ | refine J_skip ?_ | refine J_exit ?_ | refine J_scope ?_ | refine CondP.y ?_ | refine CondP.n ?_ | refine CondP.mk (fun h => ?_) (fun h => ?_) | refine EqP.mk rfl ?_ | refine NewP.mk (fun ad => ?_) | refine ArP.x ?_ | refine SideP.a ?_ | (refine CallP.mk [] _ [_] _ cp (List.Perm.refl _) (fun _ h => ⟨h.1, trivial⟩) (fun v L' D' hq => ?_); rw [← r1 (by omega)] at hq; obtain ⟨s', rfl, rfl, rfl, hpl⟩ := hq) | (refine CallP.mk [] _ [_] _ cd (List.Perm.refl _) (fun _ h => ⟨h.1, trivial⟩) (fun v L' D' hq => ?_); rw [← r2 (by omega)] at hq; obtain ⟨s', rfl, rfl, rfl, hpl⟩ := hq) | (refine CallP.mk [] _ [_] _ cr (List.Perm.refl _) (fun _ h => ⟨h.1, trivial⟩) (fun v L' D' hq => ?_); rw [← r3 (by omega)] at hq; obtain ⟨s', rfl, rfl, rfl, hpl⟩ := hq) | (refine CallP.mk [] _ [_] _ (cm (by omega)) (List.Perm.refl _) (fun _ h => ⟨h.1, trivial⟩) (fun v L' D' hq => ?_); rw [← r4 (by omega)] at hq; obtain ⟨s', rfl, rfl, rfl, hpl⟩ := hq) | (refine CallP.mk [] _ [_, _] _ (ct (by omega)) (List.Perm.refl _) (fun _ h => h) (fun v L' D' hq => ?_); rw [← r5 (by omega)] at hq; obtain ⟨s', rfl, rfl, rfl, hpl⟩ := hq) | (refine CallP.mk [] _ [_] _ cw (List.Perm.refl _) (fun _ h => ⟨h.1, trivial⟩) (fun v L' D' hq => ?_); rw [← r7 (by omega)] at hq; obtain ⟨s', rfl, rfl, rfl, hpl⟩ := hq) | (refine CallP.mk [] _ [_] _ cq (List.Perm.refl _) (fun _ h => ⟨h.1, trivial⟩) (fun v L' D' hq => ?_); rw [← r9 (by omega)] at hq; obtain ⟨s', rfl, rfl, rfl, hpl⟩ := hq) | (refine CallP.mk [] _ [_] _ cs (List.Perm.refl _) (fun _ h => ⟨h.1, trivial⟩) (fun v L' D' hq => ?_); rw [← r10 (by omega)] at hq; obtain ⟨s', rfl, rfl, rfl, hpl⟩ := hq) | refine FinE.mk [] [stF _] ⟨s', rfl, rfl, rfl, hpl⟩ (Ents.dropAll.trans (Ents.facts fun _ h => ⟨h.1, trivial⟩)) | (rw [r61 (by omega) (by omega)]; refine FinE.mk [] [stF s] ⟨s, rfl, rfl, rfl, rfl⟩ (Ents.dropAll.trans (Ents.facts fun _ h => ⟨h.1, trivial⟩))) | (rw [r62 (by omega) (by omega)]; refine FinE.mk [] [stF _] ⟨⟨s.seq, s.clk + c.n, s.pa, s.pc, s.pages, s.ga, s.gc, s.gone, s.qa, s.qc, s.props, s.proposed, s.wa, s.wc, s.watches, s.la, s.lc, s.lasts⟩, rfl, rfl, rfl, rfl⟩ (Ents.dropAll.trans (Ents.facts fun _ h => ⟨h.1.clk, trivial⟩))) | fail
end Go.Proofs

/- This text walks through the function Apply of the reference of chapter 27. -/
namespace Go.Proofs
open Go Go.X
set_option maxRecDepth 100000
set_option maxHeartbeats 4000000
theorem apply27_ok (s : STM) (a : Option Addr) (k : Nat) (l : List CHM) (hs : StB s) (hl : l.length ≤ big) (hh : ∀ c ∈ l, c.hist.length ≤ big) : FnS Tryz.prog 40 [.agg s.cells, .c (.sl a l.length k)] [] [stF s, chsF a l] (StPost (applyT s.pl (l.map CHM.pl))) := by
  have hl := big_le hl
  have cv := valid27_ok s hs
  generalize hR : applyT s.pl (l.map CHM.pl) = R
  have hlm : ((l.map CHM.pl).length : Int) = l.length := by rw [List.length_map]
  cases hv : validST s.pl with
  | false =>
    have e1 : R = (ST.nil, 11) := by rw [← hR]; unfold applyT; rw [hv, if_pos rfl]
    rw [hv] at cv
    subst e1
    refine fn_of_J Tryz.tyOK 0 Tryz.func40 (by kernel_rfl) (c := Tryz.f40.body.getD .skip) (by kernel_rfl) Tryz.ntmps40 (rs := Tryz.f40.results.toList) rfl (by simp) (fun G => ?_)
    repeat' first | refine FinE.mk [] [stF _] ⟨STM.nil, rfl, rfl, rfl, rfl⟩ (Ents.dropAll.trans (Ents.facts fun _ _ => ⟨StP.nil, trivial⟩)) | refine J_seq ?_ | refine J_region Tryz.tyOK ?_ | refine J_block ?_ | refine J_cond ?_ | refine J_ret ?_ | refine J_skip ?_ | refine J_exit ?_ | refine J_scope ?_ | refine CondP.y ?_ | refine CondP.n ?_ | refine CondP.mk (fun h => ?_) (fun h => ?_) | refine EqP.mk rfl ?_ | refine NewP.mk (fun ad => ?_) | refine ArP.x ?_ | refine SideP.a ?_ | refine CallP.is cv ?_ (fun _ h => ⟨h.1, trivial⟩) | fail
  | true =>
    rw [hv] at cv
    by_cases hln : (l.length : Int) < 1 ∨ 16 < (l.length : Int)
    · have e1 : R = (ST.nil, 2) := by rw [← hR]; unfold applyT; rw [hv, if_neg (by decide), if_pos (by rw [hlm]; exact hln)]
      subst e1
      refine fn_of_J Tryz.tyOK 0 Tryz.func40 (by kernel_rfl) (c := Tryz.f40.body.getD .skip) (by kernel_rfl) Tryz.ntmps40 (rs := Tryz.f40.results.toList) rfl (by simp) (fun G => ?_)
      repeat' first | refine FinE.mk [] [stF _] ⟨STM.nil, rfl, rfl, rfl, rfl⟩ (Ents.dropAll.trans (Ents.facts fun _ _ => ⟨StP.nil, trivial⟩)) | refine J_seq ?_ | refine J_region Tryz.tyOK ?_ | refine J_block ?_ | refine J_cond ?_ | refine J_ret ?_ | refine J_skip ?_ | refine J_exit ?_ | refine J_scope ?_ | refine CondP.y ?_ | refine CondP.n ?_ | refine CondP.mk (fun h => ?_) (fun h => ?_) | refine EqP.mk rfl ?_ | refine NewP.mk (fun ad => ?_) | refine ArP.x ?_ | refine SideP.a ?_ | refine CallP.is cv ?_ (fun _ h => ⟨h.1, trivial⟩) | fail
    · have e1 : R = fin27 (s.seq + 1) (stepsT (s.seq + 1) s.pl (l.map CHM.pl)) := by rw [← hR]; exact applyT_is hv (by rw [hlm]; exact hln)
      obtain ⟨v1, v2, vk⟩ := valid_iff.1 hv
      change 0 ≤ s.seq at v1
      change s.seq ≤ 1073741824 at v2
      have vk := vk.mono (show s.pl.seq ≤ s.seq + 1 by show s.seq ≤ s.seq + 1; omega)
      generalize hsq : s.seq + 1 = sq at *
      have hsqr : 1 ≤ sq ∧ sq ≤ 1073741825 := by omega
      clear hR hv
      refine fn_of_J Tryz.tyOK 0 Tryz.func40 (by kernel_rfl) (c := Tryz.f40.body.getD .skip) (by kernel_rfl) Tryz.ntmps40 (rs := Tryz.f40.results.toList) rfl (by simp) (fun G => ?_)
      repeat' first | refine J_seq ?_ | refine J_region Tryz.tyOK ?_ | refine J_block ?_ | refine J_cond ?_ | refine J_ret ?_ | refine J_skip ?_ | refine J_exit ?_ | refine J_scope ?_ | refine CondP.y ?_ | refine CondP.n ?_ | refine CondP.mk (fun h => ?_) (fun h => ?_) | refine EqP.mk rfl ?_ | refine NewP.mk (fun ad => ?_) | refine ArP.x ?_ | refine SideP.a ?_ | refine CallP.is cv ?_ (fun _ h => ⟨h.1, trivial⟩) | fail
      rename_i ad0
      have hrl : ∀ s' L, Reads L [stF s', chsF a l] 0 10 a l.length (chmC l) := fun s' L => .inr fun m h => h.2.1.row
      have hrl2 : ∀ s1 s' L, Reads L [stF s1, stF s', chsF a l] 0 10 a l.length (chmC l) := fun s1 s' L => .inr fun m h => h.2.2.1.row
      refine J_loop (α := Nat × STM) (fun x => [(1, .c (.sl a l.length k)), (2, .c (.p 0 ad0 0)), (4, .c (.p 1 ad 0)), (6, .c (.i .i64 sq)), (7, .c (.i .i64 x.1))]) (fun x => [.box 1 ad 42 STM.nil.cells, .box 0 ad0 42 x.2.cells]) (fun x => [stF x.2, chsF a l]) 2
        (fun x => x.1 ≤ l.length ∧ VK sq x.2.pl ∧ R = fin27 sq (stepsT sq x.2.pl ((l.map CHM.pl).drop x.1))) (fun x => l.length - x.1) (InFam.mk (0, s) ⟨Nat.zero_le _, vk, e1⟩ SubE.a (Ents.refl _ _)) (fun x hx => ?_)
      clear cv e1 vk v1 v2 hsq hs
      obtain ⟨i, s'⟩ := x
      dsimp only at hx ⊢
      obtain ⟨hi, hvk, he⟩ := hx
      by_cases hlt : i < l.length
      · have hg := chm_get hlt
        have hgu := chm_user hlt
        have hmem := List.getElem_mem hlt
        have hcl := big_le (hh _ hmem)
        rw [drop_map _ hlt, steps_cons] at he
        generalize l[i] = c at *
        generalize hrest : (l.map CHM.pl).drop (i + 1) = rest at he
        have c26 := valid26_ok c (by omega)
        by_cases q1 : chValidT c.pl = 0
        · have hco := chOK q1
          have ck := kind27_ok s' c sq hvk.small hvk.q0 hvk.c0 hvk.c1 hco (form_kind q1) (by have : c.hist.length ≤ 40 := form_hist q1; omega)
          have cf := forbid27_ok c hco.text
          have hkk := hvk.kind hsqr.1 hco
          rw [q1] at c26
          have hst := hvk.step (c := c.pl) hsqr.1
          by_cases q2 : (kindT s'.pl c.pl sq).2 = 0
          · by_cases q3 : forbidT c.pl = true
            · have hs2 : X.stepT s'.pl c.pl sq = (ST.nil, 7) := by unfold X.stepT; rw [if_neg (by omega), if_neg (by omega), if_pos q3]
              have hR : R = (ST.nil, 7) := by rw [he, hs2, if_pos (show (ST.nil, (7 : Int)).2 ≠ 0 by decide)]; exact if_pos (show (7 : Int) ≠ 0 by decide)
              subst hR
              rw [q3] at cf
              clear hst hkk he hs2
              generalize kindT s'.pl c.pl sq = K at *
              obtain ⟨K1, K2⟩ := K
              dsimp only at q2
              subst q2
              repeat' first | refine FinE.mk [] [stF _] ⟨STM.nil, rfl, rfl, rfl, rfl⟩ (Ents.dropAll.trans (Ents.facts fun _ _ => ⟨StP.nil, trivial⟩)) | refine J_seq ?_ | refine J_region Tryz.tyOK ?_ | refine J_block ?_ | refine J_cond ?_ | refine J_ret ?_ | refine J_skip ?_ | refine J_exit ?_ | refine J_scope ?_ | refine CondP.y ?_ | refine CondP.n ?_ | refine CondP.mk (fun h => ?_) (fun h => ?_) | refine EqP.mk rfl ?_ | refine NewP.mk (fun ad => ?_) | refine ArP.x ?_ | refine SideP.a ?_ | refine J_drawT (id := 12) Tryz.tyOK (by kernel_rfl) [0, 0, 0, 6, 14, 0, 63, 127, 255, 255, 0, 1535, 4095] [0, 1, 2, 3, 4, 5] 6 [7, 8, 9, 10, 11, 12] 10 [6, 7, 8, 9, 11, 12] [6, 10, 11] [2, 46] 13 true (by kernel_rfl) ?_ | refine TwoP.mk ?_ ?_ | refine J_drawS (id := 17) Tryz.tyOK (by kernel_rfl) [0, 0, 0, 6, 14, 30, 0, 127, 255, 511, 511, 1023, 4095] [0, 1, 2, 3, 4, 5, 6, 7, 8, 9, 10, 11, 12] [7, 11] [9, 66] true (by kernel_rfl) ?_ | refine EntP.mk Ents.a ?_ | refine IdxE.mk 0 10 _ (hrl _ _) (by omega) (by omega) ?_ | refine LoadE.mk 0 _ _ c.cells (hrl _ _) (by omega) (by omega) (by first | omega | decide) (by exact hg) ?_ | refine IdxE.mk 0 10 _ (hrl2 _ _ _) (by omega) (by omega) ?_ | refine LoadE.mk 0 _ _ c.cells (hrl2 _ _ _) (by omega) (by omega) (by first | omega | decide) (by exact hg) ?_ | refine CallP.is c26 ?_ (fun _ h => ⟨h.2.1.his c hmem, trivial⟩) | (refine CallP.mk [] _ [_, _] _ ck (List.Perm.refl _) (fun _ h => ⟨h.1, h.2.1.his c hmem, trivial⟩) (fun v L' D' hq => ?_); obtain ⟨s1, rfl, rfl, rfl, hp1⟩ := hq) | refine CallP.is cf ?_ | fail
            · have q3 : forbidT c.pl = false := by simpa using q3
              have hk1 := hkk q3 q2
              rw [q3] at cf
              have cn := fun s1 (h : STM.pl s1 = (kindT s'.pl c.pl sq).1) => noted27_ok s1 c.user sq (VK.small (by rw [h]; exact hk1))
              by_cases q4 : (notedT (kindT s'.pl c.pl sq).1 c.user sq).2 = 0
              · have hs2 : X.stepT s'.pl c.pl sq = notedT (kindT s'.pl c.pl sq).1 c.user sq := by unfold X.stepT; rw [if_neg (by omega), if_neg (by omega), if_neg (by rw [q3]; decide), if_neg (show ¬ (notedT (kindT s'.pl c.pl sq).1 c.pl.user sq).2 ≠ 0 from fun h => h q4)]; rfl
                rw [hs2] at he hst
                rw [if_neg (by omega)] at he
                have hst4 := hst q4
                clear hst hkk hs2 hk1
                generalize kindT s'.pl c.pl sq = K at *
                obtain ⟨K1, K2⟩ := K
                dsimp only at q2 q4 he hst4 cn
                subst q2
                have hvk2 : ∀ s2 : STM, s2.pl = (notedT K1 c.user sq).1 → VK sq s2.pl := fun s2 h => by rw [h]; exact hst4
                have hre : ∀ s2 : STM, s2.pl = (notedT K1 c.user sq).1 → R = fin27 sq (stepsT sq s2.pl ((l.map CHM.pl).drop (i + 1))) := fun s2 h => by rw [h, hrest]; exact he
                have cn := fun s1 (h : STM.pl s1 = K1) => by
                  have := cn s1 h
                  rw [h] at this
                  exact this
                clear hst4 he hrest
                generalize notedT K1 c.user sq = M at *
                obtain ⟨M1, M2⟩ := M
                dsimp only at q4 hvk2 hre
                subst q4
                repeat' first | refine FinE.mk [] [stF _] ⟨STM.nil, rfl, rfl, rfl, rfl⟩ (Ents.dropAll.trans (Ents.facts fun _ _ => ⟨StP.nil, trivial⟩)) | refine J_seq ?_ | refine J_region Tryz.tyOK ?_ | refine J_block ?_ | refine J_cond ?_ | refine J_ret ?_ | refine J_skip ?_ | refine J_exit ?_ | refine J_scope ?_ | refine CondP.y ?_ | refine CondP.n ?_ | refine CondP.mk (fun h => ?_) (fun h => ?_) | refine EqP.mk rfl ?_ | refine NewP.mk (fun ad => ?_) | refine ArP.x ?_ | refine SideP.a ?_ | refine J_drawT (id := 12) Tryz.tyOK (by kernel_rfl) [0, 0, 0, 6, 14, 0, 63, 127, 255, 255, 0, 1535, 4095] [0, 1, 2, 3, 4, 5] 6 [7, 8, 9, 10, 11, 12] 10 [6, 7, 8, 9, 11, 12] [6, 10, 11] [2, 46] 13 true (by kernel_rfl) ?_ | refine TwoP.mk ?_ ?_ | refine J_drawS (id := 17) Tryz.tyOK (by kernel_rfl) [0, 0, 0, 6, 14, 30, 0, 127, 255, 511, 511, 1023, 4095] [0, 1, 2, 3, 4, 5, 6, 7, 8, 9, 10, 11, 12] [7, 11] [9, 66] true (by kernel_rfl) ?_ | refine EntP.mk Ents.a ?_ | refine IdxE.mk 0 10 _ (hrl _ _) (by omega) (by omega) ?_ | refine LoadE.mk 0 _ _ c.cells (hrl _ _) (by omega) (by omega) (by first | omega | decide) (by exact hg) ?_ | refine IdxE.mk 0 10 _ (hrl2 _ _ _) (by omega) (by omega) ?_ | refine LoadE.mk 0 _ _ c.cells (hrl2 _ _ _) (by omega) (by omega) (by first | omega | decide) (by exact hg) ?_ | refine CallP.is c26 ?_ (fun _ h => ⟨h.2.1.his c hmem, trivial⟩) | (refine CallP.mk [] _ [_, _] _ ck (List.Perm.refl _) (fun _ h => ⟨h.1, h.2.1.his c hmem, trivial⟩) (fun v L' D' hq => ?_); obtain ⟨s1, rfl, rfl, rfl, hp1⟩ := hq) | refine CallP.is cf ?_ | (refine CallP.mk [] _ [_] _ (cn s1 hp1) (List.Perm.refl _) (fun _ h => ⟨h.1, trivial⟩) (fun v L' D' hq => ?_); obtain ⟨s2, rfl, rfl, rfl, hp2⟩ := hq) | refine IdxE.mk 0 10 _ (hrl2 _ _ _) (by omega) (by omega) ?_ | refine FldE.mk 0 10 _ _ (hrl2 _ _ _) (by omega) ?_ | refine LoadE.mk 0 _ _ [.s c.user] (hrl2 _ _ _) (by omega) (by omega) (by first | omega | decide) (by exact hgu) ?_ | refine Round.mk (i + 1, s2) (by dsimp only; omega) ⟨by dsimp only; omega, hvk2 s2 hp2, hre s2 hp2⟩ SubE.a (Ents.ofSub (by repeat (first | exact List.Sublist.slnil | refine List.Sublist.cons_cons _ ?_ | refine List.Sublist.cons _ ?_)) (fun _ h => ⟨h.1, h.2.2.2.1, trivial⟩)) | fail
              · have hs2 : X.stepT s'.pl c.pl sq = (ST.nil, (notedT (kindT s'.pl c.pl sq).1 c.user sq).2) := by unfold X.stepT; rw [if_neg (by omega), if_neg (by omega), if_neg (by rw [q3]; decide), if_pos (show (notedT (kindT s'.pl c.pl sq).1 c.pl.user sq).2 ≠ 0 from q4)]; rfl
                have hR : R = (ST.nil, (notedT (kindT s'.pl c.pl sq).1 c.user sq).2) := by rw [he, hs2, if_pos (show (ST.nil, (notedT (kindT s'.pl c.pl sq).1 c.user sq).2).2 ≠ 0 from q4)]; exact if_pos q4
                subst hR
                clear hst hkk he hs2 hk1
                generalize kindT s'.pl c.pl sq = K at *
                obtain ⟨K1, K2⟩ := K
                dsimp only at q2 q4 cn ⊢
                subst q2
                have cn := fun s1 (h : STM.pl s1 = K1) => by
                  have := cn s1 h
                  rw [h] at this
                  exact this
                generalize notedT K1 c.user sq = M at *
                obtain ⟨M1, M2⟩ := M
                dsimp only at q4 ⊢
                repeat' first | refine FinE.mk [] [stF _] ⟨STM.nil, rfl, rfl, rfl, rfl⟩ (Ents.dropAll.trans (Ents.facts fun _ _ => ⟨StP.nil, trivial⟩)) | refine J_seq ?_ | refine J_region Tryz.tyOK ?_ | refine J_block ?_ | refine J_cond ?_ | refine J_ret ?_ | refine J_skip ?_ | refine J_exit ?_ | refine J_scope ?_ | refine CondP.y ?_ | refine CondP.n ?_ | refine CondP.mk (fun h => ?_) (fun h => ?_) | refine EqP.mk rfl ?_ | refine NewP.mk (fun ad => ?_) | refine ArP.x ?_ | refine SideP.a ?_ | refine J_drawT (id := 12) Tryz.tyOK (by kernel_rfl) [0, 0, 0, 6, 14, 0, 63, 127, 255, 255, 0, 1535, 4095] [0, 1, 2, 3, 4, 5] 6 [7, 8, 9, 10, 11, 12] 10 [6, 7, 8, 9, 11, 12] [6, 10, 11] [2, 46] 13 true (by kernel_rfl) ?_ | refine TwoP.mk ?_ ?_ | refine J_drawS (id := 17) Tryz.tyOK (by kernel_rfl) [0, 0, 0, 6, 14, 30, 0, 127, 255, 511, 511, 1023, 4095] [0, 1, 2, 3, 4, 5, 6, 7, 8, 9, 10, 11, 12] [7, 11] [9, 66] true (by kernel_rfl) ?_ | refine EntP.mk Ents.a ?_ | refine IdxE.mk 0 10 _ (hrl _ _) (by omega) (by omega) ?_ | refine LoadE.mk 0 _ _ c.cells (hrl _ _) (by omega) (by omega) (by first | omega | decide) (by exact hg) ?_ | refine IdxE.mk 0 10 _ (hrl2 _ _ _) (by omega) (by omega) ?_ | refine LoadE.mk 0 _ _ c.cells (hrl2 _ _ _) (by omega) (by omega) (by first | omega | decide) (by exact hg) ?_ | refine CallP.is c26 ?_ (fun _ h => ⟨h.2.1.his c hmem, trivial⟩) | (refine CallP.mk [] _ [_, _] _ ck (List.Perm.refl _) (fun _ h => ⟨h.1, h.2.1.his c hmem, trivial⟩) (fun v L' D' hq => ?_); obtain ⟨s1, rfl, rfl, rfl, hp1⟩ := hq) | refine CallP.is cf ?_ | (refine CallP.mk [] _ [_] _ (cn s1 hp1) (List.Perm.refl _) (fun _ h => ⟨h.1, trivial⟩) (fun v L' D' hq => ?_); obtain ⟨s2, rfl, rfl, rfl, hp2⟩ := hq) | refine IdxE.mk 0 10 _ (hrl2 _ _ _) (by omega) (by omega) ?_ | refine FldE.mk 0 10 _ _ (hrl2 _ _ _) (by omega) ?_ | refine LoadE.mk 0 _ _ [.s c.user] (hrl2 _ _ _) (by omega) (by omega) (by first | omega | decide) (by exact hgu) ?_ | fail
          · have hs2 : X.stepT s'.pl c.pl sq = (ST.nil, (kindT s'.pl c.pl sq).2) := by unfold X.stepT; rw [if_neg (by omega), if_pos q2]
            have hR : R = (ST.nil, (kindT s'.pl c.pl sq).2) := by rw [he, hs2, if_pos (show (ST.nil, (kindT s'.pl c.pl sq).2).2 ≠ 0 from q2)]; exact if_pos q2
            subst hR
            clear hst hkk he hs2 cf
            generalize kindT s'.pl c.pl sq = K at *
            obtain ⟨K1, K2⟩ := K
            dsimp only at q2 ⊢
            repeat' first | refine FinE.mk [] [stF _] ⟨STM.nil, rfl, rfl, rfl, rfl⟩ (Ents.dropAll.trans (Ents.facts fun _ _ => ⟨StP.nil, trivial⟩)) | refine J_seq ?_ | refine J_region Tryz.tyOK ?_ | refine J_block ?_ | refine J_cond ?_ | refine J_ret ?_ | refine J_skip ?_ | refine J_exit ?_ | refine J_scope ?_ | refine CondP.y ?_ | refine CondP.n ?_ | refine CondP.mk (fun h => ?_) (fun h => ?_) | refine EqP.mk rfl ?_ | refine NewP.mk (fun ad => ?_) | refine ArP.x ?_ | refine SideP.a ?_ | refine J_drawT (id := 12) Tryz.tyOK (by kernel_rfl) [0, 0, 0, 6, 14, 0, 63, 127, 255, 255, 0, 1535, 4095] [0, 1, 2, 3, 4, 5] 6 [7, 8, 9, 10, 11, 12] 10 [6, 7, 8, 9, 11, 12] [6, 10, 11] [2, 46] 13 true (by kernel_rfl) ?_ | refine TwoP.mk ?_ ?_ | refine J_drawS (id := 17) Tryz.tyOK (by kernel_rfl) [0, 0, 0, 6, 14, 30, 0, 127, 255, 511, 511, 1023, 4095] [0, 1, 2, 3, 4, 5, 6, 7, 8, 9, 10, 11, 12] [7, 11] [9, 66] true (by kernel_rfl) ?_ | refine EntP.mk Ents.a ?_ | refine IdxE.mk 0 10 _ (hrl _ _) (by omega) (by omega) ?_ | refine LoadE.mk 0 _ _ c.cells (hrl _ _) (by omega) (by omega) (by first | omega | decide) (by exact hg) ?_ | refine IdxE.mk 0 10 _ (hrl2 _ _ _) (by omega) (by omega) ?_ | refine LoadE.mk 0 _ _ c.cells (hrl2 _ _ _) (by omega) (by omega) (by first | omega | decide) (by exact hg) ?_ | refine CallP.is c26 ?_ (fun _ h => ⟨h.2.1.his c hmem, trivial⟩) | (refine CallP.mk [] _ [_, _] _ ck (List.Perm.refl _) (fun _ h => ⟨h.1, h.2.1.his c hmem, trivial⟩) (fun v L' D' hq => ?_); obtain ⟨s1, rfl, rfl, rfl, hp1⟩ := hq) | fail
        · have hs2 : X.stepT s'.pl c.pl sq = (ST.nil, chValidT c.pl) := by unfold X.stepT; rw [if_pos q1]
          have hR : R = (ST.nil, chValidT c.pl) := by rw [he, hs2, if_pos (show (ST.nil, chValidT c.pl).2 ≠ 0 from q1)]; exact if_pos q1
          subst hR
          clear he hs2
          generalize chValidT c.pl = e at *
          repeat' first | refine FinE.mk [] [stF _] ⟨STM.nil, rfl, rfl, rfl, rfl⟩ (Ents.dropAll.trans (Ents.facts fun _ _ => ⟨StP.nil, trivial⟩)) | refine J_seq ?_ | refine J_region Tryz.tyOK ?_ | refine J_block ?_ | refine J_cond ?_ | refine J_ret ?_ | refine J_skip ?_ | refine J_exit ?_ | refine J_scope ?_ | refine CondP.y ?_ | refine CondP.n ?_ | refine CondP.mk (fun h => ?_) (fun h => ?_) | refine EqP.mk rfl ?_ | refine NewP.mk (fun ad => ?_) | refine ArP.x ?_ | refine SideP.a ?_ | refine IdxE.mk 0 10 _ (hrl _ _) (by omega) (by omega) ?_ | refine LoadE.mk 0 _ _ c.cells (hrl _ _) (by omega) (by omega) (by first | omega | decide) (by exact hg) ?_ | refine CallP.is c26 ?_ (fun _ h => ⟨h.2.1.his c hmem, trivial⟩) | fail
      · have hil : i = l.length := by omega
        subst hil
        have hdn : (l.map CHM.pl).drop l.length = [] := List.drop_eq_nil_of_le (by simp)
        rw [hdn] at he
        have hbig : 1073741824 < sq → R = (ST.nil, 8) := fun h => by rw [he]; exact (if_neg (show ¬ (0 : Int) ≠ 0 by decide)).trans (if_pos h)
        have hnew : ¬ 1073741824 < sq → R = ({ s'.pl with seq := sq }, 0) := fun h => by rw [he]; exact (if_neg (show ¬ (0 : Int) ≠ 0 by decide)).trans (if_neg h)
        repeat' first | refine J_seq ?_ | refine J_region Tryz.tyOK ?_ | refine J_block ?_ | refine J_cond ?_ | refine J_ret ?_ | refine J_skip ?_ | refine J_exit ?_ | refine J_scope ?_ | refine CondP.y ?_ | refine CondP.n ?_ | refine CondP.mk (fun h => ?_) (fun h => ?_) | refine EqP.mk rfl ?_ | refine NewP.mk (fun ad => ?_) | refine ArP.x ?_ | refine SideP.a ?_ | (rw [hbig (by omega)]; refine FinE.mk [] [stF _] ⟨STM.nil, rfl, rfl, rfl, rfl⟩ (Ents.dropAll.trans (Ents.facts fun _ _ => ⟨StP.nil, trivial⟩))) | (rw [hnew (by omega)]; refine FinE.mk [] [stF _] ⟨⟨sq, s'.clk, s'.pa, s'.pc, s'.pages, s'.ga, s'.gc, s'.gone, s'.qa, s'.qc, s'.props, s'.proposed, s'.wa, s'.wc, s'.watches, s'.la, s'.lc, s'.lasts⟩, rfl, rfl, rfl, rfl⟩ (Ents.dropAll.trans (Ents.facts fun _ h => ⟨h.1.clk, trivial⟩))) | fail
end Go.Proofs
