/- This text walks through the function SearchRows of the statements of chapter 35. -/
import Derived.Test.YthknndkjnglegaaGreatH25
import Derived.Test.YthknndkjnglegaaGreatH08
import Derived.Test.YthknndkjnglegaaGreatH09
set_option linter.all false

namespace Go.X
open Go
theorem small_pgs {s : STM} (h : s.pages.length ≤ 10 ∧ ∀ p ∈ s.pages, smallP p) : PgS s := by
  refine ⟨by have := h.1; omega, fun p hp => by have := (h.2 p hp).1; unfold big; omega, fun p hp => ?_⟩
  obtain ⟨h1, h2, h3⟩ := h.2 p hp
  have : (curM p.hist).text.length ≤ 300 := by
    by_cases h0 : p.hist.length = 0
    · rw [List.eq_nil_of_length_eq_zero h0]; exact Nat.zero_le _
    · obtain ⟨k, hk⟩ : ∃ k, p.hist.length = k + 1 := ⟨p.hist.length - 1, by omega⟩
      rw [curM_at hk]
      exact h3 _ (List.getElem_mem _)
  omega
end Go.X
namespace Go.Proofs
open Go Go.X
set_option maxRecDepth 100000
set_option maxHeartbeats 4000000
theorem searchRows_ok (e1 : Nat) (la : Option Addr) (lc : Nat) (sp : Int) (nm tx : List UInt8) (y : STM) (l : List Int) (hl : l.length ≤ maxLen) (h1 : y.pages.length ≤ 9223372036854775807) (h2 : ∀ p ∈ y.pages, p.hist.length ≤ 9223372036854775807) (h3 : y.gone.length ≤ 9223372036854775807) (h4 : ∀ p ∈ y.gone, p.hist.length ≤ 9223372036854775807) :
    FnS Tryz.prog 5 [.agg [.i .i64 sp, .s nm], .c (.s tx), .agg y.cells, .c (.sl la l.length lc)] [] [stF y, intsF e1 la l] (Is tt) := by
  have csm := small_ok y h1 h2 h3 h4
  have cs := genState_ok e1 la lc l hl
  have cf := from_ok e1 la lc l hl
  have ct := fun ad => genText_ok e1 la lc ad l (gs0 l) (gs0_ok l) hl
  clear h1 h2 h3 h4
  refine fn_of_J Tryz.tyOK 0 Tryz.func5 (by kernel_rfl) (c := Tryz.f5.body.getD .skip) (by kernel_rfl) Tryz.ntmps5 (rs := Tryz.f5.results.toList) rfl (by simp) (fun G => ?_)
  repeat' first | refine J_stop (c := .seq (.region 3 _ _) _) ?_ | refine J_seq ?_ | refine J_region Tryz.tyOK ?_ | refine J_block ?_ | refine J_cond ?_ | refine J_ret ?_ | refine J_skip ?_ | refine J_exit ?_ | refine J_scope ?_ | refine CondP.y ?_ | refine CondP.n ?_ | refine CondP.mk (fun h => ?_) (fun h => ?_) | refine EqP.mk rfl ?_ | refine NewP.mk (fun ad => ?_) | refine ArP.x ?_ | refine SideP.a ?_ | (refine CallP.mk [] _ [stF y] _ csm (List.Perm.refl _) (fun _ h => by simp only [allD, allD_append, List.cons_append, List.nil_append, and_true] at h ⊢; simp only [h, and_self]) (fun v L' D' hq => ?_); obtain ⟨b1, rfl, hb1, rfl, rfl⟩ := hq; cases b1) | refine CallP.is awake_ok ?_ | refine FinE.is rfl | fail
  rename_i ad0 _hn
  have hys := small_pgs (hb1 rfl)
  refine ⟨?_⟩
  repeat' first | refine J_stop (c := .seq (.region 5 _ _) _) ?_ | refine J_seq ?_ | refine J_region Tryz.tyOK ?_ | refine J_block ?_ | refine J_cond ?_ | refine J_ret ?_ | refine J_skip ?_ | refine J_exit ?_ | refine J_scope ?_ | refine CondP.y ?_ | refine CondP.n ?_ | refine CondP.mk (fun h => ?_) (fun h => ?_) | refine EqP.mk rfl ?_ | refine NewP.mk (fun ad => ?_) | refine ArP.x ?_ | refine SideP.a ?_ | refine J_stop (c := .region 5 _ _) ?_ | (refine CallP.mk [] _ [intsF e1 la l] _ cs (List.Perm.refl _) (fun _ h => by simp only [allD, allD_append, List.cons_append, List.nil_append, and_true] at h ⊢; simp only [h, and_self]) (fun v L' D' hq => ?_); obtain ⟨s, rfl, hr15, rfl, rfl⟩ := hq) | (refine CallP.mk [] [_, _, _] [intsF e1 la l] _ cf (List.Perm.refl _) (fun _ h => by simp only [allD, allD_append, List.cons_append, List.nil_append, and_true] at h ⊢; simp only [h, and_self]) (fun v L' D' hq => ?_); obtain ⟨gd, rfl, rfl, rfl⟩ := hq) | (refine CallP.mk [_] [_, _, _] [intsF e1 la l] _ (ct _) (List.Perm.refl _) (fun _ h => by simp only [allD, allD_append, List.cons_append, List.nil_append, and_true] at h ⊢; simp only [h, and_self]) (fun v L' D' hq => ?_); obtain ⟨x, g', rfl, hxl, hg', rfl, rfl⟩ := hq) | fail
  rename_i ad1
  obtain ⟨hps, hsb⟩ := valid_pgs hr15.valid
  refine ⟨?_⟩
  refine J_ent (n' := 3) (env' := [(1, .c (.s tx)), (4, .c (.p 0 ad0 0)), (6, .c (.p 1 ad1 0)), (9, .c (.p 2 ad 0)), (10, .c (.s x))]) (L' := [.box 2 ad 42 s.cells, .box 1 ad1 42 y.cells, .box 0 ad0 50 [.i .i64 sp, .s nm]]) (D' := [stF s, stF y]) SubE.a (Ents.ofSub (by repeat (first | exact List.Sublist.slnil | refine List.Sublist.cons_cons _ ?_ | refine List.Sublist.cons _ ?_)) (fun _ h => by simp only [allD, allD_append, List.cons_append, List.nil_append, and_true] at h ⊢; simp only [h, and_self])) ?_
  have pA := FnS.rf (rows_ok sp nm tx (by omega))
  have rA := FnS.rf (refRows_ok sp nm tx (by omega))
  have pB := FnS.rf (rows_ok sp nm x (by omega))
  have rB := FnS.rf (refRows_ok sp nm x (by omega))
  have pC := FnS.rf (build_ok y hys)
  have rC := FnS.rf (refBuild_ok y hys)
  have pD := FnS.rf (build_ok s hps)
  have rD := FnS.rf (refBuild_ok s hps)
  have lA := rowsT_len sp nm tx
  have lB := rowsT_len sp nm x
  have lC := buildT_len y hys
  have lD := buildT_len s hps
  have sA := fun a b c d => sameRows_ok 60 60 a b c d (rowsT sp nm tx) (by omega)
  have sB := fun a b c d => sameRows_ok 60 60 a b c d (rowsT sp nm x) (by omega)
  have sC := fun a b c d => sameRows_ok 60 60 a b c d (buildT y.pl) (by omega)
  have sD := fun a b c d => sameRows_ok 60 60 a b c d (buildT s.pl) (by omega)
  clear csm cs cf ct lA lB lC lD hb1 hys hps hsb
  generalize rowsT sp nm tx = RA at *
  generalize rowsT sp nm x = RB at *
  generalize buildT y.pl = RC at *
  generalize buildT s.pl = RD at *
  repeat' first | refine J_seq ?_ | refine J_region Tryz.tyOK ?_ | refine J_block ?_ | refine J_cond ?_ | refine J_ret ?_ | refine J_skip ?_ | refine J_exit ?_ | refine J_scope ?_ | refine CondP.y ?_ | refine CondP.n ?_ | refine CondP.mk (fun h => ?_) (fun h => ?_) | refine EqP.mk rfl ?_ | refine NewP.mk (fun ad => ?_) | refine ArP.x ?_ | refine SideP.a ?_ | refine J_drawS (id := 5) Tryz.tyOK (by kernel_rfl) [0, 1, 3, 3, 15, 3, 3, 127, 255, 511, 1023, 2047, 2047, 8191, 2047, 2047, 65535, 131071, 262143, 524287, 1048575, 2097151, 1048575, 8388607, 16777215, 33554431, 67108863, 134217727, 268435455, 134217727, 1073741823, 2147483647, 4294967295, 8589934591] [0, 1, 2, 3, 5, 6, 4, 7, 8, 9, 10, 11, 12, 14, 15, 13, 16, 17, 18, 19, 20, 22, 21, 23, 24, 25, 26, 27, 29, 28, 30, 31, 32, 33] [0, 4, 7, 8, 13, 16, 17, 21, 23, 24, 28, 30, 31] [4, 6, 9] false (by kernel_rfl) ?_ | refine EntP.mk Ents.a ?_ | refine CallP.is awake_ok ?_ | (refine CallP.mk [] _ [] _ pA (List.Perm.refl _) (fun _ _ => trivial) (fun v L' D' hq => ?_); obtain ⟨fa, fc, rfl, rfl, rfl⟩ := hq) | (refine CallP.mk [] _ [] _ rA (List.Perm.refl _) (fun _ _ => trivial) (fun v L' D' hq => ?_); obtain ⟨fa, fc, rfl, rfl, rfl⟩ := hq) | (refine CallP.mk [] _ [] _ pB (List.Perm.refl _) (fun _ _ => trivial) (fun v L' D' hq => ?_); obtain ⟨fa, fc, rfl, rfl, rfl⟩ := hq) | (refine CallP.mk [] _ [] _ rB (List.Perm.refl _) (fun _ _ => trivial) (fun v L' D' hq => ?_); obtain ⟨fa, fc, rfl, rfl, rfl⟩ := hq) | (refine CallP.mk [] _ [stF y] _ pC (List.Perm.refl _) (fun _ h => by simp only [allD, allD_append, List.cons_append, List.nil_append, and_true] at h ⊢; simp only [h, and_self]) (fun v L' D' hq => ?_); obtain ⟨fa, fc, rfl, rfl, rfl⟩ := hq) | (refine CallP.mk [] _ [stF y] _ rC (List.Perm.refl _) (fun _ h => by simp only [allD, allD_append, List.cons_append, List.nil_append, and_true] at h ⊢; simp only [h, and_self]) (fun v L' D' hq => ?_); obtain ⟨fa, fc, rfl, rfl, rfl⟩ := hq) | (refine CallP.mk [] _ [stF s] _ pD (List.Perm.refl _) (fun _ h => by simp only [allD, allD_append, List.cons_append, List.nil_append, and_true] at h ⊢; simp only [h, and_self]) (fun v L' D' hq => ?_); obtain ⟨fa, fc, rfl, rfl, rfl⟩ := hq) | (refine CallP.mk [] _ [stF s] _ rD (List.Perm.refl _) (fun _ h => by simp only [allD, allD_append, List.cons_append, List.nil_append, and_true] at h ⊢; simp only [h, and_self]) (fun v L' D' hq => ?_); obtain ⟨fa, fc, rfl, rfl, rfl⟩ := hq) | refine CallP.is (sA _ _ _ _) ?_ (fun _ h => by simp only [allD, allD_append, List.cons_append, List.nil_append, and_true] at h ⊢; simp only [h, and_self]) | refine CallP.is (sB _ _ _ _) ?_ (fun _ h => by simp only [allD, allD_append, List.cons_append, List.nil_append, and_true] at h ⊢; simp only [h, and_self]) | refine CallP.is (sC _ _ _ _) ?_ (fun _ h => by simp only [allD, allD_append, List.cons_append, List.nil_append, and_true] at h ⊢; simp only [h, and_self]) | refine CallP.is (sD _ _ _ _) ?_ (fun _ h => by simp only [allD, allD_append, List.cons_append, List.nil_append, and_true] at h ⊢; simp only [h, and_self]) | refine FinE.is rfl | fail
end Go.Proofs

/- This text walks through the functions contains and SearchComplete of the statements of chapter 35. -/
namespace Go.X
open Go Go.Lib Go.Proofs
/-- The text of a page of a state. -/
def textT (s : STM) (t : TT) : List UInt8 := ((s.pages.find? (atM t.1 t.2)).map fun p => (curM p.hist).text).getD []
end Go.X
namespace Go.Proofs
open Go Go.X
set_option maxRecDepth 100000
set_option maxHeartbeats 4000000
end Go.Proofs

/- This text walks through the function Touched of the reference of chapter 27. -/
namespace Go.X
open Go Go.Lib Go.Proofs
def titM (p : PGM) : TT := (p.sp, p.nm)
def hasT (s : STM) (t : TT) : Bool := (s.pages.find? (atM t.1 t.2)).isSome
theorem textV_eq (s : STM) (t : TT) : textV (s.pages.find? (atM t.1 t.2)) = .t2 (.c (.s (textT s t))) (.c (.b (hasT s t))) := by
  unfold textT hasT
  cases s.pages.find? (atM t.1 t.2) <;> rfl
/-- Whether a title's text differs in two states. -/
def diffT (a b : STM) (t : TT) : Bool := !(decide (hasT a t = hasT b t) && decide (textT a t = textT b t))
def touchedT (a b : STM) : List TT := (((a.pages ++ b.pages).map titM).filter (diffT a b)).foldl (addG cmpTT) []
theorem pgm_tit {l : List PGM} {i : Nat} (h : i < l.length) : ((pgmC l).drop (i * 3 + 0)).take 2 = [.i .i64 (titM l[i]).1, .s (titM l[i]).2] := pgm_get2 h
end Go.X
namespace Go.Proofs
open Go Go.X
set_option maxRecDepth 100000
set_option maxHeartbeats 4000000
theorem touched27_ok (a b : STM) (ha : StB a) (hb : StB b) (na : a.pages.length ≤ 1000) (nb : b.pages.length ≤ 1000) : FnS Tryz.prog 33 [.agg a.cells, .agg b.cells] [] [stF a, stF b]
    (fun v L D => ∃ c d, v = .c (.sl c (touchedT a b).length d) ∧ L = [.row 50 2 c (touchedT a b).length d (ttC (touchedT a b))] ∧ D = []) := by
  have hF : touchedT a b = (((a.pages ++ b.pages).map titM).filter (diffT a b)).foldl (addG cmpTT) [] := rfl
  generalize touchedT a b = F at *
  have hln : (a.pages ++ b.pages).length = a.pages.length + b.pages.length := List.length_append
  have hrow : pgmC (a.pages ++ b.pages) = pgmC a.pages ++ pgmC b.pages := by simp [pgmC]
  refine fn_of_J Tryz.tyOK 0 Tryz.func33 (by kernel_rfl) (c := Tryz.f33.body.getD .skip) (by kernel_rfl) Tryz.ntmps33 (rs := Tryz.f33.results.toList) rfl (by simp) (fun G => ?_)
  repeat' first | refine J_stop (c := .seq (.region 3 _ _) _) ?_ | refine J_seq ?_ | refine J_region Tryz.tyOK ?_ | refine J_block ?_ | refine J_cond ?_ | refine J_ret ?_ | refine J_skip ?_ | refine J_exit ?_ | refine J_scope ?_ | refine CondP.y ?_ | refine CondP.n ?_ | refine CondP.mk (fun h => ?_) (fun h => ?_) | refine EqP.mk rfl ?_ | refine NewP.mk (fun ad => ?_) | refine ArP.x ?_ | refine SideP.a ?_ | refine J_drawS (id := 2) Tryz.tyOK (by kernel_rfl) [0, 1, 3, 0, 8, 31, 63] [0, 1, 3, 4, 2, 5, 6] [2, 5] [2, 3] false (by kernel_rfl) ?_ | refine J_drawS (id := 11) Tryz.tyOK (by kernel_rfl) [0, 0, 2, 7, 15, 31, 31, 127, 255, 31, 1023, 2047, 4095] [0, 1, 2, 3, 4, 5, 6, 7, 8, 9, 10, 11, 12] [] [8, 58] true (by kernel_rfl) ?_ | refine J_drawS (id := 13) Tryz.tyOK (by kernel_rfl) [0, 0, 2, 7, 15, 31, 31, 127, 255, 31, 1023, 2047] [0, 1, 2, 3, 4, 5, 6, 7, 8, 9, 10, 11] [] [8, 73] true (by kernel_rfl) ?_ | refine J_drawT (id := 14) Tryz.tyOK (by kernel_rfl) [0, 0, 3, 7, 0, 16, 63, 0, 0, 384, 1023, 2047] [0, 1, 2, 4, 7, 8, 9] 3 [5, 6, 10, 11] 5 [3, 6, 10, 11] [3, 5, 6, 10] [8] 12 false (by kernel_rfl) ?_ | refine TwoP.mk ?_ ?_ | refine EntP.mk Ents.a ?_ | refine AppE.nil (pgmC a.pages) a.pages.length rfl rfl rfl (SrcE.sl 0 95 _ _ _ _ _ rfl rfl (.inr fun m h => h.1.pages.row) (pgmC_len a.pages)) (by dsimp only; omega) (fun qa qc => ?_) | (refine AppE.row [] _ (pgmC a.pages) (pgmC b.pages) b.pages.length rfl (SrcE.sl 0 95 _ _ _ _ _ rfl rfl (.inr fun m h => h.2.1.pages.row) (pgmC_len b.pages)) (by dsimp only; omega) (fun pa pc => ?_); rw [← hln, ← hrow]) | fail
  rename_i ad0
  obtain ⟨ad1, had1⟩ : ∃ x, x = ad := ⟨_, rfl⟩
  subst had1
  refine ⟨?_⟩
  have hll : (a.pages ++ b.pages).length ≤ 2000 := by omega
  generalize a.pages ++ b.pages = P at *
  have hrd : ∀ L, Reads L [slFact 95 3 pa P.length (pgmC P), stF a, stF b] 95 3 pa P.length (pgmC P) := fun L => .inr fun m h => h.1
  clear hln hrow
  repeat' first | refine J_seq ?_ | refine J_region Tryz.tyOK ?_ | refine J_block ?_ | refine J_cond ?_ | refine J_ret ?_ | refine J_skip ?_ | refine J_exit ?_ | refine J_scope ?_ | refine CondP.y ?_ | refine CondP.n ?_ | refine CondP.mk (fun h => ?_) (fun h => ?_) | refine EqP.mk rfl ?_ | refine NewP.mk (fun ad => ?_) | refine ArP.x ?_ | refine SideP.a ?_ | fail
  refine J_loop (α := Nat × List TT × Option Addr × Nat) (fun x => [(2, .c (.p 0 ad0 0)), (3, .c (.p 1 ad1 0)), (5, .c (.sl x.2.2.1 x.2.1.length x.2.2.2)), (6, .c (.sl pa P.length pc)), (7, .c (.i .i64 x.1))]) (fun x => [.row 50 2 x.2.2.1 x.2.1.length x.2.2.2 (ttC x.2.1), .box 1 ad1 42 b.cells, .box 0 ad0 42 a.cells]) (fun _ => [slFact 95 3 pa P.length (pgmC P), stF a, stF b]) 2
    (fun x => x.1 ≤ P.length ∧ x.2.1.length ≤ x.1 ∧ F = (((P.drop x.1).map titM).filter (diffT a b)).foldl (addG cmpTT) x.2.1) (fun x => P.length - x.1) (InFam.mk (0, [], none, 0) ⟨Nat.zero_le _, Nat.le_refl _, hF⟩ SubE.a (Ents.toFact.trans (Ents.nilRow (ety := 50) (esz := 2)))) (fun x hx => ?_)
  clear hF
  obtain ⟨i, out, b1, d1⟩ := x
  dsimp only at hx ⊢
  obtain ⟨hi, hol, he⟩ := hx
  by_cases hlt : i < P.length
  · have hg := pgm_tit hlt
    rw [List.drop_eq_getElem_cons hlt, List.map_cons, List.filter_cons] at he
    generalize titM P[i] = t at *
    have cxa := text27_ok a t.1 t.2 ha
    have cxb := text27_ok b t.1 t.2 hb
    rw [textV_eq] at cxa cxb
    have hds : hasT a t = hasT b t → textT a t = textT b t → diffT a b t = false := fun h1 h2 => by unfold diffT; rw [decide_eq_true h1, decide_eq_true h2]; rfl
    have hd1 : ¬ hasT a t = hasT b t → diffT a b t = true := fun h1 => by unfold diffT; rw [decide_eq_false h1]; rfl
    have hd2 : ¬ textT a t = textT b t → diffT a b t = true := fun h1 => by unfold diffT; rw [decide_eq_false h1]; simp
    generalize hasT a t = xa at *
    generalize hasT b t = xb at *
    generalize textT a t = ya at *
    generalize textT b t = yb at *
    have hskip : diffT a b t = false → F = (((P.drop (i + 1)).map titM).filter (diffT a b)).foldl (addG cmpTT) out := fun h => by rw [he, h]; rfl
    have hadd : diffT a b t = true → F = (((P.drop (i + 1)).map titM).filter (diffT a b)).foldl (addG cmpTT) (addG cmpTT out t) := fun h => by rw [he, h]; rfl
    clear he
    repeat' first | refine J_stop (c := .seq (.region 10 _ _) _) ?_ | refine J_seq ?_ | refine J_region Tryz.tyOK ?_ | refine J_block ?_ | refine J_cond ?_ | refine J_ret ?_ | refine J_skip ?_ | refine J_exit ?_ | refine J_scope ?_ | refine CondP.y ?_ | refine CondP.n ?_ | refine CondP.mk (fun h => ?_) (fun h => ?_) | refine EqP.mk rfl ?_ | refine NewP.mk (fun ad => ?_) | refine ArP.x ?_ | refine SideP.a ?_ | refine IdxE.mk 95 3 _ (hrd _) (by omega) (by omega) ?_ | refine FldE.mk 95 3 _ _ (hrd _) (by omega) ?_ | refine LoadE.mk 95 _ _ [.i .i64 t.1, .s t.2] (hrd _) (by omega) (by omega) (by first | omega | decide) (by exact hg) ?_ | refine CallP.is cxa ?_ (fun _ h => by simp only [allD, allD_append, List.cons_append, List.nil_append, and_true] at h ⊢; simp only [h, and_self]) | refine CallP.is cxb ?_ (fun _ h => by simp only [allD, allD_append, List.cons_append, List.nil_append, and_true] at h ⊢; simp only [h, and_self]) | refine Round.mk (i + 1, out, b1, d1) (by dsimp only; omega) ⟨by dsimp only; omega, by dsimp only; omega, hskip (hds (by assumption) (by assumption))⟩ SubE.a Ents.a | fail
    all_goals
      have hF := hadd (by first | exact hd1 (by assumption) | exact hd2 (by assumption))
      clear hadd hskip hds hd1 hd2 cxa cxb
      have hal := addG_len (cf := cmpTT) out t
      generalize hW : addG cmpTT out t = W at *
      refine ⟨?_⟩
      refine J_ent (n' := 3) (env' := [(2, .c (.p 0 ad0 0)), (3, .c (.p 1 ad1 0)), (5, .c (.sl b1 out.length d1)), (6, .c (.sl pa P.length pc)), (7, .c (.i .i64 i)), (8, .c (.p 2 ad 0))]) (L' := [.box 2 ad 50 [.i .i64 t.1, .s t.2], .row 50 2 b1 out.length d1 (ttC out), .box 1 ad1 42 b.cells, .box 0 ad0 42 a.cells]) (D' := [slFact 95 3 pa P.length (pgmC P), stF a, stF b]) SubE.a (Ents.ofSub (by repeat (first | exact List.Sublist.slnil | refine List.Sublist.cons_cons _ ?_ | refine List.Sublist.cons _ ?_)) (fun _ h => by simp only [allD, allD_append, List.cons_append, List.nil_append, and_true] at h ⊢; simp only [h, and_self])) ?_
      refine J_cap (List.Mem.tail _ (List.Mem.head _)) (fun hnc _ _ => ?_)
      repeat' first | refine J_cut (x := .block 2 _) (α := Nat) (fun j => [(2, .c (.p 0 ad0 0)), (3, .c (.p 1 ad1 0)), (5, .c (.sl b1 out.length d1)), (6, .c (.sl pa P.length pc)), (7, .c (.i .i64 i)), (8, .c (.p 2 ad 0)), (13, .c (.i .i64 j))]) (fun _ => [.box 2 ad 50 [.i .i64 t.1, .s t.2], .row 50 2 b1 out.length d1 (ttC out), .box 1 ad1 42 b.cells, .box 0 ad0 42 a.cells]) (fun _ => [slFact 95 3 pa P.length (pgmC P), stF a, stF b]) 3 (fun j => j ≤ out.length ∧ W = out.take j ++ addG cmpTT (out.drop j) t ∧ ∀ h : j < out.length, ¬ cmpTT out[j] t < 0) ?_ (fun j hx => J_stop ?_) | refine J_seq ?_ | refine J_region Tryz.tyOK ?_ | refine J_block ?_ | refine J_cond ?_ | refine J_ret ?_ | refine J_skip ?_ | refine J_exit ?_ | refine J_scope ?_ | refine CondP.y ?_ | refine CondP.n ?_ | refine CondP.mk (fun h => ?_) (fun h => ?_) | refine EqP.mk rfl ?_ | refine NewP.mk (fun ad => ?_) | refine ArP.x ?_ | refine SideP.a ?_ | refine J_stop (c := .loop _) ?_ | fail
      · refine ⟨?_⟩
        refine J_loop (α := Nat) (fun j => [(2, .c (.p 0 ad0 0)), (3, .c (.p 1 ad1 0)), (5, .c (.sl b1 out.length d1)), (6, .c (.sl pa P.length pc)), (7, .c (.i .i64 i)), (8, .c (.p 2 ad 0)), (13, .c (.i .i64 j))]) (fun _ => [.box 2 ad 50 [.i .i64 t.1, .s t.2], .row 50 2 b1 out.length d1 (ttC out), .box 1 ad1 42 b.cells, .box 0 ad0 42 a.cells]) (fun _ => [slFact 95 3 pa P.length (pgmC P), stF a, stF b]) 3
          (fun j => j ≤ out.length ∧ W = out.take j ++ addG cmpTT (out.drop j) t) (fun j => out.length - j) (InFam.mk 0 ⟨Nat.zero_le _, hW.symm⟩ SubE.a (Ents.refl _ _)) (fun j hx => ?_)
        obtain ⟨hj, hHj⟩ := hx
        clear hW hF
        by_cases hjl : j < out.length
        · have hgj := ttl_get hjl
          have hat := addG_at (cf := cmpTT) (r := t) hjl
          have htk := List.take_succ_eq_append_getElem hjl
          have cc : FnS Tryz.prog 65 [.agg [.i .i64 out[j].1, .s out[j].2], .agg [.i .i64 t.1, .s t.2]] [] [] (Is (.c (.i .i64 (cmpTT out[j] t)))) := refCompareT_ok out[j].1 out[j].2 t.1 t.2
          have hstop : ¬ cmpTT out[j] t < 0 → ∀ h : j < out.length, ¬ cmpTT out[j] t < 0 := fun h _ => h
          generalize out[j] = y at *
          have hstep : cmpTT y t < 0 → W = out.take (j + 1) ++ addG cmpTT (out.drop (j + 1)) t := fun h => by rw [hHj, hat, if_pos h, htk, List.append_assoc]; rfl
          clear hat htk
          repeat' first | refine J_seq ?_ | refine J_region Tryz.tyOK ?_ | refine J_block ?_ | refine J_cond ?_ | refine J_ret ?_ | refine J_skip ?_ | refine J_exit ?_ | refine J_scope ?_ | refine CondP.y ?_ | refine CondP.n ?_ | refine CondP.mk (fun h => ?_) (fun h => ?_) | refine EqP.mk rfl ?_ | refine NewP.mk (fun ad => ?_) | refine ArP.x ?_ | refine SideP.a ?_ | refine J_drawS (id := 2) Tryz.tyOK (by kernel_rfl) [0, 1, 3, 0, 8, 31, 63] [0, 1, 3, 4, 2, 5, 6] [2, 5] [2, 3] false (by kernel_rfl) ?_ | refine J_drawS (id := 11) Tryz.tyOK (by kernel_rfl) [0, 0, 2, 7, 15, 31, 31, 127, 255, 31, 1023, 2047, 4095] [0, 1, 2, 3, 4, 5, 6, 7, 8, 9, 10, 11, 12] [] [8, 58] true (by kernel_rfl) ?_ | refine J_drawS (id := 13) Tryz.tyOK (by kernel_rfl) [0, 0, 2, 7, 15, 31, 31, 127, 255, 31, 1023, 2047] [0, 1, 2, 3, 4, 5, 6, 7, 8, 9, 10, 11] [] [8, 73] true (by kernel_rfl) ?_ | refine J_drawT (id := 14) Tryz.tyOK (by kernel_rfl) [0, 0, 3, 7, 0, 16, 63, 0, 0, 384, 1023, 2047] [0, 1, 2, 4, 7, 8, 9] 3 [5, 6, 10, 11] 5 [3, 6, 10, 11] [3, 5, 6, 10] [8] 12 false (by kernel_rfl) ?_ | refine TwoP.mk ?_ ?_ | refine EntP.mk Ents.a ?_ | refine IdxE.mk 50 2 _ (.inl ⟨d1, List.Mem.tail _ (List.Mem.head _)⟩) (by omega) (by omega) ?_ | refine LoadE.mk 50 _ _ [.i .i64 y.1, .s y.2] (.inl ⟨d1, List.Mem.tail _ (List.Mem.head _)⟩) (by omega) (by omega) (by first | omega | decide) (by exact hgj) ?_ | refine CallQ.mk [] _ cc (fun _ _ => trivial) ?_ | refine Round.mk (j + 1) (by omega) ⟨by omega, hstep (by assumption)⟩ SubE.a (Ents.refl _ _) | refine InFam.mk j ⟨hj, hHj, hstop (by assumption)⟩ SubE.a (Ents.refl _ _) | fail
        · repeat' first | refine J_seq ?_ | refine J_region Tryz.tyOK ?_ | refine J_block ?_ | refine J_cond ?_ | refine J_ret ?_ | refine J_skip ?_ | refine J_exit ?_ | refine J_scope ?_ | refine CondP.y ?_ | refine CondP.n ?_ | refine CondP.mk (fun h => ?_) (fun h => ?_) | refine EqP.mk rfl ?_ | refine NewP.mk (fun ad => ?_) | refine ArP.x ?_ | refine SideP.a ?_ | refine J_drawS (id := 2) Tryz.tyOK (by kernel_rfl) [0, 1, 3, 0, 8, 31, 63] [0, 1, 3, 4, 2, 5, 6] [2, 5] [2, 3] false (by kernel_rfl) ?_ | refine J_drawS (id := 11) Tryz.tyOK (by kernel_rfl) [0, 0, 2, 7, 15, 31, 31, 127, 255, 31, 1023, 2047, 4095] [0, 1, 2, 3, 4, 5, 6, 7, 8, 9, 10, 11, 12] [] [8, 58] true (by kernel_rfl) ?_ | refine J_drawS (id := 13) Tryz.tyOK (by kernel_rfl) [0, 0, 2, 7, 15, 31, 31, 127, 255, 31, 1023, 2047] [0, 1, 2, 3, 4, 5, 6, 7, 8, 9, 10, 11] [] [8, 73] true (by kernel_rfl) ?_ | refine J_drawT (id := 14) Tryz.tyOK (by kernel_rfl) [0, 0, 3, 7, 0, 16, 63, 0, 0, 384, 1023, 2047] [0, 1, 2, 4, 7, 8, 9] 3 [5, 6, 10, 11] 5 [3, 6, 10, 11] [3, 5, 6, 10] [8] 12 false (by kernel_rfl) ?_ | refine TwoP.mk ?_ ?_ | refine EntP.mk Ents.a ?_ | refine InFam.mk j ⟨hj, hHj, fun h => absurd h hjl⟩ SubE.a (Ents.refl _ _) | fail
      · refine ⟨?_⟩
        clear hW
        obtain ⟨hj, hHj, hns⟩ := hx
        by_cases hjl : j < out.length
        · have hgj := ttl_get hjl
          have hat := addG_at (cf := cmpTT) (r := t) hjl
          have hns := hns hjl
          rw [if_neg hns] at hat
          have hfull : out.take j ++ out.drop j = out := List.take_append_drop j out
          have hxe := tt_ext (x := out[j]) (y := t)
          have hxn := tt_ne (x := out[j]) (y := t)
          generalize out[j] = y at *
          have hsame : (y.1 = t.1 ∧ y.2 = t.2 ∧ True) → W = out := fun h => by rw [hHj, hat, if_pos (hxe h), hfull]
          have hnew : ¬ (y.1 = t.1 ∧ y.2 = t.2 ∧ True) → W = out.take j ++ t :: out.drop j := fun h => by rw [hHj, hat, if_neg (hxn h)]
          have h6l : ¬ (y.1 = t.1 ∧ y.2 = t.2 ∧ True) → W.length = j + 1 + (out.length - j) := fun h => by rw [hnew h]; simp; omega
          have h6c : ¬ (y.1 = t.1 ∧ y.2 = t.2 ∧ True) → ttC W = ttC (out.take j) ++ [.i .i64 t.1, .s t.2] ++ ttC (out.drop j) := fun h => by rw [hnew h]; simp [ttC]
          have hFo : (y.1 = t.1 ∧ y.2 = t.2 ∧ True) → F = (((P.drop (i + 1)).map titM).filter (diffT a b)).foldl (addG cmpTT) out := fun h => by rw [hF, hsame h]
          clear hat hfull hnew hHj hns hxe hxn hsame
          repeat' first | refine J_seq ?_ | refine J_region Tryz.tyOK ?_ | refine J_block ?_ | refine J_cond ?_ | refine J_ret ?_ | refine J_skip ?_ | refine J_exit ?_ | refine J_scope ?_ | refine CondP.y ?_ | refine CondP.n ?_ | refine CondP.mk (fun h => ?_) (fun h => ?_) | refine EqP.mk rfl ?_ | refine NewP.mk (fun ad => ?_) | refine ArP.x ?_ | refine SideP.a ?_ | refine J_drawS (id := 2) Tryz.tyOK (by kernel_rfl) [0, 1, 3, 0, 8, 31, 63] [0, 1, 3, 4, 2, 5, 6] [2, 5] [2, 3] false (by kernel_rfl) ?_ | refine J_drawS (id := 11) Tryz.tyOK (by kernel_rfl) [0, 0, 2, 7, 15, 31, 31, 127, 255, 31, 1023, 2047, 4095] [0, 1, 2, 3, 4, 5, 6, 7, 8, 9, 10, 11, 12] [] [8, 58] true (by kernel_rfl) ?_ | refine J_drawS (id := 13) Tryz.tyOK (by kernel_rfl) [0, 0, 2, 7, 15, 31, 31, 127, 255, 31, 1023, 2047] [0, 1, 2, 3, 4, 5, 6, 7, 8, 9, 10, 11] [] [8, 73] true (by kernel_rfl) ?_ | refine J_drawT (id := 14) Tryz.tyOK (by kernel_rfl) [0, 0, 3, 7, 0, 16, 63, 0, 0, 384, 1023, 2047] [0, 1, 2, 4, 7, 8, 9] 3 [5, 6, 10, 11] 5 [3, 6, 10, 11] [3, 5, 6, 10] [8] 12 false (by kernel_rfl) ?_ | refine TwoP.mk ?_ ?_ | refine EntP.mk Ents.a ?_ | refine IdxE.mk 50 2 _ (.inl ⟨d1, List.Mem.tail _ (List.Mem.head _)⟩) (by omega) (by omega) ?_ | refine LoadE.mk 50 _ _ [.i .i64 y.1, .s y.2] (.inl ⟨d1, List.Mem.tail _ (List.Mem.head _)⟩) (by omega) (by omega) (by first | omega | decide) (by exact hgj) ?_ | refine AppE.nil (ttC (out.take j)) j rfl rfl rfl (SrcE.sl 50 50 _ _ _ _ _ rfl rfl (ttpre (m := out) (by first | exact List.Mem.head _ | exact List.Mem.tail _ (List.Mem.head _) | exact List.Mem.tail _ (List.Mem.tail _ (List.Mem.head _)) | exact List.Mem.tail _ (List.Mem.tail _ (List.Mem.tail _ (List.Mem.head _))) | exact List.Mem.tail _ (List.Mem.tail _ (List.Mem.tail _ (List.Mem.tail _ (List.Mem.head _))))) rfl hj) (by rw [ttC_len, List.length_take, Nat.min_eq_left hj]; rfl)) (by dsimp only; omega) (fun a' c' => ?_) | refine AppE.row [_] _ (ttC (out.take j)) [.i .i64 t.1, .s t.2] 1 rfl (SrcE.sl 50 50 _ _ 1 1 _ rfl rfl (.inl ⟨1, List.Mem.head _⟩) rfl) (by dsimp only; omega) (fun a' c' => ?_) | refine AppE.row [] _ (ttC (out.take j)) [.i .i64 t.1, .s t.2] 1 rfl (SrcE.sl 50 50 _ _ 1 1 _ rfl rfl (.inl ⟨1, List.Mem.tail _ (List.Mem.head _)⟩) rfl) (by dsimp only; omega) (fun a' c' => ?_) | (refine AppE.row [_] _ (ttC (out.take j) ++ [.i .i64 t.1, .s t.2]) (ttC (out.drop j)) (out.length - j) rfl (SrcE.sl 50 50 _ _ _ _ _ rfl rfl (ttsuf (m := out) (by first | exact List.Mem.head _ | exact List.Mem.tail _ (List.Mem.head _) | exact List.Mem.tail _ (List.Mem.tail _ (List.Mem.head _)) | exact List.Mem.tail _ (List.Mem.tail _ (List.Mem.tail _ (List.Mem.head _))) | exact List.Mem.tail _ (List.Mem.tail _ (List.Mem.tail _ (List.Mem.tail _ (List.Mem.head _))))) rfl hj hnc) (by rw [ttC_len, List.length_drop]; rfl)) (by dsimp only; omega) (fun a' c' => ?_); rw [← h6l (by assumption), ← h6c (by assumption)]) | (refine AppE.row [] _ (ttC (out.take j) ++ [.i .i64 t.1, .s t.2]) (ttC (out.drop j)) (out.length - j) rfl (SrcE.sl 50 50 _ _ _ _ _ rfl rfl (ttsuf (m := out) (by first | exact List.Mem.head _ | exact List.Mem.tail _ (List.Mem.head _) | exact List.Mem.tail _ (List.Mem.tail _ (List.Mem.head _)) | exact List.Mem.tail _ (List.Mem.tail _ (List.Mem.tail _ (List.Mem.head _))) | exact List.Mem.tail _ (List.Mem.tail _ (List.Mem.tail _ (List.Mem.tail _ (List.Mem.head _))))) rfl hj hnc) (by rw [ttC_len, List.length_drop]; rfl)) (by dsimp only; omega) (fun a' c' => ?_); rw [← h6l (by assumption), ← h6c (by assumption)]) | refine Round.mk (i + 1, W, a', c') (by dsimp only; omega) ⟨by dsimp only; omega, by dsimp only; omega, hF⟩ SubE.a Ents.a | refine Round.mk (i + 1, out, b1, d1) (by dsimp only; omega) ⟨by dsimp only; omega, by dsimp only; omega, hFo (by assumption)⟩ SubE.a Ents.a | fail
        · have hdn : out.drop j = [] := List.drop_eq_nil_of_le (by omega)
          have hnew : W = out.take j ++ t :: out.drop j := by rw [hHj, hdn]; rfl
          have h6l : W.length = j + 1 + (out.length - j) := by rw [hnew]; simp; omega
          have h6c : ttC W = ttC (out.take j) ++ [.i .i64 t.1, .s t.2] ++ ttC (out.drop j) := by rw [hnew]; simp [ttC]
          clear hHj hnew hns
          repeat' first | refine J_seq ?_ | refine J_region Tryz.tyOK ?_ | refine J_block ?_ | refine J_cond ?_ | refine J_ret ?_ | refine J_skip ?_ | refine J_exit ?_ | refine J_scope ?_ | refine CondP.y ?_ | refine CondP.n ?_ | refine CondP.mk (fun h => ?_) (fun h => ?_) | refine EqP.mk rfl ?_ | refine NewP.mk (fun ad => ?_) | refine ArP.x ?_ | refine SideP.a ?_ | refine J_drawS (id := 2) Tryz.tyOK (by kernel_rfl) [0, 1, 3, 0, 8, 31, 63] [0, 1, 3, 4, 2, 5, 6] [2, 5] [2, 3] false (by kernel_rfl) ?_ | refine J_drawS (id := 11) Tryz.tyOK (by kernel_rfl) [0, 0, 2, 7, 15, 31, 31, 127, 255, 31, 1023, 2047, 4095] [0, 1, 2, 3, 4, 5, 6, 7, 8, 9, 10, 11, 12] [] [8, 58] true (by kernel_rfl) ?_ | refine J_drawS (id := 13) Tryz.tyOK (by kernel_rfl) [0, 0, 2, 7, 15, 31, 31, 127, 255, 31, 1023, 2047] [0, 1, 2, 3, 4, 5, 6, 7, 8, 9, 10, 11] [] [8, 73] true (by kernel_rfl) ?_ | refine J_drawT (id := 14) Tryz.tyOK (by kernel_rfl) [0, 0, 3, 7, 0, 16, 63, 0, 0, 384, 1023, 2047] [0, 1, 2, 4, 7, 8, 9] 3 [5, 6, 10, 11] 5 [3, 6, 10, 11] [3, 5, 6, 10] [8] 12 false (by kernel_rfl) ?_ | refine TwoP.mk ?_ ?_ | refine EntP.mk Ents.a ?_ | refine AppE.nil (ttC (out.take j)) j rfl rfl rfl (SrcE.sl 50 50 _ _ _ _ _ rfl rfl (ttpre (m := out) (by first | exact List.Mem.head _ | exact List.Mem.tail _ (List.Mem.head _) | exact List.Mem.tail _ (List.Mem.tail _ (List.Mem.head _)) | exact List.Mem.tail _ (List.Mem.tail _ (List.Mem.tail _ (List.Mem.head _))) | exact List.Mem.tail _ (List.Mem.tail _ (List.Mem.tail _ (List.Mem.tail _ (List.Mem.head _))))) rfl hj) (by rw [ttC_len, List.length_take, Nat.min_eq_left hj]; rfl)) (by dsimp only; omega) (fun a' c' => ?_) | refine AppE.row [_] _ (ttC (out.take j)) [.i .i64 t.1, .s t.2] 1 rfl (SrcE.sl 50 50 _ _ 1 1 _ rfl rfl (.inl ⟨1, List.Mem.head _⟩) rfl) (by dsimp only; omega) (fun a' c' => ?_) | refine AppE.row [] _ (ttC (out.take j)) [.i .i64 t.1, .s t.2] 1 rfl (SrcE.sl 50 50 _ _ 1 1 _ rfl rfl (.inl ⟨1, List.Mem.tail _ (List.Mem.head _)⟩) rfl) (by dsimp only; omega) (fun a' c' => ?_) | (refine AppE.row [_] _ (ttC (out.take j) ++ [.i .i64 t.1, .s t.2]) (ttC (out.drop j)) (out.length - j) rfl (SrcE.sl 50 50 _ _ _ _ _ rfl rfl (ttsuf (m := out) (by first | exact List.Mem.head _ | exact List.Mem.tail _ (List.Mem.head _) | exact List.Mem.tail _ (List.Mem.tail _ (List.Mem.head _)) | exact List.Mem.tail _ (List.Mem.tail _ (List.Mem.tail _ (List.Mem.head _))) | exact List.Mem.tail _ (List.Mem.tail _ (List.Mem.tail _ (List.Mem.tail _ (List.Mem.head _))))) rfl hj hnc) (by rw [ttC_len, List.length_drop]; rfl)) (by dsimp only; omega) (fun a' c' => ?_); rw [← h6l, ← h6c]) | (refine AppE.row [] _ (ttC (out.take j) ++ [.i .i64 t.1, .s t.2]) (ttC (out.drop j)) (out.length - j) rfl (SrcE.sl 50 50 _ _ _ _ _ rfl rfl (ttsuf (m := out) (by first | exact List.Mem.head _ | exact List.Mem.tail _ (List.Mem.head _) | exact List.Mem.tail _ (List.Mem.tail _ (List.Mem.head _)) | exact List.Mem.tail _ (List.Mem.tail _ (List.Mem.tail _ (List.Mem.head _))) | exact List.Mem.tail _ (List.Mem.tail _ (List.Mem.tail _ (List.Mem.tail _ (List.Mem.head _))))) rfl hj hnc) (by rw [ttC_len, List.length_drop]; rfl)) (by dsimp only; omega) (fun a' c' => ?_); rw [← h6l, ← h6c]) | refine Round.mk (i + 1, W, a', c') (by dsimp only; omega) ⟨by dsimp only; omega, by dsimp only; omega, hF⟩ SubE.a Ents.a | fail
  · have hil : i = P.length := by omega
    rw [hil, List.drop_length] at he
    have he : F = out := he
    subst he
    repeat' first | refine J_seq ?_ | refine J_region Tryz.tyOK ?_ | refine J_block ?_ | refine J_cond ?_ | refine J_ret ?_ | refine J_skip ?_ | refine J_exit ?_ | refine J_scope ?_ | refine CondP.y ?_ | refine CondP.n ?_ | refine CondP.mk (fun h => ?_) (fun h => ?_) | refine EqP.mk rfl ?_ | refine NewP.mk (fun ad => ?_) | refine ArP.x ?_ | refine SideP.a ?_ | refine FinE.mk [_] [] ⟨_, _, rfl, rfl, rfl⟩ (Ents.ofSub (by repeat (first | exact List.Sublist.slnil | refine List.Sublist.cons_cons _ ?_ | refine List.Sublist.cons _ ?_)) (fun _ _ => trivial)) | fail
end Go.Proofs

/- This text walks through the function SearchSteps of the statements of chapter 35. -/
namespace Go.X
open Go Go.Lib Go.Proofs
/-- The rows of a title in a state. -/
def rowsOf (s : STM) (t : TT) : List WR := if hasT s t = true then rowsT t.1 t.2 (textT s t) else []
theorem rowsOf_tit {s : STM} {t : TT} {r : WR} (h : r ∈ rowsOf s t) : (r.sp, r.nm) = t := by
  unfold rowsOf at h
  split at h
  · obtain ⟨w, _, rfl⟩ := rowsT_mem.1 h; rfl
  · cases h
theorem rowsOf_len {s : STM} (hs : PgS s) (t : TT) : (rowsOf s t).length ≤ 10002 := by
  unfold rowsOf hasT textT
  cases hf : s.pages.find? (atM t.1 t.2) with
  | none => exact Nat.zero_le _
  | some p =>
    have h1 := of_decide_eq_true (show decide (p.sp = t.1 ∧ p.nm = t.2) = true from by have := List.find?_some hf; exact this)
    have h2 := hs.t p (List.mem_of_find?_eq_some hf)
    have h3 := rowsT_len t.1 t.2 (curM p.hist).text
    rw [h1.2] at h2
    show (rowsT t.1 t.2 (curM p.hist).text).length ≤ _
    omega
theorem build_mem {s : STM} (hv : validST s.pl = true) {r : WR} : r ∈ buildT s.pl ↔ r ∈ rowsOf s (r.sp, r.nm) := by
  obtain ⟨_, _, vk⟩ := valid_iff.1 hv
  constructor
  · intro hr
    obtain ⟨p, hp, hr⟩ := buildT_mem.1 hr
    obtain ⟨p', hp', rfl⟩ := List.mem_map.1 (show p ∈ s.pages.map PGM.pl from hp)
    obtain ⟨w', hw', rfl⟩ := rowsT_mem.1 (show r ∈ rowsT p'.sp p'.nm (curM p'.hist).text from hr)
    dsimp only
    unfold rowsOf hasT textT
    cases hf : s.pages.find? (atM p'.sp p'.nm) with
    | none => exact absurd (show atM p'.sp p'.nm p' = true from decide_eq_true ⟨rfl, rfl⟩) (List.find?_eq_none.1 hf p' hp')
    | some q =>
      have h1 := of_decide_eq_true (show decide (q.sp = p'.sp ∧ q.nm = p'.nm) = true from by have := List.find?_some hf; exact this)
      have h2 := same_title vk.asc (List.mem_map.2 ⟨q, List.mem_of_find?_eq_some hf, rfl⟩) (List.mem_map.2 ⟨p', hp', rfl⟩) h1.1 h1.2
      have h3 : q.hist = p'.hist := congrArg SP.hist h2
      show _ ∈ rowsT p'.sp p'.nm (curM q.hist).text
      rw [h3]
      exact hr
  · intro hr
    unfold rowsOf hasT textT at hr
    cases hf : s.pages.find? (atM (r.sp, r.nm).1 (r.sp, r.nm).2) with
    | none => rw [hf] at hr; cases hr
    | some q =>
      rw [hf] at hr
      have h1 := of_decide_eq_true (show decide (q.sp = r.sp ∧ q.nm = r.nm) = true from by have := List.find?_some hf; exact this)
      refine buildT_mem.2 ⟨q.pl, List.mem_map.2 ⟨q, List.mem_of_find?_eq_some hf, rfl⟩, ?_⟩
      show r ∈ rowsT q.sp q.nm (curM q.hist).text
      rw [h1.1, h1.2]
      exact hr
theorem putT_mem {l r : List WR} {sp : Int} {nm : List UInt8} {z : WR} : z ∈ putT l r sp nm ↔ (z ∈ l ∧ ¬ (z.sp, z.nm) = (sp, nm)) ∨ z ∈ r := by
  unfold putT
  rw [(ordW_str _).2, List.mem_append, List.mem_filter]
  refine or_congr (and_congr Iff.rfl ?_) Iff.rfl
  rw [Bool.not_eq_true', decide_eq_false_iff_not]
  exact not_congr ⟨fun h => Prod.ext h.1 h.2, fun h => ⟨congrArg Prod.fst h, congrArg Prod.snd h⟩⟩
/-- The table in between: the titles of ds are those of the next state. -/
structure InvS (a b : STM) (ds : List TT) (X : List WR) : Prop where
  st : StrL cmpWR X
  m : ∀ r, r ∈ X ↔ r ∈ rowsOf (if (r.sp, r.nm) ∈ ds then b else a) (r.sp, r.nm)
theorem InvS.start {a b : STM} (hv : validST a.pl = true) : InvS a b [] (buildT a.pl) := ⟨(ordW_str _).1, fun r => by rw [build_mem hv, if_neg (by simp)]⟩
theorem InvS.step {a b : STM} {ds : List TT} {X : List WR} (h : InvS a b ds X) (t : TT) : InvS a b (ds ++ [t]) (putT X (rowsOf b t) t.1 t.2) := by
  refine ⟨(ordW_str _).1, fun r => ?_⟩
  rw [putT_mem]
  by_cases ht : (r.sp, r.nm) = t
  · rw [if_pos (by rw [ht]; simp)]
    constructor
    · rintro (⟨_, h2⟩ | h2)
      · exact absurd ht h2
      · rw [ht]; exact h2
    · intro h2; rw [ht] at h2; exact .inr h2
  · have hi : (r.sp, r.nm) ∈ ds ++ [t] ↔ (r.sp, r.nm) ∈ ds := by
      rw [List.mem_append, List.mem_singleton]
      exact ⟨fun e => e.elim id fun e => absurd e ht, .inl⟩
    have hm := h.m r
    constructor
    · rintro (⟨h1, _⟩ | h2)
      · have := hm.1 h1
        by_cases hd : (r.sp, r.nm) ∈ ds
        · rw [if_pos (hi.2 hd)]; rw [if_pos hd] at this; exact this
        · rw [if_neg fun e => hd (hi.1 e)]; rw [if_neg hd] at this; exact this
      · exact absurd (rowsOf_tit h2) ht
    · intro h2
      refine .inl ⟨hm.2 ?_, fun e => ht e⟩
      by_cases hd : (r.sp, r.nm) ∈ ds
      · rw [if_pos hd]; rw [if_pos (hi.2 hd)] at h2; exact h2
      · rw [if_neg hd]; rw [if_neg fun e => hd (hi.1 e)] at h2; exact h2
theorem InvS.len {a b : STM} {ds : List TT} {X : List WR} (h : InvS a b ds X) (ha : validST a.pl = true) (hb : validST b.pl = true) (pa : PgS a) (pb : PgS b) : X.length ≤ 4000800 := by
  have h1 := buildT_len a pa
  have h2 := buildT_len b pb
  have := nodup_len (l := X) (S := buildT a.pl ++ buildT b.pl) (StrL.nodup cmp_WR h.st) fun r hr => by
    have hm := (h.m r).1 hr
    rw [List.mem_append]
    split at hm
    · exact .inr ((build_mem hb).2 hm)
    · exact .inl ((build_mem ha).2 hm)
  rw [List.length_append] at this
  omega
theorem InvS.fin {a b : STM} {X : List WR} (h : InvS a b (touchedT a b) X) (hb : validST b.pl = true) : X = buildT b.pl := by
  refine strL_eq cmp_WR h.st (ordW_str _).1 fun r => ?_
  rw [h.m, build_mem hb]
  by_cases hd : (r.sp, r.nm) ∈ touchedT a b
  · rw [if_pos hd]
  · rw [if_neg hd]
    have hd2 : ¬ ((r.sp, r.nm) ∈ ((a.pages ++ b.pages).map titM) ∧ diffT a b (r.sp, r.nm) = true) := fun e => hd (((foldAddG cmp_TT cmpTT_eq _ [] List.Pairwise.nil).2 _).2 (.inr (List.mem_filter.2 e)))
    by_cases hin : (r.sp, r.nm) ∈ ((a.pages ++ b.pages).map titM)
    · have hdf : ¬ diffT a b (r.sp, r.nm) = true := fun e => hd2 ⟨hin, e⟩
      unfold diffT at hdf
      rw [Bool.not_eq_true', Bool.not_eq_false, Bool.and_eq_true, decide_eq_true_eq, decide_eq_true_eq] at hdf
      unfold rowsOf
      rw [hdf.1, hdf.2]
    · have hno : ∀ s : STM, (∀ p ∈ s.pages, p ∈ a.pages ++ b.pages) → hasT s (r.sp, r.nm) = false := fun s hs => by
        unfold hasT
        cases hf : s.pages.find? (atM (r.sp, r.nm).1 (r.sp, r.nm).2) with
        | none => rfl
        | some q =>
          have h1 := of_decide_eq_true (show decide (q.sp = r.sp ∧ q.nm = r.nm) = true from by have := List.find?_some hf; exact this)
          exact absurd (List.mem_map.2 ⟨q, hs q (List.mem_of_find?_eq_some hf), Prod.ext h1.1 h1.2⟩) hin
      unfold rowsOf
      rw [hno a fun p hp => List.mem_append_left _ hp, hno b fun p hp => List.mem_append_right _ hp]
      simp
theorem touchedT_len (a b : STM) : (touchedT a b).length ≤ a.pages.length + b.pages.length := by
  have h1 := foldAddG_len (cf := cmpTT) (((a.pages ++ b.pages).map titM).filter (diffT a b)) []
  have h2 := List.length_filter_le (diffT a b) ((a.pages ++ b.pages).map titM)
  rw [List.length_map, List.length_append] at h2
  unfold touchedT
  simp only [List.length_nil] at h1
  omega
end Go.X
namespace Go.Proofs
open Go Go.X
set_option maxRecDepth 100000
set_option maxHeartbeats 4000000
theorem FnS.tf {f : FuncId} {args : List V} {D : List Fact} {W : List TT} (h : FnS Tryz.prog f args [] D (fun v L D => ∃ a' c', v = .c (.sl a' W.length c') ∧ L = [.row 50 2 a' W.length c' (ttC W)] ∧ D = [])) : FnS Tryz.prog f args [] D (fun v L D => ∃ a' c', v = .c (.sl a' W.length c') ∧ L = [] ∧ D = [slFact 50 2 a' W.length (ttC W)]) :=
  h.entsP fun v L D ⟨a, c, h1, h2, h3⟩ => by
    subst h1 h2 h3
    exact ⟨[], _, Ents.toFact, a, c, rfl, rfl, rfl⟩
theorem searchSteps_ok (e1 e2 : Nat) (la ma : Option Addr) (lc mc : Nat) (l m : List Int) (n : Int) (hl : l.length ≤ maxLen) (hm : m.length ≤ maxLen) :
    FnS Tryz.prog 7 [.c (.sl la l.length lc), .c (.sl ma m.length mc), .c (.i .i64 n)] [] [intsF e1 la l, intsF e2 ma m] (Is tt) := by
  have cs := genState_ok e1 la lc l hl
  have cf := from_ok e2 ma mc m hm
  have crd := round_ok n 4 (by omega) (by omega)
  have hr4 := roundI_range n (n := 4) (by omega)
  generalize roundI n 4 = n4 at *
  obtain ⟨N4, rfl⟩ : ∃ N : Nat, n4 = N := ⟨n4.toNat, by omega⟩
  refine fn_of_J Tryz.tyOK 0 Tryz.func7 (by kernel_rfl) (c := Tryz.f7.body.getD .skip) (by kernel_rfl) Tryz.ntmps7 (rs := Tryz.f7.results.toList) rfl (by simp) (fun G => ?_)
  repeat' first | refine J_stop (c := .seq (.region 2 _ _) _) ?_ | refine J_seq ?_ | refine J_region Tryz.tyOK ?_ | refine J_block ?_ | refine J_cond ?_ | refine J_ret ?_ | refine J_skip ?_ | refine J_exit ?_ | refine J_scope ?_ | refine CondP.y ?_ | refine CondP.n ?_ | refine CondP.mk (fun h => ?_) (fun h => ?_) | refine EqP.mk rfl ?_ | refine NewP.mk (fun ad => ?_) | refine ArP.x ?_ | refine SideP.a ?_ | (refine CallP.mk [] _ [intsF e1 la l] _ cs (List.Perm.refl _) (fun _ h => by simp only [allD, allD_append, List.cons_append, List.nil_append, and_true] at h ⊢; simp only [h, and_self]) (fun v L' D' hq => ?_); obtain ⟨a, rfl, hra, rfl, rfl⟩ := hq) | fail
  refine ⟨?_⟩
  have hva := hra.valid
  obtain ⟨pga, sba⟩ := valid_pgs hva
  have caf := fun ad => genAfter_ok e2 ma mc ad m (gs0 m) a 15 N4 hra (gs0_ok m) hm (by omega)
  refine J_cut (x := .region 2 _ _) (α := STM × Nat) (fun z => [(7, .c (.p 0 ad 0)), (8, .c (.p 1 z.2 0))]) (fun z => [.box 1 z.2 42 z.1.cells, .box 0 ad 42 a.cells]) (fun z => [stF z.1, stF a]) 2 (fun z => Rchd (15 + N4) z.1.pl) ?_ (fun z hz => ?_)
  · repeat' first | refine J_seq ?_ | refine J_region Tryz.tyOK ?_ | refine J_block ?_ | refine J_cond ?_ | refine J_ret ?_ | refine J_skip ?_ | refine J_exit ?_ | refine J_scope ?_ | refine CondP.y ?_ | refine CondP.n ?_ | refine CondP.mk (fun h => ?_) (fun h => ?_) | refine EqP.mk rfl ?_ | refine NewP.mk (fun ad => ?_) | refine ArP.x ?_ | refine SideP.a ?_ | refine J_drawP (id := 2) Tryz.tyOK (by kernel_rfl) [0, 0, 2, 0, 14, 31, 0, 127] (.node [0, 1, 3] 2 (.node [4] 5 (.leaf [6, 7]) 6 (.leaf [5, 7])) 6 (.leaf [2, 4, 5, 7])) [2, 5, 6, 7] [7] 7 false (by kernel_rfl) ?_ | refine TwoP.mk ?_ ?_ | refine J_drawS (id := 8) Tryz.tyOK (by kernel_rfl) [0, 0, 0, 6, 14, 31, 63, 127, 127, 255, 1023] [0, 1, 2, 3, 4, 5, 6, 7, 8, 9, 10] [] [8, 37] false (by kernel_rfl) ?_ | refine J_drawS (id := 10) Tryz.tyOK (by kernel_rfl) [0, 0, 0, 6, 14, 0, 0, 96, 224, 0, 992, 2047, 4095] [0, 1, 2, 3, 4, 5, 6, 7, 8, 9, 10, 11, 12] [] [46, 50] false (by kernel_rfl) ?_ | refine EntP.mk Ents.a ?_ | (refine CallP.mk [] _ [intsF e2 ma m] _ cf (List.Perm.refl _) (fun _ h => by simp only [allD, allD_append, List.cons_append, List.nil_append, and_true] at h ⊢; simp only [h, and_self]) (fun v L' D' hq => ?_); obtain ⟨gd, rfl, rfl, rfl⟩ := hq) | refine CallQ.mk [] _ crd (fun _ _ => trivial) ?_ | (refine CallP.mk [_] _ [stF a, intsF e2 ma m] _ (caf _) (by first | exact List.Perm.refl _ | exact List.Perm.swap _ _ _) (fun _ h => by simp only [allD, allD_append, List.cons_append, List.nil_append, and_true] at h ⊢; simp only [h, and_self]) (fun v L' D' hq => ?_); obtain ⟨b, g', rfl, hrb, hg', rfl, rfl⟩ := hq) | refine InFam.mk (b, ad) hrb SubE.a (by first | exact (Ents.ofSub (by repeat (first | exact List.Sublist.slnil | refine List.Sublist.cons_cons _ ?_ | refine List.Sublist.cons _ ?_)) (fun _ h => by simp only [allD, allD_append, List.cons_append, List.nil_append, and_true] at h ⊢; simp only [h, and_self]))) | fail
  obtain ⟨b, ad1⟩ := z
  have hvb : validST b.pl = true := (show Rchd (15 + N4) b.pl from hz).valid
  obtain ⟨pgb, sbb⟩ := valid_pgs hvb
  dsimp only
  clear cs cf crd caf
  have cba := FnS.rf (build_ok a pga)
  have cbb := FnS.rf (build_ok b pgb)
  have ct := FnS.tf (touched27_ok a b sba sbb (by have := pga.n; omega) (by have := pgb.n; omega))
  have htl := touchedT_len a b
  have hpa := pga.n
  have hpb := pgb.n
  have hfin := fun X (h : InvS a b (touchedT a b) X) => h.fin hvb
  have hst := InvS.start (b := b) hva
  have hbl := buildT_len b pgb
  generalize buildT a.pl = XA at *
  generalize hTD : touchedT a b = TD at *
  repeat' first | refine J_stop (c := .seq (.region 5 _ _) _) ?_ | refine J_seq ?_ | refine J_region Tryz.tyOK ?_ | refine J_block ?_ | refine J_cond ?_ | refine J_ret ?_ | refine J_skip ?_ | refine J_exit ?_ | refine J_scope ?_ | refine CondP.y ?_ | refine CondP.n ?_ | refine CondP.mk (fun h => ?_) (fun h => ?_) | refine EqP.mk rfl ?_ | refine NewP.mk (fun ad => ?_) | refine ArP.x ?_ | refine SideP.a ?_ | (refine CallP.mk [] _ [stF a] _ cba (List.Perm.refl _) (fun _ h => by simp only [allD, allD_append, List.cons_append, List.nil_append, and_true] at h ⊢; simp only [h, and_self]) (fun v L' D' hq => ?_); obtain ⟨xa, xc, rfl, rfl, rfl⟩ := hq) | (refine CallP.mk [] _ [stF a, stF b] _ ct (List.Perm.refl _) (fun _ h => by simp only [allD, allD_append, List.cons_append, List.nil_append, and_true] at h ⊢; simp only [h, and_self]) (fun v L' D' hq => ?_); obtain ⟨ta, tc, rfl, rfl, rfl⟩ := hq) | fail
  refine ⟨?_⟩
  repeat' first | refine J_seq ?_ | refine J_region Tryz.tyOK ?_ | refine J_block ?_ | refine J_cond ?_ | refine J_ret ?_ | refine J_skip ?_ | refine J_exit ?_ | refine J_scope ?_ | refine CondP.y ?_ | refine CondP.n ?_ | refine CondP.mk (fun h => ?_) (fun h => ?_) | refine EqP.mk rfl ?_ | refine NewP.mk (fun ad => ?_) | refine ArP.x ?_ | refine SideP.a ?_ | fail
  refine J_loop (α := Nat × List WR × Option Addr × Nat) (fun x => [(8, .c (.p 1 ad1 0)), (9, .c (.sl x.2.2.1 x.2.1.length x.2.2.2)), (10, .c (.sl ta TD.length tc)), (11, .c (.i .i64 x.1))]) (fun _ => [.box 1 ad1 42 b.cells]) (fun x => [slFact 60 4 x.2.2.1 x.2.1.length (wrC x.2.1), slFact 50 2 ta TD.length (ttC TD), stF b]) 2
    (fun x => x.1 ≤ TD.length ∧ InvS a b (TD.take x.1) x.2.1) (fun x => TD.length - x.1) (InFam.mk (0, XA, xa, xc) ⟨Nat.zero_le _, hst⟩ SubE.a (Ents.ofSub (by repeat (first | exact List.Sublist.slnil | refine List.Sublist.cons_cons _ ?_ | refine List.Sublist.cons _ ?_)) (fun _ h => by simp only [allD, allD_append, List.cons_append, List.nil_append, and_true] at h ⊢; simp only [h, and_self]))) (fun x hx => ?_)
  clear cba ct hst
  obtain ⟨i, X, xa, xc⟩ := x
  dsimp only at hx ⊢
  obtain ⟨hi, hinv⟩ := hx
  have hxl := hinv.len hva hvb pga pgb
  have hrt : ∀ L, Reads L [slFact 60 4 xa X.length (wrC X), slFact 50 2 ta TD.length (ttC TD), stF b] 50 2 ta TD.length (ttC TD) := fun L => .inr fun m h => h.2.1
  by_cases hlt : i < TD.length
  · have hg := ttl_get hlt
    have hstep := hinv.step TD[i]
    rw [← List.take_succ_eq_append_getElem hlt] at hstep
    clear hinv hfin hTD
    generalize TD[i] = t at *
    have cx := text27_ok b t.1 t.2 sbb
    rw [textV_eq] at cx
    have hrl := rowsOf_len pgb t
    have cp := fun xa xc ra rc => FnS.rf (W := putT X (rowsOf b t) t.1 t.2) (put_ok 60 60 xa ra xc rc X (rowsOf b t) t.1 t.2 (by omega) (by omega))
    have hcr : hasT b t = true → rowsOf b t = rowsT t.1 t.2 (textT b t) := fun h => by unfold rowsOf; rw [if_pos h]
    have hcn : hasT b t = false → rowsOf b t = [] := fun h => by unfold rowsOf; rw [if_neg (by rw [h]; decide)]
    have hnm : hasT b t = true → t.2.length + (textT b t).length ≤ 10000 := fun h => by
      unfold hasT at h
      unfold textT
      cases hf : b.pages.find? (atM t.1 t.2) with
      | none => rw [hf] at h; cases h
      | some p =>
        have h1 := of_decide_eq_true (show decide (p.sp = t.1 ∧ p.nm = t.2) = true from by have := List.find?_some hf; exact this)
        have h2 := pgb.t p (List.mem_of_find?_eq_some hf)
        rw [h1.2] at h2
        exact h2
    generalize textT b t = tx at *
    cases hh : hasT b t with
    | true =>
      rw [hh] at cx
      have cr := FnS.rf (rows_ok t.1 t.2 tx (hnm hh))
      rw [← hcr hh] at cr
      generalize rowsOf b t = RO at *
      repeat' first | refine J_seq ?_ | refine J_region Tryz.tyOK ?_ | refine J_block ?_ | refine J_cond ?_ | refine J_ret ?_ | refine J_skip ?_ | refine J_exit ?_ | refine J_scope ?_ | refine CondP.y ?_ | refine CondP.n ?_ | refine CondP.mk (fun h => ?_) (fun h => ?_) | refine EqP.mk rfl ?_ | refine NewP.mk (fun ad => ?_) | refine ArP.x ?_ | refine SideP.a ?_ | refine J_drawZ (id := 2) Tryz.tyOK (by kernel_rfl) [0, 0, 2, 0, 14, 31, 0, 127] [0, 1, 2, 3, 4, 5, 6, 7] [6, 7] [7] 7 false (by kernel_rfl) ?_ | refine J_drawS (id := 8) Tryz.tyOK (by kernel_rfl) [0, 0, 0, 6, 14, 31, 63, 127, 127, 255, 1023] [0, 1, 2, 3, 4, 5, 6, 7, 8, 9, 10] [] [8, 37] false (by kernel_rfl) ?_ | refine J_drawS (id := 10) Tryz.tyOK (by kernel_rfl) [0, 0, 0, 6, 14, 0, 0, 96, 224, 0, 992, 2047, 4095] [0, 1, 2, 3, 4, 5, 6, 7, 8, 9, 10, 11, 12] [10, 11] [46, 50] false (by kernel_rfl) ?_ | refine EntP.mk Ents.a ?_ | refine IdxE.mk 50 2 _ (hrt _) (by omega) (by omega) ?_ | refine LoadE.mk 50 _ _ [.i .i64 t.1, .s t.2] (hrt _) (by omega) (by omega) (by first | omega | decide) (by exact hg) ?_ | refine CallQ.mk [stF b] _ cx (fun _ h => by simp only [allD, allD_append, List.cons_append, List.nil_append, and_true] at h ⊢; simp only [h, and_self]) ?_ | refine CallP.is cx ?_ (fun _ h => by simp only [allD, allD_append, List.cons_append, List.nil_append, and_true] at h ⊢; simp only [h, and_self]) | (refine CallP.mk [] _ [] _ cr (List.Perm.refl _) (fun _ _ => trivial) (fun v L' D' hq => ?_); obtain ⟨ra, rc, rfl, rfl, rfl⟩ := hq) | (refine CallP.mk [] _ [slFact 60 4 xa X.length (wrC X), slFact 60 4 ra RO.length (wrC RO)] _ (cp _ _ _ _) (List.Perm.refl _) (fun _ h => by simp only [allD, allD_append, List.cons_append, List.nil_append, and_true] at h ⊢; simp only [h, and_self]) (fun v L' D' hq => ?_); obtain ⟨na, nc, rfl, rfl, rfl⟩ := hq) | refine Round.mk (i + 1, putT X RO t.1 t.2, na, nc) (by dsimp only; omega) ⟨by dsimp only; omega, hstep⟩ SubE.a (Ents.facts (fun _ h => by simp only [allD, allD_append, List.cons_append, List.nil_append, and_true] at h ⊢; simp only [h, and_self])) | fail
    | false =>
      rw [hh] at cx
      have hro := hcn hh
      rw [hro] at cp hstep
      repeat' first | refine J_seq ?_ | refine J_region Tryz.tyOK ?_ | refine J_block ?_ | refine J_cond ?_ | refine J_ret ?_ | refine J_skip ?_ | refine J_exit ?_ | refine J_scope ?_ | refine CondP.y ?_ | refine CondP.n ?_ | refine CondP.mk (fun h => ?_) (fun h => ?_) | refine EqP.mk rfl ?_ | refine NewP.mk (fun ad => ?_) | refine ArP.x ?_ | refine SideP.a ?_ | refine J_drawZ (id := 2) Tryz.tyOK (by kernel_rfl) [0, 0, 2, 0, 14, 31, 0, 127] [0, 1, 2, 3, 4, 5, 6, 7] [6, 7] [7] 7 false (by kernel_rfl) ?_ | refine J_drawS (id := 8) Tryz.tyOK (by kernel_rfl) [0, 0, 0, 6, 14, 31, 63, 127, 127, 255, 1023] [0, 1, 2, 3, 4, 5, 6, 7, 8, 9, 10] [] [8, 37] false (by kernel_rfl) ?_ | refine J_drawS (id := 10) Tryz.tyOK (by kernel_rfl) [0, 0, 0, 6, 14, 0, 0, 96, 224, 0, 992, 2047, 4095] [0, 1, 2, 3, 4, 5, 6, 7, 8, 9, 10, 11, 12] [10, 11] [46, 50] false (by kernel_rfl) ?_ | refine EntP.mk Ents.a ?_ | refine IdxE.mk 50 2 _ (hrt _) (by omega) (by omega) ?_ | refine LoadE.mk 50 _ _ [.i .i64 t.1, .s t.2] (hrt _) (by omega) (by omega) (by first | omega | decide) (by exact hg) ?_ | refine CallQ.mk [stF b] _ cx (fun _ h => by simp only [allD, allD_append, List.cons_append, List.nil_append, and_true] at h ⊢; simp only [h, and_self]) ?_ | refine CallP.is cx ?_ (fun _ h => by simp only [allD, allD_append, List.cons_append, List.nil_append, and_true] at h ⊢; simp only [h, and_self]) | (refine CallP.mk [] _ [slFact 60 4 xa X.length (wrC X), slFact 60 4 none 0 []] _ (cp _ _ none 0) (List.Perm.refl _) (fun _ h => ⟨h.1, SlF.nil (e := 60), trivial⟩) (fun v L' D' hq => ?_); obtain ⟨na, nc, rfl, rfl, rfl⟩ := hq) | refine Round.mk (i + 1, putT X [] t.1 t.2, na, nc) (by dsimp only; omega) ⟨by dsimp only; omega, hstep⟩ SubE.a (Ents.facts (fun _ h => by simp only [allD, allD_append, List.cons_append, List.nil_append, and_true] at h ⊢; simp only [h, and_self])) | fail
  · have hil : i = TD.length := by omega
    rw [hil, List.take_length] at hinv
    have hX := hfin X hinv
    subst hX
    have csm := fun p q c d => sameRows_ok 60 60 p q c d (buildT b.pl) (by omega)
    clear hinv hfin hxl
    generalize buildT b.pl = Y at *
    repeat' first | refine J_seq ?_ | refine J_region Tryz.tyOK ?_ | refine J_block ?_ | refine J_cond ?_ | refine J_ret ?_ | refine J_skip ?_ | refine J_exit ?_ | refine J_scope ?_ | refine CondP.y ?_ | refine CondP.n ?_ | refine CondP.mk (fun h => ?_) (fun h => ?_) | refine EqP.mk rfl ?_ | refine NewP.mk (fun ad => ?_) | refine ArP.x ?_ | refine SideP.a ?_ | refine J_drawS (id := 2) Tryz.tyOK (by kernel_rfl) [0, 0, 2, 0, 14, 31, 0, 127] [0, 1, 2, 3, 4, 5, 6, 7] [6, 7] [7] true (by kernel_rfl) ?_ | refine J_drawS (id := 8) Tryz.tyOK (by kernel_rfl) [0, 0, 0, 6, 14, 31, 63, 127, 127, 255, 1023] [0, 1, 2, 3, 4, 5, 6, 7, 8, 9, 10] [] [8, 37] true (by kernel_rfl) ?_ | refine J_drawS (id := 10) Tryz.tyOK (by kernel_rfl) [0, 0, 0, 6, 14, 0, 0, 96, 224, 0, 992, 2047, 4095] [0, 1, 2, 3, 4, 5, 6, 7, 8, 9, 10, 11, 12] [] [46, 50] true (by kernel_rfl) ?_ | refine EntP.mk Ents.a ?_ | refine CallP.is awake_ok ?_ | (refine CallP.mk [] _ [stF b] _ cbb (List.Perm.refl _) (fun _ h => by simp only [allD, allD_append, List.cons_append, List.nil_append, and_true] at h ⊢; simp only [h, and_self]) (fun v L' D' hq => ?_); obtain ⟨ya, yc, rfl, rfl, rfl⟩ := hq) | refine CallP.is (csm _ _ _ _) ?_ (fun _ h => by simp only [allD, allD_append, List.cons_append, List.nil_append, and_true] at h ⊢; simp only [h, and_self]) | refine FinE.is rfl | fail
end Go.Proofs

/- This text opens arguments that are lists of rows of words, titles and lists of numbers. -/
namespace Go.Proofs.YthknndkjnglegaaGreat
open Go Go.X Go.Proofs
set_option maxRecDepth 100000
abbrev Bt := List UInt8
abbrev ttFF : Int × Bt × Unit → List C := fun g => [.i .i64 g.1] ++ ([.s g.2.1] ++ [])
abbrev ttQQ : Int × Bt × Unit → Prop := fun g => inR .i64 g.1 ∧ g.2.1.length ≤ maxLen ∧ True
theorem open_title {w : World} : OpenS Tryz.prog w 50 ttFF ttQQ :=
  openS_struct (okTy (t := 50) rfl).2.2.2 (cellsOf_ty (okTy (t := 50) rfl))
    (openF_cons (cellsOf_ty (okTy (t := 3) rfl)) (openS_int Tryz.underlying3) (openF_cons (cellsOf_ty (okTy (t := 9) rfl)) (openS_str Tryz.underlying9) openF_nil (by decide)) (by decide))
/-- What is known of a slice that is read. -/
abbrev slQ {α : Type} (w : World) (z : Nat) (F : α → List C) (Q : α → Prop) (g : Option Addr × Nat × Nat × List α) : Prop := g.2.1 = g.2.2.2.length ∧ SlOK w z (g.2.2.2.flatMap F) g.1 g.2.1 g.2.2.1 ∧ ∀ x ∈ g.2.2.2, Q x ∧ (F x).length = z
theorem flatMap_mk {α β : Type} {F : α → List C} {G : β → List C} {f : α → β} : ∀ {l : List α}, (∀ x ∈ l, G (f x) = F x) → (l.map f).flatMap G = l.flatMap F
  | [], _ => rfl
  | x :: r, h => by
    rw [List.map_cons, List.flatMap_cons, List.flatMap_cons, h x (by simp), flatMap_mk fun y hy => h y (by simp [hy])]
theorem open_ints {w : World} : OpenS Tryz.prog w 33 (fun g : Option Addr × Nat × Nat × List Int => [.sl g.1 g.2.1 g.2.2.1]) (slQ w 1 (fun n : Int => [.i .i64 n]) (inR .i64)) :=
  openS_slice (z := 1) Tryz.underlying33 (cellsOf_ty (okTy (t := 3) rfl)) (by decide) (fun g x hx => by simp at hx; subst hx; rfl) (openS_int Tryz.underlying3)
/-- The numbers that a list in memory is. -/
theorem ints_of {w : World} {a : Option Addr} {n c : Nat} {l : List Int} (h : slQ w 1 (fun n : Int => [.i .i64 n]) (inR .i64) (a, n, c, l)) :
    ∃ e : Nat, n = l.length ∧ l.length ≤ maxLen ∧ (slFact e 1 a l.length (l.map (C.i .i64))).p (fun b => w.heap[b]?) := by
  obtain ⟨h1, h2, h3⟩ := h
  dsimp only at h1 h2 h3
  subst h1
  obtain ⟨e, hf⟩ := h2.f
  exact ⟨e, rfl, Nat.le_trans h2.le h2.max, by rw [List.map_eq_flatMap]; exact hf⟩
end Go.Proofs.YthknndkjnglegaaGreat
