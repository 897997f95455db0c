/- This text walks through the function SearchVisible of the statements of chapter 35. -/
import Derived.Test.YthknndkjnglegaaGreatG27
import Derived.Test.YthknndkjnglegaaGreatG22
import Derived.Test.YthknndkjnglegaaGreatG08
import Derived.Test.YthknndkjnglegaaGreatG09
set_option linter.all false

namespace Go.Proofs
open Go Go.X
set_option maxRecDepth 100000
set_option maxHeartbeats 4000000
theorem searchVisible_ok (e1 e2 e3 : Nat) (la ma qa : Option Addr) (lc mc qc : Nat) (l m q : List Int) (who : Int) (hl : l.length ≤ maxLen) (hm : m.length ≤ maxLen) (hq : q.length ≤ maxLen) :
    FnS Tryz.prog 4 [.c (.sl la l.length lc), .c (.sl ma m.length mc), .c (.sl qa q.length qc), .c (.i .i64 who)] [] [intsF e1 la l, intsF e2 ma m, intsF e3 qa q] (Is tt) := by
  have cs := genState_ok e1 la lc l hl
  have cr := FnS.rf (genRows_ok e2 ma mc m hm)
  have cq := query_ok e3 qa qc q hq
  have hql := queryL_len q
  have hrl := genRows_len m
  have hrn := fun r hr => genRows_n m (r := r) hr
  have hr := roundI_range who (n := 4) (by omega)
  have hus := users_get hr.1 hr.2
  have crd := round_ok who 4 (by omega) (by omega)
  generalize genRows m = R at *
  generalize queryL q = Q at *
  generalize usersL.getD (roundI who 4).toNat [] = U at *
  generalize roundI who 4 = w4 at *
  refine fn_of_J Tryz.tyOK 0 Tryz.func4 (by kernel_rfl) (c := Tryz.f4.body.getD .skip) (by kernel_rfl) Tryz.ntmps4 (rs := Tryz.f4.results.toList) rfl (by simp) (fun G => ?_)
  repeat' first | refine J_stop (c := .seq (.region 2 _ _) _) ?_ | refine J_seq ?_ | refine J_region Tryz.tyOK ?_ | refine J_block ?_ | refine J_cond ?_ | refine J_ret ?_ | refine J_skip ?_ | refine J_exit ?_ | refine J_scope ?_ | refine CondP.y ?_ | refine CondP.n ?_ | refine CondP.mk (fun h => ?_) (fun h => ?_) | refine EqP.mk rfl ?_ | refine NewP.mk (fun ad => ?_) | refine ArP.x ?_ | refine SideP.a ?_ | (refine CallP.mk [] _ [intsF e1 la l] _ cs (List.Perm.refl _) (fun _ h => by simp only [allD, allD_append, List.cons_append, List.nil_append, and_true] at h ⊢; simp only [h, and_self]) (fun v L' D' hq => ?_); obtain ⟨s, rfl, hr15, rfl, rfl⟩ := hq) | fail
  refine ⟨?_⟩
  obtain ⟨hps, hsb⟩ := valid_pgs hr15.valid
  have cv := view31_ok s U hps hsb
  have cb := FnS.rf (refBuild_ok s hps)
  have hbl := buildT_len s hps
  have hbn := fun r hr => buildT_n hps (r := r) hr
  generalize buildT s.pl = X at *
  refine J_cut (x := .region 2 _ _) (α := List PG × Option Addr × Nat × VT × Nat) (fun z => [(1, .c (.sl ma m.length mc)), (2, .c (.sl qa q.length qc)), (9, .c (.p 0 ad 0)), (10, .c (.p 1 z.2.2.2.2 0))]) (fun z => [.box 1 z.2.2.2.2 32 [.sl z.2.1 z.1.length z.2.2.1, slK z.2.2.2.1.gs, slK z.2.2.2.1.rs, slK z.2.2.2.1.us, slK z.2.2.2.1.gp, .i .i64 z.2.2.2.1.ck, slK z.2.2.2.1.fx], .box 0 ad 42 s.cells]) (fun z => [slFact 0 4 z.2.1 z.1.length (pgC z.1), stF s, intsF e2 ma m, intsF e3 qa q]) 2 (fun z => z.1.Sublist (s.pages.map pgOfM)) ?_ (fun z hz => ?_)
  · repeat' first | refine J_seq ?_ | refine J_region Tryz.tyOK ?_ | refine J_block ?_ | refine J_cond ?_ | refine J_ret ?_ | refine J_skip ?_ | refine J_exit ?_ | refine J_scope ?_ | refine CondP.y ?_ | refine CondP.n ?_ | refine CondP.mk (fun h => ?_) (fun h => ?_) | refine EqP.mk rfl ?_ | refine NewP.mk (fun ad => ?_) | refine ArP.x ?_ | refine SideP.a ?_ | refine J_drawP (id := 2) Tryz.tyOK (by kernel_rfl) [0, 0, 0, 6, 14, 30, 63, 0, 255] (.node [0, 2] 1 (.node [3] 4 (.node [] 5 (.node [] 6 (.leaf [7, 8]) 7 (.leaf [6, 8])) 7 (.leaf [5, 6, 8])) 7 (.leaf [4, 5, 6, 8])) 7 (.leaf [1, 3, 4, 5, 6, 8])) [1, 4, 5, 6, 7, 8] [9, 21] 8 false (by kernel_rfl) ?_ | refine TwoP.mk ?_ ?_ | refine J_drawS (id := 9) Tryz.tyOK (by kernel_rfl) [0, 0, 0, 6, 14, 30, 63, 127] [0, 1, 2, 3, 4, 5, 6, 7] [] [10, 37] false (by kernel_rfl) ?_ | refine J_drawS (id := 11) Tryz.tyOK (by kernel_rfl) [0, 1, 3, 3, 3, 19, 63, 3, 3, 511, 3, 3, 3071, 8191, 16383, 32767, 65535] [0, 1, 2, 3, 4, 5, 6, 7, 8, 10, 11, 9, 12, 13, 14, 15, 16] [9] [10] false (by kernel_rfl) ?_ | refine EntP.mk Ents.a ?_ | (refine CallP.mk [] _ [] _ users_ok (List.Perm.refl _) (fun _ _ => trivial) (fun v L' D' hq => ?_); obtain ⟨ua, uc, rfl, rfl, rfl⟩ := hq) | refine CallQ.mk [] _ crd (fun _ _ => trivial) ?_ | refine IdxE.mk 9 1 (sC usersL) (.inr fun m h => h.1) (by omega) (by omega) ?_ | refine LoadE.mk 9 _ _ [.s U] (.inr fun m h => h.1) (by omega) (by omega) (by omega) (by exact hus) ?_ | (refine CallP.mk [] _ [stF s] _ cv (List.Perm.refl _) (fun _ h => by simp only [allD, allD_append, List.cons_append, List.nil_append, and_true] at h ⊢; simp only [h, and_self]) (fun v L' D' hq => ?_); obtain ⟨ps, pa, pc, vt, hsub, rfl, rfl, rfl⟩ := hq) | refine InFam.mk (ps, pa, pc, vt, ad) hsub SubE.a (Ents.facts (fun _ h => by simp only [allD, allD_append, List.cons_append, List.nil_append, and_true] at h ⊢; simp only [h, and_self])) | fail
  obtain ⟨ps, pa, pc, vt, ad1⟩ := z
  have hsub : ps.Sublist (s.pages.map pgOfM) := hz
  have hpl : ps.length ≤ 200 := by have := hsub.length_le; rw [List.length_map] at this; have := hps.n; omega
  dsimp only
  clear cs cv hus crd
  repeat' first | refine J_seq ?_ | refine J_region Tryz.tyOK ?_ | refine J_block ?_ | refine J_cond ?_ | refine J_ret ?_ | refine J_skip ?_ | refine J_exit ?_ | refine J_scope ?_ | refine CondP.y ?_ | refine CondP.n ?_ | refine CondP.mk (fun h => ?_) (fun h => ?_) | refine EqP.mk rfl ?_ | refine NewP.mk (fun ad => ?_) | refine ArP.x ?_ | refine SideP.a ?_ | (refine CallP.mk [] _ [stF s] _ cb (List.Perm.refl _) (fun _ h => by simp only [allD, allD_append, List.cons_append, List.nil_append, and_true] at h ⊢; simp only [h, and_self]) (fun v L' D' hq => ?_); obtain ⟨xa, xc, rfl, rfl, rfl⟩ := hq) | (refine CallP.mk [] _ [intsF e2 ma m] _ cr (List.Perm.refl _) (fun _ h => by simp only [allD, allD_append, List.cons_append, List.nil_append, and_true] at h ⊢; simp only [h, and_self]) (fun v L' D' hq => ?_); obtain ⟨ra, rc, rfl, rfl, rfl⟩ := hq) | fail
  have hrr : ∀ L, Reads L [slFact 60 4 ra R.length (wrC R), slFact 60 4 xa X.length (wrC X), slFact 0 4 pa ps.length (pgC ps), intsF e3 qa q] 60 4 ra R.length (wrC R) := fun L => .inr fun m h => h.1
  refine J_loop (α := Nat × List WR × Option Addr × Nat) (fun x => [(2, .c (.sl qa q.length qc)), (10, .c (.p 1 ad1 0)), (11, .c (.sl xa X.length xc)), (12, .c (.sl ra R.length rc)), (13, .c (.sl x.2.2.1 x.2.1.length x.2.2.2)), (14, .c (.i .i64 x.1))]) (fun x => [.row 60 4 x.2.2.1 x.2.1.length x.2.2.2 (wrC x.2.1), .box 1 ad1 32 [.sl pa ps.length pc, slK vt.gs, slK vt.rs, slK vt.us, slK vt.gp, .i .i64 vt.ck, slK vt.fx]]) (fun _ => [slFact 60 4 ra R.length (wrC R), slFact 60 4 xa X.length (wrC X), slFact 0 4 pa ps.length (pgC ps), intsF e3 qa q]) 2
    (fun x => x.1 ≤ R.length ∧ x.2.1.length ≤ x.1 ∧ (∀ r ∈ x.2.1, ∀ p ∈ ps, ¬ (p.sp = r.sp ∧ p.nm = r.nm)) ∧ ∀ r ∈ x.2.1, -1099511627776 ≤ r.n ∧ r.n ≤ 1099511627776) (fun x => R.length - x.1) (InFam.mk (0, [], none, 0) ⟨Nat.zero_le _, Nat.le_refl _, (fun _ h => by cases h), (fun _ h => by cases h)⟩ SubE.a ((Ents.nilRow (ety := 60) (esz := 4)).trans (Ents.ofSub (by repeat (first | exact List.Sublist.slnil | refine List.Sublist.cons_cons _ ?_ | refine List.Sublist.cons _ ?_)) (fun _ h => by simp only [allD, allD_append, List.cons_append, List.nil_append, and_true] at h ⊢; simp only [h, and_self])))) (fun x hx => ?_)
  clear cb cr
  obtain ⟨i, y, b1, d1⟩ := x
  dsimp only at hx ⊢
  obtain ⟨hi, hyl, hyn, hyb⟩ := hx
  by_cases hlt : i < R.length
  · have hg := wr_get hlt
    have hg2 := wr_get2 hlt
    have hxn := hrn R[i] (List.getElem_mem hlt)
    generalize R[i] = x at *
    have ci := in33_ok 0 pa pc ps vt x.sp x.nm (by omega)
    have hln : (y ++ [x]).length = y.length + 1 := by simp
    have hrow : wrC (y ++ [x]) = wrC y ++ [.s x.w, .i .i64 x.sp, .s x.nm, .i .i64 x.n] := by simp [wrC, WR.cells]
    have hnew : (ps.any fun p => decide (p.sp = x.sp ∧ p.nm = x.nm)) = false → (∀ r ∈ y ++ [x], ∀ p ∈ ps, ¬ (p.sp = r.sp ∧ p.nm = r.nm)) ∧ ∀ r ∈ y ++ [x], -1099511627776 ≤ r.n ∧ r.n ≤ 1099511627776 := fun h => by
      refine ⟨fun r hr p hp e => ?_, fun r hr => ?_⟩
      · rcases List.mem_append.1 hr with hr | hr
        · exact hyn r hr p hp e
        · rw [List.mem_singleton.1 hr] at e
          have := List.any_eq_false.1 h p hp
          exact this (decide_eq_true e)
      · rcases List.mem_append.1 hr with hr | hr
        · exact hyb r hr
        · rw [List.mem_singleton.1 hr]; omega
    clear hbn hbl
    repeat' first | refine J_seq ?_ | refine J_region Tryz.tyOK ?_ | refine J_block ?_ | refine J_cond ?_ | refine J_ret ?_ | refine J_skip ?_ | refine J_exit ?_ | refine J_scope ?_ | refine CondP.y ?_ | refine CondP.n ?_ | refine CondP.mk (fun h => ?_) (fun h => ?_) | refine EqP.mk rfl ?_ | refine NewP.mk (fun ad => ?_) | refine ArP.x ?_ | refine SideP.a ?_ | refine J_drawZ (id := 2) Tryz.tyOK (by kernel_rfl) [0, 0, 0, 6, 14, 30, 63, 0, 255] [0, 1, 2, 3, 4, 5, 6, 7, 8] [7, 8] [9, 21] 8 false (by kernel_rfl) ?_ | refine J_drawS (id := 9) Tryz.tyOK (by kernel_rfl) [0, 0, 0, 6, 14, 30, 63, 127] [0, 1, 2, 3, 4, 5, 6, 7] [6] [10, 37] false (by kernel_rfl) ?_ | refine J_drawS (id := 11) Tryz.tyOK (by kernel_rfl) [0, 1, 3, 3, 3, 19, 63, 3, 3, 511, 3, 3, 3071, 8191, 16383, 32767, 65535] [0, 1, 2, 3, 4, 5, 6, 7, 8, 10, 11, 9, 12, 13, 14, 15, 16] [9] [10] false (by kernel_rfl) ?_ | refine EntP.mk Ents.a ?_ | refine IdxE.mk 60 4 _ (hrr _) (by omega) (by omega) ?_ | refine FldE.mk 60 4 _ _ (hrr _) (by omega) ?_ | refine LoadE.mk 60 _ _ [.i .i64 x.sp, .s x.nm] (hrr _) (by omega) (by omega) (by first | omega | decide) (by exact hg2) ?_ | refine LoadE.mk 60 _ _ [.s x.w, .i .i64 x.sp, .s x.nm, .i .i64 x.n] (hrr _) (by omega) (by omega) (by first | omega | decide) (by exact hg) ?_ | refine CallP.isB ci (fun hb => ?_) (fun hb => ?_) (fun _ h => by simp only [allD, allD_append, List.cons_append, List.nil_append, and_true] at h ⊢; simp only [h, and_self]) | (refine AppE.row [_] _ (wrC y) [.s x.w, .i .i64 x.sp, .s x.nm, .i .i64 x.n] 1 rfl (SrcE.sl 60 60 _ _ 1 1 _ rfl rfl (.inl ⟨1, List.Mem.head _⟩) rfl) (by dsimp only; omega) (fun a' c' => ?_); rw [← hln, ← hrow]) | refine Round.mk (i + 1, y ++ [x], a', c') (by dsimp only; omega) ⟨by dsimp only; omega, by dsimp only; omega, (hnew hb).1, (hnew hb).2⟩ SubE.a Ents.a | refine Round.mk (i + 1, y, b1, d1) (by dsimp only; omega) ⟨by dsimp only; omega, by dsimp only; omega, hyn, hyb⟩ SubE.a Ents.a | fail
  · have hvis := findT_skip (l := X) Q hyn
    have hfl := findT_len X ps Q
    have cF1 := FnS.hf (find_ok 60 0 xa pa xc pc X ps vt Q (by omega) (fun r hr => by have := hbn r hr; omega) (by omega) (by omega))
    have cF2 := fun a' c' => FnS.hf (find_ok 60 0 a' pa c' pc (y ++ X) ps vt Q (by rw [List.length_append]; omega) (fun r hr => by rcases List.mem_append.1 hr with hr | hr; exact hyb r hr; have := hbn r hr; omega) (by omega) (by omega))
    rw [hvis] at cF2
    have hln : (y ++ X).length = y.length + X.length := List.length_append
    have hrow : wrC (y ++ X) = wrC y ++ wrC X := by simp [wrC]
    clear hvis hbn hyn hyb hrn
    generalize findT X ps Q = F at *
    have csm := fun a b c d => sameHits_ok 52 52 a b c d F (by omega)
    repeat' first | refine J_seq ?_ | refine J_region Tryz.tyOK ?_ | refine J_block ?_ | refine J_cond ?_ | refine J_ret ?_ | refine J_skip ?_ | refine J_exit ?_ | refine J_scope ?_ | refine CondP.y ?_ | refine CondP.n ?_ | refine CondP.mk (fun h => ?_) (fun h => ?_) | refine EqP.mk rfl ?_ | refine NewP.mk (fun ad => ?_) | refine ArP.x ?_ | refine SideP.a ?_ | refine J_drawZ (id := 2) Tryz.tyOK (by kernel_rfl) [0, 0, 0, 6, 14, 30, 63, 0, 255] [0, 1, 2, 3, 4, 5, 6, 7, 8] [7, 8] [9, 21] 8 false (by kernel_rfl) ?_ | refine J_drawS (id := 9) Tryz.tyOK (by kernel_rfl) [0, 0, 0, 6, 14, 30, 63, 127] [0, 1, 2, 3, 4, 5, 6, 7] [] [10, 37] false (by kernel_rfl) ?_ | refine J_drawS (id := 11) Tryz.tyOK (by kernel_rfl) [0, 1, 3, 3, 3, 19, 63, 3, 3, 511, 3, 3, 3071, 8191, 16383, 32767, 65535] [0, 1, 2, 3, 4, 7, 8, 10, 11, 5, 6, 9, 12, 13, 14, 15, 16] [0, 5, 6, 9, 12, 13, 14] [10] false (by kernel_rfl) ?_ | refine EntP.mk Ents.a ?_ | refine CallP.is awake_ok ?_ | refine CallP.is cq ?_ (fun _ h => by simp only [allD, allD_append, List.cons_append, List.nil_append, and_true] at h ⊢; simp only [h, and_self]) | (refine CallP.mk [] _ [_, _] _ cF1 (List.Perm.refl _) (fun _ h => by simp only [allD, allD_append, List.cons_append, List.nil_append, and_true] at h ⊢; simp only [h, and_self]) (fun v L' D' hq => ?_); obtain ⟨fa, fc, rfl, rfl, rfl⟩ := hq) | (refine CallP.mkE [] _ [_, _] _ _ (cF2 _ _) Ents.toFact (fun _ h => by simp only [allD, allD_append, List.cons_append, List.nil_append, and_true] at h ⊢; simp only [h, and_self]) (fun v L' D' hq => ?_); obtain ⟨ga, gc, rfl, rfl, rfl⟩ := hq) | (refine AppE.row [] _ (wrC y) (wrC X) X.length rfl (SrcE.sl 60 60 _ _ _ _ _ rfl rfl (.inr (fun _ h => by simp only [allD, allD_append, List.cons_append, List.nil_append, and_true] at h; first | exact h | exact h.1 | exact h.2.1 | exact h.2.2.1 | exact h.2.2.2.1 | exact h.2.2.2.2.1 | exact h.2.2.2.2.2.1 | exact h.2.2.2.2.2 | exact h.2.2.2.2 | exact h.2.2.2 | exact h.2.2 | exact h.2)) (wrC_len X)) (by dsimp only; omega) (fun a' c' => ?_); rw [← hln, ← hrow]) | refine CallP.is (csm _ _ _ _) ?_ (fun _ h => by simp only [allD, allD_append, List.cons_append, List.nil_append, and_true] at h ⊢; simp only [h, and_self]) | refine FinE.is rfl | fail
end Go.Proofs

/- This text walks through the functions that tell whether inputs are small: moderate of the statements of chapter 35, SmallView and Small of trcgen2. -/
namespace Go.Proofs
open Go Go.X
set_option maxRecDepth 100000
set_option maxHeartbeats 4000000
theorem moderate_ok (e : Nat) (a : Option Addr) (c : Nat) (l : List WR) (hl : l.length ≤ 9223372036854775807) : FnS Tryz.prog 8 [.c (.sl a l.length c)] [] [slFact e 4 a l.length (wrC l)] (BoolIf (l.length ≤ 30 ∧ ∀ r ∈ l, -1099511627776 ≤ r.n ∧ r.n ≤ 1099511627776)) := by
  have hrd : ∀ L, Reads L [slFact e 4 a l.length (wrC l)] e 4 a l.length (wrC l) := fun L => .inr fun m h => h.1
  refine fn_of_J Tryz.tyOK 0 Tryz.func8 (by kernel_rfl) (c := Tryz.f8.body.getD .skip) (by kernel_rfl) Tryz.ntmps8 (rs := Tryz.f8.results.toList) rfl (by simp) (fun G => ?_)
  repeat' first | refine J_seq ?_ | refine J_region Tryz.tyOK ?_ | refine J_block ?_ | refine J_cond ?_ | refine J_ret ?_ | refine J_skip ?_ | refine J_exit ?_ | refine J_scope ?_ | refine CondP.y ?_ | refine CondP.n ?_ | refine CondP.mk (fun h => ?_) (fun h => ?_) | refine EqP.mk rfl ?_ | refine NewP.mk (fun ad => ?_) | refine ArP.x ?_ | refine SideP.a ?_ | fail
  refine J_loop (α := Nat) (fun i => [(0, .c (.sl a l.length c)), (3, .c (.i .i64 i))]) (fun _ => []) (fun _ => [slFact e 4 a l.length (wrC l)]) 0
    (fun i => i ≤ l.length ∧ i ≤ 30 ∧ ∀ r ∈ l.take i, -1099511627776 ≤ r.n ∧ r.n ≤ 1099511627776) (fun i => l.length - i) (InFam.mk 0 ⟨Nat.zero_le _, Nat.zero_le _, fun _ h => by cases h⟩ SubE.a (Ents.refl _ _)) (fun i hx => ?_)
  obtain ⟨hi, hi3, hal⟩ := hx
  have hgood : l.length ≤ 30 → ¬ (i < l.length ∧ i < 30) → l.length ≤ 30 ∧ ∀ r ∈ l, -1099511627776 ≤ r.n ∧ r.n ≤ 1099511627776 := fun h h1 => by
    have : i = l.length := by omega
    subst this
    rw [List.take_length] at hal
    exact ⟨h, hal⟩
  by_cases hlt : i < l.length ∧ i < 30
  · obtain ⟨hlt, hl3⟩ := hlt
    have hg := wr_n hlt
    have hnext : -1099511627776 ≤ l[i].n ∧ l[i].n ≤ 1099511627776 → ∀ r ∈ l.take (i + 1), -1099511627776 ≤ r.n ∧ r.n ≤ 1099511627776 := fun h r hr => by
      rw [List.take_succ_eq_append_getElem hlt] at hr
      rcases List.mem_append.1 hr with hr | hr
      · exact hal r hr
      · rw [List.mem_singleton.1 hr]; exact h
    clear hgood hal
    generalize l[i] = x at *
    repeat' first | refine J_seq ?_ | refine J_region Tryz.tyOK ?_ | refine J_block ?_ | refine J_cond ?_ | refine J_ret ?_ | refine J_skip ?_ | refine J_exit ?_ | refine J_scope ?_ | refine CondP.y ?_ | refine CondP.n ?_ | refine CondP.mk (fun h => ?_) (fun h => ?_) | refine EqP.mk rfl ?_ | refine NewP.mk (fun ad => ?_) | refine ArP.x ?_ | refine SideP.a ?_ | fail | refine IdxE.mk e 4 _ (hrd _) (by omega) (by omega) ?_ | refine FldE.mk e 4 _ _ (hrd _) (by omega) ?_ | refine LoadE.mk e _ _ [.i .i64 x.n] (hrd _) (by omega) (by omega) (by first | omega | decide) (by exact hg) ?_ | refine Round.mk (i + 1) (by omega) ⟨by omega, by omega, hnext (by omega)⟩ SubE.a Ents.a | refine FinE.mk [] [] ⟨false, rfl, (fun h => absurd h (by decide)), rfl, rfl⟩ (Ents.dropAll.trans (Ents.facts fun _ _ => trivial)) | fail
  · repeat' first | refine J_seq ?_ | refine J_region Tryz.tyOK ?_ | refine J_block ?_ | refine J_cond ?_ | refine J_ret ?_ | refine J_skip ?_ | refine J_exit ?_ | refine J_scope ?_ | refine CondP.y ?_ | refine CondP.n ?_ | refine CondP.mk (fun h => ?_) (fun h => ?_) | refine EqP.mk rfl ?_ | refine NewP.mk (fun ad => ?_) | refine ArP.x ?_ | refine SideP.a ?_ | refine FinE.mk [] [] ⟨true, rfl, (fun _ => hgood (by omega) hlt), rfl, rfl⟩ (Ents.dropAll.trans (Ents.facts fun _ _ => trivial)) | refine FinE.mk [] [] ⟨false, rfl, (fun h => absurd h (by decide)), rfl, rfl⟩ (Ents.dropAll.trans (Ents.facts fun _ _ => trivial)) | fail
theorem smallView_ok (e : Nat) (pa : Option Addr) (pc : Nat) (ps : List PG) (vt : VT) (hl : ps.length ≤ 9223372036854775807) :
    FnS Tryz.prog 9 [.agg [.sl pa ps.length pc, slK vt.gs, slK vt.rs, slK vt.us, slK vt.gp, .i .i64 vt.ck, slK vt.fx]] [] [slFact e 4 pa ps.length (pgC ps)] (BoolIf (ps.length ≤ 10)) := by
  have hrd : ∀ L, Reads L [slFact e 4 pa ps.length (pgC ps)] e 4 pa ps.length (pgC ps) := fun L => .inr fun m h => h.1
  obtain ⟨⟨g1, g2, g3⟩, ⟨r1, r2, r3⟩, ⟨u1, u2, u3⟩, ⟨p1, p2, p3⟩, ck, ⟨x1, x2, x3⟩⟩ := vt
  dsimp only [slK]
  refine fn_of_J Tryz.tyOK 0 Tryz.func9 (by kernel_rfl) (c := Tryz.f9.body.getD .skip) (by kernel_rfl) Tryz.ntmps9 (rs := Tryz.f9.results.toList) rfl (by simp) (fun G => ?_)
  repeat' first | refine FinE.mk [] [] ⟨false, rfl, (fun h => absurd h (by decide)), rfl, rfl⟩ (Ents.dropAll.trans (Ents.facts fun _ _ => trivial)) | refine J_seq ?_ | refine J_region Tryz.tyOK ?_ | refine J_block ?_ | refine J_cond ?_ | refine J_ret ?_ | refine J_skip ?_ | refine J_exit ?_ | refine J_scope ?_ | refine CondP.y ?_ | refine CondP.n ?_ | refine CondP.mk (fun h => ?_) (fun h => ?_) | refine EqP.mk rfl ?_ | refine NewP.mk (fun ad => ?_) | refine ArP.x ?_ | refine SideP.a ?_ | refine J_loop (α := Nat) (fun i => [(1, .c (.p 0 ad 0)), (3, .c (.i .i64 i))]) (fun _ => [.box 0 ad 32 [.sl pa ps.length pc, .sl g1 g2 g3, .sl r1 r2 r3, .sl u1 u2 u3, .sl p1 p2 p3, .i .i64 ck, .sl x1 x2 x3]]) (fun _ => [slFact e 4 pa ps.length (pgC ps)]) 1 (fun i => i ≤ ps.length ∧ ps.length ≤ 10) (fun i => ps.length - i) (InFam.mk 0 ⟨Nat.zero_le _, by omega⟩ SubE.a (Ents.refl _ _)) (fun i hx => J_stop ?_) | fail
  refine ⟨?_⟩
  obtain ⟨hi, h10⟩ := hx
  by_cases hlt : i < ps.length
  · have hg1 := pg_text hlt
    have hg2 := pg_name hlt
    generalize ps[i] = x at *
    repeat' first | refine J_seq ?_ | refine J_region Tryz.tyOK ?_ | refine J_block ?_ | refine J_cond ?_ | refine J_ret ?_ | refine J_skip ?_ | refine J_exit ?_ | refine J_scope ?_ | refine CondP.y ?_ | refine CondP.n ?_ | refine CondP.mk (fun h => ?_) (fun h => ?_) | refine EqP.mk rfl ?_ | refine NewP.mk (fun ad => ?_) | refine ArP.x ?_ | refine SideP.a ?_ | fail | refine IdxE.mk e 4 _ (hrd _) (by omega) (by omega) ?_ | refine FldE.mk e 4 _ _ (hrd _) (by omega) ?_ | refine LoadE.mk e _ _ [.s x.tx] (hrd _) (by omega) (by omega) (by first | omega | decide) (by exact hg1) ?_ | refine LoadE.mk e _ _ [.s x.nm] (hrd _) (by omega) (by omega) (by first | omega | decide) (by exact hg2) ?_ | refine Round.mk (i + 1) (by omega) ⟨by omega, h10⟩ SubE.a Ents.a | refine FinE.mk [] [] ⟨false, rfl, (fun h => absurd h (by decide)), rfl, rfl⟩ (Ents.dropAll.trans (Ents.facts fun _ _ => trivial)) | fail
  · repeat' first | refine J_seq ?_ | refine J_region Tryz.tyOK ?_ | refine J_block ?_ | refine J_cond ?_ | refine J_ret ?_ | refine J_skip ?_ | refine J_exit ?_ | refine J_scope ?_ | refine CondP.y ?_ | refine CondP.n ?_ | refine CondP.mk (fun h => ?_) (fun h => ?_) | refine EqP.mk rfl ?_ | refine NewP.mk (fun ad => ?_) | refine ArP.x ?_ | refine SideP.a ?_ | refine FinE.mk [] [] ⟨true, rfl, (fun _ => h10), rfl, rfl⟩ (Ents.dropAll.trans (Ents.facts fun _ _ => trivial)) | fail
end Go.Proofs

/- This text walks through the function SearchFinds of the statements of chapter 35. -/
namespace Go.Proofs
open Go Go.X
set_option maxRecDepth 100000
set_option maxHeartbeats 4000000
theorem searchFinds_ok (e1 e2 e3 e4 e5 : Nat) (aa va la ma qa : Option Addr) (ac vc lc mc qc : Nat) (A : List WR) (vp : List PG) (vt0 : VT) (tx : List UInt8) (l m q : List Int) (who : Int) (hA : A.length ≤ 9223372036854775807) (hvp : vp.length ≤ 9223372036854775807) (hl : l.length ≤ maxLen) (hm : m.length ≤ maxLen) (hq : q.length ≤ maxLen) :
    FnS Tryz.prog 3 [.c (.sl aa A.length ac), .agg [.sl va vp.length vc, slK vt0.gs, slK vt0.rs, slK vt0.us, slK vt0.gp, .i .i64 vt0.ck, slK vt0.fx], .c (.s tx), .c (.sl la l.length lc), .c (.sl ma m.length mc), .c (.sl qa q.length qc), .c (.i .i64 who)] [] [slFact e1 4 aa A.length (wrC A), slFact e2 4 va vp.length (pgC vp), intsF e3 la l, intsF e4 ma m, intsF e5 qa q] (Is tt) := by
  have cmo := moderate_ok e1 aa ac A hA
  have csv := smallView_ok e2 va vc vp vt0 hvp
  have cs := genState_ok e3 la lc l hl
  have cr := FnS.rf (genRows_ok e4 ma mc m hm)
  have cq := query_ok e5 qa qc q hq
  have hql := queryL_len q
  have hrl := genRows_len m
  have hrn := fun r hr => genRows_n m (r := r) hr
  have hr := roundI_range who (n := 4) (by omega)
  have hus := users_get hr.1 hr.2
  have crd := round_ok who 4 (by omega) (by omega)
  generalize genRows m = R at *
  generalize queryL q = Q at *
  generalize usersL.getD (roundI who 4).toNat [] = U at *
  generalize roundI who 4 = w4 at *
  refine fn_of_J Tryz.tyOK 0 Tryz.func3 (by kernel_rfl) (c := Tryz.f3.body.getD .skip) (by kernel_rfl) Tryz.ntmps3 (rs := Tryz.f3.results.toList) rfl (by simp) (fun G => ?_)
  repeat' first | refine J_stop (c := .seq (.region 4 _ _) _) ?_ | refine J_seq ?_ | refine J_region Tryz.tyOK ?_ | refine J_block ?_ | refine J_cond ?_ | refine J_ret ?_ | refine J_skip ?_ | refine J_exit ?_ | refine J_scope ?_ | refine CondP.y ?_ | refine CondP.n ?_ | refine CondP.mk (fun h => ?_) (fun h => ?_) | refine EqP.mk rfl ?_ | refine NewP.mk (fun ad => ?_) | refine ArP.x ?_ | refine SideP.a ?_ | (refine CallP.mk [] _ [slFact e1 4 aa A.length (wrC A)] _ cmo (List.Perm.refl _) (fun _ h => by simp only [allD, allD_append, List.cons_append, List.nil_append, and_true] at h ⊢; simp only [h, and_self]) (fun v L' D' hq => ?_); obtain ⟨b1, rfl, hb1, rfl, rfl⟩ := hq; cases b1) | (refine CallP.mk [] _ [slFact e2 4 va vp.length (pgC vp)] _ csv (List.Perm.refl _) (fun _ h => by simp only [allD, allD_append, List.cons_append, List.nil_append, and_true] at h ⊢; simp only [h, and_self]) (fun v L' D' hq => ?_); obtain ⟨b2, rfl, hb2, rfl, rfl⟩ := hq; cases b2) | (refine CallP.mk [] _ [intsF e3 la l] _ cs (List.Perm.refl _) (fun _ h => by simp only [allD, allD_append, List.cons_append, List.nil_append, and_true] at h ⊢; simp only [h, and_self]) (fun v L' D' hq => ?_); obtain ⟨s, rfl, hr15, rfl, rfl⟩ := hq) | refine CallP.is awake_ok ?_ | refine FinE.is rfl | fail
  rename_i ad0
  have htx : tx.length ≤ 300 := by omega
  obtain ⟨hA30, hAb⟩ := hb1 rfl
  have hv10 := hb2 rfl
  refine ⟨?_⟩
  obtain ⟨hps, hsb⟩ := valid_pgs hr15.valid
  have cv := view31_ok s U hps hsb
  have cb := FnS.rf (refBuild_ok s hps)
  have hbl := buildT_len s hps
  have hbn := fun r hr => buildT_n hps (r := r) hr
  generalize buildT s.pl = X at *
  refine J_cut (x := .region 4 _ _) (α := List PG × Option Addr × Nat × VT × Nat) (fun z => [(0, .c (.sl aa A.length ac)), (2, .c (.s tx)), (4, .c (.sl ma m.length mc)), (5, .c (.sl qa q.length qc)), (8, .c (.p 0 ad0 0)), (15, .c (.p 1 ad 0)), (16, .c (.p 2 z.2.2.2.2 0))]) (fun z => [.box 2 z.2.2.2.2 32 [.sl z.2.1 z.1.length z.2.2.1, slK z.2.2.2.1.gs, slK z.2.2.2.1.rs, slK z.2.2.2.1.us, slK z.2.2.2.1.gp, .i .i64 z.2.2.2.1.ck, slK z.2.2.2.1.fx], .box 1 ad 42 s.cells, .box 0 ad0 32 [.sl va vp.length vc, slK vt0.gs, slK vt0.rs, slK vt0.us, slK vt0.gp, .i .i64 vt0.ck, slK vt0.fx]]) (fun z => [slFact 0 4 z.2.1 z.1.length (pgC z.1), stF s, slFact e1 4 aa A.length (wrC A), slFact e2 4 va vp.length (pgC vp), intsF e4 ma m, intsF e5 qa q]) 3 (fun z => z.1.Sublist (s.pages.map pgOfM)) ?_ (fun z hz => ?_)
  · repeat' first | refine J_seq ?_ | refine J_region Tryz.tyOK ?_ | refine J_block ?_ | refine J_cond ?_ | refine J_ret ?_ | refine J_skip ?_ | refine J_exit ?_ | refine J_scope ?_ | refine CondP.y ?_ | refine CondP.n ?_ | refine CondP.mk (fun h => ?_) (fun h => ?_) | refine EqP.mk rfl ?_ | refine NewP.mk (fun ad => ?_) | refine ArP.x ?_ | refine SideP.a ?_ | refine J_drawP (id := 4) Tryz.tyOK (by kernel_rfl) [0, 0, 0, 6, 14, 30, 63, 0, 255] (.node [0, 2] 1 (.node [3] 4 (.node [] 5 (.node [] 6 (.leaf [7, 8]) 7 (.leaf [6, 8])) 7 (.leaf [5, 6, 8])) 7 (.leaf [4, 5, 6, 8])) 7 (.leaf [1, 3, 4, 5, 6, 8])) [1, 4, 5, 6, 7, 8] [15, 38] 8 false (by kernel_rfl) ?_ | refine TwoP.mk ?_ ?_ | refine J_drawS (id := 6) Tryz.tyOK (by kernel_rfl) [0, 1, 3, 3, 3, 31, 3, 3, 3, 511, 1023, 2047, 4095, 8191, 8191, 8191, 40959, 131071, 8191, 8191, 8191, 1310719, 4194303, 8388607, 16777215, 33554431, 67108863, 67108863, 67108863, 335544319, 1073741823, 67108863, 67108863, 67108863, 10737418239, 34359738367, 68719476735, 137438953471, 274877906943, 549755813887, 549755813887, 549755813887, 4398046511103, 549755813887, 549755813887, 549755813887, 70368744177663, 140737488355327, 281474976710655, 562949953421311, 1125899906842623, 2251799813685247, 1125899906842623, 1125899906842623, 13510798882111487, 36028797018963967, 1125899906842623, 144115188075855871, 1125899906842623, 1125899906842623, 864691128455135231, 2305843009213693951, 4611686018427387903, 9223372036854775807, 18446744073709551615] [0, 1, 2, 3, 4, 5, 6, 7, 8, 9, 10, 11, 12, 13, 14, 15, 16, 17, 18, 19, 20, 21, 22, 23, 24, 25, 26, 27, 28, 29, 30, 31, 32, 33, 34, 35, 36, 37, 38, 39, 40, 41, 42, 43, 44, 45, 46, 47, 48, 49, 50, 51, 52, 53, 54, 55, 56, 57, 58, 59, 60, 61, 62, 63, 64] [] [8, 16] false (by kernel_rfl) ?_ | refine EntP.mk Ents.a ?_ | (refine CallP.mk [] _ [] _ users_ok (List.Perm.refl _) (fun _ _ => trivial) (fun v L' D' hq => ?_); obtain ⟨ua, uc, rfl, rfl, rfl⟩ := hq) | refine CallQ.mk [] _ crd (fun _ _ => trivial) ?_ | refine IdxE.mk 9 1 (sC usersL) (.inr fun m h => h.1) (by omega) (by omega) ?_ | refine LoadE.mk 9 _ _ [.s U] (.inr fun m h => h.1) (by omega) (by omega) (by omega) (by exact hus) ?_ | (refine CallP.mk [] _ [stF s] _ cv (List.Perm.refl _) (fun _ h => by simp only [allD, allD_append, List.cons_append, List.nil_append, and_true] at h ⊢; simp only [h, and_self]) (fun v L' D' hq => ?_); obtain ⟨ps, pa, pc, vt, hsub, rfl, rfl, rfl⟩ := hq) | refine InFam.mk (ps, pa, pc, vt, ad) hsub SubE.a (Ents.facts (fun _ h => by simp only [allD, allD_append, List.cons_append, List.nil_append, and_true] at h ⊢; simp only [h, and_self])) | fail
  obtain ⟨ps, pa, pc, vt, ad1⟩ := z
  have hsub : ps.Sublist (s.pages.map pgOfM) := hz
  have hpl : ps.length ≤ 200 := by have := hsub.length_le; rw [List.length_map] at this; have := hps.n; omega
  dsimp only
  have bX : ∀ r ∈ X, -1099511627776 ≤ r.n ∧ r.n ≤ 1099511627776 := fun r hr => by have := hbn r hr; omega
  have bR : ∀ r ∈ R, -1099511627776 ≤ r.n ∧ r.n ≤ 1099511627776 := fun r hr => by have := hrn r hr; omega
  have p1 := FnS.hf (find_ok e1 e2 aa va ac vc A vp vt0 tx (by omega) hAb (by omega) (by omega))
  have r1 := FnS.hf (refFind_ok e1 e2 aa va ac vc A vp vt0 tx (by omega) hAb (by omega) (by omega))
  have p2 := FnS.hf (find_ok e1 e2 aa va ac vc A vp vt0 Q (by omega) hAb (by omega) (by omega))
  have r2 := FnS.hf (refFind_ok e1 e2 aa va ac vc A vp vt0 Q (by omega) hAb (by omega) (by omega))
  have p3 := fun xa xc => FnS.hf (find_ok 60 0 xa pa xc pc X ps vt Q (by omega) bX (by omega) (by omega))
  have r3 := fun xa xc => FnS.hf (refFind_ok 60 0 xa pa xc pc X ps vt Q (by omega) bX (by omega) (by omega))
  have p4 := fun xa xc => FnS.hf (find_ok 60 0 xa pa xc pc X ps vt tx (by omega) bX (by omega) (by omega))
  have r4 := fun xa xc => FnS.hf (refFind_ok 60 0 xa pa xc pc X ps vt tx (by omega) bX (by omega) (by omega))
  have p5 := fun xa xc => FnS.hf (find_ok 60 0 xa pa xc pc R ps vt Q (by omega) bR (by omega) (by omega))
  have r5 := fun xa xc => FnS.hf (refFind_ok 60 0 xa pa xc pc R ps vt Q (by omega) bR (by omega) (by omega))
  have l1 := findT_len A vp tx
  have l2 := findT_len A vp Q
  have l3 := findT_len X ps Q
  have l4 := findT_len X ps tx
  have l5 := findT_len R ps Q
  have s1 := fun a b c d => sameHits_ok 52 52 a b c d (findT A vp tx) (by omega)
  have s2 := fun a b c d => sameHits_ok 52 52 a b c d (findT A vp Q) (by omega)
  have s3 := fun a b c d => sameHits_ok 52 52 a b c d (findT X ps Q) (by omega)
  have s4 := fun a b c d => sameHits_ok 52 52 a b c d (findT X ps tx) (by omega)
  have s5 := fun a b c d => sameHits_ok 52 52 a b c d (findT R ps Q) (by omega)
  clear cs cv hus crd cmo csv hbl hbn hrn hrl hAb hA30 bX bR hb1 hb2 l1 l2 l3 l4 l5
  generalize findT A vp tx = F1 at *
  generalize findT A vp Q = F2 at *
  generalize findT X ps Q = F3 at *
  generalize findT X ps tx = F4 at *
  generalize findT R ps Q = F5 at *
  repeat' first | refine J_stop (c := .region 6 _ _) ?_ | refine J_seq ?_ | refine J_region Tryz.tyOK ?_ | refine J_block ?_ | refine J_cond ?_ | refine J_ret ?_ | refine J_skip ?_ | refine J_exit ?_ | refine J_scope ?_ | refine CondP.y ?_ | refine CondP.n ?_ | refine CondP.mk (fun h => ?_) (fun h => ?_) | refine EqP.mk rfl ?_ | refine NewP.mk (fun ad => ?_) | refine ArP.x ?_ | refine SideP.a ?_ | (refine CallP.mk [] _ [stF s] _ cb (List.Perm.refl _) (fun _ h => by simp only [allD, allD_append, List.cons_append, List.nil_append, and_true] at h ⊢; simp only [h, and_self]) (fun v L' D' hq => ?_); obtain ⟨xa, xc, rfl, rfl, rfl⟩ := hq) | fail
  refine ⟨?_⟩
  refine J_ent (n' := 3) (env' := [(0, .c (.sl aa A.length ac)), (2, .c (.s tx)), (4, .c (.sl ma m.length mc)), (5, .c (.sl qa q.length qc)), (8, .c (.p 0 ad0 0)), (16, .c (.p 2 ad1 0)), (17, .c (.sl xa X.length xc))]) (L' := [.box 2 ad1 32 [.sl pa ps.length pc, slK vt.gs, slK vt.rs, slK vt.us, slK vt.gp, .i .i64 vt.ck, slK vt.fx], .box 0 ad0 32 [.sl va vp.length vc, slK vt0.gs, slK vt0.rs, slK vt0.us, slK vt0.gp, .i .i64 vt0.ck, slK vt0.fx]]) (D' := [slFact 60 4 xa X.length (wrC X), slFact 0 4 pa ps.length (pgC ps), slFact e1 4 aa A.length (wrC A), slFact e2 4 va vp.length (pgC vp), intsF e4 ma m, intsF e5 qa q]) SubE.a (Ents.ofSub (by repeat (first | exact List.Sublist.slnil | refine List.Sublist.cons_cons _ ?_ | refine List.Sublist.cons _ ?_)) (fun _ h => by simp only [allD, allD_append, List.cons_append, List.nil_append, and_true] at h ⊢; simp only [h, and_self])) ?_
  clear cb
  repeat' first | refine J_seq ?_ | refine J_region Tryz.tyOK ?_ | refine J_block ?_ | refine J_cond ?_ | refine J_ret ?_ | refine J_skip ?_ | refine J_exit ?_ | refine J_scope ?_ | refine CondP.y ?_ | refine CondP.n ?_ | refine CondP.mk (fun h => ?_) (fun h => ?_) | refine EqP.mk rfl ?_ | refine NewP.mk (fun ad => ?_) | refine ArP.x ?_ | refine SideP.a ?_ | refine J_drawZ (id := 4) Tryz.tyOK (by kernel_rfl) [0, 0, 0, 6, 14, 30, 63, 0, 255] [0, 1, 2, 3, 4, 5, 6, 7, 8] [7, 8] [15, 38] 8 false (by kernel_rfl) ?_ | refine J_drawS (id := 6) Tryz.tyOK (by kernel_rfl) [0, 1, 3, 3, 3, 31, 3, 3, 3, 511, 1023, 2047, 4095, 8191, 8191, 8191, 40959, 131071, 8191, 8191, 8191, 1310719, 4194303, 8388607, 16777215, 33554431, 67108863, 67108863, 67108863, 335544319, 1073741823, 67108863, 67108863, 67108863, 10737418239, 34359738367, 68719476735, 137438953471, 274877906943, 549755813887, 549755813887, 549755813887, 4398046511103, 549755813887, 549755813887, 549755813887, 70368744177663, 140737488355327, 281474976710655, 562949953421311, 1125899906842623, 2251799813685247, 1125899906842623, 1125899906842623, 13510798882111487, 36028797018963967, 1125899906842623, 144115188075855871, 1125899906842623, 1125899906842623, 864691128455135231, 2305843009213693951, 4611686018427387903, 9223372036854775807, 18446744073709551615] [0, 1, 2, 3, 4, 6, 7, 8, 5, 9, 10, 11, 12, 13, 14, 15, 18, 19, 20, 16, 17, 21, 22, 23, 24, 25, 26, 27, 28, 31, 32, 33, 29, 30, 34, 35, 36, 37, 38, 39, 40, 41, 43, 44, 45, 42, 46, 47, 48, 49, 50, 52, 53, 56, 58, 59, 51, 54, 55, 57, 60, 61, 62, 63, 64] [0, 5, 9, 10, 16, 17, 21, 22, 23, 29, 30, 34, 35, 36, 42, 46, 47, 51, 54, 55, 57, 60, 61, 62] [8, 16] false (by kernel_rfl) ?_ | refine EntP.mk Ents.a ?_ | refine CallP.is awake_ok ?_ | refine CallP.is cq ?_ (fun _ h => by simp only [allD, allD_append, List.cons_append, List.nil_append, and_true] at h ⊢; simp only [h, and_self]) | (refine CallP.mk [] _ [intsF e4 ma m] _ cr (List.Perm.refl _) (fun _ h => by simp only [allD, allD_append, List.cons_append, List.nil_append, and_true] at h ⊢; simp only [h, and_self]) (fun v L' D' hq => ?_); obtain ⟨ra, rc, rfl, rfl, rfl⟩ := hq) | (refine CallP.mk [] _ [_, _] _ p1 (List.Perm.refl _) (fun _ h => by simp only [allD, allD_append, List.cons_append, List.nil_append, and_true] at h ⊢; simp only [h, and_self]) (fun v L' D' hq => ?_); obtain ⟨fa, fc, rfl, rfl, rfl⟩ := hq) | (refine CallP.mk [] _ [_, _] _ r1 (List.Perm.refl _) (fun _ h => by simp only [allD, allD_append, List.cons_append, List.nil_append, and_true] at h ⊢; simp only [h, and_self]) (fun v L' D' hq => ?_); obtain ⟨fa, fc, rfl, rfl, rfl⟩ := hq) | (refine CallP.mk [] _ [_, _] _ p2 (List.Perm.refl _) (fun _ h => by simp only [allD, allD_append, List.cons_append, List.nil_append, and_true] at h ⊢; simp only [h, and_self]) (fun v L' D' hq => ?_); obtain ⟨fa, fc, rfl, rfl, rfl⟩ := hq) | (refine CallP.mk [] _ [_, _] _ r2 (List.Perm.refl _) (fun _ h => by simp only [allD, allD_append, List.cons_append, List.nil_append, and_true] at h ⊢; simp only [h, and_self]) (fun v L' D' hq => ?_); obtain ⟨fa, fc, rfl, rfl, rfl⟩ := hq) | (refine CallP.mk [] _ [_, _] _ (p3 _ _) (List.Perm.refl _) (fun _ h => by simp only [allD, allD_append, List.cons_append, List.nil_append, and_true] at h ⊢; simp only [h, and_self]) (fun v L' D' hq => ?_); obtain ⟨fa, fc, rfl, rfl, rfl⟩ := hq) | (refine CallP.mk [] _ [_, _] _ (r3 _ _) (List.Perm.refl _) (fun _ h => by simp only [allD, allD_append, List.cons_append, List.nil_append, and_true] at h ⊢; simp only [h, and_self]) (fun v L' D' hq => ?_); obtain ⟨fa, fc, rfl, rfl, rfl⟩ := hq) | (refine CallP.mk [] _ [_, _] _ (p4 _ _) (List.Perm.refl _) (fun _ h => by simp only [allD, allD_append, List.cons_append, List.nil_append, and_true] at h ⊢; simp only [h, and_self]) (fun v L' D' hq => ?_); obtain ⟨fa, fc, rfl, rfl, rfl⟩ := hq) | (refine CallP.mk [] _ [_, _] _ (r4 _ _) (List.Perm.refl _) (fun _ h => by simp only [allD, allD_append, List.cons_append, List.nil_append, and_true] at h ⊢; simp only [h, and_self]) (fun v L' D' hq => ?_); obtain ⟨fa, fc, rfl, rfl, rfl⟩ := hq) | (refine CallP.mk [] _ [_, _] _ (p5 _ _) (List.Perm.refl _) (fun _ h => by simp only [allD, allD_append, List.cons_append, List.nil_append, and_true] at h ⊢; simp only [h, and_self]) (fun v L' D' hq => ?_); obtain ⟨fa, fc, rfl, rfl, rfl⟩ := hq) | (refine CallP.mk [] _ [_, _] _ (r5 _ _) (List.Perm.refl _) (fun _ h => by simp only [allD, allD_append, List.cons_append, List.nil_append, and_true] at h ⊢; simp only [h, and_self]) (fun v L' D' hq => ?_); obtain ⟨fa, fc, rfl, rfl, rfl⟩ := hq) | refine CallP.is (s1 _ _ _ _) ?_ (fun _ h => by simp only [allD, allD_append, List.cons_append, List.nil_append, and_true] at h ⊢; simp only [h, and_self]) | refine CallP.is (s2 _ _ _ _) ?_ (fun _ h => by simp only [allD, allD_append, List.cons_append, List.nil_append, and_true] at h ⊢; simp only [h, and_self]) | refine CallP.is (s3 _ _ _ _) ?_ (fun _ h => by simp only [allD, allD_append, List.cons_append, List.nil_append, and_true] at h ⊢; simp only [h, and_self]) | refine CallP.is (s4 _ _ _ _) ?_ (fun _ h => by simp only [allD, allD_append, List.cons_append, List.nil_append, and_true] at h ⊢; simp only [h, and_self]) | refine CallP.is (s5 _ _ _ _) ?_ (fun _ h => by simp only [allD, allD_append, List.cons_append, List.nil_append, and_true] at h ⊢; simp only [h, and_self]) | refine FinE.is rfl | refine EntP.mk (Ents.ofSub (by repeat (first | exact List.Sublist.slnil | refine List.Sublist.cons_cons _ ?_ | refine List.Sublist.cons _ ?_)) (fun _ h => h.2.2.2.2.2.2.2.2.2.2.2)) ?_ | refine EntP.mk (Ents.ofSub (by repeat (first | exact List.Sublist.slnil | refine List.Sublist.cons_cons _ ?_ | refine List.Sublist.cons _ ?_)) (fun _ h => h.2.2.2.2.2.2.2.2.2.2.2.2)) ?_ | refine EntP.mk (Ents.ofSub (by repeat (first | exact List.Sublist.slnil | refine List.Sublist.cons_cons _ ?_ | refine List.Sublist.cons _ ?_)) (fun _ h => h.2.2.2.2.2.2.2.2.2.2.2.2.2)) ?_ | fail
end Go.Proofs

/- This text opens arguments that are lists of rows of words, titles and lists of numbers. -/
namespace Go.Proofs.YthknndkjnglegaaGreat
open Go Go.X Go.Proofs
set_option maxRecDepth 100000
abbrev Bt := List UInt8
abbrev ttFF : Int × Bt × Unit → List C := fun g => [.i .i64 g.1] ++ ([.s g.2.1] ++ [])
abbrev ttQQ : Int × Bt × Unit → Prop := fun g => inR .i64 g.1 ∧ g.2.1.length ≤ maxLen ∧ True
abbrev wrF : Bt × (Int × Bt × Unit) × Int × Unit → List C := fun g => [.s g.1] ++ (ttFF g.2.1 ++ ([.i .i64 g.2.2.1] ++ []))
abbrev wrQ : Bt × (Int × Bt × Unit) × Int × Unit → Prop := fun g => g.1.length ≤ maxLen ∧ ttQQ g.2.1 ∧ inR .i64 g.2.2.1 ∧ True
theorem open_title {w : World} : OpenS Tryz.prog w 50 ttFF ttQQ :=
  openS_struct (okTy (t := 50) rfl).2.2.2 (cellsOf_ty (okTy (t := 50) rfl))
    (openF_cons (cellsOf_ty (okTy (t := 3) rfl)) (openS_int Tryz.underlying3) (openF_cons (cellsOf_ty (okTy (t := 9) rfl)) (openS_str Tryz.underlying9) openF_nil (by decide)) (by decide))
theorem open_row {w : World} : OpenS Tryz.prog w 60 wrF wrQ :=
  openS_struct (okTy (t := 60) rfl).2.2.2 (cellsOf_ty (okTy (t := 60) rfl))
    (openF_cons (cellsOf_ty (okTy (t := 9) rfl)) (openS_str Tryz.underlying9) (openF_cons (cellsOf_ty (okTy (t := 50) rfl)) open_title (openF_cons (cellsOf_ty (okTy (t := 3) rfl)) (openS_int Tryz.underlying3) openF_nil (by decide)) (by decide)) (by decide))
/-- What is known of a slice that is read. -/
abbrev slQ {α : Type} (w : World) (z : Nat) (F : α → List C) (Q : α → Prop) (g : Option Addr × Nat × Nat × List α) : Prop := g.2.1 = g.2.2.2.length ∧ SlOK w z (g.2.2.2.flatMap F) g.1 g.2.1 g.2.2.1 ∧ ∀ x ∈ g.2.2.2, Q x ∧ (F x).length = z
theorem flatMap_mk {α β : Type} {F : α → List C} {G : β → List C} {f : α → β} : ∀ {l : List α}, (∀ x ∈ l, G (f x) = F x) → (l.map f).flatMap G = l.flatMap F
  | [], _ => rfl
  | x :: r, h => by
    rw [List.map_cons, List.flatMap_cons, List.flatMap_cons, h x (by simp), flatMap_mk fun y hy => h y (by simp [hy])]
theorem open_rows {w : World} : OpenS Tryz.prog w 22 (fun g : Option Addr × Nat × Nat × List (Bt × (Int × Bt × Unit) × Int × Unit) => [.sl g.1 g.2.1 g.2.2.1]) (slQ w 4 wrF wrQ) :=
  openS_slice (z := 4) Tryz.underlying22 (cellsOf_ty (okTy (t := 60) rfl)) (by decide) (fun g x hx => by simp [wrF, ttFF] at hx; rcases hx with rfl | rfl | rfl | rfl <;> rfl) open_row
theorem open_ints {w : World} : OpenS Tryz.prog w 33 (fun g : Option Addr × Nat × Nat × List Int => [.sl g.1 g.2.1 g.2.2.1]) (slQ w 1 (fun n : Int => [.i .i64 n]) (inR .i64)) :=
  openS_slice (z := 1) Tryz.underlying33 (cellsOf_ty (okTy (t := 3) rfl)) (by decide) (fun g x hx => by simp at hx; subst hx; rfl) (openS_int Tryz.underlying3)
/-- The rows that a list in memory is. -/
theorem rows_of {w : World} {a : Option Addr} {n c : Nat} {l0 : List (Bt × (Int × Bt × Unit) × Int × Unit)} (h : slQ w 4 wrF wrQ (a, n, c, l0)) :
    ∃ (l : List WR) (e : Nat), n = l.length ∧ l.length ≤ maxLen ∧ (slFact e 4 a l.length (wrC l)).p (fun b => w.heap[b]?) := by
  obtain ⟨h1, h2, h3⟩ := h
  dsimp only at h1 h2 h3
  subst h1
  let f : Bt × (Int × Bt × Unit) × Int × Unit → WR := fun x => ⟨x.1, x.2.1.1, x.2.1.2.1, x.2.2.1⟩
  have ev : wrC (l0.map f) = l0.flatMap wrF := flatMap_mk fun x hx => rfl
  obtain ⟨e, hf⟩ := h2.f
  refine ⟨l0.map f, e, by simp, by rw [List.length_map]; exact Nat.le_trans h2.le h2.max, ?_⟩
  rw [ev, List.length_map]; exact hf
/-- The numbers that a list in memory is. -/
theorem ints_of {w : World} {a : Option Addr} {n c : Nat} {l : List Int} (h : slQ w 1 (fun n : Int => [.i .i64 n]) (inR .i64) (a, n, c, l)) :
    ∃ e : Nat, n = l.length ∧ l.length ≤ maxLen ∧ (slFact e 1 a l.length (l.map (C.i .i64))).p (fun b => w.heap[b]?) := by
  obtain ⟨h1, h2, h3⟩ := h
  dsimp only at h1 h2 h3
  subst h1
  obtain ⟨e, hf⟩ := h2.f
  exact ⟨e, rfl, Nat.le_trans h2.le h2.max, by rw [List.map_eq_flatMap]; exact hf⟩
end Go.Proofs.YthknndkjnglegaaGreat

/- This text opens arguments of the types State and View: the state, or the pages of the view, in memory that they are. -/
namespace Go.Proofs.YthknndkjnglegaaGreat
open Go Go.X Go.Proofs
set_option maxRecDepth 100000
theorem one1 {α : Type} {F : α → List C} (h : ∀ g, (F g).all (fun x => match x with | .b _ | .i _ _ | .s _ | .sl _ _ _ => true | _ => false) = true) : ∀ g, oneAll (F g) := fun g x hx => by
  have := List.all_eq_true.1 (h g) x hx
  cases x <;> first | rfl | (cases this)
abbrev bsT := Bt
abbrev bsF : bsT → List C := fun l => [.s l]
abbrev bsQ (_w : World) : bsT → Prop := fun l => l.length ≤ maxLen
abbrev titT := Int × Bt × Unit
abbrev titF : titT → List C := fun g => [.i .i64 g.1] ++ ([.s g.2.1] ++ ([]))
abbrev titQ (w : World) : titT → Prop := fun g => inR .i64 g.1 ∧ g.2.1.length ≤ maxLen ∧ True
theorem open_tit {w : World} : OpenS Tryz.prog w 50 titF (titQ w) :=
  openS_struct (okTy (t := 50) rfl).2.2.2 (cellsOf_ty (okTy (t := 50) rfl))
    (openF_cons (cellsOf_ty (okTy (t := 3) rfl)) (openS_int Tryz.underlying3) (openF_cons (cellsOf_ty (okTy (t := 9) rfl)) (openS_str Tryz.underlying9) openF_nil (by decide)) (by decide))
abbrev pagT := titT × Bt × Int × Unit
abbrev pagF : pagT → List C := fun g => titF g.1 ++ ([.s g.2.1] ++ ([.i .i64 g.2.2.1] ++ ([])))
abbrev pagQ (w : World) : pagT → Prop := fun g => titQ w g.1 ∧ g.2.1.length ≤ maxLen ∧ inR .i64 g.2.2.1 ∧ True
theorem open_pag {w : World} : OpenS Tryz.prog w 80 pagF (pagQ w) :=
  openS_struct (okTy (t := 80) rfl).2.2.2 (cellsOf_ty (okTy (t := 80) rfl))
    (openF_cons (cellsOf_ty (okTy (t := 50) rfl)) open_tit (openF_cons (cellsOf_ty (okTy (t := 9) rfl)) (openS_str Tryz.underlying9) (openF_cons (cellsOf_ty (okTy (t := 3) rfl)) (openS_int Tryz.underlying3) openF_nil (by decide)) (by decide)) (by decide))
abbrev groT := Bt × (Option Addr × Nat × Nat × List bsT) × Unit
abbrev groF : groT → List C := fun g => [.s g.1] ++ ([.sl g.2.1.1 g.2.1.2.1 g.2.1.2.2.1] ++ ([]))
abbrev groQ (w : World) : groT → Prop := fun g => g.1.length ≤ maxLen ∧ slQ w 1 bsF (bsQ w) g.2.1 ∧ True
theorem open_gro {w : World} : OpenS Tryz.prog w 145 groF (groQ w) :=
  openS_struct (okTy (t := 145) rfl).2.2.2 (cellsOf_ty (okTy (t := 145) rfl))
    (openF_cons (cellsOf_ty (okTy (t := 9) rfl)) (openS_str Tryz.underlying9) (openF_cons (cellsOf_ty (okTy (t := 29) rfl)) (openS_slice (z := 1) Tryz.underlying29 (cellsOf_ty (okTy (t := 9) rfl)) (by decide) (one1 fun _ => rfl) (openS_str Tryz.underlying9)) openF_nil (by decide)) (by decide))
abbrev scoT := Int × titT × Unit
abbrev scoF : scoT → List C := fun g => [.i .i64 g.1] ++ (titF g.2.1 ++ ([]))
abbrev scoQ (w : World) : scoT → Prop := fun g => inR .i64 g.1 ∧ titQ w g.2.1 ∧ True
theorem open_sco {w : World} : OpenS Tryz.prog w 150 scoF (scoQ w) :=
  openS_struct (okTy (t := 150) rfl).2.2.2 (cellsOf_ty (okTy (t := 150) rfl))
    (openF_cons (cellsOf_ty (okTy (t := 3) rfl)) (openS_int Tryz.underlying3) (openF_cons (cellsOf_ty (okTy (t := 50) rfl)) open_tit openF_nil (by decide)) (by decide))
abbrev rulT := Bool × Int × Bt × scoT × Unit
abbrev rulF : rulT → List C := fun g => [.b g.1] ++ ([.i .i64 g.2.1] ++ ([.s g.2.2.1] ++ (scoF g.2.2.2.1 ++ ([]))))
abbrev rulQ (w : World) : rulT → Prop := fun g => True ∧ inR .i64 g.2.1 ∧ g.2.2.1.length ≤ maxLen ∧ scoQ w g.2.2.2.1 ∧ True
theorem open_rul {w : World} : OpenS Tryz.prog w 152 rulF (rulQ w) :=
  openS_struct (okTy (t := 152) rfl).2.2.2 (cellsOf_ty (okTy (t := 152) rfl))
    (openF_cons (cellsOf_ty (okTy (t := 4) rfl)) (openS_bool Tryz.underlying4) (openF_cons (cellsOf_ty (okTy (t := 3) rfl)) (openS_int Tryz.underlying3) (openF_cons (cellsOf_ty (okTy (t := 9) rfl)) (openS_str Tryz.underlying9) (openF_cons (cellsOf_ty (okTy (t := 150) rfl)) open_sco openF_nil (by decide)) (by decide)) (by decide)) (by decide))
abbrev guaT := Bool × Bt × titT × Bt × Unit
abbrev guaF : guaT → List C := fun g => [.b g.1] ++ ([.s g.2.1] ++ (titF g.2.2.1 ++ ([.s g.2.2.2.1] ++ ([]))))
abbrev guaQ (w : World) : guaT → Prop := fun g => True ∧ g.2.1.length ≤ maxLen ∧ titQ w g.2.2.1 ∧ g.2.2.2.1.length ≤ maxLen ∧ True
theorem open_gua {w : World} : OpenS Tryz.prog w 213 guaF (guaQ w) :=
  openS_struct (okTy (t := 213) rfl).2.2.2 (cellsOf_ty (okTy (t := 213) rfl))
    (openF_cons (cellsOf_ty (okTy (t := 4) rfl)) (openS_bool Tryz.underlying4) (openF_cons (cellsOf_ty (okTy (t := 9) rfl)) (openS_str Tryz.underlying9) (openF_cons (cellsOf_ty (okTy (t := 50) rfl)) open_tit (openF_cons (cellsOf_ty (okTy (t := 9) rfl)) (openS_str Tryz.underlying9) openF_nil (by decide)) (by decide)) (by decide)) (by decide))
abbrev polT := (Option Addr × Nat × Nat × List groT) × (Option Addr × Nat × Nat × List rulT) × (Option Addr × Nat × Nat × List guaT) × Unit
abbrev polF : polT → List C := fun g => [.sl g.1.1 g.1.2.1 g.1.2.2.1] ++ ([.sl g.2.1.1 g.2.1.2.1 g.2.1.2.2.1] ++ ([.sl g.2.2.1.1 g.2.2.1.2.1 g.2.2.1.2.2.1] ++ ([])))
abbrev polQ (w : World) : polT → Prop := fun g => slQ w 2 groF (groQ w) g.1 ∧ slQ w 6 rulF (rulQ w) g.2.1 ∧ slQ w 5 guaF (guaQ w) g.2.2.1 ∧ True
theorem open_pol {w : World} : OpenS Tryz.prog w 28 polF (polQ w) :=
  openS_struct (okTy (t := 28) rfl).2.2.2 (cellsOf_ty (okTy (t := 28) rfl))
    (openF_cons (cellsOf_ty (okTy (t := 24) rfl)) (openS_slice (z := 2) Tryz.underlying24 (cellsOf_ty (okTy (t := 145) rfl)) (by decide) (one1 fun _ => rfl) open_gro) (openF_cons (cellsOf_ty (okTy (t := 25) rfl)) (openS_slice (z := 6) Tryz.underlying25 (cellsOf_ty (okTy (t := 152) rfl)) (by decide) (one1 fun _ => rfl) open_rul) (openF_cons (cellsOf_ty (okTy (t := 26) rfl)) (openS_slice (z := 5) Tryz.underlying26 (cellsOf_ty (okTy (t := 213) rfl)) (by decide) (one1 fun _ => rfl) open_gua) openF_nil (by decide)) (by decide)) (by decide))
abbrev keyT := Int × titT × Int × Unit
abbrev keyF : keyT → List C := fun g => [.i .i64 g.1] ++ (titF g.2.1 ++ ([.i .i64 g.2.2.1] ++ ([])))
abbrev keyQ (w : World) : keyT → Prop := fun g => inR .i64 g.1 ∧ titQ w g.2.1 ∧ inR .i64 g.2.2.1 ∧ True
theorem open_key {w : World} : OpenS Tryz.prog w 256 keyF (keyQ w) :=
  openS_struct (okTy (t := 256) rfl).2.2.2 (cellsOf_ty (okTy (t := 256) rfl))
    (openF_cons (cellsOf_ty (okTy (t := 3) rfl)) (openS_int Tryz.underlying3) (openF_cons (cellsOf_ty (okTy (t := 50) rfl)) open_tit (openF_cons (cellsOf_ty (okTy (t := 3) rfl)) (openS_int Tryz.underlying3) openF_nil (by decide)) (by decide)) (by decide))
abbrev ansT := Bool × Bt × Int × Unit
abbrev ansF : ansT → List C := fun g => [.b g.1] ++ ([.s g.2.1] ++ ([.i .i64 g.2.2.1] ++ ([])))
abbrev ansQ (w : World) : ansT → Prop := fun g => True ∧ g.2.1.length ≤ maxLen ∧ inR .i64 g.2.2.1 ∧ True
theorem open_ans {w : World} : OpenS Tryz.prog w 258 ansF (ansQ w) :=
  openS_struct (okTy (t := 258) rfl).2.2.2 (cellsOf_ty (okTy (t := 258) rfl))
    (openF_cons (cellsOf_ty (okTy (t := 4) rfl)) (openS_bool Tryz.underlying4) (openF_cons (cellsOf_ty (okTy (t := 9) rfl)) (openS_str Tryz.underlying9) (openF_cons (cellsOf_ty (okTy (t := 3) rfl)) (openS_int Tryz.underlying3) openF_nil (by decide)) (by decide)) (by decide))
abbrev askT := keyT × ansT × Unit
abbrev askF : askT → List C := fun g => keyF g.1 ++ (ansF g.2.1 ++ ([]))
abbrev askQ (w : World) : askT → Prop := fun g => keyQ w g.1 ∧ ansQ w g.2.1 ∧ True
theorem open_ask {w : World} : OpenS Tryz.prog w 260 askF (askQ w) :=
  openS_struct (okTy (t := 260) rfl).2.2.2 (cellsOf_ty (okTy (t := 260) rfl))
    (openF_cons (cellsOf_ty (okTy (t := 256) rfl)) open_key (openF_cons (cellsOf_ty (okTy (t := 258) rfl)) open_ans openF_nil (by decide)) (by decide))
abbrev vieT := (Option Addr × Nat × Nat × List pagT) × polT × (Option Addr × Nat × Nat × List bsT) × Int × (Option Addr × Nat × Nat × List askT) × Unit
abbrev vieF : vieT → List C := fun g => [.sl g.1.1 g.1.2.1 g.1.2.2.1] ++ (polF g.2.1 ++ ([.sl g.2.2.1.1 g.2.2.1.2.1 g.2.2.1.2.2.1] ++ ([.i .i64 g.2.2.2.1] ++ ([.sl g.2.2.2.2.1.1 g.2.2.2.2.1.2.1 g.2.2.2.2.1.2.2.1] ++ ([])))))
abbrev vieQ (w : World) : vieT → Prop := fun g => slQ w 4 pagF (pagQ w) g.1 ∧ polQ w g.2.1 ∧ slQ w 1 bsF (bsQ w) g.2.2.1 ∧ inR .i64 g.2.2.2.1 ∧ slQ w 7 askF (askQ w) g.2.2.2.2.1 ∧ True
theorem open_vie {w : World} : OpenS Tryz.prog w 32 vieF (vieQ w) :=
  openS_struct (okTy (t := 32) rfl).2.2.2 (cellsOf_ty (okTy (t := 32) rfl))
    (openF_cons (cellsOf_ty (okTy (t := 23) rfl)) (openS_slice (z := 4) Tryz.underlying23 (cellsOf_ty (okTy (t := 80) rfl)) (by decide) (one1 fun _ => rfl) open_pag) (openF_cons (cellsOf_ty (okTy (t := 28) rfl)) open_pol (openF_cons (cellsOf_ty (okTy (t := 29) rfl)) (openS_slice (z := 1) Tryz.underlying29 (cellsOf_ty (okTy (t := 9) rfl)) (by decide) (one1 fun _ => rfl) (openS_str Tryz.underlying9)) (openF_cons (cellsOf_ty (okTy (t := 3) rfl)) (openS_int Tryz.underlying3) (openF_cons (cellsOf_ty (okTy (t := 30) rfl)) (openS_slice (z := 7) Tryz.underlying30 (cellsOf_ty (okTy (t := 260) rfl)) (by decide) (one1 fun _ => rfl) open_ask) openF_nil (by decide)) (by decide)) (by decide)) (by decide)) (by decide))
theorem le63 {n : Nat} (h : n ≤ maxLen) : n ≤ 9223372036854775807 := by simp only [maxLen] at h; omega
theorem slf_of {α : Type} {w : World} {z e : Nat} {F : α → List C} {a : Option Addr} {n c : Nat} {l : List α} (h : SlOK w z (l.flatMap F) a n c) (hn : n = l.length) : SlF (fun b => w.heap[b]?) e z a l.length (l.flatMap F) := by
  obtain ⟨_, f⟩ := h.f
  subst hn
  exact f
/-- The view in memory that an argument is. -/
theorem view_of {w : World} {g : vieT} (h : vieQ w g) : ∃ (ps : List PG) (pa : Option Addr) (pc : Nat) (vt : VT), vieF g = [.sl pa ps.length pc, slK vt.gs, slK vt.rs, slK vt.us, slK vt.gp, .i .i64 vt.ck, slK vt.fx] ∧ ps.length ≤ 9223372036854775807 ∧ (slFact 0 4 pa ps.length (pgC ps)).p (fun b => w.heap[b]?) := by
  obtain ⟨⟨pa, pn, pc, pl⟩, ⟨⟨ga, gn, gc, gl⟩, ⟨ra, rn, rc, rl⟩, ⟨xa, xn, xc, xl⟩, u1⟩, ⟨ua, un, uc, ul⟩, ck, ⟨fa, fn, fc, fl⟩, u⟩ := g
  obtain ⟨⟨p1, p2, p3⟩, _⟩ := h
  dsimp only at p1 p2 p3
  have hM : maxLen ≤ 9223372036854775807 := by simp only [maxLen]; omega
  let f : pagT → PG := fun x => ⟨x.1.1, x.1.2.1, x.2.1, x.2.2.1⟩
  have ev : pgC (pl.map f) = pl.flatMap pagF := flatMap_mk fun x hx => rfl
  refine ⟨pl.map f, pa, pc, ⟨(ga, gn, gc), (ra, rn, rc), (xa, xn, xc), (ua, un, uc), ck, (fa, fn, fc)⟩, ?_, by rw [List.length_map, ← p1]; exact Nat.le_trans (Nat.le_trans p2.le p2.max) hM, ?_⟩
  · subst p1; simp [vieF, polF, slK]
  · show SlF _ 0 4 pa (pl.map f).length (pgC (pl.map f)); rw [ev, List.length_map]; exact slf_of p2 p1
end Go.Proofs.YthknndkjnglegaaGreat
