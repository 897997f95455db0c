/- This text walks through the functions of the reference of chapter 27 that check a state: before, pages, proposals, lists, Valid. -/
import Derived.Test.YthknndkjnglegaaGreatG17
import Derived.Test.YthknndkjnglegaaGreatG18
set_option linter.all false

namespace Go.X
open Go Go.Lib
theorem ascG_iff {α : Type} [Inhabited α] (lt : α → α → Bool) : ∀ l : List α, ascG lt l = true ↔ ∀ i, i < l.length → 0 < i → lt (l.getD (i - 1) default) (l.getD i default) = true
  | [] => by simp [ascG]
  | [x] => by
    simp only [ascG, List.length_singleton, true_iff]
    intro i h1 h2; omega
  | x :: y :: r => by
    have ih := ascG_iff lt (y :: r)
    rw [ascG, Bool.and_eq_true, ih]
    constructor
    · rintro ⟨h1, h2⟩ i hi h0
      match i, h0 with
      | 1, _ => exact h1
      | k + 2, _ => exact h2 (k + 1) (by simpa using hi) (by omega)
    · intro h
      refine ⟨h 1 (by simp) (by omega), fun i hi h0 => ?_⟩
      match i, h0 with
      | k + 1, _ => exact h (k + 2) (by simpa using hi) (by omega)
theorem all_iff {α : Type} [Inhabited α] (p : α → Bool) (l : List α) : l.all p = true ↔ ∀ i, i < l.length → p (l.getD i default) = true := by
  rw [List.all_eq_true]
  constructor
  · intro h i hi
    rw [List.getD_eq_getElem?_getD, List.getElem?_eq_getElem hi]
    exact h _ (List.getElem_mem hi)
  · intro h x hx
    obtain ⟨i, hi, rfl⟩ := List.getElem_of_mem hx
    have := h i hi
    rwa [List.getD_eq_getElem?_getD, List.getElem?_eq_getElem hi] at this
theorem getD_at {α : Type} [Inhabited α] {l : List α} {i : Nat} (h : i < l.length) : l.getD i default = l[i] := by
  rw [List.getD_eq_getElem?_getD, List.getElem?_eq_getElem h]; rfl
theorem histGo_mem {clk sq : Int} : ∀ {l : List RV} {i mi se : Int}, histGo clk sq i mi se l = true → ∀ r ∈ l, (r.text.length : Int) ≤ 8192
  | [], _, _, _, _, _, h => by cases h
  | x :: l, i, mi, se, h, r, hr => by
    simp only [histGo, Bool.and_eq_true] at h
    rcases List.mem_cons.1 hr with rfl | hr
    · exact (rvOK_iff.1 h.1).2.1
    · exact histGo_mem h.2 r hr
theorem cur_text {clk sq : Int} {l : List RV} (h : histT clk sq l = true) : ((curM l).text.length : Int) ≤ 8192 := by
  obtain ⟨h1, _, h3⟩ := histT_iff.1 h
  obtain ⟨k, hk⟩ : ∃ k, l.length = k + 1 := ⟨l.length - 1, by omega⟩
  rw [curM_at hk]
  exact histGo_mem h3 _ (List.getElem_mem _)
theorem find_map (sp : Int) (nm : Bs) : ∀ l : List PGM, (l.map PGM.pl).find? (atT sp nm) = (l.find? (atM sp nm)).map PGM.pl
  | [] => rfl
  | x :: r => by
    have h : atT sp nm x.pl = atM sp nm x := rfl
    simp only [List.map_cons, List.find?_cons, h, find_map sp nm r]
    cases atM sp nm x <;> rfl
/-- A page of a state is valid and behind the one ahead of it. -/
def pgA (s : STM) (i : Nat) : Prop := validT (s.pages.getD i default).sp (s.pages.getD i default).nm = true ∧ histT s.clk s.seq (s.pages.getD i default).hist = true ∧ (0 < i → compareT (s.pages.getD (i - 1) default).sp (s.pages.getD (i - 1) default).nm (s.pages.getD i default).sp (s.pages.getD i default).nm < 0)
def pgB (s : STM) (i : Nat) : Prop := validT (s.gone.getD i default).sp (s.gone.getD i default).nm = true ∧ histT s.clk s.seq (s.gone.getD i default).hist = true
theorem getD_map {l : List PGM} {i : Nat} (h : i < l.length) : (l.map PGM.pl).getD i default = (l.getD i default).pl := by
  rw [getD_at h, getD_at (by simpa using h), List.getElem_map]
theorem pagesT_iff (s : STM) : pagesT s.pl = true ↔ s.pages.length ≤ 200 ∧ s.gone.length ≤ 100 ∧ (∀ i, i < s.pages.length → pgA s i) ∧ (∀ i, i < s.gone.length → pgB s i) ∧ ruledT s.pl = true := by
  have e1 : s.pl.pages = s.pages.map PGM.pl := rfl
  have e2 : s.pl.gone = s.gone.map PGM.pl := rfl
  simp only [pagesT, Bool.and_eq_true, decide_eq_true_eq, all_iff, ascG_iff, e1, e2, List.length_map, and_assoc]
  constructor
  · rintro ⟨a, b, c, d, f, g⟩
    refine ⟨by omega, by omega, fun i hi => ?_, fun i hi => ?_, g⟩
    · have h1 := c i hi
      rw [getD_map hi] at h1
      have h1 := pageOK_iff.1 h1
      refine ⟨h1.1, h1.2, fun h0 => ?_⟩
      have h2 := d i hi h0
      rw [getD_map hi, getD_map (by omega)] at h2
      exact of_decide_eq_true h2
    · have h1 := f i hi
      rw [getD_map hi] at h1
      exact pageOK_iff.1 h1
  · rintro ⟨a, b, c, d, g⟩
    refine ⟨by omega, by omega, fun i hi => ?_, fun i hi h0 => ?_, fun i hi => ?_, g⟩
    · rw [getD_map hi]
      exact pageOK_iff.2 ⟨(c i hi).1, (c i hi).2.1⟩
    · rw [getD_map hi, getD_map (by omega)]
      exact decide_eq_true ((c i hi).2.2 h0)
    · rw [getD_map hi]
      exact pageOK_iff.2 (d i hi)
theorem ruled_some {s : STM} {p : PGM} (h : s.pages.find? (atM 5 policyNm) = some p) : ruledT s.pl = decide ((polParseT (curM p.hist).text).2.2 = 0) := by
  have e : s.pl.pages = s.pages.map PGM.pl := rfl
  unfold ruledT pageT
  rw [e, find_map, h]
  rfl
theorem ruled_none {s : STM} (h : s.pages.find? (atM 5 policyNm) = none) : ruledT s.pl = true := by
  have e : s.pl.pages = s.pages.map PGM.pl := rfl
  unfold ruledT pageT
  rw [e, find_map, h]
  rfl
end Go.X
namespace Go.Proofs
open Go Go.X
set_option maxRecDepth 100000
set_option maxHeartbeats 4000000
theorem before_ok (x y : WT) : FnS Tryz.prog 144 [.agg x.cells, .agg y.cells] [] [] (Is (.c (.b (ltW x y)))) := by
  obtain ⟨xu, xs, xn⟩ := x
  obtain ⟨yu, ys, yn⟩ := y
  have ct := refCompareT_ok xs xn ys yn
  have hl := less_cmp xu yu
  have hr := cmpB_range xu yu
  have he := cmpB_eq xu yu
  obtain ⟨W, hW⟩ : ∃ W, ltW ⟨xu, xs, xn⟩ ⟨yu, ys, yn⟩ = W := ⟨_, rfl⟩
  rw [hW]
  have hWi : W = true ↔ Lib.compareBytes xu yu < 0 ∨ (xu = yu ∧ compareT xs xn ys yn < 0) := by
    rw [← hW]; simp [ltW, ltB]
  rw [← he] at hWi
  clear hW
  generalize compareT xs xn ys yn = k at *
  refine fn_of_J Tryz.tyOK 0 Tryz.func144 (by kernel_rfl) (c := Tryz.f144.body.getD .skip) (by kernel_rfl) Tryz.ntmps144 (rs := Tryz.f144.results.toList) rfl (by simp) (fun G => ?_)
  repeat' first | refine J_seq ?_ | refine J_region Tryz.tyOK ?_ | refine J_block ?_ | refine J_cond ?_ | refine J_ret ?_ | refine J_skip ?_ | refine J_exit ?_ | refine J_scope ?_ | refine CondP.y ?_ | refine CondP.n ?_ | refine CondP.mk (fun h => ?_) (fun h => ?_) | refine EqP.mk rfl ?_ | refine NewP.mk (fun ad => ?_) | refine ArP.x ?_ | refine SideP.a ?_ | refine CallP.is ct ?_ | refine FinE.bool ?_ | fail
  all_goals
    clear ct
    dsimp only at *
    simp only [hl, ← he] at *
    clear hl he
    generalize Lib.compareBytes xu yu = b at *
    first
      | (rw [hWi]; omega)
      | (refine bfalse hWi ?_; omega)
theorem pol27_ok : FnS Tryz.prog 111 [] [] [] (Is (.agg [.i .i64 5, .s policyNm])) := by
  refine fn_of_J Tryz.tyOK 0 Tryz.func111 (by kernel_rfl) (c := Tryz.f111.body.getD .skip) (by kernel_rfl) Tryz.ntmps111 (rs := Tryz.f111.results.toList) rfl (by simp) (fun G => ?_)
  repeat' first | refine J_seq ?_ | refine J_region Tryz.tyOK ?_ | refine J_block ?_ | refine J_cond ?_ | refine J_ret ?_ | refine J_skip ?_ | refine J_exit ?_ | refine J_scope ?_ | refine CondP.y ?_ | refine CondP.n ?_ | refine CondP.mk (fun h => ?_) (fun h => ?_) | refine EqP.mk rfl ?_ | refine NewP.mk (fun ad => ?_) | refine ArP.x ?_ | refine SideP.a ?_ | refine FinE.is rfl | fail
theorem pages27_ok (s : STM) (hs : StB s) : FnS Tryz.prog 98 [.agg s.cells] [] [stF s] (Is (.c (.b (pagesT s.pl)))) := by
  have hl1 := big_le hs.pages
  have hl2 := big_le hs.gone
  have hrd : ∀ L, Reads L [stF s] 0 3 s.pa s.pages.length (pgmC s.pages) := fun L => .inr fun m h => h.1.pages.row
  have hrg : ∀ L, Reads L [stF s] 0 3 s.ga s.gone.length (pgmC s.gone) := fun L => .inr fun m h => h.1.gone.row
  have hW := pagesT_iff s
  generalize pagesT s.pl = W at *
  have cp := page27_ok s 5 policyNm hs
  refine fn_of_J Tryz.tyOK 0 Tryz.func98 (by kernel_rfl) (c := Tryz.f98.body.getD .skip) (by kernel_rfl) Tryz.ntmps98 (rs := Tryz.f98.results.toList) rfl (by simp) (fun G => ?_)
  repeat' first | refine J_seq ?_ | refine J_region Tryz.tyOK ?_ | refine J_block ?_ | refine J_cond ?_ | refine J_ret ?_ | refine J_skip ?_ | refine J_exit ?_ | refine J_scope ?_ | refine CondP.y ?_ | refine CondP.n ?_ | refine CondP.mk (fun h => ?_) (fun h => ?_) | refine EqP.mk rfl ?_ | refine NewP.mk (fun ad => ?_) | refine ArP.x ?_ | refine SideP.a ?_ | refine FinE.bool (bfalse hW fun h => ?_) | fail
  · omega
  · omega
  refine J_loop (α := Nat) (fun i => [(1, .c (.p 0 ad 0)), (3, .c (.i .i64 i))]) (fun _ => [.box 0 ad 42 s.cells]) (fun _ => [stF s]) 1
    (fun i => i ≤ s.pages.length ∧ ∀ j, j < i → pgA s j) (fun i => s.pages.length - i) (InFam.mk 0 ⟨Nat.zero_le _, fun j h => absurd h (Nat.not_lt_zero j)⟩ SubE.a (Ents.refl _ _)) (fun i hx => ?_)
  obtain ⟨hi, hn⟩ := hx
  by_cases hlt : i < s.pages.length
  · have hg := pgm_get hlt
    have hA : pgA s i ↔ pgA s i := Iff.rfl
    conv at hA => rhs; rw [pgA, getD_at hlt]
    have hmem := List.getElem_mem hlt
    have hnext : pgA s i → ∀ j, j < i + 1 → pgA s j := fun h j hj => by
      by_cases e : j = i
      · subst e; exact h
      · exact hn j (by omega)
    have cv := validA_ok s.pages[i].sp s.pages[i].nm
    have ch := hist27_ok s 0 s.pages[i].ha s.pages[i].hc s.pages[i].hist (by have := big_le (hs.ph _ hmem); omega)
    have cc := refCompareT_ok (s.pages.getD (i - 1) default).sp (s.pages.getD (i - 1) default).nm s.pages[i].sp s.pages[i].nm
    have hg1 : 0 < i → ((pgmC s.pages).drop (((i : Int) - 1).toNat * 3 + 0)).take 2 = [.i .i64 (s.pages.getD (i - 1) default).sp, .s (s.pages.getD (i - 1) default).nm] := fun h0 => by
      rw [show ((i : Int) - 1).toNat = i - 1 by omega, getD_at (show i - 1 < s.pages.length by omega)]; exact pgm_get2 (by omega)
    generalize s.pages[i] = p at *
    generalize s.pages.getD (i - 1) default = q at *
    generalize compareT q.sp q.nm p.sp p.nm = k at *
    cases hv : validT p.sp p.nm
    all_goals cases hh : histT s.clk s.seq p.hist
    all_goals
      rw [hv] at cv hA
      rw [hh] at ch hA
      repeat' first | refine J_seq ?_ | refine J_region Tryz.tyOK ?_ | refine J_block ?_ | refine J_cond ?_ | refine J_ret ?_ | refine J_skip ?_ | refine J_exit ?_ | refine J_scope ?_ | refine CondP.y ?_ | refine CondP.n ?_ | refine CondP.mk (fun h => ?_) (fun h => ?_) | refine EqP.mk rfl ?_ | refine NewP.mk (fun ad => ?_) | refine ArP.x ?_ | refine SideP.a ?_ | refine J_drawS (id := 7) Tryz.tyOK (by kernel_rfl) [0, 1, 3, 7, 15, 31, 31, 95, 255, 511, 1023, 2047, 4095, 8191, 16383, 32767, 65535, 32767, 163839, 524287, 1048575, 2097151, 32767, 4227071, 16777215, 33554431, 67108863, 134217727] [0, 1, 2, 3, 4, 5, 6, 7, 8, 9, 10, 11, 12, 13, 14, 15, 16, 17, 18, 19, 20, 21, 22, 23, 24, 25, 26, 27] [] [1, 4, 52] true (by kernel_rfl) ?_ | refine J_drawS (id := 12) Tryz.tyOK (by kernel_rfl) [0, 1, 0, 7, 15, 31, 63, 127, 255, 511, 511, 1535, 511, 7679, 15871, 32255, 65535, 131071, 262143] [0, 1, 2, 3, 4, 5, 6, 7, 8, 9, 10, 11, 12, 13, 14, 15, 16, 17, 18] [] [1, 71, 81] true (by kernel_rfl) ?_ | refine J_drawS (id := 14) Tryz.tyOK (by kernel_rfl) [0, 0, 3, 7, 15, 15, 0, 95, 255] [0, 1, 2, 3, 4, 5, 6, 7, 8] [6, 7] [1] true (by kernel_rfl) ?_ | refine EntP.mk Ents.a ?_ | refine IdxE.mk 0 3 _ (hrd _) (by omega) (by omega) ?_ | refine FldE.mk 0 3 _ _ (hrd _) (by omega) ?_ | refine LoadE.mk 0 _ _ p.cells (hrd _) (by omega) (by omega) (by first | omega | decide) (by exact hg) ?_ | refine LoadE.mk 0 _ _ [.i .i64 q.sp, .s q.nm] (hrd _) (by omega) (by omega) (by first | omega | decide) (by exact hg1 (by omega)) ?_ | refine CallQ.mk [] _ cv (fun _ _ => trivial) ?_ | refine CallQ.mk [_] _ ch (fun _ h => ⟨h.1.pages.his p hmem, trivial⟩) ?_ | refine CallQ.mk [] _ cc (fun _ _ => trivial) ?_ | refine FinE.bool (bfalse hW fun h => ?_) | refine Round.mk (i + 1) (by omega) ⟨by omega, hnext (hA.2 ⟨rfl, rfl, fun _ => by omega⟩)⟩ SubE.a Ents.a | fail
    all_goals
      have hB := hA.1 (h.2.2.1 i hlt)
      first
        | (cases hB.1; done)
        | (cases hB.2.1; done)
        | (have := hB.2.2 (by omega); omega)
  · have hil : i = s.pages.length := by omega
    subst hil
    clear hi hlt
    repeat' first | refine J_seq ?_ | refine J_region Tryz.tyOK ?_ | refine J_block ?_ | refine J_cond ?_ | refine J_ret ?_ | refine J_skip ?_ | refine J_exit ?_ | refine J_scope ?_ | refine CondP.y ?_ | refine CondP.n ?_ | refine CondP.mk (fun h => ?_) (fun h => ?_) | refine EqP.mk rfl ?_ | refine NewP.mk (fun ad => ?_) | refine ArP.x ?_ | refine SideP.a ?_ | fail
    refine J_loop (α := Nat) (fun i => [(1, .c (.p 0 ad 0)), (5, .c (.i .i64 i))]) (fun _ => [.box 0 ad 42 s.cells]) (fun _ => [stF s]) 1
      (fun i => i ≤ s.gone.length ∧ ∀ j, j < i → pgB s j) (fun i => s.gone.length - i) (InFam.mk 0 ⟨Nat.zero_le _, fun j h => absurd h (Nat.not_lt_zero j)⟩ SubE.a Ents.a) (fun i hx => ?_)
    obtain ⟨hi, hn2⟩ := hx
    by_cases hlt : i < s.gone.length
    · have hg2 := pgm_get2 hlt
      have hg1 := pgm_get1 hlt
      have hA : pgB s i ↔ pgB s i := Iff.rfl
      conv at hA => rhs; rw [pgB, getD_at hlt]
      have hmem := List.getElem_mem hlt
      have hnext : pgB s i → ∀ j, j < i + 1 → pgB s j := fun h j hj => by
        by_cases e : j = i
        · subst e; exact h
        · exact hn2 j (by omega)
      have cv := validA_ok s.gone[i].sp s.gone[i].nm
      have ch := hist27_ok s 0 s.gone[i].ha s.gone[i].hc s.gone[i].hist (by have := big_le (hs.gh _ hmem); omega)
      generalize s.gone[i] = p at *
      cases hv : validT p.sp p.nm
      all_goals cases hh : histT s.clk s.seq p.hist
      all_goals
        rw [hv] at cv hA
        rw [hh] at ch hA
        repeat' first | refine J_seq ?_ | refine J_region Tryz.tyOK ?_ | refine J_block ?_ | refine J_cond ?_ | refine J_ret ?_ | refine J_skip ?_ | refine J_exit ?_ | refine J_scope ?_ | refine CondP.y ?_ | refine CondP.n ?_ | refine CondP.mk (fun h => ?_) (fun h => ?_) | refine EqP.mk rfl ?_ | refine NewP.mk (fun ad => ?_) | refine ArP.x ?_ | refine SideP.a ?_ | refine J_drawS (id := 7) Tryz.tyOK (by kernel_rfl) [0, 1, 3, 7, 15, 31, 31, 95, 255, 511, 1023, 2047, 4095, 8191, 16383, 32767, 65535, 32767, 163839, 524287, 1048575, 2097151, 32767, 4227071, 16777215, 33554431, 67108863, 134217727] [0, 1, 2, 3, 4, 5, 6, 7, 8, 9, 10, 11, 12, 13, 14, 15, 16, 17, 18, 19, 20, 21, 22, 23, 24, 25, 26, 27] [] [1, 4, 52] true (by kernel_rfl) ?_ | refine J_drawS (id := 12) Tryz.tyOK (by kernel_rfl) [0, 1, 0, 7, 15, 31, 63, 127, 255, 511, 511, 1535, 511, 7679, 15871, 32255, 65535, 131071, 262143] [0, 1, 2, 3, 4, 5, 6, 7, 8, 9, 10, 11, 12, 13, 14, 15, 16, 17, 18] [] [1, 71, 81] true (by kernel_rfl) ?_ | refine J_drawS (id := 14) Tryz.tyOK (by kernel_rfl) [0, 0, 3, 7, 15, 15, 0, 95, 255] [0, 1, 2, 3, 4, 5, 6, 7, 8] [6, 7] [1] true (by kernel_rfl) ?_ | refine EntP.mk Ents.a ?_ | refine IdxE.mk 0 3 _ (hrg _) (by omega) (by omega) ?_ | refine FldE.mk 0 3 _ _ (hrg _) (by omega) ?_ | refine LoadE.mk 0 _ _ [.i .i64 p.sp, .s p.nm] (hrg _) (by omega) (by omega) (by first | omega | decide) (by exact hg2) ?_ | refine LoadE.mk 0 _ _ [.sl p.ha p.hist.length p.hc] (hrg _) (by omega) (by omega) (by first | omega | decide) (by exact hg1) ?_ | refine CallQ.mk [] _ cv (fun _ _ => trivial) ?_ | refine CallQ.mk [_] _ ch (fun _ h => ⟨h.1.gone.his p hmem, trivial⟩) ?_ | refine FinE.bool (bfalse hW fun h => ?_) | refine Round.mk (i + 1) (by omega) ⟨by omega, hnext (hA.2 ⟨rfl, rfl⟩)⟩ SubE.a Ents.a | fail
      all_goals
        have hB := hA.1 (h.2.2.2.1 i hlt)
        first
          | (cases hB.1; done)
          | (cases hB.2; done)
    · have hil : i = s.gone.length := by omega
      subst hil
      cases hf : s.pages.find? (atM 5 policyNm) with
      | none =>
        rw [hf] at cp
        have hWt : W = true := hW.2 ⟨by omega, by omega, hn, hn2, ruled_none hf⟩
        repeat' first | refine J_seq ?_ | refine J_region Tryz.tyOK ?_ | refine J_block ?_ | refine J_cond ?_ | refine J_ret ?_ | refine J_skip ?_ | refine J_exit ?_ | refine J_scope ?_ | refine CondP.y ?_ | refine CondP.n ?_ | refine CondP.mk (fun h => ?_) (fun h => ?_) | refine EqP.mk rfl ?_ | refine NewP.mk (fun ad => ?_) | refine ArP.x ?_ | refine SideP.a ?_ | refine J_drawS (id := 7) Tryz.tyOK (by kernel_rfl) [0, 1, 3, 7, 15, 31, 31, 95, 255, 511, 1023, 2047, 4095, 8191, 16383, 32767, 65535, 32767, 163839, 524287, 1048575, 2097151, 32767, 4227071, 16777215, 33554431, 67108863, 134217727] [0, 1, 2, 3, 4, 5, 6, 7, 8, 9, 10, 11, 12, 13, 14, 15, 16, 17, 18, 19, 20, 21, 22, 23, 24, 25, 26, 27] [] [1, 4, 52] true (by kernel_rfl) ?_ | refine J_drawS (id := 12) Tryz.tyOK (by kernel_rfl) [0, 1, 0, 7, 15, 31, 63, 127, 255, 511, 511, 1535, 511, 7679, 15871, 32255, 65535, 131071, 262143] [0, 1, 2, 3, 4, 5, 6, 7, 8, 9, 10, 11, 12, 13, 14, 15, 16, 17, 18] [] [1, 71, 81] true (by kernel_rfl) ?_ | refine J_drawS (id := 14) Tryz.tyOK (by kernel_rfl) [0, 0, 3, 7, 15, 15, 0, 95, 255] [0, 1, 2, 3, 4, 5, 6, 7, 8] [6, 7] [1] true (by kernel_rfl) ?_ | refine EntP.mk Ents.a ?_ | refine CallQ.mk [] _ pol27_ok (fun _ _ => trivial) ?_ | refine CallQ.mk [_] _ cp (fun _ h => h) ?_ | refine FinE.bool hWt | fail
      | some p =>
        rw [hf] at cp
        have hmem := List.mem_of_find?_eq_some hf
        have hru := ruled_some hf
        have hpt : ((curM p.hist).text.length : Int) ≤ 8192 := by
          obtain ⟨j, hj, e⟩ := List.getElem_of_mem hmem
          have := (hn j hj).2.1
          rw [getD_at hj, e] at this
          exact cur_text this
        have hWt : W = true ↔ (polParseT (curM p.hist).text).2.2 = 0 := ⟨fun h => by have := (hW.1 h).2.2.2.2; rw [hru] at this; exact of_decide_eq_true this, fun h => hW.2 ⟨by omega, by omega, hn, hn2, by rw [hru]; exact decide_eq_true h⟩⟩
        have cu := cur27_ok 0 p (hs.ph p hmem)
        have cr := refParse12_ok (curM p.hist).text (by omega)
        generalize polParseT (curM p.hist).text = r at *
        repeat' first | refine J_seq ?_ | refine J_region Tryz.tyOK ?_ | refine J_block ?_ | refine J_cond ?_ | refine J_ret ?_ | refine J_skip ?_ | refine J_exit ?_ | refine J_scope ?_ | refine CondP.y ?_ | refine CondP.n ?_ | refine CondP.mk (fun h => ?_) (fun h => ?_) | refine EqP.mk rfl ?_ | refine NewP.mk (fun ad => ?_) | refine ArP.x ?_ | refine SideP.a ?_ | refine J_drawS (id := 7) Tryz.tyOK (by kernel_rfl) [0, 1, 3, 7, 15, 31, 31, 95, 255, 511, 1023, 2047, 4095, 8191, 16383, 32767, 65535, 32767, 163839, 524287, 1048575, 2097151, 32767, 4227071, 16777215, 33554431, 67108863, 134217727] [0, 1, 2, 3, 4, 5, 6, 7, 8, 9, 10, 11, 12, 13, 14, 15, 16, 17, 18, 19, 20, 21, 22, 23, 24, 25, 26, 27] [] [1, 4, 52] true (by kernel_rfl) ?_ | refine J_drawS (id := 12) Tryz.tyOK (by kernel_rfl) [0, 1, 0, 7, 15, 31, 63, 127, 255, 511, 511, 1535, 511, 7679, 15871, 32255, 65535, 131071, 262143] [0, 1, 2, 3, 4, 5, 6, 7, 8, 9, 10, 11, 12, 13, 14, 15, 16, 17, 18] [] [1, 71, 81] true (by kernel_rfl) ?_ | refine J_drawS (id := 14) Tryz.tyOK (by kernel_rfl) [0, 0, 3, 7, 15, 15, 0, 95, 255] [0, 1, 2, 3, 4, 5, 6, 7, 8] [6, 7] [1] true (by kernel_rfl) ?_ | refine EntP.mk Ents.a ?_ | refine CallQ.mk [] _ pol27_ok (fun _ _ => trivial) ?_ | refine CallQ.mk [_] _ cp (fun _ h => h) ?_ | refine CallP.is cu ?_ (fun _ h => ⟨h.1.pages.his p hmem, trivial⟩) | refine CallP.mk [] _ [] _ cr (List.Perm.refl _) (fun _ _ => trivial) (fun v L' D' hq => ?_); obtain ⟨pm, _, _, _, rfl, rfl, rfl⟩ := hq | refine FinE.bool ?_ | fail
        · exact hWt.2 h
        · exact bfalse hWt h
end Go.Proofs

/- This text walks through the functions proposals, lists and Valid of the reference of chapter 27. -/
namespace Go.X
open Go Go.Lib
instance : Inhabited WT := ⟨⟨[], 0, []⟩⟩
instance : Inhabited LU := ⟨⟨[], 0⟩⟩
theorem ppGo_at {clk pr la : Int} {l : List PP} {k : Nat} (h : k < l.length) : ppGo clk pr la (l.drop k) = (ppOK clk pr la l[k] && ppGo clk pr l[k].id (l.drop (k + 1))) := by
  rw [List.drop_eq_getElem_cons h, ppGo]
theorem propsT_iff (s : ST) : propsT s = true ↔ s.props.length ≤ 40 ∧ 0 ≤ s.proposed ∧ s.proposed ≤ 1073741824 ∧ ppGo s.clk s.proposed 0 s.props = true := by
  simp only [propsT, Bool.and_eq_true, decide_eq_true_eq, and_assoc]
  constructor
  · rintro ⟨a, b, c, d⟩; exact ⟨by omega, b, c, d⟩
  · rintro ⟨a, b, c, d⟩; exact ⟨by omega, b, c, d⟩
def wtA (s : STM) (i : Nat) : Prop := isNameT (s.watches.getD i default).user = true ∧ validT (s.watches.getD i default).sp (s.watches.getD i default).nm = true ∧ (0 < i → ltW (s.watches.getD (i - 1) default) (s.watches.getD i default) = true)
def luA (s : STM) (i : Nat) : Prop := isNameT (s.lasts.getD i default).user = true ∧ 1 ≤ (s.lasts.getD i default).seq ∧ (s.lasts.getD i default).seq ≤ s.seq ∧ (0 < i → Lib.compareBytes (s.lasts.getD (i - 1) default).user (s.lasts.getD i default).user < 0)
theorem listsT_iff (s : STM) : listsT s.pl = true ↔ s.watches.length ≤ 100 ∧ s.lasts.length ≤ 60 ∧ (∀ i, i < s.watches.length → wtA s i) ∧ (∀ i, i < s.lasts.length → luA s i) := by
  have e1 : s.pl.watches = s.watches := rfl
  have e2 : s.pl.lasts = s.lasts := rfl
  have e3 : s.pl.seq = s.seq := rfl
  simp only [listsT, Bool.and_eq_true, decide_eq_true_eq, all_iff, ascG_iff, e1, e2, e3, and_assoc]
  constructor
  · rintro ⟨a, b, c, d, f, g⟩
    refine ⟨by omega, by omega, fun i hi => ?_, fun i hi => ?_⟩
    · have h1 := c i hi
      simp only [wtOK, Bool.and_eq_true] at h1
      exact ⟨h1.1, h1.2, fun h0 => d i hi h0⟩
    · have h1 := f i hi
      simp only [ltOK, Bool.and_eq_true, decide_eq_true_eq] at h1
      exact ⟨h1.1.1, h1.1.2, h1.2, fun h0 => of_decide_eq_true (g i hi h0)⟩
  · rintro ⟨a, b, c, d⟩
    refine ⟨by omega, by omega, fun i hi => ?_, fun i hi h0 => (c i hi).2.2 h0, fun i hi => ?_, fun i hi h0 => decide_eq_true ((d i hi).2.2.2 h0)⟩
    · simp only [wtOK, Bool.and_eq_true]; exact ⟨(c i hi).1, (c i hi).2.1⟩
    · simp only [ltOK, Bool.and_eq_true, decide_eq_true_eq]; exact ⟨⟨(d i hi).1, (d i hi).2.1⟩, (d i hi).2.2.1⟩
theorem validST_iff (s : ST) : validST s = true ↔ 0 ≤ s.seq ∧ s.seq ≤ 1073741824 ∧ 0 ≤ s.clk ∧ s.clk ≤ 52595999 ∧ pagesT s = true ∧ propsT s = true ∧ listsT s = true := by
  simp only [validST, Bool.and_eq_true, decide_eq_true_eq, and_assoc]
end Go.X
namespace Go.Proofs
open Go Go.X
set_option maxRecDepth 100000
set_option maxHeartbeats 4000000
theorem props27_ok (s : STM) (hs : StB s) : FnS Tryz.prog 99 [.agg s.cells] [] [stF s] (Is (.c (.b (propsT s.pl)))) := by
  have hl := big_le hs.props
  have hrd : ∀ L, Reads L [stF s] 0 8 s.qa s.props.length (ppC s.props) := fun L => .inr fun m h => h.1.props
  have hW := propsT_iff s.pl
  change _ ↔ s.props.length ≤ 40 ∧ 0 ≤ s.proposed ∧ s.proposed ≤ 1073741824 ∧ ppGo s.clk s.proposed 0 s.props = true at hW
  generalize propsT s.pl = W at *
  refine fn_of_J Tryz.tyOK 0 Tryz.func99 (by kernel_rfl) (c := Tryz.f99.body.getD .skip) (by kernel_rfl) Tryz.ntmps99 (rs := Tryz.f99.results.toList) rfl (by simp) (fun G => ?_)
  repeat' first | refine J_seq ?_ | refine J_region Tryz.tyOK ?_ | refine J_block ?_ | refine J_cond ?_ | refine J_ret ?_ | refine J_skip ?_ | refine J_exit ?_ | refine J_scope ?_ | refine CondP.y ?_ | refine CondP.n ?_ | refine CondP.mk (fun h => ?_) (fun h => ?_) | refine EqP.mk rfl ?_ | refine NewP.mk (fun ad => ?_) | refine ArP.x ?_ | refine SideP.a ?_ | refine FinE.bool (bfalse hW fun h => ?_) | fail
  · omega
  · omega
  · omega
  refine J_loop (α := Nat × Int) (fun x => [(1, .c (.p 0 ad 0)), (3, .c (.i .i64 x.2)), (4, .c (.i .i64 x.1))]) (fun _ => [.box 0 ad 42 s.cells]) (fun _ => [stF s]) 1
    (fun x => x.1 ≤ s.props.length ∧ ppGo s.clk s.proposed 0 s.props = ppGo s.clk s.proposed x.2 (s.props.drop x.1)) (fun x => s.props.length - x.1) (InFam.mk (0, 0) ⟨Nat.zero_le _, rfl⟩ SubE.a (Ents.refl _ _)) (fun x hx => ?_)
  obtain ⟨i, la⟩ := x
  dsimp only at hx ⊢
  obtain ⟨hi, he⟩ := hx
  by_cases hlt : i < s.props.length
  · have hg := pp_get hlt
    rw [ppGo_at hlt] at he
    generalize s.props[i] = x at *
    have cu := user27_ok x.user
    have cv := validA_ok x.sp x.nm
    by_cases hq : ppOK s.clk s.proposed la x = true
    · obtain ⟨q1, q2, q3, q4, q5, q6, q7, q8, q9, q10⟩ := ppOK_iff.1 hq
      rw [hq, Bool.true_and] at he
      rw [q3] at cu
      rw [q4] at cv
      clear hq
      repeat' first | refine J_seq ?_ | refine J_region Tryz.tyOK ?_ | refine J_block ?_ | refine J_cond ?_ | refine J_ret ?_ | refine J_skip ?_ | refine J_exit ?_ | refine J_scope ?_ | refine CondP.y ?_ | refine CondP.n ?_ | refine CondP.mk (fun h => ?_) (fun h => ?_) | refine EqP.mk rfl ?_ | refine NewP.mk (fun ad => ?_) | refine ArP.x ?_ | refine SideP.a ?_ | fail | refine IdxE.mk 0 8 _ (hrd _) (by omega) (by omega) ?_ | refine LoadE.mk 0 _ _ x.cells (hrd _) (by omega) (by omega) (by first | omega | decide) (by exact hg) ?_ | refine CallP.is cu ?_ | refine CallP.is cv ?_ | refine Round.mk (i + 1, x.id) (by dsimp only; omega) ⟨by dsimp only; omega, he⟩ SubE.a Ents.a | fail
    · have hq0 : ppOK s.clk s.proposed la x = false := by simpa using hq
      rw [hq0, Bool.false_and] at he
      have hWf : W = false := bfalse hW fun h => by rw [he] at h; exact absurd h.2.2.2 (by simp)
      repeat' first | refine J_seq ?_ | refine J_region Tryz.tyOK ?_ | refine J_block ?_ | refine J_cond ?_ | refine J_ret ?_ | refine J_skip ?_ | refine J_exit ?_ | refine J_scope ?_ | refine CondP.y ?_ | refine CondP.n ?_ | refine CondP.mk (fun h => ?_) (fun h => ?_) | refine EqP.mk rfl ?_ | refine NewP.mk (fun ad => ?_) | refine ArP.x ?_ | refine SideP.a ?_ | fail | refine IdxE.mk 0 8 _ (hrd _) (by omega) (by omega) ?_ | refine LoadE.mk 0 _ _ x.cells (hrd _) (by omega) (by omega) (by first | omega | decide) (by exact hg) ?_ | refine CallP.isB cu (fun hu => ?_) (fun hu => ?_) | refine CallP.isB cv (fun hv => ?_) (fun hv => ?_) | refine FinE.bool hWf | exact absurd (ppOK_iff.2 ⟨by omega, by omega, by assumption, by assumption, by omega, by omega, by omega, by omega, by omega, by omega⟩) hq | fail
  · have hil : i = s.props.length := by omega
    subst hil
    rw [List.drop_length] at he
    have hWt : W = true := hW.2 ⟨by omega, by omega, by omega, he⟩
    repeat' first | refine J_seq ?_ | refine J_region Tryz.tyOK ?_ | refine J_block ?_ | refine J_cond ?_ | refine J_ret ?_ | refine J_skip ?_ | refine J_exit ?_ | refine J_scope ?_ | refine CondP.y ?_ | refine CondP.n ?_ | refine CondP.mk (fun h => ?_) (fun h => ?_) | refine EqP.mk rfl ?_ | refine NewP.mk (fun ad => ?_) | refine ArP.x ?_ | refine SideP.a ?_ | refine FinE.bool hWt | fail
theorem lists27_ok (s : STM) (hs : StB s) : FnS Tryz.prog 100 [.agg s.cells] [] [stF s] (Is (.c (.b (listsT s.pl)))) := by
  have hl1 := big_le hs.watches
  have hl2 := big_le hs.lasts
  have hrd : ∀ L, Reads L [stF s] 0 3 s.wa s.watches.length (wtC s.watches) := fun L => .inr fun m h => h.1.watches
  have hrl : ∀ L, Reads L [stF s] 0 2 s.la s.lasts.length (ltC s.lasts) := fun L => .inr fun m h => h.1.lasts
  have hW := listsT_iff s
  generalize listsT s.pl = W at *
  refine fn_of_J Tryz.tyOK 0 Tryz.func100 (by kernel_rfl) (c := Tryz.f100.body.getD .skip) (by kernel_rfl) Tryz.ntmps100 (rs := Tryz.f100.results.toList) rfl (by simp) (fun G => ?_)
  repeat' first | refine J_seq ?_ | refine J_region Tryz.tyOK ?_ | refine J_block ?_ | refine J_cond ?_ | refine J_ret ?_ | refine J_skip ?_ | refine J_exit ?_ | refine J_scope ?_ | refine CondP.y ?_ | refine CondP.n ?_ | refine CondP.mk (fun h => ?_) (fun h => ?_) | refine EqP.mk rfl ?_ | refine NewP.mk (fun ad => ?_) | refine ArP.x ?_ | refine SideP.a ?_ | refine FinE.bool (bfalse hW fun h => ?_) | fail
  · omega
  · omega
  refine J_loop (α := Nat) (fun i => [(1, .c (.p 0 ad 0)), (3, .c (.i .i64 i))]) (fun _ => [.box 0 ad 42 s.cells]) (fun _ => [stF s]) 1
    (fun i => i ≤ s.watches.length ∧ ∀ j, j < i → wtA s j) (fun i => s.watches.length - i) (InFam.mk 0 ⟨Nat.zero_le _, fun j h => absurd h (Nat.not_lt_zero j)⟩ SubE.a (Ents.refl _ _)) (fun i hx => ?_)
  obtain ⟨hi, hn⟩ := hx
  by_cases hlt : i < s.watches.length
  · have hg := wt_get hlt
    have hA : wtA s i ↔ wtA s i := Iff.rfl
    conv at hA => rhs; rw [wtA, getD_at hlt]
    have hnext : wtA s i → ∀ j, j < i + 1 → wtA s j := fun h j hj => by
      by_cases e : j = i
      · subst e; exact h
      · exact hn j (by omega)
    have cn := isNameA_ok s.watches[i].user
    have cv := validA_ok s.watches[i].sp s.watches[i].nm
    have cb := before_ok (s.watches.getD (i - 1) default) s.watches[i]
    have hg1 : 0 < i → ((wtC s.watches).drop (((i : Int) - 1).toNat * 3 + 0)).take 3 = (s.watches.getD (i - 1) default).cells := fun h0 => by
      rw [show ((i : Int) - 1).toNat = i - 1 by omega, getD_at (show i - 1 < s.watches.length by omega)]; exact wt_get (by omega)
    generalize s.watches[i] = p at *
    generalize s.watches.getD (i - 1) default = q at *
    cases hv : isNameT p.user
    all_goals cases hh : validT p.sp p.nm
    all_goals cases hk : ltW q p
    all_goals
      rw [hv] at cn hA
      rw [hh] at cv hA
      rw [hk] at cb hA
      repeat' first | refine J_seq ?_ | refine J_region Tryz.tyOK ?_ | refine J_block ?_ | refine J_cond ?_ | refine J_ret ?_ | refine J_skip ?_ | refine J_exit ?_ | refine J_scope ?_ | refine CondP.y ?_ | refine CondP.n ?_ | refine CondP.mk (fun h => ?_) (fun h => ?_) | refine EqP.mk rfl ?_ | refine NewP.mk (fun ad => ?_) | refine ArP.x ?_ | refine SideP.a ?_ | refine J_drawS (id := 7) Tryz.tyOK (by kernel_rfl) [0, 1, 3, 7, 15, 31, 63, 127, 255, 511, 1023, 2047, 4095, 8191, 16383, 32767, 16383, 81919, 262143, 524287, 16383, 2097151, 4194303, 8388607, 16777215] [0, 1, 2, 3, 4, 5, 6, 7, 8, 9, 10, 11, 12, 13, 14, 15, 16, 17, 18, 19, 20, 21, 22, 23, 24] [] [1, 4, 47] true (by kernel_rfl) ?_ | refine J_drawS (id := 13) Tryz.tyOK (by kernel_rfl) [0, 1, 3, 7, 15, 31, 63, 127, 255, 511, 1023, 2047, 1023, 5119, 16383, 32767, 65535, 131071, 262143, 524287, 1048575, 2097151, 1048575, 5242879, 16777215, 33554431, 67108863, 1048575, 135266303, 536870911, 1073741823, 2147483647] [0, 1, 2, 3, 4, 5, 6, 7, 8, 9, 10, 11, 12, 13, 14, 15, 16, 17, 18, 19, 20, 21, 22, 23, 24, 25, 26, 27, 28, 29, 30, 31] [] [1, 6, 90] true (by kernel_rfl) ?_ | refine EntP.mk Ents.a ?_ | refine IdxE.mk 0 3 _ (hrd _) (by omega) (by omega) ?_ | refine LoadE.mk 0 _ _ p.cells (hrd _) (by omega) (by omega) (by first | omega | decide) (by exact hg) ?_ | refine LoadE.mk 0 _ _ q.cells (hrd _) (by omega) (by omega) (by first | omega | decide) (by exact hg1 (by omega)) ?_ | refine CallQ.mk [] _ cn (fun _ _ => trivial) ?_ | refine CallQ.mk [] _ cv (fun _ _ => trivial) ?_ | refine CallQ.mk [] _ cb (fun _ _ => trivial) ?_ | refine FinE.bool (bfalse hW fun h => ?_) | refine Round.mk (i + 1) (by omega) ⟨by omega, hnext (hA.2 ⟨rfl, rfl, fun _ => by first | rfl | omega⟩)⟩ SubE.a Ents.a | fail
    all_goals
      have hB := hA.1 (h.2.2.1 i hlt)
      first
        | (cases hB.1; done)
        | (cases hB.2.1; done)
        | (cases hB.2.2 (by omega); done)
  · have hil : i = s.watches.length := by omega
    subst hil
    clear hi hlt
    repeat' first | refine J_seq ?_ | refine J_region Tryz.tyOK ?_ | refine J_block ?_ | refine J_cond ?_ | refine J_ret ?_ | refine J_skip ?_ | refine J_exit ?_ | refine J_scope ?_ | refine CondP.y ?_ | refine CondP.n ?_ | refine CondP.mk (fun h => ?_) (fun h => ?_) | refine EqP.mk rfl ?_ | refine NewP.mk (fun ad => ?_) | refine ArP.x ?_ | refine SideP.a ?_ | fail
    refine J_loop (α := Nat) (fun i => [(1, .c (.p 0 ad 0)), (5, .c (.i .i64 i))]) (fun _ => [.box 0 ad 42 s.cells]) (fun _ => [stF s]) 1
      (fun i => i ≤ s.lasts.length ∧ ∀ j, j < i → luA s j) (fun i => s.lasts.length - i) (InFam.mk 0 ⟨Nat.zero_le _, fun j h => absurd h (Nat.not_lt_zero j)⟩ SubE.a Ents.a) (fun i hx => ?_)
    obtain ⟨hi, hn2⟩ := hx
    by_cases hlt : i < s.lasts.length
    · have hg := lt_get hlt
      have hA : luA s i ↔ luA s i := Iff.rfl
      conv at hA => rhs; rw [luA, getD_at hlt]
      have hnext : luA s i → ∀ j, j < i + 1 → luA s j := fun h j hj => by
        by_cases e : j = i
        · subst e; exact h
        · exact hn2 j (by omega)
      have cn := isNameA_ok s.lasts[i].user
      have hls := less_cmp (s.lasts.getD (i - 1) default).user s.lasts[i].user
      have hlr := cmpB_range (s.lasts.getD (i - 1) default).user s.lasts[i].user
      have hg1 : 0 < i → ((ltC s.lasts).drop (((i : Int) - 1).toNat * 2 + 0)).take 1 = [.s (s.lasts.getD (i - 1) default).user] := fun h0 => by
        rw [show ((i : Int) - 1).toNat = i - 1 by omega, getD_at (show i - 1 < s.lasts.length by omega), ltC, flat_get (F := LU.cells) (z := 2) (fun _ => rfl) (by omega) (by omega)]; rfl
      generalize s.lasts[i] = p at *
      generalize s.lasts.getD (i - 1) default = q at *
      cases hv : isNameT p.user
      all_goals
        rw [hv] at cn hA
        repeat' first | refine J_seq ?_ | refine J_region Tryz.tyOK ?_ | refine J_block ?_ | refine J_cond ?_ | refine J_ret ?_ | refine J_skip ?_ | refine J_exit ?_ | refine J_scope ?_ | refine CondP.y ?_ | refine CondP.n ?_ | refine CondP.mk (fun h => ?_) (fun h => ?_) | refine EqP.mk rfl ?_ | refine NewP.mk (fun ad => ?_) | refine ArP.x ?_ | refine SideP.a ?_ | refine J_drawS (id := 7) Tryz.tyOK (by kernel_rfl) [0, 1, 3, 7, 15, 31, 63, 127, 255, 511, 1023, 2047, 4095, 8191, 16383, 32767, 16383, 81919, 262143, 524287, 16383, 2097151, 4194303, 8388607, 16777215] [0, 1, 2, 3, 4, 5, 6, 7, 8, 9, 10, 11, 12, 13, 14, 15, 16, 17, 18, 19, 20, 21, 22, 23, 24] [] [1, 4, 47] true (by kernel_rfl) ?_ | refine J_drawS (id := 13) Tryz.tyOK (by kernel_rfl) [0, 1, 3, 7, 15, 31, 63, 127, 255, 511, 1023, 2047, 1023, 5119, 16383, 32767, 65535, 131071, 262143, 524287, 1048575, 2097151, 1048575, 5242879, 16777215, 33554431, 67108863, 1048575, 135266303, 536870911, 1073741823, 2147483647] [0, 1, 2, 3, 4, 5, 6, 7, 8, 9, 10, 11, 12, 13, 14, 15, 16, 17, 18, 19, 20, 21, 22, 23, 24, 25, 26, 27, 28, 29, 30, 31] [] [1, 6, 90] true (by kernel_rfl) ?_ | refine EntP.mk Ents.a ?_ | refine IdxE.mk 0 2 _ (hrl _) (by omega) (by omega) ?_ | refine FldE.mk 0 2 _ _ (hrl _) (by omega) ?_ | refine LoadE.mk 0 _ _ p.cells (hrl _) (by omega) (by omega) (by first | omega | decide) (by exact hg) ?_ | refine LoadE.mk 0 _ _ [.s q.user] (hrl _) (by omega) (by omega) (by first | omega | decide) (by exact hg1 (by omega)) ?_ | refine CallQ.mk [] _ cn (fun _ _ => trivial) ?_ | refine FinE.bool (bfalse hW fun h => ?_) | refine Round.mk (i + 1) (by omega) ⟨by omega, hnext (hA.2 ⟨rfl, by omega, by omega, fun _ => ?_⟩)⟩ SubE.a Ents.a | fail
      all_goals
        first
          | (have hB := hA.1 (h.2.2.2 i hlt)
             first
               | (cases hB.1; done)
               | omega
               | (have hC := hB.2.2.2 (by omega); clear hB h hW hn hn2 hnext cn hrd hrl hA; simp only [hls] at *; omega))
          | (clear hW hn hn2 hnext cn hrd hrl hA; simp only [hls] at *; omega)
          | trace_state
    · have hil : i = s.lasts.length := by omega
      subst hil
      have hWt : W = true := hW.2 ⟨by omega, by omega, hn, hn2⟩
      repeat' first | refine J_seq ?_ | refine J_region Tryz.tyOK ?_ | refine J_block ?_ | refine J_cond ?_ | refine J_ret ?_ | refine J_skip ?_ | refine J_exit ?_ | refine J_scope ?_ | refine CondP.y ?_ | refine CondP.n ?_ | refine CondP.mk (fun h => ?_) (fun h => ?_) | refine EqP.mk rfl ?_ | refine NewP.mk (fun ad => ?_) | refine ArP.x ?_ | refine SideP.a ?_ | refine FinE.bool hWt | fail
theorem valid27_ok (s : STM) (hs : StB s) : FnS Tryz.prog 72 [.agg s.cells] [] [stF s] (Is (.c (.b (validST s.pl)))) := by
  have hW := validST_iff s.pl
  have c1 := pages27_ok s hs
  have c2 := props27_ok s hs
  have c3 := lists27_ok s hs
  change _ ↔ 0 ≤ s.seq ∧ s.seq ≤ 1073741824 ∧ 0 ≤ s.clk ∧ s.clk ≤ 52595999 ∧ pagesT s.pl = true ∧ propsT s.pl = true ∧ listsT s.pl = true at hW
  generalize validST s.pl = W at *
  refine fn_of_J Tryz.tyOK 0 Tryz.func72 (by kernel_rfl) (c := Tryz.f72.body.getD .skip) (by kernel_rfl) Tryz.ntmps72 (rs := Tryz.f72.results.toList) rfl (by simp) (fun G => ?_)
  repeat' first | refine J_seq ?_ | refine J_region Tryz.tyOK ?_ | refine J_block ?_ | refine J_cond ?_ | refine J_ret ?_ | refine J_skip ?_ | refine J_exit ?_ | refine J_scope ?_ | refine CondP.y ?_ | refine CondP.n ?_ | refine CondP.mk (fun h => ?_) (fun h => ?_) | refine EqP.mk rfl ?_ | refine NewP.mk (fun ad => ?_) | refine ArP.x ?_ | refine SideP.a ?_ | refine CallP.isB c1 (fun h1 => ?_) (fun h1 => ?_) | refine CallP.isB c2 (fun h2 => ?_) (fun h2 => ?_) | refine CallP.isB c3 (fun h3 => ?_) (fun h3 => ?_) | refine FinE.bool ?_ | fail
  all_goals
    first
      | exact bfalse hW (by omega)
      | exact bfalse hW (fun h => by first | (rw [h1] at h; exact absurd h.2.2.2.2.1 (by decide)) | (rw [h2] at h; exact absurd h.2.2.2.2.2.1 (by decide)) | (rw [h3] at h; exact absurd h.2.2.2.2.2.2 (by decide)))
      | exact hW.2 ⟨by omega, by omega, by omega, by omega, h1, h2, h3⟩
end Go.Proofs

/- This text holds the plain forms of the functions on states in memory, beside those on plain states. -/
namespace Go.X
open Go Go.Lib
def befM (sp : Int) (nm : Bs) (p : PGM) : Bool := decide (compareT p.sp p.nm sp nm < 0)
def insM (l : List PGM) (x : PGM) : List PGM := insG (befM x.sp x.nm) l x
theorem insG_map {α β : Type} {f : α → β} {p : α → Bool} {q : β → Bool} (h : ∀ x, q (f x) = p x) (l : List α) (x : α) : (insG p l x).map f = insG q (l.map f) (f x) := by
  induction l with
  | nil => rfl
  | cons y t ih =>
    rw [List.map_cons, insG_cons, insG_cons, h y]
    split
    · rw [List.map_cons, ih]
    · rfl
theorem insM_pl (l : List PGM) (x : PGM) : (insM l x).map PGM.pl = insG (befT x.sp x.nm) (l.map PGM.pl) x.pl := insG_map (f := PGM.pl) (p := befM x.sp x.nm) (q := befT x.sp x.nm) (fun _ => rfl) l x
theorem insM_len (l : List PGM) (x : PGM) : (insM l x).length = l.length + 1 := insG_len _ _ _
theorem insM_mem {l : List PGM} {x y : PGM} : y ∈ insM l x ↔ y = x ∨ y ∈ l := mem_insG _ _ _ _
/-- Where an element is put in. -/
theorem insG_at {α : Type} {lt : α → Bool} : ∀ {l : List α} {x : α} {i : Nat} (_ : i ≤ l.length) (_ : ∀ j, ∀ h : j < l.length, j < i → lt l[j] = true) (_ : ∀ h : i < l.length, lt l[i] = false), insG lt l x = l.take i ++ x :: l.drop i
  | [], x, i, hi, _, _ => by
    have : i = 0 := by simpa using hi
    subst this; rfl
  | y :: t, x, 0, _, _, hn => by
    have h0 : lt y = false := hn (by simp)
    rw [insG_cons, h0, if_neg (by decide)]; rfl
  | y :: t, x, i + 1, hi, hp, hn => by
    have h0 : lt y = true := hp 0 (by simp) (by omega)
    rw [insG_cons, h0, if_pos rfl, insG_at (i := i) (by simpa using hi) (fun j hj hji => hp (j + 1) (by simpa using hj) (by omega)) (fun h => hn (by simpa using h))]
    rfl
theorem take_at {α : Type} {lt : α → Bool} : ∀ {l : List α} {i : Nat} (_ : i ≤ l.length) (_ : ∀ j, ∀ h : j < l.length, j < i → lt l[j] = true) (_ : ∀ h : i < l.length, lt l[i] = false), l.takeWhile lt = l.take i ∧ l.dropWhile lt = l.drop i
  | [], i, hi, _, _ => by
    have : i = 0 := by simpa using hi
    subst this; exact ⟨rfl, rfl⟩
  | y :: t, 0, _, _, hn => by
    have h0 : lt y = false := hn (by simp)
    rw [List.takeWhile_cons_of_neg (by simp [h0]), List.dropWhile_cons_of_neg (by simp [h0])]; exact ⟨rfl, rfl⟩
  | y :: t, i + 1, hi, hp, hn => by
    have h0 : lt y = true := hp 0 (by simp) (by omega)
    obtain ⟨h1, h2⟩ := take_at (lt := lt) (l := t) (i := i) (by simpa using hi) (fun j hj hji => hp (j + 1) (by simpa using hj) (by omega)) (fun h => hn (by simpa using h))
    rw [List.takeWhile_cons_of_pos h0, List.dropWhile_cons_of_pos h0, h1, h2]; exact ⟨rfl, rfl⟩
/-- A small state. -/
structure StS (s : STM) : Prop where
  pages : s.pages.length ≤ 1000
  ph : ∀ p ∈ s.pages, p.hist.length ≤ 1000
  gone : s.gone.length ≤ 1000
  gh : ∀ p ∈ s.gone, p.hist.length ≤ 1000
  props : s.props.length ≤ 1000
  watches : s.watches.length ≤ 1000
  lasts : s.lasts.length ≤ 1000
theorem StS.big {s : STM} (h : StS s) : StB s := ⟨by have := h.pages; show _ ≤ 140737488355328; omega, fun p hp => by have := h.ph p hp; show _ ≤ 140737488355328; omega, by have := h.gone; show _ ≤ 140737488355328; omega, fun p hp => by have := h.gh p hp; show _ ≤ 140737488355328; omega, by have := h.props; show _ ≤ 140737488355328; omega, by have := h.watches; show _ ≤ 140737488355328; omega, by have := h.lasts; show _ ≤ 140737488355328; omega⟩
theorem VK.small {sq : Int} {s : STM} (h : VK sq s.pl) : StS s := by
  have np := h.np; have ng := h.ng; have nq := h.nq; have nw := h.nw; have nl := h.nl
  change (((s.pages.map PGM.pl).length : Nat) : Int) ≤ _ at np
  change (((s.gone.map PGM.pl).length : Nat) : Int) ≤ _ at ng
  change ((s.props.length : Nat) : Int) ≤ _ at nq
  change ((s.watches.length : Nat) : Int) ≤ _ at nw
  change ((s.lasts.length : Nat) : Int) ≤ _ at nl
  rw [List.length_map] at np ng
  refine ⟨by omega, fun p hp => ?_, by omega, fun p hp => ?_, by omega, by omega, by omega⟩
  · have h1 := (histT_iff.1 (pageOK_iff.1 (h.pg p.pl (List.mem_map.2 ⟨p, hp, rfl⟩))).2).2.1
    have h2 : ((p.hist.length : Nat) : Int) ≤ 40 := h1
    omega
  · have h1 := (histT_iff.1 (pageOK_iff.1 (h.gn p.pl (List.mem_map.2 ⟨p, hp, rfl⟩))).2).2.1
    have h2 : ((p.hist.length : Nat) : Int) ≤ 40 := h1
    omega
/-- What a function gives that makes a state. -/
def StPost (r : ST × Int) (v : V) (L : List Chunk) (D : List Fact) : Prop := ∃ s' : STM, v = .t2 (.agg s'.cells) (.c (.i .i64 r.2)) ∧ L = [] ∧ D = [stF s'] ∧ s'.pl = r.1
/-- A slice that does not change any more. -/
def SlPost {α : Type} (z : Nat) (F : α → List C) (l : List α) (v : V) (L : List Chunk) (D : List Fact) : Prop := ∃ a c, v = .c (.sl a l.length c) ∧ L = [] ∧ D = [slcFact z a l.length c (l.flatMap F)]
theorem fromFact {m : Im} {e z lo n c : Nat} {a : Option Addr} {α : Type} {F : α → List C} (hz : ∀ g, (F g).length = z) {l : List α} (h : SlF m e z a l.length (l.flatMap F)) (hl : lo ≤ l.length) (hc : l.length ≤ c) (hn : n = l.length - lo) : SlF m e z (resl a lo c z) n ((l.drop lo).flatMap F) := by
  have h1 := slFact_sub (e := e) (m := m) (lo := lo) (hi := l.length) h hl (Nat.le_refl _) hc
  subst hn
  have h2 : ((l.flatMap F).take (l.length * z)).drop (lo * z) = (l.drop lo).flatMap F := by
    rw [List.take_of_length_le (by rw [flat_len hz]; exact Nat.le_refl _)]
    have e1 : (l.flatMap F) = (l.take lo).flatMap F ++ (l.drop lo).flatMap F := by rw [← List.flatMap_append, List.take_append_drop]
    rw [e1, List.drop_append_of_le_length (by rw [flat_len hz, List.length_take, Nat.min_eq_left hl]; exact Nat.le_refl _), List.drop_of_length_le (by rw [flat_len hz, List.length_take, Nat.min_eq_left hl]; exact Nat.le_refl _)]
    rfl
  rw [h2] at h1
  exact h1
theorem preFact {m : Im} {e z hi c : Nat} {a : Option Addr} {α : Type} {F : α → List C} (hz : ∀ g, (F g).length = z) {l : List α} (h : SlF m e z a l.length (l.flatMap F)) (hl : hi ≤ l.length) : SlF m e z (resl a 0 c z) hi ((l.take hi).flatMap F) := by
  have h1 := slFact_pre (e := e) (m := m) (hi := hi) c h hl
  rw [flat_take hz l hi hl] at h1
  exact h1
theorem pgmFrom {m : Im} {e lo n c : Nat} {a : Option Addr} {l : List PGM} (h : SlF m e 3 a l.length (pgmC l)) (hl : lo ≤ l.length) (hc : l.length ≤ c) (hn : n = l.length - lo) : SlF m e 3 (resl a lo c 3) n (pgmC (l.drop lo)) := fromFact (F := PGM.cells) (z := 3) (fun _ => rfl) h hl hc hn
theorem pgmPre {m : Im} {e hi c : Nat} {a : Option Addr} {l : List PGM} (h : SlF m e 3 a l.length (pgmC l)) (hl : hi ≤ l.length) : SlF m e 3 (resl a 0 c 3) hi (pgmC (l.take hi)) := preFact (F := PGM.cells) (z := 3) (fun _ => rfl) h hl
theorem wtFrom {m : Im} {e lo n c : Nat} {a : Option Addr} {l : List WT} (h : SlF m e 3 a l.length (wtC l)) (hl : lo ≤ l.length) (hc : l.length ≤ c) (hn : n = l.length - lo) : SlF m e 3 (resl a lo c 3) n (wtC (l.drop lo)) := fromFact (F := WT.cells) (z := 3) (fun _ => rfl) h hl hc hn
theorem ltFrom {m : Im} {e lo n c : Nat} {a : Option Addr} {l : List LU} (h : SlF m e 2 a l.length (ltC l)) (hl : lo ≤ l.length) (hc : l.length ≤ c) (hn : n = l.length - lo) : SlF m e 2 (resl a lo c 2) n (ltC (l.drop lo)) := fromFact (F := LU.cells) (z := 2) (fun _ => rfl) h hl hc hn
theorem pgm_lenD (l : List PGM) (i : Nat) : (pgmC (l.drop i)).length = (l.length - i) * 3 := by rw [pgmC_len, List.length_drop]
theorem pgm_lenT {l : List PGM} {i : Nat} (h : i ≤ l.length) : (pgmC (l.take i)).length = i * 3 := by rw [pgmC_len, List.length_take, Nat.min_eq_left h]
theorem wt_lenD (l : List WT) (i : Nat) : (wtC (l.drop i)).length = (l.length - i) * 3 := by rw [wtC_len, List.length_drop]
theorem lt_lenD (l : List LU) (i : Nat) : (ltC (l.drop i)).length = (l.length - i) * 2 := by rw [ltC_len, List.length_drop]
end Go.X
