/- This text walks through the functions proposals, lists and Valid of the reference of chapter 27. -/
import Derived.Test.YthknndkjnglegaaGreatI18
set_option linter.all false

namespace Go.X
open Go Go.Lib
instance : Inhabited WT := ⟨⟨[], 0, []⟩⟩
instance : Inhabited LU := ⟨⟨[], 0⟩⟩
theorem ppGo_at {clk pr la : Int} {l : List PP} {k : Nat} (h : k < l.length) : ppGo clk pr la (l.drop k) = (ppOK clk pr la l[k] && ppGo clk pr l[k].id (l.drop (k + 1))) := by
  rw [List.drop_eq_getElem_cons h, ppGo]
theorem propsT_iff (s : ST) : propsT s = true ↔ s.props.length ≤ 40 ∧ 0 ≤ s.proposed ∧ s.proposed ≤ 1073741824 ∧ ppGo s.clk s.proposed 0 s.props = true := by
  simp only [propsT, Bool.and_eq_true, decide_eq_true_eq, and_assoc]
  constructor
  · rintro ⟨a, b, c, d⟩; exact ⟨by omega, b, c, d⟩
  · rintro ⟨a, b, c, d⟩; exact ⟨by omega, b, c, d⟩
def wtA (s : STM) (i : Nat) : Prop := isNameT (s.watches.getD i default).user = true ∧ validT (s.watches.getD i default).sp (s.watches.getD i default).nm = true ∧ (0 < i → ltW (s.watches.getD (i - 1) default) (s.watches.getD i default) = true)
def luA (s : STM) (i : Nat) : Prop := isNameT (s.lasts.getD i default).user = true ∧ 1 ≤ (s.lasts.getD i default).seq ∧ (s.lasts.getD i default).seq ≤ s.seq ∧ (0 < i → Lib.compareBytes (s.lasts.getD (i - 1) default).user (s.lasts.getD i default).user < 0)
theorem listsT_iff (s : STM) : listsT s.pl = true ↔ s.watches.length ≤ 100 ∧ s.lasts.length ≤ 60 ∧ (∀ i, i < s.watches.length → wtA s i) ∧ (∀ i, i < s.lasts.length → luA s i) := by
  have e1 : s.pl.watches = s.watches := rfl
  have e2 : s.pl.lasts = s.lasts := rfl
  have e3 : s.pl.seq = s.seq := rfl
  simp only [listsT, Bool.and_eq_true, decide_eq_true_eq, all_iff, ascG_iff, e1, e2, e3, and_assoc]
  constructor
  · rintro ⟨a, b, c, d, f, g⟩
    refine ⟨by omega, by omega, fun i hi => ?_, fun i hi => ?_⟩
    · have h1 := c i hi
      simp only [wtOK, Bool.and_eq_true] at h1
      exact ⟨h1.1, h1.2, fun h0 => d i hi h0⟩
    · have h1 := f i hi
      simp only [ltOK, Bool.and_eq_true, decide_eq_true_eq] at h1
      exact ⟨h1.1.1, h1.1.2, h1.2, fun h0 => of_decide_eq_true (g i hi h0)⟩
  · rintro ⟨a, b, c, d⟩
    refine ⟨by omega, by omega, fun i hi => ?_, fun i hi h0 => (c i hi).2.2 h0, fun i hi => ?_, fun i hi h0 => decide_eq_true ((d i hi).2.2.2 h0)⟩
    · simp only [wtOK, Bool.and_eq_true]; exact ⟨(c i hi).1, (c i hi).2.1⟩
    · simp only [ltOK, Bool.and_eq_true, decide_eq_true_eq]; exact ⟨⟨(d i hi).1, (d i hi).2.1⟩, (d i hi).2.2.1⟩
theorem validST_iff (s : ST) : validST s = true ↔ 0 ≤ s.seq ∧ s.seq ≤ 1073741824 ∧ 0 ≤ s.clk ∧ s.clk ≤ 52595999 ∧ pagesT s = true ∧ propsT s = true ∧ listsT s = true := by
  simp only [validST, Bool.and_eq_true, decide_eq_true_eq, and_assoc]
end Go.X
namespace Go.Proofs
open Go Go.X
set_option maxRecDepth 100000
set_option maxHeartbeats 4000000
theorem props27_ok (s : STM) (hs : StB s) : FnS Tryz.prog 99 [.agg s.cells] [] [stF s] (Is (.c (.b (propsT s.pl)))) := by
  have hl := big_le hs.props
  have hrd : ∀ L, Reads L [stF s] 0 8 s.qa s.props.length (ppC s.props) := fun L => .inr fun m h => h.1.props
  have hW := propsT_iff s.pl
  change _ ↔ s.props.length ≤ 40 ∧ 0 ≤ s.proposed ∧ s.proposed ≤ 1073741824 ∧ ppGo s.clk s.proposed 0 s.props = true at hW
  generalize propsT s.pl = W at *
  refine fn_of_J Tryz.tyOK 0 Tryz.func99 (by kernel_rfl) (c := Tryz.f99.body.getD .skip) (by kernel_rfl) Tryz.ntmps99 (rs := Tryz.f99.results.toList) rfl (by simp) (fun G => ?_)
  repeat' first | refine J_seq ?_ | refine J_region Tryz.tyOK ?_ | refine J_block ?_ | refine J_cond ?_ | refine J_ret ?_ | refine J_skip ?_ | refine J_exit ?_ | refine J_scope ?_ | refine CondP.y ?_ | refine CondP.n ?_ | refine CondP.mk (fun h => ?_) (fun h => ?_) | refine EqP.mk rfl ?_ | refine NewP.mk (fun ad => ?_) | refine ArP.x ?_ | refine SideP.a ?_ | refine FinE.bool (bfalse hW fun h => ?_) | fail
  · omega
  · omega
  · omega
  refine J_loop (α := Nat × Int) (fun x => [(1, .c (.p 0 ad 0)), (3, .c (.i .i64 x.2)), (4, .c (.i .i64 x.1))]) (fun _ => [.box 0 ad 42 s.cells]) (fun _ => [stF s]) 1
    (fun x => x.1 ≤ s.props.length ∧ ppGo s.clk s.proposed 0 s.props = ppGo s.clk s.proposed x.2 (s.props.drop x.1)) (fun x => s.props.length - x.1) (InFam.mk (0, 0) ⟨Nat.zero_le _, rfl⟩ SubE.a (Ents.refl _ _)) (fun x hx => ?_)
  obtain ⟨i, la⟩ := x
  dsimp only at hx ⊢
  obtain ⟨hi, he⟩ := hx
  by_cases hlt : i < s.props.length
  · have hg := pp_get hlt
    rw [ppGo_at hlt] at he
    generalize s.props[i] = x at *
    have cu := user27_ok x.user
    have cv := validA_ok x.sp x.nm
    by_cases hq : ppOK s.clk s.proposed la x = true
    · obtain ⟨q1, q2, q3, q4, q5, q6, q7, q8, q9, q10⟩ := ppOK_iff.1 hq
      rw [hq, Bool.true_and] at he
      rw [q3] at cu
      rw [q4] at cv
      clear hq
      repeat' first | refine J_seq ?_ | refine J_region Tryz.tyOK ?_ | refine J_block ?_ | refine J_cond ?_ | refine J_ret ?_ | refine J_skip ?_ | refine J_exit ?_ | refine J_scope ?_ | refine CondP.y ?_ | refine CondP.n ?_ | refine CondP.mk (fun h => ?_) (fun h => ?_) | refine EqP.mk rfl ?_ | refine NewP.mk (fun ad => ?_) | refine ArP.x ?_ | refine SideP.a ?_ | fail | refine IdxE.mk 0 8 _ (hrd _) (by omega) (by omega) ?_ | refine LoadE.mk 0 _ _ x.cells (hrd _) (by omega) (by omega) (by first | omega | decide) (by exact hg) ?_ | refine CallP.is cu ?_ | refine CallP.is cv ?_ | refine Round.mk (i + 1, x.id) (by dsimp only; omega) ⟨by dsimp only; omega, he⟩ SubE.a Ents.a | fail
    · have hq0 : ppOK s.clk s.proposed la x = false := by simpa using hq
      rw [hq0, Bool.false_and] at he
      have hWf : W = false := bfalse hW fun h => by rw [he] at h; exact absurd h.2.2.2 (by simp)
      repeat' first | refine J_seq ?_ | refine J_region Tryz.tyOK ?_ | refine J_block ?_ | refine J_cond ?_ | refine J_ret ?_ | refine J_skip ?_ | refine J_exit ?_ | refine J_scope ?_ | refine CondP.y ?_ | refine CondP.n ?_ | refine CondP.mk (fun h => ?_) (fun h => ?_) | refine EqP.mk rfl ?_ | refine NewP.mk (fun ad => ?_) | refine ArP.x ?_ | refine SideP.a ?_ | fail | refine IdxE.mk 0 8 _ (hrd _) (by omega) (by omega) ?_ | refine LoadE.mk 0 _ _ x.cells (hrd _) (by omega) (by omega) (by first | omega | decide) (by exact hg) ?_ | refine CallP.isB cu (fun hu => ?_) (fun hu => ?_) | refine CallP.isB cv (fun hv => ?_) (fun hv => ?_) | refine FinE.bool hWf | exact absurd (ppOK_iff.2 ⟨by omega, by omega, by assumption, by assumption, by omega, by omega, by omega, by omega, by omega, by omega⟩) hq | fail
  · have hil : i = s.props.length := by omega
    subst hil
    rw [List.drop_length] at he
    have hWt : W = true := hW.2 ⟨by omega, by omega, by omega, he⟩
    repeat' first | refine J_seq ?_ | refine J_region Tryz.tyOK ?_ | refine J_block ?_ | refine J_cond ?_ | refine J_ret ?_ | refine J_skip ?_ | refine J_exit ?_ | refine J_scope ?_ | refine CondP.y ?_ | refine CondP.n ?_ | refine CondP.mk (fun h => ?_) (fun h => ?_) | refine EqP.mk rfl ?_ | refine NewP.mk (fun ad => ?_) | refine ArP.x ?_ | refine SideP.a ?_ | refine FinE.bool hWt | fail
theorem lists27_ok (s : STM) (hs : StB s) : FnS Tryz.prog 100 [.agg s.cells] [] [stF s] (Is (.c (.b (listsT s.pl)))) := by
  have hl1 := big_le hs.watches
  have hl2 := big_le hs.lasts
  have hrd : ∀ L, Reads L [stF s] 0 3 s.wa s.watches.length (wtC s.watches) := fun L => .inr fun m h => h.1.watches
  have hrl : ∀ L, Reads L [stF s] 0 2 s.la s.lasts.length (ltC s.lasts) := fun L => .inr fun m h => h.1.lasts
  have hW := listsT_iff s
  generalize listsT s.pl = W at *
  refine fn_of_J Tryz.tyOK 0 Tryz.func100 (by kernel_rfl) (c := Tryz.f100.body.getD .skip) (by kernel_rfl) Tryz.ntmps100 (rs := Tryz.f100.results.toList) rfl (by simp) (fun G => ?_)
  repeat' first | refine J_seq ?_ | refine J_region Tryz.tyOK ?_ | refine J_block ?_ | refine J_cond ?_ | refine J_ret ?_ | refine J_skip ?_ | refine J_exit ?_ | refine J_scope ?_ | refine CondP.y ?_ | refine CondP.n ?_ | refine CondP.mk (fun h => ?_) (fun h => ?_) | refine EqP.mk rfl ?_ | refine NewP.mk (fun ad => ?_) | refine ArP.x ?_ | refine SideP.a ?_ | refine FinE.bool (bfalse hW fun h => ?_) | fail
  · omega
  · omega
  refine J_loop (α := Nat) (fun i => [(1, .c (.p 0 ad 0)), (3, .c (.i .i64 i))]) (fun _ => [.box 0 ad 42 s.cells]) (fun _ => [stF s]) 1
    (fun i => i ≤ s.watches.length ∧ ∀ j, j < i → wtA s j) (fun i => s.watches.length - i) (InFam.mk 0 ⟨Nat.zero_le _, fun j h => absurd h (Nat.not_lt_zero j)⟩ SubE.a (Ents.refl _ _)) (fun i hx => ?_)
  obtain ⟨hi, hn⟩ := hx
  by_cases hlt : i < s.watches.length
  · have hg := wt_get hlt
    have hA : wtA s i ↔ wtA s i := Iff.rfl
    conv at hA => rhs; rw [wtA, getD_at hlt]
    have hnext : wtA s i → ∀ j, j < i + 1 → wtA s j := fun h j hj => by
      by_cases e : j = i
      · subst e; exact h
      · exact hn j (by omega)
    have cn := isNameA_ok s.watches[i].user
    have cv := validA_ok s.watches[i].sp s.watches[i].nm
    have cb := before_ok (s.watches.getD (i - 1) default) s.watches[i]
    have hg1 : 0 < i → ((wtC s.watches).drop (((i : Int) - 1).toNat * 3 + 0)).take 3 = (s.watches.getD (i - 1) default).cells := fun h0 => by
      rw [show ((i : Int) - 1).toNat = i - 1 by omega, getD_at (show i - 1 < s.watches.length by omega)]; exact wt_get (by omega)
    generalize s.watches[i] = p at *
    generalize s.watches.getD (i - 1) default = q at *
    cases hv : isNameT p.user
    all_goals cases hh : validT p.sp p.nm
    all_goals cases hk : ltW q p
    all_goals
      rw [hv] at cn hA
      rw [hh] at cv hA
      rw [hk] at cb hA
      repeat' first | refine J_seq ?_ | refine J_region Tryz.tyOK ?_ | refine J_block ?_ | refine J_cond ?_ | refine J_ret ?_ | refine J_skip ?_ | refine J_exit ?_ | refine J_scope ?_ | refine CondP.y ?_ | refine CondP.n ?_ | refine CondP.mk (fun h => ?_) (fun h => ?_) | refine EqP.mk rfl ?_ | refine NewP.mk (fun ad => ?_) | refine ArP.x ?_ | refine SideP.a ?_ | refine J_drawS (id := 7) Tryz.tyOK (by kernel_rfl) [0, 1, 3, 7, 15, 31, 63, 127, 255, 511, 1023, 2047, 4095, 8191, 16383, 32767, 16383, 81919, 262143, 524287, 16383, 2097151, 4194303, 8388607, 16777215] [0, 1, 2, 3, 4, 5, 6, 7, 8, 9, 10, 11, 12, 13, 14, 15, 16, 17, 18, 19, 20, 21, 22, 23, 24] [] [1, 4, 47] true (by kernel_rfl) ?_ | refine J_drawS (id := 13) Tryz.tyOK (by kernel_rfl) [0, 1, 3, 7, 15, 31, 63, 127, 255, 511, 1023, 2047, 1023, 5119, 16383, 32767, 65535, 131071, 262143, 524287, 1048575, 2097151, 1048575, 5242879, 16777215, 33554431, 67108863, 1048575, 135266303, 536870911, 1073741823, 2147483647] [0, 1, 2, 3, 4, 5, 6, 7, 8, 9, 10, 11, 12, 13, 14, 15, 16, 17, 18, 19, 20, 21, 22, 23, 24, 25, 26, 27, 28, 29, 30, 31] [] [1, 6, 90] true (by kernel_rfl) ?_ | refine EntP.mk Ents.a ?_ | refine IdxE.mk 0 3 _ (hrd _) (by omega) (by omega) ?_ | refine LoadE.mk 0 _ _ p.cells (hrd _) (by omega) (by omega) (by first | omega | decide) (by exact hg) ?_ | refine LoadE.mk 0 _ _ q.cells (hrd _) (by omega) (by omega) (by first | omega | decide) (by exact hg1 (by omega)) ?_ | refine CallQ.mk [] _ cn (fun _ _ => trivial) ?_ | refine CallQ.mk [] _ cv (fun _ _ => trivial) ?_ | refine CallQ.mk [] _ cb (fun _ _ => trivial) ?_ | refine FinE.bool (bfalse hW fun h => ?_) | refine Round.mk (i + 1) (by omega) ⟨by omega, hnext (hA.2 ⟨rfl, rfl, fun _ => by first | rfl | omega⟩)⟩ SubE.a Ents.a | fail
    all_goals
      have hB := hA.1 (h.2.2.1 i hlt)
      first
        | (cases hB.1; done)
        | (cases hB.2.1; done)
        | (cases hB.2.2 (by omega); done)
  · have hil : i = s.watches.length := by omega
    subst hil
    clear hi hlt
    repeat' first | refine J_seq ?_ | refine J_region Tryz.tyOK ?_ | refine J_block ?_ | refine J_cond ?_ | refine J_ret ?_ | refine J_skip ?_ | refine J_exit ?_ | refine J_scope ?_ | refine CondP.y ?_ | refine CondP.n ?_ | refine CondP.mk (fun h => ?_) (fun h => ?_) | refine EqP.mk rfl ?_ | refine NewP.mk (fun ad => ?_) | refine ArP.x ?_ | refine SideP.a ?_ | fail
    refine J_loop (α := Nat) (fun i => [(1, .c (.p 0 ad 0)), (5, .c (.i .i64 i))]) (fun _ => [.box 0 ad 42 s.cells]) (fun _ => [stF s]) 1
      (fun i => i ≤ s.lasts.length ∧ ∀ j, j < i → luA s j) (fun i => s.lasts.length - i) (InFam.mk 0 ⟨Nat.zero_le _, fun j h => absurd h (Nat.not_lt_zero j)⟩ SubE.a Ents.a) (fun i hx => ?_)
    obtain ⟨hi, hn2⟩ := hx
    by_cases hlt : i < s.lasts.length
    · have hg := lt_get hlt
      have hA : luA s i ↔ luA s i := Iff.rfl
      conv at hA => rhs; rw [luA, getD_at hlt]
      have hnext : luA s i → ∀ j, j < i + 1 → luA s j := fun h j hj => by
        by_cases e : j = i
        · subst e; exact h
        · exact hn2 j (by omega)
      have cn := isNameA_ok s.lasts[i].user
      have hls := less_cmp (s.lasts.getD (i - 1) default).user s.lasts[i].user
      have hlr := cmpB_range (s.lasts.getD (i - 1) default).user s.lasts[i].user
      have hg1 : 0 < i → ((ltC s.lasts).drop (((i : Int) - 1).toNat * 2 + 0)).take 1 = [.s (s.lasts.getD (i - 1) default).user] := fun h0 => by
        rw [show ((i : Int) - 1).toNat = i - 1 by omega, getD_at (show i - 1 < s.lasts.length by omega), ltC, flat_get (F := LU.cells) (z := 2) (fun _ => rfl) (by omega) (by omega)]; rfl
      generalize s.lasts[i] = p at *
      generalize s.lasts.getD (i - 1) default = q at *
      cases hv : isNameT p.user
      all_goals
        rw [hv] at cn hA
        repeat' first | refine J_seq ?_ | refine J_region Tryz.tyOK ?_ | refine J_block ?_ | refine J_cond ?_ | refine J_ret ?_ | refine J_skip ?_ | refine J_exit ?_ | refine J_scope ?_ | refine CondP.y ?_ | refine CondP.n ?_ | refine CondP.mk (fun h => ?_) (fun h => ?_) | refine EqP.mk rfl ?_ | refine NewP.mk (fun ad => ?_) | refine ArP.x ?_ | refine SideP.a ?_ | refine J_drawS (id := 7) Tryz.tyOK (by kernel_rfl) [0, 1, 3, 7, 15, 31, 63, 127, 255, 511, 1023, 2047, 4095, 8191, 16383, 32767, 16383, 81919, 262143, 524287, 16383, 2097151, 4194303, 8388607, 16777215] [0, 1, 2, 3, 4, 5, 6, 7, 8, 9, 10, 11, 12, 13, 14, 15, 16, 17, 18, 19, 20, 21, 22, 23, 24] [] [1, 4, 47] true (by kernel_rfl) ?_ | refine J_drawS (id := 13) Tryz.tyOK (by kernel_rfl) [0, 1, 3, 7, 15, 31, 63, 127, 255, 511, 1023, 2047, 1023, 5119, 16383, 32767, 65535, 131071, 262143, 524287, 1048575, 2097151, 1048575, 5242879, 16777215, 33554431, 67108863, 1048575, 135266303, 536870911, 1073741823, 2147483647] [0, 1, 2, 3, 4, 5, 6, 7, 8, 9, 10, 11, 12, 13, 14, 15, 16, 17, 18, 19, 20, 21, 22, 23, 24, 25, 26, 27, 28, 29, 30, 31] [] [1, 6, 90] true (by kernel_rfl) ?_ | refine EntP.mk Ents.a ?_ | refine IdxE.mk 0 2 _ (hrl _) (by omega) (by omega) ?_ | refine FldE.mk 0 2 _ _ (hrl _) (by omega) ?_ | refine LoadE.mk 0 _ _ p.cells (hrl _) (by omega) (by omega) (by first | omega | decide) (by exact hg) ?_ | refine LoadE.mk 0 _ _ [.s q.user] (hrl _) (by omega) (by omega) (by first | omega | decide) (by exact hg1 (by omega)) ?_ | refine CallQ.mk [] _ cn (fun _ _ => trivial) ?_ | refine FinE.bool (bfalse hW fun h => ?_) | refine Round.mk (i + 1) (by omega) ⟨by omega, hnext (hA.2 ⟨rfl, by omega, by omega, fun _ => ?_⟩)⟩ SubE.a Ents.a | fail
      all_goals
        first
          | (have hB := hA.1 (h.2.2.2 i hlt)
             first
               | (cases hB.1; done)
               | omega
               | (have hC := hB.2.2.2 (by omega); clear hB h hW hn hn2 hnext cn hrd hrl hA; simp only [hls] at *; omega))
          | (clear hW hn hn2 hnext cn hrd hrl hA; simp only [hls] at *; omega)
          | trace_state
    · have hil : i = s.lasts.length := by omega
      subst hil
      have hWt : W = true := hW.2 ⟨by omega, by omega, hn, hn2⟩
      repeat' first | refine J_seq ?_ | refine J_region Tryz.tyOK ?_ | refine J_block ?_ | refine J_cond ?_ | refine J_ret ?_ | refine J_skip ?_ | refine J_exit ?_ | refine J_scope ?_ | refine CondP.y ?_ | refine CondP.n ?_ | refine CondP.mk (fun h => ?_) (fun h => ?_) | refine EqP.mk rfl ?_ | refine NewP.mk (fun ad => ?_) | refine ArP.x ?_ | refine SideP.a ?_ | refine FinE.bool hWt | fail
theorem valid27_ok (s : STM) (hs : StB s) : FnS Tryz.prog 72 [.agg s.cells] [] [stF s] (Is (.c (.b (validST s.pl)))) := by
  have hW := validST_iff s.pl
  have c1 := pages27_ok s hs
  have c2 := props27_ok s hs
  have c3 := lists27_ok s hs
  change _ ↔ 0 ≤ s.seq ∧ s.seq ≤ 1073741824 ∧ 0 ≤ s.clk ∧ s.clk ≤ 52595999 ∧ pagesT s.pl = true ∧ propsT s.pl = true ∧ listsT s.pl = true at hW
  generalize validST s.pl = W at *
  refine fn_of_J Tryz.tyOK 0 Tryz.func72 (by kernel_rfl) (c := Tryz.f72.body.getD .skip) (by kernel_rfl) Tryz.ntmps72 (rs := Tryz.f72.results.toList) rfl (by simp) (fun G => ?_)
  repeat' first | refine J_seq ?_ | refine J_region Tryz.tyOK ?_ | refine J_block ?_ | refine J_cond ?_ | refine J_ret ?_ | refine J_skip ?_ | refine J_exit ?_ | refine J_scope ?_ | refine CondP.y ?_ | refine CondP.n ?_ | refine CondP.mk (fun h => ?_) (fun h => ?_) | refine EqP.mk rfl ?_ | refine NewP.mk (fun ad => ?_) | refine ArP.x ?_ | refine SideP.a ?_ | refine CallP.isB c1 (fun h1 => ?_) (fun h1 => ?_) | refine CallP.isB c2 (fun h2 => ?_) (fun h2 => ?_) | refine CallP.isB c3 (fun h3 => ?_) (fun h3 => ?_) | refine FinE.bool ?_ | fail
  all_goals
    first
      | exact bfalse hW (by omega)
      | exact bfalse hW (fun h => by first | (rw [h1] at h; exact absurd h.2.2.2.2.1 (by decide)) | (rw [h2] at h; exact absurd h.2.2.2.2.2.1 (by decide)) | (rw [h3] at h; exact absurd h.2.2.2.2.2.2 (by decide)))
      | exact hW.2 ⟨by omega, by omega, by omega, by omega, h1, h2, h3⟩
end Go.Proofs

/- This text holds the plain forms of the functions on states in memory, beside those on plain states. -/
namespace Go.X
open Go Go.Lib
def befM (sp : Int) (nm : Bs) (p : PGM) : Bool := decide (compareT p.sp p.nm sp nm < 0)
def insM (l : List PGM) (x : PGM) : List PGM := insG (befM x.sp x.nm) l x
theorem insG_map {α β : Type} {f : α → β} {p : α → Bool} {q : β → Bool} (h : ∀ x, q (f x) = p x) (l : List α) (x : α) : (insG p l x).map f = insG q (l.map f) (f x) := by
  induction l with
  | nil => rfl
  | cons y t ih =>
    rw [List.map_cons, insG_cons, insG_cons, h y]
    split
    · rw [List.map_cons, ih]
    · rfl
theorem insM_pl (l : List PGM) (x : PGM) : (insM l x).map PGM.pl = insG (befT x.sp x.nm) (l.map PGM.pl) x.pl := insG_map (f := PGM.pl) (p := befM x.sp x.nm) (q := befT x.sp x.nm) (fun _ => rfl) l x
theorem insM_len (l : List PGM) (x : PGM) : (insM l x).length = l.length + 1 := insG_len _ _ _
theorem insM_mem {l : List PGM} {x y : PGM} : y ∈ insM l x ↔ y = x ∨ y ∈ l := mem_insG _ _ _ _
/-- Where an element is put in. -/
theorem insG_at {α : Type} {lt : α → Bool} : ∀ {l : List α} {x : α} {i : Nat} (_ : i ≤ l.length) (_ : ∀ j, ∀ h : j < l.length, j < i → lt l[j] = true) (_ : ∀ h : i < l.length, lt l[i] = false), insG lt l x = l.take i ++ x :: l.drop i
  | [], x, i, hi, _, _ => by
    have : i = 0 := by simpa using hi
    subst this; rfl
  | y :: t, x, 0, _, _, hn => by
    have h0 : lt y = false := hn (by simp)
    rw [insG_cons, h0, if_neg (by decide)]; rfl
  | y :: t, x, i + 1, hi, hp, hn => by
    have h0 : lt y = true := hp 0 (by simp) (by omega)
    rw [insG_cons, h0, if_pos rfl, insG_at (i := i) (by simpa using hi) (fun j hj hji => hp (j + 1) (by simpa using hj) (by omega)) (fun h => hn (by simpa using h))]
    rfl
theorem take_at {α : Type} {lt : α → Bool} : ∀ {l : List α} {i : Nat} (_ : i ≤ l.length) (_ : ∀ j, ∀ h : j < l.length, j < i → lt l[j] = true) (_ : ∀ h : i < l.length, lt l[i] = false), l.takeWhile lt = l.take i ∧ l.dropWhile lt = l.drop i
  | [], i, hi, _, _ => by
    have : i = 0 := by simpa using hi
    subst this; exact ⟨rfl, rfl⟩
  | y :: t, 0, _, _, hn => by
    have h0 : lt y = false := hn (by simp)
    rw [List.takeWhile_cons_of_neg (by simp [h0]), List.dropWhile_cons_of_neg (by simp [h0])]; exact ⟨rfl, rfl⟩
  | y :: t, i + 1, hi, hp, hn => by
    have h0 : lt y = true := hp 0 (by simp) (by omega)
    obtain ⟨h1, h2⟩ := take_at (lt := lt) (l := t) (i := i) (by simpa using hi) (fun j hj hji => hp (j + 1) (by simpa using hj) (by omega)) (fun h => hn (by simpa using h))
    rw [List.takeWhile_cons_of_pos h0, List.dropWhile_cons_of_pos h0, h1, h2]; exact ⟨rfl, rfl⟩
/-- A small state. -/
structure StS (s : STM) : Prop where
  pages : s.pages.length ≤ 1000
  ph : ∀ p ∈ s.pages, p.hist.length ≤ 1000
  gone : s.gone.length ≤ 1000
  gh : ∀ p ∈ s.gone, p.hist.length ≤ 1000
  props : s.props.length ≤ 1000
  watches : s.watches.length ≤ 1000
  lasts : s.lasts.length ≤ 1000
theorem StS.big {s : STM} (h : StS s) : StB s := ⟨by have := h.pages; show _ ≤ 140737488355328; omega, fun p hp => by have := h.ph p hp; show _ ≤ 140737488355328; omega, by have := h.gone; show _ ≤ 140737488355328; omega, fun p hp => by have := h.gh p hp; show _ ≤ 140737488355328; omega, by have := h.props; show _ ≤ 140737488355328; omega, by have := h.watches; show _ ≤ 140737488355328; omega, by have := h.lasts; show _ ≤ 140737488355328; omega⟩
theorem VK.small {sq : Int} {s : STM} (h : VK sq s.pl) : StS s := by
  have np := h.np; have ng := h.ng; have nq := h.nq; have nw := h.nw; have nl := h.nl
  change (((s.pages.map PGM.pl).length : Nat) : Int) ≤ _ at np
  change (((s.gone.map PGM.pl).length : Nat) : Int) ≤ _ at ng
  change ((s.props.length : Nat) : Int) ≤ _ at nq
  change ((s.watches.length : Nat) : Int) ≤ _ at nw
  change ((s.lasts.length : Nat) : Int) ≤ _ at nl
  rw [List.length_map] at np ng
  refine ⟨by omega, fun p hp => ?_, by omega, fun p hp => ?_, by omega, by omega, by omega⟩
  · have h1 := (histT_iff.1 (pageOK_iff.1 (h.pg p.pl (List.mem_map.2 ⟨p, hp, rfl⟩))).2).2.1
    have h2 : ((p.hist.length : Nat) : Int) ≤ 40 := h1
    omega
  · have h1 := (histT_iff.1 (pageOK_iff.1 (h.gn p.pl (List.mem_map.2 ⟨p, hp, rfl⟩))).2).2.1
    have h2 : ((p.hist.length : Nat) : Int) ≤ 40 := h1
    omega
/-- What a function gives that makes a state. -/
def StPost (r : ST × Int) (v : V) (L : List Chunk) (D : List Fact) : Prop := ∃ s' : STM, v = .t2 (.agg s'.cells) (.c (.i .i64 r.2)) ∧ L = [] ∧ D = [stF s'] ∧ s'.pl = r.1
/-- A slice that does not change any more. -/
def SlPost {α : Type} (z : Nat) (F : α → List C) (l : List α) (v : V) (L : List Chunk) (D : List Fact) : Prop := ∃ a c, v = .c (.sl a l.length c) ∧ L = [] ∧ D = [slcFact z a l.length c (l.flatMap F)]
theorem fromFact {m : Im} {e z lo n c : Nat} {a : Option Addr} {α : Type} {F : α → List C} (hz : ∀ g, (F g).length = z) {l : List α} (h : SlF m e z a l.length (l.flatMap F)) (hl : lo ≤ l.length) (hc : l.length ≤ c) (hn : n = l.length - lo) : SlF m e z (resl a lo c z) n ((l.drop lo).flatMap F) := by
  have h1 := slFact_sub (e := e) (m := m) (lo := lo) (hi := l.length) h hl (Nat.le_refl _) hc
  subst hn
  have h2 : ((l.flatMap F).take (l.length * z)).drop (lo * z) = (l.drop lo).flatMap F := by
    rw [List.take_of_length_le (by rw [flat_len hz]; exact Nat.le_refl _)]
    have e1 : (l.flatMap F) = (l.take lo).flatMap F ++ (l.drop lo).flatMap F := by rw [← List.flatMap_append, List.take_append_drop]
    rw [e1, List.drop_append_of_le_length (by rw [flat_len hz, List.length_take, Nat.min_eq_left hl]; exact Nat.le_refl _), List.drop_of_length_le (by rw [flat_len hz, List.length_take, Nat.min_eq_left hl]; exact Nat.le_refl _)]
    rfl
  rw [h2] at h1
  exact h1
theorem preFact {m : Im} {e z hi c : Nat} {a : Option Addr} {α : Type} {F : α → List C} (hz : ∀ g, (F g).length = z) {l : List α} (h : SlF m e z a l.length (l.flatMap F)) (hl : hi ≤ l.length) : SlF m e z (resl a 0 c z) hi ((l.take hi).flatMap F) := by
  have h1 := slFact_pre (e := e) (m := m) (hi := hi) c h hl
  rw [flat_take hz l hi hl] at h1
  exact h1
theorem pgmFrom {m : Im} {e lo n c : Nat} {a : Option Addr} {l : List PGM} (h : SlF m e 3 a l.length (pgmC l)) (hl : lo ≤ l.length) (hc : l.length ≤ c) (hn : n = l.length - lo) : SlF m e 3 (resl a lo c 3) n (pgmC (l.drop lo)) := fromFact (F := PGM.cells) (z := 3) (fun _ => rfl) h hl hc hn
theorem pgmPre {m : Im} {e hi c : Nat} {a : Option Addr} {l : List PGM} (h : SlF m e 3 a l.length (pgmC l)) (hl : hi ≤ l.length) : SlF m e 3 (resl a 0 c 3) hi (pgmC (l.take hi)) := preFact (F := PGM.cells) (z := 3) (fun _ => rfl) h hl
theorem wtFrom {m : Im} {e lo n c : Nat} {a : Option Addr} {l : List WT} (h : SlF m e 3 a l.length (wtC l)) (hl : lo ≤ l.length) (hc : l.length ≤ c) (hn : n = l.length - lo) : SlF m e 3 (resl a lo c 3) n (wtC (l.drop lo)) := fromFact (F := WT.cells) (z := 3) (fun _ => rfl) h hl hc hn
theorem ltFrom {m : Im} {e lo n c : Nat} {a : Option Addr} {l : List LU} (h : SlF m e 2 a l.length (ltC l)) (hl : lo ≤ l.length) (hc : l.length ≤ c) (hn : n = l.length - lo) : SlF m e 2 (resl a lo c 2) n (ltC (l.drop lo)) := fromFact (F := LU.cells) (z := 2) (fun _ => rfl) h hl hc hn
theorem pgm_lenD (l : List PGM) (i : Nat) : (pgmC (l.drop i)).length = (l.length - i) * 3 := by rw [pgmC_len, List.length_drop]
theorem pgm_lenT {l : List PGM} {i : Nat} (h : i ≤ l.length) : (pgmC (l.take i)).length = i * 3 := by rw [pgmC_len, List.length_take, Nat.min_eq_left h]
theorem wt_lenD (l : List WT) (i : Nat) : (wtC (l.drop i)).length = (l.length - i) * 3 := by rw [wtC_len, List.length_drop]
theorem lt_lenD (l : List LU) (i : Nat) : (ltC (l.drop i)).length = (l.length - i) * 2 := by rw [ltC_len, List.length_drop]
end Go.X

/- This text walks through the functions insert, without, drop, LastGone, Redirect, LastOf and Revision of the reference of chapter 27. -/
namespace Go.X
open Go Go.Lib
def hitP (sp : Int) (nm : Bs) (p : PP) : Bool := !decide (p.sp = sp ∧ p.nm = nm)
theorem pp_ttl {l : List PP} {i : Nat} (h : i < l.length) : ((ppC l).drop (i * 8 + 3)).take 2 = [.i .i64 l[i].sp, .s l[i].nm] := by
  rw [ppC, flat_get (F := PP.cells) (z := 8) (fun _ => rfl) h (by omega)]; rfl
theorem take_filter_succ {α : Type} {q : α → Bool} {l : List α} {i : Nat} (h : i < l.length) : (l.take (i + 1)).filter q = (l.take i).filter q ++ (if q l[i] = true then [l[i]] else []) := by
  rw [List.take_succ_eq_append_getElem h, List.filter_append]
  congr 1
  by_cases hq : q l[i] = true
  · simp [hq]
  · simp [hq]
theorem filter_take_len {α : Type} (q : α → Bool) (l : List α) (i : Nat) : ((l.take i).filter q).length ≤ i := Nat.le_trans (List.length_filter_le _ _) (by rw [List.length_take]; omega)
/-- The place of the last page with a title. -/
theorem lastG_at {α : Type} {p : α → Bool} : ∀ {l : List α} {k : Nat} (h : k < l.length) (_ : p l[k] = true) (_ : ∀ j, ∀ hj : j < l.length, k < j → p l[j] = false), lastG p l = k
  | x :: r, 0, h, hp, hn => by
    have h1 : lastG p r = -1 := by
      rcases lastG_spec p r with ⟨h1, _⟩ | ⟨i, h1, _, h3⟩
      · exact h1
      · have := hn (i + 1) (by simpa using h1) (by omega)
        simp at this
        rw [h3] at this; cases this
    rw [lastG, h1, if_neg (by omega), if_pos (by simpa using hp)]; rfl
  | x :: r, k + 1, h, hp, hn => by
    have h1 := lastG_at (p := p) (l := r) (k := k) (by simpa using h) (by simpa using hp) (fun j hj hk => hn (j + 1) (by simpa using hj) (by omega))
    rw [lastG, h1, if_pos (by omega)]; omega
theorem lastG_none {α : Type} {p : α → Bool} {l : List α} (hn : ∀ j, ∀ hj : j < l.length, p l[j] = false) : lastG p l = -1 := by
  rcases lastG_spec p l with ⟨h1, _⟩ | ⟨i, h1, _, h3⟩
  · exact h1
  · rw [hn i h1] at h3; cases h3
theorem lastG_map {α β : Type} (f : α → β) (q : β → Bool) : ∀ l : List α, lastG q (l.map f) = lastG (fun x => q (f x)) l
  | [] => rfl
  | x :: r => by simp only [List.map_cons, lastG, lastG_map f q r]
theorem lt_user {l : List LU} {i : Nat} (h : i < l.length) : ((ltC l).drop (i * 2 + 0)).take 1 = [.s l[i].user] := by
  rw [ltC, flat_get (F := LU.cells) (z := 2) (fun _ => rfl) h (by omega)]; rfl
end Go.X
namespace Go.Proofs
open Go Go.X
set_option maxRecDepth 100000
set_option maxHeartbeats 4000000
theorem insert27_ok (a : Option Addr) (c : Nat) (l : List PGM) (x : PGM) (hl : l.length ≤ 1000) : FnS Tryz.prog 147 [.c (.sl a l.length c), .agg x.cells] [] [slcFact 3 a l.length c (pgmC l)] (SlPost 3 PGM.cells (insM l x)) := by
  have hrd : ∀ L, Reads L [slcFact 3 a l.length c (pgmC l)] 0 3 a l.length (pgmC l) := fun L => .inr fun m h => h.1.2
  have hW : ∀ i, i ≤ l.length → (∀ j, ∀ h : j < l.length, j < i → befM x.sp x.nm l[j] = true) → (∀ h : i < l.length, befM x.sp x.nm l[i] = false) → insM l x = l.take i ++ x :: l.drop i := fun i h1 h2 h3 => insG_at h1 h2 h3
  have hlen := insM_len l x
  generalize insM l x = W at *
  obtain ⟨xs, xn, xa, xc, xh⟩ := x
  refine fn_of_J Tryz.tyOK 0 Tryz.func147 (by kernel_rfl) (c := Tryz.f147.body.getD .skip) (by kernel_rfl) Tryz.ntmps147 (rs := Tryz.f147.results.toList) rfl (by simp) (fun G => ?_)
  refine J_know (fun m h => h.1.1) (fun hnc => ?_)
  repeat' first | refine J_seq ?_ | refine J_region Tryz.tyOK ?_ | refine J_block ?_ | refine J_cond ?_ | refine J_ret ?_ | refine J_skip ?_ | refine J_exit ?_ | refine J_scope ?_ | refine CondP.y ?_ | refine CondP.n ?_ | refine CondP.mk (fun h => ?_) (fun h => ?_) | refine EqP.mk rfl ?_ | refine NewP.mk (fun ad => ?_) | refine ArP.x ?_ | refine SideP.a ?_ | fail
  refine J_loop (α := Nat × Option Addr × Nat) (fun x => [(0, .c (.sl a l.length c)), (3, .c (.p 0 ad 0)), (5, .c (.sl x.2.1 x.1 x.2.2)), (6, .c (.i .i64 x.1))]) (fun x => [.row 95 3 x.2.1 x.1 x.2.2 (pgmC (l.take x.1)), .box 0 ad 95 [.i .i64 xs, .s xn, .sl xa xh.length xc]]) (fun _ => [slcFact 3 a l.length c (pgmC l)]) 1
    (fun x => x.1 ≤ l.length ∧ ∀ j, ∀ h : j < l.length, j < x.1 → befM xs xn l[j] = true) (fun x => l.length - x.1) (InFam.mk (0, none, 0) ⟨Nat.zero_le _, fun j _ h => absurd h (Nat.not_lt_zero j)⟩ SubE.a (Ents.nilRow (ety := 95) (esz := 3))) (fun x hx => ?_)
  obtain ⟨i, a1, c1⟩ := x
  dsimp only at hx ⊢
  obtain ⟨hi, hn⟩ := hx
  have hend : (∀ h : i < l.length, befM xs xn l[i] = false) → W.length = i + 1 + (l.length - i) ∧ W.flatMap PGM.cells = pgmC (l.take i) ++ [.i .i64 xs, .s xn, .sl xa xh.length xc] ++ pgmC (l.drop i) := fun h => by
    rw [hW i hi hn h]
    refine ⟨by simp; omega, by simp [pgmC, PGM.cells]⟩
  by_cases hlt : i < l.length
  · have hg2 := pgm_get2 hlt
    have hg := pgm_get hlt
    have ht := List.take_succ_eq_append_getElem hlt
    have cc := refCompareT_ok l[i].sp l[i].nm xs xn
    have hb : befM xs xn l[i] = decide (compareT l[i].sp l[i].nm xs xn < 0) := rfl
    have hrow : pgmC (l.take (i + 1)) = pgmC (l.take i) ++ [.i .i64 l[i].sp, .s l[i].nm, .sl l[i].ha l[i].hist.length l[i].hc] := by
      rw [ht, pgmC, List.flatMap_append, List.flatMap_cons, List.flatMap_nil, List.append_nil]; rfl
    have hnext : compareT l[i].sp l[i].nm xs xn < 0 → ∀ j, ∀ h : j < l.length, j < i + 1 → befM xs xn l[j] = true := fun h j hj hji => by
      by_cases e : j = i
      · subst e; rw [hb]; exact decide_eq_true h
      · exact hn j hj (by omega)
    have hstop : ¬ compareT l[i].sp l[i].nm xs xn < 0 → W.length = i + 1 + (l.length - i) ∧ W.flatMap PGM.cells = pgmC (l.take i) ++ [.i .i64 xs, .s xn, .sl xa xh.length xc] ++ pgmC (l.drop i) := fun h => hend fun _ => by rw [hb]; exact decide_eq_false h
    generalize compareT l[i].sp l[i].nm xs xn = k at *
    generalize l[i] = y at *
    clear hend hW ht
    repeat' first | refine J_seq ?_ | refine J_region Tryz.tyOK ?_ | refine J_block ?_ | refine J_cond ?_ | refine J_ret ?_ | refine J_skip ?_ | refine J_exit ?_ | refine J_scope ?_ | refine CondP.y ?_ | refine CondP.n ?_ | refine CondP.mk (fun h => ?_) (fun h => ?_) | refine EqP.mk rfl ?_ | refine NewP.mk (fun ad => ?_) | refine ArP.x ?_ | refine SideP.a ?_ | refine J_drawS (id := 3) Tryz.tyOK (by kernel_rfl) [0, 0, 2, 7, 15, 31, 31, 127, 255, 511, 31, 1055, 4095, 8191, 16383] [0, 1, 2, 3, 4, 5, 6, 7, 8, 9, 10, 11, 12, 13, 14] [] [3, 14] true (by kernel_rfl) ?_ | refine EntP.mk Ents.a ?_ | refine IdxE.mk 0 3 _ (hrd _) (by omega) (by omega) ?_ | refine FldE.mk 0 3 _ _ (hrd _) (by omega) ?_ | refine LoadE.mk 0 _ _ [.i .i64 y.sp, .s y.nm] (hrd _) (by omega) (by omega) (by first | omega | decide) (by exact hg2) ?_ | refine LoadE.mk 0 _ _ [.i .i64 y.sp, .s y.nm, .sl y.ha y.hist.length y.hc] (hrd _) (by omega) (by omega) (by first | omega | decide) (by exact hg) ?_ | refine CallQ.mk [] _ cc (fun _ _ => trivial) ?_ | refine AppE.row [_] _ (pgmC (l.take i)) [.i .i64 y.sp, .s y.nm, .sl y.ha y.hist.length y.hc] 1 rfl (SrcE.sl 95 95 _ _ 1 1 _ rfl rfl (.inl ⟨1, List.Mem.head _⟩) rfl) (by dsimp only; omega) (fun a' c' => ?_); rw [← hrow] | refine Round.mk (i + 1, a', c') (by dsimp only; omega) ⟨by dsimp only; omega, hnext (by assumption)⟩ SubE.a Ents.a | refine AppE.row [_] _ (pgmC (l.take i)) [.i .i64 xs, .s xn, .sl xa xh.length xc] 1 rfl (SrcE.sl 95 95 _ _ 1 1 _ rfl rfl (.inl ⟨1, List.Mem.head _⟩) rfl) (by dsimp only; omega) (fun a' c' => ?_) | refine AppE.row [_] _ (pgmC (l.take i) ++ [.i .i64 xs, .s xn, .sl xa xh.length xc]) (pgmC (l.drop i)) (l.length - i) rfl (SrcE.sl 0 95 _ _ _ _ _ rfl rfl (.inr fun m h => pgmFrom h.1.2 hi hnc (by omega)) (pgm_lenD _ _)) (by dsimp only; omega) (fun a' c' => ?_) | refine FinE.mk [] [slcFact 3 _ (i + 1 + (l.length - i)) _ (pgmC (l.take i) ++ [.i .i64 xs, .s xn, .sl xa xh.length xc] ++ pgmC (l.drop i))] ⟨_, _, by rw [(hstop (by assumption)).1], rfl, by rw [(hstop (by assumption)).1, (hstop (by assumption)).2]⟩ (Ents.drop.trans (Ents.toFactC.trans (Ents.dropAll.trans (Ents.facts fun _ h => ⟨h.1, trivial⟩)))) | fail
  · have hstop := hend fun h => absurd h hlt
    clear hend hW
    repeat' first | refine J_seq ?_ | refine J_region Tryz.tyOK ?_ | refine J_block ?_ | refine J_cond ?_ | refine J_ret ?_ | refine J_skip ?_ | refine J_exit ?_ | refine J_scope ?_ | refine CondP.y ?_ | refine CondP.n ?_ | refine CondP.mk (fun h => ?_) (fun h => ?_) | refine EqP.mk rfl ?_ | refine NewP.mk (fun ad => ?_) | refine ArP.x ?_ | refine SideP.a ?_ | refine J_drawS (id := 3) Tryz.tyOK (by kernel_rfl) [0, 0, 2, 7, 15, 31, 31, 127, 255, 511, 31, 1055, 4095, 8191, 16383] [0, 1, 2, 3, 4, 5, 6, 7, 8, 9, 10, 11, 12, 13, 14] [] [3, 14] true (by kernel_rfl) ?_ | refine EntP.mk Ents.a ?_ | refine AppE.row [_] _ (pgmC (l.take i)) [.i .i64 xs, .s xn, .sl xa xh.length xc] 1 rfl (SrcE.sl 95 95 _ _ 1 1 _ rfl rfl (.inl ⟨1, List.Mem.head _⟩) rfl) (by dsimp only; omega) (fun a' c' => ?_) | refine AppE.row [_] _ (pgmC (l.take i) ++ [.i .i64 xs, .s xn, .sl xa xh.length xc]) (pgmC (l.drop i)) (l.length - i) rfl (SrcE.sl 0 95 _ _ _ _ _ rfl rfl (.inr fun m h => pgmFrom h.1.2 hi hnc (by omega)) (pgm_lenD _ _)) (by dsimp only; omega) (fun a' c' => ?_) | refine FinE.mk [] [slcFact 3 _ (i + 1 + (l.length - i)) _ (pgmC (l.take i) ++ [.i .i64 xs, .s xn, .sl xa xh.length xc] ++ pgmC (l.drop i))] ⟨_, _, by rw [hstop.1], rfl, by rw [hstop.1, hstop.2]⟩ (Ents.drop.trans (Ents.toFactC.trans (Ents.dropAll.trans (Ents.facts fun _ h => ⟨h.1, trivial⟩)))) | fail
theorem without27_ok (a : Option Addr) (c : Nat) (l : List PGM) (i : Nat) (hl : l.length ≤ 1000) (hi : i < l.length) : FnS Tryz.prog 148 [.c (.sl a l.length c), .c (.i .i64 i)] [] [slcFact 3 a l.length c (pgmC l)] (SlPost 3 PGM.cells (l.eraseIdx i)) := by
  have hW : (l.eraseIdx i).length = i + (l.length - (i + 1)) ∧ (l.eraseIdx i).flatMap PGM.cells = pgmC (l.take i) ++ pgmC (l.drop (i + 1)) := by
    rw [List.eraseIdx_eq_take_drop_succ]
    exact ⟨by simp; omega, by simp [pgmC]⟩
  generalize l.eraseIdx i = W at *
  refine fn_of_J Tryz.tyOK 0 Tryz.func148 (by kernel_rfl) (c := Tryz.f148.body.getD .skip) (by kernel_rfl) Tryz.ntmps148 (rs := Tryz.f148.results.toList) rfl (by simp) (fun G => ?_)
  refine J_know (fun m h => h.1.1) (fun hnc => ?_)
  repeat' first | refine J_seq ?_ | refine J_region Tryz.tyOK ?_ | refine J_block ?_ | refine J_cond ?_ | refine J_ret ?_ | refine J_skip ?_ | refine J_exit ?_ | refine J_scope ?_ | refine CondP.y ?_ | refine CondP.n ?_ | refine CondP.mk (fun h => ?_) (fun h => ?_) | refine EqP.mk rfl ?_ | refine NewP.mk (fun ad => ?_) | refine ArP.x ?_ | refine SideP.a ?_ | refine J_drawS (id := 1) Tryz.tyOK (by kernel_rfl) [0, 0, 3, 7, 0, 0, 32, 112, 255, 511] [0, 1, 2, 4, 5, 6, 7, 3, 8, 9] [3, 8] [] false (by kernel_rfl) ?_ | refine EntP.mk Ents.a ?_ | refine AppE.nil (pgmC (l.take i)) i rfl rfl rfl (SrcE.sl 0 95 _ _ _ _ _ rfl rfl (.inr fun m h => pgmPre h.1.2 (by omega)) (pgm_lenT (by omega))) (by dsimp only; omega) (fun a' c' => ?_) | refine AppE.row [] _ (pgmC (l.take i)) (pgmC (l.drop (i + 1))) (l.length - (i + 1)) rfl (SrcE.sl 0 95 _ _ _ _ _ rfl rfl (.inr fun m h => pgmFrom h.1.2 (by omega) hnc (by omega)) (pgm_lenD _ _)) (by dsimp only; omega) (fun a' c' => ?_) | refine FinE.mk [] [slcFact 3 _ (i + (l.length - (i + 1))) _ (pgmC (l.take i) ++ pgmC (l.drop (i + 1)))] ⟨_, _, by rw [hW.1], rfl, by rw [hW.1, hW.2]⟩ (Ents.toFactC.trans (Ents.dropAll.trans (Ents.facts fun _ h => ⟨h.1, trivial⟩))) | fail
theorem drop27_ok (e : Nat) (a : Option Addr) (c : Nat) (l : List PP) (sp : Int) (nm : Bs) (hl : l.length ≤ 1000) : FnS Tryz.prog 149 [.c (.sl a l.length c), .agg [.i .i64 sp, .s nm]] [] [slFact e 8 a l.length (ppC l)] (SlPost 8 PP.cells (dropT l sp nm)) := by
  have hrd : ∀ L, Reads L [slFact e 8 a l.length (ppC l)] e 8 a l.length (ppC l) := fun L => .inr fun m h => h.1
  have hq : dropT l sp nm = (l.take l.length).filter (hitP sp nm) := by rw [List.take_length]; rfl
  generalize dropT l sp nm = W at *
  refine fn_of_J Tryz.tyOK 0 Tryz.func149 (by kernel_rfl) (c := Tryz.f149.body.getD .skip) (by kernel_rfl) Tryz.ntmps149 (rs := Tryz.f149.results.toList) rfl (by simp) (fun G => ?_)
  repeat' first | refine J_seq ?_ | refine J_region Tryz.tyOK ?_ | refine J_block ?_ | refine J_cond ?_ | refine J_ret ?_ | refine J_skip ?_ | refine J_exit ?_ | refine J_scope ?_ | refine CondP.y ?_ | refine CondP.n ?_ | refine CondP.mk (fun h => ?_) (fun h => ?_) | refine EqP.mk rfl ?_ | refine NewP.mk (fun ad => ?_) | refine ArP.x ?_ | refine SideP.a ?_ | fail
  refine J_loop (α := Nat × Option Addr × Nat) (fun x => [(0, .c (.sl a l.length c)), (3, .c (.p 0 ad 0)), (5, .c (.sl x.2.1 ((l.take x.1).filter (hitP sp nm)).length x.2.2)), (6, .c (.i .i64 x.1))]) (fun x => [.row 196 8 x.2.1 ((l.take x.1).filter (hitP sp nm)).length x.2.2 (ppC ((l.take x.1).filter (hitP sp nm))), .box 0 ad 50 [.i .i64 sp, .s nm]]) (fun _ => [slFact e 8 a l.length (ppC l)]) 1
    (fun x => x.1 ≤ l.length) (fun x => l.length - x.1) (InFam.mk (0, none, 0) (Nat.zero_le _) SubE.a (Ents.nilRow (ety := 196) (esz := 8))) (fun x hi => ?_)
  obtain ⟨i, a1, c1⟩ := x
  dsimp only at hi ⊢
  have hfl := filter_take_len (hitP sp nm) l i
  by_cases hlt : i < l.length
  · have hg := pp_get hlt
    have hg2 := pp_ttl hlt
    have hs := take_filter_succ (q := hitP sp nm) hlt
    have hd : hitP sp nm l[i] = !decide (l[i].sp = sp ∧ l[i].nm = nm) := rfl
    have hyes : ¬ (l[i].sp = sp ∧ l[i].nm = nm ∧ True) → ((l.take i).filter (hitP sp nm)).length + 1 = ((l.take (i + 1)).filter (hitP sp nm)).length ∧ ppC ((l.take i).filter (hitP sp nm)) ++ l[i].cells = ppC ((l.take (i + 1)).filter (hitP sp nm)) := fun h => by
      rw [hs, hd, decide_eq_false (fun e => h ⟨e.1, e.2, trivial⟩)]
      exact ⟨by simp, by simp [ppC]⟩
    have hno : (l[i].sp = sp ∧ l[i].nm = nm ∧ True) → (l.take (i + 1)).filter (hitP sp nm) = (l.take i).filter (hitP sp nm) := fun h => by
      rw [hs, hd, decide_eq_true ⟨h.1, h.2.1⟩]; simp
    clear hs hd
    generalize l[i] = y at *
    repeat' first | refine J_seq ?_ | refine J_region Tryz.tyOK ?_ | refine J_block ?_ | refine J_cond ?_ | refine J_ret ?_ | refine J_skip ?_ | refine J_exit ?_ | refine J_scope ?_ | refine CondP.y ?_ | refine CondP.n ?_ | refine CondP.mk (fun h => ?_) (fun h => ?_) | refine EqP.mk rfl ?_ | refine NewP.mk (fun ad => ?_) | refine ArP.x ?_ | refine SideP.a ?_ | refine J_drawS (id := 5) Tryz.tyOK (by kernel_rfl) [0, 0, 3, 7, 15, 0, 63] [0, 1, 2, 3, 4, 5, 6] [] [3, 15] true (by kernel_rfl) ?_ | refine EntP.mk Ents.a ?_ | refine IdxE.mk e 8 _ (hrd _) (by omega) (by omega) ?_ | refine FldE.mk e 8 _ _ (hrd _) (by omega) ?_ | refine LoadE.mk e _ _ [.i .i64 y.sp, .s y.nm] (hrd _) (by omega) (by omega) (by first | omega | decide) (by exact hg2) ?_ | refine LoadE.mk e _ _ y.cells (hrd _) (by omega) (by omega) (by first | omega | decide) (by exact hg) ?_ | refine AppE.row [_] _ (ppC ((l.take i).filter (hitP sp nm))) y.cells 1 rfl (SrcE.sl 196 196 _ _ 1 1 _ rfl rfl (.inl ⟨1, List.Mem.head _⟩) rfl) (by dsimp only; omega) (fun a' c' => ?_); rw [(hyes (by assumption)).1, (hyes (by assumption)).2] | refine Round.mk (i + 1, a', c') (by dsimp only; omega) (by dsimp only; omega) SubE.a Ents.a | refine Round.mk (i + 1, a1, c1) (by dsimp only; omega) (by dsimp only; omega) (by dsimp only; rw [hno (by assumption)]; repeat' first | exact SubE.nil | refine SubE.cons rfl ?_ ?_ | exact VEq.refl _ | refine VEq.int (by omega) | refine VEq.sl rfl (by first | rfl | omega | (rw [List.length_append]; rfl) | (simp; omega)) rfl) (by dsimp only; rw [hno (by assumption)]; exact Ents.a) | fail
  · have hil : i = l.length := by omega
    subst hil
    rw [← hq]
    repeat' first | refine J_seq ?_ | refine J_region Tryz.tyOK ?_ | refine J_block ?_ | refine J_cond ?_ | refine J_ret ?_ | refine J_skip ?_ | refine J_exit ?_ | refine J_scope ?_ | refine CondP.y ?_ | refine CondP.n ?_ | refine CondP.mk (fun h => ?_) (fun h => ?_) | refine EqP.mk rfl ?_ | refine NewP.mk (fun ad => ?_) | refine ArP.x ?_ | refine SideP.a ?_ | refine FinE.mk [] [slcFact 8 _ W.length _ (ppC W)] ⟨_, _, rfl, rfl, rfl⟩ (Ents.toFactC.trans (Ents.dropAll.trans (Ents.facts fun _ h => ⟨h.1, trivial⟩))) | fail
theorem lastGone_ok (s : STM) (sp : Int) (nm : Bs) (hs : s.gone.length ≤ 1000) : FnS Tryz.prog 150 [.agg s.cells, .agg [.i .i64 sp, .s nm]] [] [stF s] (Is (.c (.i .i64 (lastG (atM sp nm) s.gone)))) := by
  have hrd : ∀ L, Reads L [stF s] 0 3 s.ga s.gone.length (pgmC s.gone) := fun L => .inr fun m h => h.1.gone.row
  generalize hk : lastG (atM sp nm) s.gone = k
  refine fn_of_J Tryz.tyOK 0 Tryz.func150 (by kernel_rfl) (c := Tryz.f150.body.getD .skip) (by kernel_rfl) Tryz.ntmps150 (rs := Tryz.f150.results.toList) rfl (by simp) (fun G => ?_)
  repeat' first | refine J_seq ?_ | refine J_region Tryz.tyOK ?_ | refine J_block ?_ | refine J_cond ?_ | refine J_ret ?_ | refine J_skip ?_ | refine J_exit ?_ | refine J_scope ?_ | refine CondP.y ?_ | refine CondP.n ?_ | refine CondP.mk (fun h => ?_) (fun h => ?_) | refine EqP.mk rfl ?_ | refine NewP.mk (fun ad => ?_) | refine ArP.x ?_ | refine SideP.a ?_ | fail
  rename_i ad0
  refine J_loop (α := Nat) (fun i => [(2, .c (.p 0 ad0 0)), (3, .c (.p 1 ad 0)), (5, .c (.i .i64 ((i : Int) - 1)))]) (fun _ => [.box 1 ad 50 [.i .i64 sp, .s nm], .box 0 ad0 42 s.cells]) (fun _ => [stF s]) 2
    (fun i => i ≤ s.gone.length ∧ ∀ j, ∀ hj : j < s.gone.length, i ≤ j → atM sp nm s.gone[j] = false) (fun i => i) (InFam.mk s.gone.length ⟨Nat.le_refl _, fun j h h' => absurd h (by omega)⟩ SubE.a (Ents.refl _ _)) (fun i hx => ?_)
  obtain ⟨hi, hn⟩ := hx
  by_cases h0 : 0 < i
  · obtain ⟨q, rfl⟩ : ∃ q, i = q + 1 := ⟨i - 1, by omega⟩
    have hlt : q < s.gone.length := by omega
    have hg : ((pgmC s.gone).drop ((((q + 1 : Nat) : Int) - 1).toNat * 3 + 0)).take 2 = [.i .i64 s.gone[q].sp, .s s.gone[q].nm] := by
      rw [show (((q + 1 : Nat) : Int) - 1).toNat = q by omega]; exact pgm_get2 hlt
    have hyes : s.gone[q].sp = sp ∧ s.gone[q].nm = nm ∧ True → k = q := fun h => by
      rw [← hk]; exact lastG_at hlt (decide_eq_true ⟨h.1, h.2.1⟩) fun j hj hji => hn j hj (by omega)
    have hno : ¬ (s.gone[q].sp = sp ∧ s.gone[q].nm = nm ∧ True) → ∀ j, ∀ hj : j < s.gone.length, q ≤ j → atM sp nm s.gone[j] = false := fun h j hj hji => by
      by_cases he : j = q
      · subst he; exact decide_eq_false fun e => h ⟨e.1, e.2, trivial⟩
      · exact hn j hj (by omega)
    generalize s.gone[q] = y at *
    repeat' first | refine J_seq ?_ | refine J_region Tryz.tyOK ?_ | refine J_block ?_ | refine J_cond ?_ | refine J_ret ?_ | refine J_skip ?_ | refine J_exit ?_ | refine J_scope ?_ | refine CondP.y ?_ | refine CondP.n ?_ | refine CondP.mk (fun h => ?_) (fun h => ?_) | refine EqP.mk rfl ?_ | refine NewP.mk (fun ad => ?_) | refine ArP.x ?_ | refine SideP.a ?_ | refine J_drawS (id := 4) Tryz.tyOK (by kernel_rfl) [0, 1, 0, 7, 15, 31, 0, 127] [0, 1, 2, 3, 4, 5, 6, 7] [] [2, 3, 17] true (by kernel_rfl) ?_ | refine EntP.mk Ents.a ?_ | refine IdxE.mk 0 3 _ (hrd _) (by omega) (by omega) ?_ | refine FldE.mk 0 3 _ _ (hrd _) (by omega) ?_ | refine LoadE.mk 0 _ _ [.i .i64 y.sp, .s y.nm] (hrd _) (by omega) (by omega) (by first | omega | decide) (by exact hg) ?_ | refine Round.mk q (by omega) ⟨by omega, hno (by assumption)⟩ SubE.a Ents.a | refine FinE.int (by have := hyes (by assumption); omega) | fail
  · have h1 : k = -1 := by
      rw [← hk]
      exact lastG_none fun j hj => hn j hj (by omega)
    subst h1
    have hi0 : i = 0 := by omega
    subst hi0
    repeat' first | refine J_seq ?_ | refine J_region Tryz.tyOK ?_ | refine J_block ?_ | refine J_cond ?_ | refine J_ret ?_ | refine J_skip ?_ | refine J_exit ?_ | refine J_scope ?_ | refine CondP.y ?_ | refine CondP.n ?_ | refine CondP.mk (fun h => ?_) (fun h => ?_) | refine EqP.mk rfl ?_ | refine NewP.mk (fun ad => ?_) | refine ArP.x ?_ | refine SideP.a ?_ | refine FinE.is rfl | fail
theorem redirect27_ok (sp : Int) (nm : Bs) (hs : nm.length ≤ 1000000) : FnS Tryz.prog 151 [.agg [.i .i64 sp, .s nm]] [] [] (Is (.c (.s (redirT sp nm)))) := by
  have cf := refFormat_ok sp nm hs
  have hl := formatT_le sp nm
  have hd : redirT sp nm = [35, 82, 69, 68, 73, 82, 69, 67, 84, 32, 91, 91] ++ formatT sp nm ++ [93, 93] := rfl
  rw [hd]
  generalize formatT sp nm = f at *
  refine fn_of_J Tryz.tyOK 0 Tryz.func151 (by kernel_rfl) (c := Tryz.f151.body.getD .skip) (by kernel_rfl) Tryz.ntmps151 (rs := Tryz.f151.results.toList) rfl (by simp) (fun G => ?_)
  repeat' first | refine J_seq ?_ | refine J_region Tryz.tyOK ?_ | refine J_block ?_ | refine J_cond ?_ | refine J_ret ?_ | refine J_skip ?_ | refine J_exit ?_ | refine J_scope ?_ | refine CondP.y ?_ | refine CondP.n ?_ | refine CondP.mk (fun h => ?_) (fun h => ?_) | refine EqP.mk rfl ?_ | refine NewP.mk (fun ad => ?_) | refine ArP.x ?_ | refine SideP.a ?_ | refine CallP.is cf ?_ | refine FinE.is rfl | fail
end Go.Proofs
