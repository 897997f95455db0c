/- This text walks through the functions of the reference of chapter 27 that check a state or look at one: isUser, history, find, Page, Current, Text, before, Valid. -/
import Derived.Test.YthknndkjnglegaaGreatI12
import Derived.Test.YthknndkjnglegaaGreatI13
import Derived.Test.YthknndkjnglegaaGreatI16
import Derived.Test.YthknndkjnglegaaGreatI11
import Derived.Test.YthknndkjnglegaaGreatI08
set_option linter.all false

namespace Go.X
open Go Go.Lib
theorem bfalse {W : Bool} {P : Prop} (h : W = true ↔ P) (hn : ¬ P) : W = false := by
  cases W
  · rfl
  · exact absurd (h.1 rfl) hn
theorem histGo_at {clk sq i mi se : Int} {l : List RV} {k : Nat} (h : k < l.length) : histGo clk sq i mi se (l.drop k) = (rvOK clk sq i mi se l[k] && histGo clk sq (i + 1) l[k].min l[k].seq (l.drop (k + 1))) := by
  rw [List.drop_eq_getElem_cons h, histGo]
theorem idxG_at {α : Type} {p : α → Bool} {l : List α} {k : Nat} (h : k < l.length) (hn : ∀ j, ∀ hj : j < k, p (l[j]'(by omega)) = false) : (p l[k] = true → idxG p l = k) ∧ True := by
  refine ⟨fun hk => ?_, trivial⟩
  induction l generalizing k with
  | nil => simp at h
  | cons x r ih =>
    simp only [idxG]
    cases k with
    | zero => rw [if_pos (by simpa using hk)]; rfl
    | succ k =>
      have h0 := hn 0 (by omega)
      simp only [List.getElem_cons_zero] at h0
      rw [if_neg (by rw [h0]; decide)]
      have := ih (k := k) (by simpa using h) (fun j hj => by simpa using hn (j + 1) (by omega)) (by simpa using hk)
      rw [this, if_neg (by omega)]
      omega
theorem idxG_none {α : Type} {p : α → Bool} {l : List α} (hn : ∀ x ∈ l, p x = false) : idxG p l = -1 := by
  rcases idxG_spec p l with ⟨h, _⟩ | ⟨i, h1, _, h3⟩
  · exact h
  · rw [hn _ (List.getElem_mem h1)] at h3; cases h3
end Go.X
namespace Go.Proofs
open Go Go.X
set_option maxRecDepth 100000
set_option maxHeartbeats 4000000
theorem isNameA_ok (s : Bs) : FnS Tryz.prog 79 [.c (.s s)] [] [] (Is (.c (.b (isNameT s)))) := by
  by_cases hs : s.length ≤ 30
  · exact refIsName_ok s (by omega)
  · have h0 : isNameT s = false := by
      unfold isNameT
      rw [show decide (30 < (s.length : Int)) = true from decide_eq_true (by omega)]
      simp
    rw [h0]
    refine fn_of_J Tryz.tyOK 0 Tryz.func79 (by kernel_rfl) (c := Tryz.f79.body.getD .skip) (by kernel_rfl) Tryz.ntmps79 (rs := Tryz.f79.results.toList) rfl (by simp) (fun G => ?_)
    repeat' first | refine J_seq ?_ | refine J_region Tryz.tyOK ?_ | refine J_block ?_ | refine J_cond ?_ | refine J_ret ?_ | refine J_skip ?_ | refine J_exit ?_ | refine J_scope ?_ | refine CondP.y ?_ | refine CondP.n ?_ | refine CondP.mk (fun h => ?_) (fun h => ?_) | refine EqP.mk rfl ?_ | refine NewP.mk (fun ad => ?_) | refine ArP.x ?_ | refine SideP.a ?_ | refine FinE.is rfl | fail
theorem validA_ok (sp : Int) (s : Bs) : FnS Tryz.prog 82 [.agg [.i .i64 sp, .s s]] [] [] (Is (.c (.b (validT sp s)))) := by
  by_cases hs : s.length ≤ 1000000
  · exact refValid_ok sp s hs
  · have h0 : validT sp s = false := by
      unfold validT
      rw [show decide (100 < (s.length : Int)) = true from decide_eq_true (by omega)]
      simp
    rw [h0]
    refine fn_of_J Tryz.tyOK 0 Tryz.func82 (by kernel_rfl) (c := Tryz.f82.body.getD .skip) (by kernel_rfl) Tryz.ntmps82 (rs := Tryz.f82.results.toList) rfl (by simp) (fun G => ?_)
    repeat' first | refine J_seq ?_ | refine J_region Tryz.tyOK ?_ | refine J_block ?_ | refine J_cond ?_ | refine J_ret ?_ | refine J_skip ?_ | refine J_exit ?_ | refine J_scope ?_ | refine CondP.y ?_ | refine CondP.n ?_ | refine CondP.mk (fun h => ?_) (fun h => ?_) | refine EqP.mk rfl ?_ | refine NewP.mk (fun ad => ?_) | refine ArP.x ?_ | refine SideP.a ?_ | refine FinE.is rfl | fail
theorem user27_ok (s : Bs) : FnS Tryz.prog 143 [.c (.s s)] [] [] (Is (.c (.b (userT s)))) := by
  have c1 := isNameA_ok s
  have hu : userT s = (decide (s = []) || isNameT s) := rfl
  refine fn_of_J Tryz.tyOK 0 Tryz.func143 (by kernel_rfl) (c := Tryz.f143.body.getD .skip) (by kernel_rfl) Tryz.ntmps143 (rs := Tryz.f143.results.toList) rfl (by simp) (fun G => ?_)
  repeat' first | refine J_seq ?_ | refine J_region Tryz.tyOK ?_ | refine J_block ?_ | refine J_cond ?_ | refine J_ret ?_ | refine J_skip ?_ | refine J_exit ?_ | refine J_scope ?_ | refine CondP.y ?_ | refine CondP.n ?_ | refine CondP.mk (fun h => ?_) (fun h => ?_) | refine EqP.mk rfl ?_ | refine NewP.mk (fun ad => ?_) | refine ArP.x ?_ | refine SideP.a ?_ | refine CallP.isB c1 (fun h1 => ?_) (fun h1 => ?_) | refine FinE.bool ?_ | fail
  all_goals (rw [hu]; simp [*])
theorem hist27_ok (s : STM) (e : Nat) (a : Option Addr) (c : Nat) (l : List RV) (hl : l.length ≤ 9223372036854775807) : FnS Tryz.prog 142 [.agg s.cells, .c (.sl a l.length c)] [] [slFact e 6 a l.length (rvC l)] (Is (.c (.b (histT s.clk s.seq l)))) := by
  have hrd : ∀ L, Reads L [slFact e 6 a l.length (rvC l)] e 6 a l.length (rvC l) := fun L => .inr fun m h => h.1
  obtain ⟨W, hW⟩ : ∃ W, histT s.clk s.seq l = W := ⟨_, rfl⟩
  rw [hW]
  have hno : ¬ (1 ≤ l.length ∧ l.length ≤ 40) → W = false := fun h => by
    rw [← hW, histT]
    by_cases h1 : 1 ≤ (l.length : Int)
    · rw [decide_eq_false (show ¬ (l.length : Int) ≤ 40 by omega)]; simp
    · rw [decide_eq_false h1]; simp
  have hyes : 1 ≤ l.length ∧ l.length ≤ 40 → W = histGo s.clk s.seq 0 0 1 l := fun h => by
    rw [← hW, histT, decide_eq_true (show (1 : Int) ≤ (l.length : Int) by omega), decide_eq_true (show (l.length : Int) ≤ 40 by omega)]; simp
  clear hW
  refine fn_of_J Tryz.tyOK 0 Tryz.func142 (by kernel_rfl) (c := Tryz.f142.body.getD .skip) (by kernel_rfl) Tryz.ntmps142 (rs := Tryz.f142.results.toList) rfl (by simp) (fun G => ?_)
  repeat' first | refine J_seq ?_ | refine J_region Tryz.tyOK ?_ | refine J_block ?_ | refine J_cond ?_ | refine J_ret ?_ | refine J_skip ?_ | refine J_exit ?_ | refine J_scope ?_ | refine CondP.y ?_ | refine CondP.n ?_ | refine CondP.mk (fun h => ?_) (fun h => ?_) | refine EqP.mk rfl ?_ | refine NewP.mk (fun ad => ?_) | refine ArP.x ?_ | refine SideP.a ?_ | refine FinE.bool ?_ | fail
  · exact hno (by omega)
  · exact hno (by omega)
  have hyes := hyes (by omega)
  clear hno
  refine J_loop (α := Nat × Int × Int) (fun x => [(1, .c (.sl a l.length c)), (2, .c (.p 0 ad 0)), (5, .c (.i .i64 x.2.1)), (6, .c (.i .i64 x.2.2)), (7, .c (.i .i64 x.1))]) (fun _ => [.box 0 ad 42 s.cells]) (fun _ => [slFact e 6 a l.length (rvC l)]) 1
    (fun x => x.1 ≤ l.length ∧ W = histGo s.clk s.seq x.1 x.2.1 x.2.2 (l.drop x.1)) (fun x => l.length - x.1) (InFam.mk (0, 0, 1) ⟨Nat.zero_le _, hyes⟩ SubE.a (Ents.refl _ _)) (fun x hx => ?_)
  obtain ⟨i, mi, se⟩ := x
  dsimp only at hx ⊢
  obtain ⟨hi, he⟩ := hx
  by_cases hlt : i < l.length
  · have hg := rv_get hlt
    rw [histGo_at hlt] at he
    generalize l[i] = x at *
    have cu := user27_ok x.user
    by_cases hq : rvOK s.clk s.seq i mi se x = true
    · have hq' := rvOK_iff.1 hq
      obtain ⟨q1, q2, q3, q4, q5, q6, q7, q8⟩ := hq'
      rw [hq, Bool.true_and] at he
      rw [q4] at cu
      clear hq
      repeat' first | refine J_seq ?_ | refine J_region Tryz.tyOK ?_ | refine J_block ?_ | refine J_cond ?_ | refine J_ret ?_ | refine J_skip ?_ | refine J_exit ?_ | refine J_scope ?_ | refine CondP.y ?_ | refine CondP.n ?_ | refine CondP.mk (fun h => ?_) (fun h => ?_) | refine EqP.mk rfl ?_ | refine NewP.mk (fun ad => ?_) | refine ArP.x ?_ | refine SideP.a ?_ | refine J_drawS (id := 10) Tryz.tyOK (by kernel_rfl) [0, 1, 0, 4, 3, 31] [0, 1, 2, 3, 4, 5] [] [8] true (by kernel_rfl) ?_ | refine EntP.mk Ents.a ?_ | refine IdxE.mk e 6 _ (hrd _) (by omega) (by omega) ?_ | refine LoadE.mk e _ _ _ (hrd _) (by omega) (by omega) (by first | omega | decide) (by exact hg) ?_ | refine CallP.is cu ?_ | refine Round.mk (i + 1, x.min, x.seq) (by dsimp only; omega) ⟨by dsimp only; omega, he⟩ SubE.a Ents.a | fail
    · have hq0 : rvOK s.clk s.seq i mi se x = false := by simpa using hq
      rw [hq0, Bool.false_and] at he
      subst he
      repeat' first | refine J_seq ?_ | refine J_region Tryz.tyOK ?_ | refine J_block ?_ | refine J_cond ?_ | refine J_ret ?_ | refine J_skip ?_ | refine J_exit ?_ | refine J_scope ?_ | refine CondP.y ?_ | refine CondP.n ?_ | refine CondP.mk (fun h => ?_) (fun h => ?_) | refine EqP.mk rfl ?_ | refine NewP.mk (fun ad => ?_) | refine ArP.x ?_ | refine SideP.a ?_ | refine J_drawS (id := 10) Tryz.tyOK (by kernel_rfl) [0, 1, 0, 4, 3, 31] [0, 1, 2, 3, 4, 5] [] [8] true (by kernel_rfl) ?_ | refine EntP.mk Ents.a ?_ | refine IdxE.mk e 6 _ (hrd _) (by omega) (by omega) ?_ | refine LoadE.mk e _ _ _ (hrd _) (by omega) (by omega) (by first | omega | decide) (by exact hg) ?_ | refine CallP.isB cu (fun hu => ?_) (fun hu => ?_) | refine FinE.is rfl | exact absurd (rvOK_iff.2 ⟨by omega, by omega, by omega, by assumption, by omega, by omega, by omega, by omega⟩) hq | fail
  · have hil : i = l.length := by omega
    subst hil
    rw [List.drop_length] at he
    have he : W = true := he
    subst he
    repeat' first | refine J_seq ?_ | refine J_region Tryz.tyOK ?_ | refine J_block ?_ | refine J_cond ?_ | refine J_ret ?_ | refine J_skip ?_ | refine J_exit ?_ | refine J_scope ?_ | refine CondP.y ?_ | refine CondP.n ?_ | refine CondP.mk (fun h => ?_) (fun h => ?_) | refine EqP.mk rfl ?_ | refine NewP.mk (fun ad => ?_) | refine ArP.x ?_ | refine SideP.a ?_ | refine FinE.is rfl | fail
end Go.Proofs

/- This text walks through the functions find, Page, Current, Text and before of the reference of chapter 27. -/
namespace Go.X
open Go Go.Lib
def atM (sp : Int) (nm : Bs) (p : PGM) : Bool := decide (p.sp = sp ∧ p.nm = nm)
theorem idxG_map {α β : Type} (f : α → β) (q : β → Bool) : ∀ l : List α, idxG q (l.map f) = idxG (fun x => q (f x)) l
  | [] => rfl
  | x :: r => by simp only [List.map_cons, idxG, idxG_map f q r]
def noPage : V := .agg [.i .i64 0, .s [], .sl none 0 0]
def pageV : Option PGM → V
  | none => .t2 noPage ff
  | some p => .t2 (.agg p.cells) tt
def curM (l : List RV) : RV := l.getLast?.getD default
theorem curM_at {l : List RV} {k : Nat} (h : l.length = k + 1) : curM l = l[k]'(by omega) := by
  unfold curM
  rw [List.getLast?_eq_getElem?, show l.length - 1 = k by omega, List.getElem?_eq_getElem (by omega)]
  rfl
/-- The lists of a state are not longer than memory. -/
def big : Nat := 140737488355328
structure StB (s : STM) : Prop where
  pages : s.pages.length ≤ big
  ph : ∀ p ∈ s.pages, p.hist.length ≤ big
  gone : s.gone.length ≤ big
  gh : ∀ p ∈ s.gone, p.hist.length ≤ big
  props : s.props.length ≤ big
  watches : s.watches.length ≤ big
  lasts : s.lasts.length ≤ big
theorem big_le {n : Nat} (h : n ≤ big) : n ≤ 140737488355328 := h
/-- The index of the first element that has a property finds it. -/
theorem find_idx {α : Type} (p : α → Bool) : ∀ l : List α, (idxG p l = -1 ∧ l.find? p = none) ∨ ∃ i : Nat, ∃ h : i < l.length, idxG p l = i ∧ l.find? p = some l[i] ∧ p l[i] = true
  | [] => .inl ⟨rfl, rfl⟩
  | x :: r => by
    by_cases hx : p x = true
    · refine .inr ⟨0, by simp, ?_, ?_, hx⟩
      · simp [idxG, hx]
      · simp [List.find?_cons, hx]
    · rcases find_idx p r with ⟨h1, h2⟩ | ⟨i, h1, h2, h3, h4⟩
      · refine .inl ⟨?_, ?_⟩
        · simp [idxG, hx, h1]
        · simp [List.find?_cons, hx, h2]
      · refine .inr ⟨i + 1, by simpa using h1, ?_, ?_, by simpa using h4⟩
        · rw [idxG, if_neg hx, h2, if_neg (by omega)]; omega
        · simpa [List.find?_cons, hx] using h3
end Go.X
namespace Go.Proofs
open Go Go.X
set_option maxRecDepth 100000
set_option maxHeartbeats 4000000
theorem find27_ok (e : Nat) (a : Option Addr) (c : Nat) (l : List PGM) (sp : Int) (nm : Bs) (hl : l.length ≤ big) : FnS Tryz.prog 95 [.c (.sl a l.length c), .agg [.i .i64 sp, .s nm]] [] [slFact e 3 a l.length (pgmC l)] (Is (.c (.i .i64 (idxG (atM sp nm) l)))) := by
  have hl := big_le hl
  have hrd : ∀ L, Reads L [slFact e 3 a l.length (pgmC l)] e 3 a l.length (pgmC l) := fun L => .inr fun m h => h.1
  obtain ⟨k, hk⟩ : ∃ k, idxG (atM sp nm) l = k := ⟨_, rfl⟩
  rw [hk]
  refine fn_of_J Tryz.tyOK 0 Tryz.func95 (by kernel_rfl) (c := Tryz.f95.body.getD .skip) (by kernel_rfl) Tryz.ntmps95 (rs := Tryz.f95.results.toList) rfl (by simp) (fun G => ?_)
  repeat' first | refine J_seq ?_ | refine J_region Tryz.tyOK ?_ | refine J_block ?_ | refine J_cond ?_ | refine J_ret ?_ | refine J_skip ?_ | refine J_exit ?_ | refine J_scope ?_ | refine CondP.y ?_ | refine CondP.n ?_ | refine CondP.mk (fun h => ?_) (fun h => ?_) | refine EqP.mk rfl ?_ | refine NewP.mk (fun ad => ?_) | refine ArP.x ?_ | refine SideP.a ?_ | fail
  refine J_loop (α := Nat) (fun i => [(0, .c (.sl a l.length c)), (3, .c (.p 0 ad 0)), (5, .c (.i .i64 i))]) (fun _ => [.box 0 ad 50 [.i .i64 sp, .s nm]]) (fun _ => [slFact e 3 a l.length (pgmC l)]) 1
    (fun i => i ≤ l.length ∧ ∀ j, ∀ hj : j < l.length, j < i → atM sp nm l[j] = false) (fun i => l.length - i) (InFam.mk 0 ⟨Nat.zero_le _, fun j _ h => absurd h (Nat.not_lt_zero j)⟩ SubE.a (Ents.refl _ _)) (fun i hx => ?_)
  obtain ⟨hi, hn⟩ := hx
  by_cases hlt : i < l.length
  · have hg := pgm_get2 hlt
    have hyes : l[i].sp = sp ∧ l[i].nm = nm ∧ True → k = i := fun h => by
      rw [← hk]; exact (idxG_at hlt fun j hj => hn j (by omega) hj).1 (decide_eq_true ⟨h.1, h.2.1⟩)
    have hno : ¬ (l[i].sp = sp ∧ l[i].nm = nm ∧ True) → ∀ j, ∀ hj : j < l.length, j < i + 1 → atM sp nm l[j] = false := fun h j hj hji => by
      by_cases he : j = i
      · subst he; exact decide_eq_false fun e => h ⟨e.1, e.2, trivial⟩
      · exact hn j hj (by omega)
    repeat' first | refine J_seq ?_ | refine J_region Tryz.tyOK ?_ | refine J_block ?_ | refine J_cond ?_ | refine J_ret ?_ | refine J_skip ?_ | refine J_exit ?_ | refine J_scope ?_ | refine CondP.y ?_ | refine CondP.n ?_ | refine CondP.mk (fun h => ?_) (fun h => ?_) | refine EqP.mk rfl ?_ | refine NewP.mk (fun ad => ?_) | refine ArP.x ?_ | refine SideP.a ?_ | refine J_drawS (id := 4) Tryz.tyOK (by kernel_rfl) [0, 0, 3, 7, 15, 0, 63] [0, 1, 2, 3, 4, 5, 6] [] [3, 14] true (by kernel_rfl) ?_ | refine EntP.mk Ents.a ?_ | refine IdxE.mk e 3 _ (hrd _) (by omega) (by omega) ?_ | refine FldE.mk e 3 _ _ (hrd _) (by omega) ?_ | refine LoadE.mk e _ _ [.i .i64 l[i].sp, .s l[i].nm] (hrd _) (by omega) (by omega) (by first | omega | decide) (by exact hg) ?_ | refine Round.mk (i + 1) (by omega) ⟨by omega, hno (by assumption)⟩ SubE.a Ents.a | refine FinE.int (hyes (by assumption)).symm | refine FinE.int (hyes (by assumption)) | fail
  · have h1 : k = -1 := by
      rw [← hk]
      refine idxG_none fun x hx => ?_
      obtain ⟨j, hj, rfl⟩ := List.getElem_of_mem hx
      exact hn j hj (by omega)
    subst h1
    repeat' first | refine J_seq ?_ | refine J_region Tryz.tyOK ?_ | refine J_block ?_ | refine J_cond ?_ | refine J_ret ?_ | refine J_skip ?_ | refine J_exit ?_ | refine J_scope ?_ | refine CondP.y ?_ | refine CondP.n ?_ | refine CondP.mk (fun h => ?_) (fun h => ?_) | refine EqP.mk rfl ?_ | refine NewP.mk (fun ad => ?_) | refine ArP.x ?_ | refine SideP.a ?_ | refine FinE.is rfl | fail
theorem page27_ok (s : STM) (sp : Int) (nm : Bs) (hs : StB s) : FnS Tryz.prog 62 [.agg s.cells, .agg [.i .i64 sp, .s nm]] [] [stF s] (Is (pageV (s.pages.find? (atM sp nm)))) := by
  have hl := big_le hs.pages
  have hrd : ∀ L, Reads L [stF s] 0 3 s.pa s.pages.length (pgmC s.pages) := fun L => .inr fun m h => h.1.pages.row
  have cf := find27_ok 0 s.pa s.pc s.pages sp nm hs.pages
  rcases find_idx (atM sp nm) s.pages with ⟨h1, h2⟩ | ⟨i, hi, h1, h2, _⟩
  · rw [h1] at cf
    rw [h2]
    refine fn_of_J Tryz.tyOK 0 Tryz.func62 (by kernel_rfl) (c := Tryz.f62.body.getD .skip) (by kernel_rfl) Tryz.ntmps62 (rs := Tryz.f62.results.toList) rfl (by simp) (fun G => ?_)
    repeat' first | refine J_seq ?_ | refine J_region Tryz.tyOK ?_ | refine J_block ?_ | refine J_cond ?_ | refine J_ret ?_ | refine J_skip ?_ | refine J_exit ?_ | refine J_scope ?_ | refine CondP.y ?_ | refine CondP.n ?_ | refine CondP.mk (fun h => ?_) (fun h => ?_) | refine EqP.mk rfl ?_ | refine NewP.mk (fun ad => ?_) | refine ArP.x ?_ | refine SideP.a ?_ | refine CallP.is cf ?_ (fun _ h => ⟨h.1.pages.row, trivial⟩) | refine FinE.mk [] [] ⟨rfl, rfl, rfl⟩ (Ents.drop.trans (Ents.drop.trans (Ents.drop.trans (Ents.facts fun _ _ => trivial)))) | fail
  · rw [h1] at cf
    rw [h2]
    have hg := pgm_get hi
    generalize hp : s.pages[i] = p at *
    refine fn_of_J Tryz.tyOK 0 Tryz.func62 (by kernel_rfl) (c := Tryz.f62.body.getD .skip) (by kernel_rfl) Tryz.ntmps62 (rs := Tryz.f62.results.toList) rfl (by simp) (fun G => ?_)
    repeat' first | refine J_seq ?_ | refine J_region Tryz.tyOK ?_ | refine J_block ?_ | refine J_cond ?_ | refine J_ret ?_ | refine J_skip ?_ | refine J_exit ?_ | refine J_scope ?_ | refine CondP.y ?_ | refine CondP.n ?_ | refine CondP.mk (fun h => ?_) (fun h => ?_) | refine EqP.mk rfl ?_ | refine NewP.mk (fun ad => ?_) | refine ArP.x ?_ | refine SideP.a ?_ | refine CallP.is cf ?_ (fun _ h => ⟨h.1.pages.row, trivial⟩) | refine IdxE.mk 0 3 _ (hrd _) (by omega) (by omega) ?_ | refine LoadE.mk 0 _ _ p.cells (hrd _) (by omega) (by omega) (by first | omega | decide) (by exact hg) ?_ | refine FinE.mk [] [] ⟨rfl, rfl, rfl⟩ (Ents.drop.trans (Ents.drop.trans (Ents.drop.trans (Ents.facts fun _ _ => trivial)))) | fail
theorem cur27_ok (e : Nat) (p : PGM) (hl : p.hist.length ≤ big) : FnS Tryz.prog 45 [.agg p.cells] [] [slFact e 6 p.ha p.hist.length (rvC p.hist)] (Is (.agg (curM p.hist).cells)) := by
  have hl := big_le hl
  have hrd : ∀ L, Reads L [slFact e 6 p.ha p.hist.length (rvC p.hist)] e 6 p.ha p.hist.length (rvC p.hist) := fun L => .inr fun m h => h.1
  by_cases h0 : p.hist.length = 0
  · have : curM p.hist = default := by rw [List.eq_nil_of_length_eq_zero h0]; rfl
    rw [this]
    refine fn_of_J Tryz.tyOK 0 Tryz.func45 (by kernel_rfl) (c := Tryz.f45.body.getD .skip) (by kernel_rfl) Tryz.ntmps45 (rs := Tryz.f45.results.toList) rfl (by simp) (fun G => ?_)
    repeat' first | refine J_seq ?_ | refine J_region Tryz.tyOK ?_ | refine J_block ?_ | refine J_cond ?_ | refine J_ret ?_ | refine J_skip ?_ | refine J_exit ?_ | refine J_scope ?_ | refine CondP.y ?_ | refine CondP.n ?_ | refine CondP.mk (fun h => ?_) (fun h => ?_) | refine EqP.mk rfl ?_ | refine NewP.mk (fun ad => ?_) | refine ArP.x ?_ | refine SideP.a ?_ | refine FinE.mk [] [] ⟨rfl, rfl, rfl⟩ (Ents.drop.trans (Ents.drop.trans (Ents.facts fun _ _ => trivial))) | fail
  · obtain ⟨k, hk⟩ : ∃ k, p.hist.length = k + 1 := ⟨p.hist.length - 1, by omega⟩
    have hi : k < p.hist.length := by omega
    rw [curM_at hk]
    have hg : ((rvC p.hist).drop (((p.hist.length : Int) - 1).toNat * 6 + 0)).take 6 = (p.hist[k]).cells := by
      rw [show ((p.hist.length : Int) - 1).toNat = k by omega]; exact rv_get hi
    generalize p.hist[k] = x at *
    refine fn_of_J Tryz.tyOK 0 Tryz.func45 (by kernel_rfl) (c := Tryz.f45.body.getD .skip) (by kernel_rfl) Tryz.ntmps45 (rs := Tryz.f45.results.toList) rfl (by simp) (fun G => ?_)
    repeat' first | refine J_seq ?_ | refine J_region Tryz.tyOK ?_ | refine J_block ?_ | refine J_cond ?_ | refine J_ret ?_ | refine J_skip ?_ | refine J_exit ?_ | refine J_scope ?_ | refine CondP.y ?_ | refine CondP.n ?_ | refine CondP.mk (fun h => ?_) (fun h => ?_) | refine EqP.mk rfl ?_ | refine NewP.mk (fun ad => ?_) | refine ArP.x ?_ | refine SideP.a ?_ | refine IdxE.mk e 6 _ (hrd _) (by omega) (by omega) ?_ | refine LoadE.mk e _ _ x.cells (hrd _) (by omega) (by omega) (by first | omega | decide) (by exact hg) ?_ | refine FinE.mk [] [] ⟨rfl, rfl, rfl⟩ (Ents.drop.trans (Ents.drop.trans (Ents.facts fun _ _ => trivial))) | fail
end Go.Proofs

/- This text walks through the functions Rows and Build of the reference of chapter 35, Current of the package state, and Build of the package search: the tables of states. -/
namespace Go.X
open Go Go.Lib
/-- The rows of a page, and of a state. -/
def pageRows (p : SP) : List WR := rowsT p.sp p.nm (currentT p).text
def buildT (s : ST) : List WR := ordW (s.pages.flatMap pageRows)
theorem rowsT_len (sp : Int) (nm text : List UInt8) : (rowsT sp nm text).length ≤ nm.length + text.length + 2 := by
  have h1 := ordW_len (rowsW sp nm (wordsS (nm ++ [10] ++ text)))
  have h2 := wordsR_len (nm ++ [10] ++ text) []
  unfold rowsT
  unfold rowsW at *
  rw [List.length_map] at h1
  unfold wordsS at *
  simp only [List.length_append, List.length_cons, List.length_nil] at h2
  omega
end Go.X
namespace Go.Proofs
open Go Go.X
set_option maxRecDepth 100000
set_option maxHeartbeats 4000000
abbrev RowP (W : List WR) : V → List Chunk → List Fact → Prop := fun v L D => ∃ a' c', v = .c (.sl a' W.length c') ∧ L = [.row 60 4 a' W.length c' (wrC W)] ∧ D = []
theorem current_ok (e : Nat) (p : PGM) (hl : p.hist.length ≤ big) : FnS Tryz.prog 61 [.agg p.cells] [] [slFact e 6 p.ha p.hist.length (rvC p.hist)] (Is (.agg (curM p.hist).cells)) := by
  have hl := big_le hl
  have hrd : ∀ L, Reads L [slFact e 6 p.ha p.hist.length (rvC p.hist)] e 6 p.ha p.hist.length (rvC p.hist) := fun L => .inr fun m h => h.1
  by_cases h0 : p.hist.length = 0
  · have : curM p.hist = default := by rw [List.eq_nil_of_length_eq_zero h0]; rfl
    rw [this]
    refine fn_of_J Tryz.tyOK 0 Tryz.func61 (by kernel_rfl) (c := Tryz.f61.body.getD .skip) (by kernel_rfl) Tryz.ntmps61 (rs := Tryz.f61.results.toList) rfl (by simp) (fun G => ?_)
    repeat' first | refine J_seq ?_ | refine J_region Tryz.tyOK ?_ | refine J_block ?_ | refine J_cond ?_ | refine J_ret ?_ | refine J_skip ?_ | refine J_exit ?_ | refine J_scope ?_ | refine CondP.y ?_ | refine CondP.n ?_ | refine CondP.mk (fun h => ?_) (fun h => ?_) | refine EqP.mk rfl ?_ | refine NewP.mk (fun ad => ?_) | refine ArP.x ?_ | refine SideP.a ?_ | refine FinE.mk [] [] ⟨rfl, rfl, rfl⟩ (Ents.drop.trans (Ents.drop.trans (Ents.facts fun _ _ => trivial))) | fail
  · obtain ⟨k, hk⟩ : ∃ k, p.hist.length = k + 1 := ⟨p.hist.length - 1, by omega⟩
    have hi : k < p.hist.length := by omega
    rw [curM_at hk]
    have hg : ((rvC p.hist).drop (((p.hist.length : Int) - 1).toNat * 6 + 0)).take 6 = (p.hist[k]).cells := by
      rw [show ((p.hist.length : Int) - 1).toNat = k by omega]; exact rv_get hi
    generalize p.hist[k] = x at *
    refine fn_of_J Tryz.tyOK 0 Tryz.func61 (by kernel_rfl) (c := Tryz.f61.body.getD .skip) (by kernel_rfl) Tryz.ntmps61 (rs := Tryz.f61.results.toList) rfl (by simp) (fun G => ?_)
    repeat' first | refine J_seq ?_ | refine J_region Tryz.tyOK ?_ | refine J_block ?_ | refine J_cond ?_ | refine J_ret ?_ | refine J_skip ?_ | refine J_exit ?_ | refine J_scope ?_ | refine CondP.y ?_ | refine CondP.n ?_ | refine CondP.mk (fun h => ?_) (fun h => ?_) | refine EqP.mk rfl ?_ | refine NewP.mk (fun ad => ?_) | refine ArP.x ?_ | refine SideP.a ?_ | refine IdxE.mk e 6 _ (hrd _) (by omega) (by omega) ?_ | refine LoadE.mk e _ _ x.cells (hrd _) (by omega) (by omega) (by first | omega | decide) (by exact hg) ?_ | refine FinE.mk [] [] ⟨rfl, rfl, rfl⟩ (Ents.drop.trans (Ents.drop.trans (Ents.facts fun _ _ => trivial))) | fail
end Go.Proofs

/- This text walks through the source of numbers from which statements make inputs (trcgen2): From, Next, Round, Titles, Title, and through the makers of texts. -/
namespace Go.X
open Go
def u64w (x : Int) : Int := IntKind.u64.wrap x
theorem u64w_range (x : Int) : 0 ≤ u64w x ∧ u64w x ≤ 18446744073709551615 := by
  simp only [u64w, IntKind.wrap, IntKind.bits, IntKind.signed]
  simp
  omega
def shr33 (s : Int) : Int := s.fdiv (2 ^ (min (33 : Int).toNat IntKind.u64.bits))
theorem shr33_pos {s : Int} (h : 0 ≤ s) : 0 ≤ shr33 s := by
  unfold shr33
  rw [Int.fdiv_eq_ediv_of_nonneg _ (by decide)]
  exact Int.ediv_nonneg h (by decide)
theorem bitsX_range (x y : Int) : 0 ≤ bitsV .xor .u64 x y ∧ bitsV .xor .u64 x y ≤ 18446744073709551615 := u64w_range _
/-- One number stirred into the seed. -/
def mixS (s x : Int) : Int := bitsV .xor .u64 (u64w (bitsV .xor .u64 s (u64w x) * 18397679294719823053)) (shr33 (u64w (bitsV .xor .u64 s (u64w x) * 18397679294719823053)))
def seedL (l : List Int) : Int := (l.take 64).foldl mixS 11400714819323198485
theorem mixS_range (s x : Int) : 0 ≤ mixS s x ∧ mixS s x ≤ 18446744073709551615 := bitsX_range _ _
theorem seedL_range (l : List Int) : 0 ≤ seedL l ∧ seedL l ≤ 18446744073709551615 := by
  unfold seedL
  generalize l.take 64 = r
  generalize h : (11400714819323198485 : Int) = s
  have hs : 0 ≤ s ∧ s ≤ 18446744073709551615 := by omega
  clear h
  induction r generalizing s with
  | nil => exact hs
  | cons x r ih => exact ih _ (mixS_range s x)
/-- What the source stands at. -/
structure GS where
  at_ : Nat
  sd : Int
def roundI (v n : Int) : Int := if v.tmod n < 0 then v.tmod n + n else v.tmod n
theorem roundI_range (v : Int) {n : Int} (h : 0 < n) : 0 ≤ roundI v n ∧ roundI v n < n := by
  unfold roundI
  have h1 : v.tmod n < n := Int.tmod_lt_of_pos v h
  have h2 : -n < v.tmod n := by
    by_cases hv : 0 ≤ v
    · have := Int.tmod_nonneg n hv; omega
    · have := Int.tmod_lt_of_pos (-v) h
      rw [Int.neg_tmod] at this
      omega
  split <;> omega
def lcg (s : Int) : Int := u64w (u64w (s * 6364136223846793005) + 1442695040888963407)
def nextGV (l : List Int) (g : GS) (n : Int) : Int := if g.at_ < l.length then roundI (l.getD g.at_ 0) n else (shr33 (lcg g.sd)).tmod n
def nextGS (l : List Int) (g : GS) : GS := if g.at_ < l.length then ⟨g.at_ + 1, g.sd⟩ else ⟨g.at_, lcg g.sd⟩
/-- A state that may come up. -/
structure GS.ok (l : List Int) (g : GS) : Prop where
  a : g.at_ ≤ l.length
  s : 0 ≤ g.sd ∧ g.sd ≤ 18446744073709551615
def gs0 (l : List Int) : GS := ⟨0, seedL l⟩
theorem gs0_ok (l : List Int) : (gs0 l).ok l := ⟨Nat.zero_le _, seedL_range l⟩
theorem nextGS_ok {l : List Int} {g : GS} (h : g.ok l) : (nextGS l g).ok l := by
  unfold nextGS
  split
  · exact ⟨by show g.at_ + 1 ≤ _; omega, h.s⟩
  · exact ⟨h.a, u64w_range _⟩
theorem nextGV_range {l : List Int} (g : GS) {n : Int} (h : 0 < n) : 0 ≤ nextGV l g n ∧ nextGV l g n < n := by
  unfold nextGV
  split
  · exact roundI_range _ h
  · exact ⟨Int.tmod_nonneg _ (shr33_pos (u64w_range _).1), Int.tmod_lt_of_pos _ h⟩
def genTitles : List (Int × List UInt8) := [(0, [65]), (0, [66]), (0, [65, 47, 67]), (3, [84]), (4, [88]), (4, [89]), (2, [65, 110, 110]), (0, [68])]
def ttC (l : List (Int × List UInt8)) : List C := l.flatMap fun t => [.i .i64 t.1, .s t.2]
/-- The source as a box. -/
abbrev srcC (ad : Nat) (a : Option Addr) (n c : Nat) (g : GS) : Chunk := .box 1000 ad 121 [.sl a n c, .i .i64 g.at_, .i .u64 g.sd]
abbrev intsF (e : Nat) (a : Option Addr) (l : List Int) : Fact := slFact e 1 a l.length (l.map (C.i .i64))
end Go.X
namespace Go.Proofs
open Go Go.X
set_option maxRecDepth 100000
set_option maxHeartbeats 4000000
theorem round_ok (v n : Int) (h : 0 < n) (hn : n ≤ 1000000) : FnS Tryz.prog 14 [.c (.i .i64 v), .c (.i .i64 n)] [] [] (Is (.c (.i .i64 (roundI v n)))) := by
  have hr := roundI_range v h
  have h0 : -1000000 ≤ v.tmod n + n ∧ v.tmod n + n ≤ 1000000 ∨ ¬ v.tmod n < 0 := by
    unfold roundI at hr
    generalize v.tmod n = k at *
    split at hr <;> omega
  unfold roundI
  refine fn_of_J Tryz.tyOK 0 Tryz.func14 (by kernel_rfl) (c := Tryz.f14.body.getD .skip) (by kernel_rfl) Tryz.ntmps14 (rs := Tryz.f14.results.toList) rfl (by simp) (fun G => ?_)
  repeat' first | refine J_seq ?_ | refine J_region Tryz.tyOK ?_ | refine J_block ?_ | refine J_cond ?_ | refine J_ret ?_ | refine J_skip ?_ | refine J_exit ?_ | refine J_scope ?_ | refine CondP.y ?_ | refine CondP.n ?_ | refine CondP.mk (fun h => ?_) (fun h => ?_) | refine EqP.mk rfl ?_ | refine NewP.mk (fun ad => ?_) | refine ArP.x ?_ | refine SideP.a ?_ | refine ArP.exact (by simp only [inR]; generalize v.tmod n = k at *; omega) ?_ | refine FinE.is ?_ | fail
  · rw [if_pos h]
  · rw [if_neg h]
theorem from_ok (e : Nat) (a : Option Addr) (c : Nat) (l : List Int) (hl : l.length ≤ maxLen) : FnS Tryz.prog 24 [.c (.sl a l.length c)] [] [intsF e a l]
    (fun v L D => ∃ ad, v = .c (.p 1000 ad 0) ∧ L = [srcC ad a l.length c (gs0 l)] ∧ D = []) := by
  simp only [maxLen] at hl
  refine fn_of_J Tryz.tyOK 1000 Tryz.func24 (by kernel_rfl) (c := Tryz.f24.body.getD .skip) (by kernel_rfl) Tryz.ntmps24 (rs := Tryz.f24.results.toList) rfl (by simp) (fun G => ?_)
  repeat' first | refine J_seq ?_ | refine J_region Tryz.tyOK ?_ | refine J_block ?_ | refine J_cond ?_ | refine J_ret ?_ | refine J_skip ?_ | refine J_exit ?_ | refine J_scope ?_ | refine CondP.y ?_ | refine CondP.n ?_ | refine CondP.mk (fun h => ?_) (fun h => ?_) | refine EqP.mk rfl ?_ | refine NewP.mk (fun ad => ?_) | refine ArP.x ?_ | refine SideP.a ?_ | fail
  refine J_loop (α := Nat) (fun i => [(0, .c (.sl a l.length c)), (3, .c (.p 1000 ad 0)), (4, .c (.i .i64 i))]) (fun i => [.box 1000 ad 121 [.sl a l.length c, .i .i64 (0 : Nat), .i .u64 ((l.take i).foldl mixS 11400714819323198485)]]) (fun _ => [intsF e a l]) 1001 (fun i => i ≤ l.length ∧ i ≤ 64) (fun i => l.length - i) (InFam.mk 0 ⟨Nat.zero_le _, Nat.zero_le _⟩ SubE.a (Ents.refl _ _)) (fun i hi => ?_)
  obtain ⟨hi, hi2⟩ := hi
  by_cases hlt : i < l.length ∧ i < 64
  · have hlt1 := hlt.1
    have hg : ((l.map (C.i .i64)).drop (i * 1 + 0)).take 1 = [C.i .i64 l[i]] := map_take1 hlt.1
    have hrd : ∀ L, Reads L [intsF e a l] e 1 a l.length (l.map (C.i .i64)) := fun L => .inr fun m h => h.1
    have hf : (l.take (i + 1)).foldl mixS 11400714819323198485 = mixS ((l.take i).foldl mixS 11400714819323198485) l[i] := by
      rw [List.take_succ_eq_append_getElem hlt.1, List.foldl_append]; rfl
    generalize (l.take i).foldl mixS 11400714819323198485 = s at *
    generalize l[i] = x at *
    repeat' first | refine J_seq ?_ | refine J_region Tryz.tyOK ?_ | refine J_block ?_ | refine J_cond ?_ | refine J_ret ?_ | refine J_skip ?_ | refine J_exit ?_ | refine J_scope ?_ | refine CondP.y ?_ | refine CondP.n ?_ | refine CondP.mk (fun h => ?_) (fun h => ?_) | refine EqP.mk rfl ?_ | refine NewP.mk (fun ad => ?_) | refine ArP.x ?_ | refine SideP.a ?_ | refine J_drawZ (id := 5) Tryz.tyOK (by kernel_rfl) [0, 0, 2, 6, 14, 0, 0, 96, 224, 480, 1022, 2046, 4095, 8191, 16383] [0, 1, 2, 3, 4, 5, 6, 7, 8, 9, 10, 11, 12, 13, 14] [14] [3, 25] 14 true (by kernel_rfl) ?_ | refine J_drawZ (id := 6) Tryz.tyOK (by kernel_rfl) [0, 0, 2, 6, 14, 0, 32, 96, 224, 480, 1022, 2047, 4095, 8191] [0, 1, 2, 3, 4, 5, 6, 7, 8, 9, 10, 11, 12, 13] [13] [3] 13 true (by kernel_rfl) ?_ | refine EntP.mk Ents.a ?_ | refine IdxE.mk e 1 _ (hrd _) (by omega) (by omega) ?_ | refine LoadE.mk e _ _ _ (hrd _) (by omega) (by omega) (by omega) hg ?_ | refine ArP.wrap ?_ | refine Round.mk (i + 1) (by omega) ⟨by omega, by omega⟩ SubE.a (Ents.of (by rw [hf]; rfl)) | fail
  · have hil : i = l.length ∨ i = 64 := by omega
    have ht : (l.take i).foldl mixS 11400714819323198485 = seedL l := by
      unfold seedL
      rcases hil with h | h
      · rw [h, List.take_length, List.take_of_length_le (by omega)]
      · rw [h]
    rw [ht]
    repeat' first | refine J_seq ?_ | refine J_region Tryz.tyOK ?_ | refine J_block ?_ | refine J_cond ?_ | refine J_ret ?_ | refine J_skip ?_ | refine J_exit ?_ | refine J_scope ?_ | refine CondP.y ?_ | refine CondP.n ?_ | refine CondP.mk (fun h => ?_) (fun h => ?_) | refine EqP.mk rfl ?_ | refine NewP.mk (fun ad => ?_) | refine ArP.x ?_ | refine SideP.a ?_ | refine FinE.mk [_] [] ⟨ad, rfl, rfl, rfl⟩ (Ents.facts fun _ _ => trivial) | fail
theorem next_ok (e : Nat) (a : Option Addr) (c ad : Nat) (l : List Int) (g : GS) (n : Int) (hn : 0 < n) (hn1 : n ≤ 1000000) (hg : g.ok l) (hl : l.length ≤ maxLen) : FnS Tryz.prog 39 [.c (.p 1000 ad 0), .c (.i .i64 n)] [srcC ad a l.length c g] [intsF e a l]
    (fun v L D => v = .c (.i .i64 (nextGV l g n)) ∧ L = [srcC ad a l.length c (nextGS l g)] ∧ D = []) := by
  simp only [maxLen] at hl
  obtain ⟨at_, s⟩ := g
  obtain ⟨hat, hs⟩ := hg
  dsimp only at hat hs
  have hrd : ∀ L, Reads L [intsF e a l] e 1 a l.length (l.map (C.i .i64)) := fun L => .inr fun m h => h.1
  have hr := nextGV_range (l := l) ⟨at_, s⟩ hn
  unfold nextGV nextGS at *
  dsimp only at hr ⊢
  by_cases hlt : at_ < l.length
  · have hgt : ((l.map (C.i .i64)).drop (((at_ : Int) + 1 - 1).toNat * 1 + 0)).take 1 = [C.i .i64 (l.getD at_ 0)] := by rw [show ((at_ : Int) + 1 - 1).toNat = at_ by omega, map_take1 hlt]; simp [hlt]
    have c1 := round_ok (l.getD at_ 0) n hn hn1
    rw [if_pos hlt, if_pos hlt]
    rw [if_pos hlt] at hr
    generalize roundI (l.getD at_ 0) n = q at *
    dsimp only [srcC]
    refine fn_of_J Tryz.tyOK 0 Tryz.func39 (by kernel_rfl) (c := Tryz.f39.body.getD .skip) (by kernel_rfl) Tryz.ntmps39 (rs := Tryz.f39.results.toList) rfl (by simp) (fun G => ?_)
    repeat' first | refine J_seq ?_ | refine J_region Tryz.tyOK ?_ | refine J_block ?_ | refine J_cond ?_ | refine J_ret ?_ | refine J_skip ?_ | refine J_exit ?_ | refine J_scope ?_ | refine CondP.y ?_ | refine CondP.n ?_ | refine CondP.mk (fun h => ?_) (fun h => ?_) | refine EqP.mk rfl ?_ | refine NewP.mk (fun ad => ?_) | refine ArP.x ?_ | refine SideP.a ?_ | refine J_drawS (id := 1) Tryz.tyOK (by kernel_rfl) [0, 1, 3, 7, 0, 16, 48, 112, 240, 511] [0, 1, 2, 3, 4, 5, 6, 7, 8, 9] [] [0] true (by kernel_rfl) ?_ | refine J_drawS (id := 3) Tryz.tyOK (by kernel_rfl) [0, 1, 3, 7, 0, 16, 48, 112, 240, 511, 1023, 0, 4095, 8191] [0, 1, 2, 3, 4, 5, 6, 7, 8, 9, 10, 11, 12, 13] [] [0, 31] true (by kernel_rfl) ?_ | refine EntP.mk Ents.a ?_ | refine CallQ.mk [] _ c1 (fun _ _ => trivial) ?_ | refine IdxE.mk e 1 _ (hrd _) (by omega) (by omega) ?_ | refine LoadE.mk e _ _ _ (hrd _) (by omega) (by omega) (by omega) hgt ?_ | refine FinE.mk [_] [] ⟨rfl, rfl, rfl⟩ (Ents.facts fun _ _ => trivial) | fail
  · rw [if_neg hlt, if_neg hlt]
    rw [if_neg hlt] at hr
    have hu : u64w n = n := wrap_of_inR (by simp only [inR]; omega)
    dsimp only [srcC]
    refine fn_of_J Tryz.tyOK 0 Tryz.func39 (by kernel_rfl) (c := Tryz.f39.body.getD .skip) (by kernel_rfl) Tryz.ntmps39 (rs := Tryz.f39.results.toList) rfl (by simp) (fun G => ?_)
    repeat' first | refine J_seq ?_ | refine J_region Tryz.tyOK ?_ | refine J_block ?_ | refine J_cond ?_ | refine J_ret ?_ | refine J_skip ?_ | refine J_exit ?_ | refine J_scope ?_ | refine CondP.y ?_ | refine CondP.n ?_ | refine CondP.mk (fun h => ?_) (fun h => ?_) | refine EqP.mk rfl ?_ | refine NewP.mk (fun ad => ?_) | refine ArP.x ?_ | refine SideP.a ?_ | refine J_drawS (id := 1) Tryz.tyOK (by kernel_rfl) [0, 1, 3, 7, 0, 16, 48, 112, 240, 511] [0, 1, 2, 3, 4, 5, 6, 7, 8, 9] [] [0] true (by kernel_rfl) ?_ | refine J_drawS (id := 3) Tryz.tyOK (by kernel_rfl) [0, 1, 3, 7, 0, 16, 48, 112, 240, 511, 1023, 0, 4095, 8191] [0, 1, 2, 3, 4, 5, 6, 7, 8, 9, 10, 11, 12, 13] [] [0, 31] true (by kernel_rfl) ?_ | refine EntP.mk Ents.a ?_ | refine ArP.exact (show inR .i64 ((shr33 (lcg s)).tmod n) by simp only [inR]; omega) ?_ | refine ArP.wrap ?_ | refine FinE.mk [_] [] ⟨?_, rfl, rfl⟩ (Ents.facts fun _ _ => trivial) | fail
    rfl
end Go.Proofs
namespace Go.X
open Go
theorem idxB (ws : List (List UInt8)) {k : Int} (h : 0 ≤ k) (h1 : k < ws.length) : ((ws.map C.s).drop (k.toNat * 1)).take 1 = [C.s (ws.getD k.toNat [])] := by
  have := map_take1 (f := C.s) (l := ws) (i := k.toNat) (by omega)
  rw [Nat.add_zero] at this
  rw [this]
  simp [show k.toNat < ws.length by omega]
theorem tt_get {k : Int} (h : 0 ≤ k) (h1 : k < 8) : ((ttC genTitles).drop (k.toNat * 2 + 0)).take 2 = [C.i .i64 (genTitles.getD k.toNat (0, [])).1, C.s (genTitles.getD k.toNat (0, [])).2] := by
  obtain ⟨i, rfl⟩ : ∃ i : Nat, k = i := ⟨k.toNat, by omega⟩
  have hi : i < 8 := by omega
  rw [Int.toNat_natCast]
  match i, hi with
  | 0, _ => rfl
  | 1, _ => rfl
  | 2, _ => rfl
  | 3, _ => rfl
  | 4, _ => rfl
  | 5, _ => rfl
  | 6, _ => rfl
  | 7, _ => rfl
def genT (l : List Int) (g : GS) : Int × List UInt8 := genTitles.getD (nextGV l g 8).toNat (0, [])
def genPieces : List (List UInt8) := [[112, 108, 97, 105, 110, 32, 119, 111, 114, 100, 115, 32], [91, 91, 65, 93, 93, 32], [91, 91, 66, 124, 98, 101, 101, 93, 93, 32], [91, 91, 67, 97, 116, 101, 103, 111, 114, 121, 58, 88, 93, 93], [91, 91, 67, 97, 116, 101, 103, 111, 114, 121, 58, 88, 124, 107, 93, 93], [91, 91, 67, 97, 116, 101, 103, 111, 114, 121, 58, 89, 93, 93], [123, 123, 116, 124, 49, 125, 125], [123, 123, 58, 66, 125, 125, 32], [123, 123, 58, 65, 47, 67, 125, 125], [123, 123, 35, 105, 102, 101, 120, 105, 115, 116, 58, 66, 124, 121, 101, 115, 124, 110, 111, 125, 125, 32], [123, 123, 35, 105, 102, 101, 120, 105, 115, 116, 58, 68, 124, 121, 101, 115, 124, 110, 111, 125, 125], [123, 123, 35, 109, 101, 109, 98, 101, 114, 115, 58, 88, 125, 125, 32], [123, 123, 35, 100, 97, 116, 101, 58, 89, 45, 109, 45, 100, 125, 125, 32], [123, 123, 35, 100, 97, 116, 101, 58, 72, 58, 105, 125, 125, 32], [123, 123, 35, 114, 105, 103, 104, 116, 58, 101, 100, 105, 116, 124, 65, 124, 101, 124, 110, 125, 125, 32], [123, 123, 35, 114, 101, 118, 105, 115, 105, 111, 110, 58, 65, 125, 125, 32], [10, 61, 61, 32, 83, 32, 61, 61, 10, 98, 111, 100, 121, 10], [10, 61, 61, 32, 82, 32, 61, 61, 10, 114, 101, 115, 116, 10], [60, 110, 111, 105, 110, 99, 108, 117, 100, 101, 62, 123, 123, 116, 125, 125, 60, 47, 110, 111, 105, 110, 99, 108, 117, 100, 101, 62], [60, 105, 110, 99, 108, 117, 100, 101, 111, 110, 108, 121, 62, 91, 91, 68, 93, 93, 60, 47, 105, 110, 99, 108, 117, 100, 101, 111, 110, 108, 121, 62], [123, 123, 123, 49, 124, 100, 125, 125, 125, 32], [10, 42, 32, 105, 116, 101, 109, 10], [115, 101, 99, 114, 101, 116, 32], [91, 91, 84, 101, 109, 112, 108, 97, 116, 101, 58, 84, 93, 93], [123, 123, 58, 67, 97, 116, 101, 103, 111, 114, 121, 58, 89, 125, 125], [119, 111, 114, 100, 115, 32, 91, 91, 68, 93, 93, 32, 119, 111, 114, 100, 115], [39, 39, 120, 39, 39, 32], [123, 123, 35, 109, 101, 109, 98, 101, 114, 115, 58, 89, 125, 125]]
end Go.X
namespace Go.Proofs
open Go Go.X
set_option maxRecDepth 100000
set_option maxHeartbeats 4000000
theorem titles_ok : FnS Tryz.prog 29 [] [] [] (fun v L D => ∃ a c, v = .c (.sl a 8 c) ∧ L = [.row 50 2 a 8 c (ttC genTitles)] ∧ D = []) := by
  refine fn_of_J Tryz.tyOK 0 Tryz.func29 (by kernel_rfl) (c := Tryz.f29.body.getD .skip) (by kernel_rfl) Tryz.ntmps29 (rs := Tryz.f29.results.toList) rfl (by simp) (fun G => ?_)
  repeat' first | refine J_seq ?_ | refine J_region Tryz.tyOK ?_ | refine J_block ?_ | refine J_cond ?_ | refine J_ret ?_ | refine J_skip ?_ | refine J_exit ?_ | refine J_scope ?_ | refine CondP.y ?_ | refine CondP.n ?_ | refine CondP.mk (fun h => ?_) (fun h => ?_) | refine EqP.mk rfl ?_ | refine NewP.mk (fun ad => ?_) | refine ArP.x ?_ | refine SideP.a ?_ | exact FinE.mk [_] [] ⟨_, _, rfl, rfl, rfl⟩ (Ents.refl _ _) | fail
theorem genTitle_ok (e : Nat) (a : Option Addr) (c ad : Nat) (l : List Int) (g : GS) (hg : g.ok l) (hl : l.length ≤ maxLen) : FnS Tryz.prog 57 [.c (.p 1000 ad 0)] [srcC ad a l.length c g] [intsF e a l]
    (fun v L D => v = .agg [.i .i64 (genT l g).1, .s (genT l g).2] ∧ L = [srcC ad a l.length c (nextGS l g)] ∧ D = []) := by
  have c1 := next_ok e a c ad l g 8 (by omega) (by omega) hg hl
  have hr := nextGV_range (l := l) g (n := 8) (by omega)
  have hgt := tt_get hr.1 hr.2
  unfold genT
  generalize nextGV l g 8 = k at *
  refine fn_of_J Tryz.tyOK 2000 Tryz.func57 (by kernel_rfl) (c := Tryz.f57.body.getD .skip) (by kernel_rfl) Tryz.ntmps57 (rs := Tryz.f57.results.toList) rfl (by simp) (fun G => ?_)
  repeat' first | refine J_seq ?_ | refine J_region Tryz.tyOK ?_ | refine J_block ?_ | refine J_cond ?_ | refine J_ret ?_ | refine J_skip ?_ | refine J_exit ?_ | refine J_scope ?_ | refine CondP.y ?_ | refine CondP.n ?_ | refine CondP.mk (fun h => ?_) (fun h => ?_) | refine EqP.mk rfl ?_ | refine NewP.mk (fun ad => ?_) | refine ArP.x ?_ | refine SideP.a ?_ | refine CallP.mk [] [_, _] [] _ titles_ok (List.Perm.refl _) (fun _ _ => trivial) (fun v L' D' hp => ?_); obtain ⟨b, d, rfl, rfl, rfl⟩ := hp | refine CallP.mk [_] [_, _] [_] _ c1 (List.perm_append_comm (l₁ := [_, _]) (l₂ := [_])) (fun _ h => h) (fun v L' D' hp => ?_); obtain ⟨rfl, rfl, rfl⟩ := hp | refine IdxE.mk 50 2 _ (.inl ⟨d, List.Mem.tail _ (List.Mem.head _)⟩) (by omega) (by omega) ?_ | refine LoadE.mk 50 _ _ _ (.inl ⟨d, List.Mem.tail _ (List.Mem.head _)⟩) (by omega) (by omega) (by omega) hgt ?_ | refine FinE.mk [_] [] ⟨rfl, rfl, rfl⟩ Ents.a | fail
theorem piece_ok (e : Nat) (a : Option Addr) (c ad : Nat) (l : List Int) (g : GS) (hg : g.ok l) (hl : l.length ≤ maxLen) : FnS Tryz.prog 59 [.c (.p 1000 ad 0)] [srcC ad a l.length c g] [intsF e a l]
    (fun v L D => v = .c (.s (genPieces.getD (nextGV l g 28).toNat [])) ∧ L = [srcC ad a l.length c (nextGS l g)] ∧ D = []) := by
  have c1 := next_ok e a c ad l g 28 (by omega) (by omega) hg hl
  have hr := nextGV_range (l := l) g (n := 28) (by omega)
  have hix := idxB genPieces hr.1 hr.2
  generalize nextGV l g 28 = k at *
  refine fn_of_J Tryz.tyOK 4000 Tryz.func59 (by kernel_rfl) (c := Tryz.f59.body.getD .skip) (by kernel_rfl) Tryz.ntmps59 (rs := Tryz.f59.results.toList) rfl (by simp) (fun G => ?_)
  repeat' first | refine J_seq ?_ | refine J_region Tryz.tyOK ?_ | refine J_block ?_ | refine J_cond ?_ | refine J_ret ?_ | refine J_skip ?_ | refine J_exit ?_ | refine J_scope ?_ | refine CondP.y ?_ | refine CondP.n ?_ | refine CondP.mk (fun h => ?_) (fun h => ?_) | refine EqP.mk rfl ?_ | refine NewP.mk (fun ad => ?_) | refine ArP.x ?_ | refine SideP.a ?_ | refine CallP.mk [_] [] [_] _ c1 (List.Perm.refl _) (fun _ h => h) (fun v L' D' hp => ?_); obtain ⟨rfl, rfl, rfl⟩ := hp | refine IdxA.mk [C.s (genPieces.getD k.toNat [])] (by omega) (by omega) hix rfl ?_ | refine FinE.mk [_] [] ⟨rfl, rfl, rfl⟩ (Ents.facts fun _ _ => trivial) | fail
theorem genPieces_len : ∀ i : Nat, i < 28 → (genPieces.getD i []).length ≤ 40 := by decide
theorem genText_ok (e : Nat) (a : Option Addr) (c ad : Nat) (l : List Int) (g : GS) (hg : g.ok l) (hl : l.length ≤ maxLen) : FnS Tryz.prog 23 [.c (.p 1000 ad 0)] [srcC ad a l.length c g] [intsF e a l]
    (fun v L D => ∃ s g', v = .c (.s s) ∧ s.length ≤ 1000 ∧ g'.ok l ∧ L = [srcC ad a l.length c g'] ∧ D = []) := by
  have c2 := fun g n hn hn1 hg => next_ok e a c ad l g n hn hn1 hg hl
  have k1 := c2 g 12 (by omega) (by omega) hg
  have r1 := nextGV_range (l := l) g (n := 12) (by omega)
  have hg1 := nextGS_ok hg
  generalize nextGV l g 12 = v1 at *
  generalize nextGS l g = g1 at *
  have k2 := c2 g1 3 (by omega) (by omega) hg1
  have r2 := nextGV_range (l := l) g1 (n := 3) (by omega)
  have hix := idxB [[66], [65], [84, 101, 109, 112, 108, 97, 116, 101, 58, 84]] r2.1 r2.2
  have hlen : ([[66], [65], [84, 101, 109, 112, 108, 97, 116, 101, 58, 84]].getD (nextGV l g1 3).toNat ([] : List UInt8)).length ≤ 10 := by
    obtain ⟨k, hk⟩ : ∃ k : Nat, nextGV l g1 3 = k := ⟨(nextGV l g1 3).toNat, by omega⟩
    rw [hk, Int.toNat_natCast]
    have : k < 3 := by omega
    match k, this with
    | 0, _ => decide
    | 1, _ => decide
    | 2, _ => decide
  have hg2 := nextGS_ok hg1
  generalize nextGV l g1 3 = v2 at *
  generalize nextGS l g1 = g2 at *
  generalize [[66], [65], [84, 101, 109, 112, 108, 97, 116, 101, 58, 84]].getD v2.toNat ([] : List UInt8) = u at *
  have hcat : ([35, 82, 69, 68, 73, 82, 69, 67, 84, 32, 91, 91] ++ u ++ [93, 93, 32] : List UInt8).length ≤ 30 := by simp; omega
  refine fn_of_J Tryz.tyOK 4000 Tryz.func23 (by kernel_rfl) (c := Tryz.f23.body.getD .skip) (by kernel_rfl) Tryz.ntmps23 (rs := Tryz.f23.results.toList) rfl (by simp) (fun G => ?_)
  repeat' first | refine J_cut (x := .seq (.region 2 _ _) _) (α := List UInt8 × GS) (fun z => [(0, .c (.p 1000 ad 0)), (3, .c (.s z.1))]) (fun z => [srcC ad a l.length c z.2]) (fun _ => [intsF e a l]) 4000 (fun z => z.1.length ≤ 30 ∧ z.2.ok l) ?_ (fun z hz => ?_) | refine J_seq ?_ | refine J_region Tryz.tyOK ?_ | refine J_block ?_ | refine J_cond ?_ | refine J_ret ?_ | refine J_skip ?_ | refine J_exit ?_ | refine J_scope ?_ | refine CondP.y ?_ | refine CondP.n ?_ | refine CondP.mk (fun h => ?_) (fun h => ?_) | refine EqP.mk rfl ?_ | refine NewP.mk (fun ad => ?_) | refine ArP.x ?_ | refine SideP.a ?_ | refine CallP.mk [_] [] [_] _ k1 (List.Perm.refl _) (fun _ h => h) (fun v L' D' hp => ?_); obtain ⟨rfl, rfl, rfl⟩ := hp | refine CallP.mk [_] [] [_] _ k2 (List.Perm.refl _) (fun _ h => h) (fun v L' D' hp => ?_); obtain ⟨rfl, rfl, rfl⟩ := hp | refine IdxA.mk [C.s u] (by omega) (by omega) hix rfl ?_ | refine InFam.mk (([35, 82, 69, 68, 73, 82, 69, 67, 84, 32, 91, 91] ++ u ++ [93, 93, 32] : List UInt8), g2) ⟨hcat, hg2⟩ SubE.a (Ents.refl _ _) | refine InFam.mk ([], g1) ⟨Nat.zero_le _, hg1⟩ SubE.a (Ents.refl _ _) | fail
  clear k1 k2 hix hlen hg1 hg2 r1 r2
  obtain ⟨s0, g0⟩ := z
  dsimp only at hz ⊢
  obtain ⟨hs0, hg0⟩ := hz
  have k3 := c2 g0 5 (by omega) (by omega) hg0
  have r3 := nextGV_range (l := l) g0 (n := 5) (by omega)
  have hg3 := nextGS_ok hg0
  generalize nextGV l g0 5 = v3 at *
  generalize nextGS l g0 = g3 at *
  obtain ⟨n1, rfl⟩ : ∃ n1 : Nat, v3 = n1 := ⟨v3.toNat, by omega⟩
  repeat' first | refine J_seq ?_ | refine J_region Tryz.tyOK ?_ | refine J_block ?_ | refine J_cond ?_ | refine J_ret ?_ | refine J_skip ?_ | refine J_exit ?_ | refine J_scope ?_ | refine CondP.y ?_ | refine CondP.n ?_ | refine CondP.mk (fun h => ?_) (fun h => ?_) | refine EqP.mk rfl ?_ | refine NewP.mk (fun ad => ?_) | refine ArP.x ?_ | refine SideP.a ?_ | refine CallP.mk [_] [] [_] _ k3 (List.Perm.refl _) (fun _ h => h) (fun v L' D' hp => ?_); obtain ⟨rfl, rfl, rfl⟩ := hp | fail
  refine J_loop (α := Nat × List UInt8 × GS) (fun x => [(0, .c (.p 1000 ad 0)), (3, .c (.s x.2.1)), (4, .c (.i .i64 x.1))]) (fun x => [srcC ad a l.length c x.2.2]) (fun _ => [intsF e a l]) 4000 (fun x => x.1 ≤ 4 ∧ x.2.1.length ≤ 30 + (4 - x.1) * 40 ∧ x.2.2.ok l) (fun x => x.1) (InFam.mk (n1, s0, g3) ⟨by dsimp only; omega, by dsimp only; omega, hg3⟩ SubE.a (Ents.refl _ _)) (fun x hx => ?_)
  obtain ⟨n, s, g⟩ := x
  dsimp only at hx ⊢
  obtain ⟨hn, hsl, hg⟩ := hx
  cases n with
  | zero =>
    repeat' first | refine J_seq ?_ | refine J_region Tryz.tyOK ?_ | refine J_block ?_ | refine J_cond ?_ | refine J_ret ?_ | refine J_skip ?_ | refine J_exit ?_ | refine J_scope ?_ | refine CondP.y ?_ | refine CondP.n ?_ | refine CondP.mk (fun h => ?_) (fun h => ?_) | refine EqP.mk rfl ?_ | refine NewP.mk (fun ad => ?_) | refine ArP.x ?_ | refine SideP.a ?_ | refine FinE.mk [_] [] ⟨_, _, rfl, by omega, hg, rfl, rfl⟩ (Ents.facts fun _ _ => trivial) | fail
  | succ n =>
    have kp := piece_ok e a c ad l g hg hl
    have rp := nextGV_range (l := l) g (n := 28) (by omega)
    have hp40 := genPieces_len (nextGV l g 28).toNat (by omega)
    have hgn := nextGS_ok hg
    generalize genPieces.getD (nextGV l g 28).toNat [] = p at *
    generalize nextGS l g = gn at *
    repeat' first | refine J_seq ?_ | refine J_region Tryz.tyOK ?_ | refine J_block ?_ | refine J_cond ?_ | refine J_ret ?_ | refine J_skip ?_ | refine J_exit ?_ | refine J_scope ?_ | refine CondP.y ?_ | refine CondP.n ?_ | refine CondP.mk (fun h => ?_) (fun h => ?_) | refine EqP.mk rfl ?_ | refine NewP.mk (fun ad => ?_) | refine ArP.x ?_ | refine SideP.a ?_ | refine CallP.mk [_] [] [_] _ kp (List.Perm.refl _) (fun _ h => h) (fun v L' D' hp => ?_); obtain ⟨rfl, rfl, rfl⟩ := hp | refine Round.mk (n, s ++ p, gn) (by dsimp only; omega) ⟨by dsimp only; omega, by simp; omega, hgn⟩ SubE.a (Ents.refl _ _) | fail
end Go.Proofs

/- This text walks through the functions Titles and In of the reference of chapter 33, and through count and Find of that of chapter 35. -/
namespace Go.X
open Go Go.Lib
theorem htl_n {l : List HT} {i : Nat} (h : i < l.length) : ((htC l).drop (i * 3 + 2)).take 1 = [.i .i64 l[i].n] := by
  rw [htC, flat_get (F := HT.cells) (z := 3) (fun _ => rfl) h (by omega)]; rfl
theorem pg_get2 {l : List PG} {i : Nat} (h : i < l.length) : ((pgC l).drop (i * 4 + 0)).take 2 = [.i .i64 l[i].sp, .s l[i].nm] := by
  rw [pgC, flat_get (F := PG.cells) (z := 4) (fun _ => rfl) h (by omega)]; rfl
end Go.X
namespace Go.Proofs
open Go Go.X
set_option maxRecDepth 100000
set_option maxHeartbeats 4000000
/-- In: whether a title is among the pages. -/
theorem in33_ok (e : Nat) (pa : Option Addr) (pc : Nat) (ps : List PG) (vt : VT) (sp : Int) (nm : List UInt8) (hl : ps.length ≤ 10000000) :
    FnS Tryz.prog 21 [.agg [.sl pa ps.length pc, slK vt.gs, slK vt.rs, slK vt.us, slK vt.gp, .i .i64 vt.ck, slK vt.fx], .agg [.i .i64 sp, .s nm]] [] [slFact e 4 pa ps.length (pgC ps)] (Is (.c (.b (ps.any fun p => decide (p.sp = sp ∧ p.nm = nm))))) := by
  have hrd : ∀ L, Reads L [slFact e 4 pa ps.length (pgC ps)] e 4 pa ps.length (pgC ps) := fun L => .inr fun m h => h.1
  obtain ⟨R, hR⟩ : ∃ R, ps.any (fun p => decide (p.sp = sp ∧ p.nm = nm)) = R := ⟨_, rfl⟩
  rw [hR]
  refine fn_of_J Tryz.tyOK 0 Tryz.func21 (by kernel_rfl) (c := Tryz.f21.body.getD .skip) (by kernel_rfl) Tryz.ntmps21 (rs := Tryz.f21.results.toList) rfl (by simp) (fun G => ?_)
  repeat' first | refine J_seq ?_ | refine J_region Tryz.tyOK ?_ | refine J_block ?_ | refine J_cond ?_ | refine J_ret ?_ | refine J_skip ?_ | refine J_exit ?_ | refine J_scope ?_ | refine CondP.y ?_ | refine CondP.n ?_ | refine CondP.mk (fun h => ?_) (fun h => ?_) | refine EqP.mk rfl ?_ | refine NewP.mk (fun ad => ?_) | refine ArP.x ?_ | refine SideP.a ?_ | fail
  rename_i ad0
  refine J_loop (α := Nat) (fun i => [(2, .c (.p 0 ad0 0)), (3, .c (.p 1 ad 0)), (5, .c (.i .i64 i))]) (fun _ => [.box 1 ad 50 [.i .i64 sp, .s nm], .box 0 ad0 32 [.sl pa ps.length pc, slK vt.gs, slK vt.rs, slK vt.us, slK vt.gp, .i .i64 vt.ck, slK vt.fx]]) (fun _ => [slFact e 4 pa ps.length (pgC ps)]) 2
    (fun i => i ≤ ps.length ∧ R = (ps.drop i).any fun p => decide (p.sp = sp ∧ p.nm = nm)) (fun i => ps.length - i) (InFam.mk 0 ⟨Nat.zero_le _, hR.symm⟩ SubE.a (Ents.refl _ _)) (fun i hx => ?_)
  obtain ⟨hi, he⟩ := hx
  by_cases hlt : i < ps.length
  · have hg := pg_get2 hlt
    rw [List.drop_eq_getElem_cons hlt, List.any_cons] at he
    generalize ps[i] = x at *
    have hyes : (x.sp = sp ∧ x.nm = nm ∧ True) → R = true := fun h2 => by rw [he, decide_eq_true ⟨h2.1, h2.2.1⟩]; rfl
    have hno : ¬ (x.sp = sp ∧ x.nm = nm ∧ True) → R = (ps.drop (i + 1)).any fun p => decide (p.sp = sp ∧ p.nm = nm) := fun h1 => by rw [he, decide_eq_false fun e => h1 ⟨e.1, e.2, trivial⟩, Bool.false_or]
    clear he hR
    repeat' first | refine J_seq ?_ | refine J_region Tryz.tyOK ?_ | refine J_block ?_ | refine J_cond ?_ | refine J_ret ?_ | refine J_skip ?_ | refine J_exit ?_ | refine J_scope ?_ | refine CondP.y ?_ | refine CondP.n ?_ | refine CondP.mk (fun h => ?_) (fun h => ?_) | refine EqP.mk rfl ?_ | refine NewP.mk (fun ad => ?_) | refine ArP.x ?_ | refine SideP.a ?_ | refine J_drawS (id := 4) Tryz.tyOK (by kernel_rfl) [0, 1, 0, 7, 15, 31, 0, 127] [0, 1, 2, 3, 4, 5, 6, 7] [] [2, 3, 16] true (by kernel_rfl) ?_ | refine EntP.mk Ents.a ?_ | refine IdxE.mk e 4 _ (hrd _) (by omega) (by omega) ?_ | refine FldE.mk e 4 _ _ (hrd _) (by omega) ?_ | refine LoadE.mk e _ _ [.i .i64 x.sp, .s x.nm] (hrd _) (by omega) (by omega) (by first | omega | decide) (by exact hg) ?_ | refine Round.mk (i + 1) (by omega) ⟨by omega, hno (by assumption)⟩ SubE.a Ents.a | refine FinE.bool (hyes (by assumption)) | fail
  · have hil : i = ps.length := by omega
    rw [hil, List.drop_length] at he
    have he : R = false := he
    subst he
    repeat' first | refine J_seq ?_ | refine J_region Tryz.tyOK ?_ | refine J_block ?_ | refine J_cond ?_ | refine J_ret ?_ | refine J_skip ?_ | refine J_exit ?_ | refine J_scope ?_ | refine CondP.y ?_ | refine CondP.n ?_ | refine CondP.mk (fun h => ?_) (fun h => ?_) | refine EqP.mk rfl ?_ | refine NewP.mk (fun ad => ?_) | refine ArP.x ?_ | refine SideP.a ?_ | refine FinE.is rfl | fail
end Go.Proofs
