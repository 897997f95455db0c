/- This text walks through the functions of the reference of chapter 27 that check a state or look at one: isUser, history, find, Page, Current, Text, before, Valid. -/
import Derived.Test.YtcddpbpbebkdmaaGreatDoorK02
import Derived.Test.YtcddpbpbebkdmaaGreatDoorK04
import Derived.Test.YtcddpbpbebkdmaaGreatDoorK03
set_option linter.all false
namespace Go.X
open Go Go.Lib
theorem ZL {W : Bool} {P : Prop} (h : W = true ↔ P) (hn : ¬ P) : W = false := by
 cases W
 ·rfl
 ·exact absurd (h.1 rfl) hn
theorem Ua {clk sq i mi se : Int} {l : List RV} {k : Nat} (h : k < l.length) : ZK clk sq i mi se (l.drop k) = (GN clk sq i mi se l[k] && ZK clk sq (i + 1) l[k].min l[k].seq (l.drop (k + 1))) := by
 rw [List.drop_eq_getElem_cons h, ZK]
theorem Ni {α : Type} {p : α → Bool} {l : List α} {k : Nat} (h : k < l.length) (hn : ∀ j, ∀ hj : j < k, p (l[j]'(by omega)) = false) : (p l[k] = true → Q2 p l = k) ∧ True := by
 refine ⟨fun hk => ?_, trivial⟩
 induction l generalizing k with
 | nil => simp at h
 | cons x r ih =>
  simp only [Q2]
  cases k with
  | zero => rw [if_pos (by simpa using hk)]; rfl
  | succ k =>
   have h0 := hn 0 (by omega)
   simp only [List.getElem_cons_zero] at h0
   rw [if_neg (by rw [h0]; decide)]
   have := ih (k := k) (by simpa using h) (fun j hj => by simpa using hn (j + 1) (by omega)) (by simpa using hk)
   rw [this, if_neg (by omega)]
   omega
theorem P8 {α : Type} {p : α → Bool} {l : List α} (hn : ∀ x ∈ l, p x = false) : Q2 p l = -1 := by
 rcases JV p l with ⟨h, _⟩ | ⟨i, h1, _, h3⟩
 ·exact h
 ·rw [hn _ (List.getElem_mem h1)] at h3; cases h3
end Go.X
namespace Go.Proofs
open Go Go.X Tryz
set_option maxRecDepth 100000
set_option maxHeartbeats 4000000
theorem Vh (s : Bs) : FnS prog 34 [.c (.s s)] [] [] (Is (.c (.b (QV s)))) := by
 by_cases hs : s.length ≤ 30
 ·exact Wd s (by omega)
 ·have h0 : QV s = false := by
   unfold QV
   rw [show decide (30 < (s.length : Int)) = true from decide_eq_true (by omega)]
   simp
  rw [h0]
  refine FJ 0 func34 ntmps34 (fun G => ?_)
  repeat' first | refine Wk ?_ | refine Qa.mk (fun h => ?_) (fun h => ?_) | refine Qd.mk (fun ad => ?_) | refine Qe.is rfl
theorem Kk (sp : Int) (s : Bs) : FnS prog 79 [.agg [.i .i64 sp, .s s]] [] [] (Is (.c (.b (Qw sp s)))) := by
 by_cases hs : s.length ≤ 1000000
 ·exact W8 sp s hs
 ·have h0 : Qw sp s = false := by
   unfold Qw
   rw [show decide (100 < (s.length : Int)) = true from decide_eq_true (by omega)]
   simp
  rw [h0]
  refine FJ 0 func79 ntmps79 (fun G => ?_)
  repeat' first | refine Wk ?_ | refine Qa.mk (fun h => ?_) (fun h => ?_) | refine Qd.mk (fun ad => ?_) | refine Qe.is rfl
theorem vz (s : Bs) : FnS prog 102 [.c (.s s)] [] [] (Is (.c (.b (Xg s)))) := by
 have c1 := Vh s
 have hu : Xg s = (decide (s = []) || QV s) := rfl
 refine FJ 0 func102 ntmps102 (fun G => ?_)
 repeat' first | refine Wk ?_ | refine Qa.mk (fun h => ?_) (fun h => ?_) | refine Qd.mk (fun ad => ?_) | refine Qc.isB c1 (fun h1 => ?_) (fun h1 => ?_) | refine Qe.bool ?_
 all_goals (rw [hu]; simp [*])
theorem Ub (s : STM) (e : Nat) (a : Option Addr) (c : Nat) (l : List RV) (hl : l.length ≤ 9223372036854775807) : FnS prog 100 [.agg s.cells, .c (.sl a l.length c)] [] [Qf e 6 a l.length (Zb l)] (Is (.c (.b (Yg s.clk s.seq l)))) := by
 have hrd : ∀ L, Qp L [Qf e 6 a l.length (Zb l)] e 6 a l.length (Zb l) := fun L => .inr fun m h => h.1
 obtain ⟨W, hW⟩ : ∃ W, Yg s.clk s.seq l = W := ⟨_, rfl⟩
 rw [hW]
 have hno : ¬ (1 ≤ l.length ∧ l.length ≤ 40) → W = false := fun h => by
  rw [← hW, Yg]
  by_cases h1 : 1 ≤ (l.length : Int)
  ·rw [decide_eq_false (show ¬ (l.length : Int) ≤ 40 by omega)]; simp
  ·rw [decide_eq_false h1]; simp
 have hyes : 1 ≤ l.length ∧ l.length ≤ 40 → W = ZK s.clk s.seq 0 0 1 l := fun h => by
  rw [← hW, Yg, decide_eq_true (show (1 : Int) ≤ (l.length : Int) by omega), decide_eq_true (show (l.length : Int) ≤ 40 by omega)]; simp
 clear hW
 refine FJ 0 func100 ntmps100 (fun G => ?_)
 repeat' first | refine Wk ?_ | refine Qa.mk (fun h => ?_) (fun h => ?_) | refine Qd.mk (fun ad => ?_) | refine Qe.bool ?_
 ·exact hno (by omega)
 ·exact hno (by omega)
 have hyes := hyes (by omega)
 clear hno
 refine Qn (α := Nat × Int × Int) (fun x => [(1, .c (.sl a l.length c)), (2, .c (.p 0 ad 0)), (5, .c (.i .i64 x.2.1)), (6, .c (.i .i64 x.2.2)), (7, .c (.i .i64 x.1))]) (fun _ => [.box 0 ad 27 s.cells]) (fun _ => [Qf e 6 a l.length (Zb l)]) 1
  (fun x => x.1 ≤ l.length ∧ W = ZK s.clk s.seq x.1 x.2.1 x.2.2 (l.drop x.1)) (fun x => l.length - x.1) (Qq.mk (0, 0, 1) ⟨Nat.zero_le _, hyes⟩ Qh.a (Qb.refl _ _)) (fun x hx => ?_)
 obtain ⟨i, mi, se⟩ := x
 dsimp only at hx ⊢
 obtain ⟨hi, he⟩ := hx
 by_cases hlt : i < l.length
 ·have hg := Yo hlt
  rw [Ua hlt] at he
  generalize l[i] = x at *
  have cu := vz x.user
  by_cases hq : GN s.clk s.seq i mi se x = true
  ·have hq' := Xs.1 hq
   obtain ⟨q1, q2, q3, q4, q5, q6, q7, q8⟩ := hq'
   rw [hq, Bool.true_and] at he
   rw [q4] at cu
   clear hq
   repeat' first | refine Wk ?_ | refine Qa.mk (fun h => ?_) (fun h => ?_) | refine Qd.mk (fun ad => ?_) | refine Ds (id := 10) [0,1,0,4,3,31] [0,1,2,3,4,5] [] [8] true ?_ | refine Qt.mk Qb.a ?_ | refine Qr.a e 6 _ (hrd _) ?_ | refine Qi.a e _ _ _ (hrd _) (by exact hg) ?_ | refine Qc.is cu ?_ | refine Qo.mk (i + 1, x.min, x.seq) (by dsimp only; omega) ⟨by dsimp only; omega, he⟩ Qh.a Qb.a
  ·have hq0 : GN s.clk s.seq i mi se x = false := by simpa using hq
   rw [hq0, Bool.false_and] at he
   subst he
   repeat' first | refine Wk ?_ | refine Qa.mk (fun h => ?_) (fun h => ?_) | refine Qd.mk (fun ad => ?_) | refine Ds (id := 10) [0,1,0,4,3,31] [0,1,2,3,4,5] [] [8] true ?_ | refine Qt.mk Qb.a ?_ | refine Qr.a e 6 _ (hrd _) ?_ | refine Qi.a e _ _ _ (hrd _) (by exact hg) ?_ | refine Qc.isB cu (fun hu => ?_) (fun hu => ?_) | refine Qe.is rfl | exact absurd (Xs.2 ⟨by omega, by omega, by omega, by assumption, by omega, by omega, by omega, by omega⟩) hq
 ·have hil : i = l.length := by omega
  subst hil
  rw [List.drop_length] at he
  have he : W = true := he
  subst he
  repeat' first | refine Wk ?_ | refine Qa.mk (fun h => ?_) (fun h => ?_) | refine Qd.mk (fun ad => ?_) | refine Qe.is rfl
end Go.Proofs
namespace Go.Proofs
open Go Go.X Tryz
set_option maxRecDepth 100000
set_option maxHeartbeats 4000000
theorem J6 (a : Int) (x : List UInt8) (b : Int) (y : List UInt8) : FnS prog 71 [.agg [.i .i64 a, .s x], .agg [.i .i64 b, .s y]] [] [] (Is (.c (.i .i64 (QH a x b y)))) := by
 have hl := YL x y
 have he := KJ x y
 have hr := Ky x y
 have hi := Om a b
 obtain ⟨k, hk⟩ : ∃ k, QH a x b y = k := ⟨_, rfl⟩
 have hk' := hk
 unfold QH at hk
 rw [hk']
 refine FJ 0 func71 ntmps71 (fun G => ?_)
 repeat' first | refine Wk ?_ | refine Qa.mk (fun h => ?_) (fun h => ?_) | refine Qd.mk (fun ad => ?_) | refine Qe.int ?_
 all_goals
  rcases hi with ⟨h0, h1⟩ | ⟨h0, h1⟩ | ⟨h0, h1⟩
  all_goals
   rw [h1] at hk
   simp at hk
   first | omega | (simp_all; done) | (simp_all; omega)
end Go.Proofs
namespace Go.X
open Go Go.Lib
def X7 (sp : Int) (nm : Bs) (p : PGM) : Bool := decide (p.sp = sp ∧ p.nm = nm)
theorem Hq {α β : Type} (f : α → β) (q : β → Bool) : ∀ l : List α, Q2 q (l.map f) = Q2 (fun x => q (f x)) l
 | [] => rfl
 | x :: r => by simp only [List.map_cons, Q2, Hq f q r]
def noPage : V := .agg [.i .i64 0, .s [], .sl none 0 0]
def pageV : Option PGM → V
 | none => .t2 noPage ff
 | some p => .t2 (.agg p.cells) tt
def J1 (l : List RV) : RV := l.getLast?.getD default
theorem Gj {l : List RV} {k : Nat} (h : l.length = k + 1) : J1 l = l[k]'(by omega) := by
 unfold J1
 rw [List.getLast?_eq_getElem?, show l.length - 1 = k by omega, List.getElem?_eq_getElem (by omega)]
 rfl
def big : Nat := 140737488355328
structure Gp (s : STM) : Prop where
 pages : s.pages.length ≤ big
 ph : ∀ p ∈ s.pages, p.hist.length ≤ big
 gone : s.gone.length ≤ big
 gh : ∀ p ∈ s.gone, p.hist.length ≤ big
 props : s.props.length ≤ big
 watches : s.watches.length ≤ big
 lasts : s.lasts.length ≤ big
theorem ZQ {n : Nat} (h : n ≤ big) : n ≤ 140737488355328 := h
theorem qq {α : Type} (p : α → Bool) : ∀ l : List α, (Q2 p l = -1 ∧ l.find? p = none) ∨ ∃ i : Nat, ∃ h : i < l.length, Q2 p l = i ∧ l.find? p = some l[i] ∧ p l[i] = true
 | [] => .inl ⟨rfl, rfl⟩
 | x :: r => by
  by_cases hx : p x = true
  ·refine .inr ⟨0, by simp, ?_, ?_, hx⟩
   ·simp [Q2, hx]
   ·simp [List.find?_cons, hx]
  ·rcases qq p r with ⟨h1, h2⟩ | ⟨i, h1, h2, h3, h4⟩
   ·refine .inl ⟨?_, ?_⟩
    ·simp [Q2, hx, h1]
    ·simp [List.find?_cons, hx, h2]
   ·refine .inr ⟨i + 1, by simpa using h1, ?_, ?_, by simpa using h4⟩
    ·rw [Q2, if_neg hx, h2, if_neg (by omega)]; omega
    ·simpa [List.find?_cons, hx] using h3
end Go.X
namespace Go.Proofs
open Go Go.X Tryz
set_option maxRecDepth 100000
set_option maxHeartbeats 4000000
theorem Kx (e : Nat) (a : Option Addr) (c : Nat) (l : List PGM) (sp : Int) (nm : Bs) (hl : l.length ≤ big) : FnS prog 77 [.c (.sl a l.length c), .agg [.i .i64 sp, .s nm]] [] [Qf e 3 a l.length (Qm l)] (Is (.c (.i .i64 (Q2 (X7 sp nm) l)))) := by
 have hl := ZQ hl
 have hrd : ∀ L, Qp L [Qf e 3 a l.length (Qm l)] e 3 a l.length (Qm l) := fun L => .inr fun m h => h.1
 obtain ⟨k, hk⟩ : ∃ k, Q2 (X7 sp nm) l = k := ⟨_, rfl⟩
 rw [hk]
 refine FJ 0 func77 ntmps77 (fun G => ?_)
 repeat' first | refine Wk ?_ | refine Qa.mk (fun h => ?_) (fun h => ?_) | refine Qd.mk (fun ad => ?_)
 refine Qn (α := Nat) (fun i => [(0, .c (.sl a l.length c)), (3, .c (.p 0 ad 0)), (5, .c (.i .i64 i))]) (fun _ => [.box 0 ad 45 [.i .i64 sp, .s nm]]) (fun _ => [Qf e 3 a l.length (Qm l)]) 1
  (fun i => i ≤ l.length ∧ ∀ j, ∀ hj : j < l.length, j < i → X7 sp nm l[j] = false) (fun i => l.length - i) (Qq.mk 0 ⟨Nat.zero_le _, fun j _ h => absurd h (Nat.not_lt_zero j)⟩ Qh.a (Qb.refl _ _)) (fun i hx => ?_)
 obtain ⟨hi, hn⟩ := hx
 by_cases hlt : i < l.length
 ·have hg := XT hlt
  have hyes : l[i].sp = sp ∧ l[i].nm = nm ∧ True → k = i := fun h => by
   rw [← hk]; exact (Ni hlt fun j hj => hn j (by omega) hj).1 (decide_eq_true ⟨h.1, h.2.1⟩)
  have hno : ¬ (l[i].sp = sp ∧ l[i].nm = nm ∧ True) → ∀ j, ∀ hj : j < l.length, j < i + 1 → X7 sp nm l[j] = false := fun h j hj hji => by
   by_cases he : j = i
   ·subst he; exact decide_eq_false fun e => h ⟨e.1, e.2, trivial⟩
   ·exact hn j hj (by omega)
  repeat' first | refine Wk ?_ | refine Qa.mk (fun h => ?_) (fun h => ?_) | refine Qd.mk (fun ad => ?_) | refine Ds (id := 4) [0,0,3,7,15,0,63] [0,1,2,3,4,5,6] [] [3,14] true ?_ | refine Qt.mk Qb.a ?_ | refine Qr.a e 3 _ (hrd _) ?_ | refine Zv.mk e 3 _ _ (hrd _) (by omega) ?_ | refine Qi.a e _ _ [.i .i64 l[i].sp, .s l[i].nm] (hrd _) (by exact hg) ?_ | refine Qo.mk (i + 1) (by omega) ⟨by omega, hno (by assumption)⟩ Qh.a Qb.a | refine Qe.int (hyes (by assumption)).symm | refine Qe.int (hyes (by assumption))
 ·have h1 : k = -1 := by
   rw [← hk]
   refine P8 fun x hx => ?_
   obtain ⟨j, hj, rfl⟩ := List.getElem_of_mem hx
   exact hn j hj (by omega)
  subst h1
  repeat' first | refine Wk ?_ | refine Qa.mk (fun h => ?_) (fun h => ?_) | refine Qd.mk (fun ad => ?_) | refine Qe.is rfl
theorem qG (s : STM) (sp : Int) (nm : Bs) (hs : Gp s) : FnS prog 35 [.agg s.cells, .agg [.i .i64 sp, .s nm]] [] [QG s] (Is (pageV (s.pages.find? (X7 sp nm)))) := by
 have hl := ZQ hs.pages
 have hrd : ∀ L, Qp L [QG s] 0 3 s.pa s.pages.length (Qm s.pages) := fun L => .inr fun m h => h.1.pages.row
 have cf := Kx 0 s.pa s.pc s.pages sp nm hs.pages
 rcases qq (X7 sp nm) s.pages with ⟨h1, h2⟩ | ⟨i, hi, h1, h2, _⟩
 ·rw [h1] at cf
  rw [h2]
  refine FJ 0 func35 ntmps35 (fun G => ?_)
  repeat' first | refine Wk ?_ | refine Qa.mk (fun h => ?_) (fun h => ?_) | refine Qd.mk (fun ad => ?_) | refine Qc.is cf ?_ (fun _ h => ⟨h.1.pages.row, trivial⟩) | refine Qe.mk [] [] ⟨rfl, rfl, rfl⟩ (Qb.drop.trans (Qb.drop.trans (Qb.drop.trans (Qb.facts fun _ _ => trivial))))
 ·rw [h1] at cf
  rw [h2]
  have hg := Z5 hi
  generalize hp : s.pages[i] = p at *
  refine FJ 0 func35 ntmps35 (fun G => ?_)
  repeat' first | refine Wk ?_ | refine Qa.mk (fun h => ?_) (fun h => ?_) | refine Qd.mk (fun ad => ?_) | refine Qc.is cf ?_ (fun _ h => ⟨h.1.pages.row, trivial⟩) | refine Qr.a 0 3 _ (hrd _) ?_ | refine Qi.a 0 _ _ p.cells (hrd _) (by exact hg) ?_ | refine Qe.mk [] [] ⟨rfl, rfl, rfl⟩ (Qb.drop.trans (Qb.drop.trans (Qb.drop.trans (Qb.facts fun _ _ => trivial))))
theorem x9 (e : Nat) (p : PGM) (hl : p.hist.length ≤ big) : FnS prog 88 [.agg p.cells] [] [Qf e 6 p.ha p.hist.length (Zb p.hist)] (Is (.agg (J1 p.hist).cells)) := by
 have hl := ZQ hl
 have hrd : ∀ L, Qp L [Qf e 6 p.ha p.hist.length (Zb p.hist)] e 6 p.ha p.hist.length (Zb p.hist) := fun L => .inr fun m h => h.1
 by_cases h0 : p.hist.length = 0
 ·have : J1 p.hist = default := by rw [List.eq_nil_of_length_eq_zero h0]; rfl
  rw [this]
  refine FJ 0 func88 ntmps88 (fun G => ?_)
  repeat' first | refine Wk ?_ | refine Qa.mk (fun h => ?_) (fun h => ?_) | refine Qd.mk (fun ad => ?_) | refine Qe.mk [] [] ⟨rfl, rfl, rfl⟩ (Qb.drop.trans (Qb.drop.trans (Qb.facts fun _ _ => trivial)))
 ·obtain ⟨k, hk⟩ : ∃ k, p.hist.length = k + 1 := ⟨p.hist.length - 1, by omega⟩
  have hi : k < p.hist.length := by omega
  rw [Gj hk]
  have hg : ((Zb p.hist).drop (((p.hist.length : Int) - 1).toNat * 6 + 0)).take 6 = (p.hist[k]).cells := by
   rw [show ((p.hist.length : Int) - 1).toNat = k by omega]; exact Yo hi
  generalize p.hist[k] = x at *
  refine FJ 0 func88 ntmps88 (fun G => ?_)
  repeat' first | refine Wk ?_ | refine Qa.mk (fun h => ?_) (fun h => ?_) | refine Qd.mk (fun ad => ?_) | refine Qr.a e 6 _ (hrd _) ?_ | refine Qi.a e _ _ x.cells (hrd _) (by exact hg) ?_ | refine Qe.mk [] [] ⟨rfl, rfl, rfl⟩ (Qb.drop.trans (Qb.drop.trans (Qb.facts fun _ _ => trivial)))
end Go.Proofs
namespace Go.X
open Go Go.Lib
theorem jf {α : Type} [Inhabited α] (lt : α → α → Bool) : ∀ l : List α, qS lt l = true ↔ ∀ i, i < l.length → 0 < i → lt (l.getD (i - 1) default) (l.getD i default) = true
 | [] => by simp [qS]
 | [x] => by
  simp only [qS, List.length_singleton, true_iff]
  intro i h1 h2; omega
 | x :: y :: r => by
  have ih := jf lt (y :: r)
  rw [qS, Bool.and_eq_true, ih]
  constructor
  ·rintro ⟨h1, h2⟩ i hi h0
   match i, h0 with
   | 1, _ => exact h1
   | k + 2, _ => exact h2 (k + 1) (by simpa using hi) (by omega)
  ·intro h
   refine ⟨h 1 (by simp) (by omega), fun i hi h0 => ?_⟩
   match i, h0 with
   | k + 1, _ => exact h (k + 2) (by simpa using hi) (by omega)
theorem Gn {α : Type} [Inhabited α] (p : α → Bool) (l : List α) : l.all p = true ↔ ∀ i, i < l.length → p (l.getD i default) = true := by
 rw [List.all_eq_true]
 constructor
 ·intro h i hi
  rw [List.getD_eq_getElem?_getD, List.getElem?_eq_getElem hi]
  exact h _ (List.getElem_mem hi)
 ·intro h x hx
  obtain ⟨i, hi, rfl⟩ := List.getElem_of_mem hx
  have := h i hi
  rwa [List.getD_eq_getElem?_getD, List.getElem?_eq_getElem hi] at this
theorem Z6 {α : Type} [Inhabited α] {l : List α} {i : Nat} (h : i < l.length) : l.getD i default = l[i] := by
 rw [List.getD_eq_getElem?_getD, List.getElem?_eq_getElem h]; rfl
theorem ym {clk sq : Int} : ∀ {l : List RV} {i mi se : Int}, ZK clk sq i mi se l = true → ∀ r ∈ l, (r.text.length : Int) ≤ 8192
 | [], _, _, _, _, _, h => by cases h
 | x :: l, i, mi, se, h, r, hr => by
  simp only [ZK, Bool.and_eq_true] at h
  rcases List.mem_cons.1 hr with rfl | hr
  ·exact (Xs.1 h.1).2.1
  ·exact ym h.2 r hr
theorem HJ {clk sq : Int} {l : List RV} (h : Yg clk sq l = true) : ((J1 l).text.length : Int) ≤ 8192 := by
 obtain ⟨h1, _, h3⟩ := Xx.1 h
 obtain ⟨k, hk⟩ : ∃ k, l.length = k + 1 := ⟨l.length - 1, by omega⟩
 rw [Gj hk]
 exact ym h3 _ (List.getElem_mem _)
theorem yy (sp : Int) (nm : Bs) : ∀ l : List PGM, (l.map PGM.pl).find? (YX sp nm) = (l.find? (X7 sp nm)).map PGM.pl
 | [] => rfl
 | x :: r => by
  have h : YX sp nm x.pl = X7 sp nm x := rfl
  simp only [List.map_cons, List.find?_cons, h, yy sp nm r]
  cases X7 sp nm x <;> rfl
def pgA (s : STM) (i : Nat) : Prop := Qw (s.pages.getD i default).sp (s.pages.getD i default).nm = true ∧ Yg s.clk s.seq (s.pages.getD i default).hist = true ∧ (0 < i → QH (s.pages.getD (i - 1) default).sp (s.pages.getD (i - 1) default).nm (s.pages.getD i default).sp (s.pages.getD i default).nm < 0)
def pgB (s : STM) (i : Nat) : Prop := Qw (s.gone.getD i default).sp (s.gone.getD i default).nm = true ∧ Yg s.clk s.seq (s.gone.getD i default).hist = true
theorem ZT {l : List PGM} {i : Nat} (h : i < l.length) : (l.map PGM.pl).getD i default = (l.getD i default).pl := by
 rw [Z6 h, Z6 (by simpa using h), List.getElem_map]
theorem TO (s : STM) : Va s.pl = true ↔ s.pages.length ≤ 200 ∧ s.gone.length ≤ 100 ∧ (∀ i, i < s.pages.length → pgA s i) ∧ (∀ i, i < s.gone.length → pgB s i) ∧ Ko s.pl = true := by
 have e1 : s.pl.pages = s.pages.map PGM.pl := rfl
 have e2 : s.pl.gone = s.gone.map PGM.pl := rfl
 simp only [Va, Bool.and_eq_true, decide_eq_true_eq, Gn, jf, e1, e2, List.length_map, and_assoc]
 constructor
 ·rintro ⟨a, b, c, d, f, g⟩
  refine ⟨by omega, by omega, fun i hi => ?_, fun i hi => ?_, g⟩
  ·have h1 := c i hi
   rw [ZT hi] at h1
   have h1 := Q4.1 h1
   refine ⟨h1.1, h1.2, fun h0 => ?_⟩
   have h2 := d i hi h0
   rw [ZT hi, ZT (by omega)] at h2
   exact of_decide_eq_true h2
  ·have h1 := f i hi
   rw [ZT hi] at h1
   exact Q4.1 h1
 ·rintro ⟨a, b, c, d, g⟩
  refine ⟨by omega, by omega, fun i hi => ?_, fun i hi h0 => ?_, fun i hi => ?_, g⟩
  ·rw [ZT hi]
   exact Q4.2 ⟨(c i hi).1, (c i hi).2.1⟩
  ·rw [ZT hi, ZT (by omega)]
   exact decide_eq_true ((c i hi).2.2 h0)
  ·rw [ZT hi]
   exact Q4.2 (d i hi)
theorem wK {s : STM} {p : PGM} (h : s.pages.find? (X7 5 policyNm) = some p) : Ko s.pl = decide ((Zi (J1 p.hist).text).2.2 = 0) := by
 have e : s.pl.pages = s.pages.map PGM.pl := rfl
 unfold Ko OO
 rw [e, yy, h]
 rfl
theorem wL {s : STM} (h : s.pages.find? (X7 5 policyNm) = none) : Ko s.pl = true := by
 have e : s.pl.pages = s.pages.map PGM.pl := rfl
 unfold Ko OO
 rw [e, yy, h]
 rfl
end Go.X
namespace Go.Proofs
open Go Go.X Tryz
set_option maxRecDepth 100000
set_option maxHeartbeats 4000000
theorem Um (x y : WT) : FnS prog 103 [.agg x.cells, .agg y.cells] [] [] (Is (.c (.b (kP x y)))) := by
 obtain ⟨xu, xs, xn⟩ := x
 obtain ⟨yu, ys, yn⟩ := y
 have ct := J6 xs xn ys yn
 have hl := YL xu yu
 have hr := Ky xu yu
 have he := KJ xu yu
 obtain ⟨W, hW⟩ : ∃ W, kP ⟨xu, xs, xn⟩ ⟨yu, ys, yn⟩ = W := ⟨_, rfl⟩
 rw [hW]
 have hWi : W = true ↔ Lib.compareBytes xu yu < 0 ∨ (xu = yu ∧ QH xs xn ys yn < 0) := by
  rw [← hW]; simp [kP, U6]
 rw [← he] at hWi
 clear hW
 generalize QH xs xn ys yn = k at *
 refine FJ 0 func103 ntmps103 (fun G => ?_)
 repeat' first | refine Wk ?_ | refine Qa.mk (fun h => ?_) (fun h => ?_) | refine Qd.mk (fun ad => ?_) | refine Qc.is ct ?_ | refine Qe.bool ?_
 all_goals
  clear ct
  dsimp only at *
  simp only [hl, ← he] at *
  clear hl he
  generalize Lib.compareBytes xu yu = b at *
  first
   | (rw [hWi]; omega)
   | (refine ZL hWi ?_; omega)
theorem wY : FnS prog 101 [] [] [] (Is (.agg [.i .i64 5, .s policyNm])) := by
 refine FJ 0 func101 ntmps101 (fun G => ?_)
 repeat' first | refine Wk ?_ | refine Qa.mk (fun h => ?_) (fun h => ?_) | refine Qd.mk (fun ad => ?_) | refine Qe.is rfl
theorem TP (s : STM) (hs : Gp s) : FnS prog 62 [.agg s.cells] [] [QG s] (Is (.c (.b (Va s.pl)))) := by
 have hl1 := ZQ hs.pages
 have hl2 := ZQ hs.gone
 have hrd : ∀ L, Qp L [QG s] 0 3 s.pa s.pages.length (Qm s.pages) := fun L => .inr fun m h => h.1.pages.row
 have hrg : ∀ L, Qp L [QG s] 0 3 s.ga s.gone.length (Qm s.gone) := fun L => .inr fun m h => h.1.gone.row
 have hW := TO s
 generalize Va s.pl = W at *
 have cp := qG s 5 policyNm hs
 refine FJ 0 func62 ntmps62 (fun G => ?_)
 repeat' first | refine Wk ?_ | refine Qa.mk (fun h => ?_) (fun h => ?_) | refine Qd.mk (fun ad => ?_) | refine Qe.bool (ZL hW fun h => ?_)
 ·omega
 ·omega
 refine Qn (α := Nat) (fun i => [(1, .c (.p 0 ad 0)), (3, .c (.i .i64 i))]) (fun _ => [.box 0 ad 27 s.cells]) (fun _ => [QG s]) 1
  (fun i => i ≤ s.pages.length ∧ ∀ j, j < i → pgA s j) (fun i => s.pages.length - i) (Qq.mk 0 ⟨Nat.zero_le _, fun j h => absurd h (Nat.not_lt_zero j)⟩ Qh.a (Qb.refl _ _)) (fun i hx => ?_)
 obtain ⟨hi, hn⟩ := hx
 by_cases hlt : i < s.pages.length
 ·have hg := Z5 hlt
  have hA : pgA s i ↔ pgA s i := Iff.rfl
  conv at hA => rhs; rw [pgA, Z6 hlt]
  have hmem := List.getElem_mem hlt
  have hnext : pgA s i → ∀ j, j < i + 1 → pgA s j := fun h j hj => by
   by_cases e : j = i
   ·subst e; exact h
   ·exact hn j (by omega)
  have cv := Kk s.pages[i].sp s.pages[i].nm
  have ch := Ub s 0 s.pages[i].ha s.pages[i].hc s.pages[i].hist (by have := ZQ (hs.ph _ hmem); omega)
  have cc := J6 (s.pages.getD (i - 1) default).sp (s.pages.getD (i - 1) default).nm s.pages[i].sp s.pages[i].nm
  have hg1 : 0 < i → ((Qm s.pages).drop (((i : Int) - 1).toNat * 3 + 0)).take 2 = [.i .i64 (s.pages.getD (i - 1) default).sp, .s (s.pages.getD (i - 1) default).nm] := fun h0 => by
   rw [show ((i : Int) - 1).toNat = i - 1 by omega, Z6 (show i - 1 < s.pages.length by omega)]; exact XT (by omega)
  generalize s.pages[i] = p at *
  generalize s.pages.getD (i - 1) default = q at *
  generalize QH q.sp q.nm p.sp p.nm = k at *
  cases hv : Qw p.sp p.nm
  all_goals cases hh : Yg s.clk s.seq p.hist
  all_goals
   rw [hv] at cv hA
   rw [hh] at ch hA
   repeat' first | refine Wk ?_ | refine Qa.mk (fun h => ?_) (fun h => ?_) | refine Qd.mk (fun ad => ?_) | refine Ds (id := 7) [0,1,3,7,15,31,31,95,255,511,1023,2047,4095,8191,16383,32767,65535,32767,163839,524287,1048575,2097151,32767,4227071,16777215,33554431,67108863,134217727] [0,1,2,3,4,5,6,7,8,9,10,11,12,13,14,15,16,17,18,19,20,21,22,23,24,25,26,27] [] [1,4,52] true ?_ | refine Ds (id := 12) [0,1,0,7,15,31,63,127,255,511,511,1535,511,7679,15871,32255,65535,131071,262143] [0,1,2,3,4,5,6,7,8,9,10,11,12,13,14,15,16,17,18] [] [1,71,81] true ?_ | refine Ds (id := 14) [0,0,3,7,15,15,0,95,255] [0,1,2,3,4,5,6,7,8] [6,7] [1] true ?_ | refine Qt.mk Qb.a ?_ | refine Qr.a 0 3 _ (hrd _) ?_ | refine Zv.mk 0 3 _ _ (hrd _) (by omega) ?_ | refine Qi.a 0 _ _ p.cells (hrd _) (by exact hg) ?_ | refine Qi.a 0 _ _ [.i .i64 q.sp, .s q.nm] (hrd _) (by exact hg1 (by omega)) ?_ | refine Qx.mk [] _ cv QX ?_ | refine Qx.mk [_] _ ch (fun _ h => ⟨h.1.pages.his p hmem, trivial⟩) ?_ | refine Qx.mk [] _ cc QX ?_ | refine Qe.bool (ZL hW fun h => ?_) | refine Qo.mk (i + 1) (by omega) ⟨by omega, hnext (hA.2 ⟨rfl, rfl, fun _ => by omega⟩)⟩ Qh.a Qb.a
  all_goals
   have hB := hA.1 (h.2.2.1 i hlt)
   first
    | (cases hB.1; done)
    | (cases hB.2.1; done)
    | (have := hB.2.2 (by omega); omega)
 ·have hil : i = s.pages.length := by omega
  subst hil
  clear hi hlt
  repeat' first | refine Wk ?_ | refine Qa.mk (fun h => ?_) (fun h => ?_) | refine Qd.mk (fun ad => ?_)
  refine Qn (α := Nat) (fun i => [(1, .c (.p 0 ad 0)), (5, .c (.i .i64 i))]) (fun _ => [.box 0 ad 27 s.cells]) (fun _ => [QG s]) 1
   (fun i => i ≤ s.gone.length ∧ ∀ j, j < i → pgB s j) (fun i => s.gone.length - i) (Qq.mk 0 ⟨Nat.zero_le _, fun j h => absurd h (Nat.not_lt_zero j)⟩ Qh.a Qb.a) (fun i hx => ?_)
  obtain ⟨hi, hn2⟩ := hx
  by_cases hlt : i < s.gone.length
  ·have hg2 := XT hlt
   have hg1 := YH hlt
   have hA : pgB s i ↔ pgB s i := Iff.rfl
   conv at hA => rhs; rw [pgB, Z6 hlt]
   have hmem := List.getElem_mem hlt
   have hnext : pgB s i → ∀ j, j < i + 1 → pgB s j := fun h j hj => by
    by_cases e : j = i
    ·subst e; exact h
    ·exact hn2 j (by omega)
   have cv := Kk s.gone[i].sp s.gone[i].nm
   have ch := Ub s 0 s.gone[i].ha s.gone[i].hc s.gone[i].hist (by have := ZQ (hs.gh _ hmem); omega)
   generalize s.gone[i] = p at *
   cases hv : Qw p.sp p.nm
   all_goals cases hh : Yg s.clk s.seq p.hist
   all_goals
    rw [hv] at cv hA
    rw [hh] at ch hA
    repeat' first | refine Wk ?_ | refine Qa.mk (fun h => ?_) (fun h => ?_) | refine Qd.mk (fun ad => ?_) | refine Ds (id := 7) [0,1,3,7,15,31,31,95,255,511,1023,2047,4095,8191,16383,32767,65535,32767,163839,524287,1048575,2097151,32767,4227071,16777215,33554431,67108863,134217727] [0,1,2,3,4,5,6,7,8,9,10,11,12,13,14,15,16,17,18,19,20,21,22,23,24,25,26,27] [] [1,4,52] true ?_ | refine Ds (id := 12) [0,1,0,7,15,31,63,127,255,511,511,1535,511,7679,15871,32255,65535,131071,262143] [0,1,2,3,4,5,6,7,8,9,10,11,12,13,14,15,16,17,18] [] [1,71,81] true ?_ | refine Ds (id := 14) [0,0,3,7,15,15,0,95,255] [0,1,2,3,4,5,6,7,8] [6,7] [1] true ?_ | refine Qt.mk Qb.a ?_ | refine Qr.a 0 3 _ (hrg _) ?_ | refine Zv.mk 0 3 _ _ (hrg _) (by omega) ?_ | refine Qi.a 0 _ _ [.i .i64 p.sp, .s p.nm] (hrg _) (by exact hg2) ?_ | refine Qi.a 0 _ _ [.sl p.ha p.hist.length p.hc] (hrg _) (by exact hg1) ?_ | refine Qx.mk [] _ cv QX ?_ | refine Qx.mk [_] _ ch (fun _ h => ⟨h.1.gone.his p hmem, trivial⟩) ?_ | refine Qe.bool (ZL hW fun h => ?_) | refine Qo.mk (i + 1) (by omega) ⟨by omega, hnext (hA.2 ⟨rfl, rfl⟩)⟩ Qh.a Qb.a
   all_goals
    have hB := hA.1 (h.2.2.2.1 i hlt)
    first
     | (cases hB.1; done)
     | (cases hB.2; done)
  ·have hil : i = s.gone.length := by omega
   subst hil
   cases hf : s.pages.find? (X7 5 policyNm) with
   | none =>
    rw [hf] at cp
    have hWt : W = true := hW.2 ⟨by omega, by omega, hn, hn2, wL hf⟩
    repeat' first | refine Wk ?_ | refine Qa.mk (fun h => ?_) (fun h => ?_) | refine Qd.mk (fun ad => ?_) | refine Ds (id := 7) [0,1,3,7,15,31,31,95,255,511,1023,2047,4095,8191,16383,32767,65535,32767,163839,524287,1048575,2097151,32767,4227071,16777215,33554431,67108863,134217727] [0,1,2,3,4,5,6,7,8,9,10,11,12,13,14,15,16,17,18,19,20,21,22,23,24,25,26,27] [] [1,4,52] true ?_ | refine Ds (id := 12) [0,1,0,7,15,31,63,127,255,511,511,1535,511,7679,15871,32255,65535,131071,262143] [0,1,2,3,4,5,6,7,8,9,10,11,12,13,14,15,16,17,18] [] [1,71,81] true ?_ | refine Ds (id := 14) [0,0,3,7,15,15,0,95,255] [0,1,2,3,4,5,6,7,8] [6,7] [1] true ?_ | refine Qt.mk Qb.a ?_ | refine Qx.mk [] _ wY QX ?_ | refine Qx.mk [_] _ cp (fun _ h => h) ?_ | refine Qe.bool hWt
   | some p =>
    rw [hf] at cp
    have hmem := List.mem_of_find?_eq_some hf
    have hru := wK hf
    have hpt : ((J1 p.hist).text.length : Int) ≤ 8192 := by
     obtain ⟨j, hj, e⟩ := List.getElem_of_mem hmem
     have := (hn j hj).2.1
     rw [Z6 hj, e] at this
     exact HJ this
    have hWt : W = true ↔ (Zi (J1 p.hist).text).2.2 = 0 := ⟨fun h => by have := (hW.1 h).2.2.2.2; rw [hru] at this; exact of_decide_eq_true this, fun h => hW.2 ⟨by omega, by omega, hn, hn2, by rw [hru]; exact decide_eq_true h⟩⟩
    have cu := x9 0 p (hs.ph p hmem)
    have cr := zf (J1 p.hist).text (by omega)
    generalize Zi (J1 p.hist).text = r at *
    repeat' first | refine Wk ?_ | refine Qa.mk (fun h => ?_) (fun h => ?_) | refine Qd.mk (fun ad => ?_) | refine Ds (id := 7) [0,1,3,7,15,31,31,95,255,511,1023,2047,4095,8191,16383,32767,65535,32767,163839,524287,1048575,2097151,32767,4227071,16777215,33554431,67108863,134217727] [0,1,2,3,4,5,6,7,8,9,10,11,12,13,14,15,16,17,18,19,20,21,22,23,24,25,26,27] [] [1,4,52] true ?_ | refine Ds (id := 12) [0,1,0,7,15,31,63,127,255,511,511,1535,511,7679,15871,32255,65535,131071,262143] [0,1,2,3,4,5,6,7,8,9,10,11,12,13,14,15,16,17,18] [] [1,71,81] true ?_ | refine Ds (id := 14) [0,0,3,7,15,15,0,95,255] [0,1,2,3,4,5,6,7,8] [6,7] [1] true ?_ | refine Qt.mk Qb.a ?_ | refine Qx.mk [] _ wY QX ?_ | refine Qx.mk [_] _ cp (fun _ h => h) ?_ | refine Qc.is cu ?_ (fun _ h => ⟨h.1.pages.his p hmem, trivial⟩) | refine Qc.mk [] _ [] _ cr QW QX (fun v L' D' hq => ?_); obtain ⟨pm, _, _, _, rfl, rfl, rfl⟩ := hq | refine Qe.bool ?_
    ·exact hWt.2 h
    ·exact ZL hWt h
end Go.Proofs
namespace Go.X
open Go Go.Lib
instance : Inhabited WT := ⟨⟨[], 0, []⟩⟩
instance : Inhabited LU := ⟨⟨[], 0⟩⟩
theorem ON {clk pr la : Int} {l : List PP} {k : Nat} (h : k < l.length) : KR clk pr la (l.drop k) = (vd clk pr la l[k] && KR clk pr l[k].id (l.drop (k + 1))) := by
 rw [List.drop_eq_getElem_cons h, KR]
theorem wT (s : ST) : Kq s = true ↔ s.props.length ≤ 40 ∧ 0 ≤ s.proposed ∧ s.proposed ≤ 1073741824 ∧ KR s.clk s.proposed 0 s.props = true := by
 simp only [Kq, Bool.and_eq_true, decide_eq_true_eq, and_assoc]
 constructor
 ·rintro ⟨a, b, c, d⟩; exact ⟨by omega, b, c, d⟩
 ·rintro ⟨a, b, c, d⟩; exact ⟨by omega, b, c, d⟩
def Pk (s : STM) (i : Nat) : Prop := QV (s.watches.getD i default).user = true ∧ Qw (s.watches.getD i default).sp (s.watches.getD i default).nm = true ∧ (0 < i → kP (s.watches.getD (i - 1) default) (s.watches.getD i default) = true)
def P2 (s : STM) (i : Nat) : Prop := QV (s.lasts.getD i default).user = true ∧ 1 ≤ (s.lasts.getD i default).seq ∧ (s.lasts.getD i default).seq ≤ s.seq ∧ (0 < i → Lib.compareBytes (s.lasts.getD (i - 1) default).user (s.lasts.getD i default).user < 0)
theorem yi (s : STM) : Ku s.pl = true ↔ s.watches.length ≤ 100 ∧ s.lasts.length ≤ 60 ∧ (∀ i, i < s.watches.length → Pk s i) ∧ (∀ i, i < s.lasts.length → P2 s i) := by
 have e1 : s.pl.watches = s.watches := rfl
 have e2 : s.pl.lasts = s.lasts := rfl
 have e3 : s.pl.seq = s.seq := rfl
 simp only [Ku, Bool.and_eq_true, decide_eq_true_eq, Gn, jf, e1, e2, e3, and_assoc]
 constructor
 ·rintro ⟨a, b, c, d, f, g⟩
  refine ⟨by omega, by omega, fun i hi => ?_, fun i hi => ?_⟩
  ·have h1 := c i hi
   simp only [Pj, Bool.and_eq_true] at h1
   exact ⟨h1.1, h1.2, fun h0 => d i hi h0⟩
  ·have h1 := f i hi
   simp only [Hf, Bool.and_eq_true, decide_eq_true_eq] at h1
   exact ⟨h1.1.1, h1.1.2, h1.2, fun h0 => of_decide_eq_true (g i hi h0)⟩
 ·rintro ⟨a, b, c, d⟩
  refine ⟨by omega, by omega, fun i hi => ?_, fun i hi h0 => (c i hi).2.2 h0, fun i hi => ?_, fun i hi h0 => decide_eq_true ((d i hi).2.2.2 h0)⟩
  ·simp only [Pj, Bool.and_eq_true]; exact ⟨(c i hi).1, (c i hi).2.1⟩
  ·simp only [Hf, Bool.and_eq_true, decide_eq_true_eq]; exact ⟨⟨(d i hi).1, (d i hi).2.1⟩, (d i hi).2.2.1⟩
theorem jU (s : ST) : Zl s = true ↔ 0 ≤ s.seq ∧ s.seq ≤ 1073741824 ∧ 0 ≤ s.clk ∧ s.clk ≤ 52595999 ∧ Va s = true ∧ Kq s = true ∧ Ku s = true := by
 simp only [Zl, Bool.and_eq_true, decide_eq_true_eq, and_assoc]
end Go.X
namespace Go.Proofs
open Go Go.X Tryz
set_option maxRecDepth 100000
set_option maxHeartbeats 4000000
theorem TJ (s : STM) (hs : Gp s) : FnS prog 63 [.agg s.cells] [] [QG s] (Is (.c (.b (Kq s.pl)))) := by
 have hl := ZQ hs.props
 have hrd : ∀ L, Qp L [QG s] 0 8 s.qa s.props.length (XI s.props) := fun L => .inr fun m h => h.1.props
 have hW := wT s.pl
 change _ ↔ s.props.length ≤ 40 ∧ 0 ≤ s.proposed ∧ s.proposed ≤ 1073741824 ∧ KR s.clk s.proposed 0 s.props = true at hW
 generalize Kq s.pl = W at *
 refine FJ 0 func63 ntmps63 (fun G => ?_)
 repeat' first | refine Wk ?_ | refine Qa.mk (fun h => ?_) (fun h => ?_) | refine Qd.mk (fun ad => ?_) | refine Qe.bool (ZL hW fun h => ?_)
 ·omega
 ·omega
 ·omega
 refine Qn (α := Nat × Int) (fun x => [(1, .c (.p 0 ad 0)), (3, .c (.i .i64 x.2)), (4, .c (.i .i64 x.1))]) (fun _ => [.box 0 ad 27 s.cells]) (fun _ => [QG s]) 1
  (fun x => x.1 ≤ s.props.length ∧ KR s.clk s.proposed 0 s.props = KR s.clk s.proposed x.2 (s.props.drop x.1)) (fun x => s.props.length - x.1) (Qq.mk (0, 0) ⟨Nat.zero_le _, rfl⟩ Qh.a (Qb.refl _ _)) (fun x hx => ?_)
 obtain ⟨i, la⟩ := x
 dsimp only at hx ⊢
 obtain ⟨hi, he⟩ := hx
 by_cases hlt : i < s.props.length
 ·have hg := zG hlt
  rw [ON hlt] at he
  generalize s.props[i] = x at *
  have cu := vz x.user
  have cv := Kk x.sp x.nm
  by_cases hq : vd s.clk s.proposed la x = true
  ·obtain ⟨q1, q2, q3, q4, q5, q6, q7, q8, q9, q10⟩ := Xu.1 hq
   rw [hq, Bool.true_and] at he
   rw [q3] at cu
   rw [q4] at cv
   clear hq
   repeat' first | refine Wk ?_ | refine Qa.mk (fun h => ?_) (fun h => ?_) | refine Qd.mk (fun ad => ?_) | fail | refine Qr.a 0 8 _ (hrd _) ?_ | refine Qi.a 0 _ _ x.cells (hrd _) (by exact hg) ?_ | refine Qc.is cu ?_ | refine Qc.is cv ?_ | refine Qo.mk (i + 1, x.id) (by dsimp only; omega) ⟨by dsimp only; omega, he⟩ Qh.a Qb.a
  ·have hq0 : vd s.clk s.proposed la x = false := by simpa using hq
   rw [hq0, Bool.false_and] at he
   have hWf : W = false := ZL hW fun h => by rw [he] at h; exact absurd h.2.2.2 (by simp)
   repeat' first | refine Wk ?_ | refine Qa.mk (fun h => ?_) (fun h => ?_) | refine Qd.mk (fun ad => ?_) | fail | refine Qr.a 0 8 _ (hrd _) ?_ | refine Qi.a 0 _ _ x.cells (hrd _) (by exact hg) ?_ | refine Qc.isB cu (fun hu => ?_) (fun hu => ?_) | refine Qc.isB cv (fun hv => ?_) (fun hv => ?_) | refine Qe.bool hWf | exact absurd (Xu.2 ⟨by omega, by omega, by assumption, by assumption, by omega, by omega, by omega, by omega, by omega, by omega⟩) hq
 ·have hil : i = s.props.length := by omega
  subst hil
  rw [List.drop_length] at he
  have hWt : W = true := hW.2 ⟨by omega, by omega, by omega, he⟩
  repeat' first | refine Wk ?_ | refine Qa.mk (fun h => ?_) (fun h => ?_) | refine Qd.mk (fun ad => ?_) | refine Qe.bool hWt
theorem T3 (s : STM) (hs : Gp s) : FnS prog 64 [.agg s.cells] [] [QG s] (Is (.c (.b (Ku s.pl)))) := by
  have hl1 := ZQ hs.watches
  have hl2 := ZQ hs.lasts
  have hrd : ∀ L, Qp L [QG s] 0 3 s.wa s.watches.length (ZM s.watches) := fun L => .inr fun m h => h.1.watches
  have hrl : ∀ L, Qp L [QG s] 0 2 s.la s.lasts.length (ZV s.lasts) := fun L => .inr fun m h => h.1.lasts
  have hW := yi s
  generalize Ku s.pl = W at *
  refine FJ 0 func64 ntmps64 (fun G => ?_)
  repeat' first | refine Wk ?_ | refine Qa.mk (fun h => ?_) (fun h => ?_) | refine Qd.mk (fun ad => ?_) | refine Qe.bool (ZL hW fun h => ?_)
  · omega
  · omega
  refine Qn (α := Nat) (fun i => [(1, .c (.p 0 ad 0)), (3, .c (.i .i64 i))]) (fun _ => [.box 0 ad 27 s.cells]) (fun _ => [QG s]) 1
    (fun i => i ≤ s.watches.length ∧ ∀ j, j < i → Pk s j) (fun i => s.watches.length - i) (Qq.mk 0 ⟨Nat.zero_le _, fun j h => absurd h (Nat.not_lt_zero j)⟩ Qh.a (Qb.refl _ _)) (fun i hx => ?_)
  obtain ⟨hi, hn⟩ := hx
  by_cases hlt : i < s.watches.length
  · have hg := VH hlt
    have hA : Pk s i ↔ Pk s i := Iff.rfl
    conv at hA => rhs; rw [Pk, Z6 hlt]
    have hnext : Pk s i → ∀ j, j < i + 1 → Pk s j := fun h j hj => by
      by_cases e : j = i
      · subst e; exact h
      · exact hn j (by omega)
    have cn := Vh s.watches[i].user
    have cv := Kk s.watches[i].sp s.watches[i].nm
    have cb := Um (s.watches.getD (i - 1) default) s.watches[i]
    have hg1 : 0 < i → ((ZM s.watches).drop (((i : Int) - 1).toNat * 3 + 0)).take 3 = (s.watches.getD (i - 1) default).cells := fun h0 => by
      rw [show ((i : Int) - 1).toNat = i - 1 by omega, Z6 (show i - 1 < s.watches.length by omega)]; exact VH (by omega)
    generalize s.watches[i] = p at *
    generalize s.watches.getD (i - 1) default = q at *
    cases hv : QV p.user
    all_goals cases hh : Qw p.sp p.nm
    all_goals cases hk : kP q p
    all_goals
      rw [hv] at cn hA
      rw [hh] at cv hA
      rw [hk] at cb hA
      repeat' first | refine Wk ?_ | refine Qa.mk (fun h => ?_) (fun h => ?_) | refine Qd.mk (fun ad => ?_) | refine Ds (id := 7) [0,1,3,7,15,31,63,127,255,511,1023,2047,4095,8191,16383,32767,16383,81919,262143,524287,16383,2097151,4194303,8388607,16777215] [0,1,2,3,4,5,6,7,8,9,10,11,12,13,14,15,16,17,18,19,20,21,22,23,24] [] [1,4,47] true ?_ | refine Ds (id := 13) [0,1,3,7,15,31,63,127,255,511,1023,2047,1023,5119,16383,32767,65535,131071,262143,524287,1048575,2097151,1048575,5242879,16777215,33554431,67108863,1048575,135266303,536870911,1073741823,2147483647] [0,1,2,3,4,5,6,7,8,9,10,11,12,13,14,15,16,17,18,19,20,21,22,23,24,25,26,27,28,29,30,31] [] [1,6,90] true ?_ | refine Qt.mk Qb.a ?_ | refine Qr.a 0 3 _ (hrd _) ?_ | refine Qi.a 0 _ _ p.cells (hrd _) (by exact hg) ?_ | refine Qi.a 0 _ _ q.cells (hrd _) (by exact hg1 (by omega)) ?_ | refine Qx.mk [] _ cn QX ?_ | refine Qx.mk [] _ cv QX ?_ | refine Qx.mk [] _ cb QX ?_ | refine Qe.bool (ZL hW fun h => ?_) | refine Qo.mk (i + 1) (by omega) ⟨by omega, hnext (hA.2 ⟨rfl, rfl, fun _ => by first | rfl | omega⟩)⟩ Qh.a Qb.a
    all_goals
      have hB := hA.1 (h.2.2.1 i hlt)
      first
        | (cases hB.1; done)
        | (cases hB.2.1; done)
        | (cases hB.2.2 (by omega); done)
  · have hil : i = s.watches.length := by omega
    subst hil
    clear hi hlt
    repeat' first | refine Wk ?_ | refine Qa.mk (fun h => ?_) (fun h => ?_) | refine Qd.mk (fun ad => ?_)
    refine Qn (α := Nat) (fun i => [(1, .c (.p 0 ad 0)), (5, .c (.i .i64 i))]) (fun _ => [.box 0 ad 27 s.cells]) (fun _ => [QG s]) 1
      (fun i => i ≤ s.lasts.length ∧ ∀ j, j < i → P2 s j) (fun i => s.lasts.length - i) (Qq.mk 0 ⟨Nat.zero_le _, fun j h => absurd h (Nat.not_lt_zero j)⟩ Qh.a Qb.a) (fun i hx => ?_)
    obtain ⟨hi, hn2⟩ := hx
    by_cases hlt : i < s.lasts.length
    · have hg := zL hlt
      have hA : P2 s i ↔ P2 s i := Iff.rfl
      conv at hA => rhs; rw [P2, Z6 hlt]
      have hnext : P2 s i → ∀ j, j < i + 1 → P2 s j := fun h j hj => by
        by_cases e : j = i
        · subst e; exact h
        · exact hn2 j (by omega)
      have cn := Vh s.lasts[i].user
      have hls := YL (s.lasts.getD (i - 1) default).user s.lasts[i].user
      have hlr := Ky (s.lasts.getD (i - 1) default).user s.lasts[i].user
      have hg1 : 0 < i → ((ZV s.lasts).drop (((i : Int) - 1).toNat * 2 + 0)).take 1 = [.s (s.lasts.getD (i - 1) default).user] := fun h0 => by
        rw [show ((i : Int) - 1).toNat = i - 1 by omega, Z6 (show i - 1 < s.lasts.length by omega), ZV, QL (F := LU.cells) (z := 2) (fun _ => rfl) (by omega) (by omega)]; rfl
      generalize s.lasts[i] = p at *
      generalize s.lasts.getD (i - 1) default = q at *
      cases hv : QV p.user
      all_goals
        rw [hv] at cn hA
        repeat' first | refine Wk ?_ | refine Qa.mk (fun h => ?_) (fun h => ?_) | refine Qd.mk (fun ad => ?_) | refine Ds (id := 7) [0,1,3,7,15,31,63,127,255,511,1023,2047,4095,8191,16383,32767,16383,81919,262143,524287,16383,2097151,4194303,8388607,16777215] [0,1,2,3,4,5,6,7,8,9,10,11,12,13,14,15,16,17,18,19,20,21,22,23,24] [] [1,4,47] true ?_ | refine Ds (id := 13) [0,1,3,7,15,31,63,127,255,511,1023,2047,1023,5119,16383,32767,65535,131071,262143,524287,1048575,2097151,1048575,5242879,16777215,33554431,67108863,1048575,135266303,536870911,1073741823,2147483647] [0,1,2,3,4,5,6,7,8,9,10,11,12,13,14,15,16,17,18,19,20,21,22,23,24,25,26,27,28,29,30,31] [] [1,6,90] true ?_ | refine Qt.mk Qb.a ?_ | refine Qr.a 0 2 _ (hrl _) ?_ | refine Zv.mk 0 2 _ _ (hrl _) (by omega) ?_ | refine Qi.a 0 _ _ p.cells (hrl _) (by exact hg) ?_ | refine Qi.a 0 _ _ [.s q.user] (hrl _) (by exact hg1 (by omega)) ?_ | refine Qx.mk [] _ cn QX ?_ | refine Qe.bool (ZL hW fun h => ?_) | refine Qo.mk (i + 1) (by omega) ⟨by omega, hnext (hA.2 ⟨rfl, by omega, by omega, fun _ => ?_⟩)⟩ Qh.a Qb.a
      all_goals
        first
          | (have hB := hA.1 (h.2.2.2 i hlt)
             first
               | (cases hB.1; done)
               | omega
               | (have hC := hB.2.2.2 (by omega); clear hB h hW hn hn2 hnext cn hrd hrl hA; simp only [hls] at *; omega))
          | (clear hW hn hn2 hnext cn hrd hrl hA; simp only [hls] at *; omega)
          | trace_state
    · have hil : i = s.lasts.length := by omega
      subst hil
      have hWt : W = true := hW.2 ⟨by omega, by omega, hn, hn2⟩
      repeat' first | refine Wk ?_ | refine Qa.mk (fun h => ?_) (fun h => ?_) | refine Qd.mk (fun ad => ?_) | refine Qe.bool hWt
theorem Y0 (s : STM) (hs : Gp s) : FnS prog 20 [.agg s.cells] [] [QG s] (Is (.c (.b (Zl s.pl)))) := by
 have hW := jU s.pl
 have c1 := TP s hs
 have c2 := TJ s hs
 have c3 := T3 s hs
 change _ ↔ 0 ≤ s.seq ∧ s.seq ≤ 1073741824 ∧ 0 ≤ s.clk ∧ s.clk ≤ 52595999 ∧ Va s.pl = true ∧ Kq s.pl = true ∧ Ku s.pl = true at hW
 generalize Zl s.pl = W at *
 refine FJ 0 func20 ntmps20 (fun G => ?_)
 repeat' first | refine Wk ?_ | refine Qa.mk (fun h => ?_) (fun h => ?_) | refine Qd.mk (fun ad => ?_) | refine Qc.isB c1 (fun h1 => ?_) (fun h1 => ?_) | refine Qc.isB c2 (fun h2 => ?_) (fun h2 => ?_) | refine Qc.isB c3 (fun h3 => ?_) (fun h3 => ?_) | refine Qe.bool ?_
 all_goals
  first
   | exact ZL hW (by omega)
   | exact ZL hW (fun h => by first | (rw [h1] at h; exact absurd h.2.2.2.2.1 (by decide)) | (rw [h2] at h; exact absurd h.2.2.2.2.2.1 (by decide)) | (rw [h3] at h; exact absurd h.2.2.2.2.2.2 (by decide)))
   | exact hW.2 ⟨by omega, by omega, by omega, by omega, h1, h2, h3⟩
end Go.Proofs
namespace Go.X
open Go Go.Lib
theorem YP {α : Type} {p : α → Bool} {l : List α} (h : Q2 p l < 0) : ∀ x ∈ l, p x = false := by
 rcases JV p l with ⟨_, h1⟩ | ⟨i, _, h1, _⟩
 ·exact h1
 ·omega
theorem yl {α : Type} {p : α → Bool} {l : List α} (h : ¬ Q2 p l < 0) : ∃ i : Nat, ∃ hi : i < l.length, Q2 p l = i ∧ p l[i] = true := by
 rcases JV p l with ⟨h1, _⟩ | h1
 ·omega
 ·exact h1
theorem JH {α : Type} (p : α → Bool) : ∀ l : List α, (Jr p l = -1 ∧ ∀ x ∈ l, p x = false) ∨ ∃ i : Nat, ∃ h : i < l.length, Jr p l = i ∧ p l[i] = true
 | [] => .inl ⟨rfl, fun _ h => (by cases h)⟩
 | x :: r => by
  simp only [Jr]
  rcases JH p r with ⟨h1, h2⟩ | ⟨i, h1, h2, h3⟩
  ·rw [h1, if_neg (by omega)]
   split
   ·rename_i h
    exact .inr ⟨0, by simp, rfl, h⟩
   ·rename_i h
    refine .inl ⟨rfl, fun y hy => ?_⟩
    rcases List.mem_cons.1 hy with rfl | hy
    ·simpa using h
    ·exact h2 y hy
  ·rw [h2, if_pos (by omega)]
   exact .inr ⟨i + 1, by simpa using h1, by omega, by simpa using h3⟩
theorem Vk {l : List SP} {i : Nat} (h : i < l.length) : l.getD i default = l[i] := by
 rw [List.getD_eq_getElem?_getD, List.getElem?_eq_getElem h]; rfl
theorem qI {α : Type} {l : List α} {i : Nat} {x : α} (h : x ∈ l.eraseIdx i) : x ∈ l := (List.eraseIdx_sublist l i).subset h
theorem O0 {l : List SP} {x : SP} (hl : l.Pairwise fun a b => cfP a b < 0) (hn : ∀ y ∈ l, YX x.sp x.nm y = false) : (Kv (je x.sp x.nm) l x).Pairwise fun a b => cfP a b < 0 :=
 T6 L3 l x hl fun y hy e => by
  have h1 := (Je _ _ _ _).1 e
  have h2 := hn y hy
  rw [YX, decide_eq_false_iff_not] at h2
  exact h2 h1
theorem VK.addP {sq : Int} {s : ST} {x : SP} (h : VK sq s) (hx : XK s.clk sq x = true) (hn : ∀ y ∈ s.pages, YX x.sp x.nm y = false) (hl : ¬ 200 ≤ (s.pages.length : Int))
  (hr : YX 5 policyNm x = true → (Zi (qv x).text).2.2 = 0) : VK sq { s with pages := Kv (je x.sp x.nm) s.pages x } where
 c0 := h.c0
 c1 := h.c1
 np := by dsimp only; rw [V9]; omega
 ng := h.ng
 pg p hp := by
  rcases (WH _ _ _ _).1 hp with rfl | hp
  ·exact hx
  ·exact h.pg p hp
 asc := O0 h.asc hn
 gn := h.gn
 rul p hp := by
  rcases (WH _ _ _ _).1 hp with rfl | hp
  ·exact hr
  ·exact h.rul p hp
 nq := h.nq
 q0 := h.q0
 q1 := h.q1
 pp := h.pp
 nw := h.nw
 ws := h.ws
 wa := h.wa
 nl := h.nl
 ls := h.ls
 la := h.la
theorem VK.subP {sq : Int} {s : ST} {l : List SP} (h : VK sq s) (hs : l.Sublist s.pages) : VK sq { s with pages := l } where
 c0 := h.c0
 c1 := h.c1
 np := by have := hs.length_le; have := h.np; dsimp only; omega
 ng := h.ng
 pg p hp := h.pg p (hs.subset hp)
 asc := h.asc.sublist hs
 gn := h.gn
 rul p hp := h.rul p (hs.subset hp)
 nq := h.nq
 q0 := h.q0
 q1 := h.q1
 pp := h.pp
 nw := h.nw
 ws := h.ws
 wa := h.wa
 nl := h.nl
 ls := h.ls
 la := h.la
theorem VK.goneP {sq : Int} {s : ST} {l : List SP} (h : VK sq s) (hl : (l.length : Int) ≤ 100) (hg : ∀ p ∈ l, XK s.clk sq p = true) : VK sq { s with gone := l } where
 c0 := h.c0
 c1 := h.c1
 np := h.np
 ng := hl
 pg := h.pg
 asc := h.asc
 gn := hg
 rul := h.rul
 nq := h.nq
 q0 := h.q0
 q1 := h.q1
 pp := h.pp
 nw := h.nw
 ws := h.ws
 wa := h.wa
 nl := h.nl
 ls := h.ls
 la := h.la
theorem VK.propP {sq : Int} {s : ST} (h : VK sq s) (q : PP → Bool) : VK sq { s with props := s.props.filter q } where
 c0 := h.c0
 c1 := h.c1
 np := h.np
 ng := h.ng
 pg := h.pg
 asc := h.asc
 gn := h.gn
 rul := h.rul
 nq := by have := List.length_filter_le q s.props; have := h.nq; dsimp only; omega
 q0 := h.q0
 q1 := h.q1
 pp := j3 q _ _ h.pp
 nw := h.nw
 ws := h.ws
 wa := h.wa
 nl := h.nl
 ls := h.ls
 la := h.la
theorem K0 {c : CH} : QM c = 0 ↔ KZ c = true ∧ Xf c = true ∧ (c.text.length : Int) ≤ 8192 ∧ (c.note.length : Int) ≤ 200 ∧ ∀ r ∈ c.hist, (r.text.length : Int) ≤ 8192 ∧ (r.note.length : Int) ≤ 200 := by
 unfold QM
 cases hf : KZ c
 ·simp
 cases hw : Xf c
 ·simp
 by_cases h1 : 8192 < (c.text.length : Int) ∨ 200 < (c.note.length : Int)
 ·rw [if_neg (by decide), if_neg (by decide), if_pos h1]
  refine ⟨fun h => absurd h (by decide), fun h => ?_⟩
  omega
 ·rw [if_neg (by decide), if_neg (by decide), if_neg h1]
  have h2 : c.hist.any rvLong = true ↔ ∃ r ∈ c.hist, 8192 < (r.text.length : Int) ∨ 200 < (r.note.length : Int) := by
   rw [List.any_eq_true]
   constructor
   ·rintro ⟨r, hr, h⟩; exact ⟨r, hr, by simpa [rvLong] using h⟩
   ·rintro ⟨r, hr, h⟩; exact ⟨r, hr, by simpa [rvLong] using h⟩
  by_cases h3 : c.hist.any rvLong = true
  ·rw [if_pos h3]
   refine ⟨fun h => absurd h (by decide), fun h => ?_⟩
   obtain ⟨r, hr, h4⟩ := h2.1 h3
   have := h.2.2.2.2 r hr
   omega
  ·rw [if_neg h3]
   refine ⟨fun _ => ⟨rfl, rfl, by omega, by omega, fun r hr => ?_⟩, fun _ => rfl⟩
   have : ¬ (8192 < (r.text.length : Int) ∨ 200 < (r.note.length : Int)) := fun h => h3 (h2.2 ⟨r, hr, h⟩)
   omega
structure Gr (c : CH) : Prop where
 user : Xg c.user = true
 title : c.kind ≠ 6 → c.kind ≠ 10 → Qw c.sp c.nm = true
 text : (c.text.length : Int) ≤ 8192
 note : (c.note.length : Int) ≤ 200
 dest : c.kind = 4 → Qw c.tsp c.tnm = true
 num : c.kind = 6 → 1 ≤ c.n
 base : c.kind = 9 → 0 ≤ c.n ∧ c.n ≤ 40
 who : c.kind = 7 ∨ c.kind = 8 → c.user ≠ []
 hist : c.kind = 5 → Z7 c.hist = true
 long : ∀ r ∈ c.hist, (r.text.length : Int) ≤ 8192 ∧ (r.note.length : Int) ≤ 200
theorem Ru {c : CH} (h : QM c = 0) : Gr c := by
 obtain ⟨_, hw, h1, h2, h3⟩ := K0.1 h
 unfold Xf jt at hw
 simp only [Bool.and_eq_true, Bool.or_eq_true, Bool.not_eq_true', Bool.and_eq_false_imp, decide_eq_true_eq, decide_eq_false_iff_not] at hw
 obtain ⟨⟨ha, hb⟩, hc⟩ := hw
 refine ⟨hb, fun h6 h10 => ?_, h1, h2, fun h4 => ?_, fun h6 => ?_, fun h9 => ?_, fun h7 => ?_, fun h5 => ?_, h3⟩
 ·rcases ha with ha | ha
  ·exfalso
   simp [h6, h10] at ha
  ·exact ha
 ·rw [if_neg (by omega), if_pos h4] at hc
  simp only [Bool.and_eq_true] at hc
  exact hc.1
 ·rw [if_neg (by omega), if_neg (by omega), if_pos h6] at hc
  simp only [Bool.and_eq_true, decide_eq_true_eq] at hc
  exact hc.1
 ·rw [if_neg (by omega), if_neg (by omega), if_neg (by omega), if_pos h9] at hc
  simpa only [Bool.and_eq_true, decide_eq_true_eq] using hc
 ·rw [if_pos h7] at hc
  simpa using hc
 ·rw [if_neg (by omega), if_neg (by omega), if_neg (by omega), if_neg (by omega), if_neg (by omega), if_pos h5] at hc
  exact hc
theorem Oc {c : CH} (hk : c.kind = 1) (h : Zx c = false) : c.sp = 5 ∧ c.nm = policyNm → (Zi c.text).2.2 = 0 := fun hp => by
 unfold Zx xN at h
 rw [if_pos hk, decide_eq_true hp] at h
 simpa using h
theorem Ue {c : CH} (hk : c.kind = 2 ∨ c.kind = 3 ∨ c.kind = 5) (h : Zx c = false) : ¬ (c.sp = 5 ∧ c.nm = policyNm) := fun hp => by
 unfold Zx xN at h
 rw [if_neg (by omega), if_pos hk, decide_eq_true hp] at h
 cases h
theorem Hw {c : CH} (hk : c.kind = 4) (h : Zx c = false) : ¬ (c.sp = 5 ∧ c.nm = policyNm) ∧ ¬ (c.tsp = 5 ∧ c.tnm = policyNm) := by
 unfold Zx xN at h
 rw [if_neg (by omega), if_neg (by omega), if_pos hk] at h
 simpa only [Bool.or_eq_false_iff, decide_eq_false_iff_not] using h
theorem jL {p : SP} : YX 5 policyNm p = true ↔ p.sp = 5 ∧ p.nm = policyNm := qN
theorem Hb {clk sq : Int} {r : RV} (h0 : 0 ≤ clk) (hq : 1 ≤ sq) (h1 : r.num = 1) (h2 : (r.text.length : Int) ≤ 8192) (h3 : (r.note.length : Int) ≤ 200) (h4 : Xg r.user = true) (h5 : r.min = clk) (h6 : r.seq = sq) : Yg clk sq [r] = true := by
 refine Xx.2 ⟨by simp, by simp, ?_⟩
 simp only [ZK, Bool.and_true]
 exact Xs.2 ⟨by omega, h2, h3, h4, by omega, by omega, by omega, by omega⟩
theorem VK.put {sq : Int} {s : ST} {c : CH} (hq : 1 ≤ sq) (h : VK sq s) (hc : Gr c) (hk : c.kind = 1) (hf : Zx c = false) (h0 : (K7 s c sq).2 = 0) : VK sq (K7 s c sq).1 := by
 have hpol := Oc hk hf
 have hv := hc.title (by omega) (by omega)
 unfold K7 at h0 ⊢
 split
 ·rename_i hi
  rw [if_pos hi] at h0
  split
  ·exact h
  ·rename_i hn
   refine h.addP (x := ⟨c.sp, c.nm, [⟨1, c.user, c.note, c.text, s.clk, sq⟩]⟩) (Q4.2 ⟨hv, Hb h.c0 hq rfl hc.text hc.note hc.user rfl rfl⟩) (YP hi) hn fun hp => ?_
   exact hpol (jL.1 hp)
 ·rename_i hi
  split
  ·exact h
  ·rename_i hn
   obtain ⟨i, hil, hie, hip⟩ := yl hi
   have hat := qN.1 hip
   have hpa : Vc s (Q2 (YX c.sp c.nm) s.pages) = s.pages[i] := by
    rw [Vc, hie, Int.toNat_natCast, Vk hil]
   rw [hpa] at hn
   rw [hie, Int.toNat_natCast]
   have hmem : ∀ p ∈ s.pages.modify i (fun p => { p with hist := p.hist ++ [⟨(p.hist.length : Int) + 1, c.user, c.note, c.text, s.clk, sq⟩] }), p ∈ s.pages ∨ p = { s.pages[i] with hist := s.pages[i].hist ++ [⟨(s.pages[i].hist.length : Int) + 1, c.user, c.note, c.text, s.clk, sq⟩] } := fun p hp => by
    obtain ⟨j, hj, rfl⟩ := List.getElem_of_mem hp
    rw [List.getElem_modify]
    split
    ·rename_i e; subst e; exact .inr rfl
    ·exact .inl (List.getElem_mem _)
   have hold := Q4.1 (h.pg _ (List.getElem_mem hil))
   obtain ⟨ho1, ho2, ho3⟩ := Xx.1 hold.2
   exact {
    c0 := h.c0
    c1 := h.c1
    np := by dsimp only; rw [List.length_modify]; exact h.np
    ng := h.ng
    pg := fun p hp => by
     rcases hmem p hp with hp | rfl
     ·exact h.pg p hp
     ·refine Q4.2 ⟨hold.1, Xx.2 ⟨?_, ?_, ki (x := ⟨(s.pages[i].hist.length : Int) + 1, c.user, c.note, c.text, s.clk, sq⟩) hc.text hc.note hc.user rfl rfl _ _ _ _ h.c0 hq ho3 (show (s.pages[i].hist.length : Int) + 1 = 0 + (s.pages[i].hist.length : Int) + 1 by omega)⟩⟩
      ·simp; omega
      ·simp; omega
    asc := by
     have : (s.pages.modify i (fun p => { p with hist := p.hist ++ [⟨(p.hist.length : Int) + 1, c.user, c.note, c.text, s.clk, sq⟩] })).map (fun p => (p.sp, p.nm)) = s.pages.map fun p => (p.sp, p.nm) := by
      refine List.ext_getElem (by simp) fun j h1 h2 => ?_
      simp only [List.getElem_map, List.getElem_modify]
      split <;> rfl
     have e1 := List.pairwise_map (f := fun p : SP => (p.sp, p.nm)) (R := fun a b => QH a.1 a.2 b.1 b.2 < 0) (l := s.pages)
     have e2 := List.pairwise_map (f := fun p : SP => (p.sp, p.nm)) (R := fun a b => QH a.1 a.2 b.1 b.2 < 0) (l := s.pages.modify i (fun p => { p with hist := p.hist ++ [⟨(p.hist.length : Int) + 1, c.user, c.note, c.text, s.clk, sq⟩] }))
     rw [this] at e2
     exact e2.1 (e1.2 h.asc)
    gn := h.gn
    rul := fun p hp ha => by
     rcases hmem p hp with hp | rfl
     ·exact h.rul p hp ha
     ·have e := jL.1 ha
      have := hpol ⟨hat.1.symm.trans e.1, hat.2.symm.trans e.2⟩
      simpa [qv] using this
    nq := h.nq
    q0 := h.q0
    q1 := h.q1
    pp := h.pp
    nw := h.nw
    ws := h.ws
    wa := h.wa
    nl := h.nl
    ls := h.ls
    la := h.la }
theorem VK.remove {sq : Int} {s : ST} {c : CH} (h : VK sq s) (h0 : (JA s c).2 = 0) : VK sq (JA s c).1 := by
 unfold JA at h0 ⊢
 split
 ·exact h
 ·rename_i hi
  split
  ·exact h
  ·rename_i hn
   obtain ⟨i, hil, hie, _⟩ := yl hi
   rw [Vc, hie, Int.toNat_natCast, Vk hil]
   refine ((h.goneP (l := s.gone ++ [s.pages[i]]) ?_ fun p hp => ?_).subP (l := s.pages.eraseIdx i) (List.eraseIdx_sublist _ _)).propP _
   ·simp; omega
   ·rcases List.mem_append.1 hp with hp | hp
    ·exact h.gn p hp
    ·rw [List.mem_singleton.1 hp]; exact h.pg _ (List.getElem_mem hil)
theorem VK.restore {sq : Int} {s : ST} {c : CH} (h : VK sq s) (hk : c.kind = 3) (hf : Zx c = false) (h0 : (XS s c).2 = 0) : VK sq (XS s c).1 := by
 have hpol := Ue (.inr (.inl hk)) hf
 unfold XS at h0 ⊢
 split
 ·exact h
 ·rename_i hi
  split
  ·exact h
  ·rename_i hg
   split
   ·exact h
   ·rename_i hn
    rcases JH (YX c.sp c.nm) s.gone with ⟨h1, _⟩ | ⟨i, h1, h2, h3⟩
    ·omega
    ·rw [h2, Int.toNat_natCast, Vk h1]
     have hat := qN.1 h3
     have hg1 := h.gn _ (List.getElem_mem h1)
     generalize s.gone[i] = x at *
     obtain ⟨xs, xn, xh⟩ := x
     obtain ⟨e1, e2⟩ := hat
     dsimp only at e1 e2
     subst e1 e2
     have hi' : Q2 (YX c.sp c.nm) s.pages < 0 := by omega
     have h' := h.addP hg1 (YP hi') hn (fun hp => absurd (jL.1 hp) hpol)
     refine h'.goneP (l := s.gone.eraseIdx i) ?_ fun p hp => h.gn p (qI hp)
     have := (List.eraseIdx_sublist s.gone i).length_le
     have := h.ng
     omega
theorem S7 {l : List SP} (h : l.Pairwise fun a b => cfP a b < 0) {i : Nat} (hi : i < l.length) {y : SP} (hy : y ∈ l.eraseIdx i) : cfP y l[i] ≠ 0 := by
 intro e
 obtain ⟨j, hj, rfl⟩ := List.getElem_of_mem hy
 rw [List.getElem_eraseIdx] at e
 have h' := List.pairwise_iff_getElem.1 h
 have hjl : j < l.length - 1 := by rwa [List.length_eraseIdx_of_lt hi] at hj
 split at e
 ·rename_i hji
  have := h' j i (by omega) hi hji
  omega
 ·rename_i hji
  have := h' i (j + 1) hi (by omega) (by omega)
  have := L3.swap l[i] l[j + 1]
  omega
theorem PT {sp : Int} {nm : Bs} : ((JF sp nm).length : Int) ≤ 8192 := by
 have := zQ sp nm
 simp only [JF, List.length_append, List.length_cons, List.length_nil]
 omega
theorem VK.move {sq : Int} {s : ST} {c : CH} (hq : 1 ≤ sq) (h : VK sq s) (hc : Gr c) (hk : c.kind = 4) (hf : Zx c = false) (h0 : (VB s c sq).2 = 0) : VK sq (VB s c sq).1 := by
 have hpol := Hw hk hf
 have hv := hc.title (by omega) (by omega)
 have hto := hc.dest hk
 unfold VB at h0 ⊢
 split
 ·exact h
 ·rename_i hi
  split
  ·exact h
  ·rename_i hd
   split
   ·exact h
   ·rename_i hn
    obtain ⟨i, hil, hie, hip⟩ := yl hi
    have hat := qN.1 hip
    have hnone := YP (p := YX c.tsp c.tnm) (l := s.pages) (by omega)
    have hpg := Q4.1 (h.pg _ (List.getElem_mem hil))
    have hlen : (s.pages.eraseIdx i).length = s.pages.length - 1 := List.length_eraseIdx_of_lt hil
    have hnp := h.np
    have hne : ¬ (c.tsp = c.sp ∧ c.tnm = c.nm) := fun e => by
     have := hnone _ (List.getElem_mem hil)
     rw [YX, decide_eq_false_iff_not] at this
     exact this ⟨hat.1.trans e.1.symm, hat.2.trans e.2.symm⟩
    rw [Vc, hie, Int.toNat_natCast, Vk hil]
    have h1 := (h.subP (List.eraseIdx_sublist s.pages i)).addP (x := ⟨c.tsp, c.tnm, s.pages[i].hist⟩) (Q4.2 ⟨hto, hpg.2⟩) (fun y hy => hnone y (qI hy)) (by dsimp only; omega) (fun hp => absurd (jL.1 hp) hpol.2)
    dsimp only at h1 ⊢
    by_cases hn1 : c.n = 1
    ·rw [if_pos hn1]
     refine (h1.addP (x := ⟨c.sp, c.nm, [⟨1, c.user, [], JF c.tsp c.tnm, s.clk, sq⟩]⟩) (Q4.2 ⟨hv, Hb h.c0 hq rfl PT (by simp) hc.user rfl rfl⟩) (fun y hy => ?_) ?_ (fun hp => absurd (jL.1 hp) hpol.1)).propP _
     ·refine decide_eq_false fun e => ?_
      rcases (WH _ _ _ _).1 hy with rfl | hy
      ·exact hne e
      ·refine S7 h.asc hil hy ((Je _ _ _ _).2 ⟨e.1.trans hat.1.symm, e.2.trans hat.2.symm⟩)
     ·dsimp only
      rw [V9]; omega
    ·rw [if_neg hn1]
     exact h1.propP _
theorem kh {clk sq : Int} (hq : 1 ≤ sq) : ∀ (l : List RV) (i mi se : Int), XV i mi l = true → (∀ r ∈ l, (r.text.length : Int) ≤ 8192 ∧ (r.note.length : Int) ≤ 200) → (l = [] ∨ (l.getLast?.getD default).min ≤ clk) → se ≤ sq →
  (∀ r ∈ l, r.min ≤ (l.getLast?.getD default).min) ∧ ZK clk sq i mi se (l.map fun r => { r with seq := sq }) = true
 | [], _, _, _, _, _, _, _ => ⟨fun _ h => (by cases h), rfl⟩
 | r :: l, i, mi, se, h, ht, hm, hs => by
  simp only [XV, Bool.and_eq_true] at h
  have h1 : r.num = i + 1 ∧ r.seq = 0 ∧ Xg r.user = true ∧ 0 ≤ r.min ∧ r.min ≤ 52595999 ∧ mi ≤ r.min := by
   simpa only [Yx, Bool.and_eq_true, decide_eq_true_eq, and_assoc] using h.1
  cases l with
  | nil =>
   refine ⟨fun x hx => by rw [List.mem_singleton.1 hx]; exact Int.le_refl _, ?_⟩
   have hm : r.min ≤ clk := by simpa using hm
   have := ht r (List.mem_cons_self ..)
   simp only [List.map_cons, List.map_nil, ZK, Bool.and_true]
   exact Xs.2 ⟨h1.1, this.1, this.2, h1.2.2.1, h1.2.2.2.2.2, hm, hs, Int.le_refl _⟩
  | cons y t =>
   have hlast : ((r :: y :: t).getLast?.getD default) = ((y :: t).getLast?.getD default) := by simp [List.getLast?_cons_cons]
   rw [hlast] at hm ⊢
   have hm' : ((y :: t).getLast?.getD default).min ≤ clk := hm.resolve_left (by simp)
   obtain ⟨h2, h3⟩ := kh hq (y :: t) (i + 1) r.min sq h.2 (fun x hx => ht x (List.mem_cons_of_mem _ hx)) (.inr hm') (Int.le_refl _)
   have hy : r.min ≤ y.min := by
    have h4 := h.2
    simp only [XV, Bool.and_eq_true] at h4
    have h5 : y.num = i + 1 + 1 ∧ y.seq = 0 ∧ Xg y.user = true ∧ 0 ≤ y.min ∧ y.min ≤ 52595999 ∧ r.min ≤ y.min := by
     simpa only [Yx, Bool.and_eq_true, decide_eq_true_eq, and_assoc] using h4.1
    exact h5.2.2.2.2.2
   have hyl := h2 y (List.mem_cons_self ..)
   refine ⟨fun x hx => ?_, ?_⟩
   ·rcases List.mem_cons.1 hx with rfl | hx
    ·omega
    ·exact h2 x hx
   ·have := ht r (List.mem_cons_self ..)
    rw [List.map_cons, ZK, h3, Bool.and_true]
    exact Xs.2 ⟨h1.1, this.1, this.2, h1.2.2.1, h1.2.2.2.2.2, by dsimp only; omega, hs, Int.le_refl _⟩
theorem VK.take {sq : Int} {s : ST} {c : CH} (hq : 1 ≤ sq) (h : VK sq s) (hc : Gr c) (hk : c.kind = 5) (hf : Zx c = false) (h0 : (Vw s c sq).2 = 0) : VK sq (Vw s c sq).1 := by
 have hpol := Ue (.inr (.inr hk)) hf
 have hv := hc.title (by omega) (by omega)
 have hh := hc.hist hk
 unfold Vw at h0 ⊢
 split
 ·exact h
 ·rename_i hi
  split
  ·exact h
  ·rename_i hm
   split
   ·exact h
   ·rename_i hn
    simp only [Z7, Bool.and_eq_true, decide_eq_true_eq] at hh
    have hi' : Q2 (YX c.sp c.nm) s.pages < 0 := by omega
    refine h.addP (x := ⟨c.sp, c.nm, c.hist.map fun r => { r with seq := sq }⟩) (Q4.2 ⟨hv, Xx.2 ⟨?_, ?_, (kh hq _ _ _ _ hh.2 hc.long (.inr (by omega)) hq).2⟩⟩) (YP hi') hn (fun hp => absurd (jL.1 hp) hpol)
    ·dsimp only; rw [List.length_map]; omega
    ·dsimp only; rw [List.length_map]; omega
theorem VK.tick {sq : Int} {s : ST} {c : CH} (h : VK sq s) (hc : Gr c) (hk : c.kind = 6) : VK sq (zd s c).1 := by
 have hn := hc.num hk
 unfold zd
 split
 ·exact h
 ·exact {
   c0 := by have := h.c0; dsimp only; omega
   c1 := by dsimp only; omega
   np := h.np
   ng := h.ng
   pg := fun p hp => Yb (by dsimp only; omega) (Int.le_refl _) (h.pg p hp)
   asc := h.asc
   gn := fun p hp => Yb (by dsimp only; omega) (Int.le_refl _) (h.gn p hp)
   rul := h.rul
   nq := h.nq
   q0 := h.q0
   q1 := h.q1
   pp := jw (by dsimp only; omega) (Int.le_refl _) _ _ _ (Int.le_refl _) h.pp
   nw := h.nw
   ws := h.ws
   wa := h.wa
   nl := h.nl
   ls := h.ls
   la := h.la }
theorem jH {α : Type} {cf : α → α → Int} (h : vr cf) {x y : α} (h0 : cf y x = 0) : ∀ {l : List α}, (l.Pairwise fun a b => cf a b < 0) → y ∈ l → (l.dropWhile fun z => decide (cf z x < 0)).head? = some y
 | z :: t, hl, hy => by
  have hl' := List.pairwise_cons.1 hl
  rcases List.mem_cons.1 hy with e | hy
  ·subst e
   rw [List.dropWhile_cons_of_neg (by simp; omega)]; rfl
  ·have h1 := hl'.1 y hy
   have a1 := h.swap z y; have a2 := h.swap y x; have a3 := h.swap z x
   have t1 := h.trans z y x (by omega) (by omega)
   have t2 := h.trans y x z (by omega)
   rw [List.dropWhile_cons_of_pos (by simp; omega)]
   exact jH h h0 hl'.2 hy
theorem wt_eq {x y : WT} (h : cfW x y = 0) : x = y := by
 unfold cfW at h
 split at h
 ·rename_i h1; exact absurd h h1
 ·rename_i h1
  have e1 := (KJ _ _).1 (Classical.not_not.1 h1)
  have e2 := (Je _ _ _ _).1 h
  obtain ⟨a, b, c⟩ := x
  obtain ⟨a', b', c'⟩ := y
  dsimp only at e1 e2
  obtain ⟨e2, e3⟩ := e2
  subst e1 e2 e3
  rfl
theorem HN (x : WT) : cfW x x = 0 := by have := w9.swap x x; omega
theorem RS {α : Type} (q : α → Bool) (l : List α) : (l.takeWhile q ++ (l.dropWhile q).tail).Sublist l := by
 have h := List.takeWhile_append_dropWhile (p := q) (l := l)
 have h1 : (l.takeWhile q ++ (l.dropWhile q).tail).Sublist (l.takeWhile q ++ l.dropWhile q) := List.Sublist.append (List.Sublist.refl _) (List.tail_sublist _)
 rwa [h] at h1
theorem U5 (w : WT) : (fun x => kP x w) = fun x => decide (cfW x w < 0) := by funext x; exact T0 x w
theorem VK.watP {sq : Int} {s : ST} {l : List WT} (h : VK sq s) (hl : (l.length : Int) ≤ 100) (hw : ∀ w ∈ l, Pj w = true) (ha : l.Pairwise fun a b => cfW a b < 0) : VK sq { s with watches := l } where
 c0 := h.c0
 c1 := h.c1
 np := h.np
 ng := h.ng
 pg := h.pg
 asc := h.asc
 gn := h.gn
 rul := h.rul
 nq := h.nq
 q0 := h.q0
 q1 := h.q1
 pp := h.pp
 nw := hl
 ws := hw
 wa := ha
 nl := h.nl
 ls := h.ls
 la := h.la
theorem VK.watch {sq : Int} {s : ST} {c : CH} (h : VK sq s) (hc : Gr c) (hk : c.kind = 7 ∨ c.kind = 8) : VK sq (Xm s c).1 := by
 have hv := hc.title (by omega) (by omega)
 have hu := hc.user
 have hne := hc.who hk
 unfold Xm
 dsimp only
 rw [U5]
 split
 ·split
  ·have hs := RS (fun x => decide (cfW x ⟨c.user, c.sp, c.nm⟩ < 0)) s.watches
   exact h.watP (by have := hs.length_le; have := h.nw; omega) (fun w hw => h.ws w (hs.subset hw)) (h.wa.sublist hs)
  ·exact h
 ·split
  ·exact h
  ·rename_i hb
   split
   ·exact h
   ·rename_i hn
    have hnm : QV c.user = true := by
     unfold Xg at hu
     rw [decide_eq_false hne, Bool.false_or] at hu
     exact hu
    change VK sq { s with watches := Kv (fun x => decide (cfW x ⟨c.user, c.sp, c.nm⟩ < 0)) s.watches ⟨c.user, c.sp, c.nm⟩ }
    refine h.watP (by rw [V9]; omega) (fun w hw => ?_) (T6 w9 _ _ h.wa fun y hy e => ?_)
    ·rcases (WH _ _ _ _).1 hw with rfl | hw
     ·simp [Pj, hv, hnm]
     ·exact h.ws w hw
    ·have := wt_eq e
     subst this
     exact hb (jH w9 (HN _) h.wa hy)
theorem VK.propose {sq : Int} {s : ST} {c : CH} (h : VK sq s) (hc : Gr c) (hk : c.kind = 9) : VK sq (Jc s c).1 := by
 have hv := hc.title (by omega) (by omega)
 have hb := hc.base hk
 unfold Jc
 split
 ·exact h
 ·exact {
   c0 := h.c0
   c1 := h.c1
   np := h.np
   ng := h.ng
   pg := h.pg
   asc := h.asc
   gn := h.gn
   rul := h.rul
   nq := by simp; omega
   q0 := by have := h.q0; dsimp only; omega
   q1 := by dsimp only; omega
   pp := by
    have hx : vd s.clk (s.proposed + 1) (s.proposed + 1 - 1) ⟨s.proposed + 1, c.user, c.note, c.sp, c.nm, c.n, c.text, s.clk⟩ = true :=
     Xu.2 ⟨by dsimp only; omega, Int.le_refl _, hc.user, hv, hb.1, hb.2, hc.text, hc.note, h.c0, Int.le_refl _⟩
    refine vP hx _ _ (by have := h.q0; omega) ?_
    rw [Int.add_sub_cancel]
    exact h.pp
   nw := h.nw
   ws := h.ws
   wa := h.wa
   nl := h.nl
   ls := h.ls
   la := h.la }
theorem VK.shut {sq : Int} {s : ST} {c : CH} (h : VK sq s) : VK sq (WA s c).1 := by
 unfold WA
 dsimp only
 split
 ·exact h
 ·exact h.propP _
theorem VK.kind {sq : Int} {s : ST} {c : CH} (hq : 1 ≤ sq) (h : VK sq s) (hc : Gr c) (hf : Zx c = false) (h0 : (Zm s c sq).2 = 0) : VK sq (Zm s c sq).1 := by
 unfold Zm at h0 ⊢
 by_cases k1 : c.kind = 1
 ·rw [if_pos k1] at h0 ⊢; exact h.put hq hc k1 hf h0
 rw [if_neg k1] at h0 ⊢
 by_cases k2 : c.kind = 2
 ·rw [if_pos k2] at h0 ⊢; exact h.remove h0
 rw [if_neg k2] at h0 ⊢
 by_cases k3 : c.kind = 3
 ·rw [if_pos k3] at h0 ⊢; exact h.restore k3 hf h0
 rw [if_neg k3] at h0 ⊢
 by_cases k4 : c.kind = 4
 ·rw [if_pos k4] at h0 ⊢; exact h.move hq hc k4 hf h0
 rw [if_neg k4] at h0 ⊢
 by_cases k5 : c.kind = 5
 ·rw [if_pos k5] at h0 ⊢; exact h.take hq hc k5 hf h0
 rw [if_neg k5] at h0 ⊢
 by_cases k6 : c.kind = 6
 ·rw [if_pos k6] at h0 ⊢; exact h.tick hc k6
 rw [if_neg k6] at h0 ⊢
 by_cases k7 : c.kind = 7 ∨ c.kind = 8
 ·rw [if_pos k7] at h0 ⊢; exact h.watch hc k7
 rw [if_neg k7] at h0 ⊢
 by_cases k9 : c.kind = 9
 ·rw [if_pos k9] at h0 ⊢; exact h.propose hc k9
 rw [if_neg k9] at h0 ⊢
 exact h.shut
theorem VK.lastP {sq : Int} {s : ST} {l : List LU} (h : VK sq s) (hl : (l.length : Int) ≤ 60) (hw : ∀ w ∈ l, Hf sq w = true) (ha : l.Pairwise fun a b => cfL a b < 0) : VK sq { s with lasts := l } where
 c0 := h.c0
 c1 := h.c1
 np := h.np
 ng := h.ng
 pg := h.pg
 asc := h.asc
 gn := h.gn
 rul := h.rul
 nq := h.nq
 q0 := h.q0
 q1 := h.q1
 pp := h.pp
 nw := h.nw
 ws := h.ws
 wa := h.wa
 nl := hl
 ls := hw
 la := ha
theorem VK.noted {sq : Int} {s : ST} {u : Bs} (hq : 1 ≤ sq) (h : VK sq s) (hu : Xg u = true) : VK sq (Q9 s u sq).1 := by
 unfold Q9
 split
 ·exact h
 ·rename_i hne
  have hnm : QV u = true := by
   unfold Xg at hu
   rw [decide_eq_false hne, Bool.false_or] at hu
   exact hu
  have hok : Hf sq ⟨u, sq⟩ = true := by simp [Hf, hnm, hq]
  have hfun : (fun x : LU => U6 x.user u) = fun x => decide (cfL x ⟨u, sq⟩ < 0) := rfl
  dsimp only
  rw [hfun]
  split
  ·rename_i hb
   cases hd : s.lasts.dropWhile fun x => decide (cfL x ⟨u, sq⟩ < 0) with
   | nil => rw [hd] at hb; cases hb
   | cons y t =>
    rw [hd] at hb
    have hy : y.user = u := by simpa using hb
    have hl : s.lasts.takeWhile (fun x => decide (cfL x ⟨u, sq⟩ < 0)) ++ y :: t = s.lasts := by
     rw [← hd]; exact List.takeWhile_append_dropWhile
    generalize s.lasts.takeWhile (fun x => decide (cfL x ⟨u, sq⟩ < 0)) = a at *
    have hln := congrArg List.length hl
    rw [List.length_append, List.length_cons] at hln
    refine h.lastP ?_ (fun w hw => ?_) ?_
    ·have := h.nl
     rw [List.length_append, List.length_cons, List.tail_cons]; omega
    ·rcases List.mem_append.1 hw with hw | hw
     ·exact h.ls w (by rw [← hl]; exact List.mem_append_left _ hw)
     ·rcases List.mem_cons.1 hw with rfl | hw
      ·exact hok
      ·exact h.ls w (by rw [← hl]; exact List.mem_append_right _ (List.mem_cons_of_mem _ hw))
    ·have e1 := List.pairwise_map (f := LU.user) (R := fun a b => Lib.compareBytes a b < 0) (l := a ++ y :: t)
     have e2 := List.pairwise_map (f := LU.user) (R := fun a b => Lib.compareBytes a b < 0) (l := a ++ ⟨u, sq⟩ :: t)
     have e3 : (a ++ ⟨u, sq⟩ :: t).map LU.user = (a ++ y :: t).map LU.user := by simp [hy]
     rw [e3] at e2
     have := h.la
     rw [← hl] at this
     exact e2.1 (e1.2 this)
  ·rename_i hb
   split
   ·exact h
   ·rename_i hn
    change VK sq { s with lasts := Kv (fun x => decide (cfL x ⟨u, sq⟩ < 0)) s.lasts ⟨u, sq⟩ }
    refine h.lastP (by rw [V9]; omega) (fun w hw => ?_) (T6 UX _ _ h.la fun y hy e => ?_)
    ·rcases (WH _ _ _ _).1 hw with rfl | hw
     ·exact hok
     ·exact h.ls w hw
    ·refine hb ?_
     rw [jH UX e h.la hy]
     exact congrArg some ((KJ _ _).1 e)
theorem VK.step {sq : Int} {s : ST} {c : CH} (hq : 1 ≤ sq) (h : VK sq s) (h0 : (X4 s c sq).2 = 0) : VK sq (X4 s c sq).1 := by
 unfold X4 at h0 ⊢
 by_cases h1 : QM c = 0
 ·rw [if_neg (by omega)] at h0 ⊢
  by_cases h2 : (Zm s c sq).2 = 0
  ·rw [if_neg (by omega)] at h0 ⊢
   by_cases h3 : Zx c = true
   ·rw [if_pos h3] at h0; cases h0
   ·rw [if_neg h3] at h0 ⊢
    have hk := h.kind hq (Ru h1) (by simpa using h3) h2
    split
    ·rename_i h4; rw [if_pos h4] at h0; exact absurd h0 h4
    ·exact hk.noted hq (Ru h1).user
  ·rw [if_pos h2] at h0; exact absurd h0 h2
 ·rw [if_pos h1] at h0; exact absurd h0 h1
theorem VK.steps {sq : Int} (hq : 1 ≤ sq) : ∀ {l : List CH} {s : ST}, VK sq s → (Ja sq s l).2 = 0 → VK sq (Ja sq s l).1
 | [], s, h, _ => h
 | c :: l, s, h, h0 => by
  simp only [Ja] at h0 ⊢
  by_cases h1 : (X4 s c sq).2 = 0
  ·rw [if_neg (by omega)] at h0 ⊢
   exact VK.steps hq (h.step hq h1) h0
  ·rw [if_pos h1] at h0; exact absurd h0 h1
theorem J0 {s : ST} {l : List CH} (h0 : (Q0 s l).2 = 0) : Zl (Q0 s l).1 = true ∧ (Q0 s l).1.seq = s.seq + 1 ∧ Zl s = true := by
 unfold Q0 at h0 ⊢
 cases hv : Zl s with
 | false => rw [hv, if_pos rfl] at h0; cases h0
 | true =>
  rw [hv, if_neg (by decide)] at h0
  rw [if_neg (by decide)]
  obtain ⟨v1, v2, vk⟩ := JM.1 hv
  split
  ·rename_i h1; rw [if_pos h1] at h0; cases h0
  ·rename_i h1
   rw [if_neg h1] at h0
   split
   ·rename_i h2; rw [if_pos h2] at h0; exact absurd h0 h2
   ·rename_i h2
    rw [if_neg h2] at h0
    split
    ·rename_i h3; rw [if_pos h3] at h0; cases h0
    ·rename_i h3
     refine ⟨JM.2 ⟨by dsimp only; omega, by dsimp only; omega, ?_⟩, rfl, rfl⟩
     have := VK.steps (sq := s.seq + 1) (by omega) (l := l) (vk.mono (by omega)) (Classical.not_not.1 h2)
     exact { c0 := this.c0, c1 := this.c1, np := this.np, ng := this.ng, pg := this.pg, asc := this.asc, gn := this.gn, rul := this.rul, nq := this.nq, q0 := this.q0, q1 := this.q1, pp := this.pp, nw := this.nw, ws := this.ws, wa := this.wa, nl := this.nl, ls := this.ls, la := this.la }
def HW (sp : Int) (nm : Bs) (p : PGM) : Bool := decide (QH p.sp p.nm sp nm < 0)
def Xn (l : List PGM) (x : PGM) : List PGM := Kv (HW x.sp x.nm) l x
theorem SW {α β : Type} {f : α → β} {p : α → Bool} {q : β → Bool} (h : ∀ x, q (f x) = p x) (l : List α) (x : α) : (Kv p l x).map f = Kv q (l.map f) (f x) := by
 induction l with
 | nil => rfl
 | cons y t ih =>
  rw [List.map_cons, Wr, Wr, h y]
  split
  ·rw [List.map_cons, ih]
  ·rfl
theorem J9 (l : List PGM) (x : PGM) : (Xn l x).map PGM.pl = Kv (je x.sp x.nm) (l.map PGM.pl) x.pl := SW (f := PGM.pl) (p := HW x.sp x.nm) (q := je x.sp x.nm) (fun _ => rfl) l x
theorem xO (l : List PGM) (x : PGM) : (Xn l x).length = l.length + 1 := V9 _ _ _
theorem SU {l : List PGM} {x y : PGM} : y ∈ Xn l x ↔ y = x ∨ y ∈ l := WH _ _ _ _
theorem O2 {α : Type} {lt : α → Bool} : ∀ {l : List α} {x : α} {i : Nat} (_ : i ≤ l.length) (_ : ∀ j, ∀ h : j < l.length, j < i → lt l[j] = true) (_ : ∀ h : i < l.length, lt l[i] = false), Kv lt l x = l.take i ++ x :: l.drop i
 | [], x, i, hi, _, _ => by
  have : i = 0 := by simpa using hi
  subst this; rfl
 | y :: t, x, 0, _, _, hn => by
  have h0 : lt y = false := hn (by simp)
  rw [Wr, h0, if_neg (by decide)]; rfl
 | y :: t, x, i + 1, hi, hp, hn => by
  have h0 : lt y = true := hp 0 (by simp) (by omega)
  rw [Wr, h0, if_pos rfl, O2 (i := i) (by simpa using hi) (fun j hj hji => hp (j + 1) (by simpa using hj) (by omega)) (fun h => hn (by simpa using h))]
  rfl
theorem UD {α : Type} {lt : α → Bool} : ∀ {l : List α} {i : Nat} (_ : i ≤ l.length) (_ : ∀ j, ∀ h : j < l.length, j < i → lt l[j] = true) (_ : ∀ h : i < l.length, lt l[i] = false), l.takeWhile lt = l.take i ∧ l.dropWhile lt = l.drop i
 | [], i, hi, _, _ => by
  have : i = 0 := by simpa using hi
  subst this; exact ⟨rfl, rfl⟩
 | y :: t, 0, _, _, hn => by
  have h0 : lt y = false := hn (by simp)
  rw [List.takeWhile_cons_of_neg (by simp [h0]), List.dropWhile_cons_of_neg (by simp [h0])]; exact ⟨rfl, rfl⟩
 | y :: t, i + 1, hi, hp, hn => by
  have h0 : lt y = true := hp 0 (by simp) (by omega)
  obtain ⟨h1, h2⟩ := UD (lt := lt) (l := t) (i := i) (by simpa using hi) (fun j hj hji => hp (j + 1) (by simpa using hj) (by omega)) (fun h => hn (by simpa using h))
  rw [List.takeWhile_cons_of_pos h0, List.dropWhile_cons_of_pos h0, h1, h2]; exact ⟨rfl, rfl⟩
structure Vs (s : STM) : Prop where
 pages : s.pages.length ≤ 1000
 ph : ∀ p ∈ s.pages, p.hist.length ≤ 1000
 gone : s.gone.length ≤ 1000
 gh : ∀ p ∈ s.gone, p.hist.length ≤ 1000
 props : s.props.length ≤ 1000
 watches : s.watches.length ≤ 1000
 lasts : s.lasts.length ≤ 1000
theorem Vs.big {s : STM} (h : Vs s) : Gp s := ⟨by have := h.pages; show _ ≤ 140737488355328; omega, fun p hp => by have := h.ph p hp; show _ ≤ 140737488355328; omega, by have := h.gone; show _ ≤ 140737488355328; omega, fun p hp => by have := h.gh p hp; show _ ≤ 140737488355328; omega, by have := h.props; show _ ≤ 140737488355328; omega, by have := h.watches; show _ ≤ 140737488355328; omega, by have := h.lasts; show _ ≤ 140737488355328; omega⟩
theorem VK.small {sq : Int} {s : STM} (h : VK sq s.pl) : Vs s := by
 have np := h.np; have ng := h.ng; have nq := h.nq; have nw := h.nw; have nl := h.nl
 change (((s.pages.map PGM.pl).length : Nat) : Int) ≤ _ at np
 change (((s.gone.map PGM.pl).length : Nat) : Int) ≤ _ at ng
 change ((s.props.length : Nat) : Int) ≤ _ at nq
 change ((s.watches.length : Nat) : Int) ≤ _ at nw
 change ((s.lasts.length : Nat) : Int) ≤ _ at nl
 rw [List.length_map] at np ng
 refine ⟨by omega, fun p hp => ?_, by omega, fun p hp => ?_, by omega, by omega, by omega⟩
 ·have h1 := (Xx.1 (Q4.1 (h.pg p.pl (List.mem_map.2 ⟨p, hp, rfl⟩))).2).2.1
  have h2 : ((p.hist.length : Nat) : Int) ≤ 40 := h1
  omega
 ·have h1 := (Xx.1 (Q4.1 (h.gn p.pl (List.mem_map.2 ⟨p, hp, rfl⟩))).2).2.1
  have h2 : ((p.hist.length : Nat) : Int) ≤ 40 := h1
  omega
def Kz (r : ST × Int) (v : V) (L : List Chunk) (D : List Fact) : Prop := ∃ s' : STM, v = .t2 (.agg s'.cells) (.c (.i .i64 r.2)) ∧ L = [] ∧ D = [QG s'] ∧ s'.pl = r.1
def Oy {α : Type} (z : Nat) (F : α → List C) (l : List α) (v : V) (L : List Chunk) (D : List Fact) : Prop := ∃ a c, v = .c (.sl a l.length c) ∧ L = [] ∧ D = [J2 z a l.length c (l.flatMap F)]
theorem yv {m : Im} {e z lo n c : Nat} {a : Option Addr} {α : Type} {F : α → List C} (hz : ∀ g, (F g).length = z) {l : List α} (h : Z8 m e z a l.length (l.flatMap F)) (hl : lo ≤ l.length) (hc : l.length ≤ c) (hn : n = l.length - lo) : Z8 m e z (Z9 a lo c z) n ((l.drop lo).flatMap F) := by
 have h1 := wE (e := e) (m := m) (lo := lo) (hi := l.length) h hl (Nat.le_refl _) hc
 subst hn
 have h2 : ((l.flatMap F).take (l.length * z)).drop (lo * z) = (l.drop lo).flatMap F := by
  rw [List.take_of_length_le (by rw [Q7 hz]; exact Nat.le_refl _)]
  have e1 : (l.flatMap F) = (l.take lo).flatMap F ++ (l.drop lo).flatMap F := by rw [← List.flatMap_append, List.take_append_drop]
  rw [e1, List.drop_append_of_le_length (by rw [Q7 hz, List.length_take, Nat.min_eq_left hl]; exact Nat.le_refl _), List.drop_of_length_le (by rw [Q7 hz, List.length_take, Nat.min_eq_left hl]; exact Nat.le_refl _)]
  rfl
 rw [h2] at h1
 exact h1
theorem LV {m : Im} {e z hi c : Nat} {a : Option Addr} {α : Type} {F : α → List C} (hz : ∀ g, (F g).length = z) {l : List α} (h : Z8 m e z a l.length (l.flatMap F)) (hl : hi ≤ l.length) : Z8 m e z (Z9 a 0 c z) hi ((l.take hi).flatMap F) := by
 have h1 := Wz (e := e) (m := m) (hi := hi) c h hl
 rw [YU hz l hi hl] at h1
 exact h1
theorem UU {m : Im} {e lo n c : Nat} {a : Option Addr} {l : List PGM} (h : Z8 m e 3 a l.length (Qm l)) (hl : lo ≤ l.length) (hc : l.length ≤ c) (hn : n = l.length - lo) : Z8 m e 3 (Z9 a lo c 3) n (Qm (l.drop lo)) := yv (F := PGM.cells) (z := 3) (fun _ => rfl) h hl hc hn
theorem pgmPre {m : Im} {e hi c : Nat} {a : Option Addr} {l : List PGM} (h : Z8 m e 3 a l.length (Qm l)) (hl : hi ≤ l.length) : Z8 m e 3 (Z9 a 0 c 3) hi (Qm (l.take hi)) := LV (F := PGM.cells) (z := 3) (fun _ => rfl) h hl
theorem wm {m : Im} {e lo n c : Nat} {a : Option Addr} {l : List WT} (h : Z8 m e 3 a l.length (ZM l)) (hl : lo ≤ l.length) (hc : l.length ≤ c) (hn : n = l.length - lo) : Z8 m e 3 (Z9 a lo c 3) n (ZM (l.drop lo)) := yv (F := WT.cells) (z := 3) (fun _ => rfl) h hl hc hn
theorem T1 {m : Im} {e lo n c : Nat} {a : Option Addr} {l : List LU} (h : Z8 m e 2 a l.length (ZV l)) (hl : lo ≤ l.length) (hc : l.length ≤ c) (hn : n = l.length - lo) : Z8 m e 2 (Z9 a lo c 2) n (ZV (l.drop lo)) := yv (F := LU.cells) (z := 2) (fun _ => rfl) h hl hc hn
theorem wZ (l : List PGM) (i : Nat) : (Qm (l.drop i)).length = (l.length - i) * 3 := by rw [Zs, List.length_drop]
theorem Si {l : List PGM} {i : Nat} (h : i ≤ l.length) : (Qm (l.take i)).length = i * 3 := by rw [Zs, List.length_take, Nat.min_eq_left h]
theorem z2 (l : List WT) (i : Nat) : (ZM (l.drop i)).length = (l.length - i) * 3 := by rw [WZ, List.length_drop]
theorem U4 (l : List LU) (i : Nat) : (ZV (l.drop i)).length = (l.length - i) * 2 := by rw [qJ, List.length_drop]
def kG {α : Type} (cf : α → Int) (l : List α) : Nat := (l.takeWhile fun x => decide (cf x < 0)).length
def ZJ {α : Type} (cf : α → Int) (l : List α) : Bool := match l[kG cf l]? with | some x => decide (cf x = 0) | none => false
def jh {α : Type} (cf : α → Int) (l : List α) : Prop := l.Pairwise fun a b => cf b ≤ 0 → cf a < 0
theorem kZ {α : Type} (cf : α → Int) (x : α) (r : List α) : kG cf (x :: r) = if cf x < 0 then kG cf r + 1 else 0 := by
 unfold kG
 by_cases h : cf x < 0
 ·rw [List.takeWhile_cons_of_pos (by simpa using h), if_pos h]; rfl
 ·rw [List.takeWhile_cons_of_neg (by simpa using h), if_neg h]; rfl
theorem yk {α : Type} (cf : α → Int) (l : List α) : kG cf l ≤ l.length := (List.takeWhile_sublist _).length_le
theorem UC {α : Type} (cf : α → Int) (l : List α) : l.take (kG cf l) = l.takeWhile fun x => decide (cf x < 0) := by
 have := List.takeWhile_append_dropWhile (p := fun x => decide (cf x < 0)) (l := l)
 unfold kG
 conv => lhs; arg 2; rw [← this]
 rw [List.take_left]
theorem Gh {α : Type} (cf : α → Int) (l : List α) : l.drop (kG cf l) = l.dropWhile fun x => decide (cf x < 0) := by
 have := List.takeWhile_append_dropWhile (p := fun x => decide (cf x < 0)) (l := l)
 unfold kG
 conv => lhs; arg 2; rw [← this]
 rw [List.drop_left]
theorem OY {α : Type} {cf : α → Int} : ∀ {l : List α} {i : Nat} (hi : i < l.length), i < kG cf l → cf l[i] < 0
 | x :: r, i, hi, h => by
  rw [kZ] at h
  split at h
  ·rename_i hx
   cases i with
   | zero => exact hx
   | succ i => exact OY (l := r) (by simpa using hi) (by omega)
  ·omega
theorem OZ {α : Type} {cf : α → Int} : ∀ {l : List α} (_ : jh cf l) {i : Nat} (hi : i < l.length), kG cf l ≤ i → 0 ≤ cf l[i]
 | x :: r, hm, i, hi, h => by
  have hm' := List.pairwise_cons.1 hm
  rw [kZ] at h
  split at h
  ·rename_i hx
   cases i with
   | zero => omega
   | succ i => exact OZ (l := r) hm'.2 (by simpa using hi) (by omega)
  ·rename_i hx
   cases i with
   | zero => exact Int.not_lt.1 hx
   | succ i =>
    have := hm'.1 (r[i]'(by simpa using hi)) (List.getElem_mem _)
    show 0 ≤ cf (r[i]'(by simpa using hi))
    by_cases h0 : cf (r[i]'(by simpa using hi)) ≤ 0
    ·exact absurd (this h0) hx
    ·omega
theorem wb {α : Type} {cf : α → Int} {l : List α} (h : kG cf l < l.length) : ZJ cf l = decide (cf l[kG cf l] = 0) := by
 unfold ZJ
 rw [List.getElem?_eq_getElem h]
theorem xR {α : Type} {cf : α → Int} {l : List α} (h : kG cf l = l.length) : ZJ cf l = false := by
 unfold ZJ
 rw [h, List.getElem?_eq_none (Nat.le_refl _)]
theorem Yf {α : Type} {cf : α → Int} {l : List α} (h : ZJ cf l = true) : kG cf l < l.length := by
 have h1 := yk cf l
 by_cases e : kG cf l = l.length
 ·rw [xR e] at h; cases h
 ·omega
theorem Nj {α : Type} {cf : α → Int} {l : List α} (h : ZJ cf l = true) : cf (l[kG cf l]'(Yf h)) = 0 := by
 have := wb (Yf h)
 rw [h] at this
 exact of_decide_eq_true this.symm
theorem O3 {α : Type} {cf : α → Int} {p : α → Bool} (hz : ∀ x, cf x = 0 ↔ p x = true) : ∀ {l : List α} (_ : jh cf l), Q2 p l = if ZJ cf l = true then (kG cf l : Int) else -1
 | [], _ => by simp [Q2, ZJ]
 | x :: r, hm => by
  have hm' := List.pairwise_cons.1 hm
  have ih := O3 hz (l := r) hm'.2
  by_cases hx : cf x < 0
  ·have hk : kG cf (x :: r) = kG cf r + 1 := by rw [kZ, if_pos hx]
   have hh : ZJ cf (x :: r) = ZJ cf r := by unfold ZJ; rw [hk]; rfl
   have hp : ¬ p x = true := fun h => by have := (hz x).2 h; omega
   rw [Q2, if_neg hp, ih, hk, hh]
   split
   ·rw [if_neg (by omega)]; omega
   ·rw [if_pos (by omega)]
  ·have hk : kG cf (x :: r) = 0 := by rw [kZ, if_neg hx]
   have hh : ZJ cf (x :: r) = decide (cf x = 0) := by unfold ZJ; rw [hk]; rfl
   by_cases h0 : cf x = 0
   ·rw [Q2, if_pos ((hz x).1 h0), hk, hh, decide_eq_true h0, if_pos rfl]; rfl
   ·have hp : ¬ p x = true := fun h => h0 ((hz x).2 h)
    have hn : Q2 p r = -1 := by
     rcases JV p r with ⟨h1, _⟩ | ⟨i, h1, h2, h3⟩
     ·exact h1
     ·exact absurd (hm'.1 r[i] (List.getElem_mem _) (by have := (hz r[i]).2 h3; omega)) hx
    rw [Q2, if_neg hp, hn, hh, decide_eq_false h0, if_pos (by omega), if_neg (by decide)]
theorem vr.mono {α : Type} {cf : α → α → Int} (h : vr cf) (t : α) {l : List α} (hl : l.Pairwise fun a b => cf a b < 0) : jh (fun x => cf x t) l := hl.imp fun {a b} hab hbt => by
 have h1 := h.trans b t a
 have h2 := h.swap a b
 have h3 := h.swap a t
 dsimp only at hbt ⊢
 omega
def QE (sp : Int) (nm : Bs) (p : PGM) : Int := QH p.sp p.nm sp nm
theorem OR {l : List PGM} (h : (l.map PGM.pl).Pairwise fun a b => cfP a b < 0) (sp : Int) (nm : Bs) : jh (QE sp nm) l := by
 have := L3.mono ⟨sp, nm, []⟩ h
 exact List.pairwise_map.1 this
theorem Rv (sp : Int) (nm : Bs) (p : PGM) : QE sp nm p = 0 ↔ X7 sp nm p = true := by
 unfold QE
 rw [Je]
 simp [X7, YX, PGM.pl]
theorem jx {l : List PGM} (h : (l.map PGM.pl).Pairwise fun a b => cfP a b < 0) (sp : Int) (nm : Bs) : Q2 (X7 sp nm) l = if ZJ (QE sp nm) l = true then (kG (QE sp nm) l : Int) else -1 := O3 (Rv sp nm) (OR h sp nm)
theorem O1 (l : List PGM) (x : PGM) : Xn l x = l.take (kG (QE x.sp x.nm) l) ++ x :: l.drop (kG (QE x.sp x.nm) l) := by
 rw [UC, Gh]; rfl
theorem L5 {l : List WT} (h : l.Pairwise fun a b => cfW a b < 0) (w : WT) : jh (fun x => cfW x w) l := w9.mono w h
theorem OA (l : List WT) (w : WT) : (l.takeWhile fun x => kP x w) = l.take (kG (fun x => cfW x w) l) := by rw [UC, U5]
theorem Uq (l : List WT) (w : WT) : (l.dropWhile fun x => kP x w) = l.drop (kG (fun x => cfW x w) l) := by rw [Gh, U5]
theorem wk (l : List WT) (w : WT) : ((l.dropWhile fun x => kP x w).head? = some w) ↔ ZJ (fun x => cfW x w) l = true := by
 rw [Uq, List.head?_drop]
 unfold ZJ
 cases h : l[kG (fun x => cfW x w) l]? with
 | none => simp
 | some x =>
  dsimp only
  rw [decide_eq_true_eq, Option.some.injEq]
  exact ⟨fun e => by rw [e]; exact HN w, wt_eq⟩
def Xd (u : Bs) (x : LU) : Int := Lib.compareBytes x.user u
theorem L6 {l : List LU} (h : l.Pairwise fun a b => cfL a b < 0) (u : Bs) : jh (Xd u) l := UX.mono ⟨u, 0⟩ h
theorem OS (l : List LU) (u : Bs) : (l.takeWhile fun x => U6 x.user u) = l.take (kG (Xd u) l) := by rw [UC]; rfl
theorem U3 (l : List LU) (u : Bs) : (l.dropWhile fun x => U6 x.user u) = l.drop (kG (Xd u) l) := by rw [Gh]; rfl
theorem TZ (l : List LU) (u : Bs) : ((l.dropWhile fun x => U6 x.user u).head?.map (·.user)) = some u ↔ ZJ (Xd u) l = true := by
  rw [U3, List.head?_drop]
  unfold ZJ
  cases h : l[kG (Xd u) l]? with
  | none => simp
  | some x =>
    dsimp only
    rw [decide_eq_true_eq, Option.map_some, Option.some.injEq]
    exact (KJ _ _).symm
abbrev gM : Fact := ZX 1
abbrev XH : Fact := Qf 0 2 (some ⟨0, 0, none⟩) 1 [.i .i64 5, .s policyNm]
def Vb (s : ST) : Bool := decide ((s.pages.length : Int) ≤ 200) && decide ((s.gone.length : Int) ≤ 100) && s.pages.all (XK s.clk s.seq) && qS ltP s.pages && s.gone.all (XK s.clk s.seq)
def TL (s : STM) (i : Nat) : Prop := XK s.clk s.seq (s.pages.getD i default).pl = true ∧ (0 < i → QH (s.pages.getD (i - 1) default).sp (s.pages.getD (i - 1) default).nm (s.pages.getD i default).sp (s.pages.getD i default).nm < 0)
def TK (s : STM) (i : Nat) : Prop := XK s.clk s.seq (s.gone.getD i default).pl = true
theorem w6 (s : STM) : Vb s.pl = true ↔ s.pages.length ≤ 200 ∧ s.gone.length ≤ 100 ∧ (∀ i, i < s.pages.length → TL s i) ∧ (∀ i, i < s.gone.length → TK s i) := by
 have e1 : s.pl.pages = s.pages.map PGM.pl := rfl
 have e2 : s.pl.gone = s.gone.map PGM.pl := rfl
 simp only [Vb, Bool.and_eq_true, decide_eq_true_eq, Gn, jf, e1, e2, List.length_map, and_assoc]
 constructor
 ·rintro ⟨a, b, c, d, f⟩
  refine ⟨by omega, by omega, fun i hi => ?_, fun i hi => ?_⟩
  ·have h1 := c i hi
   rw [ZT hi] at h1
   refine ⟨h1, fun h0 => ?_⟩
   have h2 := d i hi h0
   rw [ZT hi, ZT (by omega)] at h2
   exact of_decide_eq_true h2
  ·have h1 := f i hi
   rw [ZT hi] at h1
   exact h1
 ·rintro ⟨a, b, c, d⟩
  refine ⟨by omega, by omega, fun i hi => ?_, fun i hi h0 => ?_, fun i hi => ?_⟩
  ·rw [ZT hi]
   exact (c i hi).1
  ·rw [ZT hi, ZT (by omega)]
   exact decide_eq_true ((c i hi).2 h0)
  ·rw [ZT hi]
   exact d i hi
theorem Sp (s : ST) : Va s = (Vb s && Ko s) := rfl
theorem Nb (a b : WT) : kP a b = true ↔ cfW a b < 0 := by rw [T0, decide_eq_true_eq]
end Go.X
namespace Go.Proofs
open Go Go.X Tryz
set_option maxRecDepth 100000
set_option maxHeartbeats 4000000
theorem Vd (s : Bs) : FnS prog 97 [.c (.s s)] [] [] (Is (.c (.b (QV s)))) := by
 by_cases hs : s.length ≤ 30
 ·exact Y8 s (by omega)
 ·have h0 : QV s = false := by
   unfold QV
   rw [show decide (30 < (s.length : Int)) = true from decide_eq_true (by omega)]
   simp
  rw [h0]
  refine FJ 0 func97 ntmps97 (fun G => ?_)
  repeat' first | refine Wk ?_ | refine Qa.mk (fun h => ?_) (fun h => ?_) | refine Qd.mk (fun ad => ?_) | refine Qe.is rfl
theorem YI (sp : Int) (s : Bs) : FnS prog 96 [.agg [.i .i64 sp, .s s]] [] [gM] (Is (.c (.b (Qw sp s)))) := by
 by_cases h : s.length ≤ 1000000
 ·exact xe sp s h
 ·have hv : Qw sp s = false := by
   unfold Qw
   rw [show decide (100 < (s.length : Int)) = true from decide_eq_true (by omega)]
   simp
  rw [hv]
  refine FJ 2000 func96 ntmps96 (fun G => ?_)
  repeat' first | refine Wk ?_ | refine Qa.mk (fun h => ?_) (fun h => ?_) | refine Qd.mk (fun ad => ?_) | refine Qe.bool ?_
  all_goals rfl
theorem G8 (s : Bs) : FnS prog 95 [.c (.s s)] [] [] (Is (.c (.b (Xg s)))) := by
 have c1 := Vd s
 have hu : Xg s = (decide (s = []) || QV s) := rfl
 refine FJ 0 func95 ntmps95 (fun G => ?_)
 repeat' first | refine Wk ?_ | refine Qa.mk (fun h => ?_) (fun h => ?_) | refine Qd.mk (fun ad => ?_) | refine Qc.isB c1 (fun h1 => ?_) (fun h1 => ?_) | refine Qe.bool ?_
 all_goals (rw [hu]; simp [*])
theorem HQ (s : Bs) : FnS prog 206 [.c (.s s)] [] [] (Is (.c (.b (Xg s)))) := by
 have c1 := Vd s
 have hu : Xg s = (decide (s = []) || QV s) := rfl
 refine FJ 0 func206 ntmps206 (fun G => ?_)
 repeat' first | refine Wk ?_ | refine Qa.mk (fun h => ?_) (fun h => ?_) | refine Qd.mk (fun ad => ?_) | refine Qc.isB c1 (fun h1 => ?_) (fun h1 => ?_) | refine Qe.bool ?_
 all_goals (rw [hu]; simp [*])
theorem HK (p : PGM) (sp : Int) (nm : Bs) : FnS prog 249 [.agg p.cells, .agg [.i .i64 sp, .s nm]] [] [] (Is (.c (.i .i64 (QE sp nm p)))) := by
 have cc := compare_ok p.sp p.nm sp nm
 unfold QE
 refine FJ 0 func249 ntmps249 (fun G => ?_)
 repeat' first | refine Wk ?_ | refine Qa.mk (fun h => ?_) (fun h => ?_) | refine Qd.mk (fun ad => ?_) | fail | refine Qc.is cc ?_ | refine Qx.mk [] _ cc QX ?_ | refine Qe.is rfl
theorem zm (x y : WT) : FnS prog 98 [.agg x.cells, .agg y.cells] [] [] (Is (.c (.i .i64 (cfW x y)))) := by
 have cc := compare_ok x.sp x.nm y.sp y.nm
 have cs := Xh x.user y.user
 have h1 : Lib.compareBytes x.user y.user ≠ 0 → cfW x y = Lib.compareBytes x.user y.user := fun h => if_pos h
 have h2 : ¬ Lib.compareBytes x.user y.user ≠ 0 → cfW x y = QH x.sp x.nm y.sp y.nm := fun h => if_neg h
 generalize cfW x y = W at *
 generalize Lib.compareBytes x.user y.user = k at *
 refine FJ 0 func98 ntmps98 (fun G => ?_)
 repeat' first | refine Wk ?_ | refine Qa.mk (fun h => ?_) (fun h => ?_) | refine Qd.mk (fun ad => ?_) | fail | refine Qc.is cs ?_ | refine Qc.is cc ?_ | refine Qx.mk [] _ cs QX ?_ | refine Qx.mk [] _ cc QX ?_ | refine Qe.int (h1 (by omega)) | refine Qe.int (h2 (by omega))
theorem HL (x : LU) (u : Bs) : FnS prog 175 [.agg x.cells, .c (.s u)] [] [] (Is (.c (.i .i64 (Xd u x)))) := by
 have cs := Xh x.user u
 unfold Xd
 refine FJ 0 func175 ntmps175 (fun G => ?_)
 repeat' first | refine Wk ?_ | refine Qa.mk (fun h => ?_) (fun h => ?_) | refine Qd.mk (fun ad => ?_) | fail | refine Qc.is cs ?_ | refine Qx.mk [] _ cs QX ?_ | refine Qe.is rfl
theorem vD (p : PGM) (s : STM) (hl : p.hist.length ≤ big) : FnS prog 94 [.agg p.cells, .agg s.cells] [] [Qf 0 6 p.ha p.hist.length (Zb p.hist), gM] (Is (.c (.b (XK s.clk s.seq p.pl)))) := by
 have hl := ZQ hl
 have hrd : ∀ L, Qp L [Qf 0 6 p.ha p.hist.length (Zb p.hist), gM] 0 6 p.ha p.hist.length (Zb p.hist) := fun L => .inr fun m h => h.1
 have cv := YI p.sp p.nm
 have hW : XK s.clk s.seq p.pl = true ↔ Qw p.sp p.nm = true ∧ 1 ≤ (p.hist.length : Int) ∧ (p.hist.length : Int) ≤ 40 ∧ ZK s.clk s.seq 0 0 1 p.hist = true := by rw [Q4, Xx]; rfl
 generalize XK s.clk s.seq p.pl = W at *
 cases hv : Qw p.sp p.nm with
 | false =>
  have hf : W = false := ZL hW (fun h => by rw [hv] at h; cases h.1)
  rw [hv] at cv
  refine FJ 0 func94 ntmps94 (fun G => ?_)
  repeat' first | refine Wk ?_ | refine Qa.mk (fun h => ?_) (fun h => ?_) | refine Qd.mk (fun ad => ?_) | refine Qc.is cv ?_ | refine Qe.bool hf
 | true =>
  rw [hv] at cv
  refine FJ 0 func94 ntmps94 (fun G => ?_)
  repeat' first | refine Wk ?_ | refine Qa.mk (fun h => ?_) (fun h => ?_) | refine Qd.mk (fun ad => ?_) | refine Qc.is cv ?_ | refine Qe.bool (ZL hW fun h => ?_)
  ·omega
  ·omega
  rename_i ad0 _ _
  refine Qn (α := Nat × Int × Int) (fun x => [(3, .c (.p 1 ad 0)), (5, .c (.i .i64 x.2.1)), (6, .c (.i .i64 x.2.2)), (26, .c (.sl p.ha p.hist.length p.hc)), (27, .c (.i .i64 p.hist.length)), (28, .c (.i .i64 x.1))]) (fun _ => [.box 1 ad 27 s.cells]) (fun _ => [Qf 0 6 p.ha p.hist.length (Zb p.hist), gM]) 2
   (fun x => x.1 ≤ p.hist.length ∧ ZK s.clk s.seq 0 0 1 p.hist = ZK s.clk s.seq x.1 x.2.1 x.2.2 (p.hist.drop x.1)) (fun x => p.hist.length - x.1) (Qq.mk (0, 0, 1) ⟨Nat.zero_le _, rfl⟩ Qh.a Qb.a) (fun x hx => ?_)
  obtain ⟨i, mi, se⟩ := x
  dsimp only at hx ⊢
  obtain ⟨hi, he⟩ := hx
  by_cases hlt : i < p.hist.length
  ·have hg := Yo hlt
   rw [Ua hlt] at he
   generalize p.hist[i] = x at *
   have cu := G8 x.user
   by_cases hq : GN s.clk s.seq i mi se x = true
   ·obtain ⟨q1, q2, q3, q4, q5, q6, q7, q8⟩ := Xs.1 hq
    rw [hq, Bool.true_and] at he
    rw [q4] at cu
    clear hq
    repeat' first | refine Wk ?_ | refine Qa.mk (fun h => ?_) (fun h => ?_) | refine Qd.mk (fun ad => ?_) | refine Ds (id := 11) [0,1,0,4,3,31] [0,1,2,3,4,5] [] [8] true ?_ | refine Qt.mk Qb.a ?_ | refine Qr.a 0 6 _ (hrd _) ?_ | refine Qi.a 0 _ _ _ (hrd _) (by exact hg) ?_ | refine Qc.is cu ?_ | refine Qo.mk (i + 1, x.min, x.seq) (by dsimp only; omega) ⟨by dsimp only; omega, he⟩ Qh.a Qb.a
   ·have hq0 : GN s.clk s.seq i mi se x = false := by simpa using hq
    rw [hq0, Bool.false_and] at he
    have hf : W = false := ZL hW (fun h => by rw [he] at h; exact absurd h.2.2.2 (by decide))
    repeat' first | refine Wk ?_ | refine Qa.mk (fun h => ?_) (fun h => ?_) | refine Qd.mk (fun ad => ?_) | refine Ds (id := 11) [0,1,0,4,3,31] [0,1,2,3,4,5] [] [8] true ?_ | refine Qt.mk Qb.a ?_ | refine Qr.a 0 6 _ (hrd _) ?_ | refine Qi.a 0 _ _ _ (hrd _) (by exact hg) ?_ | refine Qc.isB cu (fun hu => ?_) (fun hu => ?_) | refine Qe.bool hf | exact absurd (Xs.2 ⟨by omega, by omega, by omega, by assumption, by omega, by omega, by omega, by omega⟩) hq
  ·have hil : i = p.hist.length := by omega
   subst hil
   rw [List.drop_length] at he
   have hWt : W = true := hW.2 ⟨hv, by omega, by omega, he⟩
   repeat' first | refine Wk ?_ | refine Qa.mk (fun h => ?_) (fun h => ?_) | refine Qd.mk (fun ad => ?_) | refine Qe.bool hWt
theorem pgs_ok (s : STM) (hs : Gp s) : FnS prog 58 [.agg s.cells] [] [QG s, gM] (Is (.c (.b (Vb s.pl)))) := by
 have hl1 := ZQ hs.pages
 have hl2 := ZQ hs.gone
 have hrd : ∀ L, Qp L [QG s, gM] 0 3 s.pa s.pages.length (Qm s.pages) := fun L => .inr fun m h => h.1.pages.row
 have hrg : ∀ L, Qp L [QG s, gM] 0 3 s.ga s.gone.length (Qm s.gone) := fun L => .inr fun m h => h.1.gone.row
 have hW := w6 s
 generalize Vb s.pl = W at *
 refine FJ 0 func58 ntmps58 (fun G => ?_)
 repeat' first | refine Wk ?_ | refine Qa.mk (fun h => ?_) (fun h => ?_) | refine Qd.mk (fun ad => ?_) | refine Qe.bool (ZL hW fun h => ?_)
 ·omega
 ·omega
 refine Qn (α := Nat) (fun i => [(1, .c (.p 0 ad 0)), (18, .c (.sl s.pa s.pages.length s.pc)), (19, .c (.i .i64 s.pages.length)), (20, .c (.i .i64 i))]) (fun _ => [.box 0 ad 27 s.cells]) (fun _ => [QG s, gM]) 1
  (fun i => i ≤ s.pages.length ∧ ∀ j, j < i → TL s j) (fun i => s.pages.length - i) (Qq.mk 0 ⟨Nat.zero_le _, fun j h => absurd h (Nat.not_lt_zero j)⟩ Qh.a (Qb.refl _ _)) (fun i hx => ?_)
 obtain ⟨hi, hn⟩ := hx
 by_cases hlt : i < s.pages.length
 ·have hg := Z5 hlt
  have hA : TL s i ↔ TL s i := Iff.rfl
  conv at hA => rhs; rw [TL, Z6 hlt]
  have hmem := List.getElem_mem hlt
  have hnext : TL s i → ∀ j, j < i + 1 → TL s j := fun h j hj => by
   by_cases e : j = i
   ·subst e; exact h
   ·exact hn j (by omega)
  have ch := vD s.pages[i] s (hs.ph _ hmem)
  have cc := compare_ok (s.pages.getD (i - 1) default).sp (s.pages.getD (i - 1) default).nm s.pages[i].sp s.pages[i].nm
  have hg1 : 0 < i → ((Qm s.pages).drop (((i : Int) - 1).toNat * 3 + 0)).take 2 = [.i .i64 (s.pages.getD (i - 1) default).sp, .s (s.pages.getD (i - 1) default).nm] := fun h0 => by
   rw [show ((i : Int) - 1).toNat = i - 1 by omega, Z6 (show i - 1 < s.pages.length by omega)]; exact XT (by omega)
  generalize s.pages[i] = p at *
  generalize s.pages.getD (i - 1) default = q at *
  generalize QH q.sp q.nm p.sp p.nm = k at *
  cases hh : XK s.clk s.seq p.pl
  all_goals
   rw [hh] at ch hA
   repeat' first | refine Wk ?_ | refine Qa.mk (fun h => ?_) (fun h => ?_) | refine Qd.mk (fun ad => ?_) | refine Ds (id := 6) [0,0,3,7,15,31,63,127,255,511,255,1279,4095,8191,16383,255,33023,131071,262143,524287,1048575] [0,1,2,3,4,5,6,7,8,9,10,11,12,13,14,15,16,17,18,19,20] [] [1,4,37] true ?_ | refine Qt.mk Qb.a ?_ | refine Qr.a 0 3 _ (hrd _) ?_ | refine Zv.mk 0 3 _ _ (hrd _) (by omega) ?_ | refine Qi.a 0 _ _ p.cells (hrd _) (by exact hg) ?_ | refine Qi.a 0 _ _ [.i .i64 q.sp, .s q.nm] (hrd _) (by exact hg1 (by omega)) ?_ | refine Qx.mk [_, _] _ ch (fun _ h => ⟨h.1.pages.his p hmem, h.2.1, trivial⟩) ?_ | refine Qx.mk [] _ cc QX ?_ | refine Qe.bool (ZL hW fun h => ?_) | refine Qo.mk (i + 1) (by omega) ⟨by omega, hnext (hA.2 ⟨rfl, fun _ => by omega⟩)⟩ Qh.a Qb.a
  all_goals
   have hB := hA.1 (h.2.2.1 i hlt)
   first
    | (cases hB.1; done)
    | (have := hB.2 (by omega); omega)
 ·have hil : i = s.pages.length := by omega
  subst hil
  clear hi hlt
  repeat' first | refine Wk ?_ | refine Qa.mk (fun h => ?_) (fun h => ?_) | refine Qd.mk (fun ad => ?_)
  refine Qn (α := Nat) (fun i => [(1, .c (.p 0 ad 0)), (48, .c (.sl s.ga s.gone.length s.gc)), (49, .c (.i .i64 s.gone.length)), (50, .c (.i .i64 i))]) (fun _ => [.box 0 ad 27 s.cells]) (fun _ => [QG s, gM]) 1
   (fun i => i ≤ s.gone.length ∧ ∀ j, j < i → TK s j) (fun i => s.gone.length - i) (Qq.mk 0 ⟨Nat.zero_le _, fun j h => absurd h (Nat.not_lt_zero j)⟩ Qh.a Qb.a) (fun i hx => ?_)
  obtain ⟨hi, hn2⟩ := hx
  by_cases hlt : i < s.gone.length
  ·have hg := Z5 hlt
   have hA : TK s i ↔ TK s i := Iff.rfl
   conv at hA => rhs; rw [TK, Z6 hlt]
   have hmem := List.getElem_mem hlt
   have hnext : TK s i → ∀ j, j < i + 1 → TK s j := fun h j hj => by
    by_cases e : j = i
    ·subst e; exact h
    ·exact hn2 j (by omega)
   have ch := vD s.gone[i] s (hs.gh _ hmem)
   generalize s.gone[i] = p at *
   cases hh : XK s.clk s.seq p.pl
   all_goals
    rw [hh] at ch hA
    repeat' first | refine Wk ?_ | refine Qa.mk (fun h => ?_) (fun h => ?_) | refine Qd.mk (fun ad => ?_) | refine Ds (id := 6) [0,0,3,7,15,31,63,127,255,511,255,1279,4095,8191,16383,255,33023,131071,262143,524287,1048575] [0,1,2,3,4,5,6,7,8,9,10,11,12,13,14,15,16,17,18,19,20] [] [1,4,37] true ?_ | refine Qt.mk Qb.a ?_ | refine Qr.a 0 3 _ (hrg _) ?_ | refine Qi.a 0 _ _ p.cells (hrg _) (by exact hg) ?_ | refine Qc.is ch ?_ (fun _ h => ⟨h.1.gone.his p hmem, h.2.1, trivial⟩) | refine Qe.bool (ZL hW fun h => ?_) | refine Qo.mk (i + 1) (by omega) ⟨by omega, hnext (hA.2 rfl)⟩ Qh.a Qb.a
   all_goals
    have hB := hA.1 (h.2.2.2 i hlt)
    cases hB
  ·have hil : i = s.gone.length := by omega
   subst hil
   have hWt : W = true := hW.2 ⟨by omega, by omega, hn, hn2⟩
   repeat' first | refine Wk ?_ | refine Qa.mk (fun h => ?_) (fun h => ?_) | refine Qd.mk (fun ad => ?_) | refine Qe.bool hWt
theorem LS (s : STM) (hs : Gp s) : FnS prog 59 [.agg s.cells] [] [QG s, gM] (Is (.c (.b (Kq s.pl)))) := by
 have hl := ZQ hs.props
 have hrd : ∀ L, Qp L [QG s, gM] 0 8 s.qa s.props.length (XI s.props) := fun L => .inr fun m h => h.1.props
 have hW := wT s.pl
 change _ ↔ s.props.length ≤ 40 ∧ 0 ≤ s.proposed ∧ s.proposed ≤ 1073741824 ∧ KR s.clk s.proposed 0 s.props = true at hW
 generalize Kq s.pl = W at *
 refine FJ 0 func59 ntmps59 (fun G => ?_)
 repeat' first | refine Wk ?_ | refine Qa.mk (fun h => ?_) (fun h => ?_) | refine Qd.mk (fun ad => ?_) | refine Qe.bool (ZL hW fun h => ?_)
 ·omega
 ·omega
 ·omega
 refine Qn (α := Nat × Int) (fun x => [(1, .c (.p 0 ad 0)), (3, .c (.i .i64 x.2)), (21, .c (.sl s.qa s.props.length s.qc)), (22, .c (.i .i64 s.props.length)), (23, .c (.i .i64 x.1))]) (fun _ => [.box 0 ad 27 s.cells]) (fun _ => [QG s, gM]) 1
  (fun x => x.1 ≤ s.props.length ∧ KR s.clk s.proposed 0 s.props = KR s.clk s.proposed x.2 (s.props.drop x.1)) (fun x => s.props.length - x.1) (Qq.mk (0, 0) ⟨Nat.zero_le _, rfl⟩ Qh.a (Qb.refl _ _)) (fun x hx => ?_)
 obtain ⟨i, la⟩ := x
 dsimp only at hx ⊢
 obtain ⟨hi, he⟩ := hx
 by_cases hlt : i < s.props.length
 ·have hg := zG hlt
  rw [ON hlt] at he
  generalize s.props[i] = x at *
  have cu := G8 x.user
  have cv := YI x.sp x.nm
  by_cases hq : vd s.clk s.proposed la x = true
  ·obtain ⟨q1, q2, q3, q4, q5, q6, q7, q8, q9, q10⟩ := Xu.1 hq
   rw [hq, Bool.true_and] at he
   rw [q3] at cu
   rw [q4] at cv
   clear hq
   repeat' first | refine Wk ?_ | refine Qa.mk (fun h => ?_) (fun h => ?_) | refine Qd.mk (fun ad => ?_) | fail | refine Qr.a 0 8 _ (hrd _) ?_ | refine Qi.a 0 _ _ x.cells (hrd _) (by exact hg) ?_ | refine Qc.is cu ?_ | refine Qc.is cv ?_ | refine Qo.mk (i + 1, x.id) (by dsimp only; omega) ⟨by dsimp only; omega, he⟩ Qh.a Qb.a
  ·have hq0 : vd s.clk s.proposed la x = false := by simpa using hq
   rw [hq0, Bool.false_and] at he
   have hWf : W = false := ZL hW fun h => by rw [he] at h; exact absurd h.2.2.2 (by simp)
   repeat' first | refine Wk ?_ | refine Qa.mk (fun h => ?_) (fun h => ?_) | refine Qd.mk (fun ad => ?_) | fail | refine Qr.a 0 8 _ (hrd _) ?_ | refine Qi.a 0 _ _ x.cells (hrd _) (by exact hg) ?_ | refine Qc.isB cu (fun hu => ?_) (fun hu => ?_) | refine Qc.isB cv (fun hv => ?_) (fun hv => ?_) | refine Qe.bool hWf | exact absurd (Xu.2 ⟨by omega, by omega, by assumption, by assumption, by omega, by omega, by omega, by omega, by omega, by omega⟩) hq
 ·have hil : i = s.props.length := by omega
  subst hil
  rw [List.drop_length] at he
  have hWt : W = true := hW.2 ⟨by omega, by omega, by omega, he⟩
  repeat' first | refine Wk ?_ | refine Qa.mk (fun h => ?_) (fun h => ?_) | refine Qd.mk (fun ad => ?_) | refine Qe.bool hWt
end Go.Proofs
