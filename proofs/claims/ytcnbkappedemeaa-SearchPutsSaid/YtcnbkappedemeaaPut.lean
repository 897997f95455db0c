/- This text walks through the function Put of the package search. This text holds the plain law of ordered lists: rows added one by one to an ordered list are the rows sorted, without equal ones. -/
import Derived.Test.YtcnbkappedemeaaCpt
set_option linter.all false

namespace Go.X
open Go Go.Lib Go.Proofs

theorem cmpWR_eq (x y : WR) (h : cmpWR x y = 0) : x = y := by
  unfold cmpWR at h
  split at h
  · rename_i h1; exact absurd h h1
  · rename_i h1
    split at h
    · rename_i h2; exact absurd h h2
    · rename_i h2
      have e1 := (cmpB_eq _ _).1 (Classical.not_not.1 h1)
      have e2 := (compareT_eq _ _ _ _).1 (Classical.not_not.1 h2)
      have e3 : x.n = y.n := by 
        unfold Lib.compareInt at h
        split at h
        · omega
        · split at h
          · omega
          · omega
      obtain ⟨a, b, c, d⟩ := x
      obtain ⟨a', b', c', d'⟩ := y
      dsimp only at e1 e2 e3
      obtain ⟨e4, e5⟩ := e2
      subst e1 e4 e5 e3
      rfl
def leW (x y : WR) : Bool := decide (cmpWR x y ≤ 0)
/-- The rows in order, without duplicates. -/
def ordW (l : List WR) : List WR := cmpt (l.mergeSort leW)
theorem leW_total (x y : WR) : (leW x y || leW y x) = true := by
  have := cmp_WR.swap x y
  simp only [leW, Bool.or_eq_true, decide_eq_true_eq]
  omega
theorem leW_trans (x y z : WR) (h1 : leW x y = true) (h2 : leW y z = true) : leW x z = true := by
  simp only [leW, decide_eq_true_eq] at *
  exact cmp_WR.trans x y z h1 h2
theorem sorted_is {l l' : List WR} (hp : l'.Perm l) (hs : l'.Pairwise fun x y => ltOf cmpWR y x = false) : l' = l.mergeSort leW := by
  refine ordL_eq cmp_WR cmpWR_eq (ordL_of cmp_WR hs) ?_ (hp.trans (List.mergeSort_perm l leW).symm)
  refine (List.pairwise_mergeSort leW_trans leW_total l).imp fun {x y} h => ?_
  simpa [leW] using h
theorem cmptGo_len : ∀ (r : List WR) (p : WR), (cmptGo p r).length ≤ r.length
  | [], _ => Nat.le_refl _
  | y :: r, p => by
    simp only [cmptGo]
    split
    · have := cmptGo_len r p; simp; omega
    · have := cmptGo_len r y; simp; omega
theorem cmpt_len (l : List WR) : (cmpt l).length ≤ l.length := by
  cases l with
  | nil => exact Nat.le_refl _
  | cons x r => have := cmptGo_len r x; simp [cmpt]; omega
theorem ordW_len (l : List WR) : (ordW l).length ≤ l.length := by
  have := cmpt_len (l.mergeSort leW)
  rwa [List.length_mergeSort] at this

end Go.X

namespace Go.Proofs
open Go Go.X
set_option maxRecDepth 100000
set_option maxHeartbeats 4000000

theorem ordered_ok (a : Option Addr) (c : Nat) (l : List WR) (hl : l.length ≤ 100000) :
    FnS Try.prog 27 [.c (.sl a l.length c)] [.row 39 4 a l.length c (wrC l)] []
      (fun v L D => v = .c (.sl a (ordW l).length c) ∧ L = [.row 39 4 a (ordW l).length c (wrC (ordW l))] ∧ D = []) := by
  have cs := sortRows_ok a c l (by omega)
  have cc := cptW_ok a c (l.mergeSort leW) (by rw [List.length_mergeSort]; exact hl)
  rw [List.length_mergeSort] at cc
  refine fn_of_J Try.tyOK 0 Try.func27 (by kernel_rfl) (c := Try.f27.body.getD .skip) (by kernel_rfl) Try.ntmps27 (rs := Try.f27.results.toList) rfl (by simp) (fun G => ?_)
  repeat' first
    | refine J_seq ?_ | refine J_region Try.tyOK ?_ | refine J_block ?_ | refine J_cond ?_ | refine J_ret ?_ | refine J_skip ?_ | refine J_exit ?_ | refine J_scope ?_
    | refine CondP.yes (by omega) ?_ | refine CondP.no (by omega) ?_ | refine CondP.mk (fun h => ?_) (fun h => ?_) | refine EqP.mk rfl ?_ | refine NewP.mk (fun ad => ?_) | refine ArP.exact (by simp only [inR]; omega) ?_ | refine SideP.mk (by first | omega | (dsimp only; omega) | (simp; omega)) ?_
    | refine CallP.mk [_] [] [] _ cs (List.Perm.refl _) (fun _ _ => trivial) (fun v L' D' hq => ?_); obtain ⟨l', hp, hs, rfl, rfl, rfl⟩ := hq; rw [sorted_is hp hs] | refine CallP.mk [_] [] [] _ cc (List.Perm.refl _) (fun _ _ => trivial) (fun v L' D' hq => ?_); obtain ⟨rfl, rfl, rfl⟩ := hq | refine FinE.mk [_] [] ⟨rfl, rfl, rfl⟩ (Ents.refl _ _)
    | fail

theorem put_ok (e e' : Nat) (a b : Option Addr) (c d : Nat) (l r : List WR) (sp : Int) (nm : List UInt8) (hl : l.length ≤ 1000) (hr : r.length ≤ 1000) :
    FnS Try.prog 14 [.c (.sl a l.length c), .agg [.i .i64 sp, .s nm], .c (.sl b r.length d)] [] [slFact e 4 a l.length (wrC l), slFact e' 4 b r.length (wrC r)]
      (fun v L D => ∃ a' c', v = .c (.sl a' (ordW ((l.filter fun x => !decide (x.sp = sp ∧ x.nm = nm)) ++ r)).length c') ∧ L = [.row 39 4 a' (ordW ((l.filter fun x => !decide (x.sp = sp ∧ x.nm = nm)) ++ r)).length c' (wrC (ordW ((l.filter fun x => !decide (x.sp = sp ∧ x.nm = nm)) ++ r)))] ∧ D = []) := by
  have c1 := cloneW_ok e a c l (by omega)
  have c2 := fun a c ad => delFn_ok a c l 26 0 ad 0 [.box 0 ad 33 [.i .i64 sp, .s nm]] (fun x => decide (x.sp = sp ∧ x.nm = nm)) (by omega) (fun g _ => putFn_ok g ad sp nm)
  have hfl : (l.filter fun x => !decide (x.sp = sp ∧ x.nm = nm)).length ≤ l.length := List.length_filter_le _ _
  generalize l.filter (fun x => !decide (x.sp = sp ∧ x.nm = nm)) = f at *
  have c3 := fun a c => ordered_ok a c (f ++ r) (by rw [List.length_append]; omega)
  refine fn_of_J Try.tyOK 0 Try.func14 (by kernel_rfl) (c := Try.f14.body.getD .skip) (by kernel_rfl) Try.ntmps14 (rs := Try.f14.results.toList) rfl (by simp) (fun G => ?_)
  repeat' first
    | refine J_seq ?_ | refine J_region Try.tyOK ?_ | refine J_block ?_ | refine J_cond ?_ | refine J_ret ?_ | refine J_skip ?_ | refine J_exit ?_ | refine J_scope ?_
    | refine CondP.yes (by omega) ?_ | refine CondP.no (by omega) ?_ | refine CondP.mk (fun h => ?_) (fun h => ?_) | refine EqP.mk rfl ?_ | refine NewP.mk (fun ad => ?_) | refine ArP.exact (by simp only [inR]; omega) ?_ | refine SideP.mk (by first | omega | (dsimp only; omega) | (simp; omega)) ?_
    | refine CallP.mk [] [_] [_] _ c1 (List.Perm.refl _) (fun _ h => ⟨h.1, trivial⟩) (fun v L' D' hq => ?_); obtain ⟨a1, k1, rfl, rfl, rfl⟩ := hq | refine CallP.mk [_, _] [] [] _ (c2 _ _ _) (List.Perm.refl _) (fun _ _ => trivial) (fun v L' D' hq => ?_); obtain ⟨rfl, rfl, rfl⟩ := hq | refine AppE.row [] _ (wrC f) (wrC r) r.length rfl (SrcE.sl e' 39 _ b _ d _ rfl rfl (.inr fun m h => h.2.1) (wrC_len r)) (by dsimp only; omega) (fun a' c' => ?_); rw [← List.length_append, show wrC f ++ wrC r = wrC (f ++ r) by simp [wrC]] | refine CallP.mk [_] [_] [] _ (c3 _ _) (List.Perm.refl _) (fun _ _ => trivial) (fun v L' D' hq => ?_); obtain ⟨rfl, rfl, rfl⟩ := hq | refine FinE.mk [_] [] ⟨_, _, rfl, rfl, rfl⟩ ((Ents.sub ⟨[_], List.Perm.swap _ _ _⟩).trans (Ents.facts fun _ _ => trivial))
    | fail

end Go.Proofs

namespace Go.X
open Go Go.Lib Go.Proofs

/-- A list in strict order. -/
def StrL {α : Type} (cf : α → α → Int) (l : List α) : Prop := l.Pairwise fun x y => cf x y < 0
theorem strL_eq {α : Type} {cf : α → α → Int} (h : Cmp cf) : ∀ {l l' : List α}, StrL cf l → StrL cf l' → (∀ x, x ∈ l ↔ x ∈ l') → l = l'
  | [], [], _, _, _ => rfl
  | [], y :: s, _, _, hm => by have := (hm y).2 (List.mem_cons_self ..); cases this
  | x :: r, [], _, _, hm => by have := (hm x).1 (List.mem_cons_self ..); cases this
  | x :: r, y :: s, h1, h2, hm => by
    have h1' := List.pairwise_cons.1 h1
    have h2' := List.pairwise_cons.1 h2
    have hxy : x = y := by
      rcases List.mem_cons.1 ((hm x).1 (List.mem_cons_self ..)) with a | a
      · exact a
      rcases List.mem_cons.1 ((hm y).2 (List.mem_cons_self ..)) with b | b
      · exact b.symm
      have c1 := h2'.1 x a
      have c2 := h1'.1 y b
      have := h.swap x y
      omega
    subst hxy
    rw [strL_eq h h1'.2 h2'.2 (fun z => ⟨fun hz => ?_, fun hz => ?_⟩)]
    · rcases List.mem_cons.1 ((hm z).1 (List.mem_cons_of_mem _ hz)) with e | e
      · subst e; have := h1'.1 z hz; have := h.refl z; omega
      · exact e
    · rcases List.mem_cons.1 ((hm z).2 (List.mem_cons_of_mem _ hz)) with e | e
      · subst e; have := h2'.1 z hz; have := h.refl z; omega
      · exact e
theorem Cmp.lt_trans {α : Type} {cf : α → α → Int} (h : Cmp cf) {x y z : α} (h1 : cf x y < 0) (h2 : cf y z ≤ 0) : cf x z < 0 := by
  have a1 := h.swap x z; have a2 := h.swap y z; have a3 := h.swap x y
  have t1 := h.trans x y z (by omega) (by omega)
  have t2 := h.trans y z x
  omega

/-- A row put into a list in order. -/
def addW : List WR → WR → List WR
  | [], r => [r]
  | x :: t, r => if cmpWR x r < 0 then x :: addW t r else if x = r then x :: t else r :: x :: t
theorem addW_len (l : List WR) (r : WR) : (addW l r).length ≤ l.length + 1 := by
  induction l with
  | nil => exact Nat.le_refl _
  | cons x t ih =>
    simp only [addW]
    split
    · simp; omega
    · split <;> simp
theorem addW_mem (l : List WR) (r z : WR) : z ∈ addW l r ↔ z ∈ l ∨ z = r := by
  induction l with
  | nil => simp [addW]
  | cons x t ih =>
    simp only [addW]
    split
    · simp [ih, or_assoc]
    · split
      · rename_i h; subst h; simp
        intro h; exact .inl h
      · simp [or_comm, or_assoc, or_left_comm]
theorem addW_str (l : List WR) (r : WR) (hl : StrL cmpWR l) : StrL cmpWR (addW l r) := by
  induction l with
  | nil => exact List.pairwise_cons.2 ⟨fun _ h => (by cases h), List.Pairwise.nil⟩
  | cons x t ih =>
    have hl' := List.pairwise_cons.1 hl
    simp only [addW]
    split
    · rename_i h
      refine List.pairwise_cons.2 ⟨fun z hz => ?_, ih hl'.2⟩
      rcases (addW_mem t r z).1 hz with hz | hz
      · exact hl'.1 z hz
      · rw [hz]; exact h
    · rename_i h
      split
      · exact hl
      · rename_i hne
        have hs := cmp_WR.swap x r
        have hrx : cmpWR r x < 0 := by
          have : cmpWR r x ≠ 0 := fun e => hne (cmpWR_eq r x e).symm
          omega
        refine List.pairwise_cons.2 ⟨fun z hz => ?_, hl⟩
        rcases List.mem_cons.1 hz with hz | hz
        · rw [hz]; exact hrx
        · exact cmp_WR.lt_trans hrx (by have := hl'.1 z hz; omega)
theorem foldAdd (l : List WR) : ∀ m : List WR, StrL cmpWR m → StrL cmpWR (l.foldl addW m) ∧ ∀ z, z ∈ l.foldl addW m ↔ z ∈ m ∨ z ∈ l := by
  induction l with
  | nil => intro m hm; exact ⟨hm, fun z => by simp⟩
  | cons x t ih =>
    intro m hm
    obtain ⟨h1, h2⟩ := ih (addW m x) (addW_str m x hm)
    refine ⟨h1, fun z => ?_⟩
    rw [List.foldl_cons, h2, addW_mem, List.mem_cons, or_assoc]
theorem cmptGo_str : ∀ (r : List WR) (p : WR), (p :: r).Pairwise (fun x y => cmpWR x y ≤ 0) → StrL cmpWR (p :: cmptGo p r) ∧ ∀ z, z ∈ p :: cmptGo p r ↔ z ∈ p :: r
  | [], p, _ => ⟨List.pairwise_cons.2 ⟨fun _ h => (by cases h), List.Pairwise.nil⟩, fun z => Iff.rfl⟩
  | y :: r, p, h => by
    have h' := List.pairwise_cons.1 h
    simp only [cmptGo]
    split
    · rename_i e
      subst e
      obtain ⟨a, b⟩ := cmptGo_str r y h'.2
      refine ⟨a, fun z => ?_⟩
      rw [b]; simp
    · rename_i e
      obtain ⟨a, b⟩ := cmptGo_str r y h'.2
      have hpy : cmpWR p y < 0 := by
        have := h'.1 y (List.mem_cons_self ..)
        have : cmpWR p y ≠ 0 := fun e' => e (cmpWR_eq p y e').symm
        omega
      refine ⟨List.pairwise_cons.2 ⟨fun z hz => ?_, a⟩, fun z => ?_⟩
      · rcases List.mem_cons.1 hz with hz | hz
        · rw [hz]; exact hpy
        · exact cmp_WR.lt_trans hpy (by have := (List.pairwise_cons.1 a).1 z hz; omega)
      · rw [List.mem_cons, b]; exact List.mem_cons.symm
theorem ordW_str (l : List WR) : StrL cmpWR (ordW l) ∧ ∀ z, z ∈ ordW l ↔ z ∈ l := by
  have hs : (l.mergeSort leW).Pairwise fun x y => cmpWR x y ≤ 0 := (List.pairwise_mergeSort leW_trans leW_total l).imp fun {x y} h => by simpa [leW] using h
  have hm : ∀ z, z ∈ l.mergeSort leW ↔ z ∈ l := fun z => (List.mergeSort_perm l leW).mem_iff
  unfold ordW
  generalize l.mergeSort leW = s at *
  cases s with
  | nil => exact ⟨List.Pairwise.nil, fun z => by rw [← hm]; exact Iff.rfl⟩
  | cons x r =>
    obtain ⟨a, b⟩ := cmptGo_str r x hs
    exact ⟨a, fun z => by rw [← hm]; exact b z⟩
theorem foldAdd_is (l : List WR) : l.foldl addW [] = ordW l := by
  obtain ⟨a, b⟩ := foldAdd l [] List.Pairwise.nil
  obtain ⟨c, d⟩ := ordW_str l
  exact strL_eq cmp_WR a c fun z => by rw [b, d]; simp
theorem ordW_perm {l m : List WR} (h : l.Perm m) : ordW l = ordW m := by
  obtain ⟨a, b⟩ := ordW_str l
  obtain ⟨c, d⟩ := ordW_str m
  exact strL_eq cmp_WR a c fun z => by rw [b, d]; exact h.mem_iff
theorem ordW_of_str {l : List WR} (h : StrL cmpWR l) : ordW l = l := by
  obtain ⟨a, b⟩ := ordW_str l
  exact strL_eq cmp_WR a h b

end Go.X
