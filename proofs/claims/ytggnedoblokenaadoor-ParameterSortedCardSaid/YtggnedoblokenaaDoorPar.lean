/- This text holds what the functions on parameters compute, as plain functions, and plain facts on them. -/
import Derived.Test.YtggnedoblokenaaDoorLibc
import Derived.Sort.KeysCollected
import Derived.Sort.Walk0
import Derived.Lib.ItoaMem
set_option linter.all false

namespace Go.X
open Go Go.Lib

abbrev Bt := List UInt8
/-- A parameter: its name and its text. -/
abbrev KT := List UInt8 × List UInt8

def wsB (b : UInt8) : Bool := b == 9 || b == 10 || b == 13 || b == 32
def rdrop (l : Bt) : Bt := (l.reverse.dropWhile wsB).reverse
def trimT (s : Bt) : Bt := rdrop (s.dropWhile wsB)

theorem rdrop_cons (x : UInt8) (r : Bt) : rdrop (x :: r) = if rdrop r = [] then (if wsB x = true then [] else [x]) else x :: rdrop r := by
  unfold rdrop
  rw [List.reverse_cons, List.dropWhile_append]
  cases h : (r.reverse.dropWhile wsB) with
  | nil =>
    cases hx : wsB x <;> simp [List.dropWhile, hx]
  | cons y s => simp

theorem drop_rdrop : ∀ l : Bt, (rdrop l).dropWhile wsB = rdrop (l.dropWhile wsB)
  | [] => rfl
  | x :: r => by
    have ih := drop_rdrop r
    have e1 : ∀ s : Bt, (x :: s).dropWhile wsB = if wsB x = true then s.dropWhile wsB else x :: s := fun s => List.dropWhile_cons
    have e2 := rdrop_cons x r
    rw [e1]
    cases hx : wsB x with
    | true =>
      rw [hx, if_pos rfl] at e2
      rw [if_pos rfl, e2, ← ih]
      by_cases h : rdrop r = []
      · rw [if_pos h, h]
      · rw [if_neg h, e1, hx, if_pos rfl]
    | false =>
      have hf : ¬ (false = true) := by simp
      rw [hx, if_neg hf] at e2
      rw [if_neg hf, e2]
      by_cases h : rdrop r = []
      · rw [if_pos h, e1, hx, if_neg hf]
      · rw [if_neg h, e1, hx, if_neg hf]

theorem ws_contains (b : UInt8) : ([9, 10, 13, 32] : Bt).contains b = wsB b := by
  simp only [List.contains, List.elem, wsB]
  cases h1 : b == 9 <;> cases h2 : b == 10 <;> cases h3 : b == 13 <;> cases h4 : b == 32 <;> rfl

theorem trimS_ws (s : Bt) : trimS s [9, 10, 13, 32] = trimT s := by
  unfold trimS trimLeftS trimRightS trimT
  rw [show (fun x => ([9, 10, 13, 32] : Bt).contains x) = wsB from funext ws_contains]
  exact drop_rdrop s

theorem rdrop_rdrop (l : Bt) : rdrop (rdrop l) = rdrop l := by
  unfold rdrop
  rw [List.reverse_reverse]
  congr 1
  induction l.reverse with
  | nil => rfl
  | cons x r ih =>
    rw [List.dropWhile_cons]
    split
    · exact ih
    · rename_i h; rw [List.dropWhile_cons, if_neg h]
theorem dropWhile_idem (l : Bt) : (l.dropWhile wsB).dropWhile wsB = l.dropWhile wsB := by
  induction l with
  | nil => rfl
  | cons x r ih =>
    rw [List.dropWhile_cons]
    split
    · exact ih
    · rename_i h; rw [List.dropWhile_cons, if_neg h]
theorem trimT_trimT (s : Bt) : trimT (trimT s) = trimT s := by
  unfold trimT
  rw [drop_rdrop, rdrop_rdrop, dropWhile_idem]

theorem rdrop_none : ∀ {l : Bt}, (∀ b ∈ l, wsB b = false) → rdrop l = l
  | [], _ => rfl
  | x :: r, h => by
    rw [rdrop_cons, rdrop_none (fun b hb => h b (List.mem_cons_of_mem _ hb)), h x (List.mem_cons_self ..)]
    split
    · rename_i h; rw [h]; rfl
    · rfl
theorem trimT_none {l : Bt} (h : ∀ b ∈ l, wsB b = false) : trimT l = l := by
  unfold trimT
  have : l.dropWhile wsB = l := by
    cases l with
    | nil => rfl
    | cons x r => rw [List.dropWhile_cons, h x (List.mem_cons_self ..)]; simp
  rw [this, rdrop_none h]
theorem trimT_in {l : Bt} (h : ∀ b ∈ l, wsB b = false) : trimT (32 :: l ++ [10]) = l := by
  unfold trimT
  rw [List.cons_append, List.dropWhile_cons, if_pos (by rfl), ← drop_rdrop]
  have e : rdrop (l ++ [10]) = l := by
    unfold rdrop
    rw [List.reverse_append, List.reverse_cons, List.reverse_nil, List.nil_append, List.singleton_append, List.dropWhile_cons, if_pos (by rfl)]
    exact rdrop_none h
  rw [e]
  cases l with
  | nil => rfl
  | cons x r => rw [List.dropWhile_cons, h x (List.mem_cons_self ..)]; simp
theorem trimT_len (s : Bt) : (trimT s).length ≤ s.length := by
  unfold trimT rdrop
  have h1 := (List.dropWhile_sublist wsB (l := (s.dropWhile wsB).reverse)).length_le
  have h2 := (List.dropWhile_sublist wsB (l := s)).length_le
  simp only [List.length_reverse] at h1 ⊢
  omega

/-! ### Numerals -/

theorem dec_digit : ∀ (u : Nat), ∀ b ∈ decDigits u, 48 ≤ b.toNat ∧ b.toNat ≤ 57 := by
  intro u
  induction u using Nat.strongRecOn with
  | ind u ih =>
    intro b hb
    rw [decDigits] at hb
    have key : ∀ k, k < 10 → 48 ≤ (UInt8.ofNat (48 + k)).toNat ∧ (UInt8.ofNat (48 + k)).toNat ≤ 57 := fun k hk => by
      rw [UInt8.toNat_ofNat', Nat.mod_eq_of_lt (by omega)]; omega
    split at hb
    · rw [List.mem_singleton] at hb; subst hb; exact key _ (by omega)
    · rcases List.mem_append.1 hb with hb | hb
      · exact ih _ (by omega) b hb
      · rw [List.mem_singleton] at hb; subst hb; exact key _ (by omega)
theorem dec_ws (u : Nat) : ∀ b ∈ decDigits u, wsB b = false := by
  intro b hb
  have h := dec_digit u b hb
  have hne : ∀ c : UInt8, c.toNat < 48 → (b == c) = false := fun c hc => beq_eq_false_iff_ne.2 fun e => by rw [e] at h; omega
  unfold wsB
  rw [hne 9 (by decide), hne 10 (by decide), hne 13 (by decide), hne 32 (by decide)]
  rfl
def valD (l : Bt) : Nat := l.foldl (fun a b => a * 10 + (b.toNat - 48)) 0
theorem dec_val : ∀ u : Nat, valD (decDigits u) = u := by
  intro u
  induction u using Nat.strongRecOn with
  | ind u ih =>
    have key : ∀ k, k < 10 → (UInt8.ofNat (48 + k)).toNat = 48 + k := fun k hk => by
      rw [UInt8.toNat_ofNat', Nat.mod_eq_of_lt (by omega)]
    rw [decDigits]
    split
    · simp only [valD, List.foldl_cons, List.foldl_nil]; rw [key _ (by omega)]; omega
    · have := ih (u / 10) (by omega)
      unfold valD at this ⊢
      rw [List.foldl_append, this]
      simp only [List.foldl_cons, List.foldl_nil]
      rw [key _ (by omega)]
      omega
theorem dec_inj {u v : Nat} (h : decDigits u = decDigits v) : u = v := by rw [← dec_val u, h, dec_val]

/-! ### Lists of parameters -/

def getA : List KT → Bt → Option Bt
  | [], _ => none
  | x :: r, k => if x.1 = k then some x.2 else getA r k
def setT : List KT → Bt → Bt → List KT
  | [], k, t => [(k, t)]
  | x :: r, k, t => if x.1 = k then (x.1, t) :: r else x :: setT r k t
def putA : List KT → Bool → Bt → Bt → List KT
  | [], true, _, _ => []
  | [], false, n, t => [(n, t)]
  | x :: r, true, n, t => if x.1 = n then putA r true n t else x :: putA r true n t
  | x :: r, false, n, t => if x.1 < n then x :: putA r false n t else if x.1 = n then (n, t) :: putA r true n t else (n, t) :: x :: putA r true n t
def keysT (l : List KT) : List Bt := l.map (·.1)
def sortT (l : List KT) : List KT := ((keysT l).mergeSort leB).map fun k => (k, (getA l k).getD [])
def SortedA (l : List KT) : Prop := (keysT l).Pairwise (· < ·)

theorem getA_none {l : List KT} {k : Bt} : getA l k = none ↔ k ∉ keysT l := by
  induction l with
  | nil => simp [getA, keysT]
  | cons x r ih =>
    unfold getA
    simp only [keysT, List.map_cons, List.mem_cons, not_or] at ih ⊢
    split
    · rename_i h; simp [h]
    · rename_i h; rw [ih]; exact ⟨fun h' => ⟨fun e => h e.symm, h'⟩, fun h' => h'.2⟩

theorem getA_ext : ∀ {l l' : List KT}, SortedA l → SortedA l' → (∀ k, getA l k = getA l' k) → l = l'
  | [], [], _, _, _ => rfl
  | [], y :: s, _, _, h => by have := h y.1; simp [getA] at this
  | x :: r, [], _, _, h => by have := h x.1; simp [getA] at this
  | x :: r, y :: s, h1, h2, h => by
    have h1' := List.pairwise_cons.1 h1
    have h2' := List.pairwise_cons.1 h2
    have hxy : x.1 = y.1 := by
      have ha : x.1 ∈ keysT (y :: s) := Classical.byContradiction fun hc => by
        have := h x.1
        rw [getA_none.2 hc] at this
        simp [getA] at this
      have hb : y.1 ∈ keysT (x :: r) := Classical.byContradiction fun hc => by
        have := h y.1
        rw [getA_none.2 hc] at this
        simp [getA] at this
      rcases List.mem_cons.1 ha with ha | ha
      · exact ha
      rcases List.mem_cons.1 hb with hb | hb
      · exact hb.symm
      · exact absurd (List.lt_trans (h2'.1 _ ha) (h1'.1 _ hb)) (List.lt_irrefl _)
    have h3 : x.2 = y.2 := by
      have := h x.1
      simpa [getA, hxy] using this
    have h4 : r = s := getA_ext h1'.2 h2'.2 fun k => by
      by_cases hk : k = x.1
      · subst hk
        rw [getA_none.2 (fun hc => List.lt_irrefl _ (h1'.1 _ hc)), getA_none.2 (fun hc => List.lt_irrefl x.1 (by rw [hxy] at hc ⊢; exact h2'.1 _ hc))]
      · have := h k
        simpa [getA, show ¬ x.1 = k from fun e => hk e.symm, show ¬ y.1 = k from fun e => hk (hxy.trans e).symm] using this
    rw [h4, Prod.ext hxy h3]

theorem getA_setT : ∀ (l : List KT) (k t j : Bt), getA (setT l k t) j = if j = k then some t else getA l j
  | [], k, t, j => by
    simp only [setT, getA]
    by_cases h : j = k
    · rw [if_pos h.symm, if_pos h]
    · rw [if_neg (fun e => h e.symm), if_neg h]
  | x :: r, k, t, j => by
    have ih := getA_setT r k t j
    simp only [setT]
    by_cases hx : x.1 = k
    · rw [if_pos hx]
      simp only [getA]
      by_cases h : j = k
      · rw [if_pos (hx.trans h.symm), if_pos h]
      · rw [if_neg (fun e => h (e.symm.trans hx)), if_neg h, if_neg (fun e => h (e.symm.trans hx))]
    · rw [if_neg hx]
      simp only [getA, ih]
      by_cases h : j = k
      · subst h; rw [if_neg hx, if_pos rfl, if_pos rfl]
      · rw [if_neg h, if_neg h]

theorem getA_putT : ∀ (l : List KT) (k t j : Bt), getA (putA l true k t) j = if j = k then none else getA l j
  | [], k, t, j => by simp [putA, getA]
  | x :: r, k, t, j => by
    have ih := getA_putT r k t j
    simp only [putA]
    by_cases hx : x.1 = k
    · rw [if_pos hx, ih]
      simp only [getA]
      by_cases h : j = k
      · rw [if_pos h, if_pos h]
      · rw [if_neg h, if_neg h, if_neg (fun e => h (e.symm.trans hx))]
    · rw [if_neg hx]
      simp only [getA, ih]
      by_cases h : j = k
      · subst h; rw [if_neg hx, if_pos rfl, if_pos rfl]
      · rw [if_neg h, if_neg h]

theorem getA_putA : ∀ (l : List KT) (k t j : Bt), getA (putA l false k t) j = if j = k then some t else getA l j
  | [], k, t, j => by
    simp only [putA, getA]
    by_cases h : j = k
    · rw [if_pos h.symm, if_pos h]
    · rw [if_neg (fun e => h e.symm), if_neg h]
  | x :: r, k, t, j => by
    have ih := getA_putA r k t j
    simp only [putA]
    split
    · rename_i hx
      have hne : ¬ x.1 = k := fun e => by rw [e] at hx; exact List.lt_irrefl _ hx
      simp only [getA, ih]
      by_cases h : j = k
      · subst h; rw [if_neg hne, if_pos rfl, if_pos rfl]
      · rw [if_neg h, if_neg h]
    · split
      · rename_i hx
        simp only [getA, getA_putT]
        by_cases h : j = k
        · rw [if_pos h.symm, if_pos h]
        · rw [if_neg (fun e => h e.symm), if_neg h, if_neg h, if_neg (fun e => h (e.symm.trans hx))]
      · simp only [getA, getA_putT]
        by_cases h : j = k
        · rw [if_pos h.symm, if_pos h]
        · rw [if_neg (fun e => h e.symm), if_neg h, if_neg h]

theorem keys_putT (l : List KT) (k t : Bt) : (putA l true k t).Sublist l := by
  induction l with
  | nil => exact .slnil
  | cons x r ih =>
    simp only [putA]
    split
    · exact ih.cons _
    · exact ih.cons_cons _
theorem keys_putA {l : List KT} {k t j : Bt} (h : j ∈ keysT (putA l false k t)) : j = k ∨ j ∈ keysT l := by
  by_cases hj : j = k
  · exact .inl hj
  · refine .inr (Classical.byContradiction fun hc => ?_)
    have := getA_putA l k t j
    rw [if_neg hj, getA_none.2 hc] at this
    exact getA_none.1 this h

theorem sorted_putA : ∀ {l : List KT} (k t : Bt), SortedA l → SortedA (putA l false k t)
  | [], k, t, _ => by simp [putA, SortedA, keysT]
  | x :: r, k, t, h => by
    have h' := List.pairwise_cons.1 h
    have hr : SortedA r := h'.2
    have hT : SortedA (putA r true k t) := hr.sublist ((keys_putT r k t).map _)
    simp only [putA]
    split
    · rename_i hx
      refine List.pairwise_cons.2 ⟨fun j hj => ?_, sorted_putA k t hr⟩
      rcases keys_putA hj with rfl | hj
      · exact hx
      · exact h'.1 _ hj
    · rename_i hx
      split
      · rename_i he
        refine List.pairwise_cons.2 ⟨fun j hj => ?_, hT⟩
        have := h'.1 j (((keys_putT r k t).map _).subset hj)
        exact he ▸ this
      · rename_i hne
        have hlt : k < x.1 := by
          rcases List.le_iff_lt_or_eq.1 (List.not_lt.1 hx) with h | h
          · exact h
          · exact absurd h.symm hne
        refine List.pairwise_cons.2 ⟨fun j hj => ?_, List.pairwise_cons.2 ⟨fun j hj => h'.1 j (((keys_putT r k t).map _).subset hj), hT⟩⟩
        rcases List.mem_cons.1 hj with rfl | hj
        · exact hlt
        · exact List.lt_trans hlt (h'.1 j (((keys_putT r k t).map _).subset hj))

theorem len_putA (l : List KT) (k t : Bt) : (putA l false k t).length ≤ l.length + 1 := by
  induction l with
  | nil => simp [putA]
  | cons x r ih =>
    have hT := (keys_putT r k t).length_le
    simp only [putA]
    split
    · simp; exact ih
    · split <;> simp <;> omega

theorem keysT_cons (x : KT) (r : List KT) : keysT (x :: r) = x.1 :: keysT r := rfl
theorem keys_setT (l : List KT) (k t : Bt) : keysT (setT l k t) = if k ∈ keysT l then keysT l else keysT l ++ [k] := by
  induction l with
  | nil => simp [setT, keysT]
  | cons x r ih =>
    simp only [setT]
    by_cases hx : x.1 = k
    · rw [if_pos hx, if_pos (by rw [keysT_cons, hx]; exact List.mem_cons_self ..)]; rfl
    · rw [if_neg hx, keysT_cons, keysT_cons, ih]
      by_cases hm : k ∈ keysT r
      · rw [if_pos hm, if_pos (List.mem_cons_of_mem _ hm)]
      · rw [if_neg hm, if_neg (fun h => by rcases List.mem_cons.1 h with h | h; exact hx h.symm; exact hm h)]; rfl
theorem nodup_setT {l : List KT} (k t : Bt) (h : (keysT l).Nodup) : (keysT (setT l k t)).Nodup := by
  rw [keys_setT]
  split
  · exact h
  · rename_i hk
    refine List.nodup_append.2 ⟨h, by simp, fun a ha b hb => ?_⟩
    rw [List.mem_singleton] at hb
    subst hb
    exact fun e => hk (e ▸ ha)

theorem getA_map (f : Bt → Bt) (k : Bt) : ∀ l : List Bt, getA (l.map fun j => (j, f j)) k = if k ∈ l then some (f k) else none
  | [] => rfl
  | x :: r => by
    simp only [List.map_cons, getA, getA_map f k r, List.mem_cons]
    by_cases h : x = k
    · rw [if_pos h, if_pos (.inl h.symm), h]
    · rw [if_neg h]
      by_cases hm : k ∈ r
      · rw [if_pos hm, if_pos (.inr hm)]
      · rw [if_neg hm, if_neg (by rintro (e | e); exact h e.symm; exact hm e)]

theorem getA_sortT (l : List KT) (k : Bt) : getA (sortT l) k = getA l k := by
  unfold sortT
  rw [getA_map]
  by_cases h : k ∈ keysT l
  · rw [if_pos (List.mem_mergeSort.2 h)]
    cases hg : getA l k with
    | none => exact absurd h (getA_none.1 hg)
    | some t => rfl
  · rw [if_neg (fun hc => h (List.mem_mergeSort.1 hc)), getA_none.2 h]

theorem keys_sortT (l : List KT) : keysT (sortT l) = (keysT l).mergeSort leB := by
  unfold sortT
  rw [show keysT (((keysT l).mergeSort leB).map fun k => (k, (getA l k).getD [])) = ((keysT l).mergeSort leB).map id from by unfold keysT; rw [List.map_map]; rfl]
  simp

theorem sorted_sortT {l : List KT} (h : (keysT l).Nodup) : SortedA (sortT l) := by
  unfold SortedA
  rw [keys_sortT]
  have tr : ∀ a b c : Bt, leB a b = true → leB b c = true → leB a c = true := fun a b c h1 h2 => by simp only [leB, decide_eq_true_eq] at *; exact List.le_trans h1 h2
  have to : ∀ a b : Bt, (leB a b || leB b a) = true := fun a b => by simp only [leB, Bool.or_eq_true, decide_eq_true_eq]; exact List.le_total a b
  have hp := List.pairwise_mergeSort tr to (keysT l)
  have hn : ((keysT l).mergeSort leB).Nodup := (List.mergeSort_perm _ _).nodup_iff.2 h
  refine (hp.and hn).imp fun {a b} hab => ?_
  obtain ⟨h1, h2⟩ := hab
  simp only [leB, decide_eq_true_eq] at h1
  rcases List.le_iff_lt_or_eq.1 h1 with h | h
  · exact h
  · exact absurd h h2

/-! ### What arguments bind -/

abbrev Vl := Bool × Bt × Bt
def putsT : List Vl → Nat → List KT
  | [], _ => []
  | v :: r, n => if v.1 = true then (trimT v.2.1, trimT v.2.2) :: putsT r n else (decDigits (n + 1), v.2.2) :: putsT r (n + 1)
def allR (ps : List KT) (out : List KT) : List KT := ps.foldl (fun o p => putA o false p.1 p.2) out
def allK (ps : List KT) (out : List KT) : List KT := ps.foldl (fun o p => setT o p.1 p.2) out
/-- The parameters that arguments give. -/
def bindT (l : List Vl) : List KT := allR (putsT l 0) []

theorem all_law : ∀ (ps : List KT) (a b : List KT), (keysT a).Nodup → SortedA b → (∀ k, getA a k = getA b k) →
    (keysT (allK ps a)).Nodup ∧ SortedA (allR ps b) ∧ ∀ k, getA (allK ps a) k = getA (allR ps b) k
  | [], _, _, h1, h2, h3 => ⟨h1, h2, h3⟩
  | p :: ps, a, b, h1, h2, h3 => all_law ps _ _ (nodup_setT _ _ h1) (sorted_putA _ _ h2) fun k => by rw [getA_setT, getA_putA, h3]

theorem bind_law (l : List Vl) : sortT (allK (putsT l 0) []) = bindT l := by
  obtain ⟨h1, h2, h3⟩ := all_law (putsT l 0) [] [] List.nodup_nil List.Pairwise.nil fun _ => rfl
  exact getA_ext (sorted_sortT h1) h2 fun k => by rw [getA_sortT]; exact h3 k

theorem bind_sorted (l : List Vl) : SortedA (bindT l) := (all_law (putsT l 0) [] [] List.nodup_nil List.Pairwise.nil fun _ => rfl).2.1

theorem puts_len : ∀ (l : List Vl) (n : Nat), (putsT l n).length = l.length
  | [], _ => rfl
  | v :: r, n => by
    simp only [putsT]
    split <;> simp [puts_len r]
theorem allR_len : ∀ (ps out : List KT), (allR ps out).length ≤ out.length + ps.length
  | [], _ => Nat.le_refl _
  | p :: ps, out => by
    have h1 := allR_len ps (putA out false p.1 p.2)
    have h2 := len_putA out p.1 p.2
    simp only [allR, List.foldl_cons, List.length_cons] at h1 ⊢
    omega
theorem bind_len (l : List Vl) : (bindT l).length ≤ l.length := by
  have := allR_len (putsT l 0) []
  rw [puts_len] at this
  simpa [bindT] using this

theorem allR_keys : ∀ (ps out : List KT), ∀ k ∈ keysT (allR ps out), k ∈ keysT out ∨ k ∈ keysT ps
  | [], _, k, hk => .inl hk
  | p :: ps, out, k, hk => by
    rcases allR_keys ps _ k hk with h | h
    · rcases keys_putA h with rfl | h
      · exact .inr (by simp [keysT])
      · exact .inl h
    · exact .inr (by simp only [keysT, List.map_cons, List.mem_cons] at h ⊢; exact .inr h)
theorem puts_trim : ∀ (l : List Vl) (n : Nat), ∀ k ∈ keysT (putsT l n), trimT k = k
  | [], _, k, hk => by simp [putsT, keysT] at hk
  | v :: r, n, k, hk => by
    simp only [putsT] at hk
    split at hk
    · rcases List.mem_cons.1 hk with h | h
      · rw [h]; exact trimT_trimT _
      · exact puts_trim r _ k h
    · rcases List.mem_cons.1 hk with h | h
      · rw [h]; exact trimT_none (dec_ws _)
      · exact puts_trim r _ k h
theorem bind_trim (l : List Vl) : ∀ k ∈ keysT (bindT l), trimT k = k := fun k hk => by
  rcases allR_keys _ _ k hk with h | h
  · simp [keysT] at h
  · exact puts_trim l 0 k h

theorem puts_append : ∀ (l : List Vl) (n : Nat) (nm tx : Bt), putsT (l ++ [(true, nm, tx)]) n = putsT l n ++ [(trimT nm, trimT tx)]
  | [], n, nm, tx => by simp [putsT]
  | v :: r, n, nm, tx => by
    simp only [List.cons_append, putsT]
    split <;> simp [puts_append r]
theorem bind_last (l : List Vl) (nm tx : Bt) : bindT (l ++ [(true, nm, tx)]) = putA (bindT l) false (trimT nm) (trimT tx) := by
  unfold bindT
  rw [puts_append]
  unfold allR
  rw [List.foldl_append]
  rfl

/-! ### Arguments without names -/

def posT : List Bt → Nat → List KT
  | [], _ => []
  | t :: r, n => (decDigits (n + 1), t) :: posT r (n + 1)
theorem puts_pos : ∀ (l : List Bt) (n : Nat) (x : Bt), putsT (l.map fun t => (false, x, t)) n = posT l n
  | [], _, _ => rfl
  | t :: r, n, x => by simp [putsT, posT, puts_pos r]
theorem pos_keys : ∀ (l : List Bt) (n : Nat), ∀ k ∈ keysT (posT l n), ∃ i, n < i ∧ k = decDigits i
  | [], _, k, hk => by simp [posT, keysT] at hk
  | t :: r, n, k, hk => by
    simp only [posT, keysT, List.map_cons] at hk
    rcases List.mem_cons.1 hk with h | h
    · exact ⟨n + 1, by omega, h⟩
    · obtain ⟨i, hi, he⟩ := pos_keys r (n + 1) k h
      exact ⟨i, by omega, he⟩
theorem pos_nodup : ∀ (l : List Bt) (n : Nat), (keysT (posT l n)).Nodup
  | [], _ => List.nodup_nil
  | t :: r, n => List.nodup_cons.2 ⟨fun hc => by
      obtain ⟨i, hi, he⟩ := pos_keys r (n + 1) _ hc
      have := dec_inj he
      omega, pos_nodup r (n + 1)⟩
theorem pos_get : ∀ (l : List Bt) (n i : Nat), getA (posT l n) (decDigits (n + i + 1)) = l[i]?
  | [], _, _ => rfl
  | t :: r, n, 0 => by simp [posT, getA]
  | t :: r, n, i + 1 => by
    simp only [posT, getA]
    rw [if_neg (fun e => by have := dec_inj e; omega), show n + (i + 1) + 1 = (n + 1) + i + 1 by omega, pos_get r (n + 1) i]
    simp
theorem pos_len : ∀ (l : List Bt) (n : Nat), (posT l n).length = l.length
  | [], _ => rfl
  | t :: r, n => by simp [posT, pos_len r]
theorem allK_new : ∀ (ps a : List KT), (keysT (a ++ ps)).Nodup → allK ps a = a ++ ps
  | [], a, _ => by simp [allK]
  | p :: ps, a, h => by
    have hp : setT a p.1 p.2 = a ++ [p] := by
      have hna : p.1 ∉ keysT a := by
        intro hc
        simp only [keysT, List.map_append, List.map_cons] at h
        exact (List.nodup_append.1 h).2.2 p.1 hc p.1 (List.mem_cons_self ..) rfl
      clear h
      induction a with
      | nil => rfl
      | cons x r ih =>
        simp only [keysT, List.map_cons, List.mem_cons, not_or] at hna ih
        simp only [setT]
        rw [if_neg (fun e => hna.1 e.symm), ih hna.2]
        rfl
    have : allK (p :: ps) a = allK ps (setT a p.1 p.2) := rfl
    rw [this, hp, allK_new ps _ (by rw [List.append_assoc]; exact h), List.append_assoc]
    rfl
theorem bind_pos (l : List Bt) (x : Bt) : bindT (l.map fun t => (false, x, t)) = sortT (posT l 0) := by
  rw [← bind_law, puts_pos, allK_new _ _ (by simpa using pos_nodup l 0)]
  rfl
theorem bind_pos_len (l : List Bt) (x : Bt) : (bindT (l.map fun t => (false, x, t))).length = l.length := by
  rw [bind_pos]
  unfold sortT keysT
  rw [List.length_map, List.length_mergeSort, List.length_map, pos_len]
theorem bind_pos_get (l : List Bt) (x : Bt) (i : Nat) : getA (bindT (l.map fun t => (false, x, t))) (decDigits (i + 1)) = l[i]? := by
  rw [bind_pos, getA_sortT]
  have := pos_get l 0 i
  rwa [Nat.zero_add] at this

end Go.X
