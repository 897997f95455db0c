/- This text holds plain facts on lists of bytes, with no program in sight: what the library's string functions compute when the separator is one byte. -/
import Derived.Lib.Replace
import Derived.Lib.Join
import Derived.Lib.TrimByte
import Derived.Lib.Small
set_option linter.all false

namespace Go.X
open Go.Lib

/-- Before the first c, behind it, and whether there is one. -/
def cutAt (c : UInt8) : List UInt8 → List UInt8 × List UInt8 × Bool
  | [] => ([], [], false)
  | x :: r => if x = c then ([], r, true) else (x :: (cutAt c r).1, (cutAt c r).2.1, (cutAt c r).2.2)

/-- The pieces between the bytes c. -/
def splitOn (c : UInt8) : List UInt8 → List (List UInt8)
  | [] => [[]]
  | x :: r => if x = c then [] :: splitOn c r else (x :: (splitOn c r).headD []) :: (splitOn c r).tail

theorem splitOn_ne (c : UInt8) (l : List UInt8) : splitOn c l ≠ [] := by
  cases l with
  | nil => simp [splitOn]
  | cons x r => simp only [splitOn]; split <;> simp

theorem splitOn_eq (c : UInt8) (l : List UInt8) : splitOn c l = (splitOn c l).headD [] :: (splitOn c l).tail := by
  have := splitOn_ne c l
  cases h : splitOn c l with
  | nil => exact absurd h this
  | cons a b => rfl

theorem index_nil (c : UInt8) : index [] [c] = -1 := by simp [index]
theorem index_same (c : UInt8) (l : List UInt8) : index (c :: l) [c] = 0 := by simp [index, List.isPrefixOf]
theorem index_other {b c : UInt8} (h : b ≠ c) (l : List UInt8) : index (b :: l) [c] = if index l [c] = -1 then -1 else index l [c] + 1 := by
  have hp : ([c] : List UInt8).isPrefixOf (b :: l) = false := by simp [List.isPrefixOf, Ne.symm h]
  rw [index, hp]; simp

theorem cut_one (c : UInt8) : ∀ l : List UInt8, cut l [c] = cutAt c l
  | [] => by simp [cut, cutAt, index_nil]
  | x :: r => by
    have ih := cut_one c r
    by_cases h : x = c
    · subst h; simp [cut, cutAt, index_same]
    · have hge := index_ge r [c]
      simp only [cutAt, if_neg h, ← ih]
      by_cases hm : index r [c] = -1
      · simp [cut, index_other h, hm]
      · obtain ⟨i, hi⟩ : ∃ i : Nat, index r [c] = i := ⟨(index r [c]).toNat, by omega⟩
        have h1 : index (x :: r) [c] = ((i + 1 : Nat) : Int) := by rw [index_other h, if_neg hm, hi]; omega
        have h2 : (0 : Int) ≤ ((i + 1 : Nat) : Int) := by omega
        have h3 : (0 : Int) ≤ ((i : Nat) : Int) := by omega
        simp only [cut, h1, hi, if_pos h2, if_pos h3, Int.toNat_natCast, List.take_succ_cons, List.length_singleton]
        simp [List.drop_succ_cons]

theorem splitK_one (c : UInt8) : ∀ l : List UInt8, splitK [c] 0 (count l [c]) l = splitOn c l
  | [] => by rw [count_miss (index_nil c)]; simp [splitK, splitOn]
  | x :: r => by
    have ih := splitK_one c r
    by_cases h : x = c
    · subst h
      rw [count_cons_eq, Nat.add_comm, splitK, index_same]
      simp [splitOn, ih]
    · rw [count_cons_ne _ _ _ h]
      have e := splitOn_eq c r
      simp only [splitOn, if_neg h]
      cases hk : count r [c] with
      | zero =>
        rw [hk] at ih
        simp only [splitK] at ih ⊢
        rw [← ih]
        rfl
      | succ k =>
        rw [hk] at ih
        have hge := index_ge r [c]
        by_cases hm : index r [c] = -1
        · rw [splitK, if_pos (by simp [hm])] at ih
          rw [splitK, index_other h, hm, ← ih]
          simp
        · obtain ⟨i, hi⟩ : ∃ i : Nat, index r [c] = i := ⟨(index r [c]).toNat, by omega⟩
          have h1 : index (x :: r) [c] = ((i + 1 : Nat) : Int) := by rw [index_other h, if_neg hm, hi]; omega
          rw [splitK, hi, if_neg (by simp)] at ih
          rw [splitK, h1, if_neg (by simp; omega), ← ih]
          simp

theorem replaceAll_one (a b : UInt8) (hab : a ≠ b) (l : List UInt8) : replaceAll l [a] [b] = l.map fun x => if x = a then b else x := by
  have key : ∀ l : List UInt8, replaceK [a] [b] (count l [a]) l = l.map fun x => if x = a then b else x := by
    intro l
    induction l with
    | nil => rw [count_miss (index_nil a)]; simp [replaceK]
    | cons x r ih =>
      by_cases h : x = a
      · subst h
        rw [count_cons_eq, Nat.add_comm, replaceK, index_same]
        simp [ih]
      · rw [count_cons_ne _ _ _ h]
        simp only [List.map_cons, if_neg h]
        cases hk : count r [a] with
        | zero => rw [hk] at ih; simp only [replaceK] at ih ⊢; rw [← ih]
        | succ k =>
          rw [hk] at ih
          have hge := index_ge r [a]
          by_cases hm : index r [a] = -1
          · rw [replaceK, if_pos (by simp [hm])] at ih
            rw [replaceK, index_other h, hm, ← ih]
            simp
          · obtain ⟨i, hi⟩ : ∃ i : Nat, index r [a] = i := ⟨(index r [a]).toNat, by omega⟩
            have h1 : index (x :: r) [a] = ((i + 1 : Nat) : Int) := by rw [index_other h, if_neg hm, hi]; omega
            rw [replaceK, hi, if_neg (by simp)] at ih
            rw [replaceK, h1, if_neg (by simp; omega), ← ih]
            simp
  unfold replaceAll replace
  rw [if_neg (by simp [hab])]
  have : replaceNum l [a] (-1) = count l [a] := by simp [replaceNum]
  rw [this, key]

/-- The pieces with the byte c between them. -/
def joinOn (c : UInt8) : List (List UInt8) → List UInt8
  | [] => []
  | [x] => x
  | x :: y :: r => x ++ c :: joinOn c (y :: r)

theorem join_one_byte (c : UInt8) : ∀ xs : List (List UInt8), join xs [c] = joinOn c xs
  | [] => rfl
  | [x] => by rw [join_one, joinOn]
  | x :: y :: r => by
    have ih := join_one_byte c (y :: r)
    rw [join_cons] at ih ⊢
    rw [joinOn, ← ih]
    simp [joinTail]

theorem join_splitOn (c : UInt8) : ∀ l : List UInt8, joinOn c (splitOn c l) = l
  | [] => rfl
  | x :: r => by
    have ih := join_splitOn c r
    have e := splitOn_eq c r
    by_cases h : x = c
    · subst h
      simp only [splitOn, if_true]
      rw [e] at ih ⊢
      simp only [joinOn, ih, List.nil_append]
    · simp only [splitOn, if_neg h]
      rw [e] at ih
      cases ht : (splitOn c r).tail with
      | nil => rw [ht] at ih; simp only [joinOn] at ih ⊢; rw [ih]
      | cons y t => rw [ht] at ih; simp only [joinOn, List.cons_append] at ih ⊢; rw [ih]

theorem splitOn_length_le (c : UInt8) : ∀ l : List UInt8, (splitOn c l).length ≤ l.length + 1
  | [] => by simp [splitOn]
  | x :: r => by
    have ih := splitOn_length_le c r
    simp only [splitOn]
    split
    · simp; omega
    · simp; omega

theorem mem_splitOn_le (c : UInt8) : ∀ (l p : List UInt8), p ∈ splitOn c l → p.length ≤ l.length
  | [], p, h => by simp [splitOn] at h; simp [h]
  | x :: r, p, h => by
    have ih := mem_splitOn_le c r
    have hh : ((splitOn c r).headD []).length ≤ r.length := by
      have := ih ((splitOn c r).headD []) (by rw [splitOn_eq c r]; simp)
      exact this
    simp only [splitOn] at h
    split at h
    · rcases List.mem_cons.1 h with rfl | h
      · simp
      · have := ih p h; simp; omega
    · rcases List.mem_cons.1 h with rfl | h
      · simp only [List.length_cons]; omega
      · have := ih p (List.mem_of_mem_tail h); simp; omega

/-! ### A list that is turned from the left -/

section
variable {α : Type} {A B : List α} {i : Nat}
theorem mix_len (hA : A.length = B.length) : (A.take i ++ B.drop i).length = B.length := by simp; omega
theorem mix_drop (hA : A.length = B.length) (h : i < B.length) : (A.take i ++ B.drop i).drop i = B[i] :: B.drop (i + 1) := by
  rw [List.drop_left' (by simp; omega), List.drop_eq_getElem_cons h]
theorem mix_get (hA : A.length = B.length) (h : i < B.length) (h' : i < (A.take i ++ B.drop i).length) : (A.take i ++ B.drop i)[i] = B[i] := by
  rw [List.getElem_append_right (by simp; omega)]
  simp [Nat.min_eq_left (by omega : i ≤ A.length)]
theorem mix_set (hA : A.length = B.length) (h : i < A.length) : (A.take i ++ B.drop i).set i A[i] = A.take (i + 1) ++ B.drop (i + 1) := by
  have hl : (A.take i).length = i := by simp; omega
  rw [List.set_append_right _ _ (by omega), List.take_succ_eq_append_getElem h, List.append_assoc, hl, Nat.sub_self, List.drop_eq_getElem_cons (l := B) (i := i) (by omega)]
  rfl
theorem mix_all (hi : i = B.length) (hA : A.length = B.length) : A.take i ++ B.drop i = A := by
  subst hi; simp [← hA]
end

theorem joinOn_length_le (c : UInt8) (m : Nat) : ∀ xs : List (List UInt8), (∀ p ∈ xs, p.length ≤ m) → (joinOn c xs).length ≤ xs.length * (m + 1)
  | [], _ => by simp [joinOn]
  | [x], h => by have := h x (by simp); simp [joinOn]; omega
  | x :: y :: r, h => by
    have h1 := h x (by simp)
    have h2 := joinOn_length_le c m (y :: r) (fun p hp => h p (by simp [hp]))
    have e : (x :: y :: r).length * (m + 1) = (m + 1) + (y :: r).length * (m + 1) := by rw [List.length_cons (a := x), Nat.add_mul]; omega
    rw [e, joinOn, List.length_append, List.length_cons]
    omega

theorem joinOn_le (c : UInt8) : ∀ xs ys : List (List UInt8), xs.length = ys.length → (∀ (i : Nat) (h : i < xs.length) (h' : i < ys.length), xs[i].length ≤ ys[i].length) → (joinOn c xs).length ≤ (joinOn c ys).length
  | [], [], _, _ => Nat.le_refl _
  | [x], [y], _, h => by have := h 0 (by simp) (by simp); simpa [joinOn] using this
  | x :: x' :: r, y :: y' :: q, hl, h => by
    have h0 := h 0 (by simp) (by simp)
    have ih := joinOn_le c (x' :: r) (y' :: q) (by simpa using hl) (fun i h1 h2 => h (i + 1) (by simpa using h1) (by simpa using h2))
    simp only [List.getElem_cons_zero] at h0
    simp only [joinOn, List.length_append, List.length_cons]
    omega
  | [], _ :: _, hl, _ => by simp at hl
  | _ :: _, [], hl, _ => by simp at hl
  | [_], _ :: _ :: _, hl, _ => by simp at hl
  | _ :: _ :: _, [_], hl, _ => by simp at hl

end Go.X
