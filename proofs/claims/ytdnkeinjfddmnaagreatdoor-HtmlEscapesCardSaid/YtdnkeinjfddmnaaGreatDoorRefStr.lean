/- This text says in plain Lean what the reference functions of chapter 1 compute, and links it to what the package title computes. -/
import Derived.Test.YtdnkeinjfddmnaaGreatDoorTitle
set_option linter.all false

namespace Go.X
open Go.Lib

/-- The first place from on at which t stands in s, or -1. -/
def refIdx (s t : List UInt8) (i : Nat) : Int := if index (s.drop i) t = -1 then -1 else index (s.drop i) t + i

theorem slice_mid (s : List UInt8) (i n : Nat) : (s.take (i + n)).drop i = (s.drop i).take n := by
  rw [List.drop_take]; congr 1; omega

theorem pre_iff (s t : List UInt8) : t.isPrefixOf s = true ↔ s.take t.length = t := by
  rw [List.isPrefixOf_iff_prefix, List.prefix_iff_eq_take]
  exact eq_comm

theorem refIdx_hit {s t : List UInt8} {i : Nat} (ht : 1 ≤ t.length) (h : i + t.length ≤ s.length) (he : (s.take (i + t.length)).drop i = t) : refIdx s t i = i := by
  rw [slice_mid] at he
  have hp := (pre_iff (s.drop i) t).2 he
  have : index (s.drop i) t = 0 := by
    cases hs : s.drop i with
    | nil => have := congrArg List.length hs; simp at this; omega
    | cons b r => rw [hs] at hp; simp [index, hp]
  simp [refIdx, this]

theorem refIdx_miss {s t : List UInt8} {i : Nat} (ht : 1 ≤ t.length) (h : i + t.length ≤ s.length) (he : ¬ (s.take (i + t.length)).drop i = t) : refIdx s t i = refIdx s t (i + 1) := by
  rw [slice_mid] at he
  have hp : t.isPrefixOf (s.drop i) = false := by
    cases hx : t.isPrefixOf (s.drop i) with
    | false => rfl
    | true => exact absurd ((pre_iff _ _).1 hx) he
  have hd : s.drop (i + 1) = (s.drop i).tail := by rw [List.tail_drop]
  unfold refIdx
  rw [hd]
  cases hs : s.drop i with
  | nil => have := congrArg List.length hs; simp at this; omega
  | cons b r =>
    rw [hs] at hp
    have hge := index_ge r t
    have e : index (b :: r) t = if index r t = -1 then -1 else index r t + 1 := by simp [index, hp]
    rw [e, List.tail_cons]
    by_cases hm : index r t = -1
    · simp [hm]
    · rw [if_neg hm, if_neg hm, if_neg (by omega)]; omega

theorem refIdx_end {s t : List UInt8} {i : Nat} (ht : 1 ≤ t.length) (h : ¬ i + t.length ≤ s.length) : refIdx s t i = -1 := by
  have : index (s.drop i) t = -1 := by
    have hge := index_ge (s.drop i) t
    by_cases hx : index (s.drop i) t = -1
    · exact hx
    · have := index_room (s.drop i) t (by omega)
      simp at this; omega
  simp [refIdx, this]

theorem index_cut (c : UInt8) : ∀ s : List UInt8, index s [c] = if (cutAt c s).2.2 = true then ((cutAt c s).1.length : Int) else -1
  | [] => by simp [index_nil, cutAt]
  | x :: r => by
    have ih := index_cut c r
    by_cases h : x = c
    · subst h; simp [index_same, cutAt]
    · rw [index_other h, ih]
      simp only [cutAt, if_neg h]
      by_cases hc : (cutAt c r).2.2 = true
      · rw [if_pos hc, if_pos hc, if_neg (by omega)]; simp
      · rw [if_neg hc, if_neg hc, if_pos rfl]

theorem cutAt_take (c : UInt8) : ∀ s : List UInt8, s.take (cutAt c s).1.length = (cutAt c s).1
  | [] => by simp [cutAt]
  | x :: r => by
    have ih := cutAt_take c r
    simp only [cutAt]; split
    · simp
    · simp [ih]
theorem cutAt_drop (c : UInt8) : ∀ s : List UInt8, (cutAt c s).2.2 = true → s.drop ((cutAt c s).1.length + 1) = (cutAt c s).2.1 ∧ (cutAt c s).1.length < s.length
  | [], h => by simp [cutAt] at h
  | x :: r, h => by
    have ih := cutAt_drop c r
    simp only [cutAt] at h ⊢
    split
    · simp
    · rename_i hx
      rw [if_neg hx] at h
      have := ih h
      simp [this.1]; omega

theorem index_byte (c : UInt8) : ∀ l : List UInt8, index l [c] = indexByte l c
  | [] => by simp [index_nil, indexByte]
  | x :: r => by
    have ih := index_byte c r
    by_cases h : x = c
    · subst h; simp [index_same, indexByte]
    · rw [index_other h, ih]
      simp only [indexByte, beq_iff_eq, if_neg h]
theorem refIdx_byte (l : List UInt8) (c : UInt8) : refIdx l [c] 0 = indexByte l c := by
  rw [← index_byte]
  unfold refIdx
  rw [List.drop_zero]
  split
  · rename_i h; rw [h]
  · omega

/-- Without one blank at the end. -/
def noEnd (p : List UInt8) : List UInt8 := if (decide (0 < (p.length : Int)) && decide (((p.getD ((p.length : Int) - 1).toNat 0).toNat : Int) = 32)) = true then p.take ((p.length : Int) - 1).toNat else p

theorem noEnd_eq (p : List UInt8) : noEnd p = trimSuffix p [32] := by
  have key : (decide (0 < (p.length : Int)) && decide (((p.getD ((p.length : Int) - 1).toNat 0).toNat : Int) = 32)) = hasSuffix p [32] := by
    rcases List.eq_nil_or_concat p with rfl | ⟨q, x, rfl⟩
    · rfl
    · have e : (((q.concat x).length : Int) - 1).toNat = q.length := by simp
      rw [e]
      have h1 : (q.concat x).getD q.length 0 = x := by simp
      rw [h1]
      rw [Bool.eq_iff_iff]
      simp only [Bool.and_eq_true, decide_eq_true_eq, hasSuffix, List.isSuffixOf_iff_suffix, List.concat_eq_append]
      constructor
      · rintro ⟨_, h⟩
        have : x = 32 := UInt8.toNat_inj.1 (by simpa using Int.ofNat.inj h)
        subst this
        exact List.suffix_append _ _
      · rintro ⟨t, ht⟩
        have := List.append_inj_right' ht (by simp)
        simp at this
        subst this
        simp
  unfold noEnd trimSuffix
  rw [key]
  cases hs : hasSuffix p [32] with
  | false => simp
  | true =>
    simp only [if_true, List.length_singleton]
    congr 1
    omega

/-- Without one blank ahead. -/
def noFront (t : List UInt8) : List UInt8 := if (decide (0 < (t.length : Int)) && decide (((t.getD 0 0).toNat : Int) = 32)) = true then t.drop 1 else t

theorem noFront_eq (t : List UInt8) : noFront t = trimPrefix t [32] := by
  cases t with
  | nil => rfl
  | cons x r =>
    have h : ((((x :: r).getD 0 0).toNat : Int) = 32) ↔ x = 32 := by
      simp only [List.getD_cons_zero]
      exact ⟨fun h => UInt8.toNat_inj.1 (by simpa using Int.ofNat.inj h), fun h => by subst h; rfl⟩
    unfold noFront trimPrefix hasPrefix
    by_cases hx : x = 32
    · rw [if_pos (by simp only [Bool.and_eq_true, decide_eq_true_eq]; exact ⟨by simp, h.2 hx⟩), if_pos (by simp [List.isPrefixOf, hx])]
      rfl
    · rw [if_neg (by simp only [Bool.and_eq_true, decide_eq_true_eq]; exact fun hh => hx (h.1 hh.2)), if_neg (by simp [List.isPrefixOf, Ne.symm hx])]

theorem slice_one {s : List UInt8} {i : Nat} (h : i < s.length) : (s.take (i + 1)).drop i = [s.getD i 0] := by
  rw [slice_mid, List.drop_eq_getElem_cons h]
  simp only [List.take_succ_cons, List.take_zero]
  simp [h]

theorem stepB_nil : stepB [] 32 = [] := by decide
theorem stepB_blank {o : List UInt8} (h : ((o.getD ((o.length : Int) - 1).toNat 0).toNat : Int) = 32) : stepB o 32 = o := by
  unfold stepB
  rw [decide_eq_true h]
  simp
theorem stepB_first {o : List UInt8} (h0 : ¬ o = []) (h : ¬ ((o.getD ((o.length : Int) - 1).toNat 0).toNat : Int) = 32) : stepB o 32 = o ++ [32] := by
  unfold stepB
  have h1 : (0 : Int) < (o.length : Int) := by have := List.length_pos_iff.2 h0; omega
  rw [decide_eq_false h, decide_eq_true h1]
  simp
theorem stepB_other {o : List UInt8} {y : UInt8} (h : ¬ y = 32) : stepB o y = o ++ [y] := by
  unfold stepB
  have h1 : ¬ (y.toNat : Int) = 32 := fun hh => h (UInt8.toNat_inj.1 (by simpa using Int.ofNat.inj hh))
  rw [decide_eq_false h1]
  simp

theorem usc_get (s : List UInt8) {i : Nat} (h : i < s.length) : (usc s).getD i 0 = if s.getD i 0 = 95 then 32 else s.getD i 0 := by
  simp [usc, h]

theorem splitOn_snoc (c x : UInt8) : ∀ l : List UInt8, splitOn c (l ++ [x]) = if x = c then splitOn c l ++ [[]] else (splitOn c l).dropLast ++ [(splitOn c l).getLastD [] ++ [x]]
  | [] => by simp only [List.nil_append, splitOn]; split <;> rfl
  | y :: r => by
    have ih := splitOn_snoc c x r
    have e := splitOn_eq c r
    simp only [List.cons_append, splitOn]
    rw [ih]
    by_cases hx : x = c
    · simp only [if_pos hx]
      by_cases hy : y = c
      · simp [hy]
      · simp only [if_neg hy]
        rw [e]; rfl
    · simp only [if_neg hx]
      cases ht : (splitOn c r).tail with
      | nil =>
        rw [ht] at e
        by_cases hy : y = c
        · simp only [if_pos hy]; rw [e]; rfl
        · simp only [if_neg hy]; rw [e]; rfl
      | cons z t =>
        rw [ht] at e
        by_cases hy : y = c
        · simp only [if_pos hy]; rw [e]; simp [List.getLastD]
        · simp only [if_neg hy]; rw [e]; simp [List.getLastD]

end Go.X
