/- This text says what the escaping of HTML computes, and what it does to lengths, with no program in sight. -/
import Derived.Test.YtdnkeinjfddmnaaGreatDoorFrame
set_option linter.all false

namespace Go.X

def eAmp : List UInt8 := [38, 97, 109, 112, 59]
def eLt : List UInt8 := [38, 108, 116, 59]
def eGt : List UInt8 := [38, 103, 116, 59]
def eQuot : List UInt8 := [38, 113, 117, 111, 116, 59]

/-- What stands for a byte. -/
def escB (b : UInt8) : List UInt8 := if b = 38 then eAmp else if b = 60 then eLt else if b = 62 then eGt else if b = 34 then eQuot else [b]
def spB (b : UInt8) : Bool := b == 38 || b == 60 || b == 62 || b == 34
def escT (s : List UInt8) : List UInt8 := s.flatMap escB

theorem escT_nil : escT [] = [] := rfl
theorem escT_cons (b : UInt8) (s : List UInt8) : escT (b :: s) = escB b ++ escT s := by simp [escT]
theorem escT_append (a b : List UInt8) : escT (a ++ b) = escT a ++ escT b := by simp [escT]

theorem escT_len : ∀ s : List UInt8, (escT s).length = s.length + s.count 34 * 5 + s.count 62 * 3 + s.count 60 * 3 + s.count 38 * 4
  | [] => rfl
  | b :: s => by
    have ih := escT_len s
    rw [escT_cons, List.length_append, ih]
    simp only [List.count_cons, List.length_cons]
    by_cases h1 : b = 38
    · subst h1; simp [escB, eAmp]; omega
    by_cases h2 : b = 60
    · subst h2; simp [escB, eLt]; omega
    by_cases h3 : b = 62
    · subst h3; simp [escB, eGt]; omega
    by_cases h4 : b = 34
    · subst h4; simp [escB, eQuot]; omega
    · simp [escB, h1, h2, h3, h4]; omega

theorem escT_id : ∀ {s : List UInt8}, s.count 34 = 0 → s.count 62 = 0 → s.count 60 = 0 → s.count 38 = 0 → escT s = s
  | [], _, _, _, _ => rfl
  | b :: s, h1, h2, h3, h4 => by
    simp only [List.count_cons, Nat.add_eq_zero_iff] at h1 h2 h3 h4
    rw [escT_cons, escT_id h1.1 h2.1 h3.1 h4.1]
    have n1 : b ≠ 34 := fun h => by simp [h] at h1
    have n2 : b ≠ 62 := fun h => by simp [h] at h2
    have n3 : b ≠ 60 := fun h => by simp [h] at h3
    have n4 : b ≠ 38 := fun h => by simp [h] at h4
    simp [escB, n1, n2, n3, n4]

theorem escB_plain {b : UInt8} (h : spB b = false) : escB b = [b] := by
  simp only [spB, Bool.or_eq_false_iff, beq_eq_false_iff_ne] at h
  simp [escB, h.1.1.1, h.1.1.2, h.1.2, h.2]

theorem escT_plain : ∀ {s : List UInt8}, s.any spB = false → escT s = s
  | [], _ => rfl
  | b :: s, h => by
    simp only [List.any_cons, Bool.or_eq_false_iff] at h
    rw [escT_cons, escT_plain h.2, escB_plain h.1]; rfl

theorem escB_len (b : UInt8) : 1 ≤ (escB b).length ∧ (escB b).length ≤ 6 := by
  unfold escB
  repeat (split; decide)
  exact ⟨Nat.le_refl 1, by show 1 ≤ 6; decide⟩

theorem escT_le (s : List UInt8) : s.length ≤ (escT s).length ∧ (escT s).length ≤ 6 * s.length := by
  induction s with
  | nil => exact ⟨Nat.le_refl _, Nat.le_refl _⟩
  | cons b s ih =>
    have := escB_len b
    rw [escT_cons, List.length_append, List.length_cons]
    omega

theorem escT_take_succ {s : List UInt8} {i : Nat} (h : i < s.length) : escT (s.take (i + 1)) = escT (s.take i) ++ escB s[i] := by
  rw [List.take_succ_eq_append_getElem h, escT_append, escT_cons, escT_nil, List.append_nil]

theorem escT_take_le (s : List UInt8) (i : Nat) : (escT (s.take i)).length ≤ (escT s).length := by
  have := congrArg List.length (congrArg escT (List.take_append_drop i s))
  rw [escT_append, List.length_append] at this
  omega

end Go.X
