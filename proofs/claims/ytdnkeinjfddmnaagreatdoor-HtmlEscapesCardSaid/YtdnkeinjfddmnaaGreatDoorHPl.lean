/- This text says what the path of a title is, with no program in sight. -/
import Derived.Test.YtdnkeinjfddmnaaGreatDoorTitle
import Derived.Lib.IndexAny
set_option linter.all false

namespace Go.X

/-- The sixteen digits. -/
def hexS : List UInt8 := [48, 49, 50, 51, 52, 53, 54, 55, 56, 57, 65, 66, 67, 68, 69, 70]
def punctS : List UInt8 := [45, 95, 46, 58, 47]
def wikiS : List UInt8 := [47, 119, 105, 107, 105, 47]

/-- The bytes that a path keeps. -/
def keepP (b : UInt8) : Prop := (97 ≤ (b.toNat : Int) ∧ (b.toNat : Int) ≤ 122) ∨ (65 ≤ (b.toNat : Int) ∧ (b.toNat : Int) ≤ 90) ∨ (48 ≤ (b.toNat : Int) ∧ (b.toNat : Int) ≤ 57) ∨ 0 ≤ Lib.indexByte punctS b
instance (b : UInt8) : Decidable (keepP b) := by unfold keepP; exact inferInstance

def hexB (b : UInt8) : List UInt8 := [hexS.getD (b.toNat / 16) 0, hexS.getD (b.toNat % 16) 0]
def pathB (b : UInt8) : List UInt8 := if b = 32 then [95] else if keepP b then [b] else 37 :: hexB b
def pathS (s : List UInt8) : List UInt8 := s.flatMap pathB
/-- The path of a title. -/
def pathT (sp : Int) (n : List UInt8) : List UInt8 := wikiS ++ pathS (formatT sp n)

theorem pathS_take_succ {s : List UInt8} {i : Nat} (h : i < s.length) : pathS (s.take (i + 1)) = pathS (s.take i) ++ pathB s[i] := by
  unfold pathS
  rw [List.take_succ_eq_append_getElem h, List.flatMap_append]
  simp only [List.flatMap_cons, List.flatMap_nil, List.append_nil]

theorem pathB_len (b : UInt8) : 1 ≤ (pathB b).length ∧ (pathB b).length ≤ 3 := by
  unfold pathB
  split
  · decide
  split
  · exact ⟨Nat.le_refl 1, by show 1 ≤ 3; decide⟩
  · exact ⟨by show 1 ≤ 3; decide, Nat.le_refl 3⟩

theorem pathS_le (s : List UInt8) : (pathS s).length ≤ 3 * s.length := by
  induction s with
  | nil => exact Nat.le_refl _
  | cons b s ih =>
    have := pathB_len b
    simp only [pathS, List.flatMap_cons, List.length_append, List.length_cons] at ih ⊢
    omega

theorem pathStep32 {o r : List UInt8} {y : UInt8} (hst : r = o ++ pathB y) (h : (y.toNat : Int) = 32) : o ++ [95] = r := by
  have hy : y = 32 := UInt8.toNat_inj.1 (by have : (32 : UInt8).toNat = 32 := rfl
                                            omega)
  subst hy; rw [hst]; rfl
theorem pathStepK {o r : List UInt8} {y : UInt8} (hst : r = o ++ pathB y) (h : ¬ (y.toNat : Int) = 32) (hk : keepP y) : o ++ [y] = r := by
  have hy : ¬ y = 32 := fun hh => by subst hh; exact h rfl
  rw [hst]; simp [pathB, hy, hk]
theorem pathStepH {o r : List UInt8} {y : UInt8} (hst : r = o ++ pathB y) (h : ¬ (y.toNat : Int) = 32) (hk : ¬ keepP y) : o ++ 37 :: hexB y = r := by
  have hy : ¬ y = 32 := fun hh => by subst hh; exact h rfl
  rw [hst]; simp [pathB, hy, hk]

end Go.X
