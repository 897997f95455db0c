/- This text proves the plain laws of the escaping: different strings have different escaped forms; these hold no brackets and no quotation marks. -/
import Derived.Test.YtdnkeinjfddmnaaGreatDoorEsc
set_option linter.all false

namespace Go.X

/-- Two strings' escaped forms, each with something behind it, agree only where the first bytes do. -/
theorem escB_inj {a b : UInt8} {x y : List UInt8} (h : escB a ++ x = escB b ++ y) : a = b ∧ x = y := by
  by_cases a1 : a = 38 <;> by_cases b1 : b = 38
  · subst a1 b1; simpa [escB, eAmp] using h
  all_goals by_cases a2 : a = 60 <;> by_cases b2 : b = 60
  all_goals by_cases a3 : a = 62 <;> by_cases b3 : b = 62
  all_goals by_cases a4 : a = 34 <;> by_cases b4 : b = 34
  all_goals simp [escB, eAmp, eLt, eGt, eQuot, a1, b1, a2, b2, a3, b3, a4, b4] at h
  all_goals try (subst_vars; first | (exact absurd rfl (by assumption)) | (simp_all; done))
  all_goals first | (exact ⟨h.1, h.2⟩) | (exact absurd h.1.symm (by assumption)) | (exact absurd h.1 (by assumption)) | simp_all

theorem escT_inj : ∀ {a b : List UInt8}, escT a = escT b → a = b
  | [], [], _ => rfl
  | [], b :: l, h => by
    have h1 := congrArg List.length h
    have h2 := escB_len b
    rw [escT_cons, List.length_append] at h1
    have h3 : (escT []).length = 0 := rfl
    omega
  | a :: k, [], h => by
    have h1 := congrArg List.length h
    have h2 := escB_len a
    rw [escT_cons, List.length_append] at h1
    have h3 : (escT []).length = 0 := rfl
    omega
  | a :: k, b :: l, h => by
    rw [escT_cons, escT_cons] at h
    obtain ⟨h1, h2⟩ := escB_inj h
    rw [h1, escT_inj h2]

theorem escB_safe (b : UInt8) : 60 ∉ escB b ∧ 62 ∉ escB b ∧ 34 ∉ escB b := by
  unfold escB
  split
  · decide
  split
  · decide
  split
  · decide
  split
  · decide
  · rename_i h1 h2 h3 h4
    simp only [List.mem_singleton]
    exact ⟨fun h => h2 h.symm, fun h => h3 h.symm, fun h => h4 h.symm⟩

theorem escT_safe (s : List UInt8) : 60 ∉ escT s ∧ 62 ∉ escT s ∧ 34 ∉ escT s := by
  unfold escT
  simp only [List.mem_flatMap, not_exists, not_and]
  exact ⟨fun b _ => (escB_safe b).1, fun b _ => (escB_safe b).2.1, fun b _ => (escB_safe b).2.2⟩

end Go.X
