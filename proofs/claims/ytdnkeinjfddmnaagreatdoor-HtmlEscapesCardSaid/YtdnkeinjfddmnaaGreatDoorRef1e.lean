/- This text walks through the function Parse of the reference of chapter 1. -/
import Derived.Test.YtdnkeinjfddmnaaGreatDoorRef1d
import Derived.Test.YtdnkeinjfddmnaaGreatDoorSlash
import Derived.Test.YtdnkeinjfddmnaaGreatDoorWParse2
set_option linter.all false

namespace Go.Proofs
open Go Go.X
set_option maxRecDepth 100000

theorem nd_colon {t : List UInt8} (h : ND t) : ND (noColon t) := by
  unfold noColon; split
  · exact (h.drop 1).trimPrefix _
  · exact h
theorem nd_behind {t : List UInt8} (h : ND t) : ND (behind t) := by
  unfold behind
  by_cases hc : (cutAt 58 t).2.2 = true
  · rw [← (cutAt_drop 58 t hc).1]; exact h.drop _
  · have : ∀ s : List UInt8, ¬ (cutAt 58 s).2.2 = true → (cutAt 58 s).2.1 = [] := by
      intro s
      induction s with
      | nil => intro _; rfl
      | cons x r ih =>
        intro hn
        simp only [cutAt] at hn ⊢
        split
        · rename_i hx; rw [if_pos hx] at hn; simp at hn
        · rename_i hx; rw [if_neg hx] at hn; exact ih hn
    rw [this t hc]; exact ND.nil
theorem nd_space {t : List UInt8} (h : ND t) : ND (noSpace t) := by
  unfold noSpace; split
  · exact (nd_behind h).trimPrefix _
  · exact h

theorem upB_eq (t : List UInt8) : upB t = if (decide (0 < (t.length : Int)) && decide (97 ≤ ((t.getD 0 0).toNat : Int)) && decide (((t.getD 0 0).toNat : Int) ≤ 122)) = true then [t.getD 0 0 - 32] ++ t.drop 1 else t := by
  have : (!decide (t = [])) = decide (0 < (t.length : Int)) := by
    cases t with
    | nil => rfl
    | cons x r => simp
  unfold upB
  rw [this]

def prefV (n k : Nat) : Bool → V
  | true => .t2 (.c (.i .i64 n)) (.c (.i .i64 k))
  | false => .t2 (.c (.i .i64 0)) (.c (.i .i64 0))

end Go.Proofs
