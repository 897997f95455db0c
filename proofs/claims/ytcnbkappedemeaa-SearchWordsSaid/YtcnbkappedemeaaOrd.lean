/- This text holds plain facts on the order of lists of bytes, and on that of titles. -/
import Derived.Test.YtcnbkappedemeaaTitle
import Derived.Test.YtcnbkappedemeaaBin
set_option linter.all false

namespace Go.X
open Go.Lib

theorem cmpB_range : ∀ a b : List UInt8, compareBytes a b = -1 ∨ compareBytes a b = 0 ∨ compareBytes a b = 1
  | [], [] => by simp [compareBytes]
  | [], _ :: _ => by simp [compareBytes]
  | _ :: _, [] => by simp [compareBytes]
  | x :: a, y :: b => by
    have := cmpB_range a b
    simp only [compareBytes]
    split
    · simp
    · split
      · simp
      · exact this

theorem u8_lt {x y : UInt8} : x < y ↔ x.toNat < y.toNat := UInt8.lt_iff_toNat_lt
theorem u8_eq {x y : UInt8} : x = y ↔ x.toNat = y.toNat := ⟨fun h => by rw [h], UInt8.toNat_inj.1⟩

theorem less_cmp : ∀ a b : List UInt8, Op.bytesLess a b = true ↔ compareBytes a b = -1
  | [], [] => by simp [compareBytes, Op.bytesLess]
  | [], _ :: _ => by simp [compareBytes, Op.bytesLess]
  | _ :: _, [] => by simp [compareBytes, Op.bytesLess]
  | x :: a, y :: b => by
    have ih := less_cmp a b
    simp only [Op.bytesLess, compareBytes, Bool.or_eq_true, decide_eq_true_eq, Bool.and_eq_true, beq_iff_eq, ih, u8_lt, u8_eq]
    split
    · simp_all
    · split
      · constructor
        · rintro (h | ⟨h, _⟩) <;> omega
        · intro h; omega
      · constructor
        · rintro (h | ⟨_, h⟩)
          · omega
          · exact h
        · intro h; exact .inr ⟨by omega, h⟩

theorem cmpB_eq : ∀ a b : List UInt8, compareBytes a b = 0 ↔ a = b
  | [], [] => by simp [compareBytes]
  | [], _ :: _ => by simp [compareBytes]
  | _ :: _, [] => by simp [compareBytes]
  | x :: a, y :: b => by
    have ih := cmpB_eq a b
    simp only [compareBytes, List.cons.injEq, u8_lt, u8_eq]
    split
    · constructor
      · intro h; omega
      · rintro ⟨h, _⟩; omega
    · split
      · constructor
        · intro h; omega
        · rintro ⟨h, _⟩; omega
      · rw [ih]
        exact ⟨fun h => ⟨by omega, h⟩, fun h => h.2⟩

theorem cmpB_swap : ∀ a b : List UInt8, compareBytes a b = - compareBytes b a
  | [], [] => by simp [compareBytes]
  | [], _ :: _ => by simp [compareBytes]
  | _ :: _, [] => by simp [compareBytes]
  | x :: a, y :: b => by
    have ih := cmpB_swap a b
    simp only [compareBytes, u8_lt]
    split
    · rw [if_neg (by omega)]
    · split
      · rfl
      · exact ih

theorem cmpB_trans : ∀ a b c : List UInt8, compareBytes a b ≤ 0 → compareBytes b c ≤ 0 → compareBytes a c ≤ 0
  | [], [], _, _, h => h
  | [], _ :: _, [], _, h => by simp [compareBytes] at h
  | [], _ :: _, _ :: _, _, _ => by simp [compareBytes]
  | _ :: _, [], _, h, _ => by simp [compareBytes] at h
  | _ :: _, _ :: _, [], _, h => by simp [compareBytes] at h
  | x :: a, y :: b, z :: c, h1, h2 => by
    have ih := cmpB_trans a b c
    simp only [compareBytes, u8_lt] at *
    split at h1
    · split at h2
      · rw [if_pos (by omega)]; omega
      · split at h2
        · omega
        · rw [if_pos (by omega)]; omega
    · split at h1
      · omega
      · split at h2
        · rw [if_pos (by omega)]; omega
        · split at h2
          · omega
          · rw [if_neg (by omega), if_neg (by omega)]; exact ih h1 h2

theorem cmpI (a b : Int) : (a < b ∧ compareInt a b = -1) ∨ (a = b ∧ compareInt a b = 0) ∨ (b < a ∧ compareInt a b = 1) := by
  unfold compareInt
  rcases Int.lt_trichotomy a b with h | h | h
  · rw [if_pos h]; exact .inl ⟨h, rfl⟩
  · rw [if_neg (by omega), if_neg (by omega)]; exact .inr (.inl ⟨h, rfl⟩)
  · rw [if_neg (by omega), if_pos h]; exact .inr (.inr ⟨h, rfl⟩)

theorem compareT_range (a : Int) (x : List UInt8) (b : Int) (y : List UInt8) : compareT a x b y = -1 ∨ compareT a x b y = 0 ∨ compareT a x b y = 1 := by
  have h := cmpB_range x y
  unfold compareT
  rcases cmpI a b with ⟨_, h1⟩ | ⟨_, h1⟩ | ⟨_, h1⟩ <;> rw [h1] <;> simp <;> exact h
theorem compareT_eq (a : Int) (x : List UInt8) (b : Int) (y : List UInt8) : compareT a x b y = 0 ↔ a = b ∧ x = y := by
  have h := cmpB_eq x y
  unfold compareT
  rcases cmpI a b with ⟨h0, h1⟩ | ⟨h0, h1⟩ | ⟨h0, h1⟩ <;> rw [h1] <;> simp
  · omega
  · rw [h]; exact ⟨fun e => ⟨h0, e⟩, fun e => e.2⟩
  · omega
theorem compareT_swap (a : Int) (x : List UInt8) (b : Int) (y : List UInt8) : compareT a x b y = - compareT b y a x := by
  have h := cmpB_swap x y
  unfold compareT
  rcases cmpI a b with ⟨h0, h1⟩ | ⟨h0, h1⟩ | ⟨h0, h1⟩ <;> rcases cmpI b a with ⟨h2, h3⟩ | ⟨h2, h3⟩ | ⟨h2, h3⟩ <;> rw [h1, h3] <;> simp <;> first | omega | exact h
theorem compareT_trans {a : Int} {x : List UInt8} {b : Int} {y : List UInt8} {c : Int} {z : List UInt8} (h1 : compareT a x b y ≤ 0) (h2 : compareT b y c z ≤ 0) : compareT a x c z ≤ 0 := by
  have h := cmpB_trans x y z
  unfold compareT at *
  rcases cmpI a b with ⟨p0, p1⟩ | ⟨p0, p1⟩ | ⟨p0, p1⟩ <;> rcases cmpI b c with ⟨q0, q1⟩ | ⟨q0, q1⟩ | ⟨q0, q1⟩ <;> rcases cmpI a c with ⟨r0, r1⟩ | ⟨r0, r1⟩ | ⟨r0, r1⟩ <;> rw [p1] at h1 <;> rw [q1] at h2 <;> rw [r1] <;> simp at * <;> first | omega | exact h h1 h2 | skip

end Go.X
