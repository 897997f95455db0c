/- This text proves in plain Lean that, in a text without two blanks side by side, leaving out each blank next to a slash is the same as trimming the pieces between the slashes. -/
import Derived.Test.YtdnkeinjfddmnaaGreatDoorRefStr
set_option linter.all false

namespace Go.X
open Go.Lib

/-- No two blanks side by side. -/
def ND (t : List UInt8) : Prop := ∀ a b, t ≠ a ++ 32 :: 32 :: b

theorem ND.drop {t : List UInt8} (h : ND t) (n : Nat) : ND (t.drop n) := fun a b he => h (t.take n ++ a) b (by
  rw [List.append_assoc, ← he, List.take_append_drop])
theorem ND.take {t : List UInt8} (h : ND t) (n : Nat) : ND (t.take n) := fun a b he => h a (b ++ t.drop n) (by
  have := congrArg (· ++ t.drop n) he
  simpa using this)
theorem ND.trimPrefix {t : List UInt8} (h : ND t) (p : List UInt8) : ND (trimPrefix t p) := by
  unfold Lib.trimPrefix; split
  · exact h.drop _
  · exact h
theorem ND.trimSuffix {t : List UInt8} (h : ND t) (p : List UInt8) : ND (trimSuffix t p) := by
  unfold Lib.trimSuffix; split
  · exact h.take _
  · exact h
theorem ND.nil : ND [] := fun a b h => by simp at h
theorem ND.tail {x : UInt8} {t : List UInt8} (h : ND (x :: t)) : ND t := h.drop 1

theorem ND.snoc {o : List UInt8} {c : UInt8} (h : ND o) (hc : c = 32 → ∀ a, o ≠ a ++ [32]) : ND (o ++ [c]) := fun a b he => by
  rcases List.eq_nil_or_concat b with rfl | ⟨q, y, rfl⟩
  · have e : o ++ [c] = (a ++ [32]) ++ [32] := by rw [he]; simp
    obtain ⟨h1, h2⟩ := List.append_inj' e rfl
    simp only [List.cons.injEq, and_true] at h2
    exact hc h2 a h1
  · have e : o ++ [c] = (a ++ 32 :: 32 :: q) ++ [y] := by rw [he]; simp
    exact h a q (List.append_inj' e rfl).1

theorem ND.step {o : List UInt8} {c : UInt8} (h : ND o) : ND (stepB o c) := by
  by_cases hc : c = 32
  · subst hc
    by_cases h0 : o = []
    · subst h0; rw [stepB_nil]; exact h
    · by_cases hl : ((o.getD ((o.length : Int) - 1).toNat 0).toNat : Int) = 32
      · rw [stepB_blank hl]; exact h
      · rw [stepB_first h0 hl]
        refine h.snoc fun _ a he => hl ?_
        subst he
        have e : (((a ++ [32]).length : Int) - 1).toNat = a.length := by simp
        rw [e]
        simp
  · rw [stepB_other hc]
    exact h.snoc fun hh => absurd hh hc

theorem ND.single (s : List UInt8) : ND (singleB s) := by
  unfold singleB
  refine ND.trimSuffix ?_ _
  have : ∀ (l : List UInt8) (o : List UInt8), ND o → ND (l.foldl stepB o) := by
    intro l
    induction l with
    | nil => exact fun o h => h
    | cons x r ih => exact fun o h => ih _ h.step
  exact this s [] ND.nil

/-- Without each blank next to a slash; p: is there a slash ahead? -/
def dropR : Bool → List UInt8 → List UInt8
  | _, [] => []
  | p, x :: r => if x = 32 then (if p = true ∨ r.head? = some 47 then dropR false r else 32 :: dropR false r) else x :: dropR (x = 47) r

/-- The pieces, trimmed, with slashes between them; b: is the first piece the first one of all? -/
def joinR : Bool → List (List UInt8) → List UInt8
  | _, [] => []
  | b, [p] => if b = true then p else trimLeftB p 32
  | b, p :: q :: r => trimRightB (if b = true then p else trimLeftB p 32) 32 ++ 47 :: joinR false (q :: r)

theorem trimR_cons (x : UInt8) (l : List UInt8) (c : UInt8) : trimRightB (x :: l) c = if trimRightB l c = [] ∧ x = c then [] else x :: trimRightB l c := by
  unfold trimRightB
  rw [List.reverse_cons, List.dropWhile_append]
  by_cases h : (l.reverse.dropWhile (· == c)) = []
  · simp only [h, List.isEmpty_nil, if_true, List.reverse_nil]
    by_cases hx : x = c
    · subst hx; simp
    · simp [hx]
  · have h2 : (l.reverse.dropWhile (· == c)).isEmpty = false := by simpa using h
    simp only [h2, Bool.false_eq_true, if_false]
    rw [if_neg (by simp [h])]
    simp
theorem trimL_cons (x : UInt8) (l : List UInt8) (c : UInt8) : trimLeftB (x :: l) c = if x = c then trimLeftB l c else x :: l := by
  unfold trimLeftB
  simp only [List.dropWhile_cons, beq_iff_eq]
theorem trimL_nil (c : UInt8) : trimLeftB [] c = [] := rfl
theorem trimR_nil (c : UInt8) : trimRightB [] c = [] := rfl

theorem split_head (c : UInt8) (r : List UInt8) : ((splitOn c r).headD []).head? = if r.head? = some c then none else r.head? := by
  cases r with
  | nil => rfl
  | cons x r =>
    by_cases h : x = c
    · subst h; simp [splitOn]
    · simp [splitOn, h]

theorem dropR_eq : ∀ (t : List UInt8) (b : Bool), ND t → dropR (!b) t = joinR b (splitOn 47 t)
  | [], b, _ => by cases b <;> rfl
  | x :: r, b, h => by
    have ih := fun b => dropR_eq r b h.tail
    have ih1 := ih true
    have ih0 := ih false
    have hh := split_head 47 r
    have e := splitOn_eq 47 r
    have h32 : x = 32 → r.head? ≠ some 32 := fun hx hr => by
      cases r with
      | nil => simp at hr
      | cons y q =>
        simp at hr
        subst hx; subst hr
        exact h [] q rfl
    generalize hp : (splitOn 47 r).headD [] = p at *
    generalize hq : (splitOn 47 r).tail = q at *
    rw [e] at ih1 ih0
    simp only [Bool.not_true, Bool.not_false] at ih1 ih0
    by_cases h47 : x = 47
    · subst h47
      have e2 : splitOn 47 (47 :: r) = [] :: p :: q := by simp only [splitOn, if_true]; exact congrArg _ e
      rw [e2]
      simp only [dropR, joinR, decide_true]
      rw [if_neg (by decide), ih0]
      cases b <;> rfl
    · have e2 : splitOn 47 (x :: r) = (x :: p) :: q := by simp only [splitOn, if_neg h47, hp, hq]
      rw [e2]
      by_cases hx : x = 32
      · subst hx
        have hr := h32 rfl
        have hpl : trimLeftB p 32 = p := by
          cases p with
          | nil => rfl
          | cons y p' =>
            rw [trimL_cons, if_neg]
            rintro rfl
            by_cases hc : r.head? = some 47
            · rw [if_pos hc] at hh; simp at hh
            · rw [if_neg hc] at hh; exact hr (by rw [← hh]; rfl)
        have hpr : p ≠ [] → trimRightB p 32 ≠ [] := by
          cases p with
          | nil => exact fun h => absurd rfl h
          | cons y p' =>
            intro _ hc
            rw [trimR_cons] at hc
            split at hc
            · rename_i hy
              have hy' := hy.2
              subst hy'
              by_cases hc : r.head? = some 47
              · rw [if_pos hc] at hh; simp at hh
              · rw [if_neg hc] at hh; exact hr (by rw [← hh]; rfl)
            · cases hc
        have hpe : p = [] → r.head? = some 47 ∨ r = [] := fun hp0 => by
          rw [hp0] at hh
          by_cases hc : r.head? = some 47
          · exact .inl hc
          · rw [if_neg hc] at hh
            right
            cases r with
            | nil => rfl
            | cons y q => simp at hh
        have hpn : p ≠ [] → r.head? ≠ some 47 := fun hp0 hc => by
          rw [if_pos hc] at hh
          cases p with
          | nil => exact hp0 rfl
          | cons y p' => simp at hh
        simp only [dropR, if_true]
        cases b with
        | false =>
          rw [if_pos (.inl rfl), ih1]
          cases q with
          | nil => simp only [joinR, Bool.false_eq_true, if_false, if_true]; rw [trimL_cons, if_pos rfl, hpl]
          | cons y q' => simp only [joinR, Bool.false_eq_true, if_false, if_true]; rw [trimL_cons, if_pos rfl, hpl]
        | true =>
          cases q with
          | nil =>
            have hn : ¬ ((!true) = true ∨ r.head? = some 47) := by
              rintro (hb | hc)
              · simp at hb
              · have : r.head? = some 47 := hc
                cases r with
                | nil => simp at this
                | cons y r' =>
                  simp at this
                  subst this
                  simp [splitOn] at hq
                  exact splitOn_ne _ _ hq
            rw [if_neg hn, ih1]
            rfl
          | cons y q' =>
            simp only [joinR, if_true] at ih1 ⊢
            by_cases hp0 : p = []
            · subst hp0
              rcases hpe rfl with hc | hc
              · rw [if_pos (.inr hc), ih1, trimR_cons, if_pos ⟨rfl, rfl⟩]
                rfl
              · subst hc
                simp [splitOn] at hq
            · have hn : ¬ ((!true) = true ∨ r.head? = some 47) := by
                rintro (hb | hc)
                · simp at hb
                · exact hpn hp0 hc
              rw [if_neg hn, ih1, trimR_cons, if_neg (fun hh => hpr hp0 hh.1)]
              rfl
      · simp only [dropR, if_neg hx, decide_eq_false h47]
        rw [ih1]
        cases q with
        | nil =>
          simp only [joinR, if_true]
          cases b
          · simp only [Bool.false_eq_true, if_false]; rw [trimL_cons, if_neg hx]
          · rfl
        | cons y q' =>
          simp only [joinR, if_true]
          cases b
          · simp only [Bool.false_eq_true, if_false]; rw [trimL_cons, if_neg hx, trimR_cons, if_neg (fun hh => hx hh.2)]; rfl
          · simp only [if_true]; rw [trimR_cons, if_neg (fun hh => hx hh.2)]; rfl

/-- What the pieces of the program are. -/
theorem joinR_pieces : ∀ (ps : List (List UInt8)) (k n : Nat), n = k + ps.length → joinOn 47 (ps.mapIdx fun i p => slP n (k + i) p) = joinR (decide (k = 0)) ps
  | [], _, _, _ => rfl
  | [p], k, n, hn => by
    subst hn
    simp only [List.mapIdx_cons, List.mapIdx_nil, joinOn, joinR, Nat.add_zero, List.length_cons, List.length_nil, Nat.zero_add]
    unfold slP
    rw [if_neg (by omega)]
    by_cases hk : k = 0
    · rw [if_neg (by omega), decide_eq_true hk]; rfl
    · rw [if_pos (by omega), decide_eq_false hk]; rfl
  | p :: q :: r, k, n, hn => by
    have ih := joinR_pieces (q :: r) (k + 1) n (by simp at hn ⊢; omega)
    have e : ((p :: q :: r).mapIdx fun i p => slP n (k + i) p) = slP n k p :: ((q :: r).mapIdx fun i p => slP n (k + 1 + i) p) := by
      rw [List.mapIdx_cons]
      simp only [Nat.add_zero, Nat.add_assoc, Nat.add_comm 1]
    have hne : ((q :: r).mapIdx fun i p => slP n (k + 1 + i) p) ≠ [] := by simp [List.mapIdx_cons]
    rw [e]
    cases hm : (q :: r).mapIdx fun i p => slP n (k + 1 + i) p with
    | nil => exact absurd hm hne
    | cons y t =>
      rw [hm] at ih
      simp only [joinOn, joinR]
      rw [ih, decide_eq_false (by omega : ¬ k + 1 = 0)]
      congr 1
      unfold slP
      simp only [List.length_cons] at hn
      rw [if_pos (by omega)]
      by_cases hk : k = 0
      · rw [if_neg (by omega), decide_eq_true hk]; rfl
      · rw [if_pos (by omega), decide_eq_false hk]; rfl

/-- Is there a slash just ahead of place i? -/
def ps (t : List UInt8) (i : Nat) : Bool := decide (0 < (i : Int)) && decide (((t.getD ((i : Int) - 1).toNat 0).toNat : Int) = 47)

/-- Is the byte at place i left out? -/
def skipB (t : List UInt8) (i : Nat) : Bool := decide (((t.getD i 0).toNat : Int) = 32) && (ps t i || (decide ((i : Int) + 1 < (t.length : Int)) && decide (((t.getD ((i : Int) + 1).toNat 0).toNat : Int) = 47)))

theorem byte_iff {x : UInt8} {n : Nat} (hn : n < 256) : (x.toNat : Int) = (n : Int) ↔ x = UInt8.ofNat n := by
  have e : (UInt8.ofNat n).toNat = n % 256 := by simp
  rw [Nat.mod_eq_of_lt hn] at e
  constructor
  · intro h; exact UInt8.toNat_inj.1 (by rw [e]; omega)
  · rintro rfl; rw [e]

theorem dropR_step {t : List UInt8} {i : Nat} (h : i < t.length) : dropR (ps t i) (t.drop i) = if skipB t i = true then dropR (ps t (i + 1)) (t.drop (i + 1)) else t.getD i 0 :: dropR (ps t (i + 1)) (t.drop (i + 1)) := by
  have hd : t.drop i = t.getD i 0 :: t.drop (i + 1) := by rw [List.drop_eq_getElem_cons h]; simp [h]
  have hp : ps t (i + 1) = decide (t.getD i 0 = 47) := by
    have h1 : (((i + 1 : Nat) : Int) - 1).toNat = i := by omega
    have h2 : (0 : Int) < ((i + 1 : Nat) : Int) := by omega
    unfold ps
    rw [h1, decide_eq_true h2, Bool.true_and]
    exact decide_eq_decide.2 (byte_iff (n := 47) (by decide))
  have hn : (t.drop (i + 1)).head? = some 47 ↔ (decide ((i : Int) + 1 < (t.length : Int)) && decide (((t.getD ((i : Int) + 1).toNat 0).toNat : Int) = 47)) = true := by
    have h1 : ((i : Int) + 1).toNat = i + 1 := by omega
    rw [h1, Bool.and_eq_true, decide_eq_true_eq, decide_eq_true_eq, List.head?_drop]
    have h2 : (((t.getD (i + 1) 0).toNat : Int) = 47) ↔ t.getD (i + 1) 0 = 47 := byte_iff (n := 47) (by decide)
    rw [h2]
    by_cases hl : i + 1 < t.length
    · have h3 : (i : Int) + 1 < (t.length : Int) := by omega
      simp [hl, h3]
    · have h3 : ¬ (i : Int) + 1 < (t.length : Int) := by omega
      simp [hl, h3]
  rw [hd, hp]
  simp only [dropR]
  unfold skipB
  have h32 : (((t.getD i 0).toNat : Int) = 32) ↔ t.getD i 0 = 32 := byte_iff (n := 32) (by decide)
  by_cases hx : t.getD i 0 = 32
  · have h4 : decide (t.getD i 0 = 47) = false := by rw [hx]; decide
    rw [if_pos hx, decide_eq_true (h32.2 hx), Bool.true_and, h4]
    by_cases hc : ps t i = true ∨ (t.drop (i + 1)).head? = some 47
    · rw [if_pos hc, if_pos]
      rw [Bool.or_eq_true, ← hn]; exact hc
    · rw [if_neg hc, if_neg, hx]
      rw [Bool.or_eq_true, ← hn]; exact hc
  · rw [if_neg hx, decide_eq_false (fun hh => hx (h32.1 hh)), Bool.false_and, if_neg (by decide)]

theorem slashes_eq (t : List UInt8) (h : ND t) : slashesB t = dropR false t := by
  have h1 := joinR_pieces (splitOn 47 t) 0 (splitOn 47 t).length (by simp)
  have h2 := dropR_eq t true h
  simp only [Nat.zero_add, decide_true] at h1
  rw [← h1] at h2
  exact h2.symm

end Go.X
