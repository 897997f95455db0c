/- This text walks through the function Valid of the reference of chapter 1. -/
import Derived.Test.YthknndkjnglegaaGreatI13
set_option linter.all false

namespace Go.Proofs
open Go Go.X
set_option maxRecDepth 100000
theorem refValid_ok (sp : Int) (s : List UInt8) (hs : s.length ≤ 1000000) : FnS Tryz.prog 82 [.agg [.i .i64 sp, .s s]] [] [] (Is (.c (.b (validT sp s)))) := by
  have hcn : (colonNo s : Int) = 0 ↔ colonNo s = 0 := by omega
  have hsl := splitOn_length_le 47 s
  have hml := mem_splitOn_le 47 s
  refine fn_of_J Tryz.tyOK 0 Tryz.func82 (by kernel_rfl) (c := Tryz.f82.body.getD .skip) (by kernel_rfl) Tryz.ntmps82 (rs := Tryz.f82.results.toList) rfl (by simp) (fun G => ?_)
  repeat' first | refine J_stop (c := .seq (.seq (.region 4 _ _) _) _) ?_ | refine J_seq ?_ | refine J_region Tryz.tyOK ?_ | refine J_block ?_ | refine J_cond ?_ | refine J_ret ?_ | refine J_skip ?_ | refine J_exit ?_ | refine J_scope ?_ | refine CondP.y ?_ | refine CondP.n ?_ | refine CondP.mk (fun h => ?_) (fun h => ?_) | refine EqP.mk rfl ?_ | refine NewP.mk (fun ad => ?_) | refine ArP.x ?_ | refine SideP.a ?_ | refine FinE.bool ?_ | fail
  rotate_right
  · refine ⟨?_⟩
    refine J_seq ?_
    repeat' first | refine J_seq ?_ | refine J_region Tryz.tyOK ?_ | refine J_block ?_ | refine J_cond ?_ | refine J_ret ?_ | refine J_skip ?_ | refine J_exit ?_ | refine J_scope ?_ | refine CondP.y ?_ | refine CondP.n ?_ | refine CondP.mk (fun h => ?_) (fun h => ?_) | refine EqP.mk rfl ?_ | refine NewP.mk (fun ad => ?_) | refine ArP.x ?_ | refine SideP.a ?_ | fail | fail
    refine J_loop (α := Nat) (fun i => [(3, .c (.s s)), (4, .c (.i .i64 i)), (1, .c (.p 0 ad 0))]) (fun _ => [.box 0 ad 50 [.i .i64 sp, .s s]]) (fun _ => []) 1
      (fun i => i ≤ s.length ∧ cleanB false s = cleanB (pv s i) (s.drop i)) (fun i => s.length - i) (InFam.mk 0 ⟨by omega, by simp [pv]⟩ SubE.a (Ents.refl _ _)) (fun i hi => ?_)
    obtain ⟨hi, hcl⟩ := hi
    by_cases hlt : i < s.length
    · have hst := clean_step hlt
      have hb := (s.getD i 0).toNat_lt
      have h1 := slice_one hlt
      have c1 : FnS Tryz.prog 115 [.c (.s [60, 62, 91, 93, 123, 125, 124, 35, 95]), .c (.s ((s.take (i + 1)).drop i)), .c (.i .i64 (0 : Nat))] [] [] (Is (.c (.i .i64 (Lib.indexByte [60, 62, 91, 93, 123, 125, 124, 35, 95] (s.getD i 0))))) := by
        rw [h1, ← refIdx_byte]
        exact index_ok _ _ 0 (by decide) (by simp) (by simp) (by decide)
      repeat' first | refine J_seq ?_ | refine J_region Tryz.tyOK ?_ | refine J_block ?_ | refine J_cond ?_ | refine J_ret ?_ | refine J_skip ?_ | refine J_exit ?_ | refine J_scope ?_ | refine CondP.y ?_ | refine CondP.n ?_ | refine CondP.mk (fun h => ?_) (fun h => ?_) | refine EqP.mk rfl ?_ | refine NewP.mk (fun ad => ?_) | refine ArP.x ?_ | refine SideP.a ?_ | refine CallP.is c1 ?_ | refine FinE.bool ?_ | refine Round.mk (i + 1) (by omega) ⟨by omega, ?_⟩ SubE.a (Ents.refl _ _) | fail
      all_goals simp only [Int.toNat_natCast] at *
      all_goals first | (show validT sp s = false; have hc : cleanB false s = false := by (rw [hcl, hst]; clear hcl hst; (try simp only [Int.toNat_natCast, Int.toNat_zero] at *); simp only [badB, pv, *, decide_true, decide_false, Bool.true_and, Bool.false_and, Bool.and_true, Bool.and_false, Bool.not_true, Bool.not_false, Bool.true_or, Bool.false_or, Bool.or_true, Bool.or_false, not_true, not_false_eq_true, ne_eq, if_true, if_false, Bool.false_eq_true]; try rfl)
                         simp [validT, hc]) | skip
      all_goals (rw [hcl, hst]; clear hcl hst; (try simp only [Int.toNat_natCast, Int.toNat_zero] at *); simp only [badB, pv, *, decide_true, decide_false, Bool.true_and, Bool.false_and, Bool.and_true, Bool.and_false, Bool.not_true, Bool.not_false, Bool.true_or, Bool.false_or, Bool.or_true, Bool.or_false, not_true, not_false_eq_true, ne_eq, if_true, if_false, Bool.false_eq_true]; try rfl)
    · have hil : i = s.length := by omega
      subst hil
      have hcl' : cleanB false s = true := by rw [hcl]; simp [cleanB]
      clear hcl
      repeat' first | refine J_seq ?_ | refine J_region Tryz.tyOK ?_ | refine J_block ?_ | refine J_cond ?_ | refine J_ret ?_ | refine J_skip ?_ | refine J_exit ?_ | refine J_scope ?_ | refine CondP.y ?_ | refine CondP.n ?_ | refine CondP.mk (fun h => ?_) (fun h => ?_) | refine EqP.mk rfl ?_ | refine NewP.mk (fun ad => ?_) | refine ArP.x ?_ | refine SideP.a ?_ | refine CallP.mk [] _ _ _ (parts_ok s hs) (List.Perm.refl _) (fun _ h => h) (fun v L' D' hp => ?_); obtain ⟨a, c, rfl, rfl, rfl⟩ := hp | fail
      refine J_loop (α := Nat) (fun i => [(6, .c (.i .i64 i)), (5, .c (.sl a (splitOn 47 s).length c)), (3, .c (.s s)), (1, .c (.p 0 ad 0))])
        (fun _ => [.box 0 ad 50 [.i .i64 sp, .s s]]) (fun _ => [slFact 9 1 a (splitOn 47 s).length ((splitOn 47 s).map C.s)]) 1
        (fun i => i ≤ (splitOn 47 s).length ∧ (splitOn 47 s).all pieceOK = ((splitOn 47 s).drop i).all pieceOK) (fun i => (splitOn 47 s).length - i)
        (InFam.mk 0 ⟨by omega, rfl⟩ SubE.a Ents.toFact) (fun i hi => ?_)
      obtain ⟨hi, hal⟩ := hi
      by_cases hlt : i < (splitOn 47 s).length
      · have hrd : Reads [.box 0 ad 50 [.i .i64 sp, .s s]] [slFact 9 1 a (splitOn 47 s).length ((splitOn 47 s).map C.s)] 9 1 a (splitOn 47 s).length ((splitOn 47 s).map C.s) :=
          .inr fun m h => h.1
        rw [List.drop_eq_getElem_cons hlt, List.all_cons] at hal
        have hpl := hml _ (List.getElem_mem hlt)
        repeat' first | refine J_seq ?_ | refine J_region Tryz.tyOK ?_ | refine J_block ?_ | refine J_cond ?_ | refine J_ret ?_ | refine J_skip ?_ | refine J_exit ?_ | refine J_scope ?_ | refine CondP.y ?_ | refine CondP.n ?_ | refine CondP.mk (fun h => ?_) (fun h => ?_) | refine EqP.mk rfl ?_ | refine NewP.mk (fun ad => ?_) | refine ArP.x ?_ | refine SideP.a ?_ | refine J_draw Tryz.tyOK (by kernel_rfl) [0, 1, 2, 3, 4, 5, 6, 7, 8, 9, 10, 11, 12, 13, 14, 15, 16, 17, 18, 19, 20, 21, 22, 23, 24, 25, 26] [] _ _ (by kernel_rfl) (Ents.refl _ _) ?_ | refine IdxE.mk 9 1 _ hrd (by omega) (by omega) ?_ | refine LoadE.mk 9 _ _ [C.s (splitOn 47 s)[i]] hrd (by omega) (by omega) (by omega) (map_take1 hlt) ?_ | refine SideP.mk (by have := pos_of_ne ‹¬ (splitOn 47 s)[i] = []›; omega) ?_ | refine FinE.bool ?_ | refine Round.mk (i + 1) (by omega) ⟨by omega, ?_⟩ SubE.a (Ents.refl _ _) | fail
        all_goals ((try simp only [Int.toNat_natCast, Int.toNat_zero] at *); simp only [validT, pieceOK, *, decide_true, decide_false, Bool.true_and, Bool.false_and, Bool.and_true, Bool.and_false, Bool.not_true, Bool.not_false, Bool.true_or, Bool.false_or, Bool.or_true, Bool.or_false, not_true, not_false_eq_true, ne_eq, if_true, if_false, Bool.false_eq_true]; try rfl)
      · have hil : i = (splitOn 47 s).length := by omega
        subst hil
        simp only [List.drop_length, List.all_nil] at hal
        have e : ∀ b : Bool, b = (headOK s && (!decide (sp = 0) || !decide (colonNo s ≠ 0))) → validT sp s = b := by
          rintro b rfl
          (try simp only [Int.toNat_natCast, Int.toNat_zero] at *); simp only [validT, *, decide_true, decide_false, Bool.true_and, Bool.false_and, Bool.and_true, Bool.and_false, Bool.not_true, Bool.not_false, Bool.true_or, Bool.false_or, Bool.or_true, Bool.or_false, not_true, not_false_eq_true, ne_eq, if_true, if_false, Bool.false_eq_true]
        clear hal hcl'
        repeat' first | refine J_seq ?_ | refine J_region Tryz.tyOK ?_ | refine J_block ?_ | refine J_cond ?_ | refine J_ret ?_ | refine J_skip ?_ | refine J_exit ?_ | refine J_scope ?_ | refine CondP.y ?_ | refine CondP.n ?_ | refine CondP.mk (fun h => ?_) (fun h => ?_) | refine EqP.mk rfl ?_ | refine NewP.mk (fun ad => ?_) | refine ArP.x ?_ | refine SideP.a ?_ | refine FinE.bool (e _ ?_) | refine CallP.is (prefixed_ok s hs) ?_ | fail
        all_goals (clear e; rw [hcn] at *; (try simp only [Int.toNat_natCast, Int.toNat_zero] at *); simp only [headOK, *, decide_true, decide_false, Bool.true_and, Bool.false_and, Bool.and_true, Bool.and_false, Bool.not_true, Bool.not_false, Bool.true_or, Bool.false_or, Bool.or_true, Bool.or_false, not_true, not_false_eq_true, ne_eq, if_true, if_false, Bool.false_eq_true]; try rfl)
  all_goals ((try simp only [Int.toNat_natCast, Int.toNat_zero] at *); simp only [validT, *, decide_true, decide_false, Bool.true_and, Bool.false_and, Bool.and_true, Bool.and_false, Bool.not_true, Bool.not_false, Bool.true_or, Bool.false_or, Bool.or_true, Bool.or_false, not_true, not_false_eq_true, ne_eq, if_true, if_false, Bool.false_eq_true]; try rfl)
end Go.Proofs

/- This text proves in plain Lean that, in a text without two blanks side by side, leaving out each blank next to a slash is the same as trimming the pieces between the slashes. -/
namespace Go.X
open Go.Lib
/-- No two blanks side by side. -/
def ND (t : List UInt8) : Prop := ∀ a b, t ≠ a ++ 32 :: 32 :: b
theorem ND.drop {t : List UInt8} (h : ND t) (n : Nat) : ND (t.drop n) := fun a b he => h (t.take n ++ a) b (by
  rw [List.append_assoc, ← he, List.take_append_drop])
theorem ND.take {t : List UInt8} (h : ND t) (n : Nat) : ND (t.take n) := fun a b he => h a (b ++ t.drop n) (by
  have := congrArg (· ++ t.drop n) he
  simpa using this)
theorem ND.trimPrefix {t : List UInt8} (h : ND t) (p : List UInt8) : ND (trimPrefix t p) := by
  unfold Lib.trimPrefix; split
  · exact h.drop _
  · exact h
theorem ND.trimSuffix {t : List UInt8} (h : ND t) (p : List UInt8) : ND (trimSuffix t p) := by
  unfold Lib.trimSuffix; split
  · exact h.take _
  · exact h
theorem ND.nil : ND [] := fun a b h => by simp at h
theorem ND.tail {x : UInt8} {t : List UInt8} (h : ND (x :: t)) : ND t := h.drop 1
theorem ND.snoc {o : List UInt8} {c : UInt8} (h : ND o) (hc : c = 32 → ∀ a, o ≠ a ++ [32]) : ND (o ++ [c]) := fun a b he => by
  rcases List.eq_nil_or_concat b with rfl | ⟨q, y, rfl⟩
  · have e : o ++ [c] = (a ++ [32]) ++ [32] := by rw [he]; simp
    obtain ⟨h1, h2⟩ := List.append_inj' e rfl
    simp only [List.cons.injEq, and_true] at h2
    exact hc h2 a h1
  · have e : o ++ [c] = (a ++ 32 :: 32 :: q) ++ [y] := by rw [he]; simp
    exact h a q (List.append_inj' e rfl).1
theorem ND.step {o : List UInt8} {c : UInt8} (h : ND o) : ND (stepB o c) := by
  by_cases hc : c = 32
  · subst hc
    by_cases h0 : o = []
    · subst h0; rw [stepB_nil]; exact h
    · by_cases hl : ((o.getD ((o.length : Int) - 1).toNat 0).toNat : Int) = 32
      · rw [stepB_blank hl]; exact h
      · rw [stepB_first h0 hl]
        refine h.snoc fun _ a he => hl ?_
        subst he
        have e : (((a ++ [32]).length : Int) - 1).toNat = a.length := by simp
        rw [e]
        simp
  · rw [stepB_other hc]
    exact h.snoc fun hh => absurd hh hc
theorem ND.single (s : List UInt8) : ND (singleB s) := by
  unfold singleB
  refine ND.trimSuffix ?_ _
  have : ∀ (l : List UInt8) (o : List UInt8), ND o → ND (l.foldl stepB o) := by
    intro l
    induction l with
    | nil => exact fun o h => h
    | cons x r ih => exact fun o h => ih _ h.step
  exact this s [] ND.nil
/-- Without each blank next to a slash; p: is there a slash ahead? -/
def dropR : Bool → List UInt8 → List UInt8
  | _, [] => []
  | p, x :: r => if x = 32 then (if p = true ∨ r.head? = some 47 then dropR false r else 32 :: dropR false r) else x :: dropR (x = 47) r
/-- The pieces, trimmed, with slashes between them; b: is the first piece the first one of all? -/
def joinR : Bool → List (List UInt8) → List UInt8
  | _, [] => []
  | b, [p] => if b = true then p else trimLeftB p 32
  | b, p :: q :: r => trimRightB (if b = true then p else trimLeftB p 32) 32 ++ 47 :: joinR false (q :: r)
theorem trimR_cons (x : UInt8) (l : List UInt8) (c : UInt8) : trimRightB (x :: l) c = if trimRightB l c = [] ∧ x = c then [] else x :: trimRightB l c := by
  unfold trimRightB
  rw [List.reverse_cons, List.dropWhile_append]
  by_cases h : (l.reverse.dropWhile (· == c)) = []
  · simp only [h, List.isEmpty_nil, if_true, List.reverse_nil]
    by_cases hx : x = c
    · subst hx; simp
    · simp [hx]
  · have h2 : (l.reverse.dropWhile (· == c)).isEmpty = false := by simpa using h
    simp only [h2, Bool.false_eq_true, if_false]
    rw [if_neg (by simp [h])]
    simp
theorem trimL_cons (x : UInt8) (l : List UInt8) (c : UInt8) : trimLeftB (x :: l) c = if x = c then trimLeftB l c else x :: l := by
  unfold trimLeftB
  simp only [List.dropWhile_cons, beq_iff_eq]
theorem split_head (c : UInt8) (r : List UInt8) : ((splitOn c r).headD []).head? = if r.head? = some c then none else r.head? := by
  cases r with
  | nil => rfl
  | cons x r =>
    by_cases h : x = c
    · subst h; simp [splitOn]
    · simp [splitOn, h]
theorem dropR_eq : ∀ (t : List UInt8) (b : Bool), ND t → dropR (!b) t = joinR b (splitOn 47 t)
  | [], b, _ => by cases b <;> rfl
  | x :: r, b, h => by
    have ih := fun b => dropR_eq r b h.tail
    have ih1 := ih true
    have ih0 := ih false
    have hh := split_head 47 r
    have e := splitOn_eq 47 r
    have h32 : x = 32 → r.head? ≠ some 32 := fun hx hr => by
      cases r with
      | nil => simp at hr
      | cons y q =>
        simp at hr
        subst hx; subst hr
        exact h [] q rfl
    generalize hp : (splitOn 47 r).headD [] = p at *
    generalize hq : (splitOn 47 r).tail = q at *
    rw [e] at ih1 ih0
    simp only [Bool.not_true, Bool.not_false] at ih1 ih0
    by_cases h47 : x = 47
    · subst h47
      have e2 : splitOn 47 (47 :: r) = [] :: p :: q := by simp only [splitOn, if_true]; exact congrArg _ e
      rw [e2]
      simp only [dropR, joinR, decide_true]
      rw [if_neg (by decide), ih0]
      cases b <;> rfl
    · have e2 : splitOn 47 (x :: r) = (x :: p) :: q := by simp only [splitOn, if_neg h47, hp, hq]
      rw [e2]
      by_cases hx : x = 32
      · subst hx
        have hr := h32 rfl
        have hpl : trimLeftB p 32 = p := by
          cases p with
          | nil => rfl
          | cons y p' =>
            rw [trimL_cons, if_neg]
            rintro rfl
            by_cases hc : r.head? = some 47
            · rw [if_pos hc] at hh; simp at hh
            · rw [if_neg hc] at hh; exact hr (by rw [← hh]; rfl)
        have hpr : p ≠ [] → trimRightB p 32 ≠ [] := by
          cases p with
          | nil => exact fun h => absurd rfl h
          | cons y p' =>
            intro _ hc
            rw [trimR_cons] at hc
            split at hc
            · rename_i hy
              have hy' := hy.2
              subst hy'
              by_cases hc : r.head? = some 47
              · rw [if_pos hc] at hh; simp at hh
              · rw [if_neg hc] at hh; exact hr (by rw [← hh]; rfl)
            · cases hc
        have hpe : p = [] → r.head? = some 47 ∨ r = [] := fun hp0 => by
          rw [hp0] at hh
          by_cases hc : r.head? = some 47
          · exact .inl hc
          · rw [if_neg hc] at hh
            right
            cases r with
            | nil => rfl
            | cons y q => simp at hh
        have hpn : p ≠ [] → r.head? ≠ some 47 := fun hp0 hc => by
          rw [if_pos hc] at hh
          cases p with
          | nil => exact hp0 rfl
          | cons y p' => simp at hh
        simp only [dropR, if_true]
        cases b with
        | false =>
          rw [if_pos (.inl rfl), ih1]
          cases q with
          | nil => simp only [joinR, Bool.false_eq_true, if_false, if_true]; rw [trimL_cons, if_pos rfl, hpl]
          | cons y q' => simp only [joinR, Bool.false_eq_true, if_false, if_true]; rw [trimL_cons, if_pos rfl, hpl]
        | true =>
          cases q with
          | nil =>
            have hn : ¬ ((!true) = true ∨ r.head? = some 47) := by
              rintro (hb | hc)
              · simp at hb
              · have : r.head? = some 47 := hc
                cases r with
                | nil => simp at this
                | cons y r' =>
                  simp at this
                  subst this
                  simp [splitOn] at hq
                  exact splitOn_ne _ _ hq
            rw [if_neg hn, ih1]
            rfl
          | cons y q' =>
            simp only [joinR, if_true] at ih1 ⊢
            by_cases hp0 : p = []
            · subst hp0
              rcases hpe rfl with hc | hc
              · rw [if_pos (.inr hc), ih1, trimR_cons, if_pos ⟨rfl, rfl⟩]
                rfl
              · subst hc
                simp [splitOn] at hq
            · have hn : ¬ ((!true) = true ∨ r.head? = some 47) := by
                rintro (hb | hc)
                · simp at hb
                · exact hpn hp0 hc
              rw [if_neg hn, ih1, trimR_cons, if_neg (fun hh => hpr hp0 hh.1)]
              rfl
      · simp only [dropR, if_neg hx, decide_eq_false h47]
        rw [ih1]
        cases q with
        | nil =>
          simp only [joinR, if_true]
          cases b
          · simp only [Bool.false_eq_true, if_false]; rw [trimL_cons, if_neg hx]
          · rfl
        | cons y q' =>
          simp only [joinR, if_true]
          cases b
          · simp only [Bool.false_eq_true, if_false]; rw [trimL_cons, if_neg hx, trimR_cons, if_neg (fun hh => hx hh.2)]; rfl
          · simp only [if_true]; rw [trimR_cons, if_neg (fun hh => hx hh.2)]; rfl
/-- What the pieces of the program are. -/
theorem joinR_pieces : ∀ (ps : List (List UInt8)) (k n : Nat), n = k + ps.length → joinOn 47 (ps.mapIdx fun i p => slP n (k + i) p) = joinR (decide (k = 0)) ps
  | [], _, _, _ => rfl
  | [p], k, n, hn => by
    subst hn
    simp only [List.mapIdx_cons, List.mapIdx_nil, joinOn, joinR, Nat.add_zero, List.length_cons, List.length_nil, Nat.zero_add]
    unfold slP
    rw [if_neg (by omega)]
    by_cases hk : k = 0
    · rw [if_neg (by omega), decide_eq_true hk]; rfl
    · rw [if_pos (by omega), decide_eq_false hk]; rfl
  | p :: q :: r, k, n, hn => by
    have ih := joinR_pieces (q :: r) (k + 1) n (by simp at hn ⊢; omega)
    have e : ((p :: q :: r).mapIdx fun i p => slP n (k + i) p) = slP n k p :: ((q :: r).mapIdx fun i p => slP n (k + 1 + i) p) := by
      rw [List.mapIdx_cons]
      simp only [Nat.add_zero, Nat.add_assoc, Nat.add_comm 1]
    have hne : ((q :: r).mapIdx fun i p => slP n (k + 1 + i) p) ≠ [] := by simp [List.mapIdx_cons]
    rw [e]
    cases hm : (q :: r).mapIdx fun i p => slP n (k + 1 + i) p with
    | nil => exact absurd hm hne
    | cons y t =>
      rw [hm] at ih
      simp only [joinOn, joinR]
      rw [ih, decide_eq_false (by omega : ¬ k + 1 = 0)]
      congr 1
      unfold slP
      simp only [List.length_cons] at hn
      rw [if_pos (by omega)]
      by_cases hk : k = 0
      · rw [if_neg (by omega), decide_eq_true hk]; rfl
      · rw [if_pos (by omega), decide_eq_false hk]; rfl
/-- Is there a slash just ahead of place i? -/
def ps (t : List UInt8) (i : Nat) : Bool := decide (0 < (i : Int)) && decide (((t.getD ((i : Int) - 1).toNat 0).toNat : Int) = 47)
/-- Is the byte at place i left out? -/
def skipB (t : List UInt8) (i : Nat) : Bool := decide (((t.getD i 0).toNat : Int) = 32) && (ps t i || (decide ((i : Int) + 1 < (t.length : Int)) && decide (((t.getD ((i : Int) + 1).toNat 0).toNat : Int) = 47)))
theorem byte_iff {x : UInt8} {n : Nat} (hn : n < 256) : (x.toNat : Int) = (n : Int) ↔ x = UInt8.ofNat n := by
  have e : (UInt8.ofNat n).toNat = n % 256 := by simp
  rw [Nat.mod_eq_of_lt hn] at e
  constructor
  · intro h; exact UInt8.toNat_inj.1 (by rw [e]; omega)
  · rintro rfl; rw [e]
theorem dropR_step {t : List UInt8} {i : Nat} (h : i < t.length) : dropR (ps t i) (t.drop i) = if skipB t i = true then dropR (ps t (i + 1)) (t.drop (i + 1)) else t.getD i 0 :: dropR (ps t (i + 1)) (t.drop (i + 1)) := by
  have hd : t.drop i = t.getD i 0 :: t.drop (i + 1) := by rw [List.drop_eq_getElem_cons h]; simp [h]
  have hp : ps t (i + 1) = decide (t.getD i 0 = 47) := by
    have h1 : (((i + 1 : Nat) : Int) - 1).toNat = i := by omega
    have h2 : (0 : Int) < ((i + 1 : Nat) : Int) := by omega
    unfold ps
    rw [h1, decide_eq_true h2, Bool.true_and]
    exact decide_eq_decide.2 (byte_iff (n := 47) (by decide))
  have hn : (t.drop (i + 1)).head? = some 47 ↔ (decide ((i : Int) + 1 < (t.length : Int)) && decide (((t.getD ((i : Int) + 1).toNat 0).toNat : Int) = 47)) = true := by
    have h1 : ((i : Int) + 1).toNat = i + 1 := by omega
    rw [h1, Bool.and_eq_true, decide_eq_true_eq, decide_eq_true_eq, List.head?_drop]
    have h2 : (((t.getD (i + 1) 0).toNat : Int) = 47) ↔ t.getD (i + 1) 0 = 47 := byte_iff (n := 47) (by decide)
    rw [h2]
    by_cases hl : i + 1 < t.length
    · have h3 : (i : Int) + 1 < (t.length : Int) := by omega
      simp [hl, h3]
    · have h3 : ¬ (i : Int) + 1 < (t.length : Int) := by omega
      simp [hl, h3]
  rw [hd, hp]
  simp only [dropR]
  unfold skipB
  have h32 : (((t.getD i 0).toNat : Int) = 32) ↔ t.getD i 0 = 32 := byte_iff (n := 32) (by decide)
  by_cases hx : t.getD i 0 = 32
  · have h4 : decide (t.getD i 0 = 47) = false := by rw [hx]; decide
    rw [if_pos hx, decide_eq_true (h32.2 hx), Bool.true_and, h4]
    by_cases hc : ps t i = true ∨ (t.drop (i + 1)).head? = some 47
    · rw [if_pos hc, if_pos]
      rw [Bool.or_eq_true, ← hn]; exact hc
    · rw [if_neg hc, if_neg, hx]
      rw [Bool.or_eq_true, ← hn]; exact hc
  · rw [if_neg hx, decide_eq_false (fun hh => hx (h32.1 hh)), Bool.false_and, if_neg (by decide)]
theorem slashes_eq (t : List UInt8) (h : ND t) : slashesB t = dropR false t := by
  have h1 := joinR_pieces (splitOn 47 t) 0 (splitOn 47 t).length (by simp)
  have h2 := dropR_eq t true h
  simp only [Nat.zero_add, decide_true] at h1
  rw [← h1] at h2
  exact h2.symm
end Go.X

/- This text walks through the function Valid of the package title. -/
namespace Go.Proofs
open Go Go.X
set_option maxRecDepth 100000
end Go.Proofs

/- This text walks through the function Parse of the package title, and what it calls. -/
namespace Go.Proofs
open Go Go.X
set_option maxRecDepth 100000
end Go.Proofs

/- This text walks through the functions Parse, Format, Compare and Resolve of the package title. -/
namespace Go.Proofs
open Go Go.X
set_option maxRecDepth 100000
def parseV (r : Int × List UInt8 × Int) : V := .t2 (.agg [.i .i64 r.1, .s r.2.1]) (.c (.i .i64 r.2.2))
theorem up_byte {x : UInt8} (h : 97 ≤ (x.toNat : Int)) : [C.i .u8 ((x.toNat : Int) - 32)] = [x - 32].map byteC := by
  have : (x - 32).toNat = x.toNat - 32 := by
    rw [UInt8.toNat_sub_of_le]
    · rfl
    · rw [UInt8.le_iff_toNat_le]; simp; omega
  simp only [List.map_cons, List.map_nil, byteC, this]
  congr 2
  omega
end Go.Proofs

/- This text walks through the function Parse of the reference of chapter 1. -/
namespace Go.Proofs
open Go Go.X
set_option maxRecDepth 100000
theorem nd_colon {t : List UInt8} (h : ND t) : ND (noColon t) := by
  unfold noColon; split
  · exact (h.drop 1).trimPrefix _
  · exact h
theorem nd_behind {t : List UInt8} (h : ND t) : ND (behind t) := by
  unfold behind
  by_cases hc : (cutAt 58 t).2.2 = true
  · rw [← (cutAt_drop 58 t hc).1]; exact h.drop _
  · have : ∀ s : List UInt8, ¬ (cutAt 58 s).2.2 = true → (cutAt 58 s).2.1 = [] := by
      intro s
      induction s with
      | nil => intro _; rfl
      | cons x r ih =>
        intro hn
        simp only [cutAt] at hn ⊢
        split
        · rename_i hx; rw [if_pos hx] at hn; simp at hn
        · rename_i hx; rw [if_neg hx] at hn; exact ih hn
    rw [this t hc]; exact ND.nil
theorem nd_space {t : List UInt8} (h : ND t) : ND (noSpace t) := by
  unfold noSpace; split
  · exact (nd_behind h).trimPrefix _
  · exact h
theorem upB_eq (t : List UInt8) : upB t = if (decide (0 < (t.length : Int)) && decide (97 ≤ ((t.getD 0 0).toNat : Int)) && decide (((t.getD 0 0).toNat : Int) ≤ 122)) = true then [t.getD 0 0 - 32] ++ t.drop 1 else t := by
  have : (!decide (t = [])) = decide (0 < (t.length : Int)) := by
    cases t with
    | nil => rfl
    | cons x r => simp
  unfold upB
  rw [this]
theorem refParse_ok (s : List UInt8) (hs : s.length ≤ 1000000) : FnS Tryz.prog 183 [.c (.s s)] [] [] (Is (parseV (parseT s))) := by
  have hu : (usc s).length = s.length := by simp [usc]
  have c1 := blanks_ok s hs
  have n1 := ND.single (usc s)
  obtain ⟨t1, ht1⟩ : ∃ t, singleB (usc s) = t := ⟨_, rfl⟩
  have h1 : t1.length ≤ s.length := by have := singleB_le (usc s); rw [ht1] at this; omega
  rw [ht1] at c1 n1
  obtain ⟨t2, ht2⟩ : ∃ t, noColon t1 = t := ⟨_, rfl⟩
  have h2 : t2.length ≤ t1.length := by rw [← ht2]; exact noColon_le _
  have n2 : ND t2 := by rw [← ht2]; exact nd_colon n1
  obtain ⟨t3, ht3⟩ : ∃ t, noSpace t2 = t := ⟨_, rfl⟩
  have h3 : t3.length ≤ t2.length := by rw [← ht3]; exact noSpace_le _
  have n3 : ND t3 := by rw [← ht3]; exact nd_space n2
  obtain ⟨t4, ht4⟩ : ∃ t, slashesB t3 = t := ⟨_, rfl⟩
  have h4 : t4.length ≤ t3.length := by rw [← ht4]; exact slashesB_short _
  have e4 : dropR false t3 = t4 := by rw [← ht4, slashes_eq t3 n3]
  obtain ⟨t5, ht5⟩ : ∃ t, upB t4 = t := ⟨_, rfl⟩
  have h5 : t5.length = t4.length := by rw [← ht5]; exact upB_len _
  have hn : nameP s = t5 := by unfold nameP; simp only [ht1, ht2, ht3, ht4, ht5]
  have hsp : spaceP s = colonNo t2 := by unfold spaceP; simp only [ht1, ht2]
  have hbe : colonNo t2 ≠ 0 → (t2.drop ((cutAt 58 t2).1.length + 1)) = behind t2 ∧ (cutAt 58 t2).1.length < t2.length := fun h => by
    have hc : (cutAt 58 t2).2.2 = true := by
      cases hx : (cutAt 58 t2).2.2 with
      | true => rfl
      | false => exfalso; apply h; simp [colonNo, hx]
    exact cutAt_drop 58 t2 hc
  have hpos : ([58] : List UInt8).isPrefixOf t1 = (decide (0 < (t1.length : Int)) && decide (((t1.getD 0 0).toNat : Int) = 58)) := by
    cases t1 with
    | nil => rfl
    | cons x r =>
      have h6 : (((x :: r).getD 0 0).toNat : Int) = 58 ↔ x = 58 := by rw [List.getD_cons_zero]; exact byte_iff (n := 58) (by decide)
      have h7 : (0 : Int) < ((x :: r).length : Int) := by simp
      rw [decide_eq_true h7, Bool.true_and, Bool.eq_iff_iff, decide_eq_true_eq, h6]
      simp only [List.isPrefixOf, Bool.and_true, beq_iff_eq]
      exact eq_comm
  obtain ⟨k, hk⟩ : ∃ k : Int, (if colonNo t2 = 0 then (0 : Int) else ((cutAt 58 t2).1.length : Int)) = k := ⟨_, rfl⟩
  have c3 := prefixed_ok t2 (by omega)
  rw [hk] at c3
  have hkr : 0 ≤ k ∧ k ≤ t2.length := by
    have := cutAt_len1 58 t2
    rw [← hk]; split <;> omega
  have c5 : 0 < (colonNo t2 : Int) → FnS Tryz.prog 193 [.c (.s t2), .c (.i .i64 (k + 1))] [] [] (Is (.c (.s t3))) := fun h => by
    have h0 : colonNo t2 ≠ 0 := by omega
    rw [if_neg h0] at hk
    have c := cut_fn_ok t2 ((cutAt 58 t2).1.length + 1) (by omega) (by have := (hbe h0).2; omega)
    rw [(hbe h0).1] at c
    have e : noSpace t2 = Lib.trimPrefix (behind t2) [32] := by unfold noSpace; rw [if_pos (decide_eq_true h0)]
    rw [← e, ht3] at c
    rw [← hk]
    exact c
  unfold parseT
  rw [hn, hsp]
  refine fn_of_J Tryz.tyOK 0 Tryz.func183 (by kernel_rfl) (c := Tryz.f183.body.getD .skip) (by kernel_rfl) Tryz.ntmps183 (rs := Tryz.f183.results.toList) rfl (by simp) (fun G => ?_)
  repeat' first | refine J_cut (x := .seq (.region 2 _ _) _) (α := Unit) (fun _ => [(0, .c (.s t2)), (2, .c (.p 0 ad 0)), (3, .c (.i .i64 0))]) (fun _ => [.box 0 ad 50 [.i .i64 0, .s []]]) (fun _ => []) 1 (fun _ => True) ?_ (fun _ _ => ?_) | refine J_stop (c := .seq (.region 4 _ _) _) ?_ | refine J_seq ?_ | refine J_region Tryz.tyOK ?_ | refine J_block ?_ | refine J_cond ?_ | refine J_ret ?_ | refine J_skip ?_ | refine J_exit ?_ | refine J_scope ?_ | refine CondP.y ?_ | refine CondP.n ?_ | refine CondP.mk (fun h => ?_) (fun h => ?_) | refine EqP.mk rfl ?_ | refine NewP.mk (fun ad => ?_) | refine ArP.x ?_ | refine SideP.a ?_ | refine CallP.is c1 ?_ | refine CallP.is (cut_fn_ok t1 1 (by omega) (by omega)) ?_ | refine InFam.mk () trivial (SubE.cons rfl (VEq.str ?_) SubE.a) (Ents.refl _ _) | fail
  · rw [← ht2, noColon, hpos]; (try simp only [Int.toNat_natCast, Int.toNat_zero] at *); simp only [*, decide_true, decide_false, Bool.true_and, Bool.false_and, Bool.and_true, Bool.and_false, Bool.not_true, Bool.not_false, Bool.true_or, Bool.false_or, Bool.or_true, Bool.or_false, not_true, not_false_eq_true, ne_eq, if_true, if_false, Bool.false_eq_true]
  · rw [← ht2, noColon, hpos]; (try simp only [Int.toNat_natCast, Int.toNat_zero] at *); simp only [*, decide_true, decide_false, Bool.true_and, Bool.false_and, Bool.and_true, Bool.and_false, Bool.not_true, Bool.not_false, Bool.true_or, Bool.false_or, Bool.or_true, Bool.or_false, not_true, not_false_eq_true, ne_eq, if_true, if_false, Bool.false_eq_true]
  · rw [← ht2, noColon, hpos]; (try simp only [Int.toNat_natCast, Int.toNat_zero] at *); simp only [*, decide_true, decide_false, Bool.true_and, Bool.false_and, Bool.and_true, Bool.and_false, Bool.not_true, Bool.not_false, Bool.true_or, Bool.false_or, Bool.or_true, Bool.or_false, not_true, not_false_eq_true, ne_eq, if_true, if_false, Bool.false_eq_true]
  refine ⟨?_⟩
  repeat' first | refine J_cut (x := .seq (.region 5 _ _) _) (α := Unit) (fun _ => [(0, .c (.s t3)), (2, .c (.p 0 ad 0)), (3, .c (.i .i64 0)), (4, .c (.i .i64 (colonNo t2)))]) (fun _ => [.box 0 ad 50 [.i .i64 0, .s []]]) (fun _ => []) 1 (fun _ => True) ?_ (fun _ _ => ?_) | refine J_stop (c := .seq (.seq (.region 8 _ _) _) _) ?_ | refine J_seq ?_ | refine J_region Tryz.tyOK ?_ | refine J_block ?_ | refine J_cond ?_ | refine J_ret ?_ | refine J_skip ?_ | refine J_exit ?_ | refine J_scope ?_ | refine CondP.y ?_ | refine CondP.n ?_ | refine CondP.mk (fun h => ?_) (fun h => ?_) | refine EqP.mk rfl ?_ | refine NewP.mk (fun ad => ?_) | refine ArP.x ?_ | refine SideP.a ?_ | refine CallP.is c3 ?_ | refine CallP.is (c5 (by omega)) ?_ | refine InFam.mk () trivial (SubE.cons rfl (VEq.str ?_) SubE.a) (Ents.refl _ _) | fail
  · rfl
  · rw [← ht3, noSpace, if_neg]
    have h0 : ¬ 0 < (colonNo t2 : Int) := by assumption
    simp; omega
  refine ⟨?_⟩
  refine J_seq ?_
  repeat' first | refine J_seq ?_ | refine J_region Tryz.tyOK ?_ | refine J_block ?_ | refine J_cond ?_ | refine J_ret ?_ | refine J_skip ?_ | refine J_exit ?_ | refine J_scope ?_ | refine CondP.y ?_ | refine CondP.n ?_ | refine CondP.mk (fun h => ?_) (fun h => ?_) | refine EqP.mk rfl ?_ | refine NewP.mk (fun ad => ?_) | refine ArP.x ?_ | refine SideP.a ?_ | fail | fail
  refine J_loop (α := Nat × List UInt8) (fun x => [(0, .c (.s t3)), (2, .c (.p 0 ad 0)), (3, .c (.i .i64 0)), (4, .c (.i .i64 (colonNo t2))), (6, .c (.s x.2)), (7, .c (.i .i64 x.1))]) (fun _ => [.box 0 ad 50 [.i .i64 0, .s []]]) (fun _ => []) 1
    (fun x => x.1 ≤ t3.length ∧ x.2.length ≤ x.1 ∧ t4 = x.2 ++ dropR (ps t3 x.1) (t3.drop x.1)) (fun x => t3.length - x.1)
    (InFam.mk (0, []) ⟨by simp, by simp, by rw [← e4]; simp [ps]⟩ SubE.a (Ents.refl _ _)) (fun x hi => ?_)
  obtain ⟨i, o⟩ := x
  obtain ⟨hi, hol, he⟩ := hi
  dsimp only at hi hol he ⊢
  by_cases hlt : i < t3.length
  · have hst := dropR_step hlt
    have hs1 := slice_one hlt
    have hsl : ((t3.take (i + 1)).drop i).length = 1 := by rw [hs1]; rfl
    repeat' first | refine J_seq ?_ | refine J_region Tryz.tyOK ?_ | refine J_block ?_ | refine J_cond ?_ | refine J_ret ?_ | refine J_skip ?_ | refine J_exit ?_ | refine J_scope ?_ | refine CondP.y ?_ | refine CondP.n ?_ | refine CondP.mk (fun h => ?_) (fun h => ?_) | refine EqP.mk rfl ?_ | refine NewP.mk (fun ad => ?_) | refine ArP.x ?_ | refine SideP.a ?_ | refine Round.mk (i + 1, o ++ (t3.take (i + 1)).drop i) (by simp; omega) ⟨by simp; omega, by rw [List.length_append, hsl]; simp; omega, ?_⟩ (SubE.cons rfl (VEq.refl _) (SubE.cons rfl (VEq.refl _) (SubE.cons rfl (VEq.refl _) (SubE.cons rfl (VEq.refl _) (SubE.cons rfl (VEq.refl _) (SubE.cons rfl (VEq.int (by omega)) SubE.nil)))))) (Ents.refl _ _) | refine Round.mk (i + 1, o) (by simp; omega) ⟨by simp; omega, by simp; omega, ?_⟩ (SubE.cons rfl (VEq.refl _) (SubE.cons rfl (VEq.refl _) (SubE.cons rfl (VEq.refl _) (SubE.cons rfl (VEq.refl _) (SubE.cons rfl (VEq.refl _) (SubE.cons rfl (VEq.int (by omega)) SubE.nil)))))) (Ents.refl _ _) | refine SideP.mk (Nat.le_trans (Nat.add_le_add hol (Nat.le_of_eq hsl)) (by omega)) ?_ | fail
    all_goals simp only [Int.toNat_natCast] at *
    all_goals
      obtain ⟨b, hsk⟩ : ∃ b, skipB t3 i = b := ⟨_, rfl⟩
      rw [hsk] at hst
      unfold skipB ps at hsk
      have he' := he
      have hst' := hst
      clear he hst e4 ht4 hk
      simp only [*, decide_true, decide_false, Bool.true_and, Bool.false_and, Bool.and_true, Bool.and_false, Bool.true_or, Bool.false_or, Bool.or_true, Bool.or_false] at hsk
      subst hsk
      rw [he', hst']
      simp only [if_true, Bool.false_eq_true, if_false]
      try (rw [hs1, List.append_assoc]; rfl)
  · have hil : i = t3.length := by omega
    subst hil
    have ho : o = t4 := by rw [he, List.drop_length]; simp [dropR]
    subst ho
    repeat' first | refine J_stop (c := .seq (.seq (.region 13 _ _) _) _) ?_ | refine J_seq ?_ | refine J_region Tryz.tyOK ?_ | refine J_block ?_ | refine J_cond ?_ | refine J_ret ?_ | refine J_skip ?_ | refine J_exit ?_ | refine J_scope ?_ | refine CondP.y ?_ | refine CondP.n ?_ | refine CondP.mk (fun h => ?_) (fun h => ?_) | refine EqP.mk rfl ?_ | refine NewP.mk (fun ad => ?_) | refine ArP.x ?_ | refine SideP.a ?_ | fail | fail
    refine ⟨?_⟩
    have h0 : o.length ≤ 1000000 := by omega
    refine J_cut (x := .seq (.region 13 _ _) _) (α := Unit) (fun _ => [(2, .c (.p 0 ad 0)), (3, .c (.i .i64 0)), (4, .c (.i .i64 (colonNo t2))), (6, .c (.s t5))]) (fun _ => [.box 0 ad 50 [.i .i64 0, .s []]]) (fun _ => []) 1 (fun _ => True) ?_ (fun _ _ => ?_)
    · rw [upB_eq] at ht5
      clear hn hsp hbe hpos hk hkr c1 c3 c5 n1 n2 n3 e4 ht1 ht2 ht3 ht4 hu he
      repeat' first | refine J_seq ?_ | refine J_region Tryz.tyOK ?_ | refine J_block ?_ | refine J_cond ?_ | refine J_ret ?_ | refine J_skip ?_ | refine J_exit ?_ | refine J_scope ?_ | refine CondP.y ?_ | refine CondP.n ?_ | refine CondP.mk (fun h => ?_) (fun h => ?_) | refine EqP.mk rfl ?_ | refine NewP.mk (fun ad => ?_) | refine ArP.x ?_ | refine SideP.a ?_ | refine J_draw Tryz.tyOK (by kernel_rfl) [0, 1, 2, 5, 6, 3, 4, 7, 8] [3, 4] [] [] (by kernel_rfl) Ents.dropAll ?_ | refine EntP.mk Ents.dropAll ?_ | refine BytesE.mk 5 [o.getD 0 0 - 32] (.inl ⟨1, by rw [← up_byte (by assumption)]; exact List.Mem.head _⟩) ?_ | refine InFam.mk () trivial (SubE.cons rfl (VEq.refl _) (SubE.cons rfl (VEq.refl _) (SubE.cons rfl (VEq.refl _) (SubE.cons rfl (VEq.str ?_) SubE.nil)))) (Ents.refl _ _) | refine InFam.mk () trivial (SubE.cons rfl (VEq.refl _) (SubE.cons rfl (VEq.refl _) (SubE.cons rfl (VEq.refl _) (SubE.cons rfl (VEq.str ?_) SubE.nil)))) Ents.drop | fail
      all_goals
        try simp only [Int.toNat_natCast, Int.toNat_zero] at *
        rw [← ht5]
        clear ht5 h5 hol hi hlt h1 h2 h3 h4
        simp only [*, decide_true, decide_false, Bool.true_and, Bool.false_and, Bool.and_true, Bool.and_false, if_true, if_false, Bool.false_eq_true]
        try rfl
    · clear hn hsp hbe hpos hk hkr c1 c3 c5 n1 n2 n3 e4 ht1 ht2 ht3 ht4 hu ht5 he
      repeat' first | refine J_seq ?_ | refine J_region Tryz.tyOK ?_ | refine J_block ?_ | refine J_cond ?_ | refine J_ret ?_ | refine J_skip ?_ | refine J_exit ?_ | refine J_scope ?_ | refine CondP.y ?_ | refine CondP.n ?_ | refine CondP.mk (fun h => ?_) (fun h => ?_) | refine EqP.mk rfl ?_ | refine NewP.mk (fun ad => ?_) | refine ArP.x ?_ | refine SideP.a ?_ | refine CallP.isB (refValid_ok (colonNo t2) t5 (by omega)) (fun hv => ?_) (fun hv => ?_) | refine FinE.is ?_ | fail
      all_goals (clear h5 h4; (try simp only [Int.toNat_natCast, Int.toNat_zero] at *); simp only [if_true, if_false, *, decide_true, decide_false, Bool.true_and, Bool.false_and, Bool.and_true, Bool.and_false, Bool.not_true, Bool.not_false, Bool.true_or, Bool.false_or, Bool.or_true, Bool.or_false, not_true, not_false_eq_true, ne_eq, if_true, if_false, Bool.false_eq_true]; rfl)
end Go.Proofs

/- This text walks through the functions Format and Compare of the package title. -/
namespace Go.Proofs
open Go Go.X
set_option maxRecDepth 100000
theorem or_ok (a : Option Addr) (c : Nat) (x y : Int) : FnS Tryz.prog 51 [.c (.sl a 2 c)] [.row 3 1 a 2 c [.i .i64 x, .i .i64 y]] [] (Is (.c (.i .i64 (if x ≠ 0 then x else y)))) := by
  have hrd : Reads [.row 3 1 a 2 c [.i .i64 x, .i .i64 y]] [] 3 1 a 2 [.i .i64 x, .i .i64 y] := .inl ⟨c, List.Mem.head _⟩
  refine fn_of_J Tryz.tyOK 0 Tryz.func51 (by kernel_rfl) (c := Tryz.f51.body.getD .skip) (by kernel_rfl) Tryz.ntmps51 (rs := Tryz.f51.results.toList) rfl (by simp) (fun G => ?_)
  repeat' first | refine J_seq ?_ | refine J_region Tryz.tyOK ?_ | refine J_block ?_ | refine J_cond ?_ | refine J_ret ?_ | refine J_skip ?_ | refine J_exit ?_ | refine J_scope ?_ | refine CondP.y ?_ | refine CondP.n ?_ | refine CondP.mk (fun h => ?_) (fun h => ?_) | refine EqP.mk rfl ?_ | refine NewP.mk (fun ad => ?_) | refine ArP.x ?_ | refine SideP.a ?_ | refine J_rounds 3 ?_ | refine JR_succ ?_ | refine IdxE.mk 3 1 _ hrd (by omega) (by omega) ?_ | refine LoadE.mk 3 _ _ _ hrd (by omega) (by omega) (by omega) rfl ?_ | refine FinE.int ?_ | fail
  all_goals simp [*]
theorem compare_ok (a : Int) (x : List UInt8) (b : Int) (y : List UInt8) : FnS Tryz.prog 53 [.agg [.i .i64 a, .s x], .agg [.i .i64 b, .s y]] [] [] (Is (.c (.i .i64 (compareT a x b y)))) := by
  refine fn_of_J Tryz.tyOK 0 Tryz.func53 (by kernel_rfl) (c := Tryz.f53.body.getD .skip) (by kernel_rfl) Tryz.ntmps53 (rs := Tryz.f53.results.toList) rfl (by simp) (fun G => ?_)
  repeat' first | refine J_seq ?_ | refine J_region Tryz.tyOK ?_ | refine J_block ?_ | refine J_cond ?_ | refine J_ret ?_ | refine J_skip ?_ | refine J_exit ?_ | refine J_scope ?_ | refine CondP.y ?_ | refine CondP.n ?_ | refine CondP.mk (fun h => ?_) (fun h => ?_) | refine EqP.mk rfl ?_ | refine NewP.mk (fun ad => ?_) | refine ArP.x ?_ | refine SideP.a ?_ | refine J_draw Tryz.tyOK (by kernel_rfl) [0, 1, 2, 3, 4, 5, 6, 7, 8, 9, 10, 11, 12] [10, 11] _ _ (by kernel_rfl) (Ents.refl _ _) ?_ | refine CallQ.mk [] _ (compareInt_ok a b) (fun _ _ => trivial) ?_ | refine CallQ.mk [] _ (stringsCompare_ok x y) (fun _ _ => trivial) ?_ | refine CallP.mk [_] _ [] _ (or_ok _ _ _ _) (List.Perm.refl _) (fun _ h => h) (fun v L' D' hp => ?_); obtain ⟨rfl, rfl, rfl⟩ := hp | refine EntP.mk (Ents.refl _ _) ?_ | refine EntP.mk Ents.drop ?_ | refine FinE.int ?_ | fail
  rfl
end Go.Proofs

/- This text walks through the functions Resolve and Ancestors of the package title. -/
namespace Go.Proofs
open Go Go.X
set_option maxRecDepth 100000
/-- The cells of titles of one namespace. -/
def titlesC (sp : Int) (l : List (List UInt8)) : List C := l.flatMap fun p => [.i .i64 sp, .s p]
end Go.Proofs

/- This text walks through the functions Ancestors and Format of the reference of chapter 1. -/
namespace Go.Proofs
open Go Go.X
set_option maxRecDepth 100000
theorem refFormat_ok (sp : Int) (s : List UInt8) (hs : s.length ≤ 1000000) : FnS Tryz.prog 181 [.agg [.i .i64 sp, .s s]] [] [] (Is (.c (.s (formatT sp s)))) := by
  have hb := @validT_bounds sp s
  have hn := spName_le sp.toNat
  refine fn_of_J Tryz.tyOK 0 Tryz.func181 (by kernel_rfl) (c := Tryz.f181.body.getD .skip) (by kernel_rfl) Tryz.ntmps181 (rs := Tryz.f181.results.toList) rfl (by simp) (fun G => ?_)
  repeat' first | refine J_seq ?_ | refine J_region Tryz.tyOK ?_ | refine J_block ?_ | refine J_cond ?_ | refine J_ret ?_ | refine J_skip ?_ | refine J_exit ?_ | refine J_scope ?_ | refine CondP.y ?_ | refine CondP.n ?_ | refine CondP.mk (fun h => ?_) (fun h => ?_) | refine EqP.mk rfl ?_ | refine NewP.mk (fun ad => ?_) | refine ArP.x ?_ | refine SideP.a ?_ | refine CallP.isB (refValid_ok sp s hs) (fun hv => ?_) (fun hv => ?_) | refine FinE.str ?_ | refine J_draw Tryz.tyOK (by kernel_rfl) [0, 1, 2, 3, 4, 5, 6, 7] [] _ _ (by kernel_rfl) (Ents.refl _ _) ?_ | refine CallQ.mk [] _ (spaceName_ok _) (fun _ _ => trivial) ?_ | refine SideP.mk (by have := hb hv; simp; omega) ?_ | fail
  all_goals
    unfold formatT
    repeat (first | rw [if_pos (by assumption)] | rw [if_neg (by assumption)] | rw [if_neg (by simp [*])])
    try rfl
end Go.Proofs
