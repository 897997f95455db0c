/- This text walks through the function Valid of the reference of chapter 1. · This text proves in plain Lean that, in a text without two blanks side by side, leaving out each blank next to a slash is the same as trimming the pieces between the slashes. · This text walks through the function Valid of the package title. · This text walks through the function Parse of the package title, and what it calls. · This text walks through the functions Parse, Format, Compare and Resolve of the package title. · This text walks through the function Parse of the reference of chapter 1. · This text walks through the functions Format and Compare of the package title. · This text walks through the functions Resolve and Ancestors of the package title. · This text walks through the functions Ancestors and Format of the reference of chapter 1. · This text walks through the tape from which statements make inputs, and the titles that it makes. · This text proves, for any program, that a region that draws its order may be executed along a tree of orders: where two operations that work on memory stand in no order, both ways are looked at. No condition. -/
import Derived.Test.YtdnkeinjfddmnaaGreatDoorR06
import Derived.Test.YtdnkeinjfddmnaaGreatDoorR04
set_option linter.all false

namespace Go.Proofs
open Go Go.X
set_option maxRecDepth 100000

theorem refValid_ok (sp : Int) (s : List UInt8) (hs : s.length ≤ 1000000) : FnS Tryz.prog 29 [.agg [.i .i64 sp, .s s]] [] [] (Is (.c (.b (validT sp s)))) := by
  have hcn : (colonNo s : Int) = 0 ↔ colonNo s = 0 := by omega
  have hsl := splitOn_length_le 47 s
  have hml := mem_splitOn_le 47 s
  refine fn_of_J Tryz.tyOK 0 Tryz.func29 (by kernel_rfl) (c := Tryz.f29.body.getD .skip) (by kernel_rfl) Tryz.ntmps29 (rs := Tryz.f29.results.toList) rfl (by simp) (fun G => ?_)
  repeat' first
    | refine J_stop (c := .seq (.seq (.region 4 _ _) _) _) ?_
    | refine J_seq ?_ | refine J_region Tryz.tyOK ?_ | refine J_block ?_ | refine J_cond ?_ | refine J_ret ?_ | refine J_skip ?_ | refine J_exit ?_ | refine J_scope ?_
    | refine CondP.yes (by omega) ?_ | refine CondP.no (by omega) ?_ | refine CondP.mk (fun h => ?_) (fun h => ?_) | refine EqP.mk rfl ?_ | refine NewP.mk (fun ad => ?_) | refine ArP.exact (by simp only [inR]; omega) ?_ | refine SideP.mk (by first | omega | (dsimp only; omega) | (simp; omega)) ?_
    | refine FinE.bool ?_
    | fail
  rotate_right
  · refine ⟨?_⟩
    refine J_seq ?_
    repeat' first
      | refine J_seq ?_ | refine J_region Tryz.tyOK ?_ | refine J_block ?_ | refine J_cond ?_ | refine J_ret ?_ | refine J_skip ?_ | refine J_exit ?_ | refine J_scope ?_
      | refine CondP.yes (by omega) ?_ | refine CondP.no (by omega) ?_ | refine CondP.mk (fun h => ?_) (fun h => ?_) | refine EqP.mk rfl ?_ | refine NewP.mk (fun ad => ?_) | refine ArP.exact (by simp only [inR]; omega) ?_ | refine SideP.mk (by first | omega | (dsimp only; omega) | (simp; omega)) ?_
      | fail
      | fail
    refine J_loop (α := Nat) (fun i => [(3, .c (.s s)), (4, .c (.i .i64 i)), (1, .c (.p 0 ad 0))]) (fun _ => [.box 0 ad 23 [.i .i64 sp, .s s]]) (fun _ => []) 1
      (fun i => i ≤ s.length ∧ cleanB false s = cleanB (pv s i) (s.drop i)) (fun i => s.length - i) (InFam.mk 0 ⟨by omega, by simp [pv]⟩ (by repeat' first | exact SubE.nil | refine SubE.cons rfl ?_ ?_ | exact VEq.refl _ | refine VEq.int (by omega) | refine VEq.sl rfl (by first | rfl | omega | (rw [List.length_append]; rfl) | (simp; omega)) rfl) (Ents.refl _ _)) (fun i hi => ?_)
    obtain ⟨hi, hcl⟩ := hi
    by_cases hlt : i < s.length
    · have hst := clean_step hlt
      have hb := (s.getD i 0).toNat_lt
      have h1 := slice_one hlt
      have c1 : FnS Tryz.prog 46 [.c (.s [60, 62, 91, 93, 123, 125, 124, 35, 95]), .c (.s ((s.take (i + 1)).drop i)), .c (.i .i64 (0 : Nat))] [] [] (Is (.c (.i .i64 (Lib.indexByte [60, 62, 91, 93, 123, 125, 124, 35, 95] (s.getD i 0))))) := by
        rw [h1, ← refIdx_byte]
        exact index_ok _ _ 0 (by decide) (by simp) (by simp) (by decide)
      repeat' first
        | refine J_seq ?_ | refine J_region Tryz.tyOK ?_ | refine J_block ?_ | refine J_cond ?_ | refine J_ret ?_ | refine J_skip ?_ | refine J_exit ?_ | refine J_scope ?_
        | refine CondP.yes (by omega) ?_ | refine CondP.no (by omega) ?_ | refine CondP.mk (fun h => ?_) (fun h => ?_) | refine EqP.mk rfl ?_ | refine NewP.mk (fun ad => ?_) | refine ArP.exact (by simp only [inR]; omega) ?_ | refine SideP.mk (by first | omega | (dsimp only; omega) | (simp; omega)) ?_
        | refine CallP.is c1 ?_ | refine FinE.bool ?_ | refine Round.mk (i + 1) (by omega) ⟨by omega, ?_⟩ (by repeat' first | exact SubE.nil | refine SubE.cons rfl ?_ ?_ | exact VEq.refl _ | refine VEq.int (by omega) | refine VEq.sl rfl (by first | rfl | omega | (rw [List.length_append]; rfl) | (simp; omega)) rfl) (Ents.refl _ _)
        | fail
      all_goals simp only [Int.toNat_natCast] at *
      all_goals first | (show validT sp s = false; have hc : cleanB false s = false := by (rw [hcl, hst]; clear hcl hst; (try simp only [Int.toNat_natCast, Int.toNat_zero] at *); simp only [badB, pv, *, decide_true, decide_false, Bool.true_and, Bool.false_and, Bool.and_true, Bool.and_false, Bool.not_true, Bool.not_false, Bool.true_or, Bool.false_or, Bool.or_true, Bool.or_false, not_true, not_false_eq_true, ne_eq, if_true, if_false, Bool.false_eq_true]; try rfl)
                         simp [validT, hc]) | skip
      all_goals (rw [hcl, hst]; clear hcl hst; (try simp only [Int.toNat_natCast, Int.toNat_zero] at *); simp only [badB, pv, *, decide_true, decide_false, Bool.true_and, Bool.false_and, Bool.and_true, Bool.and_false, Bool.not_true, Bool.not_false, Bool.true_or, Bool.false_or, Bool.or_true, Bool.or_false, not_true, not_false_eq_true, ne_eq, if_true, if_false, Bool.false_eq_true]; try rfl)
    · have hil : i = s.length := by omega
      subst hil
      have hcl' : cleanB false s = true := by rw [hcl]; simp [cleanB]
      clear hcl
      repeat' first
        | refine J_seq ?_ | refine J_region Tryz.tyOK ?_ | refine J_block ?_ | refine J_cond ?_ | refine J_ret ?_ | refine J_skip ?_ | refine J_exit ?_ | refine J_scope ?_
        | refine CondP.yes (by omega) ?_ | refine CondP.no (by omega) ?_ | refine CondP.mk (fun h => ?_) (fun h => ?_) | refine EqP.mk rfl ?_ | refine NewP.mk (fun ad => ?_) | refine ArP.exact (by simp only [inR]; omega) ?_ | refine SideP.mk (by first | omega | (dsimp only; omega) | (simp; omega)) ?_
        | refine CallP.mk [] _ _ _ (parts_ok s hs) (List.Perm.refl _) (fun _ h => h) (fun v L' D' hp => ?_); obtain ⟨a, c, rfl, rfl, rfl⟩ := hp
        | fail
      refine J_loop (α := Nat) (fun i => [(6, .c (.i .i64 i)), (5, .c (.sl a (splitOn 47 s).length c)), (3, .c (.s s)), (1, .c (.p 0 ad 0))])
        (fun _ => [.box 0 ad 23 [.i .i64 sp, .s s]]) (fun _ => [slFact 9 1 a (splitOn 47 s).length ((splitOn 47 s).map C.s)]) 1
        (fun i => i ≤ (splitOn 47 s).length ∧ (splitOn 47 s).all pieceOK = ((splitOn 47 s).drop i).all pieceOK) (fun i => (splitOn 47 s).length - i)
        (InFam.mk 0 ⟨by omega, rfl⟩ (by repeat' first | exact SubE.nil | refine SubE.cons rfl ?_ ?_ | exact VEq.refl _ | refine VEq.int (by omega) | refine VEq.sl rfl (by first | rfl | omega | (rw [List.length_append]; rfl) | (simp; omega)) rfl) Ents.toFact) (fun i hi => ?_)
      obtain ⟨hi, hal⟩ := hi
      by_cases hlt : i < (splitOn 47 s).length
      · have hrd : Reads [.box 0 ad 23 [.i .i64 sp, .s s]] [slFact 9 1 a (splitOn 47 s).length ((splitOn 47 s).map C.s)] 9 1 a (splitOn 47 s).length ((splitOn 47 s).map C.s) :=
          .inr fun m h => h.1
        rw [List.drop_eq_getElem_cons hlt, List.all_cons] at hal
        have hpl := hml _ (List.getElem_mem hlt)
        repeat' first
          | refine J_seq ?_ | refine J_region Tryz.tyOK ?_ | refine J_block ?_ | refine J_cond ?_ | refine J_ret ?_ | refine J_skip ?_ | refine J_exit ?_ | refine J_scope ?_
          | refine CondP.yes (by omega) ?_ | refine CondP.no (by omega) ?_ | refine CondP.mk (fun h => ?_) (fun h => ?_) | refine EqP.mk rfl ?_ | refine NewP.mk (fun ad => ?_) | refine ArP.exact (by simp only [inR]; omega) ?_ | refine SideP.mk (by first | omega | (dsimp only; omega) | (simp; omega)) ?_
          | refine J_draw Tryz.tyOK (by kernel_rfl) [0, 1, 2, 3, 4, 5, 6, 7, 8, 9, 10, 11, 12, 13, 14, 15, 16, 17, 18, 19, 20, 21, 22, 23, 24, 25, 26] [] _ _ (by kernel_rfl) (Ents.refl _ _) ?_ | refine IdxE.mk 9 1 _ hrd (by omega) (by omega) ?_ | refine LoadE.mk 9 _ _ [C.s (splitOn 47 s)[i]] hrd (by omega) (by omega) (by omega) (map_take1 hlt) ?_ | refine SideP.mk (by have := pos_of_ne ‹¬ (splitOn 47 s)[i] = []›; omega) ?_ | refine FinE.bool ?_ | refine Round.mk (i + 1) (by omega) ⟨by omega, ?_⟩ (by repeat' first | exact SubE.nil | refine SubE.cons rfl ?_ ?_ | exact VEq.refl _ | refine VEq.int (by omega) | refine VEq.sl rfl (by first | rfl | omega | (rw [List.length_append]; rfl) | (simp; omega)) rfl) (Ents.refl _ _)
          | fail
        all_goals ((try simp only [Int.toNat_natCast, Int.toNat_zero] at *); simp only [validT, pieceOK, *, decide_true, decide_false, Bool.true_and, Bool.false_and, Bool.and_true, Bool.and_false, Bool.not_true, Bool.not_false, Bool.true_or, Bool.false_or, Bool.or_true, Bool.or_false, not_true, not_false_eq_true, ne_eq, if_true, if_false, Bool.false_eq_true]; try rfl)
      · have hil : i = (splitOn 47 s).length := by omega
        subst hil
        simp only [List.drop_length, List.all_nil] at hal
        have e : ∀ b : Bool, b = (headOK s && (!decide (sp = 0) || !decide (colonNo s ≠ 0))) → validT sp s = b := by
          rintro b rfl
          (try simp only [Int.toNat_natCast, Int.toNat_zero] at *); simp only [validT, *, decide_true, decide_false, Bool.true_and, Bool.false_and, Bool.and_true, Bool.and_false, Bool.not_true, Bool.not_false, Bool.true_or, Bool.false_or, Bool.or_true, Bool.or_false, not_true, not_false_eq_true, ne_eq, if_true, if_false, Bool.false_eq_true]
        clear hal hcl'
        repeat' first
          | refine J_seq ?_ | refine J_region Tryz.tyOK ?_ | refine J_block ?_ | refine J_cond ?_ | refine J_ret ?_ | refine J_skip ?_ | refine J_exit ?_ | refine J_scope ?_
          | refine CondP.yes (by omega) ?_ | refine CondP.no (by omega) ?_ | refine CondP.mk (fun h => ?_) (fun h => ?_) | refine EqP.mk rfl ?_ | refine NewP.mk (fun ad => ?_) | refine ArP.exact (by simp only [inR]; omega) ?_ | refine SideP.mk (by first | omega | (dsimp only; omega) | (simp; omega)) ?_
          | refine FinE.bool (e _ ?_) | refine CallP.is (prefixed_ok s hs) ?_
          | fail
        all_goals (clear e; rw [hcn] at *; (try simp only [Int.toNat_natCast, Int.toNat_zero] at *); simp only [headOK, *, decide_true, decide_false, Bool.true_and, Bool.false_and, Bool.and_true, Bool.and_false, Bool.not_true, Bool.not_false, Bool.true_or, Bool.false_or, Bool.or_true, Bool.or_false, not_true, not_false_eq_true, ne_eq, if_true, if_false, Bool.false_eq_true]; try rfl)
  all_goals ((try simp only [Int.toNat_natCast, Int.toNat_zero] at *); simp only [validT, *, decide_true, decide_false, Bool.true_and, Bool.false_and, Bool.and_true, Bool.and_false, Bool.not_true, Bool.not_false, Bool.true_or, Bool.false_or, Bool.or_true, Bool.or_false, not_true, not_false_eq_true, ne_eq, if_true, if_false, Bool.false_eq_true]; try rfl)

end Go.Proofs

namespace Go.X
open Go.Lib

/-- No two blanks side by side. -/
def ND (t : List UInt8) : Prop := ∀ a b, t ≠ a ++ 32 :: 32 :: b

theorem ND.drop {t : List UInt8} (h : ND t) (n : Nat) : ND (t.drop n) := fun a b he => h (t.take n ++ a) b (by
  rw [List.append_assoc, ← he, List.take_append_drop])
theorem ND.take {t : List UInt8} (h : ND t) (n : Nat) : ND (t.take n) := fun a b he => h a (b ++ t.drop n) (by
  have := congrArg (· ++ t.drop n) he
  simpa using this)
theorem ND.trimPrefix {t : List UInt8} (h : ND t) (p : List UInt8) : ND (trimPrefix t p) := by
  unfold Lib.trimPrefix; split
  · exact h.drop _
  · exact h
theorem ND.trimSuffix {t : List UInt8} (h : ND t) (p : List UInt8) : ND (trimSuffix t p) := by
  unfold Lib.trimSuffix; split
  · exact h.take _
  · exact h
theorem ND.nil : ND [] := fun a b h => by simp at h
theorem ND.tail {x : UInt8} {t : List UInt8} (h : ND (x :: t)) : ND t := h.drop 1

theorem ND.snoc {o : List UInt8} {c : UInt8} (h : ND o) (hc : c = 32 → ∀ a, o ≠ a ++ [32]) : ND (o ++ [c]) := fun a b he => by
  rcases List.eq_nil_or_concat b with rfl | ⟨q, y, rfl⟩
  · have e : o ++ [c] = (a ++ [32]) ++ [32] := by rw [he]; simp
    obtain ⟨h1, h2⟩ := List.append_inj' e rfl
    simp only [List.cons.injEq, and_true] at h2
    exact hc h2 a h1
  · have e : o ++ [c] = (a ++ 32 :: 32 :: q) ++ [y] := by rw [he]; simp
    exact h a q (List.append_inj' e rfl).1

theorem ND.step {o : List UInt8} {c : UInt8} (h : ND o) : ND (stepB o c) := by
  by_cases hc : c = 32
  · subst hc
    by_cases h0 : o = []
    · subst h0; rw [stepB_nil]; exact h
    · by_cases hl : ((o.getD ((o.length : Int) - 1).toNat 0).toNat : Int) = 32
      · rw [stepB_blank hl]; exact h
      · rw [stepB_first h0 hl]
        refine h.snoc fun _ a he => hl ?_
        subst he
        have e : (((a ++ [32]).length : Int) - 1).toNat = a.length := by simp
        rw [e]
        simp
  · rw [stepB_other hc]
    exact h.snoc fun hh => absurd hh hc

theorem ND.single (s : List UInt8) : ND (singleB s) := by
  unfold singleB
  refine ND.trimSuffix ?_ _
  have : ∀ (l : List UInt8) (o : List UInt8), ND o → ND (l.foldl stepB o) := by
    intro l
    induction l with
    | nil => exact fun o h => h
    | cons x r ih => exact fun o h => ih _ h.step
  exact this s [] ND.nil

/-- Without each blank next to a slash; p: is there a slash ahead? -/
def dropR : Bool → List UInt8 → List UInt8
  | _, [] => []
  | p, x :: r => if x = 32 then (if p = true ∨ r.head? = some 47 then dropR false r else 32 :: dropR false r) else x :: dropR (x = 47) r

/-- The pieces, trimmed, with slashes between them; b: is the first piece the first one of all? -/
def joinR : Bool → List (List UInt8) → List UInt8
  | _, [] => []
  | b, [p] => if b = true then p else trimLeftB p 32
  | b, p :: q :: r => trimRightB (if b = true then p else trimLeftB p 32) 32 ++ 47 :: joinR false (q :: r)

theorem trimR_cons (x : UInt8) (l : List UInt8) (c : UInt8) : trimRightB (x :: l) c = if trimRightB l c = [] ∧ x = c then [] else x :: trimRightB l c := by
  unfold trimRightB
  rw [List.reverse_cons, List.dropWhile_append]
  by_cases h : (l.reverse.dropWhile (· == c)) = []
  · simp only [h, List.isEmpty_nil, if_true, List.reverse_nil]
    by_cases hx : x = c
    · subst hx; simp
    · simp [hx]
  · have h2 : (l.reverse.dropWhile (· == c)).isEmpty = false := by simpa using h
    simp only [h2, Bool.false_eq_true, if_false]
    rw [if_neg (by simp [h])]
    simp
theorem trimL_cons (x : UInt8) (l : List UInt8) (c : UInt8) : trimLeftB (x :: l) c = if x = c then trimLeftB l c else x :: l := by
  unfold trimLeftB
  simp only [List.dropWhile_cons, beq_iff_eq]
theorem trimL_nil (c : UInt8) : trimLeftB [] c = [] := rfl
theorem trimR_nil (c : UInt8) : trimRightB [] c = [] := rfl

theorem split_head (c : UInt8) (r : List UInt8) : ((splitOn c r).headD []).head? = if r.head? = some c then none else r.head? := by
  cases r with
  | nil => rfl
  | cons x r =>
    by_cases h : x = c
    · subst h; simp [splitOn]
    · simp [splitOn, h]

theorem dropR_eq : ∀ (t : List UInt8) (b : Bool), ND t → dropR (!b) t = joinR b (splitOn 47 t)
  | [], b, _ => by cases b <;> rfl
  | x :: r, b, h => by
    have ih := fun b => dropR_eq r b h.tail
    have ih1 := ih true
    have ih0 := ih false
    have hh := split_head 47 r
    have e := splitOn_eq 47 r
    have h32 : x = 32 → r.head? ≠ some 32 := fun hx hr => by
      cases r with
      | nil => simp at hr
      | cons y q =>
        simp at hr
        subst hx; subst hr
        exact h [] q rfl
    generalize hp : (splitOn 47 r).headD [] = p at *
    generalize hq : (splitOn 47 r).tail = q at *
    rw [e] at ih1 ih0
    simp only [Bool.not_true, Bool.not_false] at ih1 ih0
    by_cases h47 : x = 47
    · subst h47
      have e2 : splitOn 47 (47 :: r) = [] :: p :: q := by simp only [splitOn, if_true]; exact congrArg _ e
      rw [e2]
      simp only [dropR, joinR, decide_true]
      rw [if_neg (by decide), ih0]
      cases b <;> rfl
    · have e2 : splitOn 47 (x :: r) = (x :: p) :: q := by simp only [splitOn, if_neg h47, hp, hq]
      rw [e2]
      by_cases hx : x = 32
      · subst hx
        have hr := h32 rfl
        have hpl : trimLeftB p 32 = p := by
          cases p with
          | nil => rfl
          | cons y p' =>
            rw [trimL_cons, if_neg]
            rintro rfl
            by_cases hc : r.head? = some 47
            · rw [if_pos hc] at hh; simp at hh
            · rw [if_neg hc] at hh; exact hr (by rw [← hh]; rfl)
        have hpr : p ≠ [] → trimRightB p 32 ≠ [] := by
          cases p with
          | nil => exact fun h => absurd rfl h
          | cons y p' =>
            intro _ hc
            rw [trimR_cons] at hc
            split at hc
            · rename_i hy
              have hy' := hy.2
              subst hy'
              by_cases hc : r.head? = some 47
              · rw [if_pos hc] at hh; simp at hh
              · rw [if_neg hc] at hh; exact hr (by rw [← hh]; rfl)
            · cases hc
        have hpe : p = [] → r.head? = some 47 ∨ r = [] := fun hp0 => by
          rw [hp0] at hh
          by_cases hc : r.head? = some 47
          · exact .inl hc
          · rw [if_neg hc] at hh
            right
            cases r with
            | nil => rfl
            | cons y q => simp at hh
        have hpn : p ≠ [] → r.head? ≠ some 47 := fun hp0 hc => by
          rw [if_pos hc] at hh
          cases p with
          | nil => exact hp0 rfl
          | cons y p' => simp at hh
        simp only [dropR, if_true]
        cases b with
        | false =>
          rw [if_pos (.inl rfl), ih1]
          cases q with
          | nil => simp only [joinR, Bool.false_eq_true, if_false, if_true]; rw [trimL_cons, if_pos rfl, hpl]
          | cons y q' => simp only [joinR, Bool.false_eq_true, if_false, if_true]; rw [trimL_cons, if_pos rfl, hpl]
        | true =>
          cases q with
          | nil =>
            have hn : ¬ ((!true) = true ∨ r.head? = some 47) := by
              rintro (hb | hc)
              · simp at hb
              · have : r.head? = some 47 := hc
                cases r with
                | nil => simp at this
                | cons y r' =>
                  simp at this
                  subst this
                  simp [splitOn] at hq
                  exact splitOn_ne _ _ hq
            rw [if_neg hn, ih1]
            rfl
          | cons y q' =>
            simp only [joinR, if_true] at ih1 ⊢
            by_cases hp0 : p = []
            · subst hp0
              rcases hpe rfl with hc | hc
              · rw [if_pos (.inr hc), ih1, trimR_cons, if_pos ⟨rfl, rfl⟩]
                rfl
              · subst hc
                simp [splitOn] at hq
            · have hn : ¬ ((!true) = true ∨ r.head? = some 47) := by
                rintro (hb | hc)
                · simp at hb
                · exact hpn hp0 hc
              rw [if_neg hn, ih1, trimR_cons, if_neg (fun hh => hpr hp0 hh.1)]
              rfl
      · simp only [dropR, if_neg hx, decide_eq_false h47]
        rw [ih1]
        cases q with
        | nil =>
          simp only [joinR, if_true]
          cases b
          · simp only [Bool.false_eq_true, if_false]; rw [trimL_cons, if_neg hx]
          · rfl
        | cons y q' =>
          simp only [joinR, if_true]
          cases b
          · simp only [Bool.false_eq_true, if_false]; rw [trimL_cons, if_neg hx, trimR_cons, if_neg (fun hh => hx hh.2)]; rfl
          · simp only [if_true]; rw [trimR_cons, if_neg (fun hh => hx hh.2)]; rfl

/-- What the pieces of the program are. -/
theorem joinR_pieces : ∀ (ps : List (List UInt8)) (k n : Nat), n = k + ps.length → joinOn 47 (ps.mapIdx fun i p => slP n (k + i) p) = joinR (decide (k = 0)) ps
  | [], _, _, _ => rfl
  | [p], k, n, hn => by
    subst hn
    simp only [List.mapIdx_cons, List.mapIdx_nil, joinOn, joinR, Nat.add_zero, List.length_cons, List.length_nil, Nat.zero_add]
    unfold slP
    rw [if_neg (by omega)]
    by_cases hk : k = 0
    · rw [if_neg (by omega), decide_eq_true hk]; rfl
    · rw [if_pos (by omega), decide_eq_false hk]; rfl
  | p :: q :: r, k, n, hn => by
    have ih := joinR_pieces (q :: r) (k + 1) n (by simp at hn ⊢; omega)
    have e : ((p :: q :: r).mapIdx fun i p => slP n (k + i) p) = slP n k p :: ((q :: r).mapIdx fun i p => slP n (k + 1 + i) p) := by
      rw [List.mapIdx_cons]
      simp only [Nat.add_zero, Nat.add_assoc, Nat.add_comm 1]
    have hne : ((q :: r).mapIdx fun i p => slP n (k + 1 + i) p) ≠ [] := by simp [List.mapIdx_cons]
    rw [e]
    cases hm : (q :: r).mapIdx fun i p => slP n (k + 1 + i) p with
    | nil => exact absurd hm hne
    | cons y t =>
      rw [hm] at ih
      simp only [joinOn, joinR]
      rw [ih, decide_eq_false (by omega : ¬ k + 1 = 0)]
      congr 1
      unfold slP
      simp only [List.length_cons] at hn
      rw [if_pos (by omega)]
      by_cases hk : k = 0
      · rw [if_neg (by omega), decide_eq_true hk]; rfl
      · rw [if_pos (by omega), decide_eq_false hk]; rfl

/-- Is there a slash just ahead of place i? -/
def ps (t : List UInt8) (i : Nat) : Bool := decide (0 < (i : Int)) && decide (((t.getD ((i : Int) - 1).toNat 0).toNat : Int) = 47)

/-- Is the byte at place i left out? -/
def skipB (t : List UInt8) (i : Nat) : Bool := decide (((t.getD i 0).toNat : Int) = 32) && (ps t i || (decide ((i : Int) + 1 < (t.length : Int)) && decide (((t.getD ((i : Int) + 1).toNat 0).toNat : Int) = 47)))

theorem byte_iff {x : UInt8} {n : Nat} (hn : n < 256) : (x.toNat : Int) = (n : Int) ↔ x = UInt8.ofNat n := by
  have e : (UInt8.ofNat n).toNat = n % 256 := by simp
  rw [Nat.mod_eq_of_lt hn] at e
  constructor
  · intro h; exact UInt8.toNat_inj.1 (by rw [e]; omega)
  · rintro rfl; rw [e]

theorem dropR_step {t : List UInt8} {i : Nat} (h : i < t.length) : dropR (ps t i) (t.drop i) = if skipB t i = true then dropR (ps t (i + 1)) (t.drop (i + 1)) else t.getD i 0 :: dropR (ps t (i + 1)) (t.drop (i + 1)) := by
  have hd : t.drop i = t.getD i 0 :: t.drop (i + 1) := by rw [List.drop_eq_getElem_cons h]; simp [h]
  have hp : ps t (i + 1) = decide (t.getD i 0 = 47) := by
    have h1 : (((i + 1 : Nat) : Int) - 1).toNat = i := by omega
    have h2 : (0 : Int) < ((i + 1 : Nat) : Int) := by omega
    unfold ps
    rw [h1, decide_eq_true h2, Bool.true_and]
    exact decide_eq_decide.2 (byte_iff (n := 47) (by decide))
  have hn : (t.drop (i + 1)).head? = some 47 ↔ (decide ((i : Int) + 1 < (t.length : Int)) && decide (((t.getD ((i : Int) + 1).toNat 0).toNat : Int) = 47)) = true := by
    have h1 : ((i : Int) + 1).toNat = i + 1 := by omega
    rw [h1, Bool.and_eq_true, decide_eq_true_eq, decide_eq_true_eq, List.head?_drop]
    have h2 : (((t.getD (i + 1) 0).toNat : Int) = 47) ↔ t.getD (i + 1) 0 = 47 := byte_iff (n := 47) (by decide)
    rw [h2]
    by_cases hl : i + 1 < t.length
    · have h3 : (i : Int) + 1 < (t.length : Int) := by omega
      simp [hl, h3]
    · have h3 : ¬ (i : Int) + 1 < (t.length : Int) := by omega
      simp [hl, h3]
  rw [hd, hp]
  simp only [dropR]
  unfold skipB
  have h32 : (((t.getD i 0).toNat : Int) = 32) ↔ t.getD i 0 = 32 := byte_iff (n := 32) (by decide)
  by_cases hx : t.getD i 0 = 32
  · have h4 : decide (t.getD i 0 = 47) = false := by rw [hx]; decide
    rw [if_pos hx, decide_eq_true (h32.2 hx), Bool.true_and, h4]
    by_cases hc : ps t i = true ∨ (t.drop (i + 1)).head? = some 47
    · rw [if_pos hc, if_pos]
      rw [Bool.or_eq_true, ← hn]; exact hc
    · rw [if_neg hc, if_neg, hx]
      rw [Bool.or_eq_true, ← hn]; exact hc
  · rw [if_neg hx, decide_eq_false (fun hh => hx (h32.1 hh)), Bool.false_and, if_neg (by decide)]

theorem slashes_eq (t : List UInt8) (h : ND t) : slashesB t = dropR false t := by
  have h1 := joinR_pieces (splitOn 47 t) 0 (splitOn 47 t).length (by simp)
  have h2 := dropR_eq t true h
  simp only [Nat.zero_add, decide_true] at h1
  rw [← h1] at h2
  exact h2.symm

end Go.X

namespace Go.Proofs
open Go Go.X
set_option maxRecDepth 100000

theorem valid_ok (sp : Int) (s : List UInt8) (hs : s.length ≤ 1000000) : FnS Tryz.prog 80 [.agg [.i .i64 sp, .s s]] [] [gInt 0] (Is (.c (.b (validT sp s)))) := by
  refine fn_of_J Tryz.tyOK 0 Tryz.func80 (by kernel_rfl) (c := Tryz.f80.body.getD .skip) (by kernel_rfl) Tryz.ntmps80 (rs := Tryz.f80.results.toList) rfl (by simp) (fun G => ?_)
  cases hcl : cleanB false s
  · repeat' first
      | refine J_seq ?_ | refine J_region Tryz.tyOK ?_ | refine J_block ?_ | refine J_cond ?_ | refine J_ret ?_ | refine J_skip ?_ | refine J_exit ?_ | refine J_scope ?_
      | refine CondP.yes (by omega) ?_ | refine CondP.no (by omega) ?_ | refine CondP.mk (fun h => ?_) (fun h => ?_) | refine EqP.mk rfl ?_ | refine NewP.mk (fun ad => ?_) | refine ArP.exact (by simp only [inR]; omega) ?_ | refine SideP.mk (by first | omega | (dsimp only; omega) | (simp; omega)) ?_
      | refine CallP.is (clean_ok s hs) ?_ | rw [hcl] | refine FinE.bool ?_
      | fail
    all_goals ((try simp only [Int.toNat_natCast, Int.toNat_zero] at *); simp only [validT, *, decide_true, decide_false, Bool.true_and, Bool.false_and, Bool.and_true, Bool.and_false, Bool.not_true, Bool.not_false, Bool.true_or, Bool.false_or, Bool.or_true, Bool.or_false, not_true, not_false_eq_true, ne_eq, if_true, if_false, Bool.false_eq_true]; try rfl)
  · repeat' first
      | refine J_seq ?_ | refine J_region Tryz.tyOK ?_ | refine J_block ?_ | refine J_cond ?_ | refine J_ret ?_ | refine J_skip ?_ | refine J_exit ?_ | refine J_scope ?_
      | refine CondP.yes (by omega) ?_ | refine CondP.no (by omega) ?_ | refine CondP.mk (fun h => ?_) (fun h => ?_) | refine EqP.mk rfl ?_ | refine NewP.mk (fun ad => ?_) | refine ArP.exact (by simp only [inR]; omega) ?_ | refine SideP.mk (by first | omega | (dsimp only; omega) | (simp; omega)) ?_
      | refine CallP.is (clean_ok s hs) ?_ | rw [hcl] | refine FinE.bool ?_ | refine CallP.mk [] _ _ _ (splitOne_ok s 47 (by omega)) (List.Perm.refl _) (fun _ h => h) (fun v L' D' hp => ?_); obtain ⟨g, rfl, rfl, rfl⟩ := hp
      | fail
    rotate_right
    · refine J_loop (α := Nat) (fun i => [(37, .c (.i .i64 i)), (36, lenV (splitOn 47 s).length), (35, .c (.sl (some ⟨g, 0, none⟩) (splitOn 47 s).length (splitOn 47 s).length)), (3, .c (.s s)), (1, .c (.p 0 ad 0))])
        (fun _ => [.box 0 ad 23 [.i .i64 sp, .s s]]) (fun _ => [slFact 9 1 (some ⟨g, 0, none⟩) (splitOn 47 s).length ((splitOn 47 s).map C.s), gInt 0]) 1
        (fun i => i ≤ (splitOn 47 s).length ∧ (splitOn 47 s).all pieceOK = ((splitOn 47 s).drop i).all pieceOK) (fun i => (splitOn 47 s).length - i)
        (InFam.mk 0 ⟨by omega, rfl⟩ (by repeat' first | exact SubE.nil | refine SubE.cons rfl ?_ ?_ | exact VEq.refl _ | refine VEq.int (by omega) | refine VEq.sl rfl (by first | rfl | omega | (rw [List.length_append]; rfl) | (simp; omega)) rfl) Ents.toFact) (fun i hi => ?_)
      obtain ⟨hi, hal⟩ := hi
      have hsl := splitOn_length_le 47 s
      by_cases hlt : i < (splitOn 47 s).length
      · have hrd : Reads [.box 0 ad 23 [.i .i64 sp, .s s]] [slFact 9 1 (some ⟨g, 0, none⟩) (splitOn 47 s).length ((splitOn 47 s).map C.s), gInt 0] 9 1 (some ⟨g, 0, none⟩) (splitOn 47 s).length ((splitOn 47 s).map C.s) :=
          .inr fun m h => h.1
        rw [List.drop_eq_getElem_cons hlt, List.all_cons] at hal
        have hpl := mem_splitOn_le 47 s _ (List.getElem_mem hlt)
        repeat' first
          | refine J_seq ?_ | refine J_region Tryz.tyOK ?_ | refine J_block ?_ | refine J_cond ?_ | refine J_ret ?_ | refine J_skip ?_ | refine J_exit ?_ | refine J_scope ?_
          | refine CondP.yes (by omega) ?_ | refine CondP.no (by omega) ?_ | refine CondP.mk (fun h => ?_) (fun h => ?_) | refine EqP.mk rfl ?_ | refine NewP.mk (fun ad => ?_) | refine ArP.exact (by simp only [inR]; omega) ?_ | refine SideP.mk (by first | omega | (dsimp only; omega) | (simp; omega)) ?_
          | refine IdxE.mk 9 1 _ hrd (by omega) (by omega) ?_ | refine LoadE.mk 9 _ _ [C.s (splitOn 47 s)[i]] hrd (by omega) (by omega) (by omega) (map_take1 hlt) ?_ | refine SideP.mk (by have := pos_of_ne ‹¬ (splitOn 47 s)[i] = []›; omega) ?_ | refine FinE.bool ?_ | refine Round.mk (i + 1) (by omega) ⟨by omega, ?_⟩ (by repeat' first | exact SubE.nil | refine SubE.cons rfl ?_ ?_ | exact VEq.refl _ | refine VEq.int (by omega) | refine VEq.sl rfl (by first | rfl | omega | (rw [List.length_append]; rfl) | (simp; omega)) rfl) (Ents.refl _ _)
          | fail
        all_goals ((try simp only [Int.toNat_natCast, Int.toNat_zero] at *); simp only [validT, pieceOK, *, decide_true, decide_false, Bool.true_and, Bool.false_and, Bool.and_true, Bool.and_false, Bool.not_true, Bool.not_false, Bool.true_or, Bool.false_or, Bool.or_true, Bool.or_false, not_true, not_false_eq_true, ne_eq, if_true, if_false, Bool.false_eq_true]; try rfl)
      · have hil : i = (splitOn 47 s).length := by omega
        subst hil
        simp only [List.drop_length, List.all_nil] at hal
        have e : ∀ b : Bool, b = (headOK s && (!decide (sp = 0) || !decide (colonNo s ≠ 0))) → validT sp s = b := by
          rintro b rfl
          (try simp only [Int.toNat_natCast, Int.toNat_zero] at *); simp only [validT, *, decide_true, decide_false, Bool.true_and, Bool.false_and, Bool.and_true, Bool.and_false, Bool.not_true, Bool.not_false, Bool.true_or, Bool.false_or, Bool.or_true, Bool.or_false, not_true, not_false_eq_true, ne_eq, if_true, if_false, Bool.false_eq_true]
        cases hn : decide (colonNo s ≠ 0) <;>
        (rw [hn] at e
         repeat' first
           | refine J_seq ?_ | refine J_region Tryz.tyOK ?_ | refine J_block ?_ | refine J_cond ?_ | refine J_ret ?_ | refine J_skip ?_ | refine J_exit ?_ | refine J_scope ?_
           | refine CondP.yes (by omega) ?_ | refine CondP.no (by omega) ?_ | refine CondP.mk (fun h => ?_) (fun h => ?_) | refine EqP.mk rfl ?_ | refine NewP.mk (fun ad => ?_) | refine ArP.exact (by simp only [inR]; omega) ?_ | refine SideP.mk (by first | omega | (dsimp only; omega) | (simp; omega)) ?_
           | refine FinE.bool (e _ ?_) | refine CallP.is (prefix_ok s hs) ?_ | rw [hn]
           | fail
         all_goals (clear e; (try simp only [Int.toNat_natCast, Int.toNat_zero] at *); simp only [headOK, *, decide_true, decide_false, Bool.true_and, Bool.false_and, Bool.and_true, Bool.and_false, Bool.not_true, Bool.not_false, Bool.true_or, Bool.false_or, Bool.or_true, Bool.or_false, not_true, not_false_eq_true, ne_eq, if_true, if_false, Bool.false_eq_true]; try rfl))
    all_goals ((try simp only [Int.toNat_natCast, Int.toNat_zero] at *); simp only [validT, *, decide_true, decide_false, Bool.true_and, Bool.false_and, Bool.and_true, Bool.and_false, Bool.not_true, Bool.not_false, Bool.true_or, Bool.false_or, Bool.or_true, Bool.or_false, not_true, not_false_eq_true, ne_eq, if_true, if_false, Bool.false_eq_true]; try rfl)

end Go.Proofs

namespace Go.Proofs
open Go Go.X
set_option maxRecDepth 100000

end Go.Proofs

namespace Go.Proofs
open Go Go.X
set_option maxRecDepth 100000

def titleV (sp : Int) (s : List UInt8) : V := .agg [.i .i64 sp, .s s]
def parseV (r : Int × List UInt8 × Int) : V := .t2 (.agg [.i .i64 r.1, .s r.2.1]) (.c (.i .i64 r.2.2))

theorem up_byte {x : UInt8} (h : 97 ≤ (x.toNat : Int)) : [C.i .u8 ((x.toNat : Int) - 32)] = [x - 32].map byteC := by
  have : (x - 32).toNat = x.toNat - 32 := by
    rw [UInt8.toNat_sub_of_le]
    · rfl
    · rw [UInt8.le_iff_toNat_le]; simp; omega
  simp only [List.map_cons, List.map_nil, byteC, this]
  congr 2
  omega

end Go.Proofs

namespace Go.Proofs
open Go Go.X
set_option maxRecDepth 100000

theorem nd_colon {t : List UInt8} (h : ND t) : ND (noColon t) := by
  unfold noColon; split
  · exact (h.drop 1).trimPrefix _
  · exact h
theorem nd_behind {t : List UInt8} (h : ND t) : ND (behind t) := by
  unfold behind
  by_cases hc : (cutAt 58 t).2.2 = true
  · rw [← (cutAt_drop 58 t hc).1]; exact h.drop _
  · have : ∀ s : List UInt8, ¬ (cutAt 58 s).2.2 = true → (cutAt 58 s).2.1 = [] := by
      intro s
      induction s with
      | nil => intro _; rfl
      | cons x r ih =>
        intro hn
        simp only [cutAt] at hn ⊢
        split
        · rename_i hx; rw [if_pos hx] at hn; simp at hn
        · rename_i hx; rw [if_neg hx] at hn; exact ih hn
    rw [this t hc]; exact ND.nil
theorem nd_space {t : List UInt8} (h : ND t) : ND (noSpace t) := by
  unfold noSpace; split
  · exact (nd_behind h).trimPrefix _
  · exact h

theorem upB_eq (t : List UInt8) : upB t = if (decide (0 < (t.length : Int)) && decide (97 ≤ ((t.getD 0 0).toNat : Int)) && decide (((t.getD 0 0).toNat : Int) ≤ 122)) = true then [t.getD 0 0 - 32] ++ t.drop 1 else t := by
  have : (!decide (t = [])) = decide (0 < (t.length : Int)) := by
    cases t with
    | nil => rfl
    | cons x r => simp
  unfold upB
  rw [this]

def prefV (n k : Nat) : Bool → V
  | true => .t2 (.c (.i .i64 n)) (.c (.i .i64 k))
  | false => .t2 (.c (.i .i64 0)) (.c (.i .i64 0))

end Go.Proofs

namespace Go.Proofs
open Go Go.X
set_option maxRecDepth 100000

theorem spName_idx {sp : Int} (h0 : 0 ≤ sp) (h1 : sp < 6) : ([C.s [], .s (spName 1), .s (spName 2), .s (spName 3), .s (spName 4), .s (spName 5)].drop (sp.toNat * 1)).take 1 = [C.s (spName sp.toNat)] := by
  rcases (by omega : sp = 0 ∨ sp = 1 ∨ sp = 2 ∨ sp = 3 ∨ sp = 4 ∨ sp = 5) with rfl | rfl | rfl | rfl | rfl | rfl <;> rfl

theorem format_ok (sp : Int) (s : List UInt8) (hs : s.length ≤ 1000000) : FnS Tryz.prog 40 [.agg [.i .i64 sp, .s s]] [] [gInt 0] (Is (.c (.s (formatT sp s)))) := by
  have hb := @validT_bounds sp s
  have hn := spName_le sp.toNat
  refine fn_of_J Tryz.tyOK 0 Tryz.func40 (by kernel_rfl) (c := Tryz.f40.body.getD .skip) (by kernel_rfl) Tryz.ntmps40 (rs := Tryz.f40.results.toList) rfl (by simp) (fun G => ?_)
  repeat' first
    | refine J_seq ?_ | refine J_region Tryz.tyOK ?_ | refine J_block ?_ | refine J_cond ?_ | refine J_ret ?_ | refine J_skip ?_ | refine J_exit ?_ | refine J_scope ?_
    | refine CondP.yes (by omega) ?_ | refine CondP.no (by omega) ?_ | refine CondP.mk (fun h => ?_) (fun h => ?_) | refine EqP.mk rfl ?_ | refine NewP.mk (fun ad => ?_) | refine ArP.exact (by simp only [inR]; omega) ?_ | refine SideP.mk (by first | omega | (dsimp only; omega) | (simp; omega)) ?_
    | refine CallP.isB (valid_ok sp s hs) (fun hv => ?_) (fun hv => ?_) | refine FinE.str ?_ | refine J_draw Tryz.tyOK (by kernel_rfl) [0, 1, 2, 3, 4, 5, 6, 7, 8] [] _ _ (by kernel_rfl) (Ents.refl _ _) ?_ | refine CallQ.mk [] _ spaces_ok (fun _ _ => trivial) ?_ | refine IdxA.mk [C.s (spName sp.toNat)] (by have := hb hv; omega) (by have := hb hv; omega) (spName_idx (by have := hb hv; omega) (by have := hb hv; omega)) rfl ?_ | refine SideP.mk (by have := hb hv; simp; omega) ?_
    | fail
  all_goals
    unfold formatT
    repeat (first | rw [if_pos (by assumption)] | rw [if_neg (by assumption)] | rw [if_neg (by simp [*])])
    try rfl

theorem or_ok (a : Option Addr) (c : Nat) (x y : Int) : FnS Tryz.prog 107 [.c (.sl a 2 c)] [.row 3 1 a 2 c [.i .i64 x, .i .i64 y]] [] (Is (.c (.i .i64 (if x ≠ 0 then x else y)))) := by
  have hrd : Reads [.row 3 1 a 2 c [.i .i64 x, .i .i64 y]] [] 3 1 a 2 [.i .i64 x, .i .i64 y] := .inl ⟨c, List.Mem.head _⟩
  refine fn_of_J Tryz.tyOK 0 Tryz.func107 (by kernel_rfl) (c := Tryz.f107.body.getD .skip) (by kernel_rfl) Tryz.ntmps107 (rs := Tryz.f107.results.toList) rfl (by simp) (fun G => ?_)
  repeat' first
    | refine J_seq ?_ | refine J_region Tryz.tyOK ?_ | refine J_block ?_ | refine J_cond ?_ | refine J_ret ?_ | refine J_skip ?_ | refine J_exit ?_ | refine J_scope ?_
    | refine CondP.yes (by omega) ?_ | refine CondP.no (by omega) ?_ | refine CondP.mk (fun h => ?_) (fun h => ?_) | refine EqP.mk rfl ?_ | refine NewP.mk (fun ad => ?_) | refine ArP.exact (by simp only [inR]; omega) ?_ | refine SideP.mk (by first | omega | (dsimp only; omega) | (simp; omega)) ?_
    | refine J_rounds 3 ?_ | refine JR_succ ?_ | refine IdxE.mk 3 1 _ hrd (by omega) (by omega) ?_ | refine LoadE.mk 3 _ _ _ hrd (by omega) (by omega) (by omega) rfl ?_ | refine FinE.int ?_
    | fail
  all_goals simp [*]

theorem compare_ok (a : Int) (x : List UInt8) (b : Int) (y : List UInt8) : FnS Tryz.prog 73 [.agg [.i .i64 a, .s x], .agg [.i .i64 b, .s y]] [] [] (Is (.c (.i .i64 (compareT a x b y)))) := by
  refine fn_of_J Tryz.tyOK 0 Tryz.func73 (by kernel_rfl) (c := Tryz.f73.body.getD .skip) (by kernel_rfl) Tryz.ntmps73 (rs := Tryz.f73.results.toList) rfl (by simp) (fun G => ?_)
  repeat' first
    | refine J_seq ?_ | refine J_region Tryz.tyOK ?_ | refine J_block ?_ | refine J_cond ?_ | refine J_ret ?_ | refine J_skip ?_ | refine J_exit ?_ | refine J_scope ?_
    | refine CondP.yes (by omega) ?_ | refine CondP.no (by omega) ?_ | refine CondP.mk (fun h => ?_) (fun h => ?_) | refine EqP.mk rfl ?_ | refine NewP.mk (fun ad => ?_) | refine ArP.exact (by simp only [inR]; omega) ?_ | refine SideP.mk (by first | omega | (dsimp only; omega) | (simp; omega)) ?_
    | refine J_draw Tryz.tyOK (by kernel_rfl) [0, 1, 2, 3, 4, 5, 6, 7, 8, 9, 10, 11, 12] [10, 11] _ _ (by kernel_rfl) (Ents.refl _ _) ?_ | refine CallQ.mk [] _ (compareInt_ok a b) (fun _ _ => trivial) ?_ | refine CallQ.mk [] _ (stringsCompare_ok x y) (fun _ _ => trivial) ?_ | refine CallP.mk [_] _ [] _ (or_ok _ _ _ _) (List.Perm.refl _) (fun _ h => h) (fun v L' D' hp => ?_); obtain ⟨rfl, rfl, rfl⟩ := hp | refine EntP.mk (Ents.refl _ _) ?_ | refine EntP.mk Ents.drop ?_ | refine FinE.int ?_
    | fail
  rfl

end Go.Proofs

namespace Go.Proofs
open Go Go.X
set_option maxRecDepth 100000


/-- The cells of titles of one namespace. -/
def titlesC (sp : Int) (l : List (List UInt8)) : List C := l.flatMap fun p => [.i .i64 sp, .s p]

end Go.Proofs

namespace Go.Proofs
open Go Go.X
set_option maxRecDepth 100000

theorem refFormat_ok (sp : Int) (s : List UInt8) (hs : s.length ≤ 1000000) : FnS Tryz.prog 45 [.agg [.i .i64 sp, .s s]] [] [] (Is (.c (.s (formatT sp s)))) := by
  have hb := @validT_bounds sp s
  have hn := spName_le sp.toNat
  refine fn_of_J Tryz.tyOK 0 Tryz.func45 (by kernel_rfl) (c := Tryz.f45.body.getD .skip) (by kernel_rfl) Tryz.ntmps45 (rs := Tryz.f45.results.toList) rfl (by simp) (fun G => ?_)
  repeat' first
    | refine J_seq ?_ | refine J_region Tryz.tyOK ?_ | refine J_block ?_ | refine J_cond ?_ | refine J_ret ?_ | refine J_skip ?_ | refine J_exit ?_ | refine J_scope ?_
    | refine CondP.yes (by omega) ?_ | refine CondP.no (by omega) ?_ | refine CondP.mk (fun h => ?_) (fun h => ?_) | refine EqP.mk rfl ?_ | refine NewP.mk (fun ad => ?_) | refine ArP.exact (by simp only [inR]; omega) ?_ | refine SideP.mk (by first | omega | (dsimp only; omega) | (simp; omega)) ?_
    | refine CallP.isB (refValid_ok sp s hs) (fun hv => ?_) (fun hv => ?_) | refine FinE.str ?_ | refine J_draw Tryz.tyOK (by kernel_rfl) [0, 1, 2, 3, 4, 5, 6, 7] [] _ _ (by kernel_rfl) (Ents.refl _ _) ?_ | refine CallQ.mk [] _ (spaceName_ok _) (fun _ _ => trivial) ?_ | refine SideP.mk (by have := hb hv; simp; omega) ?_
    | fail
  all_goals
    unfold formatT
    repeat (first | rw [if_pos (by assumption)] | rw [if_neg (by assumption)] | rw [if_neg (by simp [*])])
    try rfl
end Go.Proofs

namespace Go.Proofs
open Go Go.X
set_option maxRecDepth 100000

/-- The value of one number of the tape. -/
def tapeVal (x : Int) : Int := bitsV .and .i64 x 16777215

theorem bitsAnd_range (x : Int) (k : Nat) (hk : k < 2 ^ 62) : 0 ≤ bitsV .and .i64 x k ∧ bitsV .and .i64 x k ≤ k := by
  have h1 : (BitVec.ofInt 64 x &&& BitVec.ofInt 64 (k : Int)).toNat ≤ k := by
    have h2 : (BitVec.ofInt 64 (k : Int)).toNat = k := by
      rw [BitVec.toNat_ofInt]; simp; omega
    rw [BitVec.toNat_and, h2]
    exact Nat.and_le_right
  have e : bitsV .and .i64 x k = IntKind.i64.wrap (BitVec.ofInt 64 x &&& BitVec.ofInt 64 (k : Int)).toNat := rfl
  rw [e, wrap_of_inR (by simp only [inR]; omega)]
  omega

theorem tapeVal_range (x : Int) : 0 ≤ tapeVal x ∧ tapeVal x ≤ 16777215 := bitsAnd_range x 16777215 (by decide)

/-- The next number below n, and where the tape stands then. -/
def tNext (l : List Int) (at_ : Nat) (n : Int) : Int := if at_ < l.length then (tapeVal (l.getD at_ 0)).tmod n else 0
def tAt (l : List Int) (at_ : Nat) : Nat := if at_ < l.length then at_ + 1 else at_

theorem tNext_range (l : List Int) (at_ : Nat) {n : Int} (hn : 0 < n) : 0 ≤ tNext l at_ n ∧ tNext l at_ n < n := by
  unfold tNext
  split
  · have h := tapeVal_range (l.getD at_ 0)
    exact ⟨Int.tmod_nonneg _ h.1, Int.tmod_lt_of_pos _ hn⟩
  · omega
theorem tAt_le {l : List Int} {at_ : Nat} (h : at_ ≤ l.length) : tAt l at_ ≤ l.length := by unfold tAt; split <;> omega

/-- The tape as a box. -/
abbrev tapeC (ad : Nat) (a : Option Addr) (n c at_ : Nat) : Chunk := .box 1000 ad 57 [.sl a n c, .i .i64 at_]

theorem new_ok (a : Option Addr) (n c : Nat) : FnS Tryz.prog 12 [.c (.sl a n c)] [] [] (fun v L D => ∃ ad, v = .c (.p 1000 ad 0) ∧ L = [tapeC ad a n c 0] ∧ D = []) := by
  refine fn_of_J Tryz.tyOK 1000 Tryz.func12 (by kernel_rfl) (c := Tryz.f12.body.getD .skip) (by kernel_rfl) Tryz.ntmps12 (rs := Tryz.f12.results.toList) rfl (by simp) (fun G => ?_)
  repeat' first
    | refine J_seq ?_ | refine J_region Tryz.tyOK ?_ | refine J_block ?_ | refine J_cond ?_ | refine J_ret ?_ | refine J_skip ?_ | refine J_exit ?_ | refine J_scope ?_
    | refine CondP.yes (by omega) ?_ | refine CondP.no (by omega) ?_ | refine CondP.mk (fun h => ?_) (fun h => ?_) | refine EqP.mk rfl ?_ | refine NewP.mk (fun ad => ?_) | refine ArP.exact (by simp only [inR]; omega) ?_ | refine SideP.mk (by first | omega | (dsimp only; omega) | (simp; omega)) ?_
    | exact FinE.mk _ [] ⟨_, rfl, rfl, rfl⟩ (Ents.refl _ _)
    | fail

theorem next_ok (e : Nat) (a : Option Addr) (c ad at_ : Nat) (l : List Int) (n : Int) (hn : 0 < n) (hat : at_ ≤ l.length) (hl : l.length ≤ maxLen) : FnS Tryz.prog 35 [.c (.p 1000 ad 0), .c (.i .i64 n)] [tapeC ad a l.length c at_] [slFact e 1 a l.length (l.map (C.i .i64))]
    (fun v L D => v = .c (.i .i64 (tNext l at_ n)) ∧ L = [tapeC ad a l.length c (tAt l at_)] ∧ D = []) := by
  simp only [maxLen] at hl
  have hrd : ∀ L, Reads L [slFact e 1 a l.length (l.map (C.i .i64))] e 1 a l.length (l.map (C.i .i64)) := fun L => .inr fun m h => h.1
  have hx := tapeVal_range (l.getD at_ 0)
  unfold tNext tAt
  by_cases hlt : at_ < l.length
  · have hg : ((l.map (C.i .i64)).drop (at_ * 1 + 0)).take 1 = [C.i .i64 (l.getD at_ 0)] := by rw [map_take1 hlt]; simp [hlt]
    rw [if_pos hlt, if_pos hlt]
    refine fn_of_J Tryz.tyOK 0 Tryz.func35 (by kernel_rfl) (c := Tryz.f35.body.getD .skip) (by kernel_rfl) Tryz.ntmps35 (rs := Tryz.f35.results.toList) rfl (by simp) (fun G => ?_)
    repeat' first
      | refine J_seq ?_ | refine J_region Tryz.tyOK ?_ | refine J_block ?_ | refine J_cond ?_ | refine J_ret ?_ | refine J_skip ?_ | refine J_exit ?_ | refine J_scope ?_
      | refine CondP.yes (by omega) ?_ | refine CondP.no (by omega) ?_ | refine CondP.mk (fun h => ?_) (fun h => ?_) | refine EqP.mk rfl ?_ | refine NewP.mk (fun ad => ?_) | refine ArP.exact (by simp only [inR]; omega) ?_ | refine SideP.mk (by first | omega | (dsimp only; omega) | (simp; omega)) ?_
      | refine J_drawS (id := 1) Tryz.tyOK (by kernel_rfl) [0, 1, 3, 7, 0, 16, 48, 112, 240, 511] [0, 1, 2, 3, 4, 5, 6, 7, 8, 9] [] [0] true (by kernel_rfl) ?_ | refine J_drawS (id := 3) Tryz.tyOK (by kernel_rfl) [0, 1, 3, 7, 0, 16, 48, 112, 255, 511, 1023, 2047] [0, 1, 2, 3, 4, 5, 6, 7, 8, 9, 10, 11] [] [0, 24] true (by kernel_rfl) ?_ | refine EntP.mk (Ents.ofSub (by repeat (first | exact List.Sublist.slnil | refine List.Sublist.cons_cons _ ?_ | refine List.Sublist.cons _ ?_)) (by first | exact fun _ h => h | exact fun _ _ => trivial | exact fun _ h => h.2 | exact fun _ h => h.2.2.2.2 | exact fun _ h => h.2.2 | exact fun _ h => h.2.2.2 | exact fun _ h => h.2.2.2.2.2 | exact fun _ h => h.2.2.2.2.2.2 | exact fun _ h => h.2.2.2.2.2.2.2 | exact fun _ h => h.2.2.2.2.2.2.2.2 | exact fun _ h => h.2.2.2.2.2.2.2.2.2 | exact fun _ h => h.2.2.2.2.2.2.2.2.2.2 | exact fun _ h => ((allD_append _ _).1 h).2)) ?_ | refine IdxE.mk e 1 _ (hrd _) (by omega) (by omega) ?_ | refine LoadE.mk e _ _ _ (hrd _) (by omega) (by omega) (by omega) hg ?_
      | fail
    refine FinE.mk _ [] ⟨rfl, rfl, rfl⟩ ((Ents.of ?_).trans (Ents.facts fun _ _ => trivial))
    rfl
  · rw [if_neg hlt, if_neg hlt]
    refine fn_of_J Tryz.tyOK 0 Tryz.func35 (by kernel_rfl) (c := Tryz.f35.body.getD .skip) (by kernel_rfl) Tryz.ntmps35 (rs := Tryz.f35.results.toList) rfl (by simp) (fun G => ?_)
    repeat' first
      | refine J_seq ?_ | refine J_region Tryz.tyOK ?_ | refine J_block ?_ | refine J_cond ?_ | refine J_ret ?_ | refine J_skip ?_ | refine J_exit ?_ | refine J_scope ?_
      | refine CondP.yes (by omega) ?_ | refine CondP.no (by omega) ?_ | refine CondP.mk (fun h => ?_) (fun h => ?_) | refine EqP.mk rfl ?_ | refine NewP.mk (fun ad => ?_) | refine ArP.exact (by simp only [inR]; omega) ?_ | refine SideP.mk (by first | omega | (dsimp only; omega) | (simp; omega)) ?_
      | refine J_drawS (id := 1) Tryz.tyOK (by kernel_rfl) [0, 1, 3, 7, 0, 16, 48, 112, 240, 511] [0, 1, 2, 3, 4, 5, 6, 7, 8, 9] [] [0] true (by kernel_rfl) ?_ | refine J_drawS (id := 3) Tryz.tyOK (by kernel_rfl) [0, 1, 3, 7, 0, 16, 48, 112, 255, 511, 1023, 2047] [0, 1, 2, 3, 4, 5, 6, 7, 8, 9, 10, 11] [] [0, 24] true (by kernel_rfl) ?_ | refine EntP.mk (Ents.ofSub (by repeat (first | exact List.Sublist.slnil | refine List.Sublist.cons_cons _ ?_ | refine List.Sublist.cons _ ?_)) (by first | exact fun _ h => h | exact fun _ _ => trivial | exact fun _ h => h.2 | exact fun _ h => h.2.2.2.2 | exact fun _ h => h.2.2 | exact fun _ h => h.2.2.2 | exact fun _ h => h.2.2.2.2.2 | exact fun _ h => h.2.2.2.2.2.2 | exact fun _ h => h.2.2.2.2.2.2.2 | exact fun _ h => h.2.2.2.2.2.2.2.2 | exact fun _ h => h.2.2.2.2.2.2.2.2.2 | exact fun _ h => h.2.2.2.2.2.2.2.2.2.2 | exact fun _ h => ((allD_append _ _).1 h).2)) ?_ | exact FinE.mk _ [] ⟨rfl, rfl, rfl⟩ (Ents.facts fun _ _ => trivial)
      | fail

theorem of_ok (e e2 : Nat) (a b : Option Addr) (c d m ad at_ : Nat) (l : List Int) (xs : List (List UInt8)) (hm : m = xs.length) (h0 : 0 < m) (hat : at_ ≤ l.length) (hl : l.length ≤ maxLen) :
    FnS Tryz.prog 36 [.c (.p 1000 ad 0), .c (.sl b m d)] [tapeC ad a l.length c at_] [slFact e 1 a l.length (l.map (C.i .i64)), slFact e2 1 b m (xs.map C.s)]
    (fun v L D => v = .c (.s (xs.getD (tNext l at_ m).toNat [])) ∧ L = [tapeC ad a l.length c (tAt l at_)] ∧ D = []) := by
  subst hm
  have hr := tNext_range l at_ (n := (xs.length : Int)) (by omega)
  have c1 := next_ok e a c ad at_ l xs.length (by omega) hat hl
  generalize tNext l at_ xs.length = k at *
  have hg : ((xs.map C.s).drop (k.toNat * 1 + 0)).take 1 = [C.s (xs.getD k.toNat [])] := by rw [map_take1 (by omega)]; simp [show k.toNat < xs.length by omega]
  have hrd : ∀ L D, Reads L (D ++ [slFact e 1 a l.length (l.map (C.i .i64)), slFact e2 1 b xs.length (xs.map C.s)]) e2 1 b xs.length (xs.map C.s) := fun L D => .inr fun m h => ((allD_append _ _).1 h).2.2.1
  refine fn_of_J Tryz.tyOK 0 Tryz.func36 (by kernel_rfl) (c := Tryz.f36.body.getD .skip) (by kernel_rfl) Tryz.ntmps36 (rs := Tryz.f36.results.toList) rfl (by simp) (fun G => ?_)
  repeat' first
    | refine J_seq ?_ | refine J_region Tryz.tyOK ?_ | refine J_block ?_ | refine J_cond ?_ | refine J_ret ?_ | refine J_skip ?_ | refine J_exit ?_ | refine J_scope ?_
    | refine CondP.yes (by omega) ?_ | refine CondP.no (by omega) ?_ | refine CondP.mk (fun h => ?_) (fun h => ?_) | refine EqP.mk rfl ?_ | refine NewP.mk (fun ad => ?_) | refine ArP.exact (by simp only [inR]; omega) ?_ | refine SideP.mk (by first | omega | (dsimp only; omega) | (simp; omega)) ?_
    | refine CallP.mk [_] [] [_] _ c1 (by simp) (fun _ h => ⟨h.1, trivial⟩) (fun v L' D' hp => ?_); obtain ⟨rfl, rfl, rfl⟩ := hp | refine IdxE.mk e2 1 _ (hrd _ []) (by omega) (by omega) ?_ | refine LoadE.mk e2 _ _ _ (hrd _ []) (by omega) (by omega) (by omega) hg ?_ | exact FinE.mk _ [] ⟨rfl, rfl, rfl⟩ (Ents.facts fun _ _ => trivial)
    | fail

/-- The names of the titles that a tape makes. -/
def tapeNames : List (List UInt8) := [[65], [66], [65, 47, 66], [67], [84], [85, 47, 120], [65, 47, 66, 47, 99], [76, 111, 110, 103, 32, 110, 97, 109, 101], [49], [88]]

theorem tapeTitle_ok (e : Nat) (a : Option Addr) (c ad at_ : Nat) (l : List Int) (hat : at_ ≤ l.length) (hl : l.length ≤ maxLen) : FnS Tryz.prog 13 [.c (.p 1000 ad 0)] [tapeC ad a l.length c at_] [slFact e 1 a l.length (l.map (C.i .i64))]
    (fun v L D => v = .agg [.i .i64 (tNext l at_ 6), .s (tapeNames.getD (tNext l (tAt l at_) 10).toNat [])] ∧ L = [tapeC ad a l.length c (tAt l (tAt l at_))] ∧ D = []) := by
  have c1 := next_ok e a c ad at_ l 6 (by omega) hat hl
  have c2 := fun b d => of_ok e 9 a b c d 10 ad (tAt l at_) l tapeNames rfl (by decide) (tAt_le hat) hl
  refine fn_of_J Tryz.tyOK 2000 Tryz.func13 (by kernel_rfl) (c := Tryz.f13.body.getD .skip) (by kernel_rfl) Tryz.ntmps13 (rs := Tryz.f13.results.toList) rfl (by simp) (fun G => ?_)
  repeat' first
    | refine J_seq ?_ | refine J_region Tryz.tyOK ?_ | refine J_block ?_ | refine J_cond ?_ | refine J_ret ?_ | refine J_skip ?_ | refine J_exit ?_ | refine J_scope ?_
    | refine CondP.yes (by omega) ?_ | refine CondP.no (by omega) ?_ | refine CondP.mk (fun h => ?_) (fun h => ?_) | refine EqP.mk rfl ?_ | refine NewP.mk (fun ad => ?_) | refine ArP.exact (by simp only [inR]; omega) ?_ | refine SideP.mk (by first | omega | (dsimp only; omega) | (simp; omega)) ?_
    | refine CallP.mk [_] [_] [_] _ c1 (List.Perm.swap _ _ _) (fun _ h => h) (fun v L' D' hp => ?_); obtain ⟨rfl, rfl, rfl⟩ := hp | refine CallP.mkE [_] [_] _ _ _ (c2 _ _) (Ents.toFact.trans (Ents.refl _ _)) (fun _ h => ⟨h.2.1, h.1, trivial⟩) (fun v L' D' hp => ?_); obtain ⟨rfl, rfl, rfl⟩ := hp | refine FinE.mk _ [] ⟨rfl, rfl, rfl⟩ ((Ents.perm (List.Perm.swap _ _ _)).trans (Ents.drop.trans (Ents.facts fun _ _ => trivial)))
    | fail

end Go.Proofs

namespace Go.X
open Go
variable [Sm : Inhabited Manner] [Df : Inhabited (List Deferred)]
variable {P : Program} {G : Ent} {ops : Array Oper} {eff : Nat → Bool} {z : Nat} {L0 : List Chunk} {D0 : List Fact} {Te : Act → List Chunk → List Fact → Prop} {dep : Nat → Nat → Bool}

/-- A tree of orders. -/
inductive Plan where
  | leaf (r : List Nat)
  | node (pre : List Nat) (e1 : Nat) (p1 : Plan) (e2 : Nat) (p2 : Plan)
  | node3 (pre : List Nat) (e1 : Nat) (p1 : Plan) (e2 : Nat) (p2 : Plan) (e3 : Nat) (p3 : Plan)

/-- The operations of a tree, along its first branches. -/
def Plan.flat : Plan → List Nat
  | .leaf r => r
  | .node pre e1 p1 _ _ => pre ++ e1 :: p1.flat
  | .node3 pre e1 p1 _ _ _ _ => pre ++ e1 :: p1.flat

def lexP (P : Program) (G : Ent) (ops : Array Oper) (eff : Nat → Bool) (z : Nat) (L0 : List Chunk) (D0 : List Fact) (Te : Act → List Chunk → List Fact → Prop) : Plan → Act → List Chunk → List Fact → Prop
  | .leaf r => lexM P G ops eff z L0 D0 Te r
  | .node pre e1 p1 e2 p2 => lexM P G ops eff z L0 D0 (fun a L D => lexM P G ops eff z L0 D0 (lexP P G ops eff z L0 D0 Te p1) [e1] a L D ∧ lexM P G ops eff z L0 D0 (lexP P G ops eff z L0 D0 Te p2) [e2] a L D) pre
  | .node3 pre e1 p1 e2 p2 e3 p3 => lexM P G ops eff z L0 D0 (fun a L D => lexM P G ops eff z L0 D0 (lexP P G ops eff z L0 D0 Te p1) [e1] a L D ∧ lexM P G ops eff z L0 D0 (lexP P G ops eff z L0 D0 Te p2) [e2] a L D ∧ lexM P G ops eff z L0 D0 (lexP P G ops eff z L0 D0 Te p3) [e3] a L D) pre

/-- The check of a tree behind the operations 'acc'. -/
def okP (dep : Nat → Nat → Bool) (ops : Array Oper) (eff : Nat → Bool) (z : Nat) : List Nat → Plan → Prop
  | acc, .leaf r => (acc ++ r).Pairwise fun j i => pairB dep ops eff j i = true
  | acc, .node pre e1 p1 e2 p2 =>
    ((acc ++ pre) ++ [e1]).Pairwise (fun j i => pairB dep ops eff j i = true) ∧ ((acc ++ pre) ++ [e2]).Pairwise (fun j i => pairB dep ops eff j i = true) ∧
    (∀ j ∈ acc ++ pre, ∀ k ∈ e1 :: p1.flat, j ≠ k ∧ directB ops j k = false) ∧ (∀ k ∈ p1.flat, e1 ≠ k ∧ directB ops e1 k = false) ∧ (∀ k ∈ p2.flat, e2 ≠ k) ∧ e1 ≠ e2 ∧
    (∀ i ∈ p1.flat, i ≠ e2 → dep i e1 = true ∨ dep i e2 = true) ∧ (∀ i, i ∈ e1 :: p1.flat ↔ i ∈ e2 :: p2.flat) ∧ e1 ≠ z ∧ e2 ≠ z ∧ z ∉ acc ++ pre ∧ p1.flat.length = p2.flat.length ∧ ((acc ++ pre) ++ e2 :: p2.flat).Nodup ∧
    okP dep ops eff z (acc ++ pre) p1 ∧ okP dep ops eff z (acc ++ pre) p2
  | acc, .node3 pre e1 p1 e2 p2 e3 p3 =>
    ((acc ++ pre) ++ [e1]).Pairwise (fun j i => pairB dep ops eff j i = true) ∧ ((acc ++ pre) ++ [e2]).Pairwise (fun j i => pairB dep ops eff j i = true) ∧ ((acc ++ pre) ++ [e3]).Pairwise (fun j i => pairB dep ops eff j i = true) ∧
    (∀ j ∈ acc ++ pre, ∀ k ∈ e1 :: p1.flat, j ≠ k ∧ directB ops j k = false) ∧ (∀ k ∈ p1.flat, e1 ≠ k ∧ directB ops e1 k = false) ∧
    (∀ i ∈ p1.flat, i ≠ e2 → i ≠ e3 → dep i e1 = true ∨ dep i e2 = true ∨ dep i e3 = true) ∧ (∀ i, i ∈ e1 :: p1.flat ↔ i ∈ e2 :: p2.flat) ∧ (∀ i, i ∈ e1 :: p1.flat ↔ i ∈ e3 :: p3.flat) ∧ e1 ≠ z ∧ e2 ≠ z ∧ e3 ≠ z ∧ z ∉ acc ++ pre ∧ p1.flat.length = p2.flat.length ∧ p1.flat.length = p3.flat.length ∧ ((acc ++ pre) ++ e2 :: p2.flat).Nodup ∧ ((acc ++ pre) ++ e3 :: p3.flat).Nodup ∧
    okP dep ops eff z (acc ++ pre) p1 ∧ okP dep ops eff z (acc ++ pre) p2 ∧ okP dep ops eff z (acc ++ pre) p3

theorem pairB_ne {j i : Nat} (h : pairB dep ops eff j i = true) : j ≠ i := by
  simp only [pairB, Bool.and_eq_true, bne_iff_ne] at h; exact h.1.1

theorem any_of_lexP (hdep : DepOK ops dep) (hs : Region.noSelect ops = true) (hed : ∀ i o, ops[i]? = some o → ∀ e ∈ o.after, Region.binds .any e = true → e.on ≠ i ∧ e.on < ops.size) {Q' : Exit → Act → World → Prop} (hQ : ∀ a L D w, Te a L D → SatW G w L D → Q' .normal a w) :
    ∀ (p : Plan) (acc : List Nat), okP dep ops eff z acc p → ∀ (n : Nat) (acc' : List Nat) (listed : Array Bool) (a : Act) (L : List Chunk) (D : List Fact) (w : World), acc'.Sublist acc → (acc' ++ p.flat).length = n → (acc' ++ p.flat).Nodup → listed.size = ops.size → (∀ j ∈ acc' ++ p.flat, j < ops.size) → (∀ i, listed.getD i true = false ↔ i ∈ acc' ++ p.flat) → closedL ops listed →
      (z < ops.size → ∀ j ∈ acc' ++ p.flat, j ≠ z → dep z j = true) → lexM P G ops eff z L0 D0 (lexP P G ops eff z L0 D0 Te p) acc' a L D → (Ents L D L0 D0 ∨ acc' ++ p.flat = []) → SatW G w L D → wpAny P .any ops Q' n listed a w := by
  intro p
  induction p with
  | leaf r =>
    intro acc hok n acc' listed a L D w hsub hlen hnd hsz hlt hr hc hz h hE hw
    exact any_of_lexM hdep hs hed n (acc' ++ r) listed a L D w Q' hQ hlen hsz hr hc (hok.sublist (hsub.append (List.Sublist.refl _))) hz (lexM_append (fun _ _ _ h => h) acc' a L D h) hE hw
  | node pre e1 p1 e2 p2 ih1 ih2 =>
    intro acc hok n acc' listed a L D w hsub hlen hnd hsz hlt hr hc hz h hE hw
    obtain ⟨k1, k2, k3, k4, k5, k12, k6, k7, k8, k9, k10, k11, k13, o1, o2⟩ := hok
    -- all that stands ahead of the two
    have key : ∀ (m : Nat) (q : List Nat) (n : Nat) (listed : Array Bool) (a : Act) (L : List Chunk) (D : List Fact) (w : World), q.length = m → q.Sublist (acc ++ pre) → (q ++ e1 :: p1.flat).length = n → (q ++ e1 :: p1.flat).Nodup → listed.size = ops.size → (∀ j ∈ q ++ e1 :: p1.flat, j < ops.size) → (∀ i, listed.getD i true = false ↔ i ∈ q ++ e1 :: p1.flat) → closedL ops listed →
        (z < ops.size → ∀ j ∈ q ++ e1 :: p1.flat, j ≠ z → dep z j = true) → lexM P G ops eff z L0 D0 (fun a L D => lexM P G ops eff z L0 D0 (lexP P G ops eff z L0 D0 Te p1) [e1] a L D ∧ lexM P G ops eff z L0 D0 (lexP P G ops eff z L0 D0 Te p2) [e2] a L D) q a L D → Ents L D L0 D0 → SatW G w L D → wpAny P .any ops Q' n listed a w := by
      intro m
      induction m with
      | zero => ?_
      | succ m ihm => ?_
      all_goals
        intro q n listed a L D w hqm hqs hln hdu hsz hlt hr hc hz h hE hw
        have hperm : ∀ i, i ∈ q ++ e1 :: p1.flat ↔ i ∈ q ++ e2 :: p2.flat := fun i => by
          rw [List.mem_append, List.mem_append, k7 i]
        obtain ⟨n, rfl⟩ : ∃ n', n = n' + 1 := ⟨q.length + p1.flat.length, by rw [← hln]; simp; omega⟩
        have hq3 : ∀ j ∈ q, ∀ k ∈ e1 :: p1.flat, j ≠ k ∧ directB ops j k = false := fun j hj => k3 j (hqs.subset hj)
        have hp1 := k1.sublist (hqs.append (List.Sublist.refl [e1]))
        have hp2 := k2.sublist (hqs.append (List.Sublist.refl [e2]))
        have hpq := (List.pairwise_append.1 hp1).1
        have hzq : z ∉ q := fun hx => k10 (hqs.subset hx)
        have hnq : ∀ e, (e = e1 ∨ e = e2) → e ∉ q := fun e he hx => by
          rcases he with rfl | rfl
          · exact (hq3 e hx e (by simp)).1 rfl
          · exact (hq3 e hx e ((k7 e).2 (by simp))).1 rfl
        -- one of the two is taken
        have take : ∀ (e : Nat) (pp : Plan), (e = e1 ∨ e = e2) → e ≠ z → (q ++ [e]).Pairwise (fun j i => pairB dep ops eff j i = true) → (∀ i, i ∈ q ++ e1 :: p1.flat ↔ i ∈ q ++ e :: pp.flat) → (q ++ e :: pp.flat).length = n + 1 → (q ++ e :: pp.flat).Nodup →
            (∀ (n : Nat) (acc' : List Nat) (listed : Array Bool) (a : Act) (L : List Chunk) (D : List Fact) (w : World), acc'.Sublist (acc ++ pre) → (acc' ++ pp.flat).length = n → (acc' ++ pp.flat).Nodup → listed.size = ops.size → (∀ j ∈ acc' ++ pp.flat, j < ops.size) → (∀ i, listed.getD i true = false ↔ i ∈ acc' ++ pp.flat) → closedL ops listed →
              (z < ops.size → ∀ j ∈ acc' ++ pp.flat, j ≠ z → dep z j = true) → lexM P G ops eff z L0 D0 (lexP P G ops eff z L0 D0 Te pp) acc' a L D → (Ents L D L0 D0 ∨ acc' ++ pp.flat = []) → SatW G w L D → wpAny P .any ops Q' n listed a w) →
            lexM P G ops eff z L0 D0 (lexP P G ops eff z L0 D0 Te pp) (q ++ [e]) a L D → e ∈ Region.ready .any ops listed → wpOp P ops Q' e (wpAny P .any ops Q' n (listed.setIfInBounds e true)) a w := by
          intro e pp he hez hpe hpm hle hndp ihp hlex hi
          obtain ⟨hun, o, ho, hall⟩ := mem_ready.1 hi
          have hcl : clearM ops eff e o (q ++ [e]) := clear_of_pairsX hdep hc ho hall (by simp) (fun j hj => (hr j).2 ((hpm j).2 (by
            rcases List.mem_append.1 hj with hj | hj
            · simp [hj]
            · rw [List.mem_singleton.1 hj]; simp))) (hpe.imp fun {j k} (h : pairB dep ops eff j k = true) (_ : k = e) => h)
          have hst := bubble hs ho (q ++ [e]) a L D w hcl hlex hE hw
          have her : (q ++ [e]).erase e = q := by
            rw [List.erase_append_right _ (hnq e he)]; simp
          have hlte : e < listed.size := by
            rcases Nat.lt_or_ge e listed.size with h | h
            · exact h
            · simp [Array.getElem?_eq_none h] at hun
          have her2 : (q ++ e :: pp.flat).erase e = q ++ pp.flat := by
            rw [List.erase_append_right _ (hnq e he), List.erase_cons_head]
          have next : ∀ u w', (∃ L' D', SatW G w' L' D' ∧ (Ents L' D' L0 D0 ∨ e = z) ∧ lexM P G ops eff z L0 D0 (lexP P G ops eff z L0 D0 Te pp) ((q ++ [e]).erase e) (a.put o.dst u) L' D') → wpAny P .any ops Q' n (listed.setIfInBounds e true) (a.put o.dst u) w' := by
            rintro u w' ⟨L', D', hw', hE', hl⟩
            rw [her] at hl
            have hin : ∀ j ∈ q ++ pp.flat, j ∈ q ++ e1 :: p1.flat := fun j hj => (hpm j).2 (by
              rcases List.mem_append.1 hj with hj | hj
              · exact List.mem_append_left _ hj
              · exact List.mem_append_right _ (List.mem_cons_of_mem _ hj))
            refine ihp n q _ _ L' D' w' hqs (by simp at hle ⊢; omega) (hndp.sublist (List.Sublist.append (List.Sublist.refl _) (List.sublist_cons_self _ _))) (by simpa using hsz) (fun j hj => hlt j (hin j hj)) ?_ (closed_step hlte ho hall hc) (fun hzs j hj hjz => hz hzs j (hin j hj) hjz) hl (.inl (hE'.resolve_right hez)) hw'
            rw [← her2]
            exact listed_step hndp hlte fun k => (hr k).trans (hpm k)
          unfold wpOp
          simp only [ho]
          rcases hst with ⟨hwt, hg⟩ | ⟨hwt, hR⟩
          · rw [if_pos hwt]
            exact .inl (hg.wp next)
          · rw [if_neg (by simp [hwt])]
            exact next _ _ hR
        refine ⟨fun hnil => ?_, fun i hi => ?_⟩
        · exfalso
          cases q with
          | nil => exact first_ready hed hsz hr (fun k hk => (k4 k hk).2) (hlt _ (by simp)) hnil
          | cons j q =>
            refine first_ready hed hsz hr (fun k hk => ?_) (hlt _ (by simp)) hnil
            rcases List.mem_append.1 hk with hk | hk
            · have := (List.pairwise_cons.1 hpq).1 k hk
              simp only [pairB, Bool.and_eq_true, Bool.not_eq_true'] at this
              exact this.1.2
            · exact (hq3 j (by simp) k hk).2
        · by_cases hi1 : i = e1
          · subst hi1
            exact take i p1 (.inl rfl) k8 hp1 (fun _ => Iff.rfl) hln hdu (ih1 _ o1) (lexM_append (fun _ _ _ h => h.1) q a L D h) hi
          by_cases hi2 : i = e2
          · subst hi2
            have hle2 : (q ++ i :: p2.flat).length = n + 1 := by
              have h9 := hln
              simp only [List.length_append, List.length_cons] at h9 ⊢
              omega
            have hnd2 : (q ++ i :: p2.flat).Nodup := k13.sublist (hqs.append (List.Sublist.refl _))
            exact take i p2 (.inr rfl) k9 hp2 hperm hle2 hnd2 (ih2 _ o2) (lexM_append (fun _ _ _ h => h.2) q a L D h) hi
          obtain ⟨hun, o, ho, hall⟩ := mem_ready.1 hi
          have hm := (hr i).1 hun
          have hmem : i ∈ q ∨ i ∈ p1.flat := by
            simp only [List.mem_append, List.mem_cons] at hm
            rcases hm with h | h | h
            · exact .inl h
            · exact absurd h hi1
            · exact .inr h
          rcases hmem with hip | hip
          · have hcl : clearM ops eff i o q := clear_of_pairsX hdep hc ho hall hip (fun j hj => (hr j).2 (by simp [hj])) (hpq.imp fun {j k} (h : pairB dep ops eff j k = true) (_ : k = i) => h)
            have hst := bubble hs ho q a L D w hcl h hE hw
            have hltl : i < listed.size := by
              rcases Nat.lt_or_ge i listed.size with h | h
              · exact h
              · simp [Array.getElem?_eq_none h] at hun
            have her : (q ++ e1 :: p1.flat).erase i = q.erase i ++ e1 :: p1.flat := List.erase_append_left _ hip
            first
              | (exfalso; rw [List.eq_nil_of_length_eq_zero hqm] at hip; cases hip)
              | (have next : ∀ u w', (∃ L' D', SatW G w' L' D' ∧ (Ents L' D' L0 D0 ∨ i = z) ∧ lexM P G ops eff z L0 D0 (fun a L D => lexM P G ops eff z L0 D0 (lexP P G ops eff z L0 D0 Te p1) [e1] a L D ∧ lexM P G ops eff z L0 D0 (lexP P G ops eff z L0 D0 Te p2) [e2] a L D) (q.erase i) (a.put o.dst u) L' D') → wpAny P .any ops Q' n (listed.setIfInBounds i true) (a.put o.dst u) w' := by
                  rintro u w' ⟨L', D', hw', hE', hl⟩
                  have hiz : i ≠ z := fun hx => hzq (hx ▸ hip)
                  have hle : (q.erase i).length = m := by rw [List.length_erase_of_mem hip]; omega
                  have hqpos : 0 < q.length := List.length_pos_of_mem hip
                  refine ihm (q.erase i) n _ _ L' D' w' hle (List.erase_sublist.trans hqs) (by have := hln; simp only [List.length_append, List.length_cons] at this ⊢; omega) (by rw [← her]; exact hdu.sublist List.erase_sublist) (by simpa using hsz) (fun j hj => hlt j (List.mem_of_mem_erase (show j ∈ (q ++ e1 :: p1.flat).erase i by rw [her]; exact hj))) ?_ (closed_step hltl ho hall hc) (fun hzs j hj hjz => hz hzs j (List.mem_of_mem_erase (show j ∈ (q ++ e1 :: p1.flat).erase i by rw [her]; exact hj)) hjz) hl (hE'.resolve_right hiz) hw'
                  rw [← her]; exact listed_step hdu hltl hr
                 unfold wpOp
                 simp only [ho]
                 rcases hst with ⟨hwt, hg⟩ | ⟨hwt, hR⟩
                 · rw [if_pos hwt]
                   exact .inl (hg.wp next)
                 · rw [if_neg (by simp [hwt])]
                   exact next _ _ hR)
          · exfalso
            rcases k6 i hip hi2 with hd | hd
            · have := hdep _ hc i e1 (fun o' ho' => by rw [ho] at ho'; cases ho'; exact hall) hd
              rw [(hr e1).2 (by simp)] at this
              cases this
            · have := hdep _ hc i e2 (fun o' ho' => by rw [ho] at ho'; cases ho'; exact hall) hd
              rw [(hr e2).2 ((hperm e2).2 (by simp))] at this
              cases this
    have hfl : acc' ++ (Plan.node pre e1 p1 e2 p2).flat = (acc' ++ pre) ++ e1 :: p1.flat := by simp [Plan.flat]
    rw [hfl] at hlen hnd hlt hr hz hE
    exact key _ (acc' ++ pre) n listed a L D w rfl (hsub.append (List.Sublist.refl _)) hlen hnd hsz hlt hr hc hz (lexM_append (fun _ _ _ h => h) acc' a L D h) (hE.resolve_right fun h => by simp at h) hw
  | node3 pre e1 p1 e2 p2 e3 p3 ih1 ih2 ih3 =>
    intro acc hok n acc' listed a L D w hsub hlen hnd hsz hlt hr hc hz h hE hw
    obtain ⟨k1, k2, k2c, k3, k4, k6, k7, k7c, k8, k9, k9c, k10, k11, k11c, k13, k13c, o1, o2, o3⟩ := hok
    -- all that stands ahead of the two
    have key : ∀ (m : Nat) (q : List Nat) (n : Nat) (listed : Array Bool) (a : Act) (L : List Chunk) (D : List Fact) (w : World), q.length = m → q.Sublist (acc ++ pre) → (q ++ e1 :: p1.flat).length = n → (q ++ e1 :: p1.flat).Nodup → listed.size = ops.size → (∀ j ∈ q ++ e1 :: p1.flat, j < ops.size) → (∀ i, listed.getD i true = false ↔ i ∈ q ++ e1 :: p1.flat) → closedL ops listed →
        (z < ops.size → ∀ j ∈ q ++ e1 :: p1.flat, j ≠ z → dep z j = true) → lexM P G ops eff z L0 D0 (fun a L D => lexM P G ops eff z L0 D0 (lexP P G ops eff z L0 D0 Te p1) [e1] a L D ∧ lexM P G ops eff z L0 D0 (lexP P G ops eff z L0 D0 Te p2) [e2] a L D ∧ lexM P G ops eff z L0 D0 (lexP P G ops eff z L0 D0 Te p3) [e3] a L D) q a L D → Ents L D L0 D0 → SatW G w L D → wpAny P .any ops Q' n listed a w := by
      intro m
      induction m with
      | zero => ?_
      | succ m ihm => ?_
      all_goals
        intro q n listed a L D w hqm hqs hln hdu hsz hlt hr hc hz h hE hw
        have hperm : ∀ i, i ∈ q ++ e1 :: p1.flat ↔ i ∈ q ++ e2 :: p2.flat := fun i => by
          rw [List.mem_append, List.mem_append, k7 i]
        have hpermc : ∀ i, i ∈ q ++ e1 :: p1.flat ↔ i ∈ q ++ e3 :: p3.flat := fun i => by
          rw [List.mem_append, List.mem_append, k7c i]
        obtain ⟨n, rfl⟩ : ∃ n', n = n' + 1 := ⟨q.length + p1.flat.length, by rw [← hln]; simp; omega⟩
        have hq3 : ∀ j ∈ q, ∀ k ∈ e1 :: p1.flat, j ≠ k ∧ directB ops j k = false := fun j hj => k3 j (hqs.subset hj)
        have hp1 := k1.sublist (hqs.append (List.Sublist.refl [e1]))
        have hp2 := k2.sublist (hqs.append (List.Sublist.refl [e2]))
        have hp3 := k2c.sublist (hqs.append (List.Sublist.refl [e3]))
        have hpq := (List.pairwise_append.1 hp1).1
        have hzq : z ∉ q := fun hx => k10 (hqs.subset hx)
        have hnq : ∀ e, (e = e1 ∨ e = e2 ∨ e = e3) → e ∉ q := fun e he hx => by
          rcases he with rfl | rfl | rfl
          · exact (hq3 e hx e (by simp)).1 rfl
          · exact (hq3 e hx e ((k7 e).2 (by simp))).1 rfl
          · exact (hq3 e hx e ((k7c e).2 (by simp))).1 rfl
        -- one of the two is taken
        have take : ∀ (e : Nat) (pp : Plan), (e = e1 ∨ e = e2 ∨ e = e3) → e ≠ z → (q ++ [e]).Pairwise (fun j i => pairB dep ops eff j i = true) → (∀ i, i ∈ q ++ e1 :: p1.flat ↔ i ∈ q ++ e :: pp.flat) → (q ++ e :: pp.flat).length = n + 1 → (q ++ e :: pp.flat).Nodup →
            (∀ (n : Nat) (acc' : List Nat) (listed : Array Bool) (a : Act) (L : List Chunk) (D : List Fact) (w : World), acc'.Sublist (acc ++ pre) → (acc' ++ pp.flat).length = n → (acc' ++ pp.flat).Nodup → listed.size = ops.size → (∀ j ∈ acc' ++ pp.flat, j < ops.size) → (∀ i, listed.getD i true = false ↔ i ∈ acc' ++ pp.flat) → closedL ops listed →
              (z < ops.size → ∀ j ∈ acc' ++ pp.flat, j ≠ z → dep z j = true) → lexM P G ops eff z L0 D0 (lexP P G ops eff z L0 D0 Te pp) acc' a L D → (Ents L D L0 D0 ∨ acc' ++ pp.flat = []) → SatW G w L D → wpAny P .any ops Q' n listed a w) →
            lexM P G ops eff z L0 D0 (lexP P G ops eff z L0 D0 Te pp) (q ++ [e]) a L D → e ∈ Region.ready .any ops listed → wpOp P ops Q' e (wpAny P .any ops Q' n (listed.setIfInBounds e true)) a w := by
          intro e pp he hez hpe hpm hle hndp ihp hlex hi
          obtain ⟨hun, o, ho, hall⟩ := mem_ready.1 hi
          have hcl : clearM ops eff e o (q ++ [e]) := clear_of_pairsX hdep hc ho hall (by simp) (fun j hj => (hr j).2 ((hpm j).2 (by
            rcases List.mem_append.1 hj with hj | hj
            · simp [hj]
            · rw [List.mem_singleton.1 hj]; simp))) (hpe.imp fun {j k} (h : pairB dep ops eff j k = true) (_ : k = e) => h)
          have hst := bubble hs ho (q ++ [e]) a L D w hcl hlex hE hw
          have her : (q ++ [e]).erase e = q := by
            rw [List.erase_append_right _ (hnq e he)]; simp
          have hlte : e < listed.size := by
            rcases Nat.lt_or_ge e listed.size with h | h
            · exact h
            · simp [Array.getElem?_eq_none h] at hun
          have her2 : (q ++ e :: pp.flat).erase e = q ++ pp.flat := by
            rw [List.erase_append_right _ (hnq e he), List.erase_cons_head]
          have next : ∀ u w', (∃ L' D', SatW G w' L' D' ∧ (Ents L' D' L0 D0 ∨ e = z) ∧ lexM P G ops eff z L0 D0 (lexP P G ops eff z L0 D0 Te pp) ((q ++ [e]).erase e) (a.put o.dst u) L' D') → wpAny P .any ops Q' n (listed.setIfInBounds e true) (a.put o.dst u) w' := by
            rintro u w' ⟨L', D', hw', hE', hl⟩
            rw [her] at hl
            have hin : ∀ j ∈ q ++ pp.flat, j ∈ q ++ e1 :: p1.flat := fun j hj => (hpm j).2 (by
              rcases List.mem_append.1 hj with hj | hj
              · exact List.mem_append_left _ hj
              · exact List.mem_append_right _ (List.mem_cons_of_mem _ hj))
            refine ihp n q _ _ L' D' w' hqs (by simp at hle ⊢; omega) (hndp.sublist (List.Sublist.append (List.Sublist.refl _) (List.sublist_cons_self _ _))) (by simpa using hsz) (fun j hj => hlt j (hin j hj)) ?_ (closed_step hlte ho hall hc) (fun hzs j hj hjz => hz hzs j (hin j hj) hjz) hl (.inl (hE'.resolve_right hez)) hw'
            rw [← her2]
            exact listed_step hndp hlte fun k => (hr k).trans (hpm k)
          unfold wpOp
          simp only [ho]
          rcases hst with ⟨hwt, hg⟩ | ⟨hwt, hR⟩
          · rw [if_pos hwt]
            exact .inl (hg.wp next)
          · rw [if_neg (by simp [hwt])]
            exact next _ _ hR
        refine ⟨fun hnil => ?_, fun i hi => ?_⟩
        · exfalso
          cases q with
          | nil => exact first_ready hed hsz hr (fun k hk => (k4 k hk).2) (hlt _ (by simp)) hnil
          | cons j q =>
            refine first_ready hed hsz hr (fun k hk => ?_) (hlt _ (by simp)) hnil
            rcases List.mem_append.1 hk with hk | hk
            · have := (List.pairwise_cons.1 hpq).1 k hk
              simp only [pairB, Bool.and_eq_true, Bool.not_eq_true'] at this
              exact this.1.2
            · exact (hq3 j (by simp) k hk).2
        · by_cases hi1 : i = e1
          · subst hi1
            exact take i p1 (.inl rfl) k8 hp1 (fun _ => Iff.rfl) hln hdu (ih1 _ o1) (lexM_append (fun _ _ _ h => h.1) q a L D h) hi
          by_cases hi2 : i = e2
          · subst hi2
            have hle2 : (q ++ i :: p2.flat).length = n + 1 := by
              have h9 := hln
              simp only [List.length_append, List.length_cons] at h9 ⊢
              omega
            have hnd2 : (q ++ i :: p2.flat).Nodup := k13.sublist (hqs.append (List.Sublist.refl _))
            exact take i p2 (.inr (.inl rfl)) k9 hp2 hperm hle2 hnd2 (ih2 _ o2) (lexM_append (fun _ _ _ h => h.2.1) q a L D h) hi
          by_cases hi3 : i = e3
          · subst hi3
            have hle3 : (q ++ i :: p3.flat).length = n + 1 := by
              have h9 := hln
              simp only [List.length_append, List.length_cons] at h9 ⊢
              omega
            have hnd3 : (q ++ i :: p3.flat).Nodup := k13c.sublist (hqs.append (List.Sublist.refl _))
            exact take i p3 (.inr (.inr rfl)) k9c hp3 hpermc hle3 hnd3 (ih3 _ o3) (lexM_append (fun _ _ _ h => h.2.2) q a L D h) hi
          obtain ⟨hun, o, ho, hall⟩ := mem_ready.1 hi
          have hm := (hr i).1 hun
          have hmem : i ∈ q ∨ i ∈ p1.flat := by
            simp only [List.mem_append, List.mem_cons] at hm
            rcases hm with h | h | h
            · exact .inl h
            · exact absurd h hi1
            · exact .inr h
          rcases hmem with hip | hip
          · have hcl : clearM ops eff i o q := clear_of_pairsX hdep hc ho hall hip (fun j hj => (hr j).2 (by simp [hj])) (hpq.imp fun {j k} (h : pairB dep ops eff j k = true) (_ : k = i) => h)
            have hst := bubble hs ho q a L D w hcl h hE hw
            have hltl : i < listed.size := by
              rcases Nat.lt_or_ge i listed.size with h | h
              · exact h
              · simp [Array.getElem?_eq_none h] at hun
            have her : (q ++ e1 :: p1.flat).erase i = q.erase i ++ e1 :: p1.flat := List.erase_append_left _ hip
            first
              | (exfalso; rw [List.eq_nil_of_length_eq_zero hqm] at hip; cases hip)
              | (have next : ∀ u w', (∃ L' D', SatW G w' L' D' ∧ (Ents L' D' L0 D0 ∨ i = z) ∧ lexM P G ops eff z L0 D0 (fun a L D => lexM P G ops eff z L0 D0 (lexP P G ops eff z L0 D0 Te p1) [e1] a L D ∧ lexM P G ops eff z L0 D0 (lexP P G ops eff z L0 D0 Te p2) [e2] a L D ∧ lexM P G ops eff z L0 D0 (lexP P G ops eff z L0 D0 Te p3) [e3] a L D) (q.erase i) (a.put o.dst u) L' D') → wpAny P .any ops Q' n (listed.setIfInBounds i true) (a.put o.dst u) w' := by
                  rintro u w' ⟨L', D', hw', hE', hl⟩
                  have hiz : i ≠ z := fun hx => hzq (hx ▸ hip)
                  have hle : (q.erase i).length = m := by rw [List.length_erase_of_mem hip]; omega
                  have hqpos : 0 < q.length := List.length_pos_of_mem hip
                  refine ihm (q.erase i) n _ _ L' D' w' hle (List.erase_sublist.trans hqs) (by have := hln; simp only [List.length_append, List.length_cons] at this ⊢; omega) (by rw [← her]; exact hdu.sublist List.erase_sublist) (by simpa using hsz) (fun j hj => hlt j (List.mem_of_mem_erase (show j ∈ (q ++ e1 :: p1.flat).erase i by rw [her]; exact hj))) ?_ (closed_step hltl ho hall hc) (fun hzs j hj hjz => hz hzs j (List.mem_of_mem_erase (show j ∈ (q ++ e1 :: p1.flat).erase i by rw [her]; exact hj)) hjz) hl (hE'.resolve_right hiz) hw'
                  rw [← her]; exact listed_step hdu hltl hr
                 unfold wpOp
                 simp only [ho]
                 rcases hst with ⟨hwt, hg⟩ | ⟨hwt, hR⟩
                 · rw [if_pos hwt]
                   exact .inl (hg.wp next)
                 · rw [if_neg (by simp [hwt])]
                   exact next _ _ hR)
          · exfalso
            rcases k6 i hip hi2 hi3 with hd | hd | hd
            · have := hdep _ hc i e1 (fun o' ho' => by rw [ho] at ho'; cases ho'; exact hall) hd
              rw [(hr e1).2 (by simp)] at this
              cases this
            · have := hdep _ hc i e2 (fun o' ho' => by rw [ho] at ho'; cases ho'; exact hall) hd
              rw [(hr e2).2 ((hperm e2).2 (by simp))] at this
              cases this
            · have := hdep _ hc i e3 (fun o' ho' => by rw [ho] at ho'; cases ho'; exact hall) hd
              rw [(hr e3).2 ((hpermc e3).2 (by simp))] at this
              cases this
    have hfl : acc' ++ (Plan.node3 pre e1 p1 e2 p2 e3 p3).flat = (acc' ++ pre) ++ e1 :: p1.flat := by simp [Plan.flat]
    rw [hfl] at hlen hnd hlt hr hz hE
    exact key _ (acc' ++ pre) n listed a L D w rfl (hsub.append (List.Sublist.refl _)) hlen hnd hsz hlt hr hc hz (lexM_append (fun _ _ _ h => h) acc' a L D h) (hE.resolve_right fun h => by simp at h) hw

/-! ### The check -/

def ndB : List Nat → Bool
  | [] => true
  | x :: r => !r.contains x && ndB r
theorem nd_spec : ∀ {l : List Nat}, ndB l = true → l.Nodup
  | [], _ => .nil
  | x :: r, h => by
    simp only [ndB, Bool.and_eq_true, Bool.not_eq_true'] at h
    exact List.nodup_cons.2 ⟨contains_not h.1, nd_spec h.2⟩
def apartB (ops : Array Oper) (j k : Nat) : Bool := j != k && !directB ops j k
theorem apart_spec {j k : Nat} (h : apartB ops j k = true) : j ≠ k ∧ directB ops j k = false := by
  simp only [apartB, Bool.and_eq_true, bne_iff_ne, Bool.not_eq_true'] at h; exact h

def okPB (dep : Nat → Nat → Bool) (ops : Array Oper) (eff : Nat → Bool) (z : Nat) : List Nat → Plan → Bool
  | acc, .leaf r => okD.go dep ops eff (acc ++ r)
  | acc, .node pre e1 p1 e2 p2 =>
    okD.go dep ops eff ((acc ++ pre) ++ [e1]) && okD.go dep ops eff ((acc ++ pre) ++ [e2]) && (acc ++ pre).all (fun j => (e1 :: p1.flat).all (apartB ops j)) && p1.flat.all (apartB ops e1) && p2.flat.all (fun k => e2 != k) && (e1 != e2)
      && p1.flat.all (fun i => Nat.beq i e2 || dep i e1 || dep i e2) && (e1 :: p1.flat).all (fun i => (e2 :: p2.flat).contains i) && (e2 :: p2.flat).all (fun i => (e1 :: p1.flat).contains i) && (e1 != z) && (e2 != z) && !(acc ++ pre).contains z
      && Nat.beq p1.flat.length p2.flat.length && ndB ((acc ++ pre) ++ e2 :: p2.flat) && okPB dep ops eff z (acc ++ pre) p1 && okPB dep ops eff z (acc ++ pre) p2
  | acc, .node3 pre e1 p1 e2 p2 e3 p3 =>
    (okD.go dep ops eff ((acc ++ pre) ++ [e1]) && (okD.go dep ops eff ((acc ++ pre) ++ [e2]) && (okD.go dep ops eff ((acc ++ pre) ++ [e3]) && ((acc ++ pre).all (fun j => (e1 :: p1.flat).all (apartB ops j)) && (p1.flat.all (apartB ops e1) && (p1.flat.all (fun i => Nat.beq i e2 || (Nat.beq i e3 || (dep i e1 || (dep i e2 || dep i e3))))
      && ((e1 :: p1.flat).all (fun i => (e2 :: p2.flat).contains i) && ((e2 :: p2.flat).all (fun i => (e1 :: p1.flat).contains i) && ((e1 :: p1.flat).all (fun i => (e3 :: p3.flat).contains i) && ((e3 :: p3.flat).all (fun i => (e1 :: p1.flat).contains i) && ((e1 != z) && ((e2 != z) && ((e3 != z) && (!(acc ++ pre).contains z && (Nat.beq p1.flat.length p2.flat.length && (Nat.beq p1.flat.length p3.flat.length && (ndB ((acc ++ pre) ++ e2 :: p2.flat) && (ndB ((acc ++ pre) ++ e3 :: p3.flat)
      && (okPB dep ops eff z (acc ++ pre) p1 && (okPB dep ops eff z (acc ++ pre) p2 && okPB dep ops eff z (acc ++ pre) p3))))))))))))))))))))

theorem okP_of : ∀ (p : Plan) (acc : List Nat), okPB dep ops eff z acc p = true → okP dep ops eff z acc p
  | .leaf r, acc, h => go_pairwise h
  | .node pre e1 p1 e2 p2, acc, h => by
    simp only [okPB, Bool.and_eq_true] at h
    obtain ⟨⟨⟨⟨⟨⟨⟨⟨⟨⟨⟨⟨⟨⟨⟨h1, h2⟩, h3⟩, h4⟩, h5⟩, h6⟩, h7⟩, h8⟩, h9⟩, h10⟩, h11⟩, h12⟩, h13⟩, h14⟩, h15⟩, h16⟩ := h
    refine ⟨go_pairwise h1, go_pairwise h2, fun j hj k hk => apart_spec (List.all_eq_true.1 (List.all_eq_true.1 h3 j hj) k hk), fun k hk => apart_spec (List.all_eq_true.1 h4 k hk), fun k hk => bne_iff_ne.1 (List.all_eq_true.1 h5 k hk), bne_iff_ne.1 h6, fun i hi hie => ?_, fun i => ⟨fun hi => ?_, fun hi => ?_⟩, bne_iff_ne.1 h10, bne_iff_ne.1 h11, contains_not (by simpa using h12), Nat.eq_of_beq_eq_true h13, nd_spec h14, okP_of p1 _ h15, okP_of p2 _ h16⟩
    · have := List.all_eq_true.1 h7 i hi
      rcases Bool.or_eq_true_iff.1 this with hx | hx
      · rcases Bool.or_eq_true_iff.1 hx with hy | hy
        · exact absurd (Nat.eq_of_beq_eq_true hy) hie
        · exact .inl hy
      · exact .inr hx
    · exact List.contains_iff_mem.1 (List.all_eq_true.1 h8 i hi)
    · exact List.contains_iff_mem.1 (List.all_eq_true.1 h9 i hi)
  | .node3 pre e1 p1 e2 p2 e3 p3, acc, h => by
    simp only [okPB, Bool.and_eq_true] at h
    obtain ⟨h1, h2, h2c, h3, h4, h7, h8, h9, h8c, h9c, h10, h11, h11c, h12, h13, h13c, h14, h14c, h15, h16, h17⟩ := h
    refine ⟨go_pairwise h1, go_pairwise h2, go_pairwise h2c, fun j hj k hk => apart_spec (List.all_eq_true.1 (List.all_eq_true.1 h3 j hj) k hk), fun k hk => apart_spec (List.all_eq_true.1 h4 k hk), fun i hi hie hic => ?_, fun i => ⟨fun hi => ?_, fun hi => ?_⟩, fun i => ⟨fun hi => ?_, fun hi => ?_⟩, bne_iff_ne.1 h10, bne_iff_ne.1 h11, bne_iff_ne.1 h11c, contains_not (by simpa using h12), Nat.eq_of_beq_eq_true h13, Nat.eq_of_beq_eq_true h13c, nd_spec h14, nd_spec h14c, okP_of p1 _ h15, okP_of p2 _ h16, okP_of p3 _ h17⟩
    · have := List.all_eq_true.1 h7 i hi
      rcases Bool.or_eq_true_iff.1 this with hx | hx
      · exact absurd (Nat.eq_of_beq_eq_true hx) hie
      · rcases Bool.or_eq_true_iff.1 hx with hy | hy
        · exact absurd (Nat.eq_of_beq_eq_true hy) hic
        · rcases Bool.or_eq_true_iff.1 hy with hz | hz
          · exact .inl hz
          · exact .inr (Bool.or_eq_true_iff.1 hz)
    · exact List.contains_iff_mem.1 (List.all_eq_true.1 h8 i hi)
    · exact List.contains_iff_mem.1 (List.all_eq_true.1 h9 i hi)
    · exact List.contains_iff_mem.1 (List.all_eq_true.1 h8c i hi)
    · exact List.contains_iff_mem.1 (List.all_eq_true.1 h9c i hi)

/-- The check of a whole region. -/
def okT (A : List Nat) (ops : Array Oper) (eff : Nat → Bool) (z : Nat) (p : Plan) : Bool :=
  Nat.ble A.length ops.size && masksB A ops && Region.noSelect ops && edgesB ops && p.flat.all (· < ops.size) && (List.range ops.size).all (p.flat.contains ·) && ndB p.flat && (Nat.ble ops.size z || p.flat.all fun j => Nat.beq j z || (A.getD z 0).testBit j)
    && okPB (fun i j => (A.getD i 0).testBit j) ops eff z [] p

theorem region_of_lexP {A : List Nat} {id : Nat} {p : Plan} {a : Act} {L : List Chunk} {D : List Fact} {w : World} {Q' : Exit → Act → World → Prop} (hm : P.follows .mixedOrders = true) (hB : okT A ops eff z p = true) (hQ : ∀ a L D w, Te a L D → SatW G w L D → Q' .normal a w)
    (h : lexP P G ops eff z L0 D0 Te p a L D) (hE : Ents L D L0 D0) (hw : SatW G w L D) : (Code.region id ops true).wp P Q' a w := by
  simp only [okT, Bool.and_eq_true, Bool.or_eq_true] at hB
  obtain ⟨⟨⟨⟨⟨⟨⟨⟨hA, hmk⟩, hs⟩, hed⟩, hlt⟩, hall⟩, hnd⟩, hz⟩, hok⟩ := hB
  have hnd := nd_spec hnd
  have hperm : p.flat.Perm (List.range ops.size) := by
    rw [List.perm_ext_iff_of_nodup hnd List.nodup_range]
    intro i
    rw [List.mem_range]
    refine ⟨fun hi => by simpa using List.all_eq_true.1 hlt i hi, fun hi => ?_⟩
    have := List.all_eq_true.1 hall i (List.mem_range.2 hi)
    rwa [List.contains_iff_mem] at this
  have hlen : p.flat.length = ops.size := by
    have := hperm.length_eq
    simpa using this
  refine wp_region_any hm ?_
  refine any_of_lexP (depOK_masks hmk hA) hs (edgesB_spec hed) hQ p [] (okP_of p [] hok) ops.size [] _ a L D _ (List.Sublist.refl _) (by simpa using hlen) (by simpa using hnd) (by simp) (fun j hj => by rw [List.nil_append, hperm.mem_iff, List.mem_range] at hj; exact hj) (fun i => ?_) ?_ ?_ h (.inl hE) (satW_drew hw)
  · rw [List.nil_append, hperm.mem_iff, List.mem_range]
    by_cases hi : i < ops.size
    · simp [hi]
    · simp [hi]
  · intro i o ho hl
    exfalso
    have hi : i < ops.size := (Array.getElem?_eq_some_iff.1 ho).1
    simp [hi] at hl
  · intro hzs j hj hjz
    rw [List.nil_append] at hj
    rcases hz with hz | hz
    · exact absurd (Nat.le_of_ble_eq_true hz) (by omega)
    · have := List.all_eq_true.1 hz j hj
      rcases Bool.or_eq_true_iff.1 this with h1 | h1
      · exact absurd (Nat.eq_of_beq_eq_true h1) hjz
      · exact h1

/-- The execution along a tree. -/
def vcP (P : Program) (T : Ty) (N : Nat) (ops : List Oper) (eff : List Nat) (z : Nat) (L0 : List Chunk) (D0 : List Fact) : Plan → Env → List Chunk → List Fact → Nat → Kont → Prop
  | .leaf r, env, L, D, nid, k => vcM P T N ops eff z L0 D0 r env L D nid k
  | .node pre e1 p1 e2 p2, env, L, D, nid, k => vcM P T N ops eff z L0 D0 pre env L D nid fun env' L' D' n' => TwoP (vcM P T N ops eff z L0 D0 [e1] env' L' D' n' (vcP P T N ops eff z L0 D0 p1 · · · · k)) (vcM P T N ops eff z L0 D0 [e2] env' L' D' n' (vcP P T N ops eff z L0 D0 p2 · · · · k))
  | .node3 pre e1 p1 e2 p2 e3 p3, env, L, D, nid, k => vcM P T N ops eff z L0 D0 pre env L D nid fun env' L' D' n' => TwoP (vcM P T N ops eff z L0 D0 [e1] env' L' D' n' (vcP P T N ops eff z L0 D0 p1 · · · · k)) (TwoP (vcM P T N ops eff z L0 D0 [e2] env' L' D' n' (vcP P T N ops eff z L0 D0 p2 · · · · k)) (vcM P T N ops eff z L0 D0 [e3] env' L' D' n' (vcP P T N ops eff z L0 D0 p3 · · · · k)))

theorem vcP_sound {N : Nat} {T : Ty} (hT : TyOK P T) (ops : List Oper) (eff : List Nat) {k : Kont} {Te : Act → List Chunk → List Fact → Prop} (hQ : ∀ env' L' D' n' a', k env' L' D' n' → EnvOK N env' a' → Te a' L' D') :
    ∀ (p : Plan) (env : Env) (L : List Chunk) (D : List Fact) (nid : Nat) (a : Act), vcP P T N ops eff z L0 D0 p env L D nid k → EnvOK N env a → lexP P G ops.toArray (fun i => eff.contains i) z L0 D0 Te p a L D
  | .leaf r, env, L, D, nid, a, h, he => vcM_sound hT ops eff hQ r env L D nid a h he
  | .node pre e1 p1 e2 p2, env, L, D, nid, a, h, he =>
    vcM_sound (Te := fun a L D => lexM P G ops.toArray (fun i => eff.contains i) z L0 D0 (lexP P G ops.toArray (fun i => eff.contains i) z L0 D0 Te p1) [e1] a L D ∧ lexM P G ops.toArray (fun i => eff.contains i) z L0 D0 (lexP P G ops.toArray (fun i => eff.contains i) z L0 D0 Te p2) [e2] a L D)
      hT ops eff (fun env' L' D' n' a' hk he' =>
        ⟨vcM_sound (Te := lexP P G ops.toArray (fun i => eff.contains i) z L0 D0 Te p1) hT ops eff (fun env2 L2 D2 n2 a2 hk2 he2 => vcP_sound hT ops eff hQ p1 env2 L2 D2 n2 a2 hk2 he2) [e1] env' L' D' n' a' hk.l he',
         vcM_sound (Te := lexP P G ops.toArray (fun i => eff.contains i) z L0 D0 Te p2) hT ops eff (fun env2 L2 D2 n2 a2 hk2 he2 => vcP_sound hT ops eff hQ p2 env2 L2 D2 n2 a2 hk2 he2) [e2] env' L' D' n' a' hk.r he'⟩) pre env L D nid a h he
  | .node3 pre e1 p1 e2 p2 e3 p3, env, L, D, nid, a, h, he =>
    vcM_sound (Te := fun a L D => lexM P G ops.toArray (fun i => eff.contains i) z L0 D0 (lexP P G ops.toArray (fun i => eff.contains i) z L0 D0 Te p1) [e1] a L D ∧ lexM P G ops.toArray (fun i => eff.contains i) z L0 D0 (lexP P G ops.toArray (fun i => eff.contains i) z L0 D0 Te p2) [e2] a L D ∧ lexM P G ops.toArray (fun i => eff.contains i) z L0 D0 (lexP P G ops.toArray (fun i => eff.contains i) z L0 D0 Te p3) [e3] a L D)
      hT ops eff (fun env' L' D' n' a' hk he' =>
        ⟨vcM_sound (Te := lexP P G ops.toArray (fun i => eff.contains i) z L0 D0 Te p1) hT ops eff (fun env2 L2 D2 n2 a2 hk2 he2 => vcP_sound hT ops eff hQ p1 env2 L2 D2 n2 a2 hk2 he2) [e1] env' L' D' n' a' hk.l he',
         vcM_sound (Te := lexP P G ops.toArray (fun i => eff.contains i) z L0 D0 Te p2) hT ops eff (fun env2 L2 D2 n2 a2 hk2 he2 => vcP_sound hT ops eff hQ p2 env2 L2 D2 n2 a2 hk2 he2) [e2] env' L' D' n' a' hk.r.l he',
         vcM_sound (Te := lexP P G ops.toArray (fun i => eff.contains i) z L0 D0 Te p3) hT ops eff (fun env2 L2 D2 n2 a2 hk2 he2 => vcP_sound hT ops eff hQ p3 env2 L2 D2 n2 a2 hk2 he2) [e3] env' L' D' n' a' hk.r.r he'⟩) pre env L D nid a h he

/-- A region that draws its order, executed along a tree of orders; what its quiet operations look at is named by slots. -/
theorem J_drawP {N : Nat} {env : Env} {T : Ty} (hT : TyOK P T) (hm : P.follows .mixedOrders = true) {id : Nat} {ops : List Oper} {L : List Chunk} {D : List Fact} {nid : Nat} {K : Kt} (A : List Nat) (p : Plan) (eff slots : List Nat) (z : Nat) (b : Bool) (hB : okT A ops.toArray (fun i => eff.contains i) z p = true)
    (h : vcP P T N ops eff z (keepC b (slotIds env slots) L) D p env L D nid (K .normal)) : J P G N (.region id ops.toArray true) env L D nid K :=
  ⟨fun a w he hs => region_of_lexP (z := z) (Te := fun a' L' D' => ∀ w', SatW G w' L' D' → PostK G N K .normal a' w') hm hB (fun _ _ _ w' h hw => h w' hw)
    (vcP_sound hT ops eff (fun env' L' D' n' a' hk he' w' hs' => ⟨env', L', D', n', hk, he', hs'⟩) p env L D nid a h he) (Ents.ofSub (keepC_sub _ _ _) fun _ h => h) hs⟩

end Go.X
