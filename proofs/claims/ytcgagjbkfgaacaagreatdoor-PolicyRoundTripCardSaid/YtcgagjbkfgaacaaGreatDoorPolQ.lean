/- This text shows in plain Lean that a valid policy is read again from its text, also with empty lines and comments between the lines. -/
import Derived.Test.YtcgagjbkfgaacaaGreatDoorTitleLaw
import Derived.Test.YtcgagjbkfgaacaaGreatDoorPolP
set_option linter.all false

namespace Go.X

theorem splitOn_line {l : Bs} (h : (10 : UInt8) ∉ l) (r : Bs) : splitOn 10 (l ++ 10 :: r) = l :: splitOn 10 r := by
  induction l with
  | nil => rw [List.nil_append, splitOn, if_pos rfl]
  | cons x l ih =>
    have hx : ¬ x = 10 := fun hx => h (by simp [hx])
    have hl : (10 : UInt8) ∉ l := fun hl => h (by simp [hl])
    rw [List.cons_append, splitOn, if_neg hx, ih hl]
    rfl

/-- Lines that are statements. -/
theorem split_lines : ∀ (ls : List Bs), (∀ l ∈ ls, (10 : UInt8) ∉ l) → ∀ r, splitOn 10 (ls.flatMap nl ++ r) = ls ++ splitOn 10 r
  | [], _, r => by simp
  | l :: ls, h, r => by
    have e : (l :: ls).flatMap nl ++ r = l ++ 10 :: (ls.flatMap nl ++ r) := by simp [nl]
    rw [e, splitOn_line (h l (by simp)), split_lines ls (fun x hx => h x (by simp [hx]))]; rfl

/-! ### Words of lines -/

theorem words_space {w : Bs} (h : ∀ c ∈ w, blankB c = false) (h0 : w ≠ []) (r : Bs) : wordsT blankB (w ++ 32 :: r) = w :: wordsT blankB r := by
  unfold wordsT
  have h1 := wordsGo_run (p := blankB) w [] (32 :: r) h
  rw [List.nil_append] at h1
  rw [h1, wordsGo, show blankB 32 = true from rfl]
  simp only [if_neg h0]
theorem words_last {w : Bs} (h : ∀ c ∈ w, blankB c = false) (h0 : w ≠ []) : wordsT blankB w = [w] := by
  unfold wordsT
  have h1 := wordsGo_run (p := blankB) w [] [] h
  rw [List.nil_append, List.append_nil] at h1
  rw [h1, wordsGo, if_neg h0]

theorem wd_space {w : Bs} (h : ∀ c ∈ w, blankB c = false) (h0 : w ≠ []) (r : Bs) : wd (w ++ 32 :: r) = w ∧ behindW (w ++ 32 :: r) = 32 :: r := by
  have hd : dropL (w ++ 32 :: r) = w ++ 32 :: r := by
    cases w with
    | nil => exact absurd rfl h0
    | cons x w => unfold dropL; rw [List.cons_append, List.dropWhile_cons, if_neg (by rw [h x (by simp)]; simp)]
  have key : ∀ w : Bs, (∀ c ∈ w, blankB c = false) → (w ++ 32 :: r).takeWhile nb = w ∧ (w ++ 32 :: r).dropWhile nb = 32 :: r := by
    intro w
    induction w with
    | nil => intro _; exact ⟨by rw [List.nil_append, List.takeWhile_cons, if_neg (by decide)], by rw [List.nil_append, List.dropWhile_cons, if_neg (by decide)]⟩
    | cons x w ih =>
      intro h
      have hx : nb x = true := by unfold nb; rw [h x (by simp)]; rfl
      obtain ⟨h1, h2⟩ := ih fun c hc => h c (by simp [hc])
      exact ⟨by rw [List.cons_append, List.takeWhile_cons, if_pos hx, h1], by rw [List.cons_append, List.dropWhile_cons, if_pos hx, h2]⟩
  unfold wd behindW
  rw [hd]
  exact key w h
theorem trimT_32 (r : Bs) : trimT (32 :: r) = trimT r := by
  rw [trimT_eq, trimT_eq, dropLE, dropLE]
  unfold dropL
  rw [List.dropWhile_cons, if_pos (by decide)]
theorem rest_space {w : Bs} (h : ∀ c ∈ w, blankB c = false) (h0 : w ≠ []) (r : Bs) (n : Nat) : restT (w ++ 32 :: r) (n + 1) = restT r n := by
  rw [restT_next, nextT_eq, (wd_space h h0 r).2, trimT_32, restT_trim]

theorem trimT_id {s : Bs} (h1 : ∀ x r, s = x :: r → blankB x = false) (h2 : ∀ a x, s = a ++ [x] → blankB x = false) : trimT s = s := by
  rw [trimT_eq]
  have he : dropE s = s := by
    rcases List.eq_nil_or_concat s with rfl | ⟨a, x, hx⟩
    · rfl
    · rw [List.concat_eq_append] at hx
      have := h2 a x hx
      unfold dropE
      rw [hx, List.reverse_append, List.reverse_singleton, List.singleton_append, List.dropWhile_cons, if_neg (by rw [this]; simp)]
      simp
  rw [he]
  cases s with
  | nil => rfl
  | cons x r => unfold dropL; rw [List.dropWhile_cons, if_neg (by rw [h1 x r rfl]; simp)]

theorem nameB_blank {c : UInt8} (h : nameB c = true) : blankB c = false ∧ c ≠ 10 := by
  have hr := nameB_range h
  constructor
  · cases hb : blankB c with
    | false => rfl
    | true =>
      unfold blankB at hb
      simp only [Bool.or_eq_true, beq_iff_eq] at hb
      rcases hb with rfl | rfl
      · have h32 : (32 : UInt8).toNat = 32 := rfl
        omega
      · have h9 : (9 : UInt8).toNat = 9 := rfl
        omega
  · rintro rfl
    have h10 : (10 : UInt8).toNat = 10 := rfl
    omega
theorem name_plain {s : Bs} (h : isNameT s = true) : (∀ c ∈ s, blankB c = false) ∧ s ≠ [] ∧ (10 : UInt8) ∉ s := by
  have ha := isName_all h
  have hl := isName_len h
  exact ⟨fun c hc => (nameB_blank (ha c hc)).1, fun h0 => by rw [h0] at hl; simp at hl, fun h10 => (nameB_blank (ha 10 h10)).2 rfl⟩
theorem trimPrefix_at (m : Bs) : m = Lib.trimPrefix m [64] ∨ m = 64 :: Lib.trimPrefix m [64] := by
  unfold Lib.trimPrefix
  split
  · rename_i h
    cases m with
    | nil => exact .inl rfl
    | cons x r =>
      unfold Lib.hasPrefix at h
      simp only [List.isPrefixOf, Bool.and_true, beq_iff_eq] at h
      subst h
      exact .inr rfl
  · exact .inl rfl
theorem mem_plain {m : Bs} (h : isNameT (Lib.trimPrefix m [64]) = true) : (∀ c ∈ m, blankB c = false) ∧ m ≠ [] ∧ (10 : UInt8) ∉ m := by
  obtain ⟨h1, h2, h3⟩ := name_plain h
  rcases trimPrefix_at m with hm | hm
  · rw [← hm] at h1 h2 h3; exact ⟨h1, h2, h3⟩
  · generalize Lib.trimPrefix m [64] = t at *
    subst hm
    refine ⟨fun c hc => ?_, by simp, fun hc => ?_⟩
    · rcases List.mem_cons.1 hc with rfl | hc
      · rfl
      · exact h1 c hc
    · rcases List.mem_cons.1 hc with hc | hc
      · exact absurd hc (by decide)
      · exact h3 hc

/-! ### Lines of groups -/

theorem words_mems : ∀ (ms : List Bs) (w : Bs), (∀ c ∈ w, blankB c = false) → w ≠ [] → (∀ m ∈ ms, (∀ c ∈ m, blankB c = false) ∧ m ≠ []) → wordsT blankB (w ++ ms.flatMap memText) = w :: ms
  | [], w, h, h0, _ => by rw [List.flatMap_nil, List.append_nil]; exact words_last h h0
  | m :: ms, w, h, h0, hm => by
    have e : w ++ (m :: ms).flatMap memText = w ++ 32 :: (m ++ ms.flatMap memText) := by simp [memText]
    rw [e, words_space h h0, words_mems ms m (hm m (by simp)).1 (hm m (by simp)).2 (fun x hx => hm x (by simp [hx]))]

theorem group_line {q : P3} {g : Bs × List Bs} (h1 : isNameT g.1 = true) (h2 : ∀ m ∈ g.2, isNameT (Lib.trimPrefix m [64]) = true) : stmtT q (grpLine g) = (true, (q.1 ++ [g], q.2.1, q.2.2)) ∧ (10 : UInt8) ∉ grpLine g := by
  obtain ⟨n1, n2, n3⟩ := name_plain h1
  constructor
  · have hw : wordsT blankB (grpLine g) = wGroup :: g.1 :: g.2 := by
      have e : grpLine g = wGroup ++ 32 :: (g.1 ++ g.2.flatMap memText) := by simp [grpLine, wGroup]
      rw [e, words_space (by decide) (by decide), words_mems g.2 g.1 n1 n2 (fun m hm => ⟨(mem_plain (h2 m hm)).1, (mem_plain (h2 m hm)).2.1⟩)]
    rw [stmt_group hw]
    simp
  · intro hc
    simp only [grpLine, List.mem_append, List.mem_flatMap] at hc
    rcases hc with (hc | hc) | ⟨m, hm, hc⟩
    · exact absurd hc (by decide)
    · exact n3 hc
    · simp only [memText, List.mem_append] at hc
      rcases hc with hc | hc
      · exact absurd hc (by decide)
      · exact (mem_plain (h2 m hm)).2.2 hc

/-! ### Texts of titles -/

theorem badB_facts {c : UInt8} (h : badB c = false) : c ≠ 10 ∧ c ≠ 9 ∧ c ≠ 60 ∧ c ≠ 124 := by
  refine ⟨?_, ?_, ?_, ?_⟩ <;> (rintro rfl; exact absurd h (by decide))
theorem spName_plain : ∀ n : Fin 6, ∀ c ∈ spName n.val, c ≠ 10 ∧ c ≠ 9 ∧ c ≠ 60 ∧ c ≠ 124 ∧ c ≠ 32 := by decide
theorem format_facts {sp : Int} {n : Bs} (h : validT sp n = true) : (∀ c ∈ formatT sp n, c ≠ 10 ∧ c ≠ 9 ∧ c ≠ 60 ∧ c ≠ 124) ∧ formatT sp n ≠ [] ∧ (∀ x r, formatT sp n = x :: r → blankB x = false) ∧ (∀ a x, formatT sp n = a ++ [x] → blankB x = false) := by
  obtain ⟨h0, h6, hne, _, hcl, hpc, _⟩ := valid_parts h
  have hn : ∀ c ∈ n, c ≠ 10 ∧ c ≠ 9 ∧ c ≠ 60 ∧ c ≠ 124 := fun c hc => badB_facts (badB_no hcl c hc)
  have hf : formatT sp n = if sp = 0 then n else spName sp.toNat ++ [58] ++ n := by unfold formatT; rw [if_pos h]
  have hh := head_split n hne hpc
  have hl := last_split n hpc
  have blank : ∀ c : UInt8, c ≠ 9 → c ≠ 32 → blankB c = false := fun c h1 h2 => by
    unfold blankB
    simp [h1, h2]
  have lastn : ∀ a x, n = a ++ [x] → blankB x = false := fun a x hx => by
    refine blank x (hn x (by rw [hx]; simp)).2.1 ?_
    rintro rfl
    exact hl a hx
  by_cases hs : sp = 0
  · rw [if_pos hs] at hf
    rw [hf]
    refine ⟨hn, hne, fun x r hx => ?_, lastn⟩
    refine blank x (hn x (by rw [hx]; simp)).2.1 ?_
    rintro rfl
    rw [hx] at hh
    exact hh rfl
  · rw [if_neg hs] at hf
    have hsp := spName_plain ⟨sp.toNat, by omega⟩
    have hsn := (spName_facts (sp := sp) (by omega) h6).2.2.2.1
    rw [hf]
    refine ⟨fun c hc => ?_, by simp, fun x r hx => ?_, fun a x hx => ?_⟩
    · simp only [List.mem_append, List.mem_singleton] at hc
      rcases hc with (hc | rfl) | hc
      · have := hsp c hc; exact ⟨this.1, this.2.1, this.2.2.1, this.2.2.2.1⟩
      · decide
      · exact hn c hc
    · cases hsv : spName sp.toNat with
      | nil => exact absurd hsv hsn
      | cons y t =>
        rw [hsv] at hx
        injection hx with hx1 _
        have := hsp y (by show y ∈ spName sp.toNat; rw [hsv]; simp)
        rw [← hx1]
        exact blank y this.2.1 this.2.2.2.2
    · rcases List.eq_nil_or_concat n with h1 | ⟨b, y, h1⟩
      · exact absurd h1 hne
      · rw [List.concat_eq_append] at h1
        rw [h1, ← List.append_assoc] at hx
        have h2 := List.append_inj_right' hx rfl
        injection h2 with h2 _
        rw [← h2]; exact lastn b y h1

/-! ### Lines of rules -/

theorem idx_right : ∀ k : Fin 5, idxS rightsL (rightsL.getD k.val []) = k.val := by decide
theorem right_plain : ∀ k : Fin 5, (∀ c ∈ rightsL.getD k.val [], blankB c = false ∧ c ≠ 10) ∧ rightsL.getD k.val [] ≠ [] := by decide
theorem idx_space : ∀ k : Fin 6, idxS spacesL (spacesL.getD k.val []) = k.val ∧ spacesL.getD k.val [] ≠ wAll ∧ (∀ c ∈ spacesL.getD k.val [], blankB c = false ∧ c ≠ 10) ∧ spacesL.getD k.val [] ≠ [] := by decide
theorem idx_none {s : Bs} (h : ∀ r, s ≠ 60 :: r) : s ≠ wAll ∧ idxS spacesL s = -1 := by
  refine ⟨fun hs => h _ hs, ?_⟩
  have key : ∀ xs : List Bs, (∀ x ∈ xs, ∃ r, x = 60 :: r) → idxS xs s = -1 := by
    intro xs
    induction xs with
    | nil => intro _; rfl
    | cons x xs ih =>
      intro hx
      obtain ⟨r, hr⟩ := hx x (by simp)
      rw [idxS, if_neg (fun hs => h r (hs.trans hr)), ih (fun y hy => hx y (by simp [hy]))]
      rfl
  refine key spacesL ?_
  intro x hx
  have : ∀ x ∈ spacesL, x.head? = some 60 := by decide
  have h1 := this x hx
  cases x with
  | nil => cases h1
  | cons y r => simp at h1; exact ⟨r, by rw [h1]⟩

theorem scope_text {k sp : Int} {nm : Bs} (h : scopeOK k sp nm = true) : scopeT (scopeText k sp nm) = some (k, sp, nm) ∧ trimT (scopeText k sp nm) = scopeText k sp nm ∧ (10 : UInt8) ∉ scopeText k sp nm ∧ wordsT blankB (scopeText k sp nm) ≠ [] := by
  have nonempty : ∀ s : Bs, s ≠ [] → trimT s = s → wordsT blankB s ≠ [] := fun s h0 ht hw => by
    rcases words_cases s with ⟨_, h1, h2⟩ | ⟨h1, h2⟩
    · rw [nextT_eq] at h1
      have := wd_nil h1
      rw [trimT_eq, dropLE, this] at ht
      exact h0 ht.symm
    · rw [hw] at h2; cases h2
  unfold scopeOK at h
  split at h
  · rename_i hk
    subst hk
    rw [decide_eq_true_eq] at h
    obtain ⟨rfl, rfl⟩ := h
    exact ⟨rfl, by decide, by decide, nonempty wAll (by decide) (by decide)⟩
  · split at h
    · rename_i hk
      subst hk
      simp only [Bool.and_eq_true, decide_eq_true_eq] at h
      obtain ⟨⟨h0, h6⟩, rfl⟩ := h
      obtain ⟨i1, i2, i3, i4⟩ := idx_space ⟨sp.toNat, by omega⟩
      have he : scopeText 2 sp [] = spacesL.getD sp.toNat [] := rfl
      rw [he]
      have hz : ((sp.toNat : Nat) : Int) = sp := by omega
      simp only at i1 i2 i3 i4
      have ht : trimT (spacesL.getD sp.toNat []) = spacesL.getD sp.toNat [] := trimT_id (fun x r hx => (i3 x (by rw [hx]; simp)).1) (fun a x hx => (i3 x (by rw [hx]; simp)).1)
      refine ⟨?_, ht, fun hc => (i3 10 hc).2 rfl, nonempty _ i4 ht⟩
      unfold scopeT
      rw [if_neg i2, i1, if_pos (by omega), hz]
    · split at h
      · rename_i hk
        subst hk
        obtain ⟨f1, f2, f3, f4⟩ := format_facts h
        have he : scopeText 3 sp nm = formatT sp nm := rfl
        rw [he]
        have hp := parse_format h
        obtain ⟨j1, j2⟩ := idx_none (s := formatT sp nm) (fun r hr => (f1 60 (by rw [hr]; simp)).2.2.1 rfl)
        refine ⟨?_, trimT_id f3 f4, fun hc => (f1 10 hc).1 rfl, nonempty _ f2 (trimT_id f3 f4)⟩
        unfold scopeT
        rw [if_neg j1, j2, if_neg (by decide), hp, if_pos rfl]
      · cases h

theorem rule_line {q : P3} {r : Rul} (h1 : 1 ≤ r.right) (h2 : r.right ≤ 5) (h3 : isNameT r.group = true) (h4 : scopeOK r.kind r.sp r.nm = true) : stmtT q (ruleLine r) = (true, (q.1, q.2.1 ++ [r], q.2.2)) ∧ (10 : UInt8) ∉ ruleLine r := by
  obtain ⟨al, ri, gr, k, sp, nm⟩ := r
  dsimp only at h1 h2 h3 h4
  obtain ⟨n1, n2, n3⟩ := name_plain h3
  obtain ⟨s1, s2, s3, s4⟩ := scope_text h4
  obtain ⟨r1, r2⟩ := right_plain ⟨(ri - 1).toNat, by omega⟩
  have ri1 := idx_right ⟨(ri - 1).toNat, by omega⟩
  simp only at r1 r2 ri1
  have hz : (((ri - 1).toNat : Nat) : Int) + 1 = ri := by omega
  unfold ruleLine
  dsimp only
  generalize scopeText k sp nm = st at *
  generalize rightsL.getD (ri - 1).toNat [] = rw5 at *
  have key : ∀ (v : Bs), (∀ c ∈ v, blankB c = false) → v ≠ [] → (10 : UInt8) ∉ v → v = wAllow ∨ v = wDeny → decide (v = wAllow) = al → verbR al = v ++ [32] → stmtT q (verbR al ++ rw5 ++ [32] ++ gr ++ [32] ++ st) = (true, (q.1, q.2.1 ++ [⟨al, ri, gr, k, sp, nm⟩], q.2.2)) ∧ (10 : UInt8) ∉ (verbR al ++ rw5 ++ [32] ++ gr ++ [32] ++ st) := by
    intro v v1 v2 v3 v4 v5 v6
    have e : verbR al ++ rw5 ++ [32] ++ gr ++ [32] ++ st = v ++ 32 :: (rw5 ++ 32 :: (gr ++ 32 :: st)) := by rw [v6]; simp
    rw [e]
    have b1 : ∀ c ∈ rw5, blankB c = false := fun c hc => (r1 c hc).1
    constructor
    · obtain ⟨x, xs, hx⟩ : ∃ x xs, wordsT blankB st = x :: xs := by
        cases hw : wordsT blankB st with
        | nil => exact absurd hw s4
        | cons x xs => exact ⟨x, xs, rfl⟩
      have hw : wordsT blankB (v ++ 32 :: (rw5 ++ 32 :: (gr ++ 32 :: st))) = v :: rw5 :: gr :: x :: xs := by
        rw [words_space v1 v2, words_space b1 r2, words_space n1 n2, hx]
      have hr : restT (v ++ 32 :: (rw5 ++ 32 :: (gr ++ 32 :: st))) 3 = st := by
        rw [rest_space v1 v2, rest_space b1 r2, rest_space n1 n2, restT, s2]
      rw [stmt_rule hw v4, hr, v5]
      unfold ruleW
      have hlen : ¬ (rw5 :: gr :: x :: xs).length < 3 := by simp
      simp only [List.getD_cons_zero, ri1]
      rw [if_neg (by rw [hz]; simp only [hlen, false_or]; omega), s1, hz]
      rfl
    · intro hc
      simp only [List.mem_append, List.mem_cons] at hc
      rcases hc with hc | hc | hc | hc | hc | hc | hc
      · exact v3 hc
      · exact absurd hc (by decide)
      · exact (r1 10 hc).2 rfl
      · exact absurd hc (by decide)
      · exact n3 hc
      · exact absurd hc (by decide)
      · exact s3 hc
  cases al
  · exact key wDeny (by decide) (by decide) (by decide) (.inr rfl) (by decide) rfl
  · exact key wAllow (by decide) (by decide) (by decide) (.inl rfl) (by decide) rfl

end Go.X
