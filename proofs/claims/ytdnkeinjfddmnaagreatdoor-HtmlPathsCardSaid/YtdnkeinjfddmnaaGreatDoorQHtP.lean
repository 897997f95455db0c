/- This text proves the statement HtmlPaths for every input: the call returns true, and leaves its arguments alone. -/
import Derived.Test.YtdnkeinjfddmnaaGreatDoorQ07
import Derived.Test.YtdnkeinjfddmnaaGreatDoorQ08
import Derived.Test.YtdnkeinjfddmnaaGreatDoorQ09
import Derived.Test.YtdnkeinjfddmnaaGreatDoorQ05
set_option linter.all false

namespace Go.X

theorem hexS_inj : ∀ i j : Fin 16, hexS.getD i.val 0 = hexS.getD j.val 0 → i = j := by decide

theorem hexB_inj {a b : UInt8} {x y : List UInt8} (h : hexB a ++ x = hexB b ++ y) : a = b ∧ x = y := by
  simp only [hexB, List.cons_append, List.nil_append, List.cons.injEq] at h
  obtain ⟨h1, h2, h3⟩ := h
  have ha := a.toNat_lt
  have hb := b.toNat_lt
  have e1 := hexS_inj ⟨a.toNat / 16, by omega⟩ ⟨b.toNat / 16, by omega⟩ h1
  have e2 := hexS_inj ⟨a.toNat % 16, by omega⟩ ⟨b.toNat % 16, by omega⟩ h2
  have e1' : a.toNat / 16 = b.toNat / 16 := congrArg Fin.val e1
  have e2' : a.toNat % 16 = b.toNat % 16 := congrArg Fin.val e2
  exact ⟨UInt8.toNat_inj.1 (by omega), h3⟩

theorem keep37 : ¬ keepP 37 := by decide

theorem pathB_inj {a b : UInt8} {x y : List UInt8} (ha : a ≠ 95) (hb : b ≠ 95) (h : pathB a ++ x = pathB b ++ y) : a = b ∧ x = y := by
  unfold pathB at h
  by_cases a1 : a = 32 <;> by_cases b1 : b = 32
  · subst a1 b1; simpa using h
  · subst a1
    by_cases kb : keepP b
    · simp [b1, kb] at h; exact absurd h.1.symm hb
    · simp [b1, kb] at h
  · subst b1
    by_cases ka : keepP a
    · simp [a1, ka] at h; exact absurd h.1 ha
    · simp [a1, ka] at h
  · by_cases ka : keepP a <;> by_cases kb : keepP b
    · simp [a1, b1, ka, kb] at h; exact h
    · simp [a1, b1, ka, kb] at h
      exact absurd (h.1 ▸ ka) keep37
    · simp [a1, b1, ka, kb] at h
      exact absurd (h.1 ▸ kb) keep37
    · simp only [a1, b1, ka, kb, if_false, List.cons_append, List.cons.injEq, true_and] at h
      exact hexB_inj h

theorem pathS_cons (b : UInt8) (s : List UInt8) : pathS (b :: s) = pathB b ++ pathS s := rfl

theorem pathS_inj : ∀ {a b : List UInt8}, 95 ∉ a → 95 ∉ b → pathS a = pathS b → a = b
  | [], [], _, _, _ => rfl
  | [], b :: l, _, _, h => by
    have h1 := congrArg List.length h
    have h2 := pathB_len b
    rw [pathS_cons, List.length_append] at h1
    have h3 : (pathS []).length = 0 := rfl
    omega
  | a :: k, [], _, _, h => by
    have h1 := congrArg List.length h
    have h2 := pathB_len a
    rw [pathS_cons, List.length_append] at h1
    have h3 : (pathS []).length = 0 := rfl
    omega
  | a :: k, b :: l, ha, hb, h => by
    rw [pathS_cons, pathS_cons] at h
    simp only [List.mem_cons, not_or] at ha hb
    obtain ⟨h1, h2⟩ := pathB_inj (fun e => ha.1 e.symm) (fun e => hb.1 e.symm) h
    rw [h1, pathS_inj ha.2 hb.2 h2]

end Go.X

namespace Go.X
open Go.Lib

/-! ### Blanks -/

theorem foldl_stepB_app : ∀ (r o : List UInt8), ND (o ++ r) → (o = [] → r.head? ≠ some 32) → r.foldl stepB o = o ++ r
  | [], o, _, _ => by simp
  | x :: r, o, h, h0 => by
    have hx : stepB o x = o ++ [x] := by
      by_cases hc : x = 32
      · subst hc
        have hne : ¬ o = [] := fun ho => h0 ho rfl
        refine stepB_first hne fun hl => ?_
        rcases List.eq_nil_or_concat o with rfl | ⟨q, y, rfl⟩
        · exact hne rfl
        · have e : (((q.concat y).length : Int) - 1).toNat = q.length := by simp
          rw [e] at hl
          have hy : y = 32 := by
            have : (q.concat y).getD q.length 0 = y := by simp
            rw [this] at hl
            exact (byte_iff (n := 32) (by decide)).1 hl
          subst hy
          exact h q r (by simp [List.concat_eq_append])
      · exact stepB_other hc
    rw [List.foldl_cons, hx, foldl_stepB_app r (o ++ [x]) (by simpa using h) (by simp)]
    simp

/-- A text without an underscore, without two blanks side by side, and without a blank at its ends. -/
structure Neat (t : List UInt8) : Prop where
  nd : ND t
  us : 95 ∉ t
  head : t.head? ≠ some 32
  last : ∀ a, t ≠ a ++ [32]

theorem usc_neat {t : List UInt8} (h : 95 ∉ t) : usc t = t := by
  unfold usc
  induction t with
  | nil => rfl
  | cons x r ih =>
    simp only [List.mem_cons, not_or] at h
    rw [List.map_cons, ih h.2, if_neg (Ne.symm h.1)]

theorem trimSuffix_not {t : List UInt8} (h : ∀ a, t ≠ a ++ [32]) : trimSuffix t [32] = t := by
  unfold trimSuffix
  rw [if_neg]
  intro hc
  have hc' : ([32] : List UInt8).isSuffixOf t = true := hc
  obtain ⟨a, ha⟩ := List.isSuffixOf_iff_suffix.1 hc'
  exact h a ha.symm

theorem trimSuffix_snoc (a : List UInt8) : trimSuffix (a ++ [32]) [32] = a := by
  unfold trimSuffix hasSuffix
  rw [if_pos (List.isSuffixOf_iff_suffix.2 (List.suffix_append a [32]))]
  simp

theorem trimSuffix_app {u : List UInt8} {c : UInt8} (hc : c ≠ 32) (r : List UInt8) : trimSuffix (u ++ c :: r) [32] = u ++ c :: trimSuffix r [32] := by
  rcases List.eq_nil_or_concat r with rfl | ⟨q, y, rfl⟩
  · rw [trimSuffix_not, trimSuffix_not]
    · intro a ha; simp at ha
    · intro a ha
      have := (List.append_inj' ha rfl).2
      simp at this
      exact hc this
  · rw [List.concat_eq_append]
    by_cases hy : y = 32
    · subst hy
      rw [trimSuffix_snoc, show u ++ c :: (q ++ [32]) = (u ++ c :: q) ++ [32] by simp, trimSuffix_snoc]
    · rw [trimSuffix_not, trimSuffix_not]
      · intro a ha
        have := (List.append_inj' ha rfl).2
        simp at this
        exact hy this
      · intro a ha
        rw [show u ++ c :: (q ++ [y]) = (u ++ c :: q) ++ [y] by simp] at ha
        have := (List.append_inj' ha rfl).2
        simp at this
        exact hy this

theorem single_neat {t : List UInt8} (h : Neat t) : singleB (usc t) = t := by
  rw [usc_neat h.us]
  unfold singleB
  rw [foldl_stepB_app t [] (by simpa using h.nd) (fun _ => h.head), List.nil_append, trimSuffix_not h.last]

theorem parse_of_single {s t : List UInt8} (h : singleB (usc s) = singleB (usc t)) : parseT s = parseT t := by
  have h1 : nameP s = nameP t := by unfold nameP; rw [h]
  have h2 : spaceP s = spaceP t := by unfold spaceP; rw [h]
  unfold parseT
  rw [h1, h2]

theorem stepB_32 (o : List UInt8) : stepB o 32 = o ∨ (stepB o 32 = o ++ [32] ∧ (∀ a, o ≠ a ++ [32])) := by
  by_cases h0 : o = []
  · subst h0; exact .inl stepB_nil
  · by_cases hl : ((o.getD ((o.length : Int) - 1).toNat 0).toNat : Int) = 32
    · exact .inl (stepB_blank hl)
    · refine .inr ⟨stepB_first h0 hl, fun a ha => hl ?_⟩
      subst ha
      have e : (((a ++ [32]).length : Int) - 1).toNat = a.length := by simp
      rw [e]; simp

theorem single_around (s : List UInt8) : singleB (usc ([95, 32] ++ s ++ [32, 95])) = singleB (usc s) := by
  have e : usc ([95, 32] ++ s ++ [32, 95]) = 32 :: 32 :: (usc s ++ [32, 32]) := by simp [usc]
  rw [e]
  unfold singleB
  rw [List.foldl_cons, List.foldl_cons, stepB_nil, stepB_nil, List.foldl_append]
  generalize (usc s).foldl stepB [] = o
  simp only [List.foldl_cons, List.foldl_nil]
  rcases stepB_32 o with h | ⟨h, hn⟩
  · rw [h, h]
  · have h2 : stepB (o ++ [32]) 32 = o ++ [32] := by
      rcases stepB_32 (o ++ [32]) with h2 | ⟨_, hh⟩
      · exact h2
      · exact absurd rfl (hh o)
    rw [h, h2, trimSuffix_snoc, trimSuffix_not hn]

theorem usc_lines (s : List UInt8) : usc (s.map fun x => if x = 32 then 95 else x) = usc s := by
  unfold usc
  rw [List.map_map]
  refine List.map_congr_left fun x _ => ?_
  by_cases hx : x = 32
  · subst hx; simp
  · simp [hx]

/-! ### Valid titles are read back -/

theorem badB_no {s : List UInt8} {p : Bool} (h : cleanB p s = true) : ∀ c ∈ s, badB c = false := by
  induction s generalizing p with
  | nil => simp
  | cons x r ih =>
    simp only [cleanB, Bool.and_eq_true, Bool.not_eq_true'] at h
    intro c hc
    rcases List.mem_cons.1 hc with rfl | hc
    · exact h.1.1
    · exact ih h.2 c hc

theorem clean_nd : ∀ {s : List UInt8} {p : Bool}, cleanB p s = true → ND s ∧ (p = true → s.head? ≠ some 32)
  | [], p, _ => ⟨ND.nil, by simp⟩
  | x :: r, p, h => by
    simp only [cleanB, Bool.and_eq_true, Bool.not_eq_true'] at h
    obtain ⟨h1, h2⟩ := clean_nd h.2
    refine ⟨fun a b he => ?_, fun hp hx => ?_⟩
    · cases a with
      | nil =>
        simp only [List.nil_append, List.cons.injEq] at he
        obtain ⟨rfl, rfl⟩ := he
        exact h2 rfl rfl
      | cons y a =>
        simp only [List.cons_append, List.cons.injEq] at he
        exact h1 a b he.2
    · simp at hx
      subst hx; subst hp
      simp at h

theorem clean_us {s : List UInt8} (h : cleanB false s = true) : 95 ∉ s := fun hm => by
  have := badB_no h 95 hm
  revert this
  decide

theorem pieces_all {s : List UInt8} (h : (splitOn 47 s).all pieceOK = true) : ∀ p ∈ splitOn 47 s, p ≠ [] ∧ p.head? ≠ some 32 ∧ ∀ a, p ≠ a ++ [32] := by
  intro p hp
  have := List.all_eq_true.1 h p hp
  simp only [pieceOK, Bool.and_eq_true, Bool.not_eq_true', decide_eq_false_iff_not] at this
  obtain ⟨⟨h1, h2⟩, h3⟩ := this
  refine ⟨h1, fun hh => ?_, fun a ha => ?_⟩
  · cases p with
    | nil => exact h1 rfl
    | cons x r => simp at hh; subst hh; exact h2 (by simp)
  · subst ha
    have e : (((a ++ [32]).length : Int) - 1).toNat = a.length := by simp
    rw [e] at h3
    exact h3 (by simp)

theorem trimL_not {p : List UInt8} (h : p.head? ≠ some 32) : trimLeftB p 32 = p := by
  cases p with
  | nil => rfl
  | cons x r => rw [trimL_cons, if_neg (fun hx => h (by rw [hx]; rfl))]
theorem trimR_not {p : List UInt8} (h : ∀ a, p ≠ a ++ [32]) : trimRightB p 32 = p := by
  unfold trimRightB
  rcases List.eq_nil_or_concat p with rfl | ⟨q, y, rfl⟩
  · rfl
  · rw [List.concat_eq_append] at *
    rw [List.reverse_append]
    simp only [List.reverse_cons, List.reverse_nil, List.nil_append, List.singleton_append, List.dropWhile_cons]
    rw [if_neg (by intro hy; exact h q (by simpa using hy))]
    simp

theorem slashes_valid {s : List UInt8} (h : (splitOn 47 s).all pieceOK = true) : slashesB s = s := by
  have hp := pieces_all h
  have e : slashPieces s = splitOn 47 s := by
    unfold slashPieces
    apply List.ext_getElem
    · simp
    · intro i h1 h2
      rw [List.getElem_mapIdx]
      have h3 := hp _ (List.getElem_mem h2)
      unfold slP
      split <;> split <;> simp only [trimL_not h3.2.1, trimR_not h3.2.2]
  unfold slashesB
  rw [e, join_splitOn]

theorem head_split (s : List UInt8) (h : s ≠ []) (h2 : (splitOn 47 s).all pieceOK = true) : s.head? ≠ some 32 := fun hh => by
  cases s with
  | nil => exact h rfl
  | cons x r =>
    simp at hh
    subst hh
    have e : splitOn 47 (32 :: r) = (32 :: (splitOn 47 r).headD []) :: (splitOn 47 r).tail := by simp [splitOn]
    have := pieces_all h2 (32 :: (splitOn 47 r).headD []) (by rw [e]; simp)
    exact this.2.1 rfl
theorem last_split (s : List UInt8) (h2 : (splitOn 47 s).all pieceOK = true) : ∀ a, s ≠ a ++ [32] := fun a ha => by
  subst ha
  rw [splitOn_snoc, if_neg (by decide)] at h2
  have := pieces_all (s := a ++ [32]) (by rw [splitOn_snoc, if_neg (by decide)]; exact h2) ((splitOn 47 a).getLastD [] ++ [32]) (by rw [splitOn_snoc, if_neg (by decide)]; simp)
  exact this.2.2 _ rfl

theorem valid_parts {sp : Int} {s : List UInt8} (h : validT sp s = true) : 0 ≤ sp ∧ sp < 6 ∧ s ≠ [] ∧ s.length ≤ 100 ∧ cleanB false s = true ∧ (splitOn 47 s).all pieceOK = true ∧ headOK s = true ∧ (sp = 0 → colonNo s = 0) := by
  have hb := validT_bounds h
  unfold validT at h
  simp only [Bool.and_eq_true, Bool.or_eq_true, Bool.not_eq_true', decide_eq_false_iff_not] at h
  obtain ⟨⟨⟨⟨⟨⟨⟨h1, h2⟩, h3⟩, h4⟩, h5⟩, h6⟩, h7⟩, h8⟩ := h
  refine ⟨by omega, by omega, fun hs => ?_, hb.2.2.2, h5, h6, h7, fun h0 => ?_⟩
  · subst hs; simp at h3
  · rcases h8 with h8 | h8
    · exact absurd h0 h8
    · by_cases hc : colonNo s = 0
      · exact hc
      · exact absurd hc h8

theorem valid_neat {sp : Int} {s : List UInt8} (h : validT sp s = true) : Neat s := by
  obtain ⟨_, _, h3, _, h5, h6, _, _⟩ := valid_parts h
  exact ⟨(clean_nd h5).1, clean_us h5, head_split s h3 h6, last_split s h6⟩

theorem headOK_byte {s : List UInt8} (h : headOK s = true) (h0 : s ≠ []) : s.head? ≠ some 58 ∧ upB s = s := by
  unfold headOK at h
  simp only [Bool.and_eq_true, Bool.not_eq_true', decide_eq_false_iff_not, Bool.and_eq_false_iff] at h
  constructor
  · intro hh
    cases s with
    | nil => exact h0 rfl
    | cons x r => simp at hh; subst hh; exact h.1 (by simp)
  · unfold upB
    rw [if_neg]
    intro hc
    simp only [Bool.and_eq_true, decide_eq_true_eq] at hc
    rcases h.2 with h2 | h2
    · exact h2 hc.1.2
    · exact h2 hc.2

theorem noColon_id {t : List UInt8} (h : t.head? ≠ some 58) : noColon t = t := by
  unfold noColon
  rw [if_neg]
  intro hc
  cases t with
  | nil => simp [List.isPrefixOf] at hc
  | cons x r => simp [List.isPrefixOf] at hc; exact h (by rw [← hc]; rfl)

theorem trimPrefix_not {t : List UInt8} (h : t.head? ≠ some 32) : trimPrefix t [32] = t := by
  unfold trimPrefix hasPrefix
  rw [if_neg]
  intro hc
  cases t with
  | nil => simp [List.isPrefixOf] at hc
  | cons x r => simp [List.isPrefixOf] at hc; exact h (by rw [← hc]; rfl)

/-- What is read once the text is t, behind ":" and blanks. -/
theorem parse_at {s t : List UInt8} {sp : Int} {n : List UInt8} (hv : validT sp n = true) (h1 : noColon (singleB (usc s)) = t) (h2 : (colonNo t : Int) = sp) (h3 : noSpace t = n) : parseT s = (sp, n, 0) := by
  obtain ⟨_, _, h4, h5, _, h6, h7, _⟩ := valid_parts hv
  have hn : nameP s = n := by unfold nameP; rw [h1, h3, slashes_valid h6, (headOK_byte h7 h4).2]
  have hs : (spaceP s : Int) = sp := by unfold spaceP; rw [h1, h2]
  unfold parseT
  rw [hn, hs, if_neg (by simp; omega), if_pos hv]

theorem cutAt_mid {c : UInt8} : ∀ {u : List UInt8} (_ : c ∉ u) (r : List UInt8), cutAt c (u ++ c :: r) = (u, r, true)
  | [], _, r => by simp [cutAt]
  | x :: u, h, r => by
    simp only [List.mem_cons, not_or] at h
    simp only [List.cons_append, cutAt, if_neg (Ne.symm h.1), cutAt_mid h.2 r]

theorem spName_facts {sp : Int} (h0 : 0 < sp) (h1 : sp < 6) : 58 ∉ spName sp.toNat ∧ 95 ∉ spName sp.toNat ∧ 32 ∉ spName sp.toNat ∧ spName sp.toNat ≠ [] ∧ (spaceNo (spName sp.toNat) : Int) = sp := by
  rcases (by omega : sp = 1 ∨ sp = 2 ∨ sp = 3 ∨ sp = 4 ∨ sp = 5) with rfl | rfl | rfl | rfl | rfl <;> decide

theorem format_neat {sp : Int} {n : List UInt8} (h : validT sp n = true) : Neat (formatT sp n) ∧ (formatT sp n).head? ≠ some 58 ∧ (colonNo (formatT sp n) : Int) = sp ∧ noSpace (formatT sp n) = n := by
  obtain ⟨h0, h1, hn, _, _, _, hh, hc⟩ := valid_parts h
  have hnt := valid_neat h
  have hf : formatT sp n = if sp = 0 then n else spName sp.toNat ++ [58] ++ n := by unfold formatT; rw [if_pos h]
  rw [hf]
  by_cases hs : sp = 0
  · rw [if_pos hs]
    have hc0 := hc hs
    refine ⟨hnt, (headOK_byte hh hn).1, by omega, ?_⟩
    unfold noSpace
    rw [if_neg (by simp [hc0])]
  · rw [if_neg hs]
    obtain ⟨k1, k2, k3, k4, k5⟩ := spName_facts (sp := sp) (by omega) h1
    have e : spName sp.toNat ++ [58] ++ n = spName sp.toNat ++ 58 :: n := by simp
    rw [e]
    have hcut := cutAt_mid k1 n
    have hno : colonNo (spName sp.toNat ++ 58 :: n) = spaceNo (spName sp.toNat) := by
      unfold colonNo
      rw [hcut, if_pos rfl]
      rw [trimSuffix_not (t := spName sp.toNat) (fun a ha => k3 (by rw [ha]; simp))]
    refine ⟨⟨?_, ?_, ?_, ?_⟩, ?_, by rw [hno, k5], ?_⟩
    · intro a b he
      -- two blanks lie in n
      have : ∀ (u a : List UInt8), 32 ∉ u → u ++ 58 :: n = a ++ 32 :: 32 :: b → False := by
        intro u
        induction u with
        | nil =>
          intro a _ he
          cases a with
          | nil => simp at he
          | cons y a => simp only [List.nil_append, List.cons_append, List.cons.injEq] at he; exact hnt.nd a b he.2
        | cons y u ih =>
          intro a hu he
          simp only [List.mem_cons, not_or] at hu
          cases a with
          | nil => simp only [List.cons_append, List.nil_append, List.cons.injEq] at he; exact hu.1 he.1.symm
          | cons z a => simp only [List.cons_append, List.cons.injEq] at he; exact ih a hu.2 he.2
      exact this _ a k3 he
    · intro hm
      simp only [List.mem_append, List.mem_cons] at hm
      rcases hm with hm | hm | hm
      · exact k2 hm
      · exact absurd hm (by decide)
      · exact hnt.us hm
    · cases hx : spName sp.toNat with
      | nil => exact absurd hx k4
      | cons x r => rw [hx] at k3; simp only [List.mem_cons, not_or] at k3; simp only [List.cons_append, List.head?_cons, ne_eq, Option.some.injEq]; exact fun hh => k3.1 hh.symm
    · intro a ha
      rcases List.eq_nil_or_concat n with rfl | ⟨q, y, rfl⟩
      · exact hn rfl
      · rw [List.concat_eq_append] at *
        rw [show spName sp.toNat ++ 58 :: (q ++ [y]) = (spName sp.toNat ++ 58 :: q) ++ [y] by simp] at ha
        have := (List.append_inj' ha rfl).2
        simp at this
        exact hnt.last q (by rw [this])
    · cases hx : spName sp.toNat with
      | nil => exact absurd hx k4
      | cons x r => rw [hx] at k1; simp only [List.mem_cons, not_or] at k1; simp only [List.cons_append, List.head?_cons, ne_eq, Option.some.injEq]; exact fun hh => k1.1 hh.symm
    · unfold noSpace behind
      have : colonNo (spName sp.toNat ++ 58 :: n) ≠ 0 := by omega
      rw [if_pos (by simpa using this), hcut]
      exact trimPrefix_not hnt.head

theorem parse_format {sp : Int} {n : List UInt8} (h : validT sp n = true) : parseT (formatT sp n) = (sp, n, 0) := by
  obtain ⟨h1, h2, h3, h4⟩ := format_neat h
  exact parse_at h (by rw [single_neat h1, noColon_id h2]) h3 h4

theorem parse_colon {sp : Int} {n : List UInt8} (h : validT sp n = true) : parseT (58 :: formatT sp n) = (sp, n, 0) := by
  obtain ⟨h1, h2, h3, h4⟩ := format_neat h
  refine parse_at (t := formatT sp n) h ?_ h3 h4
  have hu : Neat (58 :: formatT sp n) := by
    refine ⟨fun a b he => ?_, ?_, by simp, fun a ha => ?_⟩
    · cases a with
      | nil => simp at he
      | cons y a => simp only [List.cons_append, List.cons.injEq] at he; exact h1.nd a b he.2
    · simp only [List.mem_cons, not_or]; exact ⟨by decide, h1.us⟩
    · cases a with
      | nil => simp at ha
      | cons y a => simp only [List.cons_append, List.cons.injEq] at ha; exact h1.last a ha.2
  rw [single_neat hu]
  unfold noColon
  rw [if_pos (by simp [List.isPrefixOf])]
  exact trimPrefix_not h1.head

theorem parse_ok {s : List UInt8} {sp : Int} {n : List UInt8} (h : parseT s = (sp, n, 0)) : validT sp n = true := by
  unfold parseT at h
  split at h
  · simp at h
  · split at h
    · rename_i hv
      simp only [Prod.mk.injEq, and_true] at h
      rw [← h.1, ← h.2]; exact hv
    · simp at h
theorem parse_err {s : List UInt8} {sp : Int} {n : List UInt8} {e : Int} (h : parseT s = (sp, n, e)) (he : e ≠ 0) : sp = 0 ∧ n = [] := by
  unfold parseT at h
  split at h
  · simp only [Prod.mk.injEq] at h; exact ⟨h.1.symm, h.2.1.symm⟩
  · split at h
    · simp only [Prod.mk.injEq] at h; exact absurd h.2.2.symm he
    · simp only [Prod.mk.injEq] at h; exact ⟨h.1.symm, h.2.1.symm⟩

/-! ### Names of namespaces -/

/-- What is left of a text behind one that ends (p: with a blank). -/
def tailB : Bool → List UInt8 → List UInt8
  | _, [] => []
  | p, x :: r => if x = 32 then (if p = true then tailB true r else 32 :: tailB true r) else x :: tailB false r

theorem stepB_last {o : List UInt8} (h0 : o ≠ []) (hl : ∀ a, o ≠ a ++ [32]) : stepB o 32 = o ++ [32] := by
  rcases stepB_32 o with h | h
  · refine stepB_first h0 fun hh => ?_
    rcases List.eq_nil_or_concat o with rfl | ⟨q, y, rfl⟩
    · exact h0 rfl
    · have e : (((q.concat y).length : Int) - 1).toNat = q.length := by simp
      rw [e] at hh
      have : (q.concat y).getD q.length 0 = y := by simp
      rw [this] at hh
      have hy := (byte_iff (n := 32) (by decide)).1 hh
      exact hl q (by rw [hy, List.concat_eq_append]; rfl)
  · exact h.1
theorem stepB_snoc32 (a : List UInt8) : stepB (a ++ [32]) 32 = a ++ [32] := by
  rcases stepB_32 (a ++ [32]) with h | ⟨_, h⟩
  · exact h
  · exact absurd rfl (h a)

theorem fold_tail : ∀ (q o : List UInt8) (p : Bool), o ≠ [] → (p = true → ∃ a, o = a ++ [32]) → (p = false → ∀ a, o ≠ a ++ [32]) → q.foldl stepB o = o ++ tailB p q
  | [], o, p, _, _, _ => by simp [tailB]
  | x :: q, o, p, h0, h1, h2 => by
    rw [List.foldl_cons]
    by_cases hx : x = 32
    · subst hx
      cases p with
      | true =>
        obtain ⟨a, ha⟩ := h1 rfl
        rw [ha, stepB_snoc32, ← ha, fold_tail q o true h0 h1 h2]
        simp [tailB]
      | false =>
        rw [stepB_last h0 (h2 rfl), fold_tail q (o ++ [32]) true (by simp) (fun _ => ⟨o, rfl⟩) (by simp)]
        simp [tailB]
    · rw [stepB_other hx, fold_tail q (o ++ [x]) false (by simp) (by simp) (fun _ a ha => hx (by have := (List.append_inj' ha rfl).2; simpa using this))]
      simp [tailB, hx]

theorem tail_true : ∀ q : List UInt8, tailB true q = trimPrefix (tailB false q) [32]
  | [] => rfl
  | x :: q => by
    by_cases hx : x = 32
    · subst hx
      simp only [tailB, if_true, Bool.false_eq_true, if_false]
      rfl
    · simp only [tailB, if_neg hx]
      rw [trimPrefix_not]
      simp; exact hx
theorem tail_head : ∀ q : List UInt8, (tailB true q).head? ≠ some 32
  | [] => by simp [tailB]
  | x :: q => by
    by_cases hx : x = 32
    · subst hx; simp only [tailB, if_true]; exact tail_head q
    · simp [tailB, hx]
theorem tail_false (q : List UInt8) : tailB false q = tailB true q ∨ tailB false q = 32 :: tailB true q := by
  cases q with
  | nil => exact .inl rfl
  | cons x q =>
    by_cases hx : x = 32
    · subst hx; exact .inr (by simp [tailB])
    · exact .inl (by simp [tailB, hx])

theorem trimS_head {x : List UInt8} (h : x.head? ≠ some 32) : (trimSuffix x [32]).head? ≠ some 32 := by
  unfold trimSuffix
  split
  · cases x with
    | nil => exact h
    | cons y r =>
      cases r with
      | nil => simp
      | cons z r => simpa using h
  · exact h

/-- Behind the ":", with or without a blank. -/
theorem behind_same (q : List UInt8) : trimPrefix (trimSuffix (32 :: tailB true q) [32]) [32] = trimSuffix (tailB true q) [32] ∧ trimPrefix (trimSuffix (tailB false q) [32]) [32] = trimSuffix (tailB true q) [32] := by
  have h0 := tail_head q
  have key : trimPrefix (trimSuffix (32 :: tailB true q) [32]) [32] = trimSuffix (tailB true q) [32] := by
    rcases List.eq_nil_or_concat (tailB true q) with hx | ⟨a, y, hx⟩
    · rw [hx]; rfl
    · rw [hx, List.concat_eq_append] at *
      by_cases hy : y = 32
      · subst hy
        rw [show (32 : UInt8) :: (a ++ [32]) = (32 :: a) ++ [32] by simp, trimSuffix_snoc, trimSuffix_snoc]
        rfl
      · have hl : ∀ b, a ++ [y] ≠ b ++ [32] := fun b hb => hy (by have := (List.append_inj' hb rfl).2; simpa using this)
        have hl2 : ∀ b, 32 :: (a ++ [y]) ≠ b ++ [32] := fun b hb => hy (by
          rw [show (32 : UInt8) :: (a ++ [y]) = (32 :: a) ++ [y] by simp] at hb
          have := (List.append_inj' hb rfl).2; simpa using this)
        rw [trimSuffix_not hl, trimSuffix_not hl2]
        rfl
  refine ⟨key, ?_⟩
  rcases tail_false q with h | h
  · rw [h, trimPrefix_not (trimS_head h0)]
  · rw [h, key]

/-- How the texts before the ":" are read. -/
structure Pre (A u : List UInt8) (b : Bool) (k : Nat) : Prop where
  fold : (usc A).foldl stepB [] = u ++ 58 :: (if b = true then [32] else [])
  no : 58 ∉ u
  ne : u ≠ []
  sp : spaceNo (trimSuffix u [32]) = k

theorem pre_single {A u : List UInt8} {b : Bool} {k : Nat} (h : Pre A u b k) (s : List UInt8) : singleB (usc (A ++ s)) = u ++ 58 :: trimSuffix ((if b = true then [32] else []) ++ tailB b (usc s)) [32] := by
  have e : usc (A ++ s) = usc A ++ usc s := by simp [usc]
  unfold singleB
  rw [e, List.foldl_append, h.fold, fold_tail (usc s) _ b (by simp) (fun hb => by subst hb; exact ⟨u ++ [58], by simp⟩) (fun hb a ha => by
    subst hb
    have ha' : u ++ [58] = a ++ [32] := ha
    have := (List.append_inj' ha' rfl).2
    simp at this), List.append_assoc, List.cons_append, trimSuffix_app (by decide)]

theorem pre_parts {A u : List UInt8} {b : Bool} {k : Nat} (h : Pre A u b k) (hk : k ≠ 0) (s : List UInt8) : spaceP (A ++ s) = k ∧ nameP (A ++ s) = upB (slashesB (trimSuffix (tailB true (usc s)) [32])) := by
  have h1 := pre_single h s
  have hd : (u ++ 58 :: trimSuffix ((if b = true then [32] else []) ++ tailB b (usc s)) [32]).head? ≠ some 58 := by
    cases hx : u with
    | nil => exact absurd hx h.ne
    | cons x r => have := h.no; rw [hx] at this; simp only [List.mem_cons, not_or] at this; simp only [List.cons_append, List.head?_cons, ne_eq, Option.some.injEq]; exact fun hh => this.1 hh.symm
  have hcut := cutAt_mid h.no (trimSuffix ((if b = true then [32] else []) ++ tailB b (usc s)) [32])
  have hno : colonNo (u ++ 58 :: trimSuffix ((if b = true then [32] else []) ++ tailB b (usc s)) [32]) = k := by
    unfold colonNo
    rw [hcut, if_pos rfl, h.sp]
  constructor
  · unfold spaceP
    rw [h1, noColon_id hd, hno]
  · unfold nameP
    rw [h1, noColon_id hd]
    unfold noSpace behind
    rw [if_pos (by simpa [hno] using hk), hcut]
    have hb := behind_same (usc s)
    cases b with
    | true => simp only [if_true, List.singleton_append]; rw [hb.1]
    | false => simp only [Bool.false_eq_true, if_false, List.nil_append]; rw [hb.2]

theorem pre_same {A B u v : List UInt8} {a b : Bool} {k : Nat} (hA : Pre A u a k) (hB : Pre B v b k) (hk : k ≠ 0) (s : List UInt8) : parseT (A ++ s) = parseT (B ++ s) ∧ ((parseT (A ++ s)).2.2 = 0 → (parseT (A ++ s)).1 = k) := by
  obtain ⟨h1, h2⟩ := pre_parts hA hk s
  obtain ⟨h3, h4⟩ := pre_parts hB hk s
  unfold parseT
  rw [h1, h2, h3, h4]
  refine ⟨rfl, ?_⟩
  split
  · intro h; exact absurd h (by decide)
  · split
    · intro _; rfl
    · intro h; exact absurd h (by decide)

/-! ### Ancestors -/

theorem anc_at {s : List UInt8} : ∀ {n i : Nat}, n ≤ s.length → i < (ancL s n).length → ∃ m, m < n ∧ s.getD m 0 = 47 ∧ (ancL s n).getD i [] = s.take m ∧ (ancL s n).take i = ancL s m
  | 0, i, _, h => by simp [ancL] at h
  | n + 1, i, hn, h => by
    simp only [ancL] at h ⊢
    by_cases hc : ((s.getD n 0).toNat : Int) = 47
    · rw [if_pos hc] at h ⊢
      by_cases hi : i < (ancL s n).length
      · obtain ⟨m, h1, h2, h3, h4⟩ := anc_at (by omega) hi
        refine ⟨m, by omega, h2, ?_, ?_⟩
        · rw [List.getD_eq_getElem?_getD, List.getElem?_append_left hi, ← List.getD_eq_getElem?_getD, h3]
        · rw [List.take_append_of_le_length (by omega), h4]
      · have hi' : i = (ancL s n).length := by simp at h; omega
        subst hi'
        refine ⟨n, by omega, (byte_iff (n := 47) (by decide)).1 hc, ?_, ?_⟩
        · simp
        · simp
    · rw [if_neg hc] at h ⊢
      obtain ⟨m, h1, h2, h3, h4⟩ := anc_at (by omega) h
      exact ⟨m, by omega, h2, h3, h4⟩

theorem anc_take {s : List UInt8} {m : Nat} (hm : m ≤ s.length) : ∀ {n : Nat}, n ≤ m → ancL (s.take m) n = ancL s n
  | 0, _ => rfl
  | n + 1, h => by
    have ih := anc_take hm (n := n) (by omega)
    have e : (s.take m).getD n 0 = s.getD n 0 := by
      rw [List.getD_eq_getElem?_getD, List.getElem?_take_of_lt (by omega), ← List.getD_eq_getElem?_getD]
    simp only [ancL, ih, e, List.take_take, Nat.min_eq_left (by omega : n ≤ m)]

theorem splitOn_app (c : UInt8) : ∀ (p r : List UInt8), splitOn c (p ++ c :: r) = splitOn c p ++ splitOn c r
  | [], r => by simp [splitOn]
  | x :: p, r => by
    have ih := splitOn_app c p r
    have e := splitOn_eq c p
    simp only [List.cons_append, splitOn]
    rw [ih]
    split
    · simp
    · rw [e]; simp

theorem clean_app : ∀ (p r : List UInt8) (b : Bool), cleanB b (p ++ r) = true → cleanB b p = true
  | [], _, _, _ => rfl
  | x :: p, r, b, h => by
    simp only [List.cons_append, cleanB, Bool.and_eq_true] at h ⊢
    exact ⟨h.1, clean_app p r _ h.2⟩

theorem cutAt_app (c : UInt8) : ∀ (p r : List UInt8), (cutAt c p).2.2 = true → (cutAt c (p ++ r)).1 = (cutAt c p).1 ∧ (cutAt c (p ++ r)).2.2 = true
  | [], r, h => by simp [cutAt] at h
  | x :: p, r, h => by
    simp only [List.cons_append, cutAt] at h ⊢
    split
    · exact ⟨rfl, rfl⟩
    · rename_i hx
      rw [if_neg hx] at h
      have := cutAt_app c p r h
      exact ⟨by rw [this.1], this.2⟩

/-- What stands ahead of a "/" is valid as well. -/
theorem valid_ahead {sp : Int} {s : List UInt8} (h : validT sp s = true) {m : Nat} (hm : m < s.length) (hc : s.getD m 0 = 47) : validT sp (s.take m) = true := by
  obtain ⟨h0, h1, h2, h3, h4, h5, h6, h7⟩ := valid_parts h
  have hs : s = s.take m ++ 47 :: s.drop (m + 1) := by
    have e : s.drop m = 47 :: s.drop (m + 1) := by
      rw [List.drop_eq_getElem_cons hm]
      have : s[m] = 47 := by simpa [List.getD_eq_getElem?_getD, hm] using hc
      rw [this]
    rw [← e, List.take_append_drop]
  generalize hp : s.take m = p at *
  generalize s.drop (m + 1) = r at *
  have hpl : p.length = m := by rw [← hp]; simp; omega
  subst hs
  rw [splitOn_app, List.all_append, Bool.and_eq_true] at h5
  have hne : p ≠ [] := fun he => by
    subst he
    have := h5.1
    simp [splitOn, pieceOK] at this
  have hhead : headOK p = headOK (p ++ 47 :: r) := by
    cases p with
    | nil => exact absurd rfl hne
    | cons x q => rfl
  have hcol : sp = 0 → colonNo p = 0 := fun hz => by
    have hz := h7 hz
    unfold colonNo at hz ⊢
    by_cases hf : (cutAt 58 p).2.2 = true
    · obtain ⟨e1, e2⟩ := cutAt_app 58 p (47 :: r) hf
      rw [e2, if_pos rfl, e1] at hz
      rw [if_pos hf, hz]
    · rw [if_neg hf]
  have hl : 1 ≤ p.length := by cases p with
    | nil => exact absurd rfl hne
    | cons _ _ => simp
  simp only [List.length_append, List.length_cons] at h3
  unfold validT
  have hd : ∀ b : Prop, [Decidable b] → b → decide b = true := fun b _ hb => decide_eq_true hb
  simp only [Bool.and_eq_true, Bool.or_eq_true, Bool.not_eq_true', decide_eq_false_iff_not]
  refine ⟨⟨⟨⟨⟨⟨⟨by omega, by omega⟩, by omega⟩, by omega⟩, clean_app _ _ _ h4⟩, h5.1⟩, by rw [hhead]; exact h6⟩, ?_⟩
  by_cases hz : sp = 0
  · right; rw [hcol hz]; simp
  · left; exact hz

theorem anc_elem {sp : Int} {s : List UInt8} {i : Nat} (h : i < (ancT sp s).length) : validT sp ((ancT sp s).getD i []) = true ∧ ((ancT sp s).getD i []).length < s.length ∧ ancT sp ((ancT sp s).getD i []) = (ancT sp s).take i := by
  by_cases hv : validT sp s = true
  · have e : ancT sp s = ancL s s.length := by unfold ancT; rw [if_pos hv]
    rw [e] at h ⊢
    obtain ⟨m, h1, h2, h3, h4⟩ := anc_at (Nat.le_refl _) h
    have hv2 := valid_ahead hv h1 h2
    rw [h3, h4]
    refine ⟨hv2, by simp; omega, ?_⟩
    unfold ancT
    rw [if_pos hv2]
    have : (s.take m).length = m := by simp; omega
    rw [this]
    exact anc_take (by omega) (Nat.le_refl _)
  · exfalso
    unfold ancT at h
    rw [if_neg hv] at h
    simp at h

end Go.X

namespace Go.X

theorem pathT_inj {sp sp' : Int} {n n' : List UInt8} (h : validT sp n = true) (h' : validT sp' n' = true) (e : pathT sp n = pathT sp' n') : sp = sp' ∧ n = n' := by
  unfold pathT at e
  have e1 : pathS (formatT sp n) = pathS (formatT sp' n') := List.append_cancel_left e
  have e2 := pathS_inj (format_neat h).1.us (format_neat h').1.us e1
  have p := parse_format h
  rw [e2, parse_format h'] at p
  injection p with p1 p2
  injection p2 with p2 p3
  exact ⟨p1.symm, p2.symm⟩

end Go.X

namespace Go.X

def badS : List UInt8 := [32, 60, 62, 34, 35, 63, 38]
def okC (c : UInt8) : Bool := decide (c.toNat < 128) && !badS.contains c

theorem pathB_all : ∀ n : Fin 256, (pathB (UInt8.ofNat n.val)).all okC = true := by decide +kernel
theorem pathB_ok (b : UInt8) : (pathB b).all okC = true := by
  have h := pathB_all ⟨b.toNat, b.toNat_lt⟩
  have e : UInt8.ofNat b.toNat = b := by simp
  rwa [e] at h

theorem pathT_ok (sp : Int) (n : List UInt8) : (pathT sp n).all okC = true := by
  unfold pathT pathS
  rw [List.all_append, List.all_flatMap]
  rw [Bool.and_eq_true]
  exact ⟨by decide, List.all_eq_true.2 fun b _ => pathB_ok b⟩

theorem indexAny_no (chars : List UInt8) : ∀ s : List UInt8, (∀ c ∈ s, chars.contains c = false) → Lib.indexAny s chars = -1
  | [], _ => rfl
  | b :: l, h => by
    rw [Lib.indexAny, h b (List.mem_cons_self ..), indexAny_no chars l fun c hc => h c (List.mem_cons_of_mem _ hc)]
    rfl

theorem pathT_safe (sp : Int) (n : List UInt8) : Lib.containsAny (pathT sp n) badS = false := by
  have h := pathT_ok sp n
  rw [List.all_eq_true] at h
  unfold Lib.containsAny
  rw [indexAny_no]
  · rfl
  · intro c hc
    have := h c hc
    simp only [okC, Bool.and_eq_true, Bool.not_eq_true'] at this
    exact this.2

end Go.X

namespace Go.Proofs
open Go Go.X
set_option maxRecDepth 100000

theorem le63 {n : Nat} (h : n ≤ maxLen) : n ≤ 9223372036854775807 := by simp only [maxLen] at h; omega

theorem containsAny_ok (s cs : List UInt8) (hs : s.length < 4294967281) (hc : cs.length < 4294967281) (has : ∀ (j : Nat) b, s[j]? = some b → b.toNat < 128) (hac : ∀ (j : Nat) b, cs[j]? = some b → b.toNat < 128) :
    FnS Tryz.prog 27 [.c (.s s), .c (.s cs)] [] [] (Is (.c (.b (Lib.containsAny s cs)))) :=
  fn_below ⟨_, Tryz.func27, by kernel_rfl, by kernel_rfl⟩ (fun w _ _ _ => Tryz.strings_ContainsAny_laid ⟨⟨s⟩⟩ ⟨⟨cs⟩⟩ w hs hc has hac)

theorem pathT_len (sp : Int) (n : List UInt8) : (pathT sp n).length ≤ 400 := by
  have h1 := pathS_le (formatT sp n)
  have h2 := formatT_le sp n
  unfold pathT
  rw [List.length_append]
  have : wikiS.length = 6 := rfl
  omega

theorem pathAny_ok (sp : Int) (n : List UInt8) : FnS Tryz.prog 27 [.c (.s (pathT sp n)), .c (.s badS)] [] [] (Is (.c (.b false))) := by
  have hl := pathT_len sp n
  have h := containsAny_ok (pathT sp n) badS (by omega) (by decide) (fun j b hb => by
    have h1 := List.all_eq_true.1 (pathT_ok sp n) b (List.mem_of_getElem? hb)
    simp only [okC, Bool.and_eq_true, decide_eq_true_eq] at h1
    exact h1.1) (fun j b hb => by
    have h1 : b ∈ badS := List.mem_of_getElem? hb
    have h2 : ∀ c ∈ badS, c.toNat < 128 := by decide
    exact h2 b h1)
  rw [pathT_safe] at h
  exact h

theorem pathPre (sp : Int) (n : List UInt8) : FnS Tryz.prog 30 [.c (.s (pathT sp n)), .c (.s wikiS)] [] [] (Is (.c (.b true))) := by
  have h := hasPrefix_ok (pathT sp n) wikiS
  rw [show wikiS.isPrefixOf (pathT sp n) = true from List.isPrefixOf_iff_prefix.2 ⟨_, rfl⟩] at h
  exact h

theorem refValid_any (sp : Int) (s : List UInt8) (hs : s.length ≤ 9223372036854775807) : FnS Tryz.prog 29 [.agg [.i .i64 sp, .s s]] [] [] (Is (.c (.b (validT sp s)))) := by
  by_cases h : s.length ≤ 1000000
  · exact refValid_ok sp s h
  · have hv : validT sp s = false := by
      unfold validT
      rw [show decide (100 < (s.length : Int)) = true from decide_eq_true (by omega)]
      simp
    rw [hv]
    refine fn_of_J Tryz.tyOK 2000 Tryz.func29 (by kernel_rfl) (c := Tryz.f29.body.getD .skip) (by kernel_rfl) Tryz.ntmps29 (rs := Tryz.f29.results.toList) rfl (by simp) (fun G => ?_)
    repeat' first
      | refine J_seq ?_ | refine J_region Tryz.tyOK ?_ | refine J_block ?_ | refine J_cond ?_ | refine J_ret ?_ | refine J_skip ?_ | refine J_exit ?_ | refine J_scope ?_
      | refine CondP.yes (by omega) ?_ | refine CondP.no (by omega) ?_ | refine CondP.mk (fun h => ?_) (fun h => ?_) | refine EqP.mk rfl ?_ | refine NewP.mk (fun ad => ?_) | refine ArP.exact (by simp only [inR]; omega) ?_ | refine SideP.mk (by first | omega | (dsimp only; omega) | (simp; omega)) ?_
      | refine FinE.bool ?_
      | fail
    all_goals rfl

theorem htmlPaths_law (sp : Int) (n : List UInt8) (hn : n.length ≤ 9223372036854775807) (sq : Int) (m : List UInt8) (hm : m.length ≤ 9223372036854775807) :
    FnS Tryz.prog 8 [.agg [.i .i64 sp, .s n], .agg [.i .i64 sq, .s m]] [] [gInt 0] (Is (.c (.b true))) := by
  have v1 := refValid_any sp n hn
  have v2 := refValid_any sq m hm
  have a1 := pathAny_ok sp n
  have f1 := pathPre sp n
  cases h1 : validT sp n
  · rw [h1] at v1
    refine fn_of_J Tryz.tyOK 0 Tryz.func8 (by kernel_rfl) (c := Tryz.f8.body.getD .skip) (by kernel_rfl) Tryz.ntmps8 (rs := Tryz.f8.results.toList) rfl (by simp) (fun G => ?_)
    repeat' first
      | refine J_seq ?_ | refine J_region Tryz.tyOK ?_ | refine J_block ?_ | refine J_cond ?_ | refine J_ret ?_ | refine J_skip ?_ | refine J_exit ?_ | refine J_scope ?_
      | refine CondP.yes (by omega) ?_ | refine CondP.no (by omega) ?_ | refine CondP.mk (fun h => ?_) (fun h => ?_) | refine EqP.mk rfl ?_ | refine NewP.mk (fun ad => ?_) | refine ArP.exact (by simp only [inR]; omega) ?_ | refine SideP.mk (by first | omega | (dsimp only; omega) | (simp; omega)) ?_
      | refine CallP.is v1 ?_ | refine CallP.is known_ok ?_ | refine FinE.bool rfl
      | fail
  cases h2 : validT sq m
  · rw [h1] at v1
    rw [h2] at v2
    refine fn_of_J Tryz.tyOK 0 Tryz.func8 (by kernel_rfl) (c := Tryz.f8.body.getD .skip) (by kernel_rfl) Tryz.ntmps8 (rs := Tryz.f8.results.toList) rfl (by simp) (fun G => ?_)
    repeat' first
      | refine J_seq ?_ | refine J_region Tryz.tyOK ?_ | refine J_block ?_ | refine J_cond ?_ | refine J_ret ?_ | refine J_skip ?_ | refine J_exit ?_ | refine J_scope ?_
      | refine CondP.yes (by omega) ?_ | refine CondP.no (by omega) ?_ | refine CondP.mk (fun h => ?_) (fun h => ?_) | refine EqP.mk rfl ?_ | refine NewP.mk (fun ad => ?_) | refine ArP.exact (by simp only [inR]; omega) ?_ | refine SideP.mk (by first | omega | (dsimp only; omega) | (simp; omega)) ?_
      | refine CallP.is v1 ?_ | refine CallP.is v2 ?_ | refine CallP.is known_ok ?_ | refine FinE.bool rfl
      | fail
  · have p1 := path_ok sp n (by have := validT_bounds h1; omega)
    have p2 := path_ok sq m (by have := validT_bounds h2; omega)
    have hinj := fun e => pathT_inj h1 h2 e
    rw [h1] at v1
    rw [h2] at v2
    by_cases he : sp = sq ∧ n = m
    · obtain ⟨rfl, rfl⟩ := he
      refine fn_of_J Tryz.tyOK 0 Tryz.func8 (by kernel_rfl) (c := Tryz.f8.body.getD .skip) (by kernel_rfl) Tryz.ntmps8 (rs := Tryz.f8.results.toList) rfl (by simp) (fun G => ?_)
      repeat' first
        | refine CondP.yes rfl ?_ | refine CondP.yes ⟨rfl, rfl, trivial⟩ ?_
        | refine J_seq ?_ | refine J_region Tryz.tyOK ?_ | refine J_block ?_ | refine J_cond ?_ | refine J_ret ?_ | refine J_skip ?_ | refine J_exit ?_ | refine J_scope ?_
        | refine CondP.yes (by omega) ?_ | refine CondP.no (by omega) ?_ | refine CondP.mk (fun h => ?_) (fun h => ?_) | refine EqP.mk rfl ?_ | refine NewP.mk (fun ad => ?_) | refine ArP.exact (by simp only [inR]; omega) ?_ | refine SideP.mk (by first | omega | (dsimp only; omega) | (simp; omega)) ?_
        | refine J_drawU (id := 3) Tryz.tyOK (by kernel_rfl) [0, 1, 0, 7, 15, 31] (.fork [0, 2] (.alt 1 (.fork [] (.alt 3 (.leaf [4, 5]) (.stop))) (.stop))) [1, 3] [2, 3] 6 true (by kernel_rfl) ?_ | refine TwoP.mk ?_ ?_ | refine GoP.mk (by repeat (first | exact List.Sublist.slnil | refine List.Sublist.cons_cons _ ?_ | refine List.Sublist.cons _ ?_)) (by first | exact fun _ h => h | exact fun _ h => h.2 | exact fun _ h => ((allD_append _ _).1 h).2) ?_ | exact trivial | refine EntP.mk (Ents.ofSub (by repeat (first | exact List.Sublist.slnil | refine List.Sublist.cons_cons _ ?_ | refine List.Sublist.cons _ ?_)) (by first | exact fun _ h => h | exact fun _ _ => trivial | exact fun _ h => h.2 | exact fun _ h => h.2.2.2.2 | exact fun _ h => h.2.2 | exact fun _ h => h.2.2.2 | exact fun _ h => h.2.2.2.2.2 | exact fun _ h => h.2.2.2.2.2.2 | exact fun _ h => h.2.2.2.2.2.2.2 | exact fun _ h => h.2.2.2.2.2.2.2.2 | exact fun _ h => h.2.2.2.2.2.2.2.2.2 | exact fun _ h => h.2.2.2.2.2.2.2.2.2.2 | exact fun _ h => ((allD_append _ _).1 h).2)) ?_ | refine CallQ.mk [] _ p1 (fun _ h => h) ?_ | refine CallP.is v1 ?_ | refine CallP.is known_ok ?_ | refine CallP.is p1 ?_ | refine CallP.is a1 ?_ | refine CallP.is f1 ?_ | refine FinE.bool rfl
        | fail
      all_goals trace_state
    · have hne : ¬ pathT sp n = pathT sq m := fun e => he (hinj e)
      have hn2 : ¬ (sp = sq ∧ n = m ∧ True) := fun e => he ⟨e.1, e.2.1⟩
      refine fn_of_J Tryz.tyOK 0 Tryz.func8 (by kernel_rfl) (c := Tryz.f8.body.getD .skip) (by kernel_rfl) Tryz.ntmps8 (rs := Tryz.f8.results.toList) rfl (by simp) (fun G => ?_)
      repeat' first
        | refine CondP.no hne ?_ | refine CondP.no hn2 ?_ | refine CondP.yes rfl ?_
        | refine J_seq ?_ | refine J_region Tryz.tyOK ?_ | refine J_block ?_ | refine J_cond ?_ | refine J_ret ?_ | refine J_skip ?_ | refine J_exit ?_ | refine J_scope ?_
        | refine CondP.yes (by omega) ?_ | refine CondP.no (by omega) ?_ | refine CondP.mk (fun h => ?_) (fun h => ?_) | refine EqP.mk rfl ?_ | refine NewP.mk (fun ad => ?_) | refine ArP.exact (by simp only [inR]; omega) ?_ | refine SideP.mk (by first | omega | (dsimp only; omega) | (simp; omega)) ?_
        | refine J_drawU (id := 3) Tryz.tyOK (by kernel_rfl) [0, 1, 0, 7, 15, 31] (.fork [0, 2] (.alt 1 (.fork [] (.alt 3 (.leaf [4, 5]) (.stop))) (.stop))) [1, 3] [2, 3] 6 true (by kernel_rfl) ?_ | refine TwoP.mk ?_ ?_ | refine GoP.mk (by repeat (first | exact List.Sublist.slnil | refine List.Sublist.cons_cons _ ?_ | refine List.Sublist.cons _ ?_)) (by first | exact fun _ h => h | exact fun _ h => h.2 | exact fun _ h => ((allD_append _ _).1 h).2) ?_ | exact trivial | refine EntP.mk (Ents.ofSub (by repeat (first | exact List.Sublist.slnil | refine List.Sublist.cons_cons _ ?_ | refine List.Sublist.cons _ ?_)) (by first | exact fun _ h => h | exact fun _ _ => trivial | exact fun _ h => h.2 | exact fun _ h => h.2.2.2.2 | exact fun _ h => h.2.2 | exact fun _ h => h.2.2.2 | exact fun _ h => h.2.2.2.2.2 | exact fun _ h => h.2.2.2.2.2.2 | exact fun _ h => h.2.2.2.2.2.2.2 | exact fun _ h => h.2.2.2.2.2.2.2.2 | exact fun _ h => h.2.2.2.2.2.2.2.2.2 | exact fun _ h => h.2.2.2.2.2.2.2.2.2.2 | exact fun _ h => ((allD_append _ _).1 h).2)) ?_ | refine CallQ.mk [] _ p1 (fun _ h => h) ?_ | refine CallQ.mk [] _ p2 (fun _ h => h) ?_ | refine CallP.is v1 ?_ | refine CallP.is v2 ?_ | refine CallP.is known_ok ?_ | refine CallP.is p1 ?_ | refine CallP.is p2 ?_ | refine CallP.is a1 ?_ | refine CallP.is f1 ?_ | refine FinE.bool rfl
        | fail
      all_goals trace_state

end Go.Proofs

namespace Go.Proofs.YtdnkeinjfddmnaaGreatDoor
open Go Go.X Go.ChangeShapes Go.WideShapes Go.ChangeAt Go.RowKit
set_option maxRecDepth 100000

namespace htmlPaths
theorem reads (os : Os) {H : Type} (enc : TypeId × Value → H) : ∃ places, DataW.whole enc Tryz.prog ((laidWorld os).forCall (fun _ _ => 0) ⟨#[], #[.agg #[.int .i64 0, .string ⟨#[]⟩], .agg #[.int .i64 0, .string ⟨#[]⟩]], []⟩).memory Tryz.f8.params.toList Rows.htmlPathsSpec.vars false (#[.agg #[.int .i64 0, .string ⟨#[]⟩], .agg #[.int .i64 0, .string ⟨#[]⟩]] : Array Value).toList 8 = some ([.agg [.lit (.int .i64 0), .lit (.string [])], .agg [.lit (.int .i64 0), .lit (.string [])]], [], places) :=
  ⟨[], by kernel_rfl⟩
theorem contract (H : Type) (enc : TypeId × Value → H) (W : World) (base : Nat) (args : Array Value) (ds gs : List (DataW H)) (before : List MemPlace)
    (hval : ∀ (j : Nat) t v, Tryz.f8.params[j]? = some t → args[j]? = some v → Value.okWide Tryz.prog W .any base t v)
    (hW : DataW.Whole enc Tryz.prog Tryz.f8.params.toList Rows.htmlPathsSpec.vars false W args.toList ds gs before) (hsh : W.ShapedOpen Tryz.prog) :
    Calls Tryz.prog 8 args W fun e W' => ∃ v, e = .returned v ∧ Rows.htmlPathsSpec.post enc Tryz.prog Tryz.f8 false true false false W args v W' := by
  have hW' := hW
  obtain ⟨p, q, hA0, hV, rfl, hfz, hnd⟩ := hW
  have hA : DataW.TrodAll enc Tryz.prog W 0 (fun _ => true) true Tryz.f8.params.toList args.toList ds p := hA0
  rw [Tryz.params8] at hA hval
  obtain ⟨v0, vs0, d0, ds0, p0, q0, hargs0, rfl, rfl, h0, r0⟩ := trodAll_cons hA
  obtain ⟨v1, vs1, d1, ds1, p1, q1, hargs1, rfl, rfl, h1, r1⟩ := trodAll_cons r0
  obtain ⟨rfl, rfl, rfl⟩ := trodAll_nil r1
  obtain rfl : args = #[v0, v1] := by cases args; simp_all
  obtain ⟨a, hqa, rfl⟩ := open_arg (okTy (t := 23) rfl).2.2.2 (by simp) (hval 0 _ v0 rfl rfl) h0 (open_title)
  obtain ⟨b, hqb, rfl⟩ := open_arg (okTy (t := 23) rfl).2.2.2 (by simp) (hval 1 _ v1 rfl rfl) h1 (open_title)
  exact law_calls laidOut (by rw [Tryz.params8]; decide +kernel) rfl (by kernel_rfl) Tryz.underlying4 hW' rfl rfl (maxLen_fact hsh) (htmlPaths_law a.1 a.2.1 (le63 hqa.2.1) b.1 b.2.1 (le63 hqb.2.1))

theorem lifted (os : Os) (started : os.Started) (H : Type) (enc : TypeId × Value → H) (F : Stop.Interp) :
    ReturnsInHanded {} Tryz.checked os 8 .any ((OpenSpec.ofChange Rows.htmlPathsSpec).preRow enc Tryz.prog Tryz.f8 Rows.htmlPathsRow.domain false Rows.htmlPathsRow.laid) (((OpenSpec.ofChange Rows.htmlPathsSpec).at F).post enc Tryz.prog Tryz.f8 false true false false) := by
  obtain ⟨places, hx⟩ := reads os enc
  refine returnsInHanded_of_row (C := Tryz.checked) (s := (OpenSpec.ofChange Rows.htmlPathsSpec)) own started (by kernel_rfl) Tryz.func8
    (witness_row_at (enc := enc) (C := Tryz.checked) false (laidWorld os) #[.agg #[.int .i64 0, .string ⟨#[]⟩], .agg #[.int .i64 0, .string ⟨#[]⟩]] rfl (world_vars os _) (world_rest os _) (by kernel_rfl)
      (OpenSpec.preRow_of_cond 8 hx (by kernel_rfl) (fun k hk => by cases hk) (by kernel_rfl) (laid_met os _))) ?_
  intro W base args ds gs before hval hW _ _ _ _ hsh _
  exact contract H enc W base args ds gs before hval hW hsh

theorem said : Rows.HtmlPathsSaid :=
  OpenClaim.holds_of_cond 8 Tryz.f8 rfl rfl rfl rfl rfl rfl rfl ⟨rfl, rfl, rfl, rfl, rfl⟩ rfl rfl rfl rfl rfl (by kernel_rfl) Tryz.func8 (by kernel_rfl)
    (of_decide_eq_true (by kernel_rfl)) (by unfold Func.isWrapper; first | (rw [if_pos (by decide +kernel)]; kernel_rfl) | (rw [if_neg (by decide +kernel)]; exact ⟨rfl, rfl⟩))
    (fun os started H enc _ F => by rw [OpenClaim.pre_eq_preRow]; exact lifted os started H enc F)

theorem plain (f : FuncId) (fn : Func) (hf : Tryz.pinned.checked.prog.funcNamed Rows.htmlPathsRow.func = some f) (hfn : Tryz.pinned.checked.prog.funcs[f]? = some fn) :
    true = Tryz.pinned.checked.prog.looks [] ∧ ∀ (j : Nat) t, fn.params[j]? = some t → Tryz.pinned.checked.prog.wantsStandIn t = false := by
  obtain rfl : f = 8 := Option.some.inj ((show Tryz.prog.funcNamed Rows.htmlPathsRow.func = some 8 by kernel_rfl).symm.trans hf) |>.symm
  obtain rfl : fn = Tryz.f8 := (Option.some.inj (Tryz.func8.symm.trans hfn)).symm
  refine ⟨no_looks, fun j t ht => ?_⟩
  rw [Tryz.params8] at ht
  have hm := Array.mem_of_getElem? ht
  have hall : ∀ t ∈ (#[23, 23] : Array Nat), Tryz.prog.wantsStandIn t = false := by decide +kernel
  exact hall t hm

theorem card : Rows.HtmlPathsCardSaid :=
  Claim7.holds_tied_plain_at .later [] _ _ _ _ said (fun _ h => by cases h) (by kernel_rfl) (fun _ h => by cases h) htmlPaths_row_tie rfl ⟨rfl, rfl⟩ (by kernel_rfl) rfl plain (by kernel_rfl)
end htmlPaths
end Go.Proofs.YtdnkeinjfddmnaaGreatDoor
