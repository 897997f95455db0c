/- This text shows in plain Lean that whole policies are read again from their texts, and that the policies of a tape are valid. -/
import Derived.Test.YtcgagjbkfgaacaaGreatDoorPolQ
import Derived.Test.YtcgagjbkfgaacaaGreatDoorPolT1
set_option linter.all false

namespace Go.X

theorem sect_ends {s : Bs} (h : sectOK s = true) : trimT s = s ∧ (10 : UInt8) ∉ s := by
  unfold sectOK at h
  simp only [Bool.and_eq_true, Bool.not_eq_true', decide_eq_true_eq] at h
  refine ⟨h.2, fun hc => ?_⟩
  have := h.1.2
  rw [List.any_eq_false] at this
  exact this 10 hc (by decide)
theorem trimT_last {s : Bs} (h : trimT s = s) (h0 : s ≠ []) : (∀ a x, s = a ++ [x] → blankB x = false) := by
  intro a x hx
  cases hb : blankB x with
  | false => rfl
  | true =>
    exfalso
    have h1 : (trimT s).length ≤ a.length := by
      rw [trimT_eq]
      have h2 : dropE s = dropE a := by
        unfold dropE
        rw [hx, List.reverse_append, List.reverse_singleton, List.singleton_append, List.dropWhile_cons, if_pos hb]
      rw [h2]
      have h3 : (dropE a).length ≤ a.length := by
        unfold dropE
        rw [List.length_reverse]
        exact Nat.le_trans (List.dropWhile_sublist _).length_le (by simp)
      exact Nat.le_trans (List.dropWhile_sublist _).length_le h3
    rw [h, hx] at h1
    simp at h1
    omega

theorem cutAt_none (c : UInt8) : ∀ s : Bs, c ∉ s → cutAt c s = (s, [], false)
  | [], _ => rfl
  | x :: r, h => by
    have h1 : ¬ x = c := fun hx => h (by simp [hx])
    have h2 := cutAt_none c r fun hc => h (by simp [hc])
    simp only [cutAt, if_neg h1, h2]

theorem guard_line {q : P3} {x : Grd} (h1 : isNameT x.group = true) (h2 : validT x.sp x.nm = true) (h3 : sectOK x.sect = true) : stmtT q (grdLine x) = (true, (q.1, q.2.1, q.2.2 ++ [x])) ∧ (10 : UInt8) ∉ grdLine x := by
  obtain ⟨st, gr, sp, nm, sec⟩ := x
  dsimp only at h1 h2 h3
  obtain ⟨n1, n2, n3⟩ := name_plain h1
  obtain ⟨f1, f2, f3, f4⟩ := format_facts h2
  obtain ⟨s1, s2⟩ := sect_ends h3
  have hp := parse_format h2
  have hft := trimT_id f3 f4
  unfold grdLine
  dsimp only
  generalize formatT sp nm = ft at *
  have hstart : ∀ y r, ft ++ sectText sec = y :: r → blankB y = false := fun y r hy => by
    cases hf : ft with
    | nil => exact absurd hf f2
    | cons z t =>
      rw [hf] at hy
      injection hy with hy _
      rw [← hy]; exact f3 z t hf
  have hend : ∀ a y, ft ++ sectText sec = a ++ [y] → blankB y = false := fun a y hy => by
    unfold sectText at hy
    by_cases hs : sec = []
    · rw [if_pos hs, List.append_nil] at hy; exact f4 a y hy
    · rw [if_neg hs] at hy
      rcases List.eq_nil_or_concat sec with h0 | ⟨b, z, h0⟩
      · exact absurd h0 hs
      · rw [List.concat_eq_append] at h0
        have hl := trimT_last s1 hs b z h0
        rw [h0, ← List.append_assoc, ← List.append_assoc] at hy
        have := List.append_inj_right' hy rfl
        injection this with this _
        rw [← this]; exact hl
  have htr := trimT_id hstart hend
  have h124 : (124 : UInt8) ∉ ft := fun hc => (f1 124 hc).2.2.2 rfl
  have hwne : wordsT blankB (ft ++ sectText sec) ≠ [] := fun hw => by
    rcases words_cases (ft ++ sectText sec) with ⟨_, h5, h6⟩ | ⟨h5, h6⟩
    · rw [nextT_eq] at h5
      have := wd_nil h5
      rw [trimT_eq, dropLE, this] at htr
      have := congrArg List.length htr
      cases ft with
      | nil => exact f2 rfl
      | cons z t => cases htr
    · rw [hw] at h6; cases h6
  have hguard : ∀ (q : P3) (w : List Bs), ¬ w.length < 2 → guardW q st w (ft ++ sectText sec) = (true, (q.1, q.2.1, q.2.2 ++ [⟨st, w.getD 0 [], sp, nm, sec⟩])) := by
    intro q w hw
    unfold guardW
    rw [if_neg hw]
    unfold sectText
    by_cases hs : sec = []
    · rw [if_pos hs, List.append_nil, cutAt_none 124 ft h124]
      simp only
      rw [hft, hp, hs, trimT_nil]
      simp
    · rw [if_neg hs]
      have e : ft ++ ([32, 124, 32] ++ sec) = (ft ++ [32]) ++ 124 :: (32 :: sec) := by simp
      rw [e, cutAt_mid (by simp only [List.mem_append, List.mem_singleton]; intro hc; rcases hc with hc | hc; exact h124 hc; exact absurd hc (by decide))]
      simp only
      have e2 : trimT (ft ++ [32]) = ft := by
        rw [trimT_eq]
        have : dropE (ft ++ [32]) = dropE ft := by
          unfold dropE
          rw [List.reverse_append, List.reverse_singleton, List.singleton_append, List.dropWhile_cons, if_pos (by decide)]
        rw [this, ← trimT_eq, hft]
      rw [e2, hp, trimT_32, s1]
      simp [hs]
  have key : ∀ (v : Bs), (∀ c ∈ v, blankB c = false) → v ≠ [] → (10 : UInt8) ∉ v → v = wGuard ∨ v = wStrict → decide (v = wStrict) = st → verbX st = v ++ [32] → stmtT q (verbX st ++ gr ++ [32] ++ ft ++ sectText sec) = (true, (q.1, q.2.1, q.2.2 ++ [⟨st, gr, sp, nm, sec⟩])) ∧ (10 : UInt8) ∉ (verbX st ++ gr ++ [32] ++ ft ++ sectText sec) := by
    intro v v1 v2 v3 v4 v5 v6
    have e : verbX st ++ gr ++ [32] ++ ft ++ sectText sec = v ++ 32 :: (gr ++ 32 :: (ft ++ sectText sec)) := by rw [v6]; simp
    rw [e]
    constructor
    · obtain ⟨x, xs, hx⟩ : ∃ x xs, wordsT blankB (ft ++ sectText sec) = x :: xs := by
        cases hw : wordsT blankB (ft ++ sectText sec) with
        | nil => exact absurd hw hwne
        | cons x xs => exact ⟨x, xs, rfl⟩
      have hw : wordsT blankB (v ++ 32 :: (gr ++ 32 :: (ft ++ sectText sec))) = v :: gr :: x :: xs := by
        rw [words_space v1 v2, words_space n1 n2, hx]
      have hr : restT (v ++ 32 :: (gr ++ 32 :: (ft ++ sectText sec))) 2 = ft ++ sectText sec := by
        rw [rest_space v1 v2, rest_space n1 n2, restT, htr]
      rw [stmt_guard hw v4, hr, v5, hguard q (gr :: x :: xs) (by simp)]
      rfl
    · intro hc
      simp only [List.mem_append, List.mem_cons] at hc
      rcases hc with hc | hc | hc | hc | hc | hc
      · exact v3 hc
      · exact absurd hc (by decide)
      · exact n3 hc
      · exact absurd hc (by decide)
      · exact (f1 10 hc).1 rfl
      · unfold sectText at hc
        split at hc
        · cases hc
        · simp only [List.mem_append] at hc
          rcases hc with hc | hc
          · exact absurd hc (by decide)
          · exact s2 hc
  cases st
  · exact key wGuard (by decide) (by decide) (by decide) (.inl rfl) (by decide) rfl
  · exact key wStrict (by decide) (by decide) (by decide) (.inr rfl) (by decide) rfl

/-! ### Whole texts -/

def linesOf (q : P3) : List Bs := q.1.map grpLine ++ q.2.1.map ruleLine ++ q.2.2.map grdLine
theorem fmt_lines (q : P3) : fmtT q = (linesOf q).flatMap nl := by
  simp [fmtT, fmtG, fmtR, fmtX, linesOf, List.flatMap_append, List.flatMap_map]

theorem lines_fold {α : Type} (F : α → Bs) (step : P3 → α → P3) (B : List Bs) (hB : ∀ b ∈ B, ∀ q, stmtT q b = (true, q)) : ∀ (l : List α), (∀ x ∈ l, ∀ q, stmtT q (F x) = (true, step q x)) → ∀ q i r, linesT q i (l.flatMap (fun x => F x :: B) ++ r) = linesT (l.foldl step q) (i + l.length * (B.length + 1)) r
  | [], _, q, i, r => by simp
  | x :: l, h, q, i, r => by
    have hBs : ∀ (B : List Bs), (∀ b ∈ B, ∀ q, stmtT q b = (true, q)) → ∀ q i r, linesT q i (B ++ r) = linesT q (i + B.length) r := by
      intro B
      induction B with
      | nil => intro _ q i r; rfl
      | cons b B ih =>
        intro hb q i r
        rw [List.cons_append, linesT, if_pos (by rw [hb b (by simp) q]), ih (fun y hy => hb y (by simp [hy]))]
        rw [hb b (by simp) q]
        congr 1
        simp only [List.length_cons]; omega
    rw [List.flatMap_cons, List.cons_append, List.cons_append, linesT, if_pos (by rw [h x (by simp) q]), h x (by simp) q, List.append_assoc, hBs B hB, lines_fold F step B hB l (fun y hy => h y (by simp [hy])), List.foldl_cons, List.length_cons]
    congr 1
    rw [Nat.succ_mul]; omega

theorem foldG : ∀ (l : GP) (q : P3), l.foldl (fun q g => (q.1 ++ [g], q.2.1, q.2.2)) q = (q.1 ++ l, q.2.1, q.2.2)
  | [], q => by simp
  | x :: l, q => by rw [List.foldl_cons, foldG l]; simp
theorem foldR : ∀ (l : List Rul) (q : P3), l.foldl (fun q r => (q.1, q.2.1 ++ [r], q.2.2)) q = (q.1, q.2.1 ++ l, q.2.2)
  | [], q => by simp
  | x :: l, q => by rw [List.foldl_cons, foldR l]; simp
theorem foldX : ∀ (l : List Grd) (q : P3), l.foldl (fun q x => (q.1, q.2.1, q.2.2 ++ [x])) q = (q.1, q.2.1, q.2.2 ++ l)
  | [], q => by simp
  | x :: l, q => by rw [List.foldl_cons, foldX l]; simp

/-- The lines, each with the lines B behind it. -/
def linesB (B : List Bs) (q : P3) : List Bs := (linesOf q).flatMap fun l => l :: B

theorem lines_read {q : P3} (h : PV q) (B : List Bs) (hB : ∀ b ∈ B, ∀ q, stmtT q b = (true, q)) : linesT ([], [], []) 0 (linesB B q ++ [[]]) = (q, 0) := by
  have e : linesB B q = q.1.flatMap (fun g => grpLine g :: B) ++ (q.2.1.flatMap (fun r => ruleLine r :: B) ++ q.2.2.flatMap (fun x => grdLine x :: B)) := by
    simp [linesB, linesOf, List.flatMap_append, List.flatMap_map]
  rw [e, List.append_assoc, lines_fold grpLine (fun q g => (q.1 ++ [g], q.2.1, q.2.2)) B hB q.1 (fun g hg q' => by
    have := h.grp hg
    exact (group_line this.1 this.2.2).1), foldG, List.append_assoc, lines_fold ruleLine (fun q r => (q.1, q.2.1 ++ [r], q.2.2)) B hB q.2.1 (fun r hr q' => by
    have := h.rul hr
    exact (rule_line this.1 this.2.1 this.2.2.1 this.2.2.2).1), foldR, lines_fold grdLine (fun q x => (q.1, q.2.1, q.2.2 ++ [x])) B hB q.2.2 (fun x hx q' => by
    have := h.grd hx
    exact (guard_line this.1 this.2.1 this.2.2).1), foldX]
  rw [linesT, stmt_none (show wordsT blankB [] = [] from rfl), if_pos rfl, linesT]
  simp
theorem lines_plain {q : P3} (h : PV q) : ∀ l ∈ linesOf q, (10 : UInt8) ∉ l := by
  intro l hl
  simp only [linesOf, List.mem_append, List.mem_map] at hl
  rcases hl with (⟨g, hg, rfl⟩ | ⟨r, hr, rfl⟩) | ⟨x, hx, rfl⟩
  · have := h.grp hg
    exact (group_line (q := q) this.1 this.2.2).2
  · have := h.rul hr
    exact (rule_line (q := q) this.1 this.2.1 this.2.2.1 this.2.2.2).2
  · have := h.grd hx
    exact (guard_line (q := q) this.1 this.2.1 this.2.2).2

theorem parse_lines {q : P3} (h : PV q) (B : List Bs) (hB : ∀ b ∈ B, ∀ q, stmtT q b = (true, q)) (hn : ∀ b ∈ B, (10 : UInt8) ∉ b) {t : Bs} (ht : t = (linesB B q).flatMap nl) (hl : t.length ≤ 8192) : polParseT t = (q, 0, 0) := by
  have hpl : ∀ l ∈ linesB B q, (10 : UInt8) ∉ l := fun l hl => by
    obtain ⟨x, hx, hl⟩ := List.mem_flatMap.1 hl
    rcases List.mem_cons.1 hl with rfl | hl
    · exact lines_plain h l hx
    · exact hn l hl
  unfold polParseT
  rw [if_neg (by omega)]
  have hs := split_lines (linesB B q) hpl []
  rw [List.append_nil, ← ht] at hs
  rw [hs, show splitOn 10 ([] : Bs) = [[]] from rfl, lines_read h B hB]
  unfold finT
  rw [if_neg (by simp), if_neg (by rw [(valid_iff q).2 h]; simp)]

theorem parse_fmt {q : P3} (h : PV q) (hl : (fmtT q).length ≤ 8192) : polParseT (fmtT q) = (q, 0, 0) := by
  refine parse_lines h [] (fun _ hb => (by cases hb)) (fun _ hb => (by cases hb)) ?_ hl
  rw [fmt_lines]
  simp [linesB]

/-! ### Comments -/

def cmtA : Bs := [32, 9]
def cmtB : Bs := [32, 35, 32, 97, 108, 108, 111, 119]
theorem cmt_none : ∀ b ∈ [cmtA, cmtB], ∀ q, stmtT q b = (true, q) := by
  intro b hb q
  simp only [List.mem_cons, List.not_mem_nil, or_false] at hb
  rcases hb with rfl | rfl
  · exact stmt_none (by decide)
  · exact stmt_hash (a := [35]) (w := [wAllow]) (by decide) (by decide)
/-- With the two lines behind each line. -/
def cmtT (s : Bs) : Bs := s.flatMap fun c => if c = 10 then [10, 32, 9, 10, 32, 35, 32, 97, 108, 108, 111, 119, 10] else [c]
theorem cmt_plain : ∀ l : Bs, (10 : UInt8) ∉ l → cmtT l = l
  | [], _ => rfl
  | x :: l, h => by
    have hx : ¬ x = 10 := fun hx => h (by simp [hx])
    have := cmt_plain l fun hc => h (by simp [hc])
    unfold cmtT at *
    rw [List.flatMap_cons, if_neg hx, this]; rfl
theorem cmt_app (a b : Bs) : cmtT (a ++ b) = cmtT a ++ cmtT b := by simp [cmtT, List.flatMap_append]
theorem cmt_lines : ∀ ls : List Bs, (∀ l ∈ ls, (10 : UInt8) ∉ l) → cmtT (ls.flatMap nl) = (ls.flatMap fun l => l :: [cmtA, cmtB]).flatMap nl
  | [], _ => rfl
  | l :: ls, h => by
    have ih := cmt_lines ls fun x hx => h x (by simp [hx])
    rw [List.flatMap_cons, cmt_app, ih, List.flatMap_cons, List.flatMap_append]
    congr 1
    unfold nl
    rw [cmt_app, cmt_plain l (h l (by simp))]
    simp [cmtT, cmtA, cmtB]
theorem cmt_len (s : Bs) : (cmtT s).length ≤ s.length * 13 := by
  have := flat_le (F := fun c : UInt8 => if c = 10 then [10, 32, 9, 10, 32, 35, 32, 97, 108, 108, 111, 119, 10] else [c]) (B := 13) (l := s) fun c _ => by
    split <;> simp
  exact this
theorem cmtT_snoc {s : Bs} {i : Nat} (h : i < s.length) : cmtT (s.take (i + 1)) = cmtT (s.take i) ++ (if s.getD i 0 = 10 then [10, 32, 9, 10, 32, 35, 32, 97, 108, 108, 111, 119, 10] else [s.getD i 0]) := by
  rw [List.take_succ_eq_append_getElem h, cmt_app]
  congr 1
  simp [cmtT, h]

theorem parse_cmt {q : P3} (h : PV q) (hl : (cmtT (fmtT q)).length ≤ 8192) : polParseT (cmtT (fmtT q)) = (q, 0, 0) := by
  refine parse_lines h [cmtA, cmtB] cmt_none (by decide) ?_ hl
  rw [fmt_lines, cmt_lines _ (lines_plain h)]
  rfl

/-! ### Policies of a tape -/

theorem names3_facts : ∀ i : Fin 3, isNameT (names3.getD i.val []) = true ∧ existsT (names3.take i.val) (names3.getD i.val []) = false := by decide +kernel
theorem names5_facts : ∀ m ∈ names5, isNameT (Lib.trimPrefix m [64]) = true ∧ Lib.hasPrefix m [64] = false := by decide +kernel
theorem names3_at : ∀ g ∈ names3, isNameT g = true ∧ Lib.trimPrefix ([64] ++ g) [64] = g := by decide +kernel
theorem sects_facts : ∀ s ∈ sects4, sectOK s = true := by decide +kernel
theorem knownN_exists {n : Nat} {g : Bs} (h : g ∈ knownN n) : existsT (names3.take n) g = true := by
  unfold knownN at h
  unfold existsT
  rcases List.mem_append.1 h with h | h
  · have : ∀ g ∈ ([[97, 108, 108], [117, 115, 101, 114, 115]] : List Bs), builtT g = true := by decide
    rw [this g h]; rfl
  · rw [Bool.or_eq_true]
    right
    rw [List.any_eq_true]
    exact ⟨g, h, by simp⟩

theorem TapeP.pv {n : Nat} {q : P3} (h : TapeP n q) : PV q := by
  have hlen : q.1.length = n := by
    have := congrArg List.length h.nm
    have h3 : names3.length = 3 := rfl
    have h4 := h.n3
    simp only [nms, List.length_map, List.length_take] at this
    omega
  refine ⟨by have := h.n3; omega, by have := h.r7; omega, by have := h.x3; omega, fun i hi => ?_, fun r hr => ?_, fun x hx => ?_⟩
  · have hi3 : i < 3 := by have := h.n3; omega
    have hnl : i < (nms q.1).length := by simpa [nms] using hi
    have hname : q.1[i].1 = names3.getD i [] := by
      have h1 : (nms q.1)[i] = q.1[i].1 := by simp [nms]
      rw [← h1]
      have h2 : (nms q.1)[i]? = (names3.take n)[i]? := by rw [h.nm]
      rw [List.getElem?_eq_getElem hnl, List.getElem?_take_of_lt (by omega)] at h2
      rw [List.getD_eq_getElem?_getD, ← h2]; rfl
    have hf := names3_facts ⟨i, hi3⟩
    simp only at hf
    obtain ⟨hm1, hm2⟩ := h.g q.1[i] (List.getElem_mem hi)
    rw [grpErr_zero, hname]
    refine ⟨hf.1, ?_, by omega, ?_⟩
    · rw [h.nm, List.take_take, Nat.min_eq_left (by omega)]; exact hf.2
    · rw [memErr_zero]
      intro m hm
      rcases hm2 m hm with hk | hk | ⟨g, hg, hk⟩
      · have := names5_facts m hk
        exact ⟨this.1, fun hp => by rw [this.2] at hp; cases hp⟩
      · subst hk
        exact ⟨by decide +kernel, fun _ => by unfold existsT; rw [show builtT (Lib.trimPrefix wUsersM [64]) = true from by decide]; rfl⟩
      · subst hk
        have := names3_at g (List.mem_of_mem_take hg)
        rw [this.2]
        refine ⟨this.1, fun _ => ?_⟩
        rw [h.nm]
        exact knownN_exists (List.mem_append_right _ hg)
  · obtain ⟨h1, h2, h3, h4⟩ := h.r r hr
    unfold rulErr
    rw [if_neg (by omega), h.nm, if_neg (by rw [knownN_exists h3]; simp), if_neg (by rw [h4]; simp)]
  · obtain ⟨h1, h2, h3⟩ := h.x x hx
    unfold grdErr
    rw [h.nm, if_neg (by rw [knownN_exists h1]; simp), h2, sects_facts _ h3, if_neg (by simp)]

theorem TapeP.glen {n : Nat} {q : P3} (h : TapeP n q) : q.1.length ≤ 3 := by
  have := congrArg List.length h.nm
  have h3 : names3.length = 3 := rfl
  have h4 := h.n3
  simp only [nms, List.length_map, List.length_take] at this
  omega
theorem TapeP.len {n : Nat} {q : P3} (h : TapeP n q) : (fmtT q).length ≤ 8192 := by
  have hp := h.pv
  have h1 := h.glen
  have h2 := h.r7
  have h3 := h.x3
  have hg : (fmtG q.1).length ≤ q.1.length * 1001 := flat_le fun g hg => by have := grpLine_le hp hg; simp [nl]; omega
  have hr : (fmtR q.2.1).length ≤ q.2.1.length * 201 := flat_le fun r hr => by have := ruleLine_le (hp.rul hr).2.2.1; simp [nl]; omega
  have hx : (fmtX q.2.2).length ≤ q.2.2.length * 301 := flat_le fun x hx => by
    have h4 := hp.grd hx
    have := grdLine_le (x := x) h4.1 (sectOK_len h4.2.2)
    simp [nl]; omega
  simp only [fmtT, List.length_append]
  omega
theorem cmt_nl {l : Bs} (h : (10 : UInt8) ∉ l) : (cmtT (nl l)).length = l.length + 13 := by
  unfold nl
  rw [cmt_app, cmt_plain l h]
  simp [cmtT]
theorem cmt_flat {α : Type} (F : α → Bs) (l : List α) : cmtT (l.flatMap F) = l.flatMap fun x => cmtT (F x) := by
  unfold cmtT
  rw [List.flatMap_assoc]
theorem TapeP.clen {n : Nat} {q : P3} (h : TapeP n q) : (cmtT (fmtT q)).length ≤ 8192 := by
  have hp := h.pv
  have h1 := h.glen
  have h2 := h.r7
  have h3 := h.x3
  have hg : (cmtT (fmtG q.1)).length ≤ q.1.length * 1013 := by
    unfold fmtG
    rw [cmt_flat]
    refine flat_le fun g hg => ?_
    have h4 := hp.grp hg
    rw [cmt_nl (group_line (q := q) h4.1 h4.2.2).2]
    have := grpLine_le hp hg; omega
  have hr : (cmtT (fmtR q.2.1)).length ≤ q.2.1.length * 213 := by
    unfold fmtR
    rw [cmt_flat]
    refine flat_le fun r hr => ?_
    have h4 := hp.rul hr
    rw [cmt_nl (rule_line (q := q) h4.1 h4.2.1 h4.2.2.1 h4.2.2.2).2]
    have := ruleLine_le h4.2.2.1; omega
  have hx : (cmtT (fmtX q.2.2)).length ≤ q.2.2.length * 313 := by
    unfold fmtX
    rw [cmt_flat]
    refine flat_le fun x hx => ?_
    have h4 := hp.grd hx
    rw [cmt_nl (guard_line (q := q) h4.1 h4.2.1 h4.2.2).2]
    have := grdLine_le (x := x) h4.1 (sectOK_len h4.2.2); omega
  unfold fmtT
  rw [cmt_app, cmt_app]
  simp only [List.length_append]
  omega

end Go.X
