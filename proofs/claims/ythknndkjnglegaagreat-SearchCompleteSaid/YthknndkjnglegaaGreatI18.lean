/- This text proves, for the plain form of states: each change that is accepted leads from a valid state to a valid one. -/
import Derived.Test.YthknndkjnglegaaGreatI13
import Derived.Test.YthknndkjnglegaaGreatI17
set_option linter.all false

namespace Go.X
open Go Go.Lib
theorem idx_none {α : Type} {p : α → Bool} {l : List α} (h : idxG p l < 0) : ∀ x ∈ l, p x = false := by
  rcases idxG_spec p l with ⟨_, h1⟩ | ⟨i, _, h1, _⟩
  · exact h1
  · omega
theorem idx_some {α : Type} {p : α → Bool} {l : List α} (h : ¬ idxG p l < 0) : ∃ i : Nat, ∃ hi : i < l.length, idxG p l = i ∧ p l[i] = true := by
  rcases idxG_spec p l with ⟨h1, _⟩ | h1
  · omega
  · exact h1
theorem lastG_spec {α : Type} (p : α → Bool) : ∀ l : List α, (lastG p l = -1 ∧ ∀ x ∈ l, p x = false) ∨ ∃ i : Nat, ∃ h : i < l.length, lastG p l = i ∧ p l[i] = true
  | [] => .inl ⟨rfl, fun _ h => (by cases h)⟩
  | x :: r => by
    simp only [lastG]
    rcases lastG_spec p r with ⟨h1, h2⟩ | ⟨i, h1, h2, h3⟩
    · rw [h1, if_neg (by omega)]
      split
      · rename_i h
        exact .inr ⟨0, by simp, rfl, h⟩
      · rename_i h
        refine .inl ⟨rfl, fun y hy => ?_⟩
        rcases List.mem_cons.1 hy with rfl | hy
        · simpa using h
        · exact h2 y hy
    · rw [h2, if_pos (by omega)]
      exact .inr ⟨i + 1, by simpa using h1, by omega, by simpa using h3⟩
theorem getD_is {l : List SP} {i : Nat} (h : i < l.length) : l.getD i default = l[i] := by
  rw [List.getD_eq_getElem?_getD, List.getElem?_eq_getElem h]; rfl
theorem mem_erase {α : Type} {l : List α} {i : Nat} {x : α} (h : x ∈ l.eraseIdx i) : x ∈ l := (List.eraseIdx_sublist l i).subset h
theorem insP_pw {l : List SP} {x : SP} (hl : l.Pairwise fun a b => cfP a b < 0) (hn : ∀ y ∈ l, atT x.sp x.nm y = false) : (insG (befT x.sp x.nm) l x).Pairwise fun a b => cfP a b < 0 :=
  ins_pw ordP l x hl fun y hy e => by
    have h1 := (compareT_eq _ _ _ _).1 e
    have h2 := hn y hy
    rw [atT, decide_eq_false_iff_not] at h2
    exact h2 h1
theorem VK.addP {sq : Int} {s : ST} {x : SP} (h : VK sq s) (hx : pageOK s.clk sq x = true) (hn : ∀ y ∈ s.pages, atT x.sp x.nm y = false) (hl : ¬ 200 ≤ (s.pages.length : Int))
    (hr : atT 5 policyNm x = true → (polParseT (currentT x).text).2.2 = 0) : VK sq { s with pages := insG (befT x.sp x.nm) s.pages x } where
  c0 := h.c0
  c1 := h.c1
  np := by dsimp only; rw [insG_len]; omega
  ng := h.ng
  pg p hp := by
    rcases (mem_insG _ _ _ _).1 hp with rfl | hp
    · exact hx
    · exact h.pg p hp
  asc := insP_pw h.asc hn
  gn := h.gn
  rul p hp := by
    rcases (mem_insG _ _ _ _).1 hp with rfl | hp
    · exact hr
    · exact h.rul p hp
  nq := h.nq
  q0 := h.q0
  q1 := h.q1
  pp := h.pp
  nw := h.nw
  ws := h.ws
  wa := h.wa
  nl := h.nl
  ls := h.ls
  la := h.la
/-- Pages that are a part of those that were there. -/
theorem VK.subP {sq : Int} {s : ST} {l : List SP} (h : VK sq s) (hs : l.Sublist s.pages) : VK sq { s with pages := l } where
  c0 := h.c0
  c1 := h.c1
  np := by have := hs.length_le; have := h.np; dsimp only; omega
  ng := h.ng
  pg p hp := h.pg p (hs.subset hp)
  asc := h.asc.sublist hs
  gn := h.gn
  rul p hp := h.rul p (hs.subset hp)
  nq := h.nq
  q0 := h.q0
  q1 := h.q1
  pp := h.pp
  nw := h.nw
  ws := h.ws
  wa := h.wa
  nl := h.nl
  ls := h.ls
  la := h.la
theorem VK.goneP {sq : Int} {s : ST} {l : List SP} (h : VK sq s) (hl : (l.length : Int) ≤ 100) (hg : ∀ p ∈ l, pageOK s.clk sq p = true) : VK sq { s with gone := l } where
  c0 := h.c0
  c1 := h.c1
  np := h.np
  ng := hl
  pg := h.pg
  asc := h.asc
  gn := hg
  rul := h.rul
  nq := h.nq
  q0 := h.q0
  q1 := h.q1
  pp := h.pp
  nw := h.nw
  ws := h.ws
  wa := h.wa
  nl := h.nl
  ls := h.ls
  la := h.la
theorem VK.propP {sq : Int} {s : ST} (h : VK sq s) (q : PP → Bool) : VK sq { s with props := s.props.filter q } where
  c0 := h.c0
  c1 := h.c1
  np := h.np
  ng := h.ng
  pg := h.pg
  asc := h.asc
  gn := h.gn
  rul := h.rul
  nq := by have := List.length_filter_le q s.props; have := h.nq; dsimp only; omega
  q0 := h.q0
  q1 := h.q1
  pp := ppGo_filter q _ _ h.pp
  nw := h.nw
  ws := h.ws
  wa := h.wa
  nl := h.nl
  ls := h.ls
  la := h.la
/-! ### What a valid change says -/
theorem chValid_iff {c : CH} : chValidT c = 0 ↔ formT c = true ∧ withinT c = true ∧ (c.text.length : Int) ≤ 8192 ∧ (c.note.length : Int) ≤ 200 ∧ ∀ r ∈ c.hist, (r.text.length : Int) ≤ 8192 ∧ (r.note.length : Int) ≤ 200 := by
  unfold chValidT
  cases hf : formT c
  · simp
  cases hw : withinT c
  · simp
  by_cases h1 : 8192 < (c.text.length : Int) ∨ 200 < (c.note.length : Int)
  · rw [if_neg (by decide), if_neg (by decide), if_pos h1]
    refine ⟨fun h => absurd h (by decide), fun h => ?_⟩
    omega
  · rw [if_neg (by decide), if_neg (by decide), if_neg h1]
    have h2 : c.hist.any rvLong = true ↔ ∃ r ∈ c.hist, 8192 < (r.text.length : Int) ∨ 200 < (r.note.length : Int) := by
      rw [List.any_eq_true]
      constructor
      · rintro ⟨r, hr, h⟩; exact ⟨r, hr, by simpa [rvLong] using h⟩
      · rintro ⟨r, hr, h⟩; exact ⟨r, hr, by simpa [rvLong] using h⟩
    by_cases h3 : c.hist.any rvLong = true
    · rw [if_pos h3]
      refine ⟨fun h => absurd h (by decide), fun h => ?_⟩
      obtain ⟨r, hr, h4⟩ := h2.1 h3
      have := h.2.2.2.2 r hr
      omega
    · rw [if_neg h3]
      refine ⟨fun _ => ⟨rfl, rfl, by omega, by omega, fun r hr => ?_⟩, fun _ => rfl⟩
      have : ¬ (8192 < (r.text.length : Int) ∨ 200 < (r.note.length : Int)) := fun h => h3 (h2.2 ⟨r, hr, h⟩)
      omega
structure ChOK (c : CH) : Prop where
  user : userT c.user = true
  title : c.kind ≠ 6 → c.kind ≠ 10 → validT c.sp c.nm = true
  text : (c.text.length : Int) ≤ 8192
  note : (c.note.length : Int) ≤ 200
  dest : c.kind = 4 → validT c.tsp c.tnm = true
  num : c.kind = 6 → 1 ≤ c.n
  base : c.kind = 9 → 0 ≤ c.n ∧ c.n ≤ 40
  who : c.kind = 7 ∨ c.kind = 8 → c.user ≠ []
  hist : c.kind = 5 → chHistT c.hist = true
  long : ∀ r ∈ c.hist, (r.text.length : Int) ≤ 8192 ∧ (r.note.length : Int) ≤ 200
theorem chOK {c : CH} (h : chValidT c = 0) : ChOK c := by
  obtain ⟨_, hw, h1, h2, h3⟩ := chValid_iff.1 h
  unfold withinT titleK at hw
  simp only [Bool.and_eq_true, Bool.or_eq_true, Bool.not_eq_true', Bool.and_eq_false_imp, decide_eq_true_eq, decide_eq_false_iff_not] at hw
  obtain ⟨⟨ha, hb⟩, hc⟩ := hw
  refine ⟨hb, fun h6 h10 => ?_, h1, h2, fun h4 => ?_, fun h6 => ?_, fun h9 => ?_, fun h7 => ?_, fun h5 => ?_, h3⟩
  · rcases ha with ha | ha
    · exfalso
      simp [h6, h10] at ha
    · exact ha
  · rw [if_neg (by omega), if_pos h4] at hc
    simp only [Bool.and_eq_true] at hc
    exact hc.1
  · rw [if_neg (by omega), if_neg (by omega), if_pos h6] at hc
    simp only [Bool.and_eq_true, decide_eq_true_eq] at hc
    exact hc.1
  · rw [if_neg (by omega), if_neg (by omega), if_neg (by omega), if_pos h9] at hc
    simpa only [Bool.and_eq_true, decide_eq_true_eq] using hc
  · rw [if_pos h7] at hc
    simpa using hc
  · rw [if_neg (by omega), if_neg (by omega), if_neg (by omega), if_neg (by omega), if_neg (by omega), if_pos h5] at hc
    exact hc
theorem forbid_put {c : CH} (hk : c.kind = 1) (h : forbidT c = false) : c.sp = 5 ∧ c.nm = policyNm → (polParseT c.text).2.2 = 0 := fun hp => by
  unfold forbidT isPol at h
  rw [if_pos hk, decide_eq_true hp] at h
  simpa using h
theorem forbid_is {c : CH} (hk : c.kind = 2 ∨ c.kind = 3 ∨ c.kind = 5) (h : forbidT c = false) : ¬ (c.sp = 5 ∧ c.nm = policyNm) := fun hp => by
  unfold forbidT isPol at h
  rw [if_neg (by omega), if_pos hk, decide_eq_true hp] at h
  cases h
theorem forbid_move {c : CH} (hk : c.kind = 4) (h : forbidT c = false) : ¬ (c.sp = 5 ∧ c.nm = policyNm) ∧ ¬ (c.tsp = 5 ∧ c.tnm = policyNm) := by
  unfold forbidT isPol at h
  rw [if_neg (by omega), if_neg (by omega), if_pos hk] at h
  simpa only [Bool.or_eq_false_iff, decide_eq_false_iff_not] using h
theorem at_pol {p : SP} : atT 5 policyNm p = true ↔ p.sp = 5 ∧ p.nm = policyNm := atT_iff
/-! ### Each kind of change -/
theorem one_hist {clk sq : Int} {r : RV} (h0 : 0 ≤ clk) (hq : 1 ≤ sq) (h1 : r.num = 1) (h2 : (r.text.length : Int) ≤ 8192) (h3 : (r.note.length : Int) ≤ 200) (h4 : userT r.user = true) (h5 : r.min = clk) (h6 : r.seq = sq) : histT clk sq [r] = true := by
  refine histT_iff.2 ⟨by simp, by simp, ?_⟩
  simp only [histGo, Bool.and_true]
  exact rvOK_iff.2 ⟨by omega, h2, h3, h4, by omega, by omega, by omega, by omega⟩
theorem VK.put {sq : Int} {s : ST} {c : CH} (hq : 1 ≤ sq) (h : VK sq s) (hc : ChOK c) (hk : c.kind = 1) (hf : forbidT c = false) (h0 : (putT27 s c sq).2 = 0) : VK sq (putT27 s c sq).1 := by
  have hpol := forbid_put hk hf
  have hv := hc.title (by omega) (by omega)
  unfold putT27 at h0 ⊢
  split
  · rename_i hi
    rw [if_pos hi] at h0
    split
    · exact h
    · rename_i hn
      refine h.addP (x := ⟨c.sp, c.nm, [⟨1, c.user, c.note, c.text, s.clk, sq⟩]⟩) (pageOK_iff.2 ⟨hv, one_hist h.c0 hq rfl hc.text hc.note hc.user rfl rfl⟩) (idx_none hi) hn fun hp => ?_
      exact hpol (at_pol.1 hp)
  · rename_i hi
    split
    · exact h
    · rename_i hn
      obtain ⟨i, hil, hie, hip⟩ := idx_some hi
      have hat := atT_iff.1 hip
      have hpa : pageAt s (idxG (atT c.sp c.nm) s.pages) = s.pages[i] := by
        rw [pageAt, hie, Int.toNat_natCast, getD_is hil]
      rw [hpa] at hn
      rw [hie, Int.toNat_natCast]
      have hmem : ∀ p ∈ s.pages.modify i (fun p => { p with hist := p.hist ++ [⟨(p.hist.length : Int) + 1, c.user, c.note, c.text, s.clk, sq⟩] }), p ∈ s.pages ∨ p = { s.pages[i] with hist := s.pages[i].hist ++ [⟨(s.pages[i].hist.length : Int) + 1, c.user, c.note, c.text, s.clk, sq⟩] } := fun p hp => by
        obtain ⟨j, hj, rfl⟩ := List.getElem_of_mem hp
        rw [List.getElem_modify]
        split
        · rename_i e; subst e; exact .inr rfl
        · exact .inl (List.getElem_mem _)
      have hold := pageOK_iff.1 (h.pg _ (List.getElem_mem hil))
      obtain ⟨ho1, ho2, ho3⟩ := histT_iff.1 hold.2
      exact {
        c0 := h.c0
        c1 := h.c1
        np := by dsimp only; rw [List.length_modify]; exact h.np
        ng := h.ng
        pg := fun p hp => by
          rcases hmem p hp with hp | rfl
          · exact h.pg p hp
          · refine pageOK_iff.2 ⟨hold.1, histT_iff.2 ⟨?_, ?_, histGo_snoc (x := ⟨(s.pages[i].hist.length : Int) + 1, c.user, c.note, c.text, s.clk, sq⟩) hc.text hc.note hc.user rfl rfl _ _ _ _ h.c0 hq ho3 (show (s.pages[i].hist.length : Int) + 1 = 0 + (s.pages[i].hist.length : Int) + 1 by omega)⟩⟩
            · simp; omega
            · simp; omega
        asc := by
          have : (s.pages.modify i (fun p => { p with hist := p.hist ++ [⟨(p.hist.length : Int) + 1, c.user, c.note, c.text, s.clk, sq⟩] })).map (fun p => (p.sp, p.nm)) = s.pages.map fun p => (p.sp, p.nm) := by
            refine List.ext_getElem (by simp) fun j h1 h2 => ?_
            simp only [List.getElem_map, List.getElem_modify]
            split <;> rfl
          have e1 := List.pairwise_map (f := fun p : SP => (p.sp, p.nm)) (R := fun a b => compareT a.1 a.2 b.1 b.2 < 0) (l := s.pages)
          have e2 := List.pairwise_map (f := fun p : SP => (p.sp, p.nm)) (R := fun a b => compareT a.1 a.2 b.1 b.2 < 0) (l := s.pages.modify i (fun p => { p with hist := p.hist ++ [⟨(p.hist.length : Int) + 1, c.user, c.note, c.text, s.clk, sq⟩] }))
          rw [this] at e2
          exact e2.1 (e1.2 h.asc)
        gn := h.gn
        rul := fun p hp ha => by
          rcases hmem p hp with hp | rfl
          · exact h.rul p hp ha
          · have e := at_pol.1 ha
            have := hpol ⟨hat.1.symm.trans e.1, hat.2.symm.trans e.2⟩
            simpa [currentT] using this
        nq := h.nq
        q0 := h.q0
        q1 := h.q1
        pp := h.pp
        nw := h.nw
        ws := h.ws
        wa := h.wa
        nl := h.nl
        ls := h.ls
        la := h.la }
theorem VK.remove {sq : Int} {s : ST} {c : CH} (h : VK sq s) (h0 : (removeT s c).2 = 0) : VK sq (removeT s c).1 := by
  unfold removeT at h0 ⊢
  split
  · exact h
  · rename_i hi
    split
    · exact h
    · rename_i hn
      obtain ⟨i, hil, hie, _⟩ := idx_some hi
      rw [pageAt, hie, Int.toNat_natCast, getD_is hil]
      refine ((h.goneP (l := s.gone ++ [s.pages[i]]) ?_ fun p hp => ?_).subP (l := s.pages.eraseIdx i) (List.eraseIdx_sublist _ _)).propP _
      · simp; omega
      · rcases List.mem_append.1 hp with hp | hp
        · exact h.gn p hp
        · rw [List.mem_singleton.1 hp]; exact h.pg _ (List.getElem_mem hil)
theorem VK.restore {sq : Int} {s : ST} {c : CH} (h : VK sq s) (hk : c.kind = 3) (hf : forbidT c = false) (h0 : (restoreT s c).2 = 0) : VK sq (restoreT s c).1 := by
  have hpol := forbid_is (.inr (.inl hk)) hf
  unfold restoreT at h0 ⊢
  split
  · exact h
  · rename_i hi
    split
    · exact h
    · rename_i hg
      split
      · exact h
      · rename_i hn
        rcases lastG_spec (atT c.sp c.nm) s.gone with ⟨h1, _⟩ | ⟨i, h1, h2, h3⟩
        · omega
        · rw [h2, Int.toNat_natCast, getD_is h1]
          have hat := atT_iff.1 h3
          have hg1 := h.gn _ (List.getElem_mem h1)
          generalize s.gone[i] = x at *
          obtain ⟨xs, xn, xh⟩ := x
          obtain ⟨e1, e2⟩ := hat
          dsimp only at e1 e2
          subst e1 e2
          have hi' : idxG (atT c.sp c.nm) s.pages < 0 := by omega
          have h' := h.addP hg1 (idx_none hi') hn (fun hp => absurd (at_pol.1 hp) hpol)
          refine h'.goneP (l := s.gone.eraseIdx i) ?_ fun p hp => h.gn p (mem_erase hp)
          have := (List.eraseIdx_sublist s.gone i).length_le
          have := h.ng
          omega
theorem erase_at {l : List SP} (h : l.Pairwise fun a b => cfP a b < 0) {i : Nat} (hi : i < l.length) {y : SP} (hy : y ∈ l.eraseIdx i) : cfP y l[i] ≠ 0 := by
  intro e
  obtain ⟨j, hj, rfl⟩ := List.getElem_of_mem hy
  rw [List.getElem_eraseIdx] at e
  have h' := List.pairwise_iff_getElem.1 h
  have hjl : j < l.length - 1 := by rwa [List.length_eraseIdx_of_lt hi] at hj
  split at e
  · rename_i hji
    have := h' j i (by omega) hi hji
    omega
  · rename_i hji
    have := h' i (j + 1) hi (by omega) (by omega)
    have := ordP.swap l[i] l[j + 1]
    omega
theorem redir_len {sp : Int} {nm : Bs} : ((redirT sp nm).length : Int) ≤ 8192 := by
  have := formatT_le sp nm
  simp only [redirT, List.length_append, List.length_cons, List.length_nil]
  omega
theorem VK.move {sq : Int} {s : ST} {c : CH} (hq : 1 ≤ sq) (h : VK sq s) (hc : ChOK c) (hk : c.kind = 4) (hf : forbidT c = false) (h0 : (moveT s c sq).2 = 0) : VK sq (moveT s c sq).1 := by
  have hpol := forbid_move hk hf
  have hv := hc.title (by omega) (by omega)
  have hto := hc.dest hk
  unfold moveT at h0 ⊢
  split
  · exact h
  · rename_i hi
    split
    · exact h
    · rename_i hd
      split
      · exact h
      · rename_i hn
        obtain ⟨i, hil, hie, hip⟩ := idx_some hi
        have hat := atT_iff.1 hip
        have hnone := idx_none (p := atT c.tsp c.tnm) (l := s.pages) (by omega)
        have hpg := pageOK_iff.1 (h.pg _ (List.getElem_mem hil))
        have hlen : (s.pages.eraseIdx i).length = s.pages.length - 1 := List.length_eraseIdx_of_lt hil
        have hnp := h.np
        have hne : ¬ (c.tsp = c.sp ∧ c.tnm = c.nm) := fun e => by
          have := hnone _ (List.getElem_mem hil)
          rw [atT, decide_eq_false_iff_not] at this
          exact this ⟨hat.1.trans e.1.symm, hat.2.trans e.2.symm⟩
        rw [pageAt, hie, Int.toNat_natCast, getD_is hil]
        have h1 := (h.subP (List.eraseIdx_sublist s.pages i)).addP (x := ⟨c.tsp, c.tnm, s.pages[i].hist⟩) (pageOK_iff.2 ⟨hto, hpg.2⟩) (fun y hy => hnone y (mem_erase hy)) (by dsimp only; omega) (fun hp => absurd (at_pol.1 hp) hpol.2)
        dsimp only at h1 ⊢
        by_cases hn1 : c.n = 1
        · rw [if_pos hn1]
          refine (h1.addP (x := ⟨c.sp, c.nm, [⟨1, c.user, [], redirT c.tsp c.tnm, s.clk, sq⟩]⟩) (pageOK_iff.2 ⟨hv, one_hist h.c0 hq rfl redir_len (by simp) hc.user rfl rfl⟩) (fun y hy => ?_) ?_ (fun hp => absurd (at_pol.1 hp) hpol.1)).propP _
          · refine decide_eq_false fun e => ?_
            rcases (mem_insG _ _ _ _).1 hy with rfl | hy
            · exact hne e
            · refine erase_at h.asc hil hy ((compareT_eq _ _ _ _).2 ⟨e.1.trans hat.1.symm, e.2.trans hat.2.symm⟩)
          · dsimp only
            rw [insG_len]; omega
        · rw [if_neg hn1]
          exact h1.propP _
theorem histGo_take {clk sq : Int} (hq : 1 ≤ sq) : ∀ (l : List RV) (i mi se : Int), chHistGo i mi l = true → (∀ r ∈ l, (r.text.length : Int) ≤ 8192 ∧ (r.note.length : Int) ≤ 200) → (l = [] ∨ (l.getLast?.getD default).min ≤ clk) → se ≤ sq →
    (∀ r ∈ l, r.min ≤ (l.getLast?.getD default).min) ∧ histGo clk sq i mi se (l.map fun r => { r with seq := sq }) = true
  | [], _, _, _, _, _, _, _ => ⟨fun _ h => (by cases h), rfl⟩
  | r :: l, i, mi, se, h, ht, hm, hs => by
    simp only [chHistGo, Bool.and_eq_true] at h
    have h1 : r.num = i + 1 ∧ r.seq = 0 ∧ userT r.user = true ∧ 0 ≤ r.min ∧ r.min ≤ 52595999 ∧ mi ≤ r.min := by
      simpa only [chRvOK, Bool.and_eq_true, decide_eq_true_eq, and_assoc] using h.1
    cases l with
    | nil =>
      refine ⟨fun x hx => by rw [List.mem_singleton.1 hx]; exact Int.le_refl _, ?_⟩
      have hm : r.min ≤ clk := by simpa using hm
      have := ht r (List.mem_cons_self ..)
      simp only [List.map_cons, List.map_nil, histGo, Bool.and_true]
      exact rvOK_iff.2 ⟨h1.1, this.1, this.2, h1.2.2.1, h1.2.2.2.2.2, hm, hs, Int.le_refl _⟩
    | cons y t =>
      have hlast : ((r :: y :: t).getLast?.getD default) = ((y :: t).getLast?.getD default) := by simp [List.getLast?_cons_cons]
      rw [hlast] at hm ⊢
      have hm' : ((y :: t).getLast?.getD default).min ≤ clk := hm.resolve_left (by simp)
      obtain ⟨h2, h3⟩ := histGo_take hq (y :: t) (i + 1) r.min sq h.2 (fun x hx => ht x (List.mem_cons_of_mem _ hx)) (.inr hm') (Int.le_refl _)
      have hy : r.min ≤ y.min := by
        have h4 := h.2
        simp only [chHistGo, Bool.and_eq_true] at h4
        have h5 : y.num = i + 1 + 1 ∧ y.seq = 0 ∧ userT y.user = true ∧ 0 ≤ y.min ∧ y.min ≤ 52595999 ∧ r.min ≤ y.min := by
          simpa only [chRvOK, Bool.and_eq_true, decide_eq_true_eq, and_assoc] using h4.1
        exact h5.2.2.2.2.2
      have hyl := h2 y (List.mem_cons_self ..)
      refine ⟨fun x hx => ?_, ?_⟩
      · rcases List.mem_cons.1 hx with rfl | hx
        · omega
        · exact h2 x hx
      · have := ht r (List.mem_cons_self ..)
        rw [List.map_cons, histGo, h3, Bool.and_true]
        exact rvOK_iff.2 ⟨h1.1, this.1, this.2, h1.2.2.1, h1.2.2.2.2.2, by dsimp only; omega, hs, Int.le_refl _⟩
theorem VK.take {sq : Int} {s : ST} {c : CH} (hq : 1 ≤ sq) (h : VK sq s) (hc : ChOK c) (hk : c.kind = 5) (hf : forbidT c = false) (h0 : (takeT s c sq).2 = 0) : VK sq (takeT s c sq).1 := by
  have hpol := forbid_is (.inr (.inr hk)) hf
  have hv := hc.title (by omega) (by omega)
  have hh := hc.hist hk
  unfold takeT at h0 ⊢
  split
  · exact h
  · rename_i hi
    split
    · exact h
    · rename_i hm
      split
      · exact h
      · rename_i hn
        simp only [chHistT, Bool.and_eq_true, decide_eq_true_eq] at hh
        have hi' : idxG (atT c.sp c.nm) s.pages < 0 := by omega
        refine h.addP (x := ⟨c.sp, c.nm, c.hist.map fun r => { r with seq := sq }⟩) (pageOK_iff.2 ⟨hv, histT_iff.2 ⟨?_, ?_, (histGo_take hq _ _ _ _ hh.2 hc.long (.inr (by omega)) hq).2⟩⟩) (idx_none hi') hn (fun hp => absurd (at_pol.1 hp) hpol)
        · dsimp only; rw [List.length_map]; omega
        · dsimp only; rw [List.length_map]; omega
theorem VK.tick {sq : Int} {s : ST} {c : CH} (h : VK sq s) (hc : ChOK c) (hk : c.kind = 6) : VK sq (tickT s c).1 := by
  have hn := hc.num hk
  unfold tickT
  split
  · exact h
  · exact {
      c0 := by have := h.c0; dsimp only; omega
      c1 := by dsimp only; omega
      np := h.np
      ng := h.ng
      pg := fun p hp => pageOK_mono (by dsimp only; omega) (Int.le_refl _) (h.pg p hp)
      asc := h.asc
      gn := fun p hp => pageOK_mono (by dsimp only; omega) (Int.le_refl _) (h.gn p hp)
      rul := h.rul
      nq := h.nq
      q0 := h.q0
      q1 := h.q1
      pp := ppGo_mono (by dsimp only; omega) (Int.le_refl _) _ _ _ (Int.le_refl _) h.pp
      nw := h.nw
      ws := h.ws
      wa := h.wa
      nl := h.nl
      ls := h.ls
      la := h.la }
theorem drop_head {α : Type} {cf : α → α → Int} (h : OrdC cf) {x y : α} (h0 : cf y x = 0) : ∀ {l : List α}, (l.Pairwise fun a b => cf a b < 0) → y ∈ l → (l.dropWhile fun z => decide (cf z x < 0)).head? = some y
  | z :: t, hl, hy => by
    have hl' := List.pairwise_cons.1 hl
    rcases List.mem_cons.1 hy with e | hy
    · subst e
      rw [List.dropWhile_cons_of_neg (by simp; omega)]; rfl
    · have h1 := hl'.1 y hy
      have a1 := h.swap z y; have a2 := h.swap y x; have a3 := h.swap z x
      have t1 := h.trans z y x (by omega) (by omega)
      have t2 := h.trans y x z (by omega)
      rw [List.dropWhile_cons_of_pos (by simp; omega)]
      exact drop_head h h0 hl'.2 hy
theorem wt_eq {x y : WT} (h : cfW x y = 0) : x = y := by
  unfold cfW at h
  split at h
  · rename_i h1; exact absurd h h1
  · rename_i h1
    have e1 := (cmpB_eq _ _).1 (Classical.not_not.1 h1)
    have e2 := (compareT_eq _ _ _ _).1 h
    obtain ⟨a, b, c⟩ := x
    obtain ⟨a', b', c'⟩ := y
    dsimp only at e1 e2
    obtain ⟨e2, e3⟩ := e2
    subst e1 e2 e3
    rfl
theorem cfW_self (x : WT) : cfW x x = 0 := by have := ordW27.swap x x; omega
theorem tail_sub {α : Type} (q : α → Bool) (l : List α) : (l.takeWhile q ++ (l.dropWhile q).tail).Sublist l := by
  have h := List.takeWhile_append_dropWhile (p := q) (l := l)
  have h1 : (l.takeWhile q ++ (l.dropWhile q).tail).Sublist (l.takeWhile q ++ l.dropWhile q) := List.Sublist.append (List.Sublist.refl _) (List.tail_sublist _)
  rwa [h] at h1
theorem ltW_fun (w : WT) : (fun x => ltW x w) = fun x => decide (cfW x w < 0) := by funext x; exact ltW_is x w
theorem VK.watP {sq : Int} {s : ST} {l : List WT} (h : VK sq s) (hl : (l.length : Int) ≤ 100) (hw : ∀ w ∈ l, wtOK w = true) (ha : l.Pairwise fun a b => cfW a b < 0) : VK sq { s with watches := l } where
  c0 := h.c0
  c1 := h.c1
  np := h.np
  ng := h.ng
  pg := h.pg
  asc := h.asc
  gn := h.gn
  rul := h.rul
  nq := h.nq
  q0 := h.q0
  q1 := h.q1
  pp := h.pp
  nw := hl
  ws := hw
  wa := ha
  nl := h.nl
  ls := h.ls
  la := h.la
theorem VK.watch {sq : Int} {s : ST} {c : CH} (h : VK sq s) (hc : ChOK c) (hk : c.kind = 7 ∨ c.kind = 8) : VK sq (watchT s c).1 := by
  have hv := hc.title (by omega) (by omega)
  have hu := hc.user
  have hne := hc.who hk
  unfold watchT
  dsimp only
  rw [ltW_fun]
  split
  · split
    · have hs := tail_sub (fun x => decide (cfW x ⟨c.user, c.sp, c.nm⟩ < 0)) s.watches
      exact h.watP (by have := hs.length_le; have := h.nw; omega) (fun w hw => h.ws w (hs.subset hw)) (h.wa.sublist hs)
    · exact h
  · split
    · exact h
    · rename_i hb
      split
      · exact h
      · rename_i hn
        have hnm : isNameT c.user = true := by
          unfold userT at hu
          rw [decide_eq_false hne, Bool.false_or] at hu
          exact hu
        change VK sq { s with watches := insG (fun x => decide (cfW x ⟨c.user, c.sp, c.nm⟩ < 0)) s.watches ⟨c.user, c.sp, c.nm⟩ }
        refine h.watP (by rw [insG_len]; omega) (fun w hw => ?_) (ins_pw ordW27 _ _ h.wa fun y hy e => ?_)
        · rcases (mem_insG _ _ _ _).1 hw with rfl | hw
          · simp [wtOK, hv, hnm]
          · exact h.ws w hw
        · have := wt_eq e
          subst this
          exact hb (drop_head ordW27 (cfW_self _) h.wa hy)
theorem VK.propose {sq : Int} {s : ST} {c : CH} (h : VK sq s) (hc : ChOK c) (hk : c.kind = 9) : VK sq (proposeT s c).1 := by
  have hv := hc.title (by omega) (by omega)
  have hb := hc.base hk
  unfold proposeT
  split
  · exact h
  · exact {
      c0 := h.c0
      c1 := h.c1
      np := h.np
      ng := h.ng
      pg := h.pg
      asc := h.asc
      gn := h.gn
      rul := h.rul
      nq := by simp; omega
      q0 := by have := h.q0; dsimp only; omega
      q1 := by dsimp only; omega
      pp := by
        have hx : ppOK s.clk (s.proposed + 1) (s.proposed + 1 - 1) ⟨s.proposed + 1, c.user, c.note, c.sp, c.nm, c.n, c.text, s.clk⟩ = true :=
          ppOK_iff.2 ⟨by dsimp only; omega, Int.le_refl _, hc.user, hv, hb.1, hb.2, hc.text, hc.note, h.c0, Int.le_refl _⟩
        refine ppGo_snoc hx _ _ (by have := h.q0; omega) ?_
        rw [Int.add_sub_cancel]
        exact h.pp
      nw := h.nw
      ws := h.ws
      wa := h.wa
      nl := h.nl
      ls := h.ls
      la := h.la }
theorem VK.shut {sq : Int} {s : ST} {c : CH} (h : VK sq s) : VK sq (shutT s c).1 := by
  unfold shutT
  dsimp only
  split
  · exact h
  · exact h.propP _
theorem VK.kind {sq : Int} {s : ST} {c : CH} (hq : 1 ≤ sq) (h : VK sq s) (hc : ChOK c) (hf : forbidT c = false) (h0 : (kindT s c sq).2 = 0) : VK sq (kindT s c sq).1 := by
  unfold kindT at h0 ⊢
  by_cases k1 : c.kind = 1
  · rw [if_pos k1] at h0 ⊢; exact h.put hq hc k1 hf h0
  rw [if_neg k1] at h0 ⊢
  by_cases k2 : c.kind = 2
  · rw [if_pos k2] at h0 ⊢; exact h.remove h0
  rw [if_neg k2] at h0 ⊢
  by_cases k3 : c.kind = 3
  · rw [if_pos k3] at h0 ⊢; exact h.restore k3 hf h0
  rw [if_neg k3] at h0 ⊢
  by_cases k4 : c.kind = 4
  · rw [if_pos k4] at h0 ⊢; exact h.move hq hc k4 hf h0
  rw [if_neg k4] at h0 ⊢
  by_cases k5 : c.kind = 5
  · rw [if_pos k5] at h0 ⊢; exact h.take hq hc k5 hf h0
  rw [if_neg k5] at h0 ⊢
  by_cases k6 : c.kind = 6
  · rw [if_pos k6] at h0 ⊢; exact h.tick hc k6
  rw [if_neg k6] at h0 ⊢
  by_cases k7 : c.kind = 7 ∨ c.kind = 8
  · rw [if_pos k7] at h0 ⊢; exact h.watch hc k7
  rw [if_neg k7] at h0 ⊢
  by_cases k9 : c.kind = 9
  · rw [if_pos k9] at h0 ⊢; exact h.propose hc k9
  rw [if_neg k9] at h0 ⊢
  exact h.shut
theorem VK.lastP {sq : Int} {s : ST} {l : List LU} (h : VK sq s) (hl : (l.length : Int) ≤ 60) (hw : ∀ w ∈ l, ltOK sq w = true) (ha : l.Pairwise fun a b => cfL a b < 0) : VK sq { s with lasts := l } where
  c0 := h.c0
  c1 := h.c1
  np := h.np
  ng := h.ng
  pg := h.pg
  asc := h.asc
  gn := h.gn
  rul := h.rul
  nq := h.nq
  q0 := h.q0
  q1 := h.q1
  pp := h.pp
  nw := h.nw
  ws := h.ws
  wa := h.wa
  nl := hl
  ls := hw
  la := ha
theorem VK.noted {sq : Int} {s : ST} {u : Bs} (hq : 1 ≤ sq) (h : VK sq s) (hu : userT u = true) : VK sq (notedT s u sq).1 := by
  unfold notedT
  split
  · exact h
  · rename_i hne
    have hnm : isNameT u = true := by
      unfold userT at hu
      rw [decide_eq_false hne, Bool.false_or] at hu
      exact hu
    have hok : ltOK sq ⟨u, sq⟩ = true := by simp [ltOK, hnm, hq]
    have hfun : (fun x : LU => ltB x.user u) = fun x => decide (cfL x ⟨u, sq⟩ < 0) := rfl
    dsimp only
    rw [hfun]
    split
    · rename_i hb
      cases hd : s.lasts.dropWhile fun x => decide (cfL x ⟨u, sq⟩ < 0) with
      | nil => rw [hd] at hb; cases hb
      | cons y t =>
        rw [hd] at hb
        have hy : y.user = u := by simpa using hb
        have hl : s.lasts.takeWhile (fun x => decide (cfL x ⟨u, sq⟩ < 0)) ++ y :: t = s.lasts := by
          rw [← hd]; exact List.takeWhile_append_dropWhile
        generalize s.lasts.takeWhile (fun x => decide (cfL x ⟨u, sq⟩ < 0)) = a at *
        have hln := congrArg List.length hl
        rw [List.length_append, List.length_cons] at hln
        refine h.lastP ?_ (fun w hw => ?_) ?_
        · have := h.nl
          rw [List.length_append, List.length_cons, List.tail_cons]; omega
        · rcases List.mem_append.1 hw with hw | hw
          · exact h.ls w (by rw [← hl]; exact List.mem_append_left _ hw)
          · rcases List.mem_cons.1 hw with rfl | hw
            · exact hok
            · exact h.ls w (by rw [← hl]; exact List.mem_append_right _ (List.mem_cons_of_mem _ hw))
        · have e1 := List.pairwise_map (f := LU.user) (R := fun a b => Lib.compareBytes a b < 0) (l := a ++ y :: t)
          have e2 := List.pairwise_map (f := LU.user) (R := fun a b => Lib.compareBytes a b < 0) (l := a ++ ⟨u, sq⟩ :: t)
          have e3 : (a ++ ⟨u, sq⟩ :: t).map LU.user = (a ++ y :: t).map LU.user := by simp [hy]
          rw [e3] at e2
          have := h.la
          rw [← hl] at this
          exact e2.1 (e1.2 this)
    · rename_i hb
      split
      · exact h
      · rename_i hn
        change VK sq { s with lasts := insG (fun x => decide (cfL x ⟨u, sq⟩ < 0)) s.lasts ⟨u, sq⟩ }
        refine h.lastP (by rw [insG_len]; omega) (fun w hw => ?_) (ins_pw ordL27 _ _ h.la fun y hy e => ?_)
        · rcases (mem_insG _ _ _ _).1 hw with rfl | hw
          · exact hok
          · exact h.ls w hw
        · refine hb ?_
          rw [drop_head ordL27 e h.la hy]
          exact congrArg some ((cmpB_eq _ _).1 e)
theorem VK.step {sq : Int} {s : ST} {c : CH} (hq : 1 ≤ sq) (h : VK sq s) (h0 : (stepT s c sq).2 = 0) : VK sq (stepT s c sq).1 := by
  unfold stepT at h0 ⊢
  by_cases h1 : chValidT c = 0
  · rw [if_neg (by omega)] at h0 ⊢
    by_cases h2 : (kindT s c sq).2 = 0
    · rw [if_neg (by omega)] at h0 ⊢
      by_cases h3 : forbidT c = true
      · rw [if_pos h3] at h0; cases h0
      · rw [if_neg h3] at h0 ⊢
        have hk := h.kind hq (chOK h1) (by simpa using h3) h2
        split
        · rename_i h4; rw [if_pos h4] at h0; exact absurd h0 h4
        · exact hk.noted hq (chOK h1).user
    · rw [if_pos h2] at h0; exact absurd h0 h2
  · rw [if_pos h1] at h0; exact absurd h0 h1
theorem VK.steps {sq : Int} (hq : 1 ≤ sq) : ∀ {l : List CH} {s : ST}, VK sq s → (stepsT sq s l).2 = 0 → VK sq (stepsT sq s l).1
  | [], s, h, _ => h
  | c :: l, s, h, h0 => by
    simp only [stepsT] at h0 ⊢
    by_cases h1 : (stepT s c sq).2 = 0
    · rw [if_neg (by omega)] at h0 ⊢
      exact VK.steps hq (h.step hq h1) h0
    · rw [if_pos h1] at h0; exact absurd h0 h1
/-- A transaction that is accepted leads to a valid state, one number further. -/
theorem apply_valid {s : ST} {l : List CH} (h0 : (applyT s l).2 = 0) : validST (applyT s l).1 = true ∧ (applyT s l).1.seq = s.seq + 1 ∧ validST s = true := by
  unfold applyT at h0 ⊢
  cases hv : validST s with
  | false => rw [hv, if_pos rfl] at h0; cases h0
  | true =>
    rw [hv, if_neg (by decide)] at h0
    rw [if_neg (by decide)]
    obtain ⟨v1, v2, vk⟩ := valid_iff.1 hv
    split
    · rename_i h1; rw [if_pos h1] at h0; cases h0
    · rename_i h1
      rw [if_neg h1] at h0
      split
      · rename_i h2; rw [if_pos h2] at h0; exact absurd h0 h2
      · rename_i h2
        rw [if_neg h2] at h0
        split
        · rename_i h3; rw [if_pos h3] at h0; cases h0
        · rename_i h3
          refine ⟨valid_iff.2 ⟨by dsimp only; omega, by dsimp only; omega, ?_⟩, rfl, rfl⟩
          have := VK.steps (sq := s.seq + 1) (by omega) (l := l) (vk.mono (by omega)) (Classical.not_not.1 h2)
          exact { c0 := this.c0, c1 := this.c1, np := this.np, ng := this.ng, pg := this.pg, asc := this.asc, gn := this.gn, rul := this.rul, nq := this.nq, q0 := this.q0, q1 := this.q1, pp := this.pp, nw := this.nw, ws := this.ws, wa := this.wa, nl := this.nl, ls := this.ls, la := this.la }
end Go.X

/- This text walks through the functions of the reference of chapter 27 that check a state: before, pages, proposals, lists, Valid. -/
namespace Go.X
open Go Go.Lib
theorem ascG_iff {α : Type} [Inhabited α] (lt : α → α → Bool) : ∀ l : List α, ascG lt l = true ↔ ∀ i, i < l.length → 0 < i → lt (l.getD (i - 1) default) (l.getD i default) = true
  | [] => by simp [ascG]
  | [x] => by
    simp only [ascG, List.length_singleton, true_iff]
    intro i h1 h2; omega
  | x :: y :: r => by
    have ih := ascG_iff lt (y :: r)
    rw [ascG, Bool.and_eq_true, ih]
    constructor
    · rintro ⟨h1, h2⟩ i hi h0
      match i, h0 with
      | 1, _ => exact h1
      | k + 2, _ => exact h2 (k + 1) (by simpa using hi) (by omega)
    · intro h
      refine ⟨h 1 (by simp) (by omega), fun i hi h0 => ?_⟩
      match i, h0 with
      | k + 1, _ => exact h (k + 2) (by simpa using hi) (by omega)
theorem all_iff {α : Type} [Inhabited α] (p : α → Bool) (l : List α) : l.all p = true ↔ ∀ i, i < l.length → p (l.getD i default) = true := by
  rw [List.all_eq_true]
  constructor
  · intro h i hi
    rw [List.getD_eq_getElem?_getD, List.getElem?_eq_getElem hi]
    exact h _ (List.getElem_mem hi)
  · intro h x hx
    obtain ⟨i, hi, rfl⟩ := List.getElem_of_mem hx
    have := h i hi
    rwa [List.getD_eq_getElem?_getD, List.getElem?_eq_getElem hi] at this
theorem getD_at {α : Type} [Inhabited α] {l : List α} {i : Nat} (h : i < l.length) : l.getD i default = l[i] := by
  rw [List.getD_eq_getElem?_getD, List.getElem?_eq_getElem h]; rfl
theorem histGo_mem {clk sq : Int} : ∀ {l : List RV} {i mi se : Int}, histGo clk sq i mi se l = true → ∀ r ∈ l, (r.text.length : Int) ≤ 8192
  | [], _, _, _, _, _, h => by cases h
  | x :: l, i, mi, se, h, r, hr => by
    simp only [histGo, Bool.and_eq_true] at h
    rcases List.mem_cons.1 hr with rfl | hr
    · exact (rvOK_iff.1 h.1).2.1
    · exact histGo_mem h.2 r hr
theorem cur_text {clk sq : Int} {l : List RV} (h : histT clk sq l = true) : ((curM l).text.length : Int) ≤ 8192 := by
  obtain ⟨h1, _, h3⟩ := histT_iff.1 h
  obtain ⟨k, hk⟩ : ∃ k, l.length = k + 1 := ⟨l.length - 1, by omega⟩
  rw [curM_at hk]
  exact histGo_mem h3 _ (List.getElem_mem _)
theorem find_map (sp : Int) (nm : Bs) : ∀ l : List PGM, (l.map PGM.pl).find? (atT sp nm) = (l.find? (atM sp nm)).map PGM.pl
  | [] => rfl
  | x :: r => by
    have h : atT sp nm x.pl = atM sp nm x := rfl
    simp only [List.map_cons, List.find?_cons, h, find_map sp nm r]
    cases atM sp nm x <;> rfl
/-- A page of a state is valid and behind the one ahead of it. -/
def pgA (s : STM) (i : Nat) : Prop := validT (s.pages.getD i default).sp (s.pages.getD i default).nm = true ∧ histT s.clk s.seq (s.pages.getD i default).hist = true ∧ (0 < i → compareT (s.pages.getD (i - 1) default).sp (s.pages.getD (i - 1) default).nm (s.pages.getD i default).sp (s.pages.getD i default).nm < 0)
def pgB (s : STM) (i : Nat) : Prop := validT (s.gone.getD i default).sp (s.gone.getD i default).nm = true ∧ histT s.clk s.seq (s.gone.getD i default).hist = true
theorem getD_map {l : List PGM} {i : Nat} (h : i < l.length) : (l.map PGM.pl).getD i default = (l.getD i default).pl := by
  rw [getD_at h, getD_at (by simpa using h), List.getElem_map]
theorem pagesT_iff (s : STM) : pagesT s.pl = true ↔ s.pages.length ≤ 200 ∧ s.gone.length ≤ 100 ∧ (∀ i, i < s.pages.length → pgA s i) ∧ (∀ i, i < s.gone.length → pgB s i) ∧ ruledT s.pl = true := by
  have e1 : s.pl.pages = s.pages.map PGM.pl := rfl
  have e2 : s.pl.gone = s.gone.map PGM.pl := rfl
  simp only [pagesT, Bool.and_eq_true, decide_eq_true_eq, all_iff, ascG_iff, e1, e2, List.length_map, and_assoc]
  constructor
  · rintro ⟨a, b, c, d, f, g⟩
    refine ⟨by omega, by omega, fun i hi => ?_, fun i hi => ?_, g⟩
    · have h1 := c i hi
      rw [getD_map hi] at h1
      have h1 := pageOK_iff.1 h1
      refine ⟨h1.1, h1.2, fun h0 => ?_⟩
      have h2 := d i hi h0
      rw [getD_map hi, getD_map (by omega)] at h2
      exact of_decide_eq_true h2
    · have h1 := f i hi
      rw [getD_map hi] at h1
      exact pageOK_iff.1 h1
  · rintro ⟨a, b, c, d, g⟩
    refine ⟨by omega, by omega, fun i hi => ?_, fun i hi h0 => ?_, fun i hi => ?_, g⟩
    · rw [getD_map hi]
      exact pageOK_iff.2 ⟨(c i hi).1, (c i hi).2.1⟩
    · rw [getD_map hi, getD_map (by omega)]
      exact decide_eq_true ((c i hi).2.2 h0)
    · rw [getD_map hi]
      exact pageOK_iff.2 (d i hi)
theorem ruled_some {s : STM} {p : PGM} (h : s.pages.find? (atM 5 policyNm) = some p) : ruledT s.pl = decide ((polParseT (curM p.hist).text).2.2 = 0) := by
  have e : s.pl.pages = s.pages.map PGM.pl := rfl
  unfold ruledT pageT
  rw [e, find_map, h]
  rfl
theorem ruled_none {s : STM} (h : s.pages.find? (atM 5 policyNm) = none) : ruledT s.pl = true := by
  have e : s.pl.pages = s.pages.map PGM.pl := rfl
  unfold ruledT pageT
  rw [e, find_map, h]
  rfl
end Go.X
namespace Go.Proofs
open Go Go.X
set_option maxRecDepth 100000
set_option maxHeartbeats 4000000
theorem before_ok (x y : WT) : FnS Tryz.prog 144 [.agg x.cells, .agg y.cells] [] [] (Is (.c (.b (ltW x y)))) := by
  obtain ⟨xu, xs, xn⟩ := x
  obtain ⟨yu, ys, yn⟩ := y
  have ct := refCompareT_ok xs xn ys yn
  have hl := less_cmp xu yu
  have hr := cmpB_range xu yu
  have he := cmpB_eq xu yu
  obtain ⟨W, hW⟩ : ∃ W, ltW ⟨xu, xs, xn⟩ ⟨yu, ys, yn⟩ = W := ⟨_, rfl⟩
  rw [hW]
  have hWi : W = true ↔ Lib.compareBytes xu yu < 0 ∨ (xu = yu ∧ compareT xs xn ys yn < 0) := by
    rw [← hW]; simp [ltW, ltB]
  rw [← he] at hWi
  clear hW
  generalize compareT xs xn ys yn = k at *
  refine fn_of_J Tryz.tyOK 0 Tryz.func144 (by kernel_rfl) (c := Tryz.f144.body.getD .skip) (by kernel_rfl) Tryz.ntmps144 (rs := Tryz.f144.results.toList) rfl (by simp) (fun G => ?_)
  repeat' first | refine J_seq ?_ | refine J_region Tryz.tyOK ?_ | refine J_block ?_ | refine J_cond ?_ | refine J_ret ?_ | refine J_skip ?_ | refine J_exit ?_ | refine J_scope ?_ | refine CondP.y ?_ | refine CondP.n ?_ | refine CondP.mk (fun h => ?_) (fun h => ?_) | refine EqP.mk rfl ?_ | refine NewP.mk (fun ad => ?_) | refine ArP.x ?_ | refine SideP.a ?_ | refine CallP.is ct ?_ | refine FinE.bool ?_ | fail
  all_goals
    clear ct
    dsimp only at *
    simp only [hl, ← he] at *
    clear hl he
    generalize Lib.compareBytes xu yu = b at *
    first
      | (rw [hWi]; omega)
      | (refine bfalse hWi ?_; omega)
theorem pol27_ok : FnS Tryz.prog 111 [] [] [] (Is (.agg [.i .i64 5, .s policyNm])) := by
  refine fn_of_J Tryz.tyOK 0 Tryz.func111 (by kernel_rfl) (c := Tryz.f111.body.getD .skip) (by kernel_rfl) Tryz.ntmps111 (rs := Tryz.f111.results.toList) rfl (by simp) (fun G => ?_)
  repeat' first | refine J_seq ?_ | refine J_region Tryz.tyOK ?_ | refine J_block ?_ | refine J_cond ?_ | refine J_ret ?_ | refine J_skip ?_ | refine J_exit ?_ | refine J_scope ?_ | refine CondP.y ?_ | refine CondP.n ?_ | refine CondP.mk (fun h => ?_) (fun h => ?_) | refine EqP.mk rfl ?_ | refine NewP.mk (fun ad => ?_) | refine ArP.x ?_ | refine SideP.a ?_ | refine FinE.is rfl | fail
theorem pages27_ok (s : STM) (hs : StB s) : FnS Tryz.prog 98 [.agg s.cells] [] [stF s] (Is (.c (.b (pagesT s.pl)))) := by
  have hl1 := big_le hs.pages
  have hl2 := big_le hs.gone
  have hrd : ∀ L, Reads L [stF s] 0 3 s.pa s.pages.length (pgmC s.pages) := fun L => .inr fun m h => h.1.pages.row
  have hrg : ∀ L, Reads L [stF s] 0 3 s.ga s.gone.length (pgmC s.gone) := fun L => .inr fun m h => h.1.gone.row
  have hW := pagesT_iff s
  generalize pagesT s.pl = W at *
  have cp := page27_ok s 5 policyNm hs
  refine fn_of_J Tryz.tyOK 0 Tryz.func98 (by kernel_rfl) (c := Tryz.f98.body.getD .skip) (by kernel_rfl) Tryz.ntmps98 (rs := Tryz.f98.results.toList) rfl (by simp) (fun G => ?_)
  repeat' first | refine J_seq ?_ | refine J_region Tryz.tyOK ?_ | refine J_block ?_ | refine J_cond ?_ | refine J_ret ?_ | refine J_skip ?_ | refine J_exit ?_ | refine J_scope ?_ | refine CondP.y ?_ | refine CondP.n ?_ | refine CondP.mk (fun h => ?_) (fun h => ?_) | refine EqP.mk rfl ?_ | refine NewP.mk (fun ad => ?_) | refine ArP.x ?_ | refine SideP.a ?_ | refine FinE.bool (bfalse hW fun h => ?_) | fail
  · omega
  · omega
  refine J_loop (α := Nat) (fun i => [(1, .c (.p 0 ad 0)), (3, .c (.i .i64 i))]) (fun _ => [.box 0 ad 42 s.cells]) (fun _ => [stF s]) 1
    (fun i => i ≤ s.pages.length ∧ ∀ j, j < i → pgA s j) (fun i => s.pages.length - i) (InFam.mk 0 ⟨Nat.zero_le _, fun j h => absurd h (Nat.not_lt_zero j)⟩ SubE.a (Ents.refl _ _)) (fun i hx => ?_)
  obtain ⟨hi, hn⟩ := hx
  by_cases hlt : i < s.pages.length
  · have hg := pgm_get hlt
    have hA : pgA s i ↔ pgA s i := Iff.rfl
    conv at hA => rhs; rw [pgA, getD_at hlt]
    have hmem := List.getElem_mem hlt
    have hnext : pgA s i → ∀ j, j < i + 1 → pgA s j := fun h j hj => by
      by_cases e : j = i
      · subst e; exact h
      · exact hn j (by omega)
    have cv := validA_ok s.pages[i].sp s.pages[i].nm
    have ch := hist27_ok s 0 s.pages[i].ha s.pages[i].hc s.pages[i].hist (by have := big_le (hs.ph _ hmem); omega)
    have cc := refCompareT_ok (s.pages.getD (i - 1) default).sp (s.pages.getD (i - 1) default).nm s.pages[i].sp s.pages[i].nm
    have hg1 : 0 < i → ((pgmC s.pages).drop (((i : Int) - 1).toNat * 3 + 0)).take 2 = [.i .i64 (s.pages.getD (i - 1) default).sp, .s (s.pages.getD (i - 1) default).nm] := fun h0 => by
      rw [show ((i : Int) - 1).toNat = i - 1 by omega, getD_at (show i - 1 < s.pages.length by omega)]; exact pgm_get2 (by omega)
    generalize s.pages[i] = p at *
    generalize s.pages.getD (i - 1) default = q at *
    generalize compareT q.sp q.nm p.sp p.nm = k at *
    cases hv : validT p.sp p.nm
    all_goals cases hh : histT s.clk s.seq p.hist
    all_goals
      rw [hv] at cv hA
      rw [hh] at ch hA
      repeat' first | refine J_seq ?_ | refine J_region Tryz.tyOK ?_ | refine J_block ?_ | refine J_cond ?_ | refine J_ret ?_ | refine J_skip ?_ | refine J_exit ?_ | refine J_scope ?_ | refine CondP.y ?_ | refine CondP.n ?_ | refine CondP.mk (fun h => ?_) (fun h => ?_) | refine EqP.mk rfl ?_ | refine NewP.mk (fun ad => ?_) | refine ArP.x ?_ | refine SideP.a ?_ | refine J_drawS (id := 7) Tryz.tyOK (by kernel_rfl) [0, 1, 3, 7, 15, 31, 31, 95, 255, 511, 1023, 2047, 4095, 8191, 16383, 32767, 65535, 32767, 163839, 524287, 1048575, 2097151, 32767, 4227071, 16777215, 33554431, 67108863, 134217727] [0, 1, 2, 3, 4, 5, 6, 7, 8, 9, 10, 11, 12, 13, 14, 15, 16, 17, 18, 19, 20, 21, 22, 23, 24, 25, 26, 27] [] [1, 4, 52] true (by kernel_rfl) ?_ | refine J_drawS (id := 12) Tryz.tyOK (by kernel_rfl) [0, 1, 0, 7, 15, 31, 63, 127, 255, 511, 511, 1535, 511, 7679, 15871, 32255, 65535, 131071, 262143] [0, 1, 2, 3, 4, 5, 6, 7, 8, 9, 10, 11, 12, 13, 14, 15, 16, 17, 18] [] [1, 71, 81] true (by kernel_rfl) ?_ | refine J_drawS (id := 14) Tryz.tyOK (by kernel_rfl) [0, 0, 3, 7, 15, 15, 0, 95, 255] [0, 1, 2, 3, 4, 5, 6, 7, 8] [6, 7] [1] true (by kernel_rfl) ?_ | refine EntP.mk Ents.a ?_ | refine IdxE.mk 0 3 _ (hrd _) (by omega) (by omega) ?_ | refine FldE.mk 0 3 _ _ (hrd _) (by omega) ?_ | refine LoadE.mk 0 _ _ p.cells (hrd _) (by omega) (by omega) (by first | omega | decide) (by exact hg) ?_ | refine LoadE.mk 0 _ _ [.i .i64 q.sp, .s q.nm] (hrd _) (by omega) (by omega) (by first | omega | decide) (by exact hg1 (by omega)) ?_ | refine CallQ.mk [] _ cv (fun _ _ => trivial) ?_ | refine CallQ.mk [_] _ ch (fun _ h => ⟨h.1.pages.his p hmem, trivial⟩) ?_ | refine CallQ.mk [] _ cc (fun _ _ => trivial) ?_ | refine FinE.bool (bfalse hW fun h => ?_) | refine Round.mk (i + 1) (by omega) ⟨by omega, hnext (hA.2 ⟨rfl, rfl, fun _ => by omega⟩)⟩ SubE.a Ents.a | fail
    all_goals
      have hB := hA.1 (h.2.2.1 i hlt)
      first
        | (cases hB.1; done)
        | (cases hB.2.1; done)
        | (have := hB.2.2 (by omega); omega)
  · have hil : i = s.pages.length := by omega
    subst hil
    clear hi hlt
    repeat' first | refine J_seq ?_ | refine J_region Tryz.tyOK ?_ | refine J_block ?_ | refine J_cond ?_ | refine J_ret ?_ | refine J_skip ?_ | refine J_exit ?_ | refine J_scope ?_ | refine CondP.y ?_ | refine CondP.n ?_ | refine CondP.mk (fun h => ?_) (fun h => ?_) | refine EqP.mk rfl ?_ | refine NewP.mk (fun ad => ?_) | refine ArP.x ?_ | refine SideP.a ?_ | fail
    refine J_loop (α := Nat) (fun i => [(1, .c (.p 0 ad 0)), (5, .c (.i .i64 i))]) (fun _ => [.box 0 ad 42 s.cells]) (fun _ => [stF s]) 1
      (fun i => i ≤ s.gone.length ∧ ∀ j, j < i → pgB s j) (fun i => s.gone.length - i) (InFam.mk 0 ⟨Nat.zero_le _, fun j h => absurd h (Nat.not_lt_zero j)⟩ SubE.a Ents.a) (fun i hx => ?_)
    obtain ⟨hi, hn2⟩ := hx
    by_cases hlt : i < s.gone.length
    · have hg2 := pgm_get2 hlt
      have hg1 := pgm_get1 hlt
      have hA : pgB s i ↔ pgB s i := Iff.rfl
      conv at hA => rhs; rw [pgB, getD_at hlt]
      have hmem := List.getElem_mem hlt
      have hnext : pgB s i → ∀ j, j < i + 1 → pgB s j := fun h j hj => by
        by_cases e : j = i
        · subst e; exact h
        · exact hn2 j (by omega)
      have cv := validA_ok s.gone[i].sp s.gone[i].nm
      have ch := hist27_ok s 0 s.gone[i].ha s.gone[i].hc s.gone[i].hist (by have := big_le (hs.gh _ hmem); omega)
      generalize s.gone[i] = p at *
      cases hv : validT p.sp p.nm
      all_goals cases hh : histT s.clk s.seq p.hist
      all_goals
        rw [hv] at cv hA
        rw [hh] at ch hA
        repeat' first | refine J_seq ?_ | refine J_region Tryz.tyOK ?_ | refine J_block ?_ | refine J_cond ?_ | refine J_ret ?_ | refine J_skip ?_ | refine J_exit ?_ | refine J_scope ?_ | refine CondP.y ?_ | refine CondP.n ?_ | refine CondP.mk (fun h => ?_) (fun h => ?_) | refine EqP.mk rfl ?_ | refine NewP.mk (fun ad => ?_) | refine ArP.x ?_ | refine SideP.a ?_ | refine J_drawS (id := 7) Tryz.tyOK (by kernel_rfl) [0, 1, 3, 7, 15, 31, 31, 95, 255, 511, 1023, 2047, 4095, 8191, 16383, 32767, 65535, 32767, 163839, 524287, 1048575, 2097151, 32767, 4227071, 16777215, 33554431, 67108863, 134217727] [0, 1, 2, 3, 4, 5, 6, 7, 8, 9, 10, 11, 12, 13, 14, 15, 16, 17, 18, 19, 20, 21, 22, 23, 24, 25, 26, 27] [] [1, 4, 52] true (by kernel_rfl) ?_ | refine J_drawS (id := 12) Tryz.tyOK (by kernel_rfl) [0, 1, 0, 7, 15, 31, 63, 127, 255, 511, 511, 1535, 511, 7679, 15871, 32255, 65535, 131071, 262143] [0, 1, 2, 3, 4, 5, 6, 7, 8, 9, 10, 11, 12, 13, 14, 15, 16, 17, 18] [] [1, 71, 81] true (by kernel_rfl) ?_ | refine J_drawS (id := 14) Tryz.tyOK (by kernel_rfl) [0, 0, 3, 7, 15, 15, 0, 95, 255] [0, 1, 2, 3, 4, 5, 6, 7, 8] [6, 7] [1] true (by kernel_rfl) ?_ | refine EntP.mk Ents.a ?_ | refine IdxE.mk 0 3 _ (hrg _) (by omega) (by omega) ?_ | refine FldE.mk 0 3 _ _ (hrg _) (by omega) ?_ | refine LoadE.mk 0 _ _ [.i .i64 p.sp, .s p.nm] (hrg _) (by omega) (by omega) (by first | omega | decide) (by exact hg2) ?_ | refine LoadE.mk 0 _ _ [.sl p.ha p.hist.length p.hc] (hrg _) (by omega) (by omega) (by first | omega | decide) (by exact hg1) ?_ | refine CallQ.mk [] _ cv (fun _ _ => trivial) ?_ | refine CallQ.mk [_] _ ch (fun _ h => ⟨h.1.gone.his p hmem, trivial⟩) ?_ | refine FinE.bool (bfalse hW fun h => ?_) | refine Round.mk (i + 1) (by omega) ⟨by omega, hnext (hA.2 ⟨rfl, rfl⟩)⟩ SubE.a Ents.a | fail
      all_goals
        have hB := hA.1 (h.2.2.2.1 i hlt)
        first
          | (cases hB.1; done)
          | (cases hB.2; done)
    · have hil : i = s.gone.length := by omega
      subst hil
      cases hf : s.pages.find? (atM 5 policyNm) with
      | none =>
        rw [hf] at cp
        have hWt : W = true := hW.2 ⟨by omega, by omega, hn, hn2, ruled_none hf⟩
        repeat' first | refine J_seq ?_ | refine J_region Tryz.tyOK ?_ | refine J_block ?_ | refine J_cond ?_ | refine J_ret ?_ | refine J_skip ?_ | refine J_exit ?_ | refine J_scope ?_ | refine CondP.y ?_ | refine CondP.n ?_ | refine CondP.mk (fun h => ?_) (fun h => ?_) | refine EqP.mk rfl ?_ | refine NewP.mk (fun ad => ?_) | refine ArP.x ?_ | refine SideP.a ?_ | refine J_drawS (id := 7) Tryz.tyOK (by kernel_rfl) [0, 1, 3, 7, 15, 31, 31, 95, 255, 511, 1023, 2047, 4095, 8191, 16383, 32767, 65535, 32767, 163839, 524287, 1048575, 2097151, 32767, 4227071, 16777215, 33554431, 67108863, 134217727] [0, 1, 2, 3, 4, 5, 6, 7, 8, 9, 10, 11, 12, 13, 14, 15, 16, 17, 18, 19, 20, 21, 22, 23, 24, 25, 26, 27] [] [1, 4, 52] true (by kernel_rfl) ?_ | refine J_drawS (id := 12) Tryz.tyOK (by kernel_rfl) [0, 1, 0, 7, 15, 31, 63, 127, 255, 511, 511, 1535, 511, 7679, 15871, 32255, 65535, 131071, 262143] [0, 1, 2, 3, 4, 5, 6, 7, 8, 9, 10, 11, 12, 13, 14, 15, 16, 17, 18] [] [1, 71, 81] true (by kernel_rfl) ?_ | refine J_drawS (id := 14) Tryz.tyOK (by kernel_rfl) [0, 0, 3, 7, 15, 15, 0, 95, 255] [0, 1, 2, 3, 4, 5, 6, 7, 8] [6, 7] [1] true (by kernel_rfl) ?_ | refine EntP.mk Ents.a ?_ | refine CallQ.mk [] _ pol27_ok (fun _ _ => trivial) ?_ | refine CallQ.mk [_] _ cp (fun _ h => h) ?_ | refine FinE.bool hWt | fail
      | some p =>
        rw [hf] at cp
        have hmem := List.mem_of_find?_eq_some hf
        have hru := ruled_some hf
        have hpt : ((curM p.hist).text.length : Int) ≤ 8192 := by
          obtain ⟨j, hj, e⟩ := List.getElem_of_mem hmem
          have := (hn j hj).2.1
          rw [getD_at hj, e] at this
          exact cur_text this
        have hWt : W = true ↔ (polParseT (curM p.hist).text).2.2 = 0 := ⟨fun h => by have := (hW.1 h).2.2.2.2; rw [hru] at this; exact of_decide_eq_true this, fun h => hW.2 ⟨by omega, by omega, hn, hn2, by rw [hru]; exact decide_eq_true h⟩⟩
        have cu := cur27_ok 0 p (hs.ph p hmem)
        have cr := refParse12_ok (curM p.hist).text (by omega)
        generalize polParseT (curM p.hist).text = r at *
        repeat' first | refine J_seq ?_ | refine J_region Tryz.tyOK ?_ | refine J_block ?_ | refine J_cond ?_ | refine J_ret ?_ | refine J_skip ?_ | refine J_exit ?_ | refine J_scope ?_ | refine CondP.y ?_ | refine CondP.n ?_ | refine CondP.mk (fun h => ?_) (fun h => ?_) | refine EqP.mk rfl ?_ | refine NewP.mk (fun ad => ?_) | refine ArP.x ?_ | refine SideP.a ?_ | refine J_drawS (id := 7) Tryz.tyOK (by kernel_rfl) [0, 1, 3, 7, 15, 31, 31, 95, 255, 511, 1023, 2047, 4095, 8191, 16383, 32767, 65535, 32767, 163839, 524287, 1048575, 2097151, 32767, 4227071, 16777215, 33554431, 67108863, 134217727] [0, 1, 2, 3, 4, 5, 6, 7, 8, 9, 10, 11, 12, 13, 14, 15, 16, 17, 18, 19, 20, 21, 22, 23, 24, 25, 26, 27] [] [1, 4, 52] true (by kernel_rfl) ?_ | refine J_drawS (id := 12) Tryz.tyOK (by kernel_rfl) [0, 1, 0, 7, 15, 31, 63, 127, 255, 511, 511, 1535, 511, 7679, 15871, 32255, 65535, 131071, 262143] [0, 1, 2, 3, 4, 5, 6, 7, 8, 9, 10, 11, 12, 13, 14, 15, 16, 17, 18] [] [1, 71, 81] true (by kernel_rfl) ?_ | refine J_drawS (id := 14) Tryz.tyOK (by kernel_rfl) [0, 0, 3, 7, 15, 15, 0, 95, 255] [0, 1, 2, 3, 4, 5, 6, 7, 8] [6, 7] [1] true (by kernel_rfl) ?_ | refine EntP.mk Ents.a ?_ | refine CallQ.mk [] _ pol27_ok (fun _ _ => trivial) ?_ | refine CallQ.mk [_] _ cp (fun _ h => h) ?_ | refine CallP.is cu ?_ (fun _ h => ⟨h.1.pages.his p hmem, trivial⟩) | refine CallP.mk [] _ [] _ cr (List.Perm.refl _) (fun _ _ => trivial) (fun v L' D' hq => ?_); obtain ⟨pm, _, _, _, rfl, rfl, rfl⟩ := hq | refine FinE.bool ?_ | fail
        · exact hWt.2 h
        · exact bfalse hWt h
end Go.Proofs
