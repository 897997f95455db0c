/- This text walks through the statement StateReturns of chapter 27. -/
import Derived.Test.YtcddpbpbebkdmaaGreatDoorK10
import Derived.Test.YtcddpbpbebkdmaaGreatDoorK13
import Derived.Test.YtcddpbpbebkdmaaGreatDoorK16
import Derived.Test.YtcddpbpbebkdmaaGreatDoorK17
set_option linter.all false
namespace Go.X
open Go Go.Lib
def RV.z (r : RV) : RV := { r with seq := 0 }
def SP.z (p : SP) : SP := ⟨p.sp, p.nm, p.hist.map RV.z⟩
def LU.z (x : LU) : LU := ⟨x.user, 0⟩
def ST.z (s : ST) : ST := { s with seq := 0, pages := s.pages.map SP.z, gone := s.gone.map SP.z, lasts := s.lasts.map LU.z }
theorem nn {a b : Int} (h : a = b) : ¬ a ≠ b := fun h' => h' h
theorem step_ok {s : ST} {c : CH} {sq : Int} (h : (X4 s c sq).2 = 0) : QM c = 0 ∧ (Zm s c sq).2 = 0 ∧ Zx c = false ∧ (Q9 (Zm s c sq).1 c.user sq).2 = 0 ∧ X4 s c sq = Q9 (Zm s c sq).1 c.user sq := by
 unfold X4 at h ⊢
 by_cases h1 : QM c = 0
 ·rw [if_neg (nn h1)] at h ⊢
  by_cases h2 : (Zm s c sq).2 = 0
  ·rw [if_neg (nn h2)] at h ⊢
   by_cases h3 : Zx c = true
   ·rw [if_pos h3] at h; cases h
   ·rw [if_neg h3] at h ⊢
    by_cases h4 : (Q9 (Zm s c sq).1 c.user sq).2 = 0
    ·rw [if_neg (nn h4)]
     exact ⟨h1, h2, by simpa using h3, h4, rfl⟩
    ·rw [if_pos h4] at h; exact absurd h h4
  ·rw [if_pos h2] at h; exact absurd h h2
 ·rw [if_pos h1] at h; exact absurd h h1
theorem step_is {s : ST} {c : CH} {sq : Int} (h1 : QM c = 0) (h2 : (Zm s c sq).2 = 0) (h3 : Zx c = false) (h4 : (Q9 (Zm s c sq).1 c.user sq).2 = 0) : X4 s c sq = Q9 (Zm s c sq).1 c.user sq := by
 unfold X4
 rw [if_neg (nn h1), if_neg (nn h2), if_neg (by rw [h3]; decide), if_neg (nn h4)]
theorem step_bad {s : ST} {c : CH} {sq : Int} (h1 : QM c = 0) (h2 : (Zm s c sq).2 ≠ 0) : X4 s c sq = (ST.nil, (Zm s c sq).2) := by
 unfold X4
 rw [if_neg (nn h1), if_pos h2]
theorem noted_same (s : ST) (u : Bs) (sq : Int) : (Q9 s u sq).1 = { s with lasts := (Q9 s u sq).1.lasts } := by
 unfold Q9
 split
 ·rfl
 ·dsimp only
  split
  ·rfl
  ·split <;> rfl
theorem noted_pages (s : ST) (u : Bs) (sq : Int) : (Q9 s u sq).1.pages = s.pages := by rw [noted_same]
theorem apply_ok {s : ST} {l : List CH} (h : (Q0 s l).2 = 0) : Zl s = true ∧ 1 ≤ l.length ∧ l.length ≤ 16 ∧ (Ja (s.seq + 1) s l).2 = 0 ∧ s.seq + 1 ≤ 1073741824 ∧ Q0 s l = ({ (Ja (s.seq + 1) s l).1 with seq := s.seq + 1 }, 0) := by
 unfold Q0 at h ⊢
 by_cases h1 : Zl s = false
 ·rw [if_pos h1] at h; cases h
 rw [if_neg h1] at h ⊢
 by_cases h2 : (l.length : Int) < 1 ∨ 16 < (l.length : Int)
 ·rw [if_pos h2] at h; cases h
 rw [if_neg h2] at h ⊢
 by_cases h3 : (Ja (s.seq + 1) s l).2 = 0
 ·rw [if_neg (nn h3)] at h ⊢
  by_cases h4 : 1073741824 < s.seq + 1
  ·rw [if_pos h4] at h; cases h
  rw [if_neg h4]
  exact ⟨by simpa using h1, by omega, by omega, h3, by omega, rfl⟩
 ·rw [if_pos h3] at h; exact absurd h h3
theorem steps_ok {s : ST} {c : CH} {l : List CH} {sq : Int} (h : (Ja sq s (c :: l)).2 = 0) : (X4 s c sq).2 = 0 ∧ (Ja sq (X4 s c sq).1 l).2 = 0 ∧ Ja sq s (c :: l) = Ja sq (X4 s c sq).1 l := by
 rw [wC] at h ⊢
 by_cases h1 : (X4 s c sq).2 = 0
 ·rw [if_neg (nn h1)] at h ⊢
  exact ⟨h1, h, rfl⟩
 ·rw [if_pos h1] at h; exact absurd h h1
theorem mem_modify {α : Type} {l : List α} {i : Nat} {f : α → α} {x : α} (h : x ∈ l.modify i f) : x ∈ l ∨ ∃ hi : i < l.length, x = f l[i] := by
 obtain ⟨j, hj, rfl⟩ := List.getElem_of_mem h
 rw [List.length_modify] at hj
 rw [List.getElem_modify]
 split
 ·rename_i e; subst e; exact .inr ⟨hj, rfl⟩
 ·exact .inl (List.getElem_mem _)
theorem idx_page {s : ST} {sp : Int} {nm : Bs} (h : ¬ Q2 (YX sp nm) s.pages < 0) : ∃ i : Nat, ∃ hi : i < s.pages.length, Q2 (YX sp nm) s.pages = i ∧ YX sp nm s.pages[i] = true ∧ Vc s (Q2 (YX sp nm) s.pages) = s.pages[i] := by
 obtain ⟨i, hi, he, ha⟩ := yl h
 exact ⟨i, hi, he, ha, by rw [Vc, he, Int.toNat_natCast, Vk hi]⟩
theorem find_ins {lt p : SP → Bool} {l : List SP} {x : SP} (h : p x = false) : (Kv lt l x).find? p = l.find? p := by
 unfold Kv
 rw [List.find?_append, List.find?_cons_of_neg (by rw [h]; decide), ← List.find?_append, List.takeWhile_append_dropWhile]
theorem find_erase {p : SP → Bool} : ∀ {l : List SP} {i : Nat} (h : i < l.length), p l[i] = false → (l.eraseIdx i).find? p = l.find? p
 | x :: l, 0, _, hp => by
  rw [List.eraseIdx_cons_zero, List.find?_cons_of_neg (by rw [show p x = false from hp]; decide)]
 | x :: l, i + 1, h, hp => by
  rw [List.eraseIdx_cons_succ]
  cases hx : p x with
  | true => rw [List.find?_cons_of_pos hx, List.find?_cons_of_pos hx]
  | false =>
   rw [List.find?_cons_of_neg (by rw [hx]; decide), List.find?_cons_of_neg (by rw [hx]; decide)]
   exact find_erase (by simpa using h) (by simpa using hp)
theorem find_mod {p : SP → Bool} {f : SP → SP} : ∀ {l : List SP} {i : Nat} (h : i < l.length), p l[i] = false → p (f l[i]) = false → (l.modify i f).find? p = l.find? p
 | x :: l, 0, _, hp, hf => by
  have h1 : p x = false := hp
  have h2 : p (f x) = false := hf
  rw [List.modify_zero_cons]
  simp [List.find?_cons, h1, h2]
 | x :: l, i + 1, h, hp, hf => by
  rw [List.modify_succ_cons]
  cases hx : p x with
  | true => rw [List.find?_cons_of_pos hx, List.find?_cons_of_pos hx]
  | false =>
   rw [List.find?_cons_of_neg (by rw [hx]; decide), List.find?_cons_of_neg (by rw [hx]; decide)]
   exact find_mod (by simpa using h) (by simpa using hp) (by simpa using hf)
theorem at_ne {sp sp' : Int} {nm nm' : Bs} {p : SP} (h : YX sp' nm' p = true) (hn : ¬ (sp' = sp ∧ nm' = nm)) : YX sp nm p = false := by
 have h1 := qN.1 h
 refine decide_eq_false fun e => hn ⟨?_, ?_⟩
 ·rw [← h1.1, e.1]
 ·rw [← h1.2, e.2]
theorem at_ne' {sp sp' : Int} {nm nm' : Bs} {h : List RV} (hn : ¬ (sp' = sp ∧ nm' = nm)) : YX sp nm ⟨sp', nm', h⟩ = false := decide_eq_false hn
structure Bnd (k : Nat) (s : ST) : Prop where
 np : s.pages.length ≤ k
 ng : s.gone.length ≤ k
 hp : ∀ p ∈ s.pages, p.hist.length ≤ k + 3
 hg : ∀ p ∈ s.gone, p.hist.length ≤ k + 3
theorem Bnd.up {k : Nat} {s : ST} (h : Bnd k s) : Bnd (k + 1) s := ⟨by have := h.np; omega, by have := h.ng; omega, fun p hp => by have := h.hp p hp; omega, fun p hp => by have := h.hg p hp; omega⟩
theorem Bnd.ins {k : Nat} {s : ST} {lt : SP → Bool} {l : List SP} {x : SP} {g : List SP} {pr : List PP} (h : Bnd k s) (hl : l.length ≤ k) (hm : ∀ p ∈ l, p.hist.length ≤ k + 4) (hx : x.hist.length ≤ k + 4) (hg : g.length ≤ k + 1) (hgm : ∀ p ∈ g, p.hist.length ≤ k + 4) : Bnd (k + 1) { s with pages := Kv lt l x, gone := g, props := pr } :=
 ⟨by dsimp only; rw [V9]; omega, hg, fun p hp => by
  rcases (WH _ _ _ _).1 hp with rfl | hp
  ·omega
  ·have := hm p hp; omega, fun p hp => by have := hgm p hp; omega⟩
theorem Bnd.kind {k : Nat} {s : ST} {c : CH} {sq : Int} (h : Bnd k s) (hc : c.hist.length ≤ 3) : Bnd (k + 1) (Zm s c sq).1 := by
 have hp' := fun (p : SP) (hp : p ∈ s.pages) => show p.hist.length ≤ k + 4 by have := h.hp p hp; omega
 have hg' := fun (p : SP) (hp : p ∈ s.gone) => show p.hist.length ≤ k + 4 by have := h.hg p hp; omega
 have hng := h.ng
 have hnp := h.np
 have er : ∀ i, (s.pages.eraseIdx i).length ≤ s.pages.length := fun i => (List.eraseIdx_sublist _ _).length_le
 have eg : ∀ i, (s.gone.eraseIdx i).length ≤ s.gone.length := fun i => (List.eraseIdx_sublist _ _).length_le
 unfold Zm
 split
 ·unfold K7
  split
  ·split
   ·exact h.up
   ·exact h.ins h.np hp' (by simp) (by omega) hg'
  ·split
   ·exact h.up
   ·refine ⟨by dsimp only; rw [List.length_modify]; omega, by dsimp only; omega, fun p hp => ?_, fun p hp => by have := hg' p hp; omega⟩
    rcases mem_modify hp with hp | ⟨hi, rfl⟩
    ·have := hp' p hp; omega
    ·have := hp' _ (List.getElem_mem hi)
     have := h.hp _ (List.getElem_mem hi)
     simp; omega
 split
 ·unfold JA
  split
  ·exact h.up
  ·rename_i hi
   split
   ·exact h.up
   ·obtain ⟨i, hil, hie, _, hpa⟩ := idx_page hi
    refine ⟨by dsimp only; have := er (Q2 (YX c.sp c.nm) s.pages).toNat; omega, by simp; omega, fun p hp => by have := hp' p (qI hp); omega, fun p hp => ?_⟩
    rcases List.mem_append.1 hp with hp | hp
    ·have := hg' p hp; omega
    ·rw [List.mem_singleton.1 hp, hpa]
     have := hp' _ (List.getElem_mem hil); omega
 split
 ·unfold XS
  split
  ·exact h.up
  ·split
   ·exact h.up
   ·rename_i hg
    split
    ·exact h.up
    ·rcases JH (YX c.sp c.nm) s.gone with ⟨h1, _⟩ | ⟨i, h1, h2, h3⟩
     ·omega
     ·rw [h2, Int.toNat_natCast, Vk h1]
      exact h.ins h.np hp' (hg' _ (List.getElem_mem h1)) (by have := eg i; omega) (fun p hp => hg' p (qI hp))
 split
 ·unfold VB
  split
  ·exact h.up
  ·rename_i hi
   split
   ·exact h.up
   ·split
    ·exact h.up
    ·obtain ⟨i, hil, hie, _, hpa⟩ := idx_page hi
     dsimp only
     rw [hpa, hie, Int.toNat_natCast]
     have hlen : (s.pages.eraseIdx i).length = s.pages.length - 1 := List.length_eraseIdx_of_lt hil
     split
     ·refine h.ins (by rw [V9]; omega) (fun p hp => ?_) (by simp) (by omega) hg'
      rcases (WH _ _ _ _).1 hp with rfl | hp
      ·exact hp' s.pages[i] (List.getElem_mem hil)
      ·exact hp' p (qI hp)
     ·exact h.ins (by omega) (fun p hp => hp' p (qI hp)) (hp' s.pages[i] (List.getElem_mem hil)) (by omega) hg'
 split
 ·unfold Vw
  split
  ·exact h.up
  ·split
   ·exact h.up
   ·split
    ·exact h.up
    ·exact h.ins h.np hp' (by simp; omega) (by omega) hg'
 split
 ·unfold zd
  split
  ·exact h.up
  ·exact ⟨h.up.np, h.up.ng, h.up.hp, h.up.hg⟩
 split
 ·unfold Xm
  dsimp only
  split
  ·split
   ·exact ⟨h.up.np, h.up.ng, h.up.hp, h.up.hg⟩
   ·exact h.up
  ·split
   ·exact h.up
   ·split
    ·exact h.up
    ·exact ⟨h.up.np, h.up.ng, h.up.hp, h.up.hg⟩
 split
 ·unfold Jc
  split
  ·exact h.up
  ·exact ⟨h.up.np, h.up.ng, h.up.hp, h.up.hg⟩
 ·unfold WA
  dsimp only
  split
  ·exact h.up
  ·exact ⟨h.up.np, h.up.ng, h.up.hp, h.up.hg⟩
theorem Bnd.step {k : Nat} {s : ST} {c : CH} {sq : Int} (h : Bnd k s) (hc : c.hist.length ≤ 3) (h0 : (X4 s c sq).2 = 0) : Bnd (k + 1) (X4 s c sq).1 := by
 obtain ⟨_, _, _, _, h5⟩ := step_ok h0
 rw [h5, noted_same]
 have := h.kind (sq := sq) hc
 exact ⟨this.np, this.ng, this.hp, this.hg⟩
theorem Bnd.steps {sq : Int} : ∀ {l : List CH} {k : Nat} {s : ST}, Bnd k s → (∀ c ∈ l, c.hist.length ≤ 3) → (Ja sq s l).2 = 0 → Bnd (k + l.length) (Ja sq s l).1
 | [], k, s, h, _, _ => h
 | c :: l, k, s, h, hc, h0 => by
  obtain ⟨h1, h2, h3⟩ := steps_ok h0
  rw [h3, List.length_cons, show k + (l.length + 1) = k + 1 + l.length by omega]
  exact Bnd.steps (h.step (hc c (List.mem_cons_self ..)) h1) (fun x hx => hc x (List.mem_cons_of_mem _ hx)) h2
def namesT (c : CH) (sp : Int) (nm : Bs) : Bool := (decide (c.sp = sp ∧ c.nm = nm) && !decide (c.kind = 6) && !decide (c.kind = 10)) || (decide (c.kind = 4) && decide (c.tsp = sp ∧ c.tnm = nm))
theorem names_no {c : CH} {sp : Int} {nm : Bs} (h : namesT c sp nm = false) : (c.kind ≠ 6 → c.kind ≠ 10 → ¬ (c.sp = sp ∧ c.nm = nm)) ∧ (c.kind = 4 → ¬ (c.tsp = sp ∧ c.tnm = nm)) := by
 simp only [namesT, Bool.or_eq_false_iff, Bool.and_eq_false_iff, decide_eq_false_iff_not, Bool.not_eq_false', decide_eq_true_eq] at h
 refine ⟨fun h6 h10 he => ?_, fun h4 he => ?_⟩
 ·rcases h.1 with (h1 | h1) | h1
  ·exact h1 he
  ·exact h6 h1
  ·exact h10 h1
 ·rcases h.2 with h1 | h1
  ·exact h1 h4
  ·exact h1 he
theorem kind_other {s : ST} {c : CH} {sq : Int} {sp : Int} {nm : Bs} (hn : namesT c sp nm = false) : (Zm s c sq).1.pages.find? (YX sp nm) = s.pages.find? (YX sp nm) := by
 obtain ⟨n1, n2⟩ := names_no hn
 unfold Zm
 split
 ·rename_i hk
  have hne := n1 (by omega) (by omega)
  unfold K7
  split
  ·split
   ·rfl
   ·exact find_ins (at_ne' hne)
  ·rename_i hi
   split
   ·rfl
   ·obtain ⟨i, hil, hie, ha, _⟩ := idx_page hi
    rw [hie, Int.toNat_natCast]
    exact find_mod hil (at_ne ha hne) (at_ne (sp' := c.sp) (nm' := c.nm) (p := { s.pages[i] with hist := _ }) ha hne)
 split
 ·rename_i hk
  have hne := n1 (by omega) (by omega)
  unfold JA
  split
  ·rfl
  ·rename_i hi
   split
   ·rfl
   ·obtain ⟨i, hil, hie, ha, _⟩ := idx_page hi
    rw [hie, Int.toNat_natCast]
    exact find_erase hil (at_ne ha hne)
 split
 ·rename_i hk
  have hne := n1 (by omega) (by omega)
  unfold XS
  split
  ·rfl
  ·split
   ·rfl
   ·split
    ·rfl
    ·rename_i hg _
     rcases JH (YX c.sp c.nm) s.gone with ⟨h1, _⟩ | ⟨i, h1, h2, h3⟩
     ·omega
     ·rw [h2, Int.toNat_natCast, Vk h1]
      exact find_ins (at_ne h3 hne)
 split
 ·rename_i hk
  have hne := n1 (by omega) (by omega)
  have hne2 := n2 hk
  unfold VB
  split
  ·rfl
  ·rename_i hi
   split
   ·rfl
   ·split
    ·rfl
    ·obtain ⟨i, hil, hie, ha, _⟩ := idx_page hi
     dsimp only
     rw [hie, Int.toNat_natCast]
     have h1 : (Kv (je c.tsp c.tnm) (s.pages.eraseIdx i) ⟨c.tsp, c.tnm, (Vc s (i : Int)).hist⟩).find? (YX sp nm) = s.pages.find? (YX sp nm) := (find_ins (at_ne' hne2)).trans (find_erase hil (at_ne ha hne))
     split
     ·exact (find_ins (at_ne' hne)).trans h1
     ·exact h1
 split
 ·rename_i hk
  have hne := n1 (by omega) (by omega)
  unfold Vw
  split
  ·rfl
  ·split
   ·rfl
   ·split
    ·rfl
    ·exact find_ins (at_ne' hne)
 split
 ·unfold zd
  split <;> rfl
 split
 ·unfold Xm
  dsimp only
  split
  ·split <;> rfl
  ·split
   ·rfl
   ·split <;> rfl
 split
 ·unfold Jc
  split <;> rfl
 ·unfold WA
  dsimp only
  split <;> rfl
theorem ltB_irr (u : Bs) : U6 u u = false := decide_eq_false (by have := WS u u; omega)
theorem titles_valid : (genTitles.all fun t => Qw t.1 t.2) = true := by kernel_rfl
theorem titles_pol : (genTitles.all fun t => !xN t.1 t.2) = true := by decide
theorem ttl_valid {sp : Int} {nm : Bs} (h : (sp, nm) ∈ genTitles) : Qw sp nm = true := List.all_eq_true.1 titles_valid (sp, nm) h
theorem ttl_pol {sp : Int} {nm : Bs} (h : (sp, nm) ∈ genTitles) : xN sp nm = false := by simpa using List.all_eq_true.1 titles_pol (sp, nm) h
theorem pols_start : (xT.all fun p => decide (Q0 ST.nil [PW p] = (⟨1, 0, [⟨5, policyNm, [⟨1, [], [], p, 0, 1⟩]⟩], [], [], 0, [], []⟩, 0)) && decide ((p.length : Int) ≤ 8192)) = true := by kernel_rfl
theorem pol_start {p : Bs} (h : p ∈ xT) : Q0 ST.nil [PW p] = (⟨1, 0, [⟨5, policyNm, [⟨1, [], [], p, 0, 1⟩]⟩], [], [], 0, [], []⟩, 0) ∧ (p.length : Int) ≤ 8192 := by
 have := List.all_eq_true.1 pols_start p h
 rw [Bool.and_eq_true] at this
 exact ⟨of_decide_eq_true this.1, of_decide_eq_true this.2⟩
def HasPol (s : ST) : Prop := ∃ p ∈ s.pages, YX 5 policyNm p = true
theorem hasPol_iff {s : ST} : HasPol s ↔ (s.pages.find? (YX 5 policyNm)).isSome = true := by
 rw [List.find?_isSome]; exact Iff.rfl
theorem pol_titles {c : CH} (hf : Zx c = false) (hk : c.kind = 2 ∨ c.kind = 3 ∨ c.kind = 4 ∨ c.kind = 5) : ¬ (c.sp = 5 ∧ c.nm = policyNm) := by
 rcases hk with h | h | h | h
 ·exact Ue (.inl h) hf
 ·exact Ue (.inr (.inl h)) hf
 ·exact (Hw h hf).1
 ·exact Ue (.inr (.inr h)) hf
theorem HasPol.kind {s : ST} {c : CH} {sq : Int} (h : HasPol s) (hk : 1 ≤ c.kind ∧ c.kind ≤ 10) (hf : Zx c = false) : HasPol (Zm s c sq).1 := by
 by_cases hn : namesT c 5 policyNm = false
 ·rw [hasPol_iff, kind_other hn]; exact hasPol_iff.1 h
 obtain ⟨p, hp, ha⟩ := h
 have hkk : c.kind = 1 ∨ 7 ≤ c.kind := by
  rcases Classical.em (c.kind = 1 ∨ 7 ≤ c.kind) with h | h
  ·exact h
  ·exfalso
   apply hn
   by_cases h6 : c.kind = 6
   ·simp [namesT, h6]
   ·have h1 := pol_titles hf (by omega)
    have h2 : c.kind = 4 → ¬ (c.tsp = 5 ∧ c.tnm = policyNm) := fun h4 => (Hw h4 hf).2
    simp only [namesT, decide_eq_false h1, Bool.false_and, Bool.false_or]
    by_cases h4 : c.kind = 4
    ·rw [decide_eq_false (h2 h4), Bool.and_false]
    ·rw [decide_eq_false h4, Bool.false_and]
 rcases hkk with hk1 | hk7
 ·unfold Zm
  rw [if_pos hk1]
  unfold K7
  split
  ·split
   ·exact ⟨p, hp, ha⟩
   ·exact ⟨p, (WH _ _ _ _).2 (.inr hp), ha⟩
  ·split
   ·exact ⟨p, hp, ha⟩
   ·rename_i hi _
    obtain ⟨j, hj, rfl⟩ := List.getElem_of_mem hp
    refine ⟨(s.pages.modify (Q2 (YX c.sp c.nm) s.pages).toNat _)[j]'(by rw [List.length_modify]; exact hj), List.getElem_mem _, ?_⟩
    rw [List.getElem_modify]
    split
    ·exact ha
    ·exact ha
 ·have hpg : (Zm s c sq).1.pages = s.pages := by
   unfold Zm
   rw [if_neg (by omega), if_neg (by omega), if_neg (by omega), if_neg (by omega), if_neg (by omega), if_neg (by omega)]
   split
   ·unfold Xm
    dsimp only
    split
    ·split <;> rfl
    ·split
     ·rfl
     ·split <;> rfl
   split
   ·unfold Jc
    split <;> rfl
   ·unfold WA
    dsimp only
    split <;> rfl
  exact ⟨p, by rw [hpg]; exact hp, ha⟩
theorem HasPol.steps {sq : Int} : ∀ {l : List CH} {s : ST}, HasPol s → (Ja sq s l).2 = 0 → HasPol (Ja sq s l).1
 | [], s, h, _ => h
 | c :: l, s, h, h0 => by
  obtain ⟨h1, h2, h3⟩ := steps_ok h0
  rw [h3]
  refine HasPol.steps ?_ h2
  obtain ⟨a1, _, a3, _, h5⟩ := step_ok h1
  rw [h5]
  obtain ⟨p, hp, ha⟩ := h.kind (sq := sq) (jE a1) a3
  exact ⟨p, by rw [noted_pages]; exact hp, ha⟩
theorem HasPol.apply {l : List CH} {s : ST} (h : HasPol s) (h0 : (Q0 s l).2 = 0) : HasPol (Q0 s l).1 := by
 obtain ⟨_, _, _, h4, _, h6⟩ := apply_ok h0
 rw [h6]
 obtain ⟨p, hp, ha⟩ := h.steps h4
 exact ⟨p, hp, ha⟩
structure MadeS (n : Nat) (s : ST) : Prop where
 bnd : Bnd (2 * n) s
 seq : s.seq ≤ n
 pol : HasPol s
theorem WW.made {n : Nat} {s : ST} (h : WW n s) : MadeS n s := by
 induction h with
 | start p hp =>
  rw [(pol_start hp).1]
  refine ⟨⟨by simp, by simp, fun x hx => ?_, fun x hx => (by cases hx)⟩, by simp, ⟨⟨5, policyNm, [⟨1, [], [], p, 0, 1⟩]⟩, by simp, jL.2 ⟨rfl, rfl⟩⟩⟩
  have hx : x = ⟨5, policyNm, [⟨1, [], [], p, 0, 1⟩]⟩ := by simpa using hx
  rw [hx]; simp
 | step h l hl h1 h2 he ih =>
  obtain ⟨_, _, _, h4, _, h6⟩ := apply_ok he
  refine ⟨?_, ?_, ih.pol.apply he⟩
  ·rw [h6]
   have hb := ih.bnd.steps (sq := _) (fun c hc => (hl c hc).len) h4
   have : ∀ p : SP, ∀ k m : Nat, p.hist.length ≤ k + l.length + 3 → k + l.length ≤ m → p.hist.length ≤ m + 3 := fun p k m => by omega
   exact ⟨by have := hb.np; dsimp only; omega, by have := hb.ng; dsimp only; omega, fun p hp => by have := hb.hp p hp; omega, fun p hp => by have := hb.hg p hp; omega⟩
  ·have := ih.seq
   rw [h6]; dsimp only; omega
 | more h ih =>
  have hb := ih.bnd
  exact ⟨⟨by have := hb.np; omega, by have := hb.ng; omega, fun p hp => by have := hb.hp p hp; omega, fun p hp => by have := hb.hg p hp; omega⟩, by have := ih.seq; omega, ih.pol⟩
theorem del_valid {k : Int} {u : Bs} {sp : Int} {nm : Bs} (hk : k = 2 ∨ k = 3) (hv : Qw sp nm = true) (hu : Xg u = true) : QM ⟨k, u, [], sp, nm, 0, [], [], 0, []⟩ = 0 := by
 have h1 : KZ ⟨k, u, [], sp, nm, 0, [], [], 0, []⟩ = true := by rcases hk with rfl | rfl <;> simp [KZ, noteK, numK, jt]
 have h2 : Xf ⟨k, u, [], sp, nm, 0, [], [], 0, []⟩ = true := by rcases hk with rfl | rfl <;> simp [Xf, jt, hv, hu]
 unfold QM
 rw [if_neg (by rw [h1]; decide), if_neg (by rw [h2]; decide), if_neg (by simp), if_neg (by simp)]
theorem ins_erase {α : Type} {cf : α → α → Int} (h : vr cf) : ∀ {l : List α} (_ : l.Pairwise fun a b => cf a b < 0) {i : Nat} (hi : i < l.length), Kv (fun y => decide (cf y l[i] < 0)) (l.eraseIdx i) l[i] = l
 | x :: t, hl, 0, _ => by
  rw [List.eraseIdx_cons_zero]
  show Kv (fun y => decide (cf y x < 0)) t x = x :: t
  cases t with
  | nil => rfl
  | cons y t =>
   have h1 := (List.pairwise_cons.1 hl).1 y (List.mem_cons_self ..)
   have h2 := h.swap x y
   rw [Wr, if_neg (by simp; omega)]
 | x :: t, hl, i + 1, hi => by
  have hl' := List.pairwise_cons.1 hl
  have hi' : i < t.length := by simpa using hi
  have h1 := hl'.1 t[i] (List.getElem_mem hi')
  rw [List.eraseIdx_cons_succ]
  show Kv (fun y => decide (cf y t[i] < 0)) (x :: t.eraseIdx i) t[i] = x :: t
  rw [Wr, if_pos (decide_eq_true h1), ins_erase h hl'.2 hi']
theorem lastG_snoc {α : Type} {p : α → Bool} {x : α} (hx : p x = true) : ∀ l : List α, Jr p (l ++ [x]) = l.length
 | [] => by simp [Jr, hx]
 | y :: l => by
  rw [List.cons_append]
  simp only [Jr]
  rw [lastG_snoc hx l, if_pos (by omega)]; simp
theorem dw_self {α : Type} {q : α → Bool} {x : α} {b : List α} (hx : q x = false) : ∀ {a : List α}, (∀ y ∈ a, q y = true) → (a ++ x :: b).dropWhile q = x :: b ∧ (a ++ x :: b).takeWhile q = a
 | [], _ => ⟨by rw [List.nil_append, List.dropWhile_cons_of_neg (by rw [hx]; decide)], by rw [List.nil_append, List.takeWhile_cons_of_neg (by rw [hx]; decide)]⟩
 | y :: a, h => by
  have h1 := h y (List.mem_cons_self ..)
  obtain ⟨h2, h3⟩ := dw_self (b := b) hx fun z hz => h z (List.mem_cons_of_mem _ hz)
  rw [List.cons_append, List.dropWhile_cons_of_pos h1, List.takeWhile_cons_of_pos h1, h2, h3]; exact ⟨rfl, rfl⟩
theorem tw_all {l : List LU} {u : Bs} : ∀ x ∈ l.takeWhile (fun x => U6 x.user u), U6 x.user u = true := by
 induction l with
 | nil => intro x hx; cases hx
 | cons y t ih =>
  intro x hx
  rw [List.takeWhile_cons] at hx
  split at hx
  ·rename_i hy
   rcases List.mem_cons.1 hx with rfl | hx
   ·exact hy
   ·exact ih x hx
  ·cases hx
theorem noted_twice (s : ST) (u : Bs) (sq : Int) : ((Q9 s u sq).2 = 8 ∧ 60 ≤ (s.lasts.length : Int)) ∨ ((Q9 s u sq).2 = 0 ∧ ∀ s' : ST, s'.lasts = (Q9 s u sq).1.lasts → (Q9 s' u sq).2 = 0) := by
 unfold Q9
 by_cases hu : u = []
 ·subst hu
  exact .inr ⟨by simp, fun _ _ => by simp⟩
 simp only [if_neg hu]
 have hall := tw_all (l := s.lasts) (u := u)
 generalize s.lasts.takeWhile (fun x => U6 x.user u) = a at *
 generalize s.lasts.dropWhile (fun x => U6 x.user u) = b at *
 have key : ∀ (t : List LU) (s' : ST), s'.lasts = a ++ ⟨u, sq⟩ :: t → (s'.lasts.dropWhile fun x => U6 x.user u).head?.map (·.user) = some u := fun t s' h => by
  rw [h, (dw_self (q := fun x : LU => U6 x.user u) (x := ⟨u, sq⟩) (b := t) (ltB_irr u) hall).1]; rfl
 by_cases h1 : b.head?.map (·.user) = some u
 ·rw [if_pos h1]
  exact .inr ⟨rfl, fun s' hs => by rw [if_pos (key _ s' hs)]⟩
 rw [if_neg h1]
 by_cases h2 : 60 ≤ (s.lasts.length : Int)
 ·rw [if_pos h2]; exact .inl ⟨rfl, h2⟩
 rw [if_neg h2]
 exact .inr ⟨rfl, fun s' hs => by rw [if_pos (key _ s' hs)]⟩
theorem pgs_none {s : ST} {sp : Int} {nm : Bs} (h : s.pages.find? (YX sp nm) = none) : Q2 (YX sp nm) s.pages = -1 := by
 rcases JV (YX sp nm) s.pages with ⟨h1, _⟩ | ⟨i, hi, _, ha⟩
 ·exact h1
 ·exact absurd ha (List.find?_eq_none.1 h _ (List.getElem_mem hi))
theorem pgs_some {s : ST} {sp : Int} {nm : Bs} {p : SP} (hs : s.pages.Pairwise fun a b => cfP a b < 0) (h : s.pages.find? (YX sp nm) = some p) : ∃ i : Nat, ∃ hi : i < s.pages.length, Q2 (YX sp nm) s.pages = i ∧ s.pages[i] = p ∧ p.sp = sp ∧ p.nm = nm := by
 have h1 := qN.1 (List.find?_some h)
 have h2 := List.mem_of_find?_eq_some h
 have hn : ¬ Q2 (YX sp nm) s.pages < 0 := fun hi => by
  have := YP hi p h2
  rw [qN.2 h1] at this; cases this
 obtain ⟨i, hi, he, ha, _⟩ := idx_page hn
 have h3 := qN.1 ha
 exact ⟨i, hi, he, TB hs (List.getElem_mem hi) h2 (h3.1.trans h1.1.symm) (h3.2.trans h1.2.symm), h1.1, h1.2⟩
theorem erased_none {l : List SP} (hs : l.Pairwise fun a b => cfP a b < 0) {i : Nat} (hi : i < l.length) : ∀ y ∈ l.eraseIdx i, YX l[i].sp l[i].nm y = false := fun y hy => by
 refine decide_eq_false fun e => S7 hs hi hy ((Je _ _ _ _).2 e)
theorem idx_of_none {p : SP → Bool} {l : List SP} (h : ∀ y ∈ l, p y = false) : Q2 p l = -1 := by
 rcases JV p l with ⟨h1, _⟩ | ⟨i, hi, _, ha⟩
 ·exact h1
 ·rw [h _ (List.getElem_mem hi)] at ha; cases ha
abbrev delC (u : Bs) (sp : Int) (nm : Bs) : List CH := [⟨2, u, [], sp, nm, 0, [], [], 0, []⟩, ⟨3, u, [], sp, nm, 0, [], [], 0, []⟩]
theorem returns_law {s : ST} (hm : WW 15 s) {u : Bs} {sp : Int} {nm : Bs} (ht : (sp, nm) ∈ genTitles) (hu : Xg u = true) :
  (s.pages.find? (YX sp nm) = none → (Q0 s (delC u sp nm)).2 = 4) ∧
  (s.pages.find? (YX sp nm) ≠ none → ((Q0 s (delC u sp nm)).2 = 8 ∧ (s.lasts.length : Int) = 60) ∨
   ((Q0 s (delC u sp nm)).2 = 0 ∧ (Q0 s (delC u sp nm)).1.pages = s.pages ∧ (Q0 s (delC u sp nm)).1.gone = s.gone ∧ (Q0 s (delC u sp nm)).1.watches = s.watches ∧ (Q0 s (delC u sp nm)).1.clk = s.clk)) := by
 have hv := hm.valid
 have md := hm.made
 obtain ⟨_, _, vk⟩ := JM.1 hv
 have hsq := md.seq
 have htv := ttl_valid ht
 have htp := ttl_pol ht
 have e0 := Uo (l := delC u sp nm) hv (by simp)
 rw [e0, wC]
 have v2 := del_valid (k := 2) (.inl rfl) htv hu
 have v3 := del_valid (k := 3) (.inr rfl) htv hu
 have k2 : ∀ s sq, Zm s ⟨2, u, [], sp, nm, 0, [], [], 0, []⟩ sq = JA s ⟨2, u, [], sp, nm, 0, [], [], 0, []⟩ := fun _ _ => rfl
 have k3 : ∀ s sq, Zm s ⟨3, u, [], sp, nm, 0, [], [], 0, []⟩ sq = XS s ⟨3, u, [], sp, nm, 0, [], [], 0, []⟩ := fun _ _ => rfl
 have f2 : Zx ⟨2, u, [], sp, nm, 0, [], [], 0, []⟩ = false := htp
 have f3 : Zx ⟨3, u, [], sp, nm, 0, [], [], 0, []⟩ = false := htp
 constructor
 ·intro hn
  have h2 : JA s ⟨2, u, [], sp, nm, 0, [], [], 0, []⟩ = (s, 4) := by
   unfold JA
   rw [show Q2 (YX sp nm) s.pages = -1 from pgs_none hn, if_pos (by omega)]
  rw [step_bad v2 (by rw [k2, h2]; exact (by decide : (4 : Int) ≠ 0)), k2, h2]; rfl
 ·intro hn
  cases hf : s.pages.find? (YX sp nm) with
  | none => exact absurd hf hn
  | some p =>
   obtain ⟨i, hi, he, hpi, hp1, hp2⟩ := pgs_some vk.asc hf
   have hlen : (s.pages.eraseIdx i).length = s.pages.length - 1 := List.length_eraseIdx_of_lt hi
   have h2 : JA s ⟨2, u, [], sp, nm, 0, [], [], 0, []⟩ = ({ s with gone := s.gone ++ [p], pages := s.pages.eraseIdx i, props := Xa s.props sp nm }, 0) := by
    unfold JA
    have hpa : Vc s (i : Int) = p := by rw [Vc, Int.toNat_natCast, Vk hi, hpi]
    rw [show Q2 (YX (CH.mk 2 u [] sp nm 0 [] [] 0 []).sp (CH.mk 2 u [] sp nm 0 [] [] 0 []).nm) s.pages = i from he, if_neg (by omega), if_neg (by have := md.bnd.ng; omega), hpa, Int.toNat_natCast]
   generalize hS1 : ({ s with gone := s.gone ++ [p], pages := s.pages.eraseIdx i, props := Xa s.props sp nm } : ST) = S1 at *
   have hl1 : S1.lasts = s.lasts := by rw [← hS1]
   rcases noted_twice S1 u (s.seq + 1) with ⟨n1, n2⟩ | ⟨n1, n2⟩
   ·left
    have : X4 s ⟨2, u, [], sp, nm, 0, [], [], 0, []⟩ (s.seq + 1) = (ST.nil, 8) := by
     unfold X4
     rw [if_neg (by omega), k2, h2, if_neg (by exact fun h => h rfl), if_neg (by rw [f2]; decide)]
     dsimp only
     rw [if_pos (by rw [n1]; decide), n1]
    rw [this]
    refine ⟨rfl, ?_⟩
    rw [hl1] at n2
    have := vk.nl; omega
   ·right
    have st1 := step_is (s := s) (sq := s.seq + 1) v2 (by rw [k2, h2]) f2 (by rw [k2, h2]; exact n1)
    rw [k2, h2] at st1
    dsimp only at st1
    have hns := noted_same S1 u (s.seq + 1)
    generalize Q9 S1 u (s.seq + 1) = N1 at *
    have h3 : XS N1.1 ⟨3, u, [], sp, nm, 0, [], [], 0, []⟩ = ({ N1.1 with pages := s.pages, gone := s.gone }, 0) := by
     have e1 : N1.1.pages = s.pages.eraseIdx i := by rw [hns, ← hS1]
     have e2 : N1.1.gone = s.gone ++ [p] := by rw [hns, ← hS1]
     have hat : YX sp nm p = true := qN.2 ⟨hp1, hp2⟩
     have hno := erased_none vk.asc hi
     rw [hpi, hp1, hp2] at hno
     have hie := ins_erase L3 vk.asc hi
     rw [hpi] at hie
     have hbf : (fun y => decide (cfP y p < 0)) = je sp nm := by funext y; rw [je, cfP, hp1, hp2]
     rw [hbf] at hie
     unfold XS
     dsimp only
     rw [e1, e2, idx_of_none hno, if_neg (by omega), lastG_snoc hat, if_neg (by omega), if_neg (by have := md.bnd.np; omega), Int.toNat_natCast]
     rw [show (s.gone ++ [p]).getD s.gone.length default = p by simp [List.getD_eq_getElem?_getD], hie]
     rw [show (s.gone ++ [p]).eraseIdx s.gone.length = s.gone by rw [List.eraseIdx_append_of_length_le (Nat.le_refl _)]; simp]
    have n3 := n2 { N1.1 with pages := s.pages, gone := s.gone } rfl
    have st2 := step_is (s := N1.1) (sq := s.seq + 1) v3 (by rw [k3, h3]) f3 (by rw [k3, h3]; exact n3)
    rw [k3, h3] at st2
    dsimp only at st2
    have hns2 := noted_same { N1.1 with pages := s.pages, gone := s.gone } u (s.seq + 1)
    rw [st1, if_neg (by rw [n1]; exact fun h => h rfl), wC, st2]
    generalize Q9 { N1.1 with pages := s.pages, gone := s.gone } u (s.seq + 1) = N2 at *
    rw [if_neg (by rw [n3]; exact fun h => h rfl)]
    show (kw (s.seq + 1) (N2.1, 0)).2 = 0 ∧ (kw (s.seq + 1) (N2.1, 0)).1.pages = _ ∧ (kw (s.seq + 1) (N2.1, 0)).1.gone = _ ∧ (kw (s.seq + 1) (N2.1, 0)).1.watches = _ ∧ (kw (s.seq + 1) (N2.1, 0)).1.clk = _
    have hfin : kw (s.seq + 1) (N2.1, 0) = ({ N2.1 with seq := s.seq + 1 }, 0) := by
     unfold kw
     rw [if_neg (by exact fun h => h rfl), if_neg (by omega)]
    rw [hfin]
    refine ⟨rfl, ?_, ?_, ?_, ?_⟩
    ·show N2.1.pages = s.pages
     rw [hns2]
    ·show N2.1.gone = s.gone
     rw [hns2]
    ·show N2.1.watches = s.watches
     rw [hns2]; show N1.1.watches = s.watches; rw [hns, ← hS1]
    ·show N2.1.clk = s.clk
     rw [hns2]; show N1.1.clk = s.clk; rw [hns, ← hS1]
theorem zn {s : ST} {l : List CH} {t : STM} (h : t.pl = (Q0 s l).1) : Vs t := by
 by_cases h0 : (Q0 s l).2 = 0
 ·exact (XY (s := t) (by rw [h]; exact (J0 h0).1)).1
 ·rw [qO h0] at h
  exact (XY (s := t) (by rw [h]; exact vS)).1
end Go.X
namespace Go.Proofs
open Go Go.X Tryz
set_option maxRecDepth 100000
set_option maxHeartbeats 4000000
end Go.Proofs
namespace Go.X
open Go Go.Lib
def retM (k : Int) (u : Bs) (sp : Int) (nm : Bs) : CHM := ⟨k, u, [], sp, nm, 0, [], [], 0, none, 0, []⟩
theorem mk_two {m : Im} {a : Option Addr} {c d : CHM} (h : Z8 m 0 10 a 2 (c.cells ++ d.cells)) (hc : Z8 m 0 6 c.ha c.hist.length (Zb c.hist)) (hd : Z8 m 0 6 d.ha d.hist.length (Zb d.hist)) : NE m a [c, d] :=
 ⟨by rw [show Wi [c, d] = c.cells ++ d.cells by simp [Wi]]; exact h, fun x hx => by
  rcases List.mem_cons.1 hx with rfl | hx
  ·exact hc
  ·rw [List.mem_singleton.1 hx]; exact hd⟩
theorem find_plR (l : List PGM) (sp : Int) (nm : Bs) : (l.map PGM.pl).find? (YX sp nm) = (l.find? (X7 sp nm)).map PGM.pl := by
 rw [List.find?_map]; rfl
theorem find_noneR {l : List PGM} {sp : Int} {nm : Bs} : (l.map PGM.pl).find? (YX sp nm) = none ↔ (l.find? (X7 sp nm)).isSome = false := by
 rw [find_plR]; cases l.find? (X7 sp nm) <;> simp
theorem userT_name {u : Bs} (h : QV u = true) : Xg u = true := by simp [Xg, h]
theorem userT_nil : Xg [] = true := rfl
end Go.X
namespace Go.Proofs
open Go Go.X Tryz
set_option maxRecDepth 100000
set_option maxHeartbeats 4000000
theorem stateReturns_ok (e : Nat) (a : Option Addr) (c : Nat) (l : List Int) (hl : l.length ≤ maxLen) (at_ : Int) (user : Bs) :
  FnS prog 8 [.c (.sl a l.length c), .c (.i .i64 at_), .c (.s user)] [] [Zj e a l, gM, XH] (Is tt) := by
 have cg := KY e a c l hl
 have q8 := ZG at_ 8 (by omega) (by omega)
 have r8 := QR at_ (n := 8) (by omega)
 generalize ZD at_ 8 = x8 at *
 obtain ⟨n8, rfl⟩ : ∃ n : Nat, x8 = n := ⟨x8.toNat, by omega⟩
 have htt := wz (k := (n8 : Int)) (by omega) (by omega)
 have htm := YS (l := genTitles) (d := (0, [])) (k := (n8 : Int)) (by omega) (by simp only [genTitles, List.length_cons, List.length_nil]; omega)
 generalize genTitles.getD (n8 : Int).toNat (0, []) = T at *
 obtain ⟨tsp, tnm⟩ := T
 dsimp only at htt
 have cnm := Vh user
 refine FJ 0 func8 ntmps8 (fun G => ?_)
 repeat' first | refine QF (c := .seq (.seq (.region 4 _ _) _) _) ?_ | refine Wk ?_ | refine Qa.mk (fun h => ?_) (fun h => ?_) | refine Qd.mk (fun ad => ?_) | (refine Qc.mk [] _ [_] _ cg QW (fun _ h => by simp only [QI, Qs, List.cons_append, List.nil_append, and_true] at h ⊢; simp only [h, and_self]) (fun v L' D' hq => ?_); obtain ⟨u, rfl, hu, rfl, rfl⟩ := hq) | refine Qc.is q8 ?_ QX | (refine Qc.mk [] _ [] _ zx QW QX (fun v L' D' hq => ?_); obtain ⟨ta, tc, rfl, rfl, rfl⟩ := hq) | refine Qr.a 45 2 (Xe genTitles) (.inr fun m h => h.1) ?_ | refine Qi.mk 45 _ (Xe genTitles) [.i .i64 tsp, .s tnm] (.inr fun m h => h.1) (by omega) (by omega) (by first | omega | decide) (by exact htt) ?_
 refine ⟨?_⟩
 rename_i adu
 refine Kj (x := .seq (.region 4 _ _) _) (α := Bs) (fun us => [(6, .c (.b false)), (7, .c (.p 0 adu 0)), (8, .c (.p 1 ad 0)), (9, .c (.s us))]) (fun _ => [.box 1 ad 45 [.i .i64 tsp, .s tnm], .box 0 adu 27 u.cells]) (fun _ => [QG u, gM, XH]) 2 (fun us => Xg us = true) ?_ (fun us hus0 => ?_)
 ·repeat' first | refine Wk ?_ | refine Qa.mk (fun h => ?_) (fun h => ?_) | refine Qd.mk (fun ad => ?_) | refine Qc.isB cnm (fun h => ?_) (fun h => ?_) QX | refine Qq.mk user (userT_name (by assumption)) Qh.a (Qb.ofSub (by repeat (first | exact List.Sublist.slnil | refine List.Sublist.cons_cons _ ?_ | refine List.Sublist.cons _ ?_)) (fun _ h => by simp only [QI, Qs, List.cons_append, List.nil_append, and_true] at h ⊢; simp only [h, and_self])) | refine Qq.mk [] userT_nil Qh.a (Qb.ofSub (by repeat (first | exact List.Sublist.slnil | refine List.Sublist.cons_cons _ ?_ | refine List.Sublist.cons _ ?_)) (fun _ h => by simp only [QI, Qs, List.cons_append, List.nil_append, and_true] at h ⊢; simp only [h, and_self]))
 obtain ⟨hus, _, _⟩ := XY hu.valid
 have rl := returns_law hu htm hus0
 have cp := qG u tsp tnm hus.big
 obtain ⟨p, hp1, hp2, hp3, hp4⟩ := Sq u hus tsp tnm
 rw [hp1] at cp
 have ca := fun a k => jy u a k [retM 2 us tsp tnm, retM 3 us tsp tnm] hus.big hus.ph (by simp [big]) (fun c hc => by
  rcases List.mem_cons.1 hc with rfl | hc
  ·exact Nat.zero_le _
  ·rw [List.mem_singleton.1 hc]; exact Nat.zero_le _)
 change ∀ a k, FnS _ _ [_, .c (.sl a 2 k)] [] [_, _, _, _] (Kz (Q0 u.pl (delC us tsp tnm))) at ca
 have hts : ∀ t : STM, t.pl = (Q0 u.pl (delC us tsp tnm)).1 → Vs t := fun t h => zn h
 have hfn : u.pl.pages.find? (YX tsp tnm) = none ↔ (u.pages.find? (X7 tsp tnm)).isSome = false := find_noneR
 rw [Ne, hfn] at rl
 generalize hop : (u.pages.find? (X7 tsp tnm)).isSome = op at *
 generalize Q0 u.pl (delC us tsp tnm) = R at *
 obtain ⟨S1, E⟩ := R
 dsimp only at rl hts
 clear cg q8 cnm htm hfn hp1
 cases op with
 | false =>
  obtain rfl := rl.1 rfl
  clear rl
  repeat' first | refine Qa.yes rfl ?_ | refine Wk ?_ | refine Qa.mk (fun h => ?_) (fun h => ?_) | refine Qd.mk (fun ad => ?_) | refine Qc.is cp ?_ (fun _ h => by simp only [QI, Qs, List.cons_append, List.nil_append, and_true] at h ⊢; simp only [h, and_self]) | (refine Qc.mkE [] _ [_, _, _, _] _ _ (ca _ _) Qb.toFact (fun _ h => ⟨h.2.1, mk_two h.1 (Z8.nil (e := 0)) (Z8.nil (e := 0)), h.2.2.1, h.2.2.2.1, trivial⟩) (fun v L' D' hq => ?_); obtain ⟨t, rfl, rfl, rfl, ht⟩ := hq) | refine Qc.is Xo ?_ (fun _ h => by simp only [QI, Qs, List.cons_append, List.nil_append, and_true] at h ⊢; simp only [h, and_self]) | refine Qe.is rfl
 | true =>
  rcases rl.2 (by decide) with ⟨rfl, h60⟩ | ⟨rfl, e1, e2, e3, e4⟩
  ·clear rl
   change (u.lasts.length : Int) = 60 at h60
   repeat' first | refine Qa.yes rfl ?_ | refine Wk ?_ | refine Qa.mk (fun h => ?_) (fun h => ?_) | refine Qd.mk (fun ad => ?_) | refine Qc.is cp ?_ (fun _ h => by simp only [QI, Qs, List.cons_append, List.nil_append, and_true] at h ⊢; simp only [h, and_self]) | (refine Qc.mkE [] _ [_, _, _, _] _ _ (ca _ _) Qb.toFact (fun _ h => ⟨h.2.1, mk_two h.1 (Z8.nil (e := 0)) (Z8.nil (e := 0)), h.2.2.1, h.2.2.2.1, trivial⟩) (fun v L' D' hq => ?_); obtain ⟨t, rfl, rfl, rfl, ht⟩ := hq) | refine Qc.is Xo ?_ (fun _ h => by simp only [QI, Qs, List.cons_append, List.nil_append, and_true] at h ⊢; simp only [h, and_self]) | refine Qe.is rfl
  ·clear rl
   repeat' first | refine QF (c := .seq (.region 12 _ _) _) ?_ | refine Wk ?_ | refine Qa.mk (fun h => ?_) (fun h => ?_) | refine Qd.mk (fun ad => ?_) | refine Qc.is cp ?_ (fun _ h => by simp only [QI, Qs, List.cons_append, List.nil_append, and_true] at h ⊢; simp only [h, and_self]) | (refine Qc.mkE [] _ [_, _, _, _] _ _ (ca _ _) Qb.toFact (fun _ h => ⟨h.2.1, mk_two h.1 (Z8.nil (e := 0)) (Z8.nil (e := 0)), h.2.2.1, h.2.2.2.1, trivial⟩) (fun v L' D' hq => ?_); obtain ⟨t, rfl, rfl, rfl, ht⟩ := hq)
   refine ⟨?_⟩
   have hts := hts t ht
   have htp : t.pages.map PGM.pl = u.pages.map PGM.pl := (congrArg ST.pages ht).trans e1
   have htg : t.gone.map PGM.pl = u.gone.map PGM.pl := (congrArg ST.gone ht).trans e2
   have htw : t.watches = u.watches := (congrArg ST.watches ht).trans e3
   have htc : t.clk = u.clk := (congrArg ST.clk ht).trans e4
   have hfm : (t.pages.find? (X7 tsp tnm)).map PGM.pl = (u.pages.find? (X7 tsp tnm)).map PGM.pl := by rw [← find_plR, ← find_plR, htp]
   have hqs : (t.pages.find? (X7 tsp tnm)).isSome = true := by
    have := congrArg Option.isSome hfm
    rwa [Option.isSome_map, Option.isSome_map, hop] at this
   have cq := xG t tsp tnm hts.big.pages hts.ph
   change FnS _ _ _ _ _ (fun v L D => ∃ q : PGM, v = .t2 (.agg q.cells) (.c (.b (t.pages.find? (X7 tsp tnm)).isSome)) ∧ L = [] ∧ D = [_] ∧ q.pl = (((t.pages.find? (X7 tsp tnm)).map PGM.pl).getD ⟨0, [], []⟩)) at cq
   rw [hqs, hfm, ← hp3] at cq
   have csp := fun (q : PGM) (h : q.pl = p.pl) => jZ p q h.symm (by omega)
   have s1 := xw t.pa u.pa t.pc u.pc t.pages u.pages htp (by have := hts.pages; omega) (fun p hp => by have := hts.ph p hp; omega)
   have s2 := xw t.ga u.ga t.gc u.gc t.gone u.gone htg (by have := hts.gone; omega) (fun p hp => by have := hts.gh p hp; omega)
   have sw : FnS prog 39 [.c (.sl t.wa t.watches.length t.wc), .c (.sl u.wa u.watches.length u.wc)] [] [Qf 0 3 t.wa t.watches.length (ZM t.watches), Qf 0 3 u.wa u.watches.length (ZM u.watches)] (Is tt) := by
    rw [htw]
    exact PJ 0 0 t.wa u.wa t.wc u.wc u.watches (by have := hus.watches; omega)
   clear ca htp htg hfm hqs e1 e2 e3 e4 ht hp3
   repeat' first | refine Qa.yes rfl ?_ | refine Wk ?_ | refine Qa.mk (fun h => ?_) (fun h => ?_) | refine Qd.mk (fun ad => ?_) | (refine Qc.mk [] _ [QG t] _ cq QW (fun _ h => by simp only [QI, Qs, List.cons_append, List.nil_append, and_true] at h ⊢; simp only [h, and_self]) (fun v L' D' hq => ?_); obtain ⟨q, rfl, rfl, rfl, hq⟩ := hq) | refine Qc.is (csp q hq) ?_ (fun m h => ⟨hp4 m h.2.2.2.1, h.1, trivial⟩) | refine Qc.is s1 ?_ (fun m h => ⟨h.2.1.pages, h.2.2.2.1.pages, trivial⟩) | refine Qc.is s2 ?_ (fun m h => ⟨h.2.1.gone, h.2.2.2.1.gone, trivial⟩) | refine Qc.is sw ?_ (fun m h => ⟨h.2.1.watches, h.2.2.2.1.watches, trivial⟩) | refine Qc.is Xo ?_ (fun _ h => by simp only [QI, Qs, List.cons_append, List.nil_append, and_true] at h ⊢; simp only [h, and_self]) | refine Qe.is rfl
end Go.Proofs
