/- This text walks through the statement StatePolicy of chapter 27. -/
import Derived.Test.YtcddpbpbebkdmaaGreatDoorK10
import Derived.Test.YtcddpbpbebkdmaaGreatDoorK13
import Derived.Test.YtcddpbpbebkdmaaGreatDoorK16
import Derived.Test.YtcddpbpbebkdmaaGreatDoorK17
set_option linter.all false
namespace Go.X
open Go Go.Lib
def RV.z (r : RV) : RV := { r with seq := 0 }
def SP.z (p : SP) : SP := ⟨p.sp, p.nm, p.hist.map RV.z⟩
def LU.z (x : LU) : LU := ⟨x.user, 0⟩
def ST.z (s : ST) : ST := { s with seq := 0, pages := s.pages.map SP.z, gone := s.gone.map SP.z, lasts := s.lasts.map LU.z }
theorem nn {a b : Int} (h : a = b) : ¬ a ≠ b := fun h' => h' h
theorem step_ok {s : ST} {c : CH} {sq : Int} (h : (X4 s c sq).2 = 0) : QM c = 0 ∧ (Zm s c sq).2 = 0 ∧ Zx c = false ∧ (Q9 (Zm s c sq).1 c.user sq).2 = 0 ∧ X4 s c sq = Q9 (Zm s c sq).1 c.user sq := by
 unfold X4 at h ⊢
 by_cases h1 : QM c = 0
 ·rw [if_neg (nn h1)] at h ⊢
  by_cases h2 : (Zm s c sq).2 = 0
  ·rw [if_neg (nn h2)] at h ⊢
   by_cases h3 : Zx c = true
   ·rw [if_pos h3] at h; cases h
   ·rw [if_neg h3] at h ⊢
    by_cases h4 : (Q9 (Zm s c sq).1 c.user sq).2 = 0
    ·rw [if_neg (nn h4)]
     exact ⟨h1, h2, by simpa using h3, h4, rfl⟩
    ·rw [if_pos h4] at h; exact absurd h h4
  ·rw [if_pos h2] at h; exact absurd h h2
 ·rw [if_pos h1] at h; exact absurd h h1
theorem step_is {s : ST} {c : CH} {sq : Int} (h1 : QM c = 0) (h2 : (Zm s c sq).2 = 0) (h3 : Zx c = false) (h4 : (Q9 (Zm s c sq).1 c.user sq).2 = 0) : X4 s c sq = Q9 (Zm s c sq).1 c.user sq := by
 unfold X4
 rw [if_neg (nn h1), if_neg (nn h2), if_neg (by rw [h3]; decide), if_neg (nn h4)]
theorem noted_same (s : ST) (u : Bs) (sq : Int) : (Q9 s u sq).1 = { s with lasts := (Q9 s u sq).1.lasts } := by
 unfold Q9
 split
 ·rfl
 ·dsimp only
  split
  ·rfl
  ·split <;> rfl
theorem noted_pages (s : ST) (u : Bs) (sq : Int) : (Q9 s u sq).1.pages = s.pages := by rw [noted_same]
theorem apply_ok {s : ST} {l : List CH} (h : (Q0 s l).2 = 0) : Zl s = true ∧ 1 ≤ l.length ∧ l.length ≤ 16 ∧ (Ja (s.seq + 1) s l).2 = 0 ∧ s.seq + 1 ≤ 1073741824 ∧ Q0 s l = ({ (Ja (s.seq + 1) s l).1 with seq := s.seq + 1 }, 0) := by
 unfold Q0 at h ⊢
 by_cases h1 : Zl s = false
 ·rw [if_pos h1] at h; cases h
 rw [if_neg h1] at h ⊢
 by_cases h2 : (l.length : Int) < 1 ∨ 16 < (l.length : Int)
 ·rw [if_pos h2] at h; cases h
 rw [if_neg h2] at h ⊢
 by_cases h3 : (Ja (s.seq + 1) s l).2 = 0
 ·rw [if_neg (nn h3)] at h ⊢
  by_cases h4 : 1073741824 < s.seq + 1
  ·rw [if_pos h4] at h; cases h
  rw [if_neg h4]
  exact ⟨by simpa using h1, by omega, by omega, h3, by omega, rfl⟩
 ·rw [if_pos h3] at h; exact absurd h h3
theorem steps_ok {s : ST} {c : CH} {l : List CH} {sq : Int} (h : (Ja sq s (c :: l)).2 = 0) : (X4 s c sq).2 = 0 ∧ (Ja sq (X4 s c sq).1 l).2 = 0 ∧ Ja sq s (c :: l) = Ja sq (X4 s c sq).1 l := by
 rw [wC] at h ⊢
 by_cases h1 : (X4 s c sq).2 = 0
 ·rw [if_neg (nn h1)] at h ⊢
  exact ⟨h1, h, rfl⟩
 ·rw [if_pos h1] at h; exact absurd h h1
theorem mem_modify {α : Type} {l : List α} {i : Nat} {f : α → α} {x : α} (h : x ∈ l.modify i f) : x ∈ l ∨ ∃ hi : i < l.length, x = f l[i] := by
 obtain ⟨j, hj, rfl⟩ := List.getElem_of_mem h
 rw [List.length_modify] at hj
 rw [List.getElem_modify]
 split
 ·rename_i e; subst e; exact .inr ⟨hj, rfl⟩
 ·exact .inl (List.getElem_mem _)
theorem idx_page {s : ST} {sp : Int} {nm : Bs} (h : ¬ Q2 (YX sp nm) s.pages < 0) : ∃ i : Nat, ∃ hi : i < s.pages.length, Q2 (YX sp nm) s.pages = i ∧ YX sp nm s.pages[i] = true ∧ Vc s (Q2 (YX sp nm) s.pages) = s.pages[i] := by
 obtain ⟨i, hi, he, ha⟩ := yl h
 exact ⟨i, hi, he, ha, by rw [Vc, he, Int.toNat_natCast, Vk hi]⟩
theorem find_ins {lt p : SP → Bool} {l : List SP} {x : SP} (h : p x = false) : (Kv lt l x).find? p = l.find? p := by
 unfold Kv
 rw [List.find?_append, List.find?_cons_of_neg (by rw [h]; decide), ← List.find?_append, List.takeWhile_append_dropWhile]
theorem find_erase {p : SP → Bool} : ∀ {l : List SP} {i : Nat} (h : i < l.length), p l[i] = false → (l.eraseIdx i).find? p = l.find? p
 | x :: l, 0, _, hp => by
  rw [List.eraseIdx_cons_zero, List.find?_cons_of_neg (by rw [show p x = false from hp]; decide)]
 | x :: l, i + 1, h, hp => by
  rw [List.eraseIdx_cons_succ]
  cases hx : p x with
  | true => rw [List.find?_cons_of_pos hx, List.find?_cons_of_pos hx]
  | false =>
   rw [List.find?_cons_of_neg (by rw [hx]; decide), List.find?_cons_of_neg (by rw [hx]; decide)]
   exact find_erase (by simpa using h) (by simpa using hp)
theorem find_mod {p : SP → Bool} {f : SP → SP} : ∀ {l : List SP} {i : Nat} (h : i < l.length), p l[i] = false → p (f l[i]) = false → (l.modify i f).find? p = l.find? p
 | x :: l, 0, _, hp, hf => by
  have h1 : p x = false := hp
  have h2 : p (f x) = false := hf
  rw [List.modify_zero_cons]
  simp [List.find?_cons, h1, h2]
 | x :: l, i + 1, h, hp, hf => by
  rw [List.modify_succ_cons]
  cases hx : p x with
  | true => rw [List.find?_cons_of_pos hx, List.find?_cons_of_pos hx]
  | false =>
   rw [List.find?_cons_of_neg (by rw [hx]; decide), List.find?_cons_of_neg (by rw [hx]; decide)]
   exact find_mod (by simpa using h) (by simpa using hp) (by simpa using hf)
theorem at_ne {sp sp' : Int} {nm nm' : Bs} {p : SP} (h : YX sp' nm' p = true) (hn : ¬ (sp' = sp ∧ nm' = nm)) : YX sp nm p = false := by
 have h1 := qN.1 h
 refine decide_eq_false fun e => hn ⟨?_, ?_⟩
 ·rw [← h1.1, e.1]
 ·rw [← h1.2, e.2]
theorem at_ne' {sp sp' : Int} {nm nm' : Bs} {h : List RV} (hn : ¬ (sp' = sp ∧ nm' = nm)) : YX sp nm ⟨sp', nm', h⟩ = false := decide_eq_false hn
structure Bnd (k : Nat) (s : ST) : Prop where
 np : s.pages.length ≤ k
 ng : s.gone.length ≤ k
 hp : ∀ p ∈ s.pages, p.hist.length ≤ k + 3
 hg : ∀ p ∈ s.gone, p.hist.length ≤ k + 3
theorem Bnd.up {k : Nat} {s : ST} (h : Bnd k s) : Bnd (k + 1) s := ⟨by have := h.np; omega, by have := h.ng; omega, fun p hp => by have := h.hp p hp; omega, fun p hp => by have := h.hg p hp; omega⟩
theorem Bnd.ins {k : Nat} {s : ST} {lt : SP → Bool} {l : List SP} {x : SP} {g : List SP} {pr : List PP} (h : Bnd k s) (hl : l.length ≤ k) (hm : ∀ p ∈ l, p.hist.length ≤ k + 4) (hx : x.hist.length ≤ k + 4) (hg : g.length ≤ k + 1) (hgm : ∀ p ∈ g, p.hist.length ≤ k + 4) : Bnd (k + 1) { s with pages := Kv lt l x, gone := g, props := pr } :=
 ⟨by dsimp only; rw [V9]; omega, hg, fun p hp => by
  rcases (WH _ _ _ _).1 hp with rfl | hp
  ·omega
  ·have := hm p hp; omega, fun p hp => by have := hgm p hp; omega⟩
theorem Bnd.kind {k : Nat} {s : ST} {c : CH} {sq : Int} (h : Bnd k s) (hc : c.hist.length ≤ 3) : Bnd (k + 1) (Zm s c sq).1 := by
 have hp' := fun (p : SP) (hp : p ∈ s.pages) => show p.hist.length ≤ k + 4 by have := h.hp p hp; omega
 have hg' := fun (p : SP) (hp : p ∈ s.gone) => show p.hist.length ≤ k + 4 by have := h.hg p hp; omega
 have hng := h.ng
 have hnp := h.np
 have er : ∀ i, (s.pages.eraseIdx i).length ≤ s.pages.length := fun i => (List.eraseIdx_sublist _ _).length_le
 have eg : ∀ i, (s.gone.eraseIdx i).length ≤ s.gone.length := fun i => (List.eraseIdx_sublist _ _).length_le
 unfold Zm
 split
 ·unfold K7
  split
  ·split
   ·exact h.up
   ·exact h.ins h.np hp' (by simp) (by omega) hg'
  ·split
   ·exact h.up
   ·refine ⟨by dsimp only; rw [List.length_modify]; omega, by dsimp only; omega, fun p hp => ?_, fun p hp => by have := hg' p hp; omega⟩
    rcases mem_modify hp with hp | ⟨hi, rfl⟩
    ·have := hp' p hp; omega
    ·have := hp' _ (List.getElem_mem hi)
     have := h.hp _ (List.getElem_mem hi)
     simp; omega
 split
 ·unfold JA
  split
  ·exact h.up
  ·rename_i hi
   split
   ·exact h.up
   ·obtain ⟨i, hil, hie, _, hpa⟩ := idx_page hi
    refine ⟨by dsimp only; have := er (Q2 (YX c.sp c.nm) s.pages).toNat; omega, by simp; omega, fun p hp => by have := hp' p (qI hp); omega, fun p hp => ?_⟩
    rcases List.mem_append.1 hp with hp | hp
    ·have := hg' p hp; omega
    ·rw [List.mem_singleton.1 hp, hpa]
     have := hp' _ (List.getElem_mem hil); omega
 split
 ·unfold XS
  split
  ·exact h.up
  ·split
   ·exact h.up
   ·rename_i hg
    split
    ·exact h.up
    ·rcases JH (YX c.sp c.nm) s.gone with ⟨h1, _⟩ | ⟨i, h1, h2, h3⟩
     ·omega
     ·rw [h2, Int.toNat_natCast, Vk h1]
      exact h.ins h.np hp' (hg' _ (List.getElem_mem h1)) (by have := eg i; omega) (fun p hp => hg' p (qI hp))
 split
 ·unfold VB
  split
  ·exact h.up
  ·rename_i hi
   split
   ·exact h.up
   ·split
    ·exact h.up
    ·obtain ⟨i, hil, hie, _, hpa⟩ := idx_page hi
     dsimp only
     rw [hpa, hie, Int.toNat_natCast]
     have hlen : (s.pages.eraseIdx i).length = s.pages.length - 1 := List.length_eraseIdx_of_lt hil
     split
     ·refine h.ins (by rw [V9]; omega) (fun p hp => ?_) (by simp) (by omega) hg'
      rcases (WH _ _ _ _).1 hp with rfl | hp
      ·exact hp' s.pages[i] (List.getElem_mem hil)
      ·exact hp' p (qI hp)
     ·exact h.ins (by omega) (fun p hp => hp' p (qI hp)) (hp' s.pages[i] (List.getElem_mem hil)) (by omega) hg'
 split
 ·unfold Vw
  split
  ·exact h.up
  ·split
   ·exact h.up
   ·split
    ·exact h.up
    ·exact h.ins h.np hp' (by simp; omega) (by omega) hg'
 split
 ·unfold zd
  split
  ·exact h.up
  ·exact ⟨h.up.np, h.up.ng, h.up.hp, h.up.hg⟩
 split
 ·unfold Xm
  dsimp only
  split
  ·split
   ·exact ⟨h.up.np, h.up.ng, h.up.hp, h.up.hg⟩
   ·exact h.up
  ·split
   ·exact h.up
   ·split
    ·exact h.up
    ·exact ⟨h.up.np, h.up.ng, h.up.hp, h.up.hg⟩
 split
 ·unfold Jc
  split
  ·exact h.up
  ·exact ⟨h.up.np, h.up.ng, h.up.hp, h.up.hg⟩
 ·unfold WA
  dsimp only
  split
  ·exact h.up
  ·exact ⟨h.up.np, h.up.ng, h.up.hp, h.up.hg⟩
theorem Bnd.step {k : Nat} {s : ST} {c : CH} {sq : Int} (h : Bnd k s) (hc : c.hist.length ≤ 3) (h0 : (X4 s c sq).2 = 0) : Bnd (k + 1) (X4 s c sq).1 := by
 obtain ⟨_, _, _, _, h5⟩ := step_ok h0
 rw [h5, noted_same]
 have := h.kind (sq := sq) hc
 exact ⟨this.np, this.ng, this.hp, this.hg⟩
theorem Bnd.steps {sq : Int} : ∀ {l : List CH} {k : Nat} {s : ST}, Bnd k s → (∀ c ∈ l, c.hist.length ≤ 3) → (Ja sq s l).2 = 0 → Bnd (k + l.length) (Ja sq s l).1
 | [], k, s, h, _, _ => h
 | c :: l, k, s, h, hc, h0 => by
  obtain ⟨h1, h2, h3⟩ := steps_ok h0
  rw [h3, List.length_cons, show k + (l.length + 1) = k + 1 + l.length by omega]
  exact Bnd.steps (h.step (hc c (List.mem_cons_self ..)) h1) (fun x hx => hc x (List.mem_cons_of_mem _ hx)) h2
def namesT (c : CH) (sp : Int) (nm : Bs) : Bool := (decide (c.sp = sp ∧ c.nm = nm) && !decide (c.kind = 6) && !decide (c.kind = 10)) || (decide (c.kind = 4) && decide (c.tsp = sp ∧ c.tnm = nm))
theorem names_no {c : CH} {sp : Int} {nm : Bs} (h : namesT c sp nm = false) : (c.kind ≠ 6 → c.kind ≠ 10 → ¬ (c.sp = sp ∧ c.nm = nm)) ∧ (c.kind = 4 → ¬ (c.tsp = sp ∧ c.tnm = nm)) := by
 simp only [namesT, Bool.or_eq_false_iff, Bool.and_eq_false_iff, decide_eq_false_iff_not, Bool.not_eq_false', decide_eq_true_eq] at h
 refine ⟨fun h6 h10 he => ?_, fun h4 he => ?_⟩
 ·rcases h.1 with (h1 | h1) | h1
  ·exact h1 he
  ·exact h6 h1
  ·exact h10 h1
 ·rcases h.2 with h1 | h1
  ·exact h1 h4
  ·exact h1 he
theorem kind_other {s : ST} {c : CH} {sq : Int} {sp : Int} {nm : Bs} (hn : namesT c sp nm = false) : (Zm s c sq).1.pages.find? (YX sp nm) = s.pages.find? (YX sp nm) := by
 obtain ⟨n1, n2⟩ := names_no hn
 unfold Zm
 split
 ·rename_i hk
  have hne := n1 (by omega) (by omega)
  unfold K7
  split
  ·split
   ·rfl
   ·exact find_ins (at_ne' hne)
  ·rename_i hi
   split
   ·rfl
   ·obtain ⟨i, hil, hie, ha, _⟩ := idx_page hi
    rw [hie, Int.toNat_natCast]
    exact find_mod hil (at_ne ha hne) (at_ne (sp' := c.sp) (nm' := c.nm) (p := { s.pages[i] with hist := _ }) ha hne)
 split
 ·rename_i hk
  have hne := n1 (by omega) (by omega)
  unfold JA
  split
  ·rfl
  ·rename_i hi
   split
   ·rfl
   ·obtain ⟨i, hil, hie, ha, _⟩ := idx_page hi
    rw [hie, Int.toNat_natCast]
    exact find_erase hil (at_ne ha hne)
 split
 ·rename_i hk
  have hne := n1 (by omega) (by omega)
  unfold XS
  split
  ·rfl
  ·split
   ·rfl
   ·split
    ·rfl
    ·rename_i hg _
     rcases JH (YX c.sp c.nm) s.gone with ⟨h1, _⟩ | ⟨i, h1, h2, h3⟩
     ·omega
     ·rw [h2, Int.toNat_natCast, Vk h1]
      exact find_ins (at_ne h3 hne)
 split
 ·rename_i hk
  have hne := n1 (by omega) (by omega)
  have hne2 := n2 hk
  unfold VB
  split
  ·rfl
  ·rename_i hi
   split
   ·rfl
   ·split
    ·rfl
    ·obtain ⟨i, hil, hie, ha, _⟩ := idx_page hi
     dsimp only
     rw [hie, Int.toNat_natCast]
     have h1 : (Kv (je c.tsp c.tnm) (s.pages.eraseIdx i) ⟨c.tsp, c.tnm, (Vc s (i : Int)).hist⟩).find? (YX sp nm) = s.pages.find? (YX sp nm) := (find_ins (at_ne' hne2)).trans (find_erase hil (at_ne ha hne))
     split
     ·exact (find_ins (at_ne' hne)).trans h1
     ·exact h1
 split
 ·rename_i hk
  have hne := n1 (by omega) (by omega)
  unfold Vw
  split
  ·rfl
  ·split
   ·rfl
   ·split
    ·rfl
    ·exact find_ins (at_ne' hne)
 split
 ·unfold zd
  split <;> rfl
 split
 ·unfold Xm
  dsimp only
  split
  ·split <;> rfl
  ·split
   ·rfl
   ·split <;> rfl
 split
 ·unfold Jc
  split <;> rfl
 ·unfold WA
  dsimp only
  split <;> rfl
theorem pols_start : (xT.all fun p => decide (Q0 ST.nil [PW p] = (⟨1, 0, [⟨5, policyNm, [⟨1, [], [], p, 0, 1⟩]⟩], [], [], 0, [], []⟩, 0)) && decide ((p.length : Int) ≤ 8192)) = true := by kernel_rfl
theorem pol_start {p : Bs} (h : p ∈ xT) : Q0 ST.nil [PW p] = (⟨1, 0, [⟨5, policyNm, [⟨1, [], [], p, 0, 1⟩]⟩], [], [], 0, [], []⟩, 0) ∧ (p.length : Int) ≤ 8192 := by
 have := List.all_eq_true.1 pols_start p h
 rw [Bool.and_eq_true] at this
 exact ⟨of_decide_eq_true this.1, of_decide_eq_true this.2⟩
theorem pols_parseC : (xT.all fun p => decide ((Zi p).2.2 = 0)) = true := by kernel_rfl
theorem pol_parse {p : Bs} (h : p ∈ xT) : (Zi p).2.2 = 0 := of_decide_eq_true (List.all_eq_true.1 pols_parseC p h)
def HasPol (s : ST) : Prop := ∃ p ∈ s.pages, YX 5 policyNm p = true
theorem hasPol_iff {s : ST} : HasPol s ↔ (s.pages.find? (YX 5 policyNm)).isSome = true := by
 rw [List.find?_isSome]; exact Iff.rfl
theorem pol_titles {c : CH} (hf : Zx c = false) (hk : c.kind = 2 ∨ c.kind = 3 ∨ c.kind = 4 ∨ c.kind = 5) : ¬ (c.sp = 5 ∧ c.nm = policyNm) := by
 rcases hk with h | h | h | h
 ·exact Ue (.inl h) hf
 ·exact Ue (.inr (.inl h)) hf
 ·exact (Hw h hf).1
 ·exact Ue (.inr (.inr h)) hf
theorem HasPol.kind {s : ST} {c : CH} {sq : Int} (h : HasPol s) (hk : 1 ≤ c.kind ∧ c.kind ≤ 10) (hf : Zx c = false) : HasPol (Zm s c sq).1 := by
 by_cases hn : namesT c 5 policyNm = false
 ·rw [hasPol_iff, kind_other hn]; exact hasPol_iff.1 h
 obtain ⟨p, hp, ha⟩ := h
 have hkk : c.kind = 1 ∨ 7 ≤ c.kind := by
  rcases Classical.em (c.kind = 1 ∨ 7 ≤ c.kind) with h | h
  ·exact h
  ·exfalso
   apply hn
   by_cases h6 : c.kind = 6
   ·simp [namesT, h6]
   ·have h1 := pol_titles hf (by omega)
    have h2 : c.kind = 4 → ¬ (c.tsp = 5 ∧ c.tnm = policyNm) := fun h4 => (Hw h4 hf).2
    simp only [namesT, decide_eq_false h1, Bool.false_and, Bool.false_or]
    by_cases h4 : c.kind = 4
    ·rw [decide_eq_false (h2 h4), Bool.and_false]
    ·rw [decide_eq_false h4, Bool.false_and]
 rcases hkk with hk1 | hk7
 ·unfold Zm
  rw [if_pos hk1]
  unfold K7
  split
  ·split
   ·exact ⟨p, hp, ha⟩
   ·exact ⟨p, (WH _ _ _ _).2 (.inr hp), ha⟩
  ·split
   ·exact ⟨p, hp, ha⟩
   ·rename_i hi _
    obtain ⟨j, hj, rfl⟩ := List.getElem_of_mem hp
    refine ⟨(s.pages.modify (Q2 (YX c.sp c.nm) s.pages).toNat _)[j]'(by rw [List.length_modify]; exact hj), List.getElem_mem _, ?_⟩
    rw [List.getElem_modify]
    split
    ·exact ha
    ·exact ha
 ·have hpg : (Zm s c sq).1.pages = s.pages := by
   unfold Zm
   rw [if_neg (by omega), if_neg (by omega), if_neg (by omega), if_neg (by omega), if_neg (by omega), if_neg (by omega)]
   split
   ·unfold Xm
    dsimp only
    split
    ·split <;> rfl
    ·split
     ·rfl
     ·split <;> rfl
   split
   ·unfold Jc
    split <;> rfl
   ·unfold WA
    dsimp only
    split <;> rfl
  exact ⟨p, by rw [hpg]; exact hp, ha⟩
theorem HasPol.steps {sq : Int} : ∀ {l : List CH} {s : ST}, HasPol s → (Ja sq s l).2 = 0 → HasPol (Ja sq s l).1
 | [], s, h, _ => h
 | c :: l, s, h, h0 => by
  obtain ⟨h1, h2, h3⟩ := steps_ok h0
  rw [h3]
  refine HasPol.steps ?_ h2
  obtain ⟨a1, _, a3, _, h5⟩ := step_ok h1
  rw [h5]
  obtain ⟨p, hp, ha⟩ := h.kind (sq := sq) (jE a1) a3
  exact ⟨p, by rw [noted_pages]; exact hp, ha⟩
theorem HasPol.apply {l : List CH} {s : ST} (h : HasPol s) (h0 : (Q0 s l).2 = 0) : HasPol (Q0 s l).1 := by
 obtain ⟨_, _, _, h4, _, h6⟩ := apply_ok h0
 rw [h6]
 obtain ⟨p, hp, ha⟩ := h.steps h4
 exact ⟨p, hp, ha⟩
structure MadeS (n : Nat) (s : ST) : Prop where
 bnd : Bnd (2 * n) s
 seq : s.seq ≤ n
 pol : HasPol s
theorem WW.made {n : Nat} {s : ST} (h : WW n s) : MadeS n s := by
 induction h with
 | start p hp =>
  rw [(pol_start hp).1]
  refine ⟨⟨by simp, by simp, fun x hx => ?_, fun x hx => (by cases hx)⟩, by simp, ⟨⟨5, policyNm, [⟨1, [], [], p, 0, 1⟩]⟩, by simp, jL.2 ⟨rfl, rfl⟩⟩⟩
  have hx : x = ⟨5, policyNm, [⟨1, [], [], p, 0, 1⟩]⟩ := by simpa using hx
  rw [hx]; simp
 | step h l hl h1 h2 he ih =>
  obtain ⟨_, _, _, h4, _, h6⟩ := apply_ok he
  refine ⟨?_, ?_, ih.pol.apply he⟩
  ·rw [h6]
   have hb := ih.bnd.steps (sq := _) (fun c hc => (hl c hc).len) h4
   have : ∀ p : SP, ∀ k m : Nat, p.hist.length ≤ k + l.length + 3 → k + l.length ≤ m → p.hist.length ≤ m + 3 := fun p k m => by omega
   exact ⟨by have := hb.np; dsimp only; omega, by have := hb.ng; dsimp only; omega, fun p hp => by have := hb.hp p hp; omega, fun p hp => by have := hb.hg p hp; omega⟩
  ·have := ih.seq
   rw [h6]; dsimp only; omega
 | more h ih =>
  have hb := ih.bnd
  exact ⟨⟨by have := hb.np; omega, by have := hb.ng; omega, fun p hp => by have := hb.hp p hp; omega, fun p hp => by have := hb.hg p hp; omega⟩, by have := ih.seq; omega, ih.pol⟩
theorem steps_one (sq : Int) (s : ST) (c : CH) : (Ja sq s [c]).2 = (X4 s c sq).2 := by
 rw [wC]
 split
 ·rfl
 ·rename_i h; exact (Classical.not_not.1 h).symm
theorem apply_one {s : ST} {c : CH} (hv : Zl s = true) (hs : s.seq + 1 ≤ 1073741824) : (Q0 s [c]).2 = (X4 s c (s.seq + 1)).2 ∧ ((X4 s c (s.seq + 1)).2 = 0 → (Q0 s [c]).1 = { (X4 s c (s.seq + 1)).1 with seq := s.seq + 1 }) := by
 rw [Uo hv (by simp), wC]
 by_cases h : (X4 s c (s.seq + 1)).2 = 0
 ·rw [if_neg (by omega)]
  have : Ja (s.seq + 1) (X4 s c (s.seq + 1)).1 [] = ((X4 s c (s.seq + 1)).1, 0) := rfl
  rw [this, kw, if_neg (by exact fun h => h rfl), if_neg (by omega)]
  exact ⟨h.symm, fun _ => rfl⟩
 ·rw [if_pos h, kw, if_pos h]
  exact ⟨rfl, fun h' => absurd h' h⟩
theorem policy_law {s : ST} {l : List CH} (h : HasPol s) (h0 : (Q0 s l).2 = 0) : ∃ p, (Q0 s l).1.pages.find? (YX 5 policyNm) = some p ∧ (Zi (qv p).text).2.2 = 0 := by
 have h1 := hasPol_iff.1 (h.apply h0)
 obtain ⟨_, _, vk⟩ := JM.1 (J0 h0).1
 cases hf : (Q0 s l).1.pages.find? (YX 5 policyNm) with
 | none => rw [hf] at h1; cases h1
 | some p => exact ⟨p, rfl, vk.rul p (List.mem_of_find?_eq_some hf) (List.find?_some hf)⟩
theorem policy_no {s : ST} {c : CH} (hf : Zx c = true) : (Q0 s [c]).2 ≠ 0 := fun h => by
 obtain ⟨_, _, _, h4, _, _⟩ := apply_ok h
 rw [steps_one] at h4
 rw [(step_ok h4).2.2.1] at hf; cases hf
theorem polC_valid {p : Bs} (h : (p.length : Int) ≤ 8192) : QM (PW p) = 0 := by
 have h1 : KZ (PW p) = true := rfl
 have h2 : Xf (PW p) = true := by
  have : Qw 5 policyNm = true := by kernel_rfl
  simp [Xf, PW, jt, Xg, this]
 unfold QM
 rw [if_neg (by rw [h1]; decide), if_neg (by rw [h2]; decide), if_neg (by simp [PW]; omega), if_neg (by simp [PW])]
theorem policy_put {s : ST} {p : Bs} (hm : WW 15 s) (hp : p ∈ xT) : (Q0 s [PW p]).2 = 0 := by
 have hv := hm.valid
 have md := hm.made
 have hsq := md.seq
 rw [(apply_one (c := PW p) hv (by omega)).1]
 have hpol := md.pol
 have hk : (Zm s (PW p) (s.seq + 1)).2 = 0 := by
  unfold Zm
  rw [if_pos (show (PW p).kind = 1 from rfl)]
  unfold K7
  split
  ·rename_i hi
   obtain ⟨q, hq, ha⟩ := hpol
   have := YP hi q hq
   rw [show YX (PW p).sp (PW p).nm q = true from ha] at this; cases this
  ·rename_i hi
   obtain ⟨i, hil, hie, ha, hpa⟩ := idx_page hi
   rw [if_neg]
   rw [hpa]
   have := md.bnd.hp _ (List.getElem_mem hil)
   omega
 have hf : Zx (PW p) = false := by
  show (xN 5 policyNm && !decide ((Zi p).2.2 = 0)) = false
  rw [decide_eq_true (pol_parse hp)]; simp
 have hn : Q9 (Zm s (PW p) (s.seq + 1)).1 (PW p).user (s.seq + 1) = ((Zm s (PW p) (s.seq + 1)).1, 0) := rfl
 rw [step_is (polC_valid (pol_start hp).2) hk hf (by rw [hn]), hn]
theorem zn {s : ST} {l : List CH} {t : STM} (h : t.pl = (Q0 s l).1) : Vs t := by
 by_cases h0 : (Q0 s l).2 = 0
 ·exact (XY (s := t) (by rw [h]; exact (J0 h0).1)).1
 ·rw [qO h0] at h
  exact (XY (s := t) (by rw [h]; exact vS)).1
end Go.X
namespace Go.Proofs
open Go Go.X Tryz
set_option maxRecDepth 100000
set_option maxHeartbeats 4000000
end Go.Proofs
namespace Go.X
open Go Go.Lib
def polChs (text p : Bs) : List CHM := [⟨1, [], [], 5, policyNm, 0, [], text, 0, none, 0, []⟩, ⟨2, [], [], 5, policyNm, 0, [], [], 0, none, 0, []⟩, ⟨4, [], [], 5, policyNm, 0, [79, 108, 100], [], 1, none, 0, []⟩, ⟨4, [], [], 0, [65], 5, policyNm, [], 0, none, 0, []⟩,
 ⟨1, [], [], 5, policyNm, 0, [], [97, 108, 108, 111, 119, 32, 114, 101, 97, 100, 32, 97, 108, 108], 0, none, 0, []⟩, ⟨1, [], [], 5, policyNm, 0, [], p, 0, none, 0, []⟩]
theorem pol_bad : (Zi [97, 108, 108, 111, 119, 32, 114, 101, 97, 100, 32, 97, 108, 108]).2.2 ≠ 0 := by decide +kernel
theorem polChs_at (text p : Bs) (r : Nat) (h : r < 6) : ∃ c : CHM, (polChs text p)[r]? = some c ∧ ((Wi (polChs text p)).drop (r * 10)).take 10 = c.cells ∧ c.ha = none ∧ c.hist = [] ∧ (1 ≤ r → r ≤ 4 → Zx c.pl = true) ∧ (r = 5 → c.pl = PW p) := by
 have hp : xN 5 policyNm = true := by decide
 match r, h with
 | 0, _ => exact ⟨_, rfl, rfl, rfl, rfl, fun h => absurd h (by decide), fun h => absurd h (by decide)⟩
 | 1, _ => exact ⟨_, rfl, rfl, rfl, rfl, fun _ _ => hp, fun h => absurd h (by decide)⟩
 | 2, _ => exact ⟨_, rfl, rfl, rfl, rfl, fun _ _ => by show (xN 5 policyNm || xN 0 [79, 108, 100]) = true; rw [hp]; rfl, fun h => absurd h (by decide)⟩
 | 3, _ => exact ⟨_, rfl, rfl, rfl, rfl, fun _ _ => by show (xN 0 [65] || xN 5 policyNm) = true; rw [hp, Bool.or_true], fun h => absurd h (by decide)⟩
 | 4, _ => exact ⟨_, rfl, rfl, rfl, rfl, fun _ _ => by show (xN 5 policyNm && !decide ((Zi [97, 108, 108, 111, 119, 32, 114, 101, 97, 100, 32, 97, 108, 108]).2.2 = 0)) = true; rw [hp, decide_eq_false pol_bad]; rfl, fun h => absurd h (by decide)⟩
 | 5, _ => exact ⟨_, rfl, rfl, rfl, rfl, fun _ h => absurd h (by decide), fun _ => rfl⟩
theorem mk_oneP {m : Im} {a : Option Addr} {c : CHM} (h : Z8 m 0 10 a 1 c.cells) (hc : c.hist = []) : NE m a [c] :=
 ⟨by rw [show Wi [c] = c.cells by simp [Wi]]; exact h, fun x hx => by rw [List.mem_singleton.1 hx, hc]; exact Z8.nil (e := 0)⟩
theorem find_plP (l : List PGM) (sp : Int) (nm : Bs) : (l.map PGM.pl).find? (YX sp nm) = (l.find? (X7 sp nm)).map PGM.pl := by
 rw [List.find?_map]; rfl
end Go.X
namespace Go.Proofs
open Go Go.X Tryz
set_option maxRecDepth 100000
set_option maxHeartbeats 4000000
theorem statePolicy_ok (e e2 : Nat) (a a2 : Option Addr) (c c2 : Nat) (l m : List Int) (hl : l.length ≤ maxLen) (hm : m.length ≤ maxLen) (text : Bs) (how : Int) :
  FnS prog 11 [.c (.sl a l.length c), .c (.sl a2 m.length c2), .c (.s text), .c (.i .i64 how)] [] [Zj e a l, Zj e2 a2 m, gM, XH] (Is tt) := by
 have cg := KY e a c l hl
 have cf := qL e2 a2 c2 m hm
 have cpo := fun ad => Gc e2 a2 c2 ad m (gs0 m) (qi m) hm
 have q6 := ZG how 6 (by omega) (by omega)
 have r6 := QR how (n := 6) (by omega)
 generalize ZD how 6 = x6 at *
 obtain ⟨r, rfl⟩ : ∃ n : Nat, x6 = n := ⟨x6.toNat, by omega⟩
 have htt := wz (k := 0) (by omega) (by omega)
 by_cases hln : (text.length : Int) ≤ 500
 case neg =>
  refine FJ 0 func11 ntmps11 (fun G => ?_)
  repeat' first | refine Wk ?_ | refine Qa.mk (fun h => ?_) (fun h => ?_) | refine Qd.mk (fun ad => ?_) | refine Qc.is Xo ?_ (fun _ h => by simp only [QI, Qs, List.cons_append, List.nil_append, and_true] at h ⊢; simp only [h, and_self]) | refine Qe.is rfl
 refine FJ 0 func11 ntmps11 (fun G => ?_)
 repeat' first | refine QF (c := .seq (.region 5 _ _) _) ?_ | refine Wk ?_ | refine Qa.mk (fun h => ?_) (fun h => ?_) | refine Qd.mk (fun ad => ?_) | (refine Qc.mk [] _ [_] _ cg QW (fun _ h => by simp only [QI, Qs, List.cons_append, List.nil_append, and_true] at h ⊢; simp only [h, and_self]) (fun v L' D' hq => ?_); obtain ⟨u, rfl, hu, rfl, rfl⟩ := hq) | refine Qc.is wW ?_ QX
 refine ⟨?_⟩
 rename_i adu
 have htt : ((Xe genTitles).drop ((0 : Int).toNat * 2 + 0)).take 2 = [.i .i64 0, .s [65]] := rfl
 refine Kj (x := .region 5 _ _) (α := Bs × CHM × Nat) (fun z => [(3, .c (.i .i64 how)), (8, .c (.b false)), (9, .c (.p 0 adu 0)), (10, .c (.p 1 ad 0)), (11, .c (.p 2 z.2.2 0))]) (fun z => [.box 2 z.2.2 64 z.2.1.cells, .box 1 ad 45 [.i .i64 5, .s policyNm], .box 0 adu 27 u.cells]) (fun _ => [QG u, gM, XH]) 3
  (fun z => z.1 ∈ xT ∧ z.2.1.ha = none ∧ z.2.1.hist = [] ∧ (1 ≤ r → r ≤ 4 → Zx z.2.1.pl = true) ∧ (r = 5 → z.2.1.pl = PW z.1)) ?_ (fun z hz => ?_)
 ·revert ad
  intro adp
  repeat' first | refine Wk ?_ | refine Qa.mk (fun h => ?_) (fun h => ?_) | refine Qd.mk (fun ad => ?_) | refine Ke (id := 5) tyOK (by kernel_rfl) [0, 0, 3, 0, 8, 0, 0, 96, 0, 256, 768, 0, 3840, 0, 8192, 0, 0, 65792, 196864, 491776, 1048575, 0, 2556160, 8388607, 0, 33554431] (.node [0, 1, 2, 3, 4, 5, 6, 7, 11, 13, 14, 15, 16, 21] 8 (.node3 [] 9 (.node3 [] 10 (.node [12] 17 (.node [] 18 (.leaf [19, 20, 22, 23, 24, 25]) 24 (.leaf [18, 19, 20, 22, 23, 25])) 24 (.leaf [17, 18, 19, 20, 22, 23, 25])) 17 (.node3 [] 10 (.node [12] 18 (.leaf [19, 20, 22, 23, 24, 25]) 24 (.leaf [18, 19, 20, 22, 23, 25])) 18 (.node [19, 22] 10 (.leaf [12, 20, 23, 24, 25]) 24 (.leaf [10, 12, 20, 23, 25])) 24 (.node [] 10 (.leaf [12, 18, 19, 20, 22, 23, 25]) 18 (.leaf [19, 22, 10, 12, 20, 23, 25]))) 24 (.node [] 10 (.leaf [12, 17, 18, 19, 20, 22, 23, 25]) 17 (.node [] 10 (.leaf [12, 18, 19, 20, 22, 23, 25]) 18 (.leaf [19, 22, 10, 12, 20, 23, 25])))) 17 (.node3 [] 9 (.node3 [] 10 (.node [12] 18 (.leaf [19, 20, 22, 23, 24, 25]) 24 (.leaf [18, 19, 20, 22, 23, 25])) 18 (.node [19, 22] 10 (.leaf [12, 20, 23, 24, 25]) 24 (.leaf [10, 12, 20, 23, 25])) 24 (.node [] 10 (.leaf [12, 18, 19, 20, 22, 23, 25]) 18 (.leaf [19, 22, 10, 12, 20, 23, 25]))) 18 (.node [19, 22] 9 (.node [] 10 (.leaf [12, 20, 23, 24, 25]) 24 (.leaf [10, 12, 20, 23, 25])) 24 (.leaf [9, 10, 12, 20, 23, 25])) 24 (.node [] 9 (.node [] 10 (.leaf [12, 18, 19, 20, 22, 23, 25]) 18 (.leaf [19, 22, 10, 12, 20, 23, 25])) 18 (.leaf [19, 22, 9, 10, 12, 20, 23, 25]))) 24 (.node [] 9 (.node [] 10 (.leaf [12, 17, 18, 19, 20, 22, 23, 25]) 17 (.node [] 10 (.leaf [12, 18, 19, 20, 22, 23, 25]) 18 (.leaf [19, 22, 10, 12, 20, 23, 25]))) 17 (.node [] 9 (.node [] 10 (.leaf [12, 18, 19, 20, 22, 23, 25]) 18 (.leaf [19, 22, 10, 12, 20, 23, 25])) 18 (.leaf [19, 22, 9, 10, 12, 20, 23, 25])))) 24 (.node [8] 9 (.node [] 10 (.leaf [12, 17, 18, 19, 20, 22, 23, 25]) 17 (.node [] 10 (.leaf [12, 18, 19, 20, 22, 23, 25]) 18 (.leaf [19, 22, 10, 12, 20, 23, 25]))) 17 (.node [] 9 (.node [] 10 (.leaf [12, 18, 19, 20, 22, 23, 25]) 18 (.leaf [19, 22, 10, 12, 20, 23, 25])) 18 (.leaf [19, 22, 9, 10, 12, 20, 23, 25])))) [8, 9, 10, 17, 18, 24, 25] [10, 35] 25 true (by kernel_rfl) ?_ | refine X3.mk ?_ ?_ | refine Qt.mk Qb.a ?_ | (refine Qc.mk [] _ [] _ zx QW QX (fun v L' D' hq => ?_); obtain ⟨ta, tc, rfl, rfl, rfl⟩ := hq) | refine Qr.a 45 2 (Xe genTitles) (.inr fun m h => h.1) ?_ | refine Qi.mk 45 _ (Xe genTitles) [.i .i64 0, .s [65]] (.inr fun m h => h.1) (by omega) (by omega) (by first | omega | decide) (by exact htt) ?_ | (refine Qc.mk [] _ [_] _ cf QW (fun _ h => by simp only [QI, Qs, List.cons_append, List.nil_append, and_true] at h ⊢; simp only [h, and_self]) (fun v L' D' hp => ?_); obtain ⟨ad0, rfl, rfl, rfl⟩ := hp) | (refine Qc.mk [_] _ [_] _ (cpo _) QW (fun _ h => by simp only [QI, Qs, List.cons_append, List.nil_append, and_true] at h ⊢; simp only [h, and_self]) (fun v L' D' hp => ?_); obtain ⟨p, g2, rfl, hp, hg2, rfl, rfl⟩ := hp) | (refine Qc.mk [_] _ [_] _ (cpo _) (List.Perm.swap _ _ _) (fun _ h => by simp only [QI, Qs, List.cons_append, List.nil_append, and_true] at h ⊢; simp only [h, and_self]) (fun v L' D' hp => ?_); obtain ⟨p, g2, rfl, hp, hg2, rfl, rfl⟩ := hp) | refine Qc.is q6 ?_ QX | refine Qx.mk [] _ q6 QX ?_ | (obtain ⟨ch, hc1, hc2, hc3, hc4, hc5, hc6⟩ := polChs_at text p r (by omega); refine kR.mk ch.cells (by omega) (by omega) (by exact hc2) rfl ?_) | refine Qq.mk (p, ch, ad) ⟨hp, hc3, hc4, hc5, hc6⟩ Qh.a (Qb.ofSub (by repeat (first | exact List.Sublist.slnil | refine List.Sublist.cons_cons _ ?_ | refine List.Sublist.cons _ ?_)) (fun _ h => by simp only [QI, Qs, List.cons_append, List.nil_append, and_true] at h ⊢; simp only [h, and_self]))
 obtain ⟨p, ch, ad3⟩ := z
 dsimp only at hz ⊢
 obtain ⟨hp, hc3, hc4, hc5, hc6⟩ := hz
 obtain ⟨hus, _, _⟩ := XY hu.valid
 have hE1 : 1 ≤ r → r ≤ 4 → (Q0 u.pl [ch.pl]).2 ≠ 0 := fun h1 h2 => policy_no (hc5 h1 h2)
 have hE5 : r = 5 → (Q0 u.pl [ch.pl]).2 = 0 := fun h => by rw [hc6 h]; exact policy_put hu hp
 have hE0 := fun h => policy_law (l := [ch.pl]) hu.made.pol h
 have hEv := fun h => J0 (s := u.pl) (l := [ch.pl]) h
 have hEn := fun h => qO (s := u.pl) (l := [ch.pl]) h
 have hs0 := fun (t : STM) => zn (s := u.pl) (l := [ch.pl]) (t := t)
 have ca := fun a k => jy u a k [ch] hus.big hus.ph (by simp [big]) (fun c hc => by rw [List.mem_singleton.1 hc, hc4]; exact Nat.zero_le _)
 change ∀ a k, FnS _ _ [_, .c (.sl a 1 k)] [] [_, _, _, _] (Kz (Q0 u.pl [ch.pl])) at ca
 generalize Q0 u.pl [ch.pl] = R at *
 obtain ⟨S1, E⟩ := R
 dsimp only at hE1 hE5 hE0 hEv hEn hs0
 clear cg cf cpo hc5 hc6 hp hln htt
 repeat' first | refine QF (c := .seq (.region 7 _ _) _) ?_ | refine Wk ?_ | refine Qa.mk (fun h => ?_) (fun h => ?_) | refine Qd.mk (fun ad => ?_) | (refine Qc.mkE [] _ [_, _, _, _] _ _ (ca _ _) Qb.toFact (fun _ h => ⟨h.2.1, mk_oneP h.1 hc4, h.2.2.1, h.2.2.2.1, trivial⟩) (fun v L' D' hq => ?_); obtain ⟨t, rfl, rfl, rfl, ht⟩ := hq)
 refine ⟨?_⟩
 have hts := hs0 t ht
 clear ca hs0
 by_cases h0 : E = 0
 ·have hr : r = 0 ∨ r = 5 := by
   by_cases h : 1 ≤ r ∧ r ≤ 4
   ·exact absurd h0 (hE1 h.1 h.2)
   ·omega
  obtain ⟨pp, hpf, hpp⟩ := hE0 h0
  obtain ⟨_, _, vk⟩ := X.JM.1 (hEv h0).1
  have htx := HJ (X.Q4.1 (vk.pg pp (List.mem_of_find?_eq_some hpf))).2
  have hfm : (t.pages.find? (X7 5 policyNm)).map PGM.pl = some pp := by rw [← find_plP]; exact (congrArg (fun s : ST => s.pages.find? (YX 5 policyNm)) ht).trans hpf
  have cq := xG t 5 policyNm hts.big.pages hts.ph
  change FnS _ _ _ _ _ (fun v L D => ∃ q : PGM, v = .t2 (.agg q.cells) (.c (.b (t.pages.find? (X7 5 policyNm)).isSome)) ∧ L = [] ∧ D = [_] ∧ q.pl = (((t.pages.find? (X7 5 policyNm)).map PGM.pl).getD ⟨0, [], []⟩)) at cq
  rw [← Option.isSome_map (f := PGM.pl), hfm] at cq
  change FnS _ _ _ _ _ (fun v L D => ∃ q : PGM, v = .t2 (.agg q.cells) tt ∧ L = [] ∧ D = [_] ∧ q.pl = pp) at cq
  have hph : pp.hist.length ≤ 1000 := by
   have := (X.Xx.1 (X.Q4.1 (vk.pg pp (List.mem_of_find?_eq_some hpf))).2).2.1
   omega
  obtain ⟨psp, pnm, ph⟩ := pp
  dsimp only at hph
  have cu := fun (qa : Option Addr) (qc : Nat) => Vo 73 ⟨psp, pnm, qa, qc, ph⟩ (show ph.length ≤ 140737488355328 by omega)
  change ∀ qa qc, FnS _ _ [.agg [.i .i64 psp, .s pnm, .sl qa ph.length qc]] [] [Qf _ 6 qa ph.length (Zb ph)] (Is (.agg (J1 ph).cells)) at cu
  change ((J1 ph).text.length : Int) ≤ 8192 at htx
  change (Zi (J1 ph).text).2.2 = 0 at hpp
  have cr := zf (J1 ph).text (by omega)
  generalize J1 ph = cm at *
  unfold RV.cells at cu
  generalize Zi cm.text = pr at *
  obtain ⟨p3, ln, pe⟩ := pr
  dsimp only at hpp
  subst hpp h0
  clear hE0 hE1 hE5 hEv hEn hfm hpf vk ht
  rcases hr with rfl | rfl
  all_goals
   repeat' first | refine Qa.yes rfl ?_ | refine Wk ?_ | refine Qa.mk (fun h => ?_) (fun h => ?_) | refine Qd.mk (fun ad => ?_) | (refine Qc.mk [] _ [_] _ cq QW (fun _ h => by simp only [QI, Qs, List.cons_append, List.nil_append, and_true] at h ⊢; simp only [h, and_self]) (fun v L' D' hq => ?_); obtain ⟨q, rfl, rfl, rfl, hq⟩ := hq; obtain ⟨qsp, qnm, qa, qc, qh⟩ := q; simp only [PGM.pl, SP.mk.injEq] at hq; obtain ⟨rfl, rfl, rfl⟩ := hq) | refine Qc.is (cu _ _) ?_ (fun _ h => by simp only [QI, Qs, List.cons_append, List.nil_append, and_true] at h ⊢; simp only [h, and_self]) | (refine Qc.mk [] _ [] _ cr QW QX (fun v L' D' hq => ?_); obtain ⟨pm, _, _, _, rfl, rfl, rfl⟩ := hq) | refine Qc.is Xo ?_ (fun _ h => by simp only [QI, Qs, List.cons_append, List.nil_append, and_true] at h ⊢; simp only [h, and_self]) | refine Qc.is q6 ?_ QX | refine Qe.is rfl
 ·have hr5 : ¬ r = 5 := fun h => h0 (hE5 h)
  have cs0 := xv t STM.nil (by rw [ht]; exact hEn h0) hts.big
  clear hE0 hE1 hE5 hEv hEn ht
  repeat' first | refine Qa.yes rfl ?_ | refine Wk ?_ | refine Qa.mk (fun h => ?_) (fun h => ?_) | refine Qd.mk (fun ad => ?_) | refine Qc.is Xo ?_ (fun _ h => by simp only [QI, Qs, List.cons_append, List.nil_append, and_true] at h ⊢; simp only [h, and_self]) | refine Qc.is q6 ?_ QX | refine Qc.is cs0 ?_ (fun _ h => ⟨h.1, YA.nil, trivial⟩) | refine Qe.is rfl
end Go.Proofs
