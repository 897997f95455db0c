/- This text walks through the statement StateMoves of chapter 27. -/
import Derived.Test.YtcddpbpbebkdmaaGreatDoorK10
import Derived.Test.YtcddpbpbebkdmaaGreatDoorK13
import Derived.Test.YtcddpbpbebkdmaaGreatDoorKxKz
import Derived.Test.YtcddpbpbebkdmaaGreatDoorK17
import Derived.Test.YtcddpbpbebkdmaaGreatDoorKxDrU
set_option linter.all false
namespace Go.X
open Go Go.Lib
theorem Kn9 {D D0 : List Fact} (h : ∀ m, QI m D → QI m D0 := by exact (fun _ h => by simp only [QI, Qs, List.cons_append, List.nil_append, and_true] at h ⊢; simp only [h, and_self])) : ∀ m, QI m D → QI m D0 := h
theorem En9 {L L0 : List Chunk} {D D0 : List Fact} (h : L0.Sublist L := by repeat (first | exact List.Sublist.slnil | refine List.Sublist.cons_cons _ ?_ | refine List.Sublist.cons _ ?_)) (hd : ∀ m, QI m D → QI m D0 := by exact (fun _ h => by simp only [QI, Qs, List.cons_append, List.nil_append, and_true] at h ⊢; simp only [h, and_self])) : Qb L D L0 D0 := Qb.ofSub h hd
def RV.z (r : RV) : RV := { r with seq := 0 }
def SP.z (p : SP) : SP := ⟨p.sp, p.nm, p.hist.map RV.z⟩
def LU.z (x : LU) : LU := ⟨x.user, 0⟩
def ST.z (s : ST) : ST := { s with seq := 0, pages := s.pages.map SP.z, gone := s.gone.map SP.z, lasts := s.lasts.map LU.z }
theorem nn {a b : Int} (h : a = b) : ¬ a ≠ b := fun h' => h' h
theorem step_ok {s : ST} {c : CH} {sq : Int} (h : (X4 s c sq).2 = 0) : QM c = 0 ∧ (Zm s c sq).2 = 0 ∧ Zx c = false ∧ (Q9 (Zm s c sq).1 c.user sq).2 = 0 ∧ X4 s c sq = Q9 (Zm s c sq).1 c.user sq := by
 unfold X4 at h ⊢
 by_cases h1 : QM c = 0
 ·rw [if_neg (nn h1)] at h ⊢
  by_cases h2 : (Zm s c sq).2 = 0
  ·rw [if_neg (nn h2)] at h ⊢
   by_cases h3 : Zx c = true
   ·rw [if_pos h3] at h; cases h
   ·rw [if_neg h3] at h ⊢
    by_cases h4 : (Q9 (Zm s c sq).1 c.user sq).2 = 0
    ·rw [if_neg (nn h4)]
     exact ⟨h1, h2, by simpa using h3, h4, rfl⟩
    ·rw [if_pos h4] at h; exact absurd h h4
  ·rw [if_pos h2] at h; exact absurd h h2
 ·rw [if_pos h1] at h; exact absurd h h1
theorem step_is {s : ST} {c : CH} {sq : Int} (h1 : QM c = 0) (h2 : (Zm s c sq).2 = 0) (h3 : Zx c = false) (h4 : (Q9 (Zm s c sq).1 c.user sq).2 = 0) : X4 s c sq = Q9 (Zm s c sq).1 c.user sq := by
 unfold X4
 rw [if_neg (nn h1), if_neg (nn h2), if_neg (by rw [h3]; decide), if_neg (nn h4)]
theorem step_bad {s : ST} {c : CH} {sq : Int} (h1 : QM c = 0) (h2 : (Zm s c sq).2 ≠ 0) : X4 s c sq = (ST.nil, (Zm s c sq).2) := by
 unfold X4
 rw [if_neg (nn h1), if_pos h2]
theorem noted_same (s : ST) (u : Bs) (sq : Int) : (Q9 s u sq).1 = { s with lasts := (Q9 s u sq).1.lasts } := by
 unfold Q9
 split
 ·rfl
 ·dsimp only
  split
  ·rfl
  ·split <;> rfl
theorem apply_ok {s : ST} {l : List CH} (h : (Q0 s l).2 = 0) : Zl s = true ∧ 1 ≤ l.length ∧ l.length ≤ 16 ∧ (Ja (s.seq + 1) s l).2 = 0 ∧ s.seq + 1 ≤ 1073741824 ∧ Q0 s l = ({ (Ja (s.seq + 1) s l).1 with seq := s.seq + 1 }, 0) := by
 unfold Q0 at h ⊢
 by_cases h1 : Zl s = false
 ·rw [if_pos h1] at h; cases h
 rw [if_neg h1] at h ⊢
 by_cases h2 : (l.length : Int) < 1 ∨ 16 < (l.length : Int)
 ·rw [if_pos h2] at h; cases h
 rw [if_neg h2] at h ⊢
 by_cases h3 : (Ja (s.seq + 1) s l).2 = 0
 ·rw [if_neg (nn h3)] at h ⊢
  by_cases h4 : 1073741824 < s.seq + 1
  ·rw [if_pos h4] at h; cases h
  rw [if_neg h4]
  exact ⟨by simpa using h1, by omega, by omega, h3, by omega, rfl⟩
 ·rw [if_pos h3] at h; exact absurd h h3
theorem steps_ok {s : ST} {c : CH} {l : List CH} {sq : Int} (h : (Ja sq s (c :: l)).2 = 0) : (X4 s c sq).2 = 0 ∧ (Ja sq (X4 s c sq).1 l).2 = 0 ∧ Ja sq s (c :: l) = Ja sq (X4 s c sq).1 l := by
 rw [wC] at h ⊢
 by_cases h1 : (X4 s c sq).2 = 0
 ·rw [if_neg (nn h1)] at h ⊢
  exact ⟨h1, h, rfl⟩
 ·rw [if_pos h1] at h; exact absurd h h1
theorem mem_modify {α : Type} {l : List α} {i : Nat} {f : α → α} {x : α} (h : x ∈ l.modify i f) : x ∈ l ∨ ∃ hi : i < l.length, x = f l[i] := by
 obtain ⟨j, hj, rfl⟩ := List.getElem_of_mem h
 rw [List.length_modify] at hj
 rw [List.getElem_modify]
 split
 ·rename_i e; subst e; exact .inr ⟨hj, rfl⟩
 ·exact .inl (List.getElem_mem _)
theorem idx_page {s : ST} {sp : Int} {nm : Bs} (h : ¬ Q2 (YX sp nm) s.pages < 0) : ∃ i : Nat, ∃ hi : i < s.pages.length, Q2 (YX sp nm) s.pages = i ∧ YX sp nm s.pages[i] = true ∧ Vc s (Q2 (YX sp nm) s.pages) = s.pages[i] := by
 obtain ⟨i, hi, he, ha⟩ := yl h
 exact ⟨i, hi, he, ha, by rw [Vc, he, Int.toNat_natCast, Vk hi]⟩
theorem find_ins {lt p : SP → Bool} {l : List SP} {x : SP} (h : p x = false) : (Kv lt l x).find? p = l.find? p := by
 unfold Kv
 rw [List.find?_append, List.find?_cons_of_neg (by rw [h]; decide), ← List.find?_append, List.takeWhile_append_dropWhile]
theorem find_insX {lt p : SP → Bool} {l : List SP} {x : SP} (h : p x = true) (hn : ∀ y ∈ l, p y = false) : (Kv lt l x).find? p = some x := by
 unfold Kv
 have h1 : (l.takeWhile lt).find? p = none := List.find?_eq_none.2 fun y hy => by rw [hn y ((List.takeWhile_sublist lt).subset hy)]; decide
 rw [List.find?_append, h1, List.find?_cons_of_pos h]; rfl
theorem at_ne' {sp sp' : Int} {nm nm' : Bs} {h : List RV} (hn : ¬ (sp' = sp ∧ nm' = nm)) : YX sp nm ⟨sp', nm', h⟩ = false := decide_eq_false hn
structure Bnd (k : Nat) (s : ST) : Prop where
 np : s.pages.length ≤ k
 ng : s.gone.length ≤ k
 hp : ∀ p ∈ s.pages, p.hist.length ≤ k + 3
 hg : ∀ p ∈ s.gone, p.hist.length ≤ k + 3
theorem Bnd.up {k : Nat} {s : ST} (h : Bnd k s) : Bnd (k + 1) s := ⟨by have := h.np; omega, by have := h.ng; omega, fun p hp => by have := h.hp p hp; omega, fun p hp => by have := h.hg p hp; omega⟩
theorem Bnd.ins {k : Nat} {s : ST} {lt : SP → Bool} {l : List SP} {x : SP} {g : List SP} {pr : List PP} (h : Bnd k s) (hl : l.length ≤ k) (hm : ∀ p ∈ l, p.hist.length ≤ k + 4) (hx : x.hist.length ≤ k + 4) (hg : g.length ≤ k + 1) (hgm : ∀ p ∈ g, p.hist.length ≤ k + 4) : Bnd (k + 1) { s with pages := Kv lt l x, gone := g, props := pr } :=
 ⟨by dsimp only; rw [V9]; omega, hg, fun p hp => by
  rcases (WH _ _ _ _).1 hp with rfl | hp
  ·omega
  ·have := hm p hp; omega, fun p hp => by have := hgm p hp; omega⟩
theorem Bnd.kind {k : Nat} {s : ST} {c : CH} {sq : Int} (h : Bnd k s) (hc : c.hist.length ≤ 3) : Bnd (k + 1) (Zm s c sq).1 := by
 have hp' := fun (p : SP) (hp : p ∈ s.pages) => show p.hist.length ≤ k + 4 by have := h.hp p hp; omega
 have hg' := fun (p : SP) (hp : p ∈ s.gone) => show p.hist.length ≤ k + 4 by have := h.hg p hp; omega
 have hng := h.ng
 have hnp := h.np
 have er : ∀ i, (s.pages.eraseIdx i).length ≤ s.pages.length := fun i => (List.eraseIdx_sublist _ _).length_le
 have eg : ∀ i, (s.gone.eraseIdx i).length ≤ s.gone.length := fun i => (List.eraseIdx_sublist _ _).length_le
 unfold Zm
 split
 ·unfold K7
  split
  ·split
   ·exact h.up
   ·exact h.ins h.np hp' (by simp) (by omega) hg'
  ·split
   ·exact h.up
   ·refine ⟨by dsimp only; rw [List.length_modify]; omega, by dsimp only; omega, fun p hp => ?_, fun p hp => by have := hg' p hp; omega⟩
    rcases mem_modify hp with hp | ⟨hi, rfl⟩
    ·have := hp' p hp; omega
    ·have := hp' _ (List.getElem_mem hi)
     have := h.hp _ (List.getElem_mem hi)
     simp; omega
 split
 ·unfold JA
  split
  ·exact h.up
  ·rename_i hi
   split
   ·exact h.up
   ·obtain ⟨i, hil, hie, _, hpa⟩ := idx_page hi
    refine ⟨by dsimp only; have := er (Q2 (YX c.sp c.nm) s.pages).toNat; omega, by simp; omega, fun p hp => by have := hp' p (qI hp); omega, fun p hp => ?_⟩
    rcases List.mem_append.1 hp with hp | hp
    ·have := hg' p hp; omega
    ·rw [List.mem_singleton.1 hp, hpa]
     have := hp' _ (List.getElem_mem hil); omega
 split
 ·unfold XS
  split
  ·exact h.up
  ·split
   ·exact h.up
   ·rename_i hg
    split
    ·exact h.up
    ·rcases JH (YX c.sp c.nm) s.gone with ⟨h1, _⟩ | ⟨i, h1, h2, h3⟩
     ·omega
     ·rw [h2, Int.toNat_natCast, Vk h1]
      exact h.ins h.np hp' (hg' _ (List.getElem_mem h1)) (by have := eg i; omega) (fun p hp => hg' p (qI hp))
 split
 ·unfold VB
  split
  ·exact h.up
  ·rename_i hi
   split
   ·exact h.up
   ·split
    ·exact h.up
    ·obtain ⟨i, hil, hie, _, hpa⟩ := idx_page hi
     dsimp only
     rw [hpa, hie, Int.toNat_natCast]
     have hlen : (s.pages.eraseIdx i).length = s.pages.length - 1 := List.length_eraseIdx_of_lt hil
     split
     ·refine h.ins (by rw [V9]; omega) (fun p hp => ?_) (by simp) (by omega) hg'
      rcases (WH _ _ _ _).1 hp with rfl | hp
      ·exact hp' s.pages[i] (List.getElem_mem hil)
      ·exact hp' p (qI hp)
     ·exact h.ins (by omega) (fun p hp => hp' p (qI hp)) (hp' s.pages[i] (List.getElem_mem hil)) (by omega) hg'
 split
 ·unfold Vw
  split
  ·exact h.up
  ·split
   ·exact h.up
   ·split
    ·exact h.up
    ·exact h.ins h.np hp' (by simp; omega) (by omega) hg'
 split
 ·unfold zd
  split
  ·exact h.up
  ·exact ⟨h.up.np, h.up.ng, h.up.hp, h.up.hg⟩
 split
 ·unfold Xm
  dsimp only
  split
  ·split
   ·exact ⟨h.up.np, h.up.ng, h.up.hp, h.up.hg⟩
   ·exact h.up
  ·split
   ·exact h.up
   ·split
    ·exact h.up
    ·exact ⟨h.up.np, h.up.ng, h.up.hp, h.up.hg⟩
 split
 ·unfold Jc
  split
  ·exact h.up
  ·exact ⟨h.up.np, h.up.ng, h.up.hp, h.up.hg⟩
 ·unfold WA
  dsimp only
  split
  ·exact h.up
  ·exact ⟨h.up.np, h.up.ng, h.up.hp, h.up.hg⟩
theorem Bnd.step {k : Nat} {s : ST} {c : CH} {sq : Int} (h : Bnd k s) (hc : c.hist.length ≤ 3) (h0 : (X4 s c sq).2 = 0) : Bnd (k + 1) (X4 s c sq).1 := by
 obtain ⟨_, _, _, _, h5⟩ := step_ok h0
 rw [h5, noted_same]
 have := h.kind (sq := sq) hc
 exact ⟨this.np, this.ng, this.hp, this.hg⟩
theorem Bnd.steps {sq : Int} : ∀ {l : List CH} {k : Nat} {s : ST}, Bnd k s → (∀ c ∈ l, c.hist.length ≤ 3) → (Ja sq s l).2 = 0 → Bnd (k + l.length) (Ja sq s l).1
 | [], k, s, h, _, _ => h
 | c :: l, k, s, h, hc, h0 => by
  obtain ⟨h1, h2, h3⟩ := steps_ok h0
  rw [h3, List.length_cons, show k + (l.length + 1) = k + 1 + l.length by omega]
  exact Bnd.steps (h.step (hc c (List.mem_cons_self ..)) h1) (fun x hx => hc x (List.mem_cons_of_mem _ hx)) h2
theorem titles_valid : (genTitles.all fun t => Qw t.1 t.2) = true := by kernel_rfl
theorem titles_pol : (genTitles.all fun t => !xN t.1 t.2) = true := by decide
theorem ttl_valid {sp : Int} {nm : Bs} (h : (sp, nm) ∈ genTitles) : Qw sp nm = true := List.all_eq_true.1 titles_valid (sp, nm) h
theorem ttl_pol {sp : Int} {nm : Bs} (h : (sp, nm) ∈ genTitles) : xN sp nm = false := by simpa using List.all_eq_true.1 titles_pol (sp, nm) h
theorem pols_start : (xT.all fun p => decide (Q0 ST.nil [PW p] = (⟨1, 0, [⟨5, policyNm, [⟨1, [], [], p, 0, 1⟩]⟩], [], [], 0, [], []⟩, 0)) && decide ((p.length : Int) ≤ 8192)) = true := by kernel_rfl
theorem pol_start {p : Bs} (h : p ∈ xT) : Q0 ST.nil [PW p] = (⟨1, 0, [⟨5, policyNm, [⟨1, [], [], p, 0, 1⟩]⟩], [], [], 0, [], []⟩, 0) ∧ (p.length : Int) ≤ 8192 := by
 have := List.all_eq_true.1 pols_start p h
 rw [Bool.and_eq_true] at this
 exact ⟨of_decide_eq_true this.1, of_decide_eq_true this.2⟩
theorem apply_one {s : ST} {c : CH} (hv : Zl s = true) (hs : s.seq + 1 ≤ 1073741824) : (Q0 s [c]).2 = (X4 s c (s.seq + 1)).2 ∧ ((X4 s c (s.seq + 1)).2 = 0 → (Q0 s [c]).1 = { (X4 s c (s.seq + 1)).1 with seq := s.seq + 1 }) := by
 rw [Uo hv (by simp), wC]
 by_cases h : (X4 s c (s.seq + 1)).2 = 0
 ·rw [if_neg (by omega)]
  have : Ja (s.seq + 1) (X4 s c (s.seq + 1)).1 [] = ((X4 s c (s.seq + 1)).1, 0) := rfl
  rw [this, kw, if_neg (by exact fun h => h rfl), if_neg (by omega)]
  exact ⟨h.symm, fun _ => rfl⟩
 ·rw [if_pos h, kw, if_pos h]
  exact ⟨rfl, fun h' => absurd h' h⟩
theorem pgs_none {s : ST} {sp : Int} {nm : Bs} (h : s.pages.find? (YX sp nm) = none) : Q2 (YX sp nm) s.pages = -1 := by
 rcases JV (YX sp nm) s.pages with ⟨h1, _⟩ | ⟨i, hi, _, ha⟩
 ·exact h1
 ·exact absurd ha (List.find?_eq_none.1 h _ (List.getElem_mem hi))
theorem pgs_some {s : ST} {sp : Int} {nm : Bs} {p : SP} (hs : s.pages.Pairwise fun a b => cfP a b < 0) (h : s.pages.find? (YX sp nm) = some p) : ∃ i : Nat, ∃ hi : i < s.pages.length, Q2 (YX sp nm) s.pages = i ∧ s.pages[i] = p ∧ p.sp = sp ∧ p.nm = nm := by
 have h1 := qN.1 (List.find?_some h)
 have h2 := List.mem_of_find?_eq_some h
 have hn : ¬ Q2 (YX sp nm) s.pages < 0 := fun hi => by
  have := YP hi p h2
  rw [qN.2 h1] at this; cases this
 obtain ⟨i, hi, he, ha, _⟩ := idx_page hn
 have h3 := qN.1 ha
 exact ⟨i, hi, he, TB hs (List.getElem_mem hi) h2 (h3.1.trans h1.1.symm) (h3.2.trans h1.2.symm), h1.1, h1.2⟩
theorem erased_none {l : List SP} (hs : l.Pairwise fun a b => cfP a b < 0) {i : Nat} (hi : i < l.length) : ∀ y ∈ l.eraseIdx i, YX l[i].sp l[i].nm y = false := fun y hy => by
 refine decide_eq_false fun e => S7 hs hi hy ((Je _ _ _ _).2 e)
theorem mov_valid {sp tsp n : Int} {nm tnm : Bs} (hv : Qw sp nm = true) (hv2 : Qw tsp tnm = true) (hn : n = 0 ∨ n = 1) : QM ⟨4, [], [], sp, nm, tsp, tnm, [], n, []⟩ = 0 := by
 have h1 : KZ ⟨4, [], [], sp, nm, tsp, tnm, [], n, []⟩ = true := by simp [KZ, noteK, numK, jt]
 have h2 : Xf ⟨4, [], [], sp, nm, tsp, tnm, [], n, []⟩ = true := by rcases hn with rfl | rfl <;> simp [Xf, jt, hv, hv2, Xg]
 unfold QM
 rw [if_neg (by rw [h1]; decide), if_neg (by rw [h2]; decide), if_neg (by simp), if_neg (by simp)]
theorem WW.bndC {n : Nat} {s : ST} (h : WW n s) : Bnd (2 * n) s := by
 induction h with
 | start p hp =>
  rw [(pol_start hp).1]
  refine ⟨by simp, by simp, fun x hx => ?_, fun x hx => (by cases hx)⟩
  have hx : x = ⟨5, policyNm, [⟨1, [], [], p, 0, 1⟩]⟩ := by simpa using hx
  rw [hx]; simp
 | step h l hl h1 h2 he ih =>
  obtain ⟨_, _, _, h4, _, h6⟩ := apply_ok he
  rw [h6]
  have hb := ih.steps (sq := _) (fun c hc => (hl c hc).len) h4
  exact ⟨by have := hb.np; dsimp only; omega, by have := hb.ng; dsimp only; omega, fun p hp => by have := hb.hp p hp; omega, fun p hp => by have := hb.hg p hp; omega⟩
 | more h hb => exact ⟨by have := hb.np; omega, by have := hb.ng; omega, fun p hp => by have := hb.hp p hp; omega, fun p hp => by have := hb.hg p hp; omega⟩
theorem WW.seq_leC {n : Nat} {s : ST} (h : WW n s) : s.seq ≤ n := by
 induction h with
 | start p hp =>
  by_cases h0 : (Q0 ST.nil [PW p]).2 = 0
  ·rw [(J0 h0).2.1]; simp [ST.nil]
  ·rw [qO h0]; simp [ST.nil]
 | step h l hl h1 h2 he ih => rw [(J0 he).2.1]; omega
 | more h ih => omega
theorem moves_law {s : ST} (hm : WW 15 s) {sp tsp n : Int} {nm tnm : Bs} (ht : (sp, nm) ∈ genTitles) (ht2 : (tsp, tnm) ∈ genTitles) (hn : n = 0 ∨ n = 1) :
  (s.pages.find? (YX sp nm) = none → (Q0 s [⟨4, [], [], sp, nm, tsp, tnm, [], n, []⟩]).2 = 4) ∧
  (∀ p, s.pages.find? (YX sp nm) = some p → s.pages.find? (YX tsp tnm) ≠ none → (Q0 s [⟨4, [], [], sp, nm, tsp, tnm, [], n, []⟩]).2 = 5) ∧
  (∀ p, s.pages.find? (YX sp nm) = some p → s.pages.find? (YX tsp tnm) = none → (Q0 s [⟨4, [], [], sp, nm, tsp, tnm, [], n, []⟩]).2 = 0 ∧
   (Q0 s [⟨4, [], [], sp, nm, tsp, tnm, [], n, []⟩]).1.pages.find? (YX tsp tnm) = some ⟨tsp, tnm, p.hist⟩ ∧
   (Q0 s [⟨4, [], [], sp, nm, tsp, tnm, [], n, []⟩]).1.pages.find? (YX sp nm) = if n = 1 then some ⟨sp, nm, [⟨1, [], [], JF tsp tnm, s.clk, s.seq + 1⟩]⟩ else none) := by
 have hv := hm.valid
 obtain ⟨_, _, vk⟩ := JM.1 hv
 have hsq := hm.seq_leC
 obtain ⟨e1, e2⟩ := apply_one (c := ⟨4, [], [], sp, nm, tsp, tnm, [], n, []⟩) hv (by omega)
 have v4 := mov_valid (ttl_valid ht) (ttl_valid ht2) hn
 have k4 : Zm s ⟨4, [], [], sp, nm, tsp, tnm, [], n, []⟩ (s.seq + 1) = VB s ⟨4, [], [], sp, nm, tsp, tnm, [], n, []⟩ (s.seq + 1) := rfl
 have f4 : Zx ⟨4, [], [], sp, nm, tsp, tnm, [], n, []⟩ = false := by
  show (xN sp nm || xN tsp tnm) = false
  rw [ttl_pol ht, ttl_pol ht2]; rfl
 refine ⟨fun h => ?_, fun p h h' => ?_, fun p h h' => ?_⟩
 ·have h2 : (VB s ⟨4, [], [], sp, nm, tsp, tnm, [], n, []⟩ (s.seq + 1)) = (s, 4) := by
   unfold VB
   rw [show Q2 (YX sp nm) s.pages = -1 from pgs_none h, if_pos (by omega)]
  rw [e1, step_bad v4 (by rw [k4, h2]; exact (by decide : (4 : Int) ≠ 0)), k4, h2]
 ·obtain ⟨i, hi, he, hpi, hp1, hp2⟩ := pgs_some vk.asc h
  cases hf : s.pages.find? (YX tsp tnm) with
  | none => exact absurd hf h'
  | some q =>
   obtain ⟨j, hj, hje, _⟩ := pgs_some vk.asc hf
   have h2 : (VB s ⟨4, [], [], sp, nm, tsp, tnm, [], n, []⟩ (s.seq + 1)) = (s, 5) := by
    unfold VB
    rw [show Q2 (YX sp nm) s.pages = i from he, if_neg (by omega), show Q2 (YX tsp tnm) s.pages = j from hje, if_pos (by omega)]
   rw [e1, step_bad v4 (by rw [k4, h2]; exact (by decide : (5 : Int) ≠ 0)), k4, h2]
 ·obtain ⟨i, hi, he, hpi, hp1, hp2⟩ := pgs_some vk.asc h
  have hj := pgs_none h'
  have hpa : Vc s (i : Int) = p := by rw [Vc, Int.toNat_natCast, Vk hi, hpi]
  have hnp := hm.bndC.np
  have hne : ¬ (tsp = sp ∧ tnm = nm) := fun e => by
   rw [e.1, e.2] at h'; rw [h'] at h; cases h
  have hno := erased_none vk.asc hi
  rw [hpi, hp1, hp2] at hno
  have hno2 : ∀ y ∈ s.pages.eraseIdx i, YX tsp tnm y = false := fun y hy => by
   have := List.find?_eq_none.1 h' y (qI hy)
   simpa using this
  obtain ⟨pr, h2⟩ : ∃ pr, VB s ⟨4, [], [], sp, nm, tsp, tnm, [], n, []⟩ (s.seq + 1) = ({ s with pages := if n = 1 then Kv (je sp nm) (Kv (je tsp tnm) (s.pages.eraseIdx i) ⟨tsp, tnm, p.hist⟩) ⟨sp, nm, [⟨1, [], [], JF tsp tnm, s.clk, s.seq + 1⟩]⟩ else Kv (je tsp tnm) (s.pages.eraseIdx i) ⟨tsp, tnm, p.hist⟩, props := pr }, 0) := by
   refine ⟨Xa s.props sp nm, ?_⟩
   unfold VB
   dsimp only
   rw [show Q2 (YX sp nm) s.pages = i from he, if_neg (by omega), show Q2 (YX tsp tnm) s.pages = -1 from hj, if_neg (by omega), if_neg (by omega), hpa, Int.toNat_natCast]
  have st := step_is (s := s) (sq := s.seq + 1) v4 (by rw [k4, h2]) f4 (by rw [k4, h2]; rfl)
  rw [k4, h2] at st
  have hz : (X4 s ⟨4, [], [], sp, nm, tsp, tnm, [], n, []⟩ (s.seq + 1)).2 = 0 := by rw [st]; rfl
  rw [e1, e2 hz]
  refine ⟨hz, ?_, ?_⟩
  ·rw [st]
   show (if n = 1 then Kv (je sp nm) (Kv (je tsp tnm) (s.pages.eraseIdx i) ⟨tsp, tnm, p.hist⟩) ⟨sp, nm, [⟨1, [], [], JF tsp tnm, s.clk, s.seq + 1⟩]⟩ else Kv (je tsp tnm) (s.pages.eraseIdx i) ⟨tsp, tnm, p.hist⟩).find? (YX tsp tnm) = _
   split
   ·rw [find_ins (at_ne' (fun e => hne ⟨e.1.symm, e.2.symm⟩))]
    exact find_insX (qN.2 ⟨rfl, rfl⟩) hno2
   ·exact find_insX (qN.2 ⟨rfl, rfl⟩) hno2
  ·rw [st]
   show (if n = 1 then Kv (je sp nm) (Kv (je tsp tnm) (s.pages.eraseIdx i) ⟨tsp, tnm, p.hist⟩) ⟨sp, nm, [⟨1, [], [], JF tsp tnm, s.clk, s.seq + 1⟩]⟩ else Kv (je tsp tnm) (s.pages.eraseIdx i) ⟨tsp, tnm, p.hist⟩).find? (YX sp nm) = _
   split
   ·refine find_insX (qN.2 ⟨rfl, rfl⟩) fun y hy => ?_
    rcases (WH _ _ _ _).1 hy with rfl | hy
    ·exact at_ne' hne
    ·exact hno y hy
   ·rw [find_ins (at_ne' hne)]
    exact List.find?_eq_none.2 fun y hy => by rw [hno y hy]; decide
theorem zn {s : ST} {l : List CH} {t : STM} (h : t.pl = (Q0 s l).1) : Vs t := by
 by_cases h0 : (Q0 s l).2 = 0
 ·exact (XY (s := t) (by rw [h]; exact (J0 h0).1)).1
 ·rw [qO h0] at h
  exact (XY (s := t) (by rw [h]; exact vS)).1
end Go.X
namespace Go.Proofs
open Go Go.X Tryz
set_option maxRecDepth 100000
set_option maxHeartbeats 4000000
end Go.Proofs
namespace Go.X
open Go Go.Lib
theorem find_plR (l : List PGM) (sp : Int) (nm : Bs) : (l.map PGM.pl).find? (YX sp nm) = (l.find? (X7 sp nm)).map PGM.pl := by
 rw [List.find?_map]; rfl
theorem find_noneR {l : List PGM} {sp : Int} {nm : Bs} : (l.map PGM.pl).find? (YX sp nm) = none ↔ (l.find? (X7 sp nm)).isSome = false := by
 rw [find_plR]; cases l.find? (X7 sp nm) <;> simp
end Go.X
namespace Go.Proofs
open Go Go.X Tryz
set_option maxRecDepth 100000
set_option maxHeartbeats 4000000
end Go.Proofs
namespace Go.X
open Go Go.Lib
def movM (sp : Int) (nm : Bs) (tsp : Int) (tnm : Bs) (n : Int) : CHM := ⟨4, [], [], sp, nm, tsp, tnm, [], n, none, 0, []⟩
theorem mk_oneM {m : Im} {a : Option Addr} {c : CHM} (h : Z8 m 0 10 a 1 c.cells) (hc : Z8 m 0 6 c.ha c.hist.length (Zb c.hist)) : NE m a [c] :=
 ⟨by rw [show Wi [c] = c.cells by simp [Wi]]; exact h, fun x hx => by rw [List.mem_singleton.1 hx]; exact hc⟩
theorem find_someR {l : List PGM} {sp : Int} {nm : Bs} {p : SP} (h : (l.map PGM.pl).find? (YX sp nm) = some p) : (l.find? (X7 sp nm)).isSome = true ∧ ((l.find? (X7 sp nm)).map PGM.pl).getD ⟨0, [], []⟩ = p := by
 rw [find_plR] at h
 cases hf : l.find? (X7 sp nm) with
 | none => rw [hf] at h; cases h
 | some q => rw [hf] at h; exact ⟨rfl, by simpa using h⟩
theorem find_someG {l : List PGM} {sp : Int} {nm : Bs} (h : (l.find? (X7 sp nm)).isSome = true) : (l.map PGM.pl).find? (YX sp nm) = some (((l.find? (X7 sp nm)).map PGM.pl).getD ⟨0, [], []⟩) := by
 rw [find_plR]
 cases hf : l.find? (X7 sp nm) with
 | none => rw [hf] at h; cases h
 | some q => rfl
theorem find_oG {l : List PGM} {sp : Int} {nm : Bs} {o : Option SP} (h : (l.map PGM.pl).find? (YX sp nm) = o) : (l.find? (X7 sp nm)).isSome = o.isSome ∧ ((l.find? (X7 sp nm)).map PGM.pl).getD ⟨0, [], []⟩ = o.getD ⟨0, [], []⟩ := by
 rw [find_plR] at h
 rw [← h, Option.isSome_map]
 exact ⟨rfl, rfl⟩
theorem openS_boolM {P : Program} {w : World} {t : Nat} (ht : P.underlying t = some .bool) : K5 P w t (fun b : Bool => [.b b]) (fun _ => True) := by
 intro H enc base sp held n cs x h
 obtain ⟨b, hb, _⟩ := DataW.trod_bool ht (fuel := n) h
 exact ⟨b, hb, trivial⟩
theorem tit_len : (genTitles.all fun t => decide (t.2.length ≤ 100)) = true := by decide
end Go.X
namespace Go.Proofs
open Go Go.X Tryz
set_option maxRecDepth 100000
set_option maxHeartbeats 4000000
theorem stateMoves_ok (e : Nat) (a : Option Addr) (c : Nat) (l : List Int) (hl : l.length ≤ maxLen) (at_ to_ : Int) (b : Bool) :
  FnS prog 9 [.c (.sl a l.length c), .c (.i .i64 at_), .c (.i .i64 to_), .c (.b b)] [] [Zj e a l, gM, XH] (Is tt) := by
 have cg := KY e a c l hl
 have q8 := ZG at_ 8 (by omega) (by omega)
 have r8 := QR at_ (n := 8) (by omega)
 have k8 := ZG to_ 8 (by omega) (by omega)
 have s8 := QR to_ (n := 8) (by omega)
 generalize ZD at_ 8 = x8 at *
 generalize ZD to_ 8 = y8 at *
 obtain ⟨n8, rfl⟩ : ∃ n : Nat, x8 = n := ⟨x8.toNat, by omega⟩
 obtain ⟨m8, rfl⟩ : ∃ n : Nat, y8 = n := ⟨y8.toNat, by omega⟩
 have htt := wz (k := (n8 : Int)) (by omega) (by omega)
 have htm := YS (l := genTitles) (d := (0, [])) (k := (n8 : Int)) (by omega) (by simp only [genTitles, List.length_cons, List.length_nil]; omega)
 have hut := wz (k := (m8 : Int)) (by omega) (by omega)
 have hum := YS (l := genTitles) (d := (0, [])) (k := (m8 : Int)) (by omega) (by simp only [genTitles, List.length_cons, List.length_nil]; omega)
 generalize genTitles.getD (n8 : Int).toNat (0, []) = T at *
 generalize genTitles.getD (m8 : Int).toNat (0, []) = U at *
 obtain ⟨tsp, tnm⟩ := T
 obtain ⟨usp, unm⟩ := U
 dsimp only at htt hut
 have hul : unm.length ≤ 100 := of_decide_eq_true (List.all_eq_true.1 tit_len _ hum)
 refine FJ 0 func9 ntmps9 (fun G => ?_)
 repeat' first | refine QF (c := .seq (.region 2 _ _) _) ?_ | refine Wk ?_ | refine Qa.mk (fun h => ?_) (fun h => ?_) | refine Qd.mk (fun ad => ?_) | (refine Qc.mk [] _ [_] _ cg QW Kn9 (fun v L' D' hq => ?_); obtain ⟨u, rfl, hu, rfl, rfl⟩ := hq)
 refine ⟨?_⟩
 revert ad
 intro adu
 refine Kj (x := .region 2 _ _) (α := Nat × Nat × Nat × Nat) (fun z => [(3, .c (.b b)), (8, .c (.b false)), (9, .c (.p 0 adu 0)), (10, .c (.p z.1 z.2.1 0)), (11, .c (.p z.2.2.1 z.2.2.2 0))]) (fun z => [.box z.1 z.2.1 45 [.i .i64 tsp, .s tnm], .box z.2.2.1 z.2.2.2 45 [.i .i64 usp, .s unm], .box 0 adu 27 u.cells]) (fun _ => [QG u, gM, XH]) 3 (fun z => (z.1 = 1 ∧ z.2.2.1 = 2) ∨ (z.1 = 2 ∧ z.2.2.1 = 1)) ?_ (fun z hz => ?_)
 ·repeat' first | refine Wk ?_ | refine Qa.mk (fun h => ?_) (fun h => ?_) | refine Qd.mk (fun ad => ?_) | refine J_drawU (id := 2) tyOK (by kernel_rfl) [0, 0, 3, 7, 15, 7, 0, 103, 231, 487, 0, 0, 3327, 8191] (.fork [1, 6] (.alt 0 (.fork [2, 3, 4] (.alt 5 (.fork [7, 8, 9] (.alt 10 (.leaf [11, 12, 13]) (.alt 11 (.leaf [10, 12, 13]) (.stop)))) (.alt 10 (.fork [] (.alt 5 (.leaf [7, 8, 9, 11, 12, 13]) (.alt 11 (.fork [] (.alt 5 (.leaf [7, 8, 9, 12, 13]) (.stop))) (.stop)))) (.alt 11 (.fork [] (.alt 5 (.leaf [7, 8, 9, 10, 12, 13]) (.alt 10 (.fork [] (.alt 5 (.leaf [7, 8, 9, 12, 13]) (.stop))) (.stop)))) (.stop))))) (.alt 10 (.fork [] (.alt 0 (.fork [2, 3, 4] (.alt 5 (.leaf [7, 8, 9, 11, 12, 13]) (.alt 11 (.fork [] (.alt 5 (.leaf [7, 8, 9, 12, 13]) (.stop))) (.stop)))) (.alt 11 (.fork [] (.alt 0 (.fork [2, 3, 4] (.alt 5 (.leaf [7, 8, 9, 12, 13]) (.stop))) (.stop))) (.stop)))) (.alt 11 (.fork [] (.alt 0 (.fork [2, 3, 4] (.alt 5 (.leaf [7, 8, 9, 10, 12, 13]) (.alt 10 (.fork [] (.alt 5 (.leaf [7, 8, 9, 12, 13]) (.stop))) (.stop)))) (.alt 10 (.fork [] (.alt 0 (.fork [2, 3, 4] (.alt 5 (.leaf [7, 8, 9, 12, 13]) (.stop))) (.stop))) (.stop)))) (.stop))))) [0, 5, 10, 11, 12, 13] [28, 33] 13 true (by kernel_rfl) ?_ | refine X3.mk ?_ ?_ | refine GoP.mk (by repeat (first | exact List.Sublist.slnil | refine List.Sublist.cons_cons _ ?_ | refine List.Sublist.cons _ ?_)) (by first | exact fun _ h => h | exact fun _ h => h.2 | exact fun _ h => ((Qs _ _).1 h).2) ?_ | exact trivial | refine J_drawU (id := 15) tyOK (by kernel_rfl) [0, 1, 3, 7, 15, 31, 63, 127, 255, 511, 1023, 2047, 4095, 8191, 16383, 32767, 65535, 131071, 262143, 524287, 1048575, 2097151, 4194303, 262143, 8650751, 25427967, 58982399, 134217727, 268435455, 536870911, 1073741823, 2147483647] (.leaf [0, 1, 2, 3, 4, 5, 6, 7, 8, 9, 10, 11, 12, 13, 14, 15, 16, 17, 18, 19, 20, 21, 22, 23, 24, 25, 26, 27, 28, 29, 30, 31]) [] [11, 21, 130, 138] 32 true (by kernel_rfl) ?_ | refine X3.mk ?_ ?_ | refine GoP.mk (by repeat (first | exact List.Sublist.slnil | refine List.Sublist.cons_cons _ ?_ | refine List.Sublist.cons _ ?_)) (by first | exact fun _ h => h | exact fun _ h => h.2 | exact fun _ h => ((Qs _ _).1 h).2) ?_ | exact trivial | refine Qt.mk Qb.a ?_ | (refine Qc.mk [] _ [] _ zx QW QX (fun v L' D' hq => ?_); obtain ⟨ta, tc, rfl, rfl, rfl⟩ := hq) | refine Qr.a 45 2 (Xe genTitles) (.inr fun m h => h.1) ?_ | refine Qi.mk 45 _ (Xe genTitles) [.i .i64 tsp, .s tnm] (.inr fun m h => h.1) (by omega) (by omega) (by first | omega | decide) (by exact htt) ?_ | refine Qi.mk 45 _ (Xe genTitles) [.i .i64 usp, .s unm] (.inr fun m h => h.1) (by omega) (by omega) (by first | omega | decide) (by exact hut) ?_ | refine Qc.is q8 ?_ QX | refine Qc.is k8 ?_ QX | refine Qx.mk [] _ q8 QX ?_ | refine Qx.mk [] _ k8 QX ?_ | refine Qq.mk (1, _, 2, _) (.inl ⟨rfl, rfl⟩) Qh.a ((Qb.perm (List.Perm.swap _ _ _)).trans En9) | refine Qq.mk (2, _, 1, _) (.inr ⟨rfl, rfl⟩) Qh.a En9
 obtain ⟨i1, a1, i2, a2⟩ := z
 dsimp only at hz ⊢
 obtain ⟨hus, _, _⟩ := XY hu.valid
 have cp := qG u tsp tnm hus.big
 obtain ⟨p, hp1, hp2, hp3, hp4⟩ := Sq u hus tsp tnm
 rw [hp1] at cp
 have cr := qG u usp unm hus.big
 obtain ⟨p', hr1, _, _, _⟩ := Sq u hus usp unm
 rw [hr1] at cr
 clear hp1 hr1 cg q8 k8 htt hut
 obtain ⟨n, hn⟩ : ∃ n : Int, n = if b = true then 1 else 0 := ⟨_, rfl⟩
 have ml := moves_law hu htm hum (n := n) (by cases b <;> simp [hn])
 have ca := fun a k => jy u a k [movM tsp tnm usp unm n] hus.big hus.ph (by simp [big]) (fun c hc => by rw [List.mem_singleton.1 hc]; exact Nat.zero_le _)
 change ∀ a k, FnS _ _ [_, .c (.sl a 1 k)] [] [_, _, _, _] (Kz (Q0 u.pl [⟨4, [], [], tsp, tnm, usp, unm, [], n, []⟩])) at ca
 have hs0 := fun (t : STM) => zn (s := u.pl) (l := [⟨4, [], [], tsp, tnm, usp, unm, [], n, []⟩]) (t := t)
 have m1 := fun h => ml.1 (find_noneR.2 h)
 have m2 := fun h (h' : (u.pages.find? (X7 usp unm)).isSome = true) => ml.2.1 _ (find_someG h) (fun hn => by rw [find_noneR.1 hn] at h'; cases h')
 have m3 := fun h h' => ml.2.2 _ (find_someG h) (find_noneR.2 h')
 rw [← hp3] at m3
 have hd : JF usp unm = [35, 82, 69, 68, 73, 82, 69, 67, 84, 32, 91, 91] ++ JC usp unm ++ [93, 93] := rfl
 rw [hd] at m3
 have cfm := UM usp unm (by omega)
 have hfl := zQ usp unm
 generalize (u.pages.find? (X7 tsp tnm)).isSome = op at *
 generalize (u.pages.find? (X7 usp unm)).isSome = oq at *
 generalize JC usp unm = fm at *
 generalize Q0 u.pl [⟨4, [], [], tsp, tnm, usp, unm, [], n, []⟩] = R at *
 obtain ⟨S1, E⟩ := R
 dsimp only at m1 m2 m3 hs0
 clear ml hp3 hd hu htm hum
 have hbf : ∀ X : Option SP, (if (if false = true then (1 : Int) else 0) = 1 then X else none) = none := fun _ => rfl
 have hbt : ∀ X : Option SP, (if (if true = true then (1 : Int) else 0) = 1 then X else none) = X := fun _ => rfl
 let rh0 : List RV := [⟨1, [], [], [35, 82, 69, 68, 73, 82, 69, 67, 84, 32, 91, 91] ++ fm ++ [93, 93], u.clk, u.seq + 1⟩]
 have css := fun qa qc => PK 0 0 p.ha qa p.hc qc p.hist (by omega)
 rcases hz with ⟨rfl, rfl⟩ | ⟨rfl, rfl⟩
 all_goals
  cases b
  all_goals
   subst hn
   cases op
   case' false =>
    obtain rfl := m1 rfl
    clear m1 m2 m3
    repeat' first | refine Qa.yes rfl ?_ | refine Wk ?_ | refine Qa.mk (fun h => ?_) (fun h => ?_) | refine Qd.mk (fun ad => ?_) | refine Qc.is cp ?_ Kn9 | refine Qc.is cr ?_ Kn9 | (refine Qc.mkE [] _ [_, _, _, _] _ _ (ca _ _) Qb.toFact (fun _ h => ⟨h.2.1, mk_oneM h.1 (Z8.nil (e := 0)), h.2.2.1, h.2.2.2.1, trivial⟩) (fun v L' D' hq => ?_); obtain ⟨t, rfl, rfl, rfl, ht⟩ := hq) | refine Qc.is Xo ?_ Kn9 | refine Qe.is rfl
   case' true =>
    cases oq
    case' true =>
     obtain rfl := m2 rfl rfl
     clear m1 m2 m3
     repeat' first | refine Qa.yes rfl ?_ | refine Wk ?_ | refine Qa.mk (fun h => ?_) (fun h => ?_) | refine Qd.mk (fun ad => ?_) | refine Qc.is cp ?_ Kn9 | refine Qc.is cr ?_ Kn9 | (refine Qc.mkE [] _ [_, _, _, _] _ _ (ca _ _) Qb.toFact (fun _ h => ⟨h.2.1, mk_oneM h.1 (Z8.nil (e := 0)), h.2.2.1, h.2.2.2.1, trivial⟩) (fun v L' D' hq => ?_); obtain ⟨t, rfl, rfl, rfl, ht⟩ := hq) | refine Qc.is Xo ?_ Kn9 | refine Qe.is rfl
    case' false =>
     obtain ⟨rfl, e1, e2⟩ := m3 rfl rfl
     simp only [hbf, hbt] at e2
     clear m1 m2 m3
     repeat' first | refine QF (c := .seq (.region 11 _ _) _) ?_ | refine Wk ?_ | refine Qa.mk (fun h => ?_) (fun h => ?_) | refine Qd.mk (fun ad => ?_) | refine Qc.is cp ?_ Kn9 | refine Qc.is cr ?_ Kn9 | (refine Qc.mkE [] _ [_, _, _, _] _ _ (ca _ _) Qb.toFact (fun _ h => ⟨h.2.1, mk_oneM h.1 (Z8.nil (e := 0)), h.2.2.1, h.2.2.2.1, trivial⟩) (fun v L' D' hq => ?_); obtain ⟨t, rfl, rfl, rfl, ht⟩ := hq)
  all_goals
   refine ⟨?_⟩
   have hts := hs0 t ht
   obtain ⟨f1, f2⟩ := find_someR ((congrArg (fun s : ST => s.pages.find? (YX usp unm)) ht).trans e1)
   have cq := xG t usp unm hts.big.pages hts.ph
   change FnS _ _ _ _ _ (fun v L D => ∃ q : PGM, v = .t2 (.agg q.cells) (.c (.b (t.pages.find? (X7 usp unm)).isSome)) ∧ L = [] ∧ D = [_] ∧ q.pl = (((t.pages.find? (X7 usp unm)).map PGM.pl).getD ⟨0, [], []⟩)) at cq
   rw [f1, f2] at cq
   have e3 := (congrArg (fun s : ST => s.pages.find? (YX tsp tnm)) ht).trans e2
   have cw := xG t tsp tnm hts.big.pages hts.ph
   change FnS _ _ _ _ _ (fun v L D => ∃ q : PGM, v = .t2 (.agg q.cells) (.c (.b (t.pages.find? (X7 tsp tnm)).isSome)) ∧ L = [] ∧ D = [_] ∧ q.pl = (((t.pages.find? (X7 tsp tnm)).map PGM.pl).getD ⟨0, [], []⟩)) at cw
   clear ca cp cr hs0 e1 e2 f1 f2 ht
   obtain ⟨g1, g2⟩ := find_oG e3
   rw [g1, g2] at cw
   try simp only [Option.isSome_some, Option.isSome_none, Option.getD_some, Option.getD_none] at cw
   clear e3 g1 g2
   repeat' first | refine Qa.yes rfl ?_ | refine Wk ?_ | refine Qa.mk (fun h => ?_) (fun h => ?_) | refine Qd.mk (fun ad => ?_) | refine Ds (id := 2) [0,0,3,7,15,7,0,103,231,487,0,0,3327,8191] [0,1,2,3,4,5,6,7,8,9,10,11,12,13] [10,11,12,13] [28,33] true ?_ | refine Ds (id := 15) [0,1,3,7,15,31,63,127,255,511,1023,2047,4095,8191,16383,32767,65535,131071,262143,524287,1048575,2097151,4194303,262143,8650751,25427967,58982399,134217727,268435455,536870911,1073741823,2147483647] [0,1,2,3,4,5,6,7,8,9,10,11,12,13,14,15,16,17,18,19,20,21,22,23,24,25,26,27,28,29,30,31] [] [11,21,130,138] true ?_ | refine Qt.mk Qb.a ?_ | (refine Qc.mk [] _ [QG t] _ cq QW Kn9 (fun v L' D' hq => ?_); obtain ⟨q, rfl, rfl, rfl, hq⟩ := hq; obtain ⟨qsp, qnm, qa, qc, qh⟩ := q; simp only [PGM.pl, SP.mk.injEq] at hq; obtain ⟨rfl, rfl, rfl⟩ := hq) | (refine Qc.mk [] _ [QG t] _ cw QW Kn9 (fun v L' D' hq => ?_); obtain ⟨q, rfl, rfl, rfl, hq⟩ := hq; obtain ⟨rsp, rnm, ra, rc, rh⟩ := q; simp only [PGM.pl, SP.mk.injEq] at hq; obtain ⟨rfl, rfl, rfl⟩ := hq) | refine Qc.is (css qa qc) ?_ (fun m h => ⟨hp4 m h.2.2.2.2.1, h.2.1, trivial⟩) | refine Qx.mk [gM, XH] _ Xo Kn9 ?_ | refine Qx.mk [] _ cfm QX ?_ | refine Qr.mk 0 6 (Zb rh0) (.inr fun m h => h.1) (by decide) (by show (0 : Int) < 1; decide) ?_ | refine Zv.mk 0 6 1 (Zb rh0) (.inr fun m h => h.1) (by decide) ?_ | refine Qi.mk 0 1 (Zb rh0) [.i .i64 1] (.inr fun m h => h.1) (by decide) (by decide) (by decide) rfl ?_ | refine Qi.mk 0 1 (Zb rh0) [.s _] (.inr fun m h => h.1) (by decide) (by decide) (by decide) rfl ?_ | refine Qe.is rfl
end Go.Proofs
