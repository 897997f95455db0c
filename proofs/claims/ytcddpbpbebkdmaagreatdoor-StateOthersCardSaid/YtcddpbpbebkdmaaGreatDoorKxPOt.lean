/- This text walks through the function named and the statement StateOthers of chapter 27. -/
import Derived.Test.YtcddpbpbebkdmaaGreatDoorK10
import Derived.Test.YtcddpbpbebkdmaaGreatDoorK13
import Derived.Test.YtcddpbpbebkdmaaGreatDoorK16
import Derived.Test.YtcddpbpbebkdmaaGreatDoorK17
set_option linter.all false
namespace Go.X
open Go Go.Lib
def RV.z (r : RV) : RV := { r with seq := 0 }
def SP.z (p : SP) : SP := ⟨p.sp, p.nm, p.hist.map RV.z⟩
def LU.z (x : LU) : LU := ⟨x.user, 0⟩
def ST.z (s : ST) : ST := { s with seq := 0, pages := s.pages.map SP.z, gone := s.gone.map SP.z, lasts := s.lasts.map LU.z }
theorem nn {a b : Int} (h : a = b) : ¬ a ≠ b := fun h' => h' h
theorem step_ok {s : ST} {c : CH} {sq : Int} (h : (X4 s c sq).2 = 0) : QM c = 0 ∧ (Zm s c sq).2 = 0 ∧ Zx c = false ∧ (Q9 (Zm s c sq).1 c.user sq).2 = 0 ∧ X4 s c sq = Q9 (Zm s c sq).1 c.user sq := by
 unfold X4 at h ⊢
 by_cases h1 : QM c = 0
 ·rw [if_neg (nn h1)] at h ⊢
  by_cases h2 : (Zm s c sq).2 = 0
  ·rw [if_neg (nn h2)] at h ⊢
   by_cases h3 : Zx c = true
   ·rw [if_pos h3] at h; cases h
   ·rw [if_neg h3] at h ⊢
    by_cases h4 : (Q9 (Zm s c sq).1 c.user sq).2 = 0
    ·rw [if_neg (nn h4)]
     exact ⟨h1, h2, by simpa using h3, h4, rfl⟩
    ·rw [if_pos h4] at h; exact absurd h h4
  ·rw [if_pos h2] at h; exact absurd h h2
 ·rw [if_pos h1] at h; exact absurd h h1
theorem noted_same (s : ST) (u : Bs) (sq : Int) : (Q9 s u sq).1 = { s with lasts := (Q9 s u sq).1.lasts } := by
 unfold Q9
 split
 ·rfl
 ·dsimp only
  split
  ·rfl
  ·split <;> rfl
theorem noted_pages (s : ST) (u : Bs) (sq : Int) : (Q9 s u sq).1.pages = s.pages := by rw [noted_same]
theorem apply_ok {s : ST} {l : List CH} (h : (Q0 s l).2 = 0) : Zl s = true ∧ 1 ≤ l.length ∧ l.length ≤ 16 ∧ (Ja (s.seq + 1) s l).2 = 0 ∧ s.seq + 1 ≤ 1073741824 ∧ Q0 s l = ({ (Ja (s.seq + 1) s l).1 with seq := s.seq + 1 }, 0) := by
 unfold Q0 at h ⊢
 by_cases h1 : Zl s = false
 ·rw [if_pos h1] at h; cases h
 rw [if_neg h1] at h ⊢
 by_cases h2 : (l.length : Int) < 1 ∨ 16 < (l.length : Int)
 ·rw [if_pos h2] at h; cases h
 rw [if_neg h2] at h ⊢
 by_cases h3 : (Ja (s.seq + 1) s l).2 = 0
 ·rw [if_neg (nn h3)] at h ⊢
  by_cases h4 : 1073741824 < s.seq + 1
  ·rw [if_pos h4] at h; cases h
  rw [if_neg h4]
  exact ⟨by simpa using h1, by omega, by omega, h3, by omega, rfl⟩
 ·rw [if_pos h3] at h; exact absurd h h3
theorem steps_ok {s : ST} {c : CH} {l : List CH} {sq : Int} (h : (Ja sq s (c :: l)).2 = 0) : (X4 s c sq).2 = 0 ∧ (Ja sq (X4 s c sq).1 l).2 = 0 ∧ Ja sq s (c :: l) = Ja sq (X4 s c sq).1 l := by
 rw [wC] at h ⊢
 by_cases h1 : (X4 s c sq).2 = 0
 ·rw [if_neg (nn h1)] at h ⊢
  exact ⟨h1, h, rfl⟩
 ·rw [if_pos h1] at h; exact absurd h h1
theorem mem_modify {α : Type} {l : List α} {i : Nat} {f : α → α} {x : α} (h : x ∈ l.modify i f) : x ∈ l ∨ ∃ hi : i < l.length, x = f l[i] := by
 obtain ⟨j, hj, rfl⟩ := List.getElem_of_mem h
 rw [List.length_modify] at hj
 rw [List.getElem_modify]
 split
 ·rename_i e; subst e; exact .inr ⟨hj, rfl⟩
 ·exact .inl (List.getElem_mem _)
theorem idx_page {s : ST} {sp : Int} {nm : Bs} (h : ¬ Q2 (YX sp nm) s.pages < 0) : ∃ i : Nat, ∃ hi : i < s.pages.length, Q2 (YX sp nm) s.pages = i ∧ YX sp nm s.pages[i] = true ∧ Vc s (Q2 (YX sp nm) s.pages) = s.pages[i] := by
 obtain ⟨i, hi, he, ha⟩ := yl h
 exact ⟨i, hi, he, ha, by rw [Vc, he, Int.toNat_natCast, Vk hi]⟩
theorem find_ins {lt p : SP → Bool} {l : List SP} {x : SP} (h : p x = false) : (Kv lt l x).find? p = l.find? p := by
 unfold Kv
 rw [List.find?_append, List.find?_cons_of_neg (by rw [h]; decide), ← List.find?_append, List.takeWhile_append_dropWhile]
theorem find_erase {p : SP → Bool} : ∀ {l : List SP} {i : Nat} (h : i < l.length), p l[i] = false → (l.eraseIdx i).find? p = l.find? p
 | x :: l, 0, _, hp => by
  rw [List.eraseIdx_cons_zero, List.find?_cons_of_neg (by rw [show p x = false from hp]; decide)]
 | x :: l, i + 1, h, hp => by
  rw [List.eraseIdx_cons_succ]
  cases hx : p x with
  | true => rw [List.find?_cons_of_pos hx, List.find?_cons_of_pos hx]
  | false =>
   rw [List.find?_cons_of_neg (by rw [hx]; decide), List.find?_cons_of_neg (by rw [hx]; decide)]
   exact find_erase (by simpa using h) (by simpa using hp)
theorem find_mod {p : SP → Bool} {f : SP → SP} : ∀ {l : List SP} {i : Nat} (h : i < l.length), p l[i] = false → p (f l[i]) = false → (l.modify i f).find? p = l.find? p
 | x :: l, 0, _, hp, hf => by
  have h1 : p x = false := hp
  have h2 : p (f x) = false := hf
  rw [List.modify_zero_cons]
  simp [List.find?_cons, h1, h2]
 | x :: l, i + 1, h, hp, hf => by
  rw [List.modify_succ_cons]
  cases hx : p x with
  | true => rw [List.find?_cons_of_pos hx, List.find?_cons_of_pos hx]
  | false =>
   rw [List.find?_cons_of_neg (by rw [hx]; decide), List.find?_cons_of_neg (by rw [hx]; decide)]
   exact find_mod (by simpa using h) (by simpa using hp) (by simpa using hf)
theorem at_ne {sp sp' : Int} {nm nm' : Bs} {p : SP} (h : YX sp' nm' p = true) (hn : ¬ (sp' = sp ∧ nm' = nm)) : YX sp nm p = false := by
 have h1 := qN.1 h
 refine decide_eq_false fun e => hn ⟨?_, ?_⟩
 ·rw [← h1.1, e.1]
 ·rw [← h1.2, e.2]
theorem at_ne' {sp sp' : Int} {nm nm' : Bs} {h : List RV} (hn : ¬ (sp' = sp ∧ nm' = nm)) : YX sp nm ⟨sp', nm', h⟩ = false := decide_eq_false hn
structure Bnd (k : Nat) (s : ST) : Prop where
 np : s.pages.length ≤ k
 ng : s.gone.length ≤ k
 hp : ∀ p ∈ s.pages, p.hist.length ≤ k + 3
 hg : ∀ p ∈ s.gone, p.hist.length ≤ k + 3
theorem Bnd.up {k : Nat} {s : ST} (h : Bnd k s) : Bnd (k + 1) s := ⟨by have := h.np; omega, by have := h.ng; omega, fun p hp => by have := h.hp p hp; omega, fun p hp => by have := h.hg p hp; omega⟩
theorem Bnd.ins {k : Nat} {s : ST} {lt : SP → Bool} {l : List SP} {x : SP} {g : List SP} {pr : List PP} (h : Bnd k s) (hl : l.length ≤ k) (hm : ∀ p ∈ l, p.hist.length ≤ k + 4) (hx : x.hist.length ≤ k + 4) (hg : g.length ≤ k + 1) (hgm : ∀ p ∈ g, p.hist.length ≤ k + 4) : Bnd (k + 1) { s with pages := Kv lt l x, gone := g, props := pr } :=
 ⟨by dsimp only; rw [V9]; omega, hg, fun p hp => by
  rcases (WH _ _ _ _).1 hp with rfl | hp
  ·omega
  ·have := hm p hp; omega, fun p hp => by have := hgm p hp; omega⟩
theorem Bnd.kind {k : Nat} {s : ST} {c : CH} {sq : Int} (h : Bnd k s) (hc : c.hist.length ≤ 3) : Bnd (k + 1) (Zm s c sq).1 := by
 have hp' := fun (p : SP) (hp : p ∈ s.pages) => show p.hist.length ≤ k + 4 by have := h.hp p hp; omega
 have hg' := fun (p : SP) (hp : p ∈ s.gone) => show p.hist.length ≤ k + 4 by have := h.hg p hp; omega
 have hng := h.ng
 have hnp := h.np
 have er : ∀ i, (s.pages.eraseIdx i).length ≤ s.pages.length := fun i => (List.eraseIdx_sublist _ _).length_le
 have eg : ∀ i, (s.gone.eraseIdx i).length ≤ s.gone.length := fun i => (List.eraseIdx_sublist _ _).length_le
 unfold Zm
 split
 ·unfold K7
  split
  ·split
   ·exact h.up
   ·exact h.ins h.np hp' (by simp) (by omega) hg'
  ·split
   ·exact h.up
   ·refine ⟨by dsimp only; rw [List.length_modify]; omega, by dsimp only; omega, fun p hp => ?_, fun p hp => by have := hg' p hp; omega⟩
    rcases mem_modify hp with hp | ⟨hi, rfl⟩
    ·have := hp' p hp; omega
    ·have := hp' _ (List.getElem_mem hi)
     have := h.hp _ (List.getElem_mem hi)
     simp; omega
 split
 ·unfold JA
  split
  ·exact h.up
  ·rename_i hi
   split
   ·exact h.up
   ·obtain ⟨i, hil, hie, _, hpa⟩ := idx_page hi
    refine ⟨by dsimp only; have := er (Q2 (YX c.sp c.nm) s.pages).toNat; omega, by simp; omega, fun p hp => by have := hp' p (qI hp); omega, fun p hp => ?_⟩
    rcases List.mem_append.1 hp with hp | hp
    ·have := hg' p hp; omega
    ·rw [List.mem_singleton.1 hp, hpa]
     have := hp' _ (List.getElem_mem hil); omega
 split
 ·unfold XS
  split
  ·exact h.up
  ·split
   ·exact h.up
   ·rename_i hg
    split
    ·exact h.up
    ·rcases JH (YX c.sp c.nm) s.gone with ⟨h1, _⟩ | ⟨i, h1, h2, h3⟩
     ·omega
     ·rw [h2, Int.toNat_natCast, Vk h1]
      exact h.ins h.np hp' (hg' _ (List.getElem_mem h1)) (by have := eg i; omega) (fun p hp => hg' p (qI hp))
 split
 ·unfold VB
  split
  ·exact h.up
  ·rename_i hi
   split
   ·exact h.up
   ·split
    ·exact h.up
    ·obtain ⟨i, hil, hie, _, hpa⟩ := idx_page hi
     dsimp only
     rw [hpa, hie, Int.toNat_natCast]
     have hlen : (s.pages.eraseIdx i).length = s.pages.length - 1 := List.length_eraseIdx_of_lt hil
     split
     ·refine h.ins (by rw [V9]; omega) (fun p hp => ?_) (by simp) (by omega) hg'
      rcases (WH _ _ _ _).1 hp with rfl | hp
      ·exact hp' s.pages[i] (List.getElem_mem hil)
      ·exact hp' p (qI hp)
     ·exact h.ins (by omega) (fun p hp => hp' p (qI hp)) (hp' s.pages[i] (List.getElem_mem hil)) (by omega) hg'
 split
 ·unfold Vw
  split
  ·exact h.up
  ·split
   ·exact h.up
   ·split
    ·exact h.up
    ·exact h.ins h.np hp' (by simp; omega) (by omega) hg'
 split
 ·unfold zd
  split
  ·exact h.up
  ·exact ⟨h.up.np, h.up.ng, h.up.hp, h.up.hg⟩
 split
 ·unfold Xm
  dsimp only
  split
  ·split
   ·exact ⟨h.up.np, h.up.ng, h.up.hp, h.up.hg⟩
   ·exact h.up
  ·split
   ·exact h.up
   ·split
    ·exact h.up
    ·exact ⟨h.up.np, h.up.ng, h.up.hp, h.up.hg⟩
 split
 ·unfold Jc
  split
  ·exact h.up
  ·exact ⟨h.up.np, h.up.ng, h.up.hp, h.up.hg⟩
 ·unfold WA
  dsimp only
  split
  ·exact h.up
  ·exact ⟨h.up.np, h.up.ng, h.up.hp, h.up.hg⟩
def namesT (c : CH) (sp : Int) (nm : Bs) : Bool := (decide (c.sp = sp ∧ c.nm = nm) && !decide (c.kind = 6) && !decide (c.kind = 10)) || (decide (c.kind = 4) && decide (c.tsp = sp ∧ c.tnm = nm))
theorem names_no {c : CH} {sp : Int} {nm : Bs} (h : namesT c sp nm = false) : (c.kind ≠ 6 → c.kind ≠ 10 → ¬ (c.sp = sp ∧ c.nm = nm)) ∧ (c.kind = 4 → ¬ (c.tsp = sp ∧ c.tnm = nm)) := by
 simp only [namesT, Bool.or_eq_false_iff, Bool.and_eq_false_iff, decide_eq_false_iff_not, Bool.not_eq_false', decide_eq_true_eq] at h
 refine ⟨fun h6 h10 he => ?_, fun h4 he => ?_⟩
 ·rcases h.1 with (h1 | h1) | h1
  ·exact h1 he
  ·exact h6 h1
  ·exact h10 h1
 ·rcases h.2 with h1 | h1
  ·exact h1 h4
  ·exact h1 he
theorem kind_other {s : ST} {c : CH} {sq : Int} {sp : Int} {nm : Bs} (hn : namesT c sp nm = false) : (Zm s c sq).1.pages.find? (YX sp nm) = s.pages.find? (YX sp nm) := by
 obtain ⟨n1, n2⟩ := names_no hn
 unfold Zm
 split
 ·rename_i hk
  have hne := n1 (by omega) (by omega)
  unfold K7
  split
  ·split
   ·rfl
   ·exact find_ins (at_ne' hne)
  ·rename_i hi
   split
   ·rfl
   ·obtain ⟨i, hil, hie, ha, _⟩ := idx_page hi
    rw [hie, Int.toNat_natCast]
    exact find_mod hil (at_ne ha hne) (at_ne (sp' := c.sp) (nm' := c.nm) (p := { s.pages[i] with hist := _ }) ha hne)
 split
 ·rename_i hk
  have hne := n1 (by omega) (by omega)
  unfold JA
  split
  ·rfl
  ·rename_i hi
   split
   ·rfl
   ·obtain ⟨i, hil, hie, ha, _⟩ := idx_page hi
    rw [hie, Int.toNat_natCast]
    exact find_erase hil (at_ne ha hne)
 split
 ·rename_i hk
  have hne := n1 (by omega) (by omega)
  unfold XS
  split
  ·rfl
  ·split
   ·rfl
   ·split
    ·rfl
    ·rename_i hg _
     rcases JH (YX c.sp c.nm) s.gone with ⟨h1, _⟩ | ⟨i, h1, h2, h3⟩
     ·omega
     ·rw [h2, Int.toNat_natCast, Vk h1]
      exact find_ins (at_ne h3 hne)
 split
 ·rename_i hk
  have hne := n1 (by omega) (by omega)
  have hne2 := n2 hk
  unfold VB
  split
  ·rfl
  ·rename_i hi
   split
   ·rfl
   ·split
    ·rfl
    ·obtain ⟨i, hil, hie, ha, _⟩ := idx_page hi
     dsimp only
     rw [hie, Int.toNat_natCast]
     have h1 : (Kv (je c.tsp c.tnm) (s.pages.eraseIdx i) ⟨c.tsp, c.tnm, (Vc s (i : Int)).hist⟩).find? (YX sp nm) = s.pages.find? (YX sp nm) := (find_ins (at_ne' hne2)).trans (find_erase hil (at_ne ha hne))
     split
     ·exact (find_ins (at_ne' hne)).trans h1
     ·exact h1
 split
 ·rename_i hk
  have hne := n1 (by omega) (by omega)
  unfold Vw
  split
  ·rfl
  ·split
   ·rfl
   ·split
    ·rfl
    ·exact find_ins (at_ne' hne)
 split
 ·unfold zd
  split <;> rfl
 split
 ·unfold Xm
  dsimp only
  split
  ·split <;> rfl
  ·split
   ·rfl
   ·split <;> rfl
 split
 ·unfold Jc
  split <;> rfl
 ·unfold WA
  dsimp only
  split <;> rfl
theorem steps_other {sq : Int} {sp : Int} {nm : Bs} : ∀ {l : List CH} {s : ST}, (∀ c ∈ l, namesT c sp nm = false) → (Ja sq s l).2 = 0 → (Ja sq s l).1.pages.find? (YX sp nm) = s.pages.find? (YX sp nm)
 | [], s, _, _ => rfl
 | c :: l, s, hc, h0 => by
  obtain ⟨h1, h2, h3⟩ := steps_ok h0
  rw [h3, steps_other (fun x hx => hc x (List.mem_cons_of_mem _ hx)) h2]
  obtain ⟨_, _, _, _, h5⟩ := step_ok h1
  rw [h5, noted_pages]
  exact kind_other (hc c (List.mem_cons_self ..))
theorem others_law {s : ST} {l : List CH} {sp : Int} {nm : Bs} (h : (Q0 s l).2 = 0) (hc : ∀ c ∈ l, namesT c sp nm = false) : (Q0 s l).1.pages.find? (YX sp nm) = s.pages.find? (YX sp nm) := by
 obtain ⟨_, _, _, h4, _, h6⟩ := apply_ok h
 rw [h6]
 exact steps_other hc h4
theorem zn {s : ST} {l : List CH} {t : STM} (h : t.pl = (Q0 s l).1) : Vs t := by
 by_cases h0 : (Q0 s l).2 = 0
 ·exact (XY (s := t) (by rw [h]; exact (J0 h0).1)).1
 ·rw [qO h0] at h
  exact (XY (s := t) (by rw [h]; exact vS)).1
end Go.X
namespace Go.Proofs
open Go Go.X Tryz
set_option maxRecDepth 100000
set_option maxHeartbeats 4000000
end Go.Proofs
namespace Go.X
open Go Go.Lib
theorem find_pl (l : List PGM) (sp : Int) (nm : Bs) : (l.map PGM.pl).find? (YX sp nm) = (l.find? (X7 sp nm)).map PGM.pl := by
 rw [List.find?_map]; rfl
theorem has_pl (s : STM) (t : TT) : YQ s t = (s.pl.pages.find? (YX t.1 t.2)).isSome := by
 show _ = ((s.pages.map PGM.pl).find? _).isSome
 rw [find_pl]; unfold YQ; cases s.pages.find? (X7 t.1 t.2) <;> rfl
theorem text_pl (s : STM) (t : TT) : Jp s t = ((s.pl.pages.find? (YX t.1 t.2)).map fun p => (qv p).text).getD [] := by
 show _ = ((s.pages.map PGM.pl).find? _ |>.map fun p => (qv p).text).getD []
 rw [find_pl]; unfold Jp; cases s.pages.find? (X7 t.1 t.2) <;> rfl
theorem touched_in (a b : STM) {x : TT} (h : x ∈ QO a b) : ZA a b x = true := by
 have h1 := (xV Vp qw (((a.pages ++ b.pages).map ZS).filter (ZA a b)) [] List.Pairwise.nil).2 x
 have h2 : x ∈ QO a b ↔ (x ∈ a.pages.map ZS ∨ x ∈ b.pages.map ZS) ∧ ZA a b x = true := by
  unfold QO
  rw [h1, List.mem_filter, List.map_append, List.mem_append]
  simp
 exact (h2.1 h).2
theorem touched_named {u t : STM} {l : List CH} (h0 : (Q0 u.pl l).2 = 0) (ht : t.pl = (Q0 u.pl l).1) {x : TT} (hx : x ∈ QO u t) : (l.any fun c => namesT c x.1 x.2) = true := by
 cases hn : l.any (fun c => namesT c x.1 x.2) with
 | true => rfl
 | false =>
  have hc : ∀ c ∈ l, namesT c x.1 x.2 = false := fun c hc => by simpa using List.any_eq_false.1 hn c hc
  have h1 := others_law h0 hc
  rw [← ht] at h1
  have h2 := touched_in u t hx
  unfold ZA at h2
  rw [has_pl, has_pl, text_pl, text_pl, h1] at h2
  simp at h2
theorem touched_len2 (a b : STM) (na : a.pages.length ≤ 1000) (nb : b.pages.length ≤ 1000) : (QO a b).length ≤ 2000 := by
 unfold QO
 refine Nat.le_trans (Gf _ _) ?_
 rw [List.length_nil, Nat.zero_add]
 refine Nat.le_trans (List.length_filter_le _ _) ?_
 rw [List.length_map, List.length_append]; omega
theorem chm_o0 {l : List CHM} {i : Nat} (h : i < l.length) : ((Wi l).drop (i * 10 + 0)).take 1 = [.i .i64 l[i].kind] := by
 rw [Wi, QL (F := CHM.cells) (z := 10) (fun _ => rfl) h (by omega)]; rfl
theorem chm_o3 {l : List CHM} {i : Nat} (h : i < l.length) : ((Wi l).drop (i * 10 + 3)).take 2 = [.i .i64 l[i].sp, .s l[i].nm] := by
 rw [Wi, QL (F := CHM.cells) (z := 10) (fun _ => rfl) h (by omega)]; rfl
theorem chm_o5 {l : List CHM} {i : Nat} (h : i < l.length) : ((Wi l).drop (i * 10 + 5)).take 2 = [.i .i64 l[i].tsp, .s l[i].tnm] := by
 rw [Wi, QL (F := CHM.cells) (z := 10) (fun _ => rfl) h (by omega)]; rfl
theorem ttC_at {l : List TT} {i : Nat} (h : i < l.length) : ((Xe l).drop (i * 2 + 0)).take 2 = [.i .i64 l[i].1, .s l[i].2] := by
 rw [Xe, QL (F := fun t : TT => [C.i .i64 t.1, C.s t.2]) (z := 2) (fun _ => rfl) h (by omega)]; rfl
theorem others_page {u t : STM} {l : List CH} (h0 : (Q0 u.pl l).2 = 0) (ht : t.pl = (Q0 u.pl l).1) {sp : Int} {nm : Bs} (hn : (l.any fun c => namesT c sp nm) = false) : (t.pages.find? (X7 sp nm)).map PGM.pl = (u.pages.find? (X7 sp nm)).map PGM.pl := by
 have h1 := others_law (sp := sp) (nm := nm) h0 fun c hc => by simpa using List.any_eq_false.1 hn c hc
 rw [← ht] at h1
 rw [← find_pl, ← find_pl]; exact h1
theorem any_pl (l : List CHM) (sp : Int) (nm : Bs) : ((l.map CHM.pl).any fun c => namesT c sp nm) = l.any fun c => namesT c.pl sp nm := by rw [List.any_map]; rfl
end Go.X
namespace Go.Proofs
open Go Go.X Tryz
set_option maxRecDepth 100000
set_option maxHeartbeats 4000000
theorem named_ok (a : Option Addr) (k : Nat) (l : List CHM) (sp : Int) (nm : Bs) (hl : l.length ≤ 1000) : FnS prog 42 [.c (.sl a l.length k), .agg [.i .i64 sp, .s nm]] [] [WQ a l] (Is (.c (.b (l.any fun c => namesT c.pl sp nm)))) := by
 have hrd : ∀ L, Qp L [WQ a l] 0 10 a l.length (Wi l) := fun L => .inr fun m h => h.1.row
 obtain ⟨r, hr⟩ : ∃ r, (l.any fun c => namesT c.pl sp nm) = r := ⟨_, rfl⟩
 rw [hr]
 refine FJ 0 func42 ntmps42 (fun G => ?_)
 repeat' first | refine Wk ?_ | refine Qa.mk (fun h => ?_) (fun h => ?_) | refine Qd.mk (fun ad => ?_)
 refine Qn (α := Nat) (fun i => [(0, .c (.sl a l.length k)), (3, .c (.p 0 ad 0)), (5, .c (.i .i64 i))]) (fun _ => [.box 0 ad 45 [.i .i64 sp, .s nm]]) (fun _ => [WQ a l]) 1
  (fun i => i ≤ l.length ∧ ∀ c ∈ l.take i, namesT c.pl sp nm = false) (fun i => l.length - i) (Qq.mk 0 ⟨Nat.zero_le _, fun _ h => by cases h⟩ Qh.a (Qb.refl _ _)) (fun i hx => ?_)
 obtain ⟨hi, hn⟩ := hx
 by_cases hlt : i < l.length
 ·have g0 := chm_o0 hlt
  have g3 := chm_o3 hlt
  have g5 := chm_o5 hlt
  have hyes : namesT l[i].pl sp nm = true → true = r := fun h => by rw [← hr]; exact (List.any_eq_true.2 ⟨l[i], List.getElem_mem hlt, h⟩).symm
  have hno : namesT l[i].pl sp nm = false → ∀ c ∈ l.take (i + 1), namesT c.pl sp nm = false := fun h r hr => by
   rw [List.take_succ_eq_append_getElem hlt] at hr
   rcases List.mem_append.1 hr with hr | hr
   ·exact hn r hr
   ·rw [List.mem_singleton.1 hr]; exact h
  have hpl : namesT l[i].pl sp nm = ((decide (l[i].sp = sp ∧ l[i].nm = nm) && !decide (l[i].kind = 6) && !decide (l[i].kind = 10)) || (decide (l[i].kind = 4) && decide (l[i].tsp = sp ∧ l[i].tnm = nm))) := rfl
  rw [hpl] at hyes hno
  clear hpl hn hr
  generalize l[i].sp = x3 at *
  generalize l[i].nm = x4 at *
  generalize l[i].tsp = x5 at *
  generalize l[i].tnm = x6 at *
  generalize l[i].kind = x0 at *
  repeat' first | refine Wk ?_ | refine Qa.mk (fun h => ?_) (fun h => ?_) | refine Qd.mk (fun ad => ?_) | refine Ds (id := 4) [0,0,3,7,15,0,63,127,255,255,1023,2047,4095,8191,16383,32767,65535,65535,262143,524287,1048575,2097151,4194303,8388607,16777215,16777215,67108863,134217727,268435455,536870911,1073741823,2147483647,2147483647,8589934591,17179869183,34359738367,2147483647,137438953471,274877906943,549755813887] [0,1,2,3,4,5,6,7,8,9,10,11,12,13,14,15,16,17,18,19,20,21,22,23,24,25,26,27,28,29,30,31,32,33,34,35,36,37,38,39] [] [3,14,22,30,38,45] true ?_ | refine Qt.mk Qb.a ?_ | refine Qr.a 0 10 _ (hrd _) ?_ | refine Zv.mk 0 10 _ _ (hrd _) (by omega) ?_ | refine Qi.mk 0 _ _ [.i .i64 x0] (hrd _) (by omega) (by omega) (by first | omega | decide) (by exact g0) ?_ | refine Qi.mk 0 _ _ [.i .i64 x3, .s x4] (hrd _) (by omega) (by omega) (by first | omega | decide) (by exact g3) ?_ | refine Qi.mk 0 _ _ [.i .i64 x5, .s x6] (hrd _) (by omega) (by omega) (by first | omega | decide) (by exact g5) ?_ | refine Qo.mk (i + 1) (by omega) ⟨by omega, hno (by simp_all)⟩ Qh.a (Qb.ofSub (by repeat (first | exact List.Sublist.slnil | refine List.Sublist.cons_cons _ ?_ | refine List.Sublist.cons _ ?_)) (fun _ h => by simp only [QI, Qs, List.cons_append, List.nil_append, and_true] at h ⊢; simp only [h, and_self])) | refine Qe.bool (hyes (by simp_all)).symm | refine Qe.bool (hyes (by simp_all))
 ·have hil : i = l.length := by omega
  subst hil
  rw [List.take_length] at hn
  have hf : false = r := by rw [← hr]; exact (List.any_eq_false.2 fun c hc => by rw [hn c hc]; decide).symm
  subst hf
  repeat' first | refine Wk ?_ | refine Qa.mk (fun h => ?_) (fun h => ?_) | refine Qd.mk (fun ad => ?_) | refine Qe.is rfl
theorem stateOthers_ok (e e2 : Nat) (a a2 : Option Addr) (c c2 : Nat) (l m : List Int) (hl : l.length ≤ maxLen) (hm : m.length ≤ maxLen) (who : Int) :
  FnS prog 10 [.c (.sl a l.length c), .c (.sl a2 m.length c2), .c (.i .i64 who)] [] [Zj e a l, Zj e2 a2 m, gM, XH] (Is tt) := by
 have cg := KY e a c l hl
 have cf := qL e2 a2 c2 m hm
 refine FJ 0 func10 ntmps10 (fun G => ?_)
 repeat' first | refine QF (c := .seq (.region 2 _ _) _) ?_ | refine Wk ?_ | refine Qa.mk (fun h => ?_) (fun h => ?_) | refine Qd.mk (fun ad => ?_) | (refine Qc.mk [] _ [_] _ cg QW Kh (fun v L' D' hq => ?_); obtain ⟨u, rfl, hu, rfl, rfl⟩ := hq)
 refine ⟨?_⟩
 have huv := hu.valid
 obtain ⟨hus, hc0, hc1⟩ := XY huv
 have ch := fun ad => KF e2 a2 c2 ad m (gs0 m) u.clk (qi m) hm hc0 hc1
 have ap := fun b k (cs : List CHM) (h2 : cs.length ≤ 2) (hm : ∀ ch ∈ cs, qB ch.pl) => jy u b k cs hus.big hus.ph (by simp only [big]; omega) (fun ch hch => by have := (hm ch hch).len; have h3 : ch.pl.hist = ch.hist := rfl; rw [h3] at this; simp only [big]; omega)
 clear cg
 repeat' first | refine QF (c := .seq (.region 4 _ _) _) ?_ | refine Wk ?_ | refine Qa.mk (fun h => ?_) (fun h => ?_) | refine Qd.mk (fun ad => ?_) | refine Ds (id := 2) [0,1,0,4,15,31] [0,2,3,1,4,5] [1,4] [7] true ?_ | refine Qt.mk Qb.a ?_ | (refine Qc.mk [] _ [_] _ cf QW (fun _ h => ⟨h.2.2.1, trivial⟩) (fun v L' D' hp => ?_); obtain ⟨ad0, rfl, rfl, rfl⟩ := hp) | (refine Qc.mk [_] _ [_] _ (ch _) QW (fun _ h => ⟨h.2.2.1, trivial⟩) (fun v L' D' hp => ?_); obtain ⟨b, k, cs, g2, rfl, h1, h2, hmc, hg2, rfl, rfl⟩ := hp) | (refine Qc.mk [_] _ [_] _ (ch _) (List.Perm.swap _ _ _) (fun _ h => ⟨h.2.2.1, trivial⟩) (fun v L' D' hp => ?_); obtain ⟨b, k, cs, g2, rfl, h1, h2, hmc, hg2, rfl, rfl⟩ := hp) | (refine Qc.mk [] _ [_, _, _, _] _ (ap b k cs h2 hmc) QW (fun _ h => by simp only [QI, Qs, List.cons_append, List.nil_append, and_true] at h ⊢; simp only [h, and_self]) (fun v L' D' hq => ?_); obtain ⟨t, rfl, rfl, rfl, ht⟩ := hq)
 all_goals
  refine ⟨?_⟩
  have hts := zn ht
  clear ch ap cf
  by_cases h0 : (Q0 u.pl (cs.map CHM.pl)).2 = 0
  ·have q8 := ZG who 8 (by omega) (by omega)
   have r8 := QR who (n := 8) (by omega)
   generalize ZD who 8 = x8 at *
   obtain ⟨n8, rfl⟩ : ∃ n : Nat, x8 = n := ⟨x8.toNat, by omega⟩
   have htt := wz (k := (n8 : Int)) (by omega) (by omega)
   generalize genTitles.getD (n8 : Int).toNat (0, []) = T at *
   obtain ⟨tsp, tnm⟩ := T
   dsimp only at htt
   have hop := others_page (sp := tsp) (nm := tnm) h0 ht
   rw [any_pl] at hop
   have htn := fun x hx => touched_named h0 ht (x := x) hx
   have cp := qG u tsp tnm hus.big
   obtain ⟨p, hp1, hp2, hp3, hp4⟩ := Sq u hus tsp tnm
   rw [hp1] at cp
   have cq := xG t tsp tnm hts.big.pages hts.ph
   change FnS _ _ _ _ _ (fun v L D => ∃ q : PGM, v = .t2 (.agg q.cells) (.c (.b (t.pages.find? (X7 tsp tnm)).isSome)) ∧ L = [] ∧ D = [_] ∧ q.pl = (((t.pages.find? (X7 tsp tnm)).map PGM.pl).getD ⟨0, [], []⟩)) at cq
   have hsm : (cs.any fun c => namesT c.pl tsp tnm) = false → (t.pages.find? (X7 tsp tnm)).isSome = (u.pages.find? (X7 tsp tnm)).isSome := fun h => by
    have := congrArg Option.isSome (hop h)
    rwa [Option.isSome_map, Option.isSome_map] at this
   generalize (t.pages.find? (X7 tsp tnm)).isSome = oq at *
   generalize (u.pages.find? (X7 tsp tnm)).isSome = op at *
   have cto := (wB u t hus.big hts.big hus.pages hts.pages hus.ph hts.ph).rowF
   have hlen := touched_len2 u t hus.pages hts.pages
   generalize QO u t = W at *
   have cn := fun sp nm => named_ok b k cs sp nm (by omega)
   rw [h0]
   clear ht h0
   repeat' first | refine QF (c := .seq (.region 9 _ _) _) ?_ | refine Wk ?_ | refine Qa.mk (fun h => ?_) (fun h => ?_) | refine Qd.mk (fun ad => ?_) | refine Qc.is q8 ?_ QX | (refine Qc.mk [] _ [] _ zx QW QX (fun v L' D' hq => ?_); obtain ⟨ta, tc, rfl, rfl, rfl⟩ := hq) | refine Qr.a 45 2 (Xe genTitles) (.inr fun m h => h.1) ?_ | refine Qi.mk 45 _ (Xe genTitles) [.i .i64 tsp, .s tnm] (.inr fun m h => h.1) (by omega) (by omega) (by first | omega | decide) (by exact htt) ?_ | refine Qc.is cp ?_ (fun _ h => by simp only [QI, Qs, List.cons_append, List.nil_append, and_true] at h ⊢; simp only [h, and_self]) | (refine Qc.mk [] _ [QG t] _ cq QW (fun _ h => by simp only [QI, Qs, List.cons_append, List.nil_append, and_true] at h ⊢; simp only [h, and_self]) (fun v L' D' hq => ?_); obtain ⟨q, rfl, rfl, rfl, hq⟩ := hq)
   refine ⟨?_⟩
   by_cases hnm : (cs.any fun c => namesT c.pl tsp tnm) = true
   case' pos =>
    have cnt := cn tsp tnm
    rw [hnm] at cnt
    clear hop hsm
    repeat' first | refine QF (c := .seq (.region 11 _ _) _) ?_ | refine Wk ?_ | refine Qa.mk (fun h => ?_) (fun h => ?_) | refine Qd.mk (fun ad => ?_) | refine Qc.is cnt ?_ (fun _ h => by simp only [QI, Qs, List.cons_append, List.nil_append, and_true] at h ⊢; simp only [h, and_self])
   case' neg =>
    have hnf : (cs.any fun c => namesT c.pl tsp tnm) = false := by simpa using hnm
    have cnt := cn tsp tnm
    rw [hnf] at cnt
    have csp := jZ p q (by rw [hp3, hq, hop hnf]) (by omega)
    obtain rfl := hsm hnf
    clear hop hsm
    repeat' first | refine QF (c := .seq (.region 11 _ _) _) ?_ | refine Qa.yes rfl ?_ | refine Qa.no (fun h => h rfl) ?_ | refine Wk ?_ | refine Qa.mk (fun h => ?_) (fun h => ?_) | refine Qd.mk (fun ad => ?_) | refine Qc.is cnt ?_ (fun _ h => by simp only [QI, Qs, List.cons_append, List.nil_append, and_true] at h ⊢; simp only [h, and_self]) | refine Qc.is csp ?_ (fun m h => ⟨hp4 m h.2.2.2.2.1, h.1, trivial⟩)
   all_goals
    refine ⟨?_⟩
    clear cnt
    repeat' first | refine Wk ?_ | refine Qa.mk (fun h => ?_) (fun h => ?_) | refine Qd.mk (fun ad => ?_) | (refine Qc.mk [] _ [QG u, QG t] _ cto QW (fun _ h => by simp only [QI, Qs, List.cons_append, List.nil_append, and_true] at h ⊢; simp only [h, and_self]) (fun v L' D' hq => ?_); obtain ⟨wa, wc, rfl, rfl, rfl⟩ := hq)
    refine Qn (α := Nat) (fun i => [(8, .c (.sl b cs.length k)), (16, .c (.sl wa W.length wc)), (17, .c (.i .i64 i))]) (fun _ => []) (fun _ => [Qf 45 2 wa W.length (Xe W), WQ b cs, gM, XH]) 0 (fun i => i ≤ W.length) (fun i => W.length - i) (Qq.mk 0 (Nat.zero_le _) Qh.a (Qb.ofSub (by repeat (first | exact List.Sublist.slnil | refine List.Sublist.cons_cons _ ?_ | refine List.Sublist.cons _ ?_)) (fun _ h => by simp only [QI, Qs, List.cons_append, List.nil_append, and_true] at h ⊢; simp only [h, and_self]))) (fun i hi => ?_)
    by_cases hlt : i < W.length
    ·have hw := htn W[i] (List.getElem_mem hlt)
     rw [any_pl] at hw
     have cni := cn W[i].1 W[i].2
     rw [hw] at cni
     have hg := ttC_at hlt
     clear hw htn
     generalize W[i] = y at *
     obtain ⟨y1, y2⟩ := y
     dsimp only at cni hg
     repeat' first | refine Wk ?_ | refine Qa.mk (fun h => ?_) (fun h => ?_) | refine Qd.mk (fun ad => ?_) | refine Qr.a 45 2 (Xe W) (.inr fun m h => h.1) ?_ | refine Qi.mk 45 _ (Xe W) [.i .i64 y1, .s y2] (.inr fun m h => h.1) (by omega) (by omega) (by first | omega | decide) (by exact hg) ?_ | refine Qc.is cni ?_ (fun _ h => by simp only [QI, Qs, List.cons_append, List.nil_append, and_true] at h ⊢; simp only [h, and_self]) | refine Qo.mk (i + 1) (by omega) (by omega) Qh.a (Qb.refl _ _)
    ·have hil : i = W.length := by omega
     subst hil
     repeat' first | refine Wk ?_ | refine Qa.mk (fun h => ?_) (fun h => ?_) | refine Qd.mk (fun ad => ?_) | refine Qc.is Xo ?_ (fun _ h => by simp only [QI, Qs, List.cons_append, List.nil_append, and_true] at h ⊢; simp only [h, and_self]) | refine Qe.is rfl
  ·generalize (Q0 u.pl (cs.map CHM.pl)).2 = E at *
   repeat' first | refine Wk ?_ | refine Qa.mk (fun h => ?_) (fun h => ?_) | refine Qd.mk (fun ad => ?_) | refine Qc.is Xo ?_ (fun _ h => by simp only [QI, Qs, List.cons_append, List.nil_append, and_true] at h ⊢; simp only [h, and_self]) | refine Qe.is rfl
end Go.Proofs
