/- This text proves, for the plain form of states: a transaction that is accepted leads from a valid state to a valid one. -/
import Derived.Test.YthknndkjnglegaaGreatI12
import Derived.Test.YthknndkjnglegaaGreatI08
import Derived.Test.YthknndkjnglegaaGreatI09
set_option linter.all false

namespace Go.X
open Go Go.Lib
theorem atT_iff {sp : Int} {nm : Bs} {p : SP} : atT sp nm p = true ↔ p.sp = sp ∧ p.nm = nm := by simp [atT]
theorem idxG_spec {α : Type} (p : α → Bool) : ∀ l : List α, (idxG p l = -1 ∧ ∀ x ∈ l, p x = false) ∨ ∃ i : Nat, ∃ h : i < l.length, idxG p l = i ∧ p l[i] = true
  | [] => .inl ⟨rfl, fun _ h => (by cases h)⟩
  | x :: r => by
    simp only [idxG]
    split
    · rename_i h
      exact .inr ⟨0, by simp, rfl, h⟩
    · rename_i h
      rcases idxG_spec p r with ⟨h1, h2⟩ | ⟨i, h1, h2, h3⟩
      · rw [h1, if_pos (by omega)]
        refine .inl ⟨rfl, fun y hy => ?_⟩
        rcases List.mem_cons.1 hy with rfl | hy
        · simpa using h
        · exact h2 y hy
      · rw [h2, if_neg (by omega)]
        exact .inr ⟨i + 1, by simpa using h1, by omega, by simpa using h3⟩
theorem insG_cons {α : Type} (lt : α → Bool) (y : α) (t : List α) (x : α) : insG lt (y :: t) x = if lt y = true then y :: insG lt t x else x :: y :: t := by
  unfold insG
  by_cases h : lt y = true
  · rw [if_pos h, List.takeWhile_cons_of_pos h, List.dropWhile_cons_of_pos h]; rfl
  · rw [if_neg h, List.takeWhile_cons_of_neg h, List.dropWhile_cons_of_neg h]; rfl
theorem mem_insG {α : Type} (lt : α → Bool) (l : List α) (x z : α) : z ∈ insG lt l x ↔ z = x ∨ z ∈ l := by
  induction l with
  | nil => simp [insG]
  | cons y t ih =>
    rw [insG_cons]
    split
    · simp only [List.mem_cons, ih, or_left_comm]
    · simp only [List.mem_cons]
theorem insG_len {α : Type} (lt : α → Bool) (l : List α) (x : α) : (insG lt l x).length = l.length + 1 := by
  have := congrArg List.length (List.takeWhile_append_dropWhile (p := lt) (l := l))
  unfold insG
  rw [List.length_append, List.length_cons] 
  rw [List.length_append] at this
  omega
/-- An order told by whole numbers. -/
structure OrdC {α : Type} (cf : α → α → Int) : Prop where
  swap : ∀ x y, cf x y = - cf y x
  trans : ∀ x y z, cf x y ≤ 0 → cf y z ≤ 0 → cf x z ≤ 0
theorem OrdC.lt {α : Type} {cf : α → α → Int} (h : OrdC cf) {x y z : α} (h1 : cf x y < 0) (h2 : cf y z < 0) : cf x z < 0 := by
  have a1 := h.swap x z; have a2 := h.swap y z; have a3 := h.swap x y
  have t1 := h.trans x y z (by omega) (by omega)
  have t2 := h.trans y z x
  omega
theorem ins_pw {α : Type} {cf : α → α → Int} (h : OrdC cf) (l : List α) (x : α) (hl : l.Pairwise fun a b => cf a b < 0) (hn : ∀ y ∈ l, cf y x ≠ 0) : (insG (fun y => decide (cf y x < 0)) l x).Pairwise fun a b => cf a b < 0 := by
  induction l with
  | nil => exact List.pairwise_cons.2 ⟨fun _ h => (by cases h), List.Pairwise.nil⟩
  | cons y t ih =>
    have hl' := List.pairwise_cons.1 hl
    rw [insG_cons]
    split
    · rename_i hy
      refine List.pairwise_cons.2 ⟨fun z hz => ?_, ih hl'.2 fun z hz => hn z (List.mem_cons_of_mem _ hz)⟩
      rcases (mem_insG _ _ _ _).1 hz with rfl | hz
      · simpa using hy
      · exact hl'.1 z hz
    · rename_i hy
      have hxy : cf x y < 0 := by
        have := h.swap x y
        have := hn y (List.mem_cons_self ..)
        simp at hy
        omega
      refine List.pairwise_cons.2 ⟨fun z hz => ?_, hl⟩
      rcases List.mem_cons.1 hz with rfl | hz
      · exact hxy
      · exact h.lt hxy (hl'.1 z hz)
theorem ascG_pw {α : Type} {cf : α → α → Int} (h : OrdC cf) : ∀ l : List α, ascG (fun a b => decide (cf a b < 0)) l = true ↔ l.Pairwise fun a b => cf a b < 0
  | [] => by simp [ascG]
  | [x] => by simp [ascG]
  | x :: y :: r => by
    have ih := ascG_pw h (y :: r)
    rw [ascG, Bool.and_eq_true, ih]
    constructor
    · rintro ⟨h1, h2⟩
      refine List.pairwise_cons.2 ⟨fun z hz => ?_, h2⟩
      rcases List.mem_cons.1 hz with rfl | hz
      · simpa using h1
      · exact h.lt (by simpa using h1) ((List.pairwise_cons.1 h2).1 z hz)
    · intro h0
      obtain ⟨h1, h2⟩ := List.pairwise_cons.1 h0
      exact ⟨by simpa using h1 y (List.mem_cons_self ..), h2⟩
def cfP (a b : SP) : Int := compareT a.sp a.nm b.sp b.nm
theorem ordP : OrdC cfP := ⟨fun x y => compareT_swap _ _ _ _, fun x y z => compareT_trans⟩
theorem bytes_swap (x y : Bs) : Lib.compareBytes x y = - Lib.compareBytes y x := cmpB_swap x y
theorem bytes_trans {x y z : Bs} (h1 : Lib.compareBytes x y ≤ 0) (h2 : Lib.compareBytes y z ≤ 0) : Lib.compareBytes x z ≤ 0 := cmpB_trans x y z h1 h2
def cfW (a b : WT) : Int := if Lib.compareBytes a.user b.user ≠ 0 then Lib.compareBytes a.user b.user else compareT a.sp a.nm b.sp b.nm
theorem ordW27 : OrdC cfW := by
  refine ⟨fun x y => ?_, fun x y z h1 h2 => ?_⟩
  · have := bytes_swap x.user y.user
    have := compareT_swap x.sp x.nm y.sp y.nm
    unfold cfW
    split <;> split <;> omega
  · unfold cfW at *
    have a1 := bytes_swap x.user y.user; have a2 := bytes_swap y.user z.user; have a3 := bytes_swap x.user z.user
    have t1 := bytes_trans (x := x.user) (y := y.user) (z := z.user); have t2 := bytes_trans (x := z.user) (y := x.user) (z := y.user); have t3 := bytes_trans (x := y.user) (y := z.user) (z := x.user); have t4 := bytes_trans (x := z.user) (y := y.user) (z := x.user); have t5 := bytes_trans (x := x.user) (y := z.user) (z := y.user); have t6 := bytes_trans (x := y.user) (y := x.user) (z := z.user)
    have g1 := @compareT_trans x.sp x.nm y.sp y.nm z.sp z.nm
    split at h1 <;> split at h2 <;> split <;> omega
theorem ltW_is (a b : WT) : ltW a b = decide (cfW a b < 0) := by
  have he := cmpB_eq a.user b.user
  unfold ltW ltB cfW
  by_cases h : Lib.compareBytes a.user b.user = 0
  · have hu := he.1 h
    have h0 : Lib.compareBytes b.user b.user = 0 := (cmpB_eq _ _).2 rfl
    rw [hu, h0]
    simp
  · have : a.user ≠ b.user := fun e => h (he.2 e)
    simp [h, this]
def cfL (a b : LU) : Int := Lib.compareBytes a.user b.user
theorem ordL27 : OrdC cfL := ⟨fun x y => bytes_swap _ _, fun x y z => bytes_trans⟩
/-! ### Valid states, seen anew -/
theorem rvOK_iff {clk sq i mi se : Int} {r : RV} : rvOK clk sq i mi se r = true ↔ r.num = i + 1 ∧ (r.text.length : Int) ≤ 8192 ∧ (r.note.length : Int) ≤ 200 ∧ userT r.user = true ∧ mi ≤ r.min ∧ r.min ≤ clk ∧ se ≤ r.seq ∧ r.seq ≤ sq := by
  simp only [rvOK, Bool.and_eq_true, decide_eq_true_eq, and_assoc]
theorem histT_iff {clk sq : Int} {l : List RV} : histT clk sq l = true ↔ 1 ≤ (l.length : Int) ∧ (l.length : Int) ≤ 40 ∧ histGo clk sq 0 0 1 l = true := by
  simp only [histT, Bool.and_eq_true, decide_eq_true_eq, and_assoc]
theorem histGo_mono {clk sq clk' sq' : Int} (hc : clk ≤ clk') (hs : sq ≤ sq') : ∀ (l : List RV) (i mi se : Int), histGo clk sq i mi se l = true → histGo clk' sq' i mi se l = true
  | [], _, _, _, _ => rfl
  | r :: l, i, mi, se, h => by
    simp only [histGo, Bool.and_eq_true] at h ⊢
    obtain ⟨h1, h2⟩ := h
    have h1 := rvOK_iff.1 h1
    exact ⟨rvOK_iff.2 ⟨h1.1, h1.2.1, h1.2.2.1, h1.2.2.2.1, h1.2.2.2.2.1, by omega, h1.2.2.2.2.2.2.1, by omega⟩, histGo_mono hc hs l _ _ _ h2⟩
theorem histGo_snoc {clk sq : Int} {x : RV} (h2 : (x.text.length : Int) ≤ 8192) (h3 : (x.note.length : Int) ≤ 200) (h4 : userT x.user = true) (h5 : x.min = clk) (h6 : x.seq = sq) : ∀ (l : List RV) (i mi se : Int), mi ≤ clk → se ≤ sq → histGo clk sq i mi se l = true → x.num = i + l.length + 1 → histGo clk sq i mi se (l ++ [x]) = true
  | [], i, mi, se, hm, hs, _, hn => by
    simp only [List.nil_append, histGo, Bool.and_true]
    exact rvOK_iff.2 ⟨by simp at hn; omega, h2, h3, h4, by omega, by omega, by omega, by omega⟩
  | r :: l, i, mi, se, hm, hs, h, hn => by
    simp only [List.cons_append, histGo, Bool.and_eq_true] at h ⊢
    have h1 := rvOK_iff.1 h.1
    exact ⟨h.1, histGo_snoc h2 h3 h4 h5 h6 l _ _ _ h1.2.2.2.2.2.1 h1.2.2.2.2.2.2.2 h.2 (by simp at hn; omega)⟩
theorem pageOK_iff {clk sq : Int} {p : SP} : pageOK clk sq p = true ↔ validT p.sp p.nm = true ∧ histT clk sq p.hist = true := by
  simp only [pageOK, Bool.and_eq_true]
theorem pageOK_mono {clk sq clk' sq' : Int} (hc : clk ≤ clk') (hs : sq ≤ sq') {p : SP} (h : pageOK clk sq p = true) : pageOK clk' sq' p = true := by
  obtain ⟨h1, h2⟩ := pageOK_iff.1 h
  obtain ⟨h3, h4, h5⟩ := histT_iff.1 h2
  exact pageOK_iff.2 ⟨h1, histT_iff.2 ⟨h3, h4, histGo_mono hc hs _ _ _ _ h5⟩⟩
theorem ppOK_iff {clk pr la : Int} {p : PP} : ppOK clk pr la p = true ↔ la < p.id ∧ p.id ≤ pr ∧ userT p.user = true ∧ validT p.sp p.nm = true ∧ 0 ≤ p.base ∧ p.base ≤ 40 ∧ (p.text.length : Int) ≤ 8192 ∧ (p.note.length : Int) ≤ 200 ∧ 0 ≤ p.min ∧ p.min ≤ clk := by
  simp only [ppOK, Bool.and_eq_true, decide_eq_true_eq, and_assoc]
theorem ppGo_mono {clk pr clk' pr' : Int} (hc : clk ≤ clk') (hs : pr ≤ pr') : ∀ (l : List PP) (la la' : Int), la' ≤ la → ppGo clk pr la l = true → ppGo clk' pr' la' l = true
  | [], _, _, _, _ => rfl
  | p :: l, la, la', hl, h => by
    simp only [ppGo, Bool.and_eq_true] at h ⊢
    obtain ⟨h1, h2⟩ := h
    have h1 := ppOK_iff.1 h1
    exact ⟨ppOK_iff.2 ⟨by omega, by omega, h1.2.2.1, h1.2.2.2.1, h1.2.2.2.2.1, h1.2.2.2.2.2.1, h1.2.2.2.2.2.2.1, h1.2.2.2.2.2.2.2.1, h1.2.2.2.2.2.2.2.2.1, by omega⟩, ppGo_mono hc hs l _ _ (Int.le_refl _) h2⟩
theorem ppGo_filter {clk pr : Int} (q : PP → Bool) : ∀ (l : List PP) (la : Int), ppGo clk pr la l = true → ppGo clk pr la (l.filter q) = true
  | [], _, _ => rfl
  | p :: l, la, h => by
    simp only [ppGo, Bool.and_eq_true] at h
    have h3 := ppGo_filter q l _ h.2
    have h1 := ppOK_iff.1 h.1
    rw [List.filter_cons]
    split
    · simp only [ppGo, Bool.and_eq_true]; exact ⟨h.1, h3⟩
    · exact ppGo_mono (Int.le_refl _) (Int.le_refl _) _ _ _ (by omega) h3
theorem ppGo_snoc {clk pr : Int} {x : PP} (hx : ppOK clk pr (pr - 1) x = true) : ∀ (l : List PP) (la : Int), la ≤ pr - 1 → ppGo clk (pr - 1) la l = true → ppGo clk pr la (l ++ [x]) = true
  | [], la, hl, _ => by
    have h1 := ppOK_iff.1 hx
    simp only [List.nil_append, ppGo, Bool.and_true]
    exact ppOK_iff.2 ⟨by omega, h1.2⟩
  | p :: l, la, hl, h => by
    simp only [List.cons_append, ppGo, Bool.and_eq_true] at h ⊢
    have h1 := ppOK_iff.1 h.1
    exact ⟨ppOK_iff.2 ⟨h1.1, by omega, h1.2.2⟩, ppGo_snoc hx l _ (by omega) h.2⟩
/-- A state whose revisions and last transactions may bear numbers up to sq. -/
structure VK (sq : Int) (s : ST) : Prop where
  c0 : 0 ≤ s.clk
  c1 : s.clk ≤ 52595999
  np : (s.pages.length : Int) ≤ 200
  ng : (s.gone.length : Int) ≤ 100
  pg : ∀ p ∈ s.pages, pageOK s.clk sq p = true
  asc : s.pages.Pairwise fun a b => cfP a b < 0
  gn : ∀ p ∈ s.gone, pageOK s.clk sq p = true
  rul : ∀ p ∈ s.pages, atT 5 policyNm p = true → (polParseT (currentT p).text).2.2 = 0
  nq : (s.props.length : Int) ≤ 40
  q0 : 0 ≤ s.proposed
  q1 : s.proposed ≤ 1073741824
  pp : ppGo s.clk s.proposed 0 s.props = true
  nw : (s.watches.length : Int) ≤ 100
  ws : ∀ w ∈ s.watches, wtOK w = true
  wa : s.watches.Pairwise fun a b => cfW a b < 0
  nl : (s.lasts.length : Int) ≤ 60
  ls : ∀ x ∈ s.lasts, ltOK sq x = true
  la : s.lasts.Pairwise fun a b => cfL a b < 0
theorem VK.mono {sq sq' : Int} {s : ST} (h : VK sq s) (hs : sq ≤ sq') : VK sq' s where
  c0 := h.c0
  c1 := h.c1
  np := h.np
  ng := h.ng
  pg p hp := pageOK_mono (Int.le_refl _) hs (h.pg p hp)
  asc := h.asc
  gn p hp := pageOK_mono (Int.le_refl _) hs (h.gn p hp)
  rul := h.rul
  nq := h.nq
  q0 := h.q0
  q1 := h.q1
  pp := h.pp
  nw := h.nw
  ws := h.ws
  wa := h.wa
  nl := h.nl
  ls x hx := by
    have := h.ls x hx
    simp only [ltOK, Bool.and_eq_true, decide_eq_true_eq] at this ⊢
    exact ⟨this.1, by omega⟩
  la := h.la
theorem same_title {l : List SP} (h : l.Pairwise fun a b => cfP a b < 0) {p q : SP} (hp : p ∈ l) (hq : q ∈ l) (h1 : p.sp = q.sp) (h2 : p.nm = q.nm) : p = q := by
  have h0 : cfP p q = 0 := (compareT_eq _ _ _ _).2 ⟨h1, h2⟩
  have h0' : cfP q p = 0 := (compareT_eq _ _ _ _).2 ⟨h1.symm, h2.symm⟩
  induction l with
  | nil => cases hp
  | cons x t ih =>
    have h' := List.pairwise_cons.1 h
    rcases List.mem_cons.1 hp with e | hp'
    · rcases List.mem_cons.1 hq with e' | hq'
      · rw [e, e']
      · subst e; have := h'.1 q hq'; omega
    · rcases List.mem_cons.1 hq with e' | hq'
      · subst e'; have := h'.1 p hp'; omega
      · exact ih h'.2 hp' hq'
theorem ruled_iff {s : ST} (h : s.pages.Pairwise fun a b => cfP a b < 0) : ruledT s = true ↔ ∀ p ∈ s.pages, atT 5 policyNm p = true → (polParseT (currentT p).text).2.2 = 0 := by
  unfold ruledT pageT
  constructor
  · intro hr p hp ha
    cases hf : s.pages.find? (atT 5 policyNm) with
    | none => exact absurd ha (by simpa using List.find?_eq_none.1 hf p hp)
    | some q =>
      rw [hf] at hr
      have hq := List.find?_some hf
      have hqm := List.mem_of_find?_eq_some hf
      have e1 := atT_iff.1 ha
      have e2 := atT_iff.1 hq
      have : p = q := same_title h hp hqm (e1.1.trans e2.1.symm) (e1.2.trans e2.2.symm)
      subst this
      simpa using hr
  · intro hall
    cases hf : s.pages.find? (atT 5 policyNm) with
    | none => rfl
    | some q => simpa using hall q (List.mem_of_find?_eq_some hf) (List.find?_some hf)
theorem valid_iff {s : ST} : validST s = true ↔ 0 ≤ s.seq ∧ s.seq ≤ 1073741824 ∧ VK s.seq s := by
  have e1 : ascG ltP s.pages = true ↔ s.pages.Pairwise fun a b => cfP a b < 0 := ascG_pw ordP s.pages
  have e2 : ascG ltW s.watches = true ↔ s.watches.Pairwise fun a b => cfW a b < 0 := by
    rw [← ascG_pw ordW27 s.watches, show ltW = fun a b => decide (cfW a b < 0) from by funext a b; exact ltW_is a b]
  have e3 : ascG (fun a b : LU => ltB a.user b.user) s.lasts = true ↔ s.lasts.Pairwise fun a b => cfL a b < 0 := ascG_pw ordL27 s.lasts
  simp only [validST, pagesT, propsT, listsT, Bool.and_eq_true, decide_eq_true_eq, List.all_eq_true, e1, e2, e3, and_assoc]
  constructor
  · rintro ⟨a, b, c, d, e, f, g, h, i, j, k, l, m, n, o, p, q, r, t, u⟩
    exact ⟨a, b, ⟨c, d, e, f, g, h, i, (ruled_iff h).1 j, k, l, m, n, o, q, r, p, t, u⟩⟩
  · rintro ⟨a, b, v⟩
    exact ⟨a, b, v.c0, v.c1, v.np, v.ng, v.pg, v.asc, v.gn, (ruled_iff v.asc).2 v.rul, v.nq, v.q0, v.q1, v.pp, v.nw, v.nl, v.ws, v.wa, v.ls, v.la⟩
end Go.X

/- This text walks through the functions of the package policy and of the reference of chapter 12 on names and groups. -/
namespace Go.Proofs
open Go Go.X
set_option maxRecDepth 100000
theorem all_drop {α : Type} {p : α → Bool} {s : List α} {i : Nat} (h : i < s.length) : (s.drop i).all p = (p s[i] && (s.drop (i + 1)).all p) := by
  rw [List.drop_eq_getElem_cons h, List.all_cons]
theorem nameB_F {c : UInt8} (h : ((c.toNat : Int) < 97 ∨ 122 < (c.toNat : Int)) ∧ ((c.toNat : Int) < 48 ∨ 57 < (c.toNat : Int)) ∧ (c.toNat : Int) ≠ 45 ∧ (c.toNat : Int) ≠ 95) : nameB c = false := by
  unfold nameB; simp only [h.1, h.2.1, h.2.2.1, h.2.2.2, Bool.not_eq_false', ← Bool.decide_or, decide_true, decide_false, Bool.not_false, Bool.and_self]
theorem nameB_T {c : UInt8} (h : ¬ (((c.toNat : Int) < 97 ∨ 122 < (c.toNat : Int)) ∧ ((c.toNat : Int) < 48 ∨ 57 < (c.toNat : Int)) ∧ (c.toNat : Int) ≠ 45 ∧ (c.toNat : Int) ≠ 95)) : nameB c = true := by
  cases hn : nameB c with
  | true => rfl
  | false =>
    unfold nameB at hn
    simp only [Bool.not_eq_false', ← Bool.decide_or, Bool.and_eq_true, decide_eq_true_eq, Bool.not_eq_true', decide_eq_false_iff_not] at hn
    exact absurd ⟨hn.1.1.1, hn.1.1.2, hn.1.2, hn.2⟩ h
theorem refIsName_ok (s : Bs) (hs : s.length ≤ 9223372036854775807) : FnS Tryz.prog 79 [.c (.s s)] [] [] (Is (.c (.b (isNameT s)))) := by
  refine fn_of_J Tryz.tyOK 0 Tryz.func79 (by kernel_rfl) (c := Tryz.f79.body.getD .skip) (by kernel_rfl) Tryz.ntmps79 (rs := Tryz.f79.results.toList) rfl (by simp) (fun G => ?_)
  repeat' first | refine J_stop (c := .seq (.seq (.region 3 _ _) _) _) ?_ | refine J_seq ?_ | refine J_region Tryz.tyOK ?_ | refine J_block ?_ | refine J_cond ?_ | refine J_ret ?_ | refine J_skip ?_ | refine J_exit ?_ | refine J_scope ?_ | refine CondP.y ?_ | refine CondP.n ?_ | refine CondP.mk (fun h => ?_) (fun h => ?_) | refine EqP.mk rfl ?_ | refine NewP.mk (fun ad => ?_) | refine ArP.x ?_ | refine SideP.a ?_ | refine FinE.bool ?_ | fail
  rotate_right
  · refine ⟨?_⟩
    refine J_seq ?_
    repeat' first | refine J_seq ?_ | refine J_region Tryz.tyOK ?_ | refine J_block ?_ | refine J_cond ?_ | refine J_ret ?_ | refine J_skip ?_ | refine J_exit ?_ | refine J_scope ?_ | refine CondP.y ?_ | refine CondP.n ?_ | refine CondP.mk (fun h => ?_) (fun h => ?_) | refine EqP.mk rfl ?_ | refine NewP.mk (fun ad => ?_) | refine ArP.x ?_ | refine SideP.a ?_ | fail
    refine J_loop (α := Nat) (fun i => [(0, .c (.s s)), (3, .c (.i .i64 i))]) (fun _ => []) (fun _ => []) 0 (fun i => i ≤ s.length ∧ s.all nameB = (s.drop i).all nameB) (fun i => s.length - i)
      (InFam.mk 0 ⟨by omega, rfl⟩ SubE.a (Ents.refl _ _)) (fun i hi => ?_)
    obtain ⟨hi, hal⟩ := hi
    by_cases hlt : i < s.length
    · rw [all_drop hlt] at hal
      have hg : s[i] = s.getD i 0 := by simp [hlt]
      rw [hg] at hal
      have hb := (s.getD i 0).toNat_lt
      repeat' first | refine J_seq ?_ | refine J_region Tryz.tyOK ?_ | refine J_block ?_ | refine J_cond ?_ | refine J_ret ?_ | refine J_skip ?_ | refine J_exit ?_ | refine J_scope ?_ | refine CondP.y ?_ | refine CondP.n ?_ | refine CondP.mk (fun h => ?_) (fun h => ?_) | refine EqP.mk rfl ?_ | refine NewP.mk (fun ad => ?_) | refine ArP.x ?_ | refine SideP.a ?_ | refine FinE.bool ?_ | refine Round.mk (i + 1) (by omega) ⟨by omega, ?_⟩ SubE.a (Ents.refl _ _) | fail
      all_goals simp only [Int.toNat_natCast] at *
      all_goals first
        | (rw [hal, nameB_T (by omega), Bool.true_and])
        | (have hn : nameB (s.getD i 0) = false := nameB_F (by omega)
           rw [hn, Bool.false_and] at hal
           unfold isNameT; rw [hal, Bool.and_false])
    · have hil : i = s.length := by omega
      subst hil
      simp only [List.drop_length, List.all_nil] at hal
      repeat' first | refine J_seq ?_ | refine J_region Tryz.tyOK ?_ | refine J_block ?_ | refine J_cond ?_ | refine J_ret ?_ | refine J_skip ?_ | refine J_exit ?_ | refine J_scope ?_ | refine CondP.y ?_ | refine CondP.n ?_ | refine CondP.mk (fun h => ?_) (fun h => ?_) | refine EqP.mk rfl ?_ | refine NewP.mk (fun ad => ?_) | refine ArP.x ?_ | refine SideP.a ?_ | refine FinE.bool ?_ | fail
      (try simp only [Int.toNat_natCast, Int.toNat_zero] at *); simp only [isNameT, *, decide_true, decide_false, Bool.true_and, Bool.false_and, Bool.and_true, Bool.and_false, Bool.not_true, Bool.not_false, Bool.true_or, Bool.false_or, Bool.or_true, Bool.or_false, not_true, not_false_eq_true, ne_eq, if_true, if_false, Bool.false_eq_true]
  all_goals ((try simp only [Int.toNat_natCast, Int.toNat_zero] at *); simp only [isNameT, *, decide_true, decide_false, Bool.true_and, Bool.false_and, Bool.and_true, Bool.and_false, Bool.not_true, Bool.not_false, Bool.true_or, Bool.false_or, Bool.or_true, Bool.or_false, not_true, not_false_eq_true, ne_eq, if_true, if_false, Bool.false_eq_true]; try rfl)
theorem refBuiltIn_ok (s : Bs) : FnS Tryz.prog 185 [.c (.s s)] [] [] (Is (.c (.b (builtT s)))) := by
  refine fn_of_J Tryz.tyOK 0 Tryz.func185 (by kernel_rfl) (c := Tryz.f185.body.getD .skip) (by kernel_rfl) Tryz.ntmps185 (rs := Tryz.f185.results.toList) rfl (by simp) (fun G => ?_)
  repeat' first | refine J_seq ?_ | refine J_region Tryz.tyOK ?_ | refine J_block ?_ | refine J_cond ?_ | refine J_ret ?_ | refine J_skip ?_ | refine J_exit ?_ | refine J_scope ?_ | refine CondP.y ?_ | refine CondP.n ?_ | refine CondP.mk (fun h => ?_) (fun h => ?_) | refine EqP.mk rfl ?_ | refine NewP.mk (fun ad => ?_) | refine ArP.x ?_ | refine SideP.a ?_ | refine FinE.bool ?_ | fail
  all_goals (unfold builtT bAll bUsers; first | (rw [decide_eq_true (by assumption)]; rfl) | (rw [decide_eq_false (by assumption), decide_eq_true (by assumption)]; rfl) | (rw [decide_eq_false (by assumption), decide_eq_false (by assumption)]; rfl))
/-! ### Groups that exist -/
theorem any_take_succ {α : Type} {p : α → Bool} {l : List α} {i : Nat} (h : i < l.length) : (l.take (i + 1)).any p = ((l.take i).any p || p l[i]) := by
  rw [List.take_succ_eq_append_getElem h, List.any_append]; simp
/-- A policy as it lies in memory. -/
structure PolM where
  ga : Option Addr
  gc : Nat
  gs : List GrpM
  ra : Option Addr
  rc : Nat
  rs : List Rul
  xa : Option Addr
  xc : Nat
  xs : List Grd
def PolM.cells (p : PolM) : List C := [.sl p.ga p.gs.length p.gc, .sl p.ra p.rs.length p.rc, .sl p.xa p.xs.length p.xc]
/-- What is known of its memory. -/
def PolM.facts (p : PolM) : List Fact := [slFact 0 2 p.ga p.gs.length (gsC p.gs), memsF p.gs, slFact 0 6 p.ra p.rs.length (rsC p.rs), slFact 0 5 p.xa p.xs.length (xsC p.xs)]
def names (gs : List GrpM) : List Bs := gs.map (·.name)
theorem names_any (gs : List GrpM) (s : Bs) : (gs.any fun g => decide (g.name = s)) = (names gs).any fun x => decide (x = s) := by
  simp [names, List.any_map, Function.comp_def]
end Go.Proofs

/- This text walks through the functions of the package title, and shows what each computes. -/
namespace Go.Proofs
open Go Go.X
set_option maxRecDepth 100000
def mixed (l : List UInt8) (i : Nat) : List UInt8 := (l.take i).map lowB ++ l.drop i
def pv (s : List UInt8) (i : Nat) : Bool := decide (0 < (i : Int)) && decide (((s.getD ((i : Int) - 1).toNat 0).toNat : Int) = 32)
theorem drop_getD {s : List UInt8} {i : Nat} (h : i < s.length) : s.drop i = s.getD i 0 :: s.drop (i + 1) := by
  rw [List.drop_eq_getElem_cons h]; simp [h]
theorem clean_step {s : List UInt8} {i : Nat} (h : i < s.length) :
    cleanB (pv s i) (s.drop i) = (!badB (s.getD i 0) && !(pv s i && decide (((s.getD i 0).toNat : Int) = 32)) && cleanB (pv s (i + 1)) (s.drop (i + 1))) := by
  have e : pv s (i + 1) = ((s.getD i 0).toNat == 32) := by
    have h1 : (((i + 1 : Nat) : Int) - 1).toNat = i := by omega
    have h2 : (0 : Int) < ((i + 1 : Nat) : Int) := by omega
    unfold pv
    rw [h1, decide_eq_true h2, Bool.true_and]
    rw [Bool.eq_iff_iff]; simp; omega
  have e2 : decide (((s.getD i 0).toNat : Int) = 32) = ((s.getD i 0).toNat == 32) := by rw [Bool.eq_iff_iff]; simp; omega
  rw [drop_getD h, cleanB, e, e2]
end Go.Proofs

/- This text says in plain Lean what the reference functions of chapter 1 compute, and links it to what the package title computes. -/
namespace Go.X
open Go.Lib
/-- The first place from on at which t stands in s, or -1. -/
def refIdx (s t : List UInt8) (i : Nat) : Int := if index (s.drop i) t = -1 then -1 else index (s.drop i) t + i
theorem slice_mid (s : List UInt8) (i n : Nat) : (s.take (i + n)).drop i = (s.drop i).take n := by
  rw [List.drop_take]; congr 1; omega
theorem pre_iff (s t : List UInt8) : t.isPrefixOf s = true ↔ s.take t.length = t := by
  rw [List.isPrefixOf_iff_prefix, List.prefix_iff_eq_take]
  exact eq_comm
theorem refIdx_hit {s t : List UInt8} {i : Nat} (ht : 1 ≤ t.length) (h : i + t.length ≤ s.length) (he : (s.take (i + t.length)).drop i = t) : refIdx s t i = i := by
  rw [slice_mid] at he
  have hp := (pre_iff (s.drop i) t).2 he
  have : index (s.drop i) t = 0 := by
    cases hs : s.drop i with
    | nil => have := congrArg List.length hs; simp at this; omega
    | cons b r => rw [hs] at hp; simp [index, hp]
  simp [refIdx, this]
theorem refIdx_miss {s t : List UInt8} {i : Nat} (ht : 1 ≤ t.length) (h : i + t.length ≤ s.length) (he : ¬ (s.take (i + t.length)).drop i = t) : refIdx s t i = refIdx s t (i + 1) := by
  rw [slice_mid] at he
  have hp : t.isPrefixOf (s.drop i) = false := by
    cases hx : t.isPrefixOf (s.drop i) with
    | false => rfl
    | true => exact absurd ((pre_iff _ _).1 hx) he
  have hd : s.drop (i + 1) = (s.drop i).tail := by rw [List.tail_drop]
  unfold refIdx
  rw [hd]
  cases hs : s.drop i with
  | nil => have := congrArg List.length hs; simp at this; omega
  | cons b r =>
    rw [hs] at hp
    have hge := index_ge r t
    have e : index (b :: r) t = if index r t = -1 then -1 else index r t + 1 := by simp [index, hp]
    rw [e, List.tail_cons]
    by_cases hm : index r t = -1
    · simp [hm]
    · rw [if_neg hm, if_neg hm, if_neg (by omega)]; omega
theorem refIdx_end {s t : List UInt8} {i : Nat} (ht : 1 ≤ t.length) (h : ¬ i + t.length ≤ s.length) : refIdx s t i = -1 := by
  have : index (s.drop i) t = -1 := by
    have hge := index_ge (s.drop i) t
    by_cases hx : index (s.drop i) t = -1
    · exact hx
    · have := index_room (s.drop i) t (by omega)
      simp at this; omega
  simp [refIdx, this]
theorem index_cut (c : UInt8) : ∀ s : List UInt8, index s [c] = if (cutAt c s).2.2 = true then ((cutAt c s).1.length : Int) else -1
  | [] => by simp [index_nil, cutAt]
  | x :: r => by
    have ih := index_cut c r
    by_cases h : x = c
    · subst h; simp [index_same, cutAt]
    · rw [index_other h, ih]
      simp only [cutAt, if_neg h]
      by_cases hc : (cutAt c r).2.2 = true
      · rw [if_pos hc, if_pos hc, if_neg (by omega)]; simp
      · rw [if_neg hc, if_neg hc, if_pos rfl]
theorem cutAt_take (c : UInt8) : ∀ s : List UInt8, s.take (cutAt c s).1.length = (cutAt c s).1
  | [] => by simp [cutAt]
  | x :: r => by
    have ih := cutAt_take c r
    simp only [cutAt]; split
    · simp
    · simp [ih]
theorem cutAt_drop (c : UInt8) : ∀ s : List UInt8, (cutAt c s).2.2 = true → s.drop ((cutAt c s).1.length + 1) = (cutAt c s).2.1 ∧ (cutAt c s).1.length < s.length
  | [], h => by simp [cutAt] at h
  | x :: r, h => by
    have ih := cutAt_drop c r
    simp only [cutAt] at h ⊢
    split
    · simp
    · rename_i hx
      rw [if_neg hx] at h
      have := ih h
      simp [this.1]; omega
theorem index_byte (c : UInt8) : ∀ l : List UInt8, index l [c] = indexByte l c
  | [] => by simp [index_nil, indexByte]
  | x :: r => by
    have ih := index_byte c r
    by_cases h : x = c
    · subst h; simp [index_same, indexByte]
    · rw [index_other h, ih]
      simp only [indexByte, beq_iff_eq, if_neg h]
theorem refIdx_byte (l : List UInt8) (c : UInt8) : refIdx l [c] 0 = indexByte l c := by
  rw [← index_byte]
  unfold refIdx
  rw [List.drop_zero]
  split
  · rename_i h; rw [h]
  · omega
/-- Without one blank at the end. -/
def noEnd (p : List UInt8) : List UInt8 := if (decide (0 < (p.length : Int)) && decide (((p.getD ((p.length : Int) - 1).toNat 0).toNat : Int) = 32)) = true then p.take ((p.length : Int) - 1).toNat else p
theorem noEnd_eq (p : List UInt8) : noEnd p = trimSuffix p [32] := by
  have key : (decide (0 < (p.length : Int)) && decide (((p.getD ((p.length : Int) - 1).toNat 0).toNat : Int) = 32)) = hasSuffix p [32] := by
    rcases List.eq_nil_or_concat p with rfl | ⟨q, x, rfl⟩
    · rfl
    · have e : (((q.concat x).length : Int) - 1).toNat = q.length := by simp
      rw [e]
      have h1 : (q.concat x).getD q.length 0 = x := by simp
      rw [h1]
      rw [Bool.eq_iff_iff]
      simp only [Bool.and_eq_true, decide_eq_true_eq, hasSuffix, List.isSuffixOf_iff_suffix, List.concat_eq_append]
      constructor
      · rintro ⟨_, h⟩
        have : x = 32 := UInt8.toNat_inj.1 (by simpa using Int.ofNat.inj h)
        subst this
        exact List.suffix_append _ _
      · rintro ⟨t, ht⟩
        have := List.append_inj_right' ht (by simp)
        simp at this
        subst this
        simp
  unfold noEnd trimSuffix
  rw [key]
  cases hs : hasSuffix p [32] with
  | false => simp
  | true =>
    simp only [if_true, List.length_singleton]
    congr 1
    omega
/-- Without one blank ahead. -/
def noFront (t : List UInt8) : List UInt8 := if (decide (0 < (t.length : Int)) && decide (((t.getD 0 0).toNat : Int) = 32)) = true then t.drop 1 else t
theorem noFront_eq (t : List UInt8) : noFront t = trimPrefix t [32] := by
  cases t with
  | nil => rfl
  | cons x r =>
    have h : ((((x :: r).getD 0 0).toNat : Int) = 32) ↔ x = 32 := by
      simp only [List.getD_cons_zero]
      exact ⟨fun h => UInt8.toNat_inj.1 (by simpa using Int.ofNat.inj h), fun h => by subst h; rfl⟩
    unfold noFront trimPrefix hasPrefix
    by_cases hx : x = 32
    · rw [if_pos (by simp only [Bool.and_eq_true, decide_eq_true_eq]; exact ⟨by simp, h.2 hx⟩), if_pos (by simp [List.isPrefixOf, hx])]
      rfl
    · rw [if_neg (by simp only [Bool.and_eq_true, decide_eq_true_eq]; exact fun hh => hx (h.1 hh.2)), if_neg (by simp [List.isPrefixOf, Ne.symm hx])]
theorem slice_one {s : List UInt8} {i : Nat} (h : i < s.length) : (s.take (i + 1)).drop i = [s.getD i 0] := by
  rw [slice_mid, List.drop_eq_getElem_cons h]
  simp only [List.take_succ_cons, List.take_zero]
  simp [h]
theorem stepB_nil : stepB [] 32 = [] := by decide
theorem stepB_blank {o : List UInt8} (h : ((o.getD ((o.length : Int) - 1).toNat 0).toNat : Int) = 32) : stepB o 32 = o := by
  unfold stepB
  rw [decide_eq_true h]
  simp
theorem stepB_first {o : List UInt8} (h0 : ¬ o = []) (h : ¬ ((o.getD ((o.length : Int) - 1).toNat 0).toNat : Int) = 32) : stepB o 32 = o ++ [32] := by
  unfold stepB
  have h1 : (0 : Int) < (o.length : Int) := by have := List.length_pos_iff.2 h0; omega
  rw [decide_eq_false h, decide_eq_true h1]
  simp
theorem stepB_other {o : List UInt8} {y : UInt8} (h : ¬ y = 32) : stepB o y = o ++ [y] := by
  unfold stepB
  have h1 : ¬ (y.toNat : Int) = 32 := fun hh => h (UInt8.toNat_inj.1 (by simpa using Int.ofNat.inj hh))
  rw [decide_eq_false h1]
  simp
theorem usc_get (s : List UInt8) {i : Nat} (h : i < s.length) : (usc s).getD i 0 = if s.getD i 0 = 95 then 32 else s.getD i 0 := by
  simp [usc, h]
theorem splitOn_snoc (c x : UInt8) : ∀ l : List UInt8, splitOn c (l ++ [x]) = if x = c then splitOn c l ++ [[]] else (splitOn c l).dropLast ++ [(splitOn c l).getLastD [] ++ [x]]
  | [] => by simp only [List.nil_append, splitOn]; split <;> rfl
  | y :: r => by
    have ih := splitOn_snoc c x r
    have e := splitOn_eq c r
    simp only [List.cons_append, splitOn]
    rw [ih]
    by_cases hx : x = c
    · simp only [if_pos hx]
      by_cases hy : y = c
      · simp [hy]
      · simp only [if_neg hy]
        rw [e]; rfl
    · simp only [if_neg hx]
      cases ht : (splitOn c r).tail with
      | nil =>
        rw [ht] at e
        by_cases hy : y = c
        · simp only [if_pos hy]; rw [e]; rfl
        · simp only [if_neg hy]; rw [e]; rfl
      | cons z t =>
        rw [ht] at e
        by_cases hy : y = c
        · simp only [if_pos hy]; rw [e]; simp [List.getLastD]
        · simp only [if_neg hy]; rw [e]; simp [List.getLastD]
end Go.X

/- This text walks through the small functions of the reference of chapter 1. -/
namespace Go.Proofs
open Go Go.X
set_option maxRecDepth 100000
theorem lower_ok (b : UInt8) : FnS Tryz.prog 186 [.c (byteC b)] [] [] (Is (.c (byteC (lowB b)))) := by
  have hb := b.toNat_lt
  refine fn_of_J Tryz.tyOK 0 Tryz.func186 (by kernel_rfl) (c := Tryz.f186.body.getD .skip) (by kernel_rfl) Tryz.ntmps186 (rs := Tryz.f186.results.toList) rfl (by simp) (fun G => ?_)
  repeat' first | refine J_seq ?_ | refine J_region Tryz.tyOK ?_ | refine J_block ?_ | refine J_cond ?_ | refine J_ret ?_ | refine J_skip ?_ | refine J_exit ?_ | refine J_scope ?_ | refine CondP.y ?_ | refine CondP.n ?_ | refine CondP.mk (fun h => ?_) (fun h => ?_) | refine EqP.mk rfl ?_ | refine NewP.mk (fun ad => ?_) | refine ArP.x ?_ | refine SideP.a ?_ | refine FinE.is ?_ | fail
  · rw [byteC, lowB_yes (by assumption) (by assumption)]
  · rw [lowB_no (by omega)]
  · rw [lowB_no (by omega)]
theorem low_same {a b : UInt8} : ((lowB a).toNat : Int) = (lowB b).toNat ↔ lowB a = lowB b :=
  ⟨fun h => UInt8.toNat_inj.1 (by omega), fun h => by rw [h]⟩
theorem map_take_succ {f : UInt8 → UInt8} {a : List UInt8} {i : Nat} (h : i < a.length) : (a.take (i + 1)).map f = (a.take i).map f ++ [f (a.getD i 0)] := by
  rw [List.take_succ_eq_append_getElem h, List.map_append]; simp [h]
theorem sameLetters_ok (a b : List UInt8) (ha : a.length ≤ 1000000) : FnS Tryz.prog 161 [.c (.s a), .c (.s b)] [] [] (Is (.c (.b (decide (a.map lowB = b.map lowB))))) := by
  refine fn_of_J Tryz.tyOK 0 Tryz.func161 (by kernel_rfl) (c := Tryz.f161.body.getD .skip) (by kernel_rfl) Tryz.ntmps161 (rs := Tryz.f161.results.toList) rfl (by simp) (fun G => ?_)
  repeat' first | refine J_stop (c := .seq (.seq (.region 3 _ _) _) _) ?_ | refine J_seq ?_ | refine J_region Tryz.tyOK ?_ | refine J_block ?_ | refine J_cond ?_ | refine J_ret ?_ | refine J_skip ?_ | refine J_exit ?_ | refine J_scope ?_ | refine CondP.y ?_ | refine CondP.n ?_ | refine CondP.mk (fun h => ?_) (fun h => ?_) | refine EqP.mk rfl ?_ | refine NewP.mk (fun ad => ?_) | refine ArP.x ?_ | refine SideP.a ?_ | refine FinE.bool ?_ | fail
  rotate_left
  · refine decide_eq_false fun h => ?_
    have := congrArg List.length h
    simp at this; omega
  refine ⟨?_⟩
  refine J_seq ?_
  repeat' first | refine J_seq ?_ | refine J_region Tryz.tyOK ?_ | refine J_block ?_ | refine J_cond ?_ | refine J_ret ?_ | refine J_skip ?_ | refine J_exit ?_ | refine J_scope ?_ | refine CondP.y ?_ | refine CondP.n ?_ | refine CondP.mk (fun h => ?_) (fun h => ?_) | refine EqP.mk rfl ?_ | refine NewP.mk (fun ad => ?_) | refine ArP.x ?_ | refine SideP.a ?_ | fail | fail
  refine J_loop (α := Nat) (fun i => [(0, .c (.s a)), (1, .c (.s b)), (5, .c (.i .i64 i))]) (fun _ => []) (fun _ => []) 0 (fun i => i ≤ a.length ∧ (a.take i).map lowB = (b.take i).map lowB) (fun i => a.length - i)
    (InFam.mk 0 ⟨by omega, rfl⟩ SubE.a (Ents.refl _ _)) (fun i hi => ?_)
  obtain ⟨hi, hal⟩ := hi
  by_cases hlt : i < a.length
  · have h1 := map_take_succ (f := lowB) hlt
    have h2 := map_take_succ (f := lowB) (a := b) (i := i) (by omega)
    repeat' first | refine J_seq ?_ | refine J_region Tryz.tyOK ?_ | refine J_block ?_ | refine J_cond ?_ | refine J_ret ?_ | refine J_skip ?_ | refine J_exit ?_ | refine J_scope ?_ | refine CondP.y ?_ | refine CondP.n ?_ | refine CondP.mk (fun h => ?_) (fun h => ?_) | refine EqP.mk rfl ?_ | refine NewP.mk (fun ad => ?_) | refine ArP.x ?_ | refine SideP.a ?_ | refine J_draw Tryz.tyOK (by kernel_rfl) [0, 1, 2, 3, 4, 5, 6, 7, 8] [] _ _ (by kernel_rfl) (Ents.refl _ _) ?_ | refine CallQ.mk [] _ (lower_ok _) (fun _ _ => trivial) ?_ | refine Round.mk (i + 1) (by omega) ⟨by omega, ?_⟩ SubE.a (Ents.refl _ _) | refine FinE.bool ?_ | fail
    · have h5 : lowB (a.getD i 0) = lowB (b.getD i 0) := low_same.1 (by assumption)
      rw [h1, h2, hal, h5]
    · refine decide_eq_false fun hh => ?_
      have h3 : (a.take (i + 1)).map lowB = (b.take (i + 1)).map lowB := by rw [List.map_take, List.map_take, hh]
      rw [h1, h2, hal] at h3
      have h4 := List.append_cancel_left h3
      simp only [List.cons.injEq, and_true] at h4
      have h5 := low_same.2 h4
      exact absurd h5 (by assumption)
  · have hil : i = a.length := by omega
    subst hil
    repeat' first | refine J_seq ?_ | refine J_region Tryz.tyOK ?_ | refine J_block ?_ | refine J_cond ?_ | refine J_ret ?_ | refine J_skip ?_ | refine J_exit ?_ | refine J_scope ?_ | refine CondP.y ?_ | refine CondP.n ?_ | refine CondP.mk (fun h => ?_) (fun h => ?_) | refine EqP.mk rfl ?_ | refine NewP.mk (fun ad => ?_) | refine ArP.x ?_ | refine SideP.a ?_ | refine FinE.bool ?_ | fail
    refine decide_eq_true ?_
    rw [List.take_length, List.take_of_length_le (by omega)] at hal
    exact hal
theorem spaceName_ok (n : Int) : FnS Tryz.prog 162 [.c (.i .i64 n)] [] [] (Is (.c (.s (spName n.toNat)))) := by
  have hlo : n < 0 → spName n.toNat = [] := fun h => by rw [show n.toNat = 0 by omega]; rfl
  have hhi : 6 ≤ n → spName n.toNat = [] := fun h => by
    obtain ⟨k, hk⟩ : ∃ k, n.toNat = k + 6 := ⟨n.toNat - 6, by omega⟩
    rw [hk]; rfl
  have hid : 0 ≤ n → n < 6 → ([C.s [], .s (spName 1), .s (spName 2), .s (spName 3), .s (spName 4), .s (spName 5)].drop (n.toNat * 1 + 0)).take 1 = [C.s (spName n.toNat)] := fun h0 h1 => by
    rcases (by omega : n = 0 ∨ n = 1 ∨ n = 2 ∨ n = 3 ∨ n = 4 ∨ n = 5) with rfl | rfl | rfl | rfl | rfl | rfl <;> rfl
  refine fn_of_J Tryz.tyOK 0 Tryz.func162 (by kernel_rfl) (c := Tryz.f162.body.getD .skip) (by kernel_rfl) Tryz.ntmps162 (rs := Tryz.f162.results.toList) rfl (by simp) (fun G => ?_)
  repeat' first | refine J_seq ?_ | refine J_region Tryz.tyOK ?_ | refine J_block ?_ | refine J_cond ?_ | refine J_ret ?_ | refine J_skip ?_ | refine J_exit ?_ | refine J_scope ?_ | refine CondP.y ?_ | refine CondP.n ?_ | refine CondP.mk (fun h => ?_) (fun h => ?_) | refine EqP.mk rfl ?_ | refine NewP.mk (fun ad => ?_) | refine ArP.x ?_ | refine SideP.a ?_ | refine FinE.str ?_ | refine IdxE.mk 9 1 _ (.inl ⟨6, List.Mem.head _⟩) (by omega) (by omega) ?_ | refine LoadE.mk 9 6 [C.s [], .s (spName 1), .s (spName 2), .s (spName 3), .s (spName 4), .s (spName 5)] [C.s (spName n.toNat)] (.inl ⟨6, List.Mem.head _⟩) (by omega) (by omega) (by omega) (hid (by omega) (by omega)) ?_ | fail
  · exact hlo (by omega)
  · exact hhi (by omega)
  · rfl
theorem index_ok (s t : List UInt8) (i0 : Nat) (hs : s.length ≤ 1000000) (ht1 : 1 ≤ t.length) (ht : t.length ≤ 1000000) (hi0 : i0 ≤ s.length) : FnS Tryz.prog 115 [.c (.s s), .c (.s t), .c (.i .i64 i0)] [] [] (Is (.c (.i .i64 (refIdx s t i0)))) := by
  refine fn_of_J Tryz.tyOK 0 Tryz.func115 (by kernel_rfl) (c := Tryz.f115.body.getD .skip) (by kernel_rfl) Tryz.ntmps115 (rs := Tryz.f115.results.toList) rfl (by simp) (fun G => ?_)
  refine J_seq ?_
  repeat' first | refine J_stop (c := .seq (.seq (.region 1 _ _) _) _) ?_ | refine J_seq ?_ | refine J_region Tryz.tyOK ?_ | refine J_block ?_ | refine J_cond ?_ | refine J_ret ?_ | refine J_skip ?_ | refine J_exit ?_ | refine J_scope ?_ | refine CondP.y ?_ | refine CondP.n ?_ | refine CondP.mk (fun h => ?_) (fun h => ?_) | refine EqP.mk rfl ?_ | refine NewP.mk (fun ad => ?_) | refine ArP.x ?_ | refine SideP.a ?_ | fail | fail
  refine ⟨?_⟩
  refine J_seq ?_
  repeat' first | refine J_seq ?_ | refine J_region Tryz.tyOK ?_ | refine J_block ?_ | refine J_cond ?_ | refine J_ret ?_ | refine J_skip ?_ | refine J_exit ?_ | refine J_scope ?_ | refine CondP.y ?_ | refine CondP.n ?_ | refine CondP.mk (fun h => ?_) (fun h => ?_) | refine EqP.mk rfl ?_ | refine NewP.mk (fun ad => ?_) | refine ArP.x ?_ | refine SideP.a ?_ | fail | fail
  refine J_loop (α := Nat) (fun i => [(0, .c (.s s)), (1, .c (.s t)), (7, .c (.i .i64 i))]) (fun _ => []) (fun _ => []) 0 (fun i => i ≤ s.length ∧ refIdx s t i0 = refIdx s t i) (fun i => s.length - i)
    (InFam.mk i0 ⟨by omega, rfl⟩ SubE.a (Ents.refl _ _)) (fun i hi => ?_)
  obtain ⟨hi, hal⟩ := hi
  by_cases hle : i + t.length ≤ s.length
  · have h1 := refIdx_hit (s := s) (t := t) (i := i) ht1 hle
    have h2 := refIdx_miss (s := s) (t := t) (i := i) ht1 hle
    repeat' first | refine J_seq ?_ | refine J_region Tryz.tyOK ?_ | refine J_block ?_ | refine J_cond ?_ | refine J_ret ?_ | refine J_skip ?_ | refine J_exit ?_ | refine J_scope ?_ | refine CondP.y ?_ | refine CondP.n ?_ | refine CondP.mk (fun h => ?_) (fun h => ?_) | refine EqP.mk rfl ?_ | refine NewP.mk (fun ad => ?_) | refine ArP.x ?_ | refine SideP.a ?_ | refine Round.mk (i + 1) (by omega) ⟨by omega, ?_⟩ SubE.a (Ents.refl _ _) | refine FinE.int ?_ | fail
    · rw [hal]; exact h1 (by assumption)
    · rw [hal]; exact h2 (by assumption)
  · repeat' first | refine J_seq ?_ | refine J_region Tryz.tyOK ?_ | refine J_block ?_ | refine J_cond ?_ | refine J_ret ?_ | refine J_skip ?_ | refine J_exit ?_ | refine J_scope ?_ | refine CondP.y ?_ | refine CondP.n ?_ | refine CondP.mk (fun h => ?_) (fun h => ?_) | refine EqP.mk rfl ?_ | refine NewP.mk (fun ad => ?_) | refine ArP.x ?_ | refine SideP.a ?_ | refine FinE.int ?_ | fail
    rw [hal, refIdx_end ht1 hle]
end Go.Proofs

/- This text walks through the functions prefixed, cut, blanks and Parts of the reference of chapter 1. -/
namespace Go.Proofs
open Go Go.X
set_option maxRecDepth 100000
theorem prefixed_ok (s : List UInt8) (hs : s.length ≤ 1000000) : FnS Tryz.prog 117 [.c (.s s)] [] []
    (Is (.t2 (.c (.i .i64 (colonNo s))) (.c (.i .i64 (if colonNo s = 0 then 0 else ((cutAt 58 s).1.length : Int)))))) := by
  have c1 := index_ok s [58] 0 hs (by decide) (by decide) (by omega)
  have hr : refIdx s [58] 0 = if (cutAt 58 s).2.2 = true then ((cutAt 58 s).1.length : Int) else -1 := by
    rw [← index_cut]
    unfold refIdx
    rw [List.drop_zero]
    split
    · rename_i h; rw [h]
    · omega
  rw [hr] at c1
  have hl := cutAt_len1 58 s
  cases hc : (cutAt 58 s).2.2 with
  | false =>
    have e : colonNo s = 0 := by simp [colonNo, hc]
    rw [hc, if_neg (by decide)] at c1
    rw [e]
    refine fn_of_J Tryz.tyOK 0 Tryz.func117 (by kernel_rfl) (c := Tryz.f117.body.getD .skip) (by kernel_rfl) Tryz.ntmps117 (rs := Tryz.f117.results.toList) rfl (by simp) (fun G => ?_)
    repeat' first | refine J_seq ?_ | refine J_region Tryz.tyOK ?_ | refine J_block ?_ | refine J_cond ?_ | refine J_ret ?_ | refine J_skip ?_ | refine J_exit ?_ | refine J_scope ?_ | refine CondP.y ?_ | refine CondP.n ?_ | refine CondP.mk (fun h => ?_) (fun h => ?_) | refine EqP.mk rfl ?_ | refine NewP.mk (fun ad => ?_) | refine ArP.x ?_ | refine SideP.a ?_ | refine CallP.is c1 ?_ | refine FinE.is ?_ | fail
    all_goals rfl
  | true =>
    have e : colonNo s = spaceNo (noEnd (cutAt 58 s).1) := by rw [noEnd_eq]; simp [colonNo, hc]
    have ht := cutAt_take 58 s
    rw [hc, if_pos rfl] at c1
    rw [e]
    generalize (cutAt 58 s).1 = p at *
    obtain ⟨q, hq⟩ : ∃ q, noEnd p = q := ⟨_, rfl⟩
    have hql : q.length ≤ p.length := by
      rw [← hq]; unfold noEnd; split
      · simp
      · exact Nat.le_refl _
    rw [hq]
    refine fn_of_J Tryz.tyOK 0 Tryz.func117 (by kernel_rfl) (c := Tryz.f117.body.getD .skip) (by kernel_rfl) Tryz.ntmps117 (rs := Tryz.f117.results.toList) rfl (by simp) (fun G => ?_)
    repeat' first | refine J_cut (x := .seq (.region 5 _ _) _) (α := Unit) (fun _ => [(0, .c (.s s)), (4, .c (.i .i64 p.length)), (5, .c (.s q))]) (fun _ => []) (fun _ => []) 0 (fun _ => True) ?_ (fun _ _ => ?_) | refine J_cut (x := .region 4 _ _) (α := Unit) (fun _ => [(0, .c (.s s)), (4, .c (.i .i64 p.length)), (5, .c (.s p))]) (fun _ => []) (fun _ => []) 0 (fun _ => True) ?_ (fun _ _ => ?_) | refine J_seq ?_ | refine J_region Tryz.tyOK ?_ | refine J_block ?_ | refine J_cond ?_ | refine J_ret ?_ | refine J_skip ?_ | refine J_exit ?_ | refine J_scope ?_ | refine CondP.y ?_ | refine CondP.n ?_ | refine CondP.mk (fun h => ?_) (fun h => ?_) | refine EqP.mk rfl ?_ | refine NewP.mk (fun ad => ?_) | refine ArP.x ?_ | refine SideP.a ?_ | refine CallP.is c1 ?_ | refine FinE.is ?_ | refine InFam.mk () trivial (SubE.cons rfl (VEq.refl _) (SubE.cons rfl (VEq.refl _) (SubE.cons rfl (VEq.str ?_) SubE.nil))) (Ents.refl _ _) | refine J_rounds 6 ?_ | refine JR_succ ?_ | refine CallP.is (spaceName_ok _) ?_ | refine CallP.isB (sameLetters_ok q _ (by omega)) (fun h => ?_) (fun h => ?_) | fail
    · exact ht
    · rw [← hq]; unfold noEnd; (try simp only [Int.toNat_natCast, Int.toNat_zero] at *); simp only [*, decide_true, decide_false, Bool.true_and, Bool.false_and, Bool.and_true, Bool.and_false, Bool.not_true, Bool.not_false, Bool.true_or, Bool.false_or, Bool.or_true, Bool.or_false, not_true, not_false_eq_true, ne_eq, if_true, if_false, Bool.false_eq_true]
    · rw [← hq]; unfold noEnd; (try simp only [Int.toNat_natCast, Int.toNat_zero] at *); simp only [*, decide_true, decide_false, Bool.true_and, Bool.false_and, Bool.and_true, Bool.and_false, Bool.not_true, Bool.not_false, Bool.true_or, Bool.false_or, Bool.or_true, Bool.or_false, not_true, not_false_eq_true, ne_eq, if_true, if_false, Bool.false_eq_true]
    · rw [← hq]; unfold noEnd; (try simp only [Int.toNat_natCast, Int.toNat_zero] at *); simp only [*, decide_true, decide_false, Bool.true_and, Bool.false_and, Bool.and_true, Bool.and_false, Bool.not_true, Bool.not_false, Bool.true_or, Bool.false_or, Bool.or_true, Bool.or_false, not_true, not_false_eq_true, ne_eq, if_true, if_false, Bool.false_eq_true]
    all_goals
      have hk : ∃ k, spaceNo q = k := ⟨_, rfl⟩
      obtain ⟨k, hk⟩ := hk
      have hk' := hk
      unfold spaceNo at hk
      repeat (first | rw [if_pos (of_decide_eq_true (by assumption))] at hk | rw [if_neg (of_decide_eq_false (by assumption))] at hk)
      subst hk
      rw [hk']
      rfl
theorem cut_fn_ok (s : List UInt8) (n : Nat) (hs : s.length ≤ 1000000) (hn : n ≤ s.length) : FnS Tryz.prog 193 [.c (.s s), .c (.i .i64 n)] [] [] (Is (.c (.s (Lib.trimPrefix (s.drop n) [32])))) := by
  rw [← noFront_eq]
  refine fn_of_J Tryz.tyOK 0 Tryz.func193 (by kernel_rfl) (c := Tryz.f193.body.getD .skip) (by kernel_rfl) Tryz.ntmps193 (rs := Tryz.f193.results.toList) rfl (by simp) (fun G => ?_)
  repeat' first | refine J_cut (x := .region 1 _ _) (α := Unit) (fun _ => [(0, .c (.s (s.drop n)))]) (fun _ => []) (fun _ => []) 0 (fun _ => True) ?_ (fun _ _ => ?_) | refine J_seq ?_ | refine J_region Tryz.tyOK ?_ | refine J_block ?_ | refine J_cond ?_ | refine J_ret ?_ | refine J_skip ?_ | refine J_exit ?_ | refine J_scope ?_ | refine CondP.y ?_ | refine CondP.n ?_ | refine CondP.mk (fun h => ?_) (fun h => ?_) | refine EqP.mk rfl ?_ | refine NewP.mk (fun ad => ?_) | refine ArP.x ?_ | refine SideP.a ?_ | refine InFam.mk () trivial (SubE.cons rfl (VEq.refl _) SubE.nil) (Ents.refl _ _) | refine SideP.mk (by simp at *; omega) ?_ | refine FinE.str ?_ | fail
  all_goals (unfold noFront; (try simp only [Int.toNat_natCast, Int.toNat_zero] at *); simp only [*, decide_true, decide_false, Bool.true_and, Bool.false_and, Bool.and_true, Bool.and_false, Bool.not_true, Bool.not_false, Bool.true_or, Bool.false_or, Bool.or_true, Bool.or_false, not_true, not_false_eq_true, ne_eq, if_true, if_false, Bool.false_eq_true]; try rfl)
end Go.Proofs

/- This text walks through the functions blanks and Parts of the reference of chapter 1. -/
namespace Go.Proofs
open Go Go.X
set_option maxRecDepth 100000
theorem blanks_ok (s : List UInt8) (hs : s.length ≤ 1000000) : FnS Tryz.prog 192 [.c (.s s)] [] [] (Is (.c (.s (singleB (usc s))))) := by
  have hul : (usc s).length = s.length := by simp [usc]
  have hne : singleB (usc s) = noEnd (outB (usc s) s.length) := by rw [noEnd_eq, ← hul, outB_all]; rfl
  rw [hne]
  refine fn_of_J Tryz.tyOK 0 Tryz.func192 (by kernel_rfl) (c := Tryz.f192.body.getD .skip) (by kernel_rfl) Tryz.ntmps192 (rs := Tryz.f192.results.toList) rfl (by simp) (fun G => ?_)
  refine J_seq ?_
  repeat' first | refine J_stop (c := .seq (.seq (.region 2 _ _) _) _) ?_ | refine J_seq ?_ | refine J_region Tryz.tyOK ?_ | refine J_block ?_ | refine J_cond ?_ | refine J_ret ?_ | refine J_skip ?_ | refine J_exit ?_ | refine J_scope ?_ | refine CondP.y ?_ | refine CondP.n ?_ | refine CondP.mk (fun h => ?_) (fun h => ?_) | refine EqP.mk rfl ?_ | refine NewP.mk (fun ad => ?_) | refine ArP.x ?_ | refine SideP.a ?_ | fail | fail
  refine ⟨?_⟩
  refine J_seq ?_
  repeat' first | refine J_seq ?_ | refine J_region Tryz.tyOK ?_ | refine J_block ?_ | refine J_cond ?_ | refine J_ret ?_ | refine J_skip ?_ | refine J_exit ?_ | refine J_scope ?_ | refine CondP.y ?_ | refine CondP.n ?_ | refine CondP.mk (fun h => ?_) (fun h => ?_) | refine EqP.mk rfl ?_ | refine NewP.mk (fun ad => ?_) | refine ArP.x ?_ | refine SideP.a ?_ | fail | fail
  refine J_loop (α := Nat) (fun i => [(0, .c (.s s)), (3, .c (.s (outB (usc s) i))), (4, .c (.i .i64 i))]) (fun _ => []) (fun _ => []) 0 (fun i => i ≤ s.length) (fun i => s.length - i)
    (InFam.mk 0 (by omega) SubE.a (Ents.refl _ _)) (fun i hi => ?_)
  have hol := outB_le (s := usc s) (i := i) (by omega)
  by_cases hlt : i < s.length
  · have hst := outB_succ (s := usc s) (i := i) (by omega)
    have h1 := slice_one hlt
    have hu := usc_get s hlt
    obtain ⟨o, ho⟩ : ∃ o, outB (usc s) i = o := ⟨_, rfl⟩
    obtain ⟨y, hy⟩ : ∃ y, (usc s).getD i 0 = y := ⟨_, rfl⟩
    rw [hy, ho] at hst
    rw [ho] at hol ⊢
    rw [hy] at hu
    repeat' first | refine J_cut (x := .region 5 _ _) (α := Unit) (fun _ => [(0, .c (.s s)), (3, .c (.s o)), (4, .c (.i .i64 i)), (5, .c (.s [s.getD i 0]))]) (fun _ => []) (fun _ => []) 0 (fun _ => True) ?_ (fun _ _ => ?_) | refine J_cut (x := .seq (.region 6 _ _) _) (α := Unit) (fun _ => [(0, .c (.s s)), (3, .c (.s o)), (4, .c (.i .i64 i)), (5, .c (.s [y]))]) (fun _ => []) (fun _ => []) 0 (fun _ => True) ?_ (fun _ _ => ?_) | refine J_seq ?_ | refine J_region Tryz.tyOK ?_ | refine J_block ?_ | refine J_cond ?_ | refine J_ret ?_ | refine J_skip ?_ | refine J_exit ?_ | refine J_scope ?_ | refine CondP.y ?_ | refine CondP.n ?_ | refine CondP.mk (fun h => ?_) (fun h => ?_) | refine EqP.mk rfl ?_ | refine NewP.mk (fun ad => ?_) | refine ArP.x ?_ | refine SideP.a ?_ | refine InFam.mk () trivial (SubE.cons rfl (VEq.refl _) (SubE.cons rfl (VEq.refl _) (SubE.cons rfl (VEq.refl _) (SubE.cons rfl (VEq.str ?_) SubE.nil)))) (Ents.refl _ _) | refine Round.mk (i + 1) (by omega) (by omega) (SubE.cons rfl (VEq.refl _) (SubE.cons rfl (VEq.str ?_) (SubE.cons rfl (VEq.int (by omega)) SubE.nil))) (Ents.refl _ _) | refine SideP.mk (by have := pos_of_ne ‹¬ o = []›; omega) ?_ | fail
    · exact h1
    · have h2 : s.getD i 0 = 95 := (List.cons.inj (show [s.getD i 0] = [95] by assumption)).1
      rw [hu, if_pos h2]
    · have h2 : ¬ s.getD i 0 = 95 := fun hh => absurd (show [s.getD i 0] = [95] by rw [hh]) (by assumption)
      rw [hu, if_neg h2]
    · have h2 : y = 32 := (List.cons.inj (show [y] = [32] by assumption)).1
      have h3 : o = [] := by assumption
      rw [hst, h2, h3, stepB_nil]
    · have h2 : y = 32 := (List.cons.inj (show [y] = [32] by assumption)).1
      rw [hst, h2, stepB_blank (by assumption)]
    · have h2 : y = 32 := (List.cons.inj (show [y] = [32] by assumption)).1
      rw [hst, h2, stepB_first (by assumption) (by assumption)]
    · have h2 : ¬ y = 32 := fun hh => absurd (show [y] = [32] by rw [hh]) (by assumption)
      rw [hst, stepB_other h2]
  · have hil : i = s.length := by omega
    subst hil
    obtain ⟨o, ho⟩ : ∃ o, outB (usc s) s.length = o := ⟨_, rfl⟩
    rw [ho] at hol ⊢
    repeat' first | refine J_seq ?_ | refine J_region Tryz.tyOK ?_ | refine J_block ?_ | refine J_cond ?_ | refine J_ret ?_ | refine J_skip ?_ | refine J_exit ?_ | refine J_scope ?_ | refine CondP.y ?_ | refine CondP.n ?_ | refine CondP.mk (fun h => ?_) (fun h => ?_) | refine EqP.mk rfl ?_ | refine NewP.mk (fun ad => ?_) | refine ArP.x ?_ | refine SideP.a ?_ | refine FinE.str ?_ | fail
    all_goals (unfold noEnd; (try simp only [Int.toNat_natCast, Int.toNat_zero] at *); simp only [*, decide_true, decide_false, Bool.true_and, Bool.false_and, Bool.and_true, Bool.and_false, Bool.not_true, Bool.not_false, Bool.true_or, Bool.false_or, Bool.or_true, Bool.or_false, not_true, not_false_eq_true, ne_eq, if_true, if_false, Bool.false_eq_true]; try rfl)
theorem set_last {α : Type} {A : List α} (h : A ≠ []) (x : α) : A.set ((A.length : Int) - 1).toNat x = A.dropLast ++ [x] := by
  rcases List.eq_nil_or_concat A with rfl | ⟨q, y, rfl⟩
  · exact absurd rfl h
  · have e : (((q.concat y).length : Int) - 1).toNat = q.length := by simp
    rw [e]
    simp [List.concat_eq_append]
theorem byte_is {x : UInt8} {n : Nat} (hn : n < 256) (h : (x.toNat : Int) = (n : Int)) : x = UInt8.ofNat n := by
  apply UInt8.toNat_inj.1
  have e : (UInt8.ofNat n).toNat = n % 256 := by simp
  rw [e, Nat.mod_eq_of_lt hn]; omega
theorem byte_not {x : UInt8} {n : Nat} (hn : n < 256) (h : ¬ (x.toNat : Int) = (n : Int)) : ¬ x = UInt8.ofNat n := fun hx => by
  have e : (UInt8.ofNat n).toNat = n % 256 := by simp
  rw [hx, e, Nat.mod_eq_of_lt hn] at h
  exact h rfl
theorem parts_ok (s : List UInt8) (hs : s.length ≤ 1000000) : FnS Tryz.prog 116 [.c (.s s)] [] []
    (fun v L D => ∃ a c, v = .c (.sl a (splitOn 47 s).length c) ∧ L = [.row 9 1 a (splitOn 47 s).length c ((splitOn 47 s).map C.s)] ∧ D = []) := by
  refine fn_of_J Tryz.tyOK 0 Tryz.func116 (by kernel_rfl) (c := Tryz.f116.body.getD .skip) (by kernel_rfl) Tryz.ntmps116 (rs := Tryz.f116.results.toList) rfl (by simp) (fun G => ?_)
  refine J_seq ?_
  repeat' first | refine J_stop (c := .seq (.seq (.region 2 _ _) _) _) ?_ | refine J_seq ?_ | refine J_region Tryz.tyOK ?_ | refine J_block ?_ | refine J_cond ?_ | refine J_ret ?_ | refine J_skip ?_ | refine J_exit ?_ | refine J_scope ?_ | refine CondP.y ?_ | refine CondP.n ?_ | refine CondP.mk (fun h => ?_) (fun h => ?_) | refine EqP.mk rfl ?_ | refine NewP.mk (fun ad => ?_) | refine ArP.x ?_ | refine SideP.a ?_ | fail | fail
  refine ⟨?_⟩
  refine J_seq ?_
  repeat' first | refine J_seq ?_ | refine J_region Tryz.tyOK ?_ | refine J_block ?_ | refine J_cond ?_ | refine J_ret ?_ | refine J_skip ?_ | refine J_exit ?_ | refine J_scope ?_ | refine CondP.y ?_ | refine CondP.n ?_ | refine CondP.mk (fun h => ?_) (fun h => ?_) | refine EqP.mk rfl ?_ | refine NewP.mk (fun ad => ?_) | refine ArP.x ?_ | refine SideP.a ?_ | fail | fail
  refine J_loop (α := Nat × Option Addr × Nat) (fun x => [(0, .c (.s s)), (3, .c (.sl x.2.1 (splitOn 47 (s.take x.1)).length x.2.2)), (4, .c (.i .i64 x.1))])
    (fun x => [.row 9 1 x.2.1 (splitOn 47 (s.take x.1)).length x.2.2 ((splitOn 47 (s.take x.1)).map C.s)]) (fun _ => []) 0 (fun x => x.1 ≤ s.length) (fun x => s.length - x.1)
    (InFam.mk (0, some ⟨ad, 0, none⟩, 1) (by simp) SubE.a (Ents.refl _ _)) (fun x hi => ?_)
  obtain ⟨i, a, c⟩ := x
  dsimp only at hi ⊢
  have hsl := splitOn_length_le 47 (s.take i)
  have hsn := splitOn_ne 47 (s.take i)
  have hml := mem_splitOn_le 47 (s.take i)
  have htl : (s.take i).length = i := by simp; omega
  by_cases hlt : i < s.length
  · have hgi : s[i] = s.getD i 0 := by simp [hlt]
    have hst : splitOn 47 (s.take (i + 1)) = if s.getD i 0 = 47 then splitOn 47 (s.take i) ++ [[]] else (splitOn 47 (s.take i)).dropLast ++ [(splitOn 47 (s.take i)).getLastD [] ++ [s.getD i 0]] := by
      rw [List.take_succ_eq_append_getElem hlt, hgi, splitOn_snoc]
    have h1 := slice_one hlt
    have hl1 : ((s.take (i + 1)).drop i).length = 1 := by rw [h1]; rfl
    generalize splitOn 47 (s.take i) = A at *
    have hA := List.length_pos_iff.2 hsn
    have hrd : Reads [.row 9 1 a A.length c (A.map C.s)] [] 9 1 a A.length (A.map C.s) := .inl ⟨c, List.Mem.head _⟩
    have hla : (((A.map C.s).drop (((A.length : Int) - 1).toNat * 1 + 0)).take 1) = [C.s (A.getLastD [])] := by
      have e : ((A.length : Int) - 1).toNat = A.length - 1 := by omega
      rw [e, map_take1 (by omega)]
      simp only [List.getLastD_eq_getLast?, List.getLast?_eq_getElem?]
      rw [List.getElem?_eq_getElem (by omega)]; rfl
    have hll : (A.getLastD []).length ≤ i := by
      have := hml (A.getLastD []) (by rw [List.getLastD_eq_getLast?, List.getLast?_eq_some_getLast hsn]; exact List.getLast_mem hsn)
      omega
    repeat' first | refine J_seq ?_ | refine J_region Tryz.tyOK ?_ | refine J_block ?_ | refine J_cond ?_ | refine J_ret ?_ | refine J_skip ?_ | refine J_exit ?_ | refine J_scope ?_ | refine CondP.y ?_ | refine CondP.n ?_ | refine CondP.mk (fun h => ?_) (fun h => ?_) | refine EqP.mk rfl ?_ | refine NewP.mk (fun ad => ?_) | refine ArP.x ?_ | refine SideP.a ?_ | refine J_draw Tryz.tyOK (by kernel_rfl) [0, 1, 2, 3, 4, 5, 6, 7, 10, 11, 12, 13, 14, 8, 9, 15, 16, 17] [8, 9, 16, 17] [] [] (by kernel_rfl) Ents.dropAll ?_ | refine EntP.mk Ents.dropAll ?_ | refine IdxE.mk 9 1 _ hrd (by omega) (by omega) ?_ | refine LoadE.mk 9 _ _ _ hrd (by omega) (by omega) (by omega) hla ?_ | refine AppE.row [_] [] (A.map C.s) [C.s []] 1 rfl (SrcE.sl 9 9 _ _ 1 1 _ rfl rfl (.inl ⟨1, List.Mem.head _⟩) rfl) (by dsimp only; omega) (fun a' c' => ?_) | refine SideP.mk (Nat.le_trans (Nat.add_le_add hll (Nat.le_of_eq hl1)) (by omega)) ?_ | refine StoreE.mk [] [] 9 _ _ (A.map C.s) _ rfl (by omega) (by omega) (by simp) (setC_map (f := C.s) (by omega)) ?_ | refine Round.mk (i + 1, a', c') (by simp; omega) (by simp; omega) ?_ ?_ | refine Round.mk (i + 1, a, c) (by simp; omega) (by simp; omega) ?_ ?_ | fail
    all_goals
      dsimp only
      first
        | (have h47 : s.getD i 0 = 47 := byte_is (n := 47) (by decide) (by assumption)
           rw [hst, if_pos h47])
        | (have h47 : ¬ s.getD i 0 = 47 := byte_not (n := 47) (by decide) (by assumption)
           rw [hst, if_neg h47])
      first
        | refine Ents.drop.trans (Ents.of (by rw [List.map_append, List.length_append]; rfl))
        | (refine Ents.of ?_
           have hs2 := set_last hsn (A.getLastD [] ++ (s.take (i + 1)).drop i)
           rw [h1] at hs2
           rw [← hs2, List.length_set, ← h1]
           rfl)
        | skip
    repeat' first | exact SubE.nil | refine SubE.cons rfl ?_ ?_ | exact VEq.refl _ | refine VEq.int (by omega) | refine VEq.sl rfl (by first | rfl | omega | (rw [List.length_append]; rfl) | (simp; omega)) rfl | fail
    repeat' first | exact SubE.nil | refine SubE.cons rfl ?_ ?_ | exact VEq.refl _ | refine VEq.int (by omega) | refine VEq.sl rfl (by first | rfl | omega | (rw [List.length_append]; rfl) | (simp; omega)) rfl | fail
  · have hil : i = s.length := by omega
    subst hil
    rw [List.take_length]
    repeat' first | refine J_seq ?_ | refine J_region Tryz.tyOK ?_ | refine J_block ?_ | refine J_cond ?_ | refine J_ret ?_ | refine J_skip ?_ | refine J_exit ?_ | refine J_scope ?_ | refine CondP.y ?_ | refine CondP.n ?_ | refine CondP.mk (fun h => ?_) (fun h => ?_) | refine EqP.mk rfl ?_ | refine NewP.mk (fun ad => ?_) | refine ArP.x ?_ | refine SideP.a ?_ | fail | fail
    exact FinE.mk [_] [] ⟨a, c, rfl, rfl, rfl⟩ (Ents.refl _ _)
end Go.Proofs
