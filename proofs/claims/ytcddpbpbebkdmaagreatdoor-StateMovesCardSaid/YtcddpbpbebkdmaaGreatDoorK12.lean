/- This text holds what the statements on states share: lists in order, titles in lists, small states, texts of pages. -/
import Derived.Test.YtcddpbpbebkdmaaGreatDoorK06
import Derived.Test.YtcddpbpbebkdmaaGreatDoorK05
import Derived.Test.YtcddpbpbebkdmaaGreatDoorK08
import Derived.Test.YtcddpbpbebkdmaaGreatDoorK09
set_option linter.all false
namespace Go.X
open Go Go.Lib Go.Proofs
def H4 {α : Type} (cf : α → α → Int) (l : List α) : Prop := l.Pairwise fun x y => cf x y < 0
theorem UE {α : Type} {cf : α → α → Int} (h : H8 cf) : ∀ {l l' : List α}, H4 cf l → H4 cf l' → (∀ x, x ∈ l ↔ x ∈ l') → l = l'
 | [], [], _, _, _ => rfl
 | [], y :: s, _, _, hm => by have := (hm y).2 (List.mem_cons_self ..); cases this
 | x :: r, [], _, _, hm => by have := (hm x).1 (List.mem_cons_self ..); cases this
 | x :: r, y :: s, h1, h2, hm => by
  have h1' := List.pairwise_cons.1 h1
  have h2' := List.pairwise_cons.1 h2
  have hxy : x = y := by
   rcases List.mem_cons.1 ((hm x).1 (List.mem_cons_self ..)) with a | a
   ·exact a
   rcases List.mem_cons.1 ((hm y).2 (List.mem_cons_self ..)) with b | b
   ·exact b.symm
   have c1 := h2'.1 x a
   have c2 := h1'.1 y b
   have := h.swap x y
   omega
  subst hxy
  rw [UE h h1'.2 h2'.2 (fun z => ⟨fun hz => ?_, fun hz => ?_⟩)]
  ·rcases List.mem_cons.1 ((hm z).1 (List.mem_cons_of_mem _ hz)) with e | e
   ·subst e; have := h1'.1 z hz; have := h.refl z; omega
   ·exact e
  ·rcases List.mem_cons.1 ((hm z).2 (List.mem_cons_of_mem _ hz)) with e | e
   ·subst e; have := h2'.1 z hz; have := h.refl z; omega
   ·exact e
theorem H8.lt_trans {α : Type} {cf : α → α → Int} (h : H8 cf) {x y z : α} (h1 : cf x y < 0) (h2 : cf y z ≤ 0) : cf x z < 0 := by
 have a1 := h.swap x z; have a2 := h.swap y z; have a3 := h.swap x y
 have t1 := h.trans x y z (by omega) (by omega)
 have t2 := h.trans y z x
 omega
def Kg {α : Type} [DecidableEq α] (cf : α → α → Int) : List α → α → List α
 | [], r => [r]
 | x :: t, r => if cf x r < 0 then x :: Kg cf t r else if x = r then x :: t else r :: x :: t
section
variable {α : Type} [DecidableEq α] {cf : α → α → Int}
theorem H3 (l : List α) (r : α) : (Kg cf l r).length ≤ l.length + 1 := by
 induction l with
 | nil => exact Nat.le_refl _
 | cons x t ih =>
  simp only [Kg]
  split
  ·simp; omega
  ·split <;> simp
theorem H0 (l : List α) (r z : α) : z ∈ Kg cf l r ↔ z ∈ l ∨ z = r := by
 induction l with
 | nil => simp [Kg]
 | cons x t ih =>
  simp only [Kg]
  split
  ·simp [ih, or_assoc]
  ·split
   ·rename_i h; subst h; simp
    intro h; exact .inl h
   ·simp [or_comm, or_assoc, or_left_comm]
theorem Er (hc : H8 cf) (he : ∀ x y, cf x y = 0 → x = y) (l : List α) (r : α) (hl : H4 cf l) : H4 cf (Kg cf l r) := by
 induction l with
 | nil => exact List.pairwise_cons.2 ⟨fun _ h => (by cases h), List.Pairwise.nil⟩
 | cons x t ih =>
  have hl' := List.pairwise_cons.1 hl
  simp only [Kg]
  split
  ·rename_i h
   refine List.pairwise_cons.2 ⟨fun z hz => ?_, ih hl'.2⟩
   rcases (H0 t r z).1 hz with hz | hz
   ·exact hl'.1 z hz
   ·rw [hz]; exact h
  ·rename_i h
   split
   ·exact hl
   ·rename_i hne
    have hs := hc.swap x r
    have hrx : cf r x < 0 := by
     have : cf r x ≠ 0 := fun e => hne (he r x e).symm
     omega
    refine List.pairwise_cons.2 ⟨fun z hz => ?_, hl⟩
    rcases List.mem_cons.1 hz with hz | hz
    ·rw [hz]; exact hrx
    ·exact hc.lt_trans hrx (by have := hl'.1 z hz; omega)
theorem xV (hc : H8 cf) (he : ∀ x y, cf x y = 0 → x = y) (l : List α) : ∀ m : List α, H4 cf m → H4 cf (l.foldl (Kg cf) m) ∧ ∀ z, z ∈ l.foldl (Kg cf) m ↔ z ∈ m ∨ z ∈ l := by
 induction l with
 | nil => intro m hm; exact ⟨hm, fun z => by simp⟩
 | cons x t ih =>
  intro m hm
  obtain ⟨h1, h2⟩ := ih (Kg cf m x) (Er hc he m x hm)
  refine ⟨h1, fun z => ?_⟩
  rw [List.foldl_cons, h2, H0, List.mem_cons, or_assoc]
theorem Pe {l : List α} {r : α} {i : Nat} (h : i < l.length) : Kg cf (l.drop i) r = if cf l[i] r < 0 then l[i] :: Kg cf (l.drop (i + 1)) r else if l[i] = r then l.drop i else r :: l.drop i := by
 rw [List.drop_eq_getElem_cons h, Kg]
theorem Gf (l : List α) : ∀ m : List α, (l.foldl (Kg cf) m).length ≤ m.length + l.length := by
 induction l with
 | nil => intro m; simp
 | cons x t ih =>
  intro m
  have := ih (Kg cf m x)
  have := H3 (cf := cf) m x
  rw [List.foldl_cons, List.length_cons]; omega
end
abbrev TT := Int × List UInt8
def cmpTT (x y : TT) : Int := QH x.1 x.2 y.1 y.2
theorem Vp : H8 cmpTT := Rs
theorem qw (x y : TT) (h : cmpTT x y = 0) : x = y := by
 obtain ⟨h1, h2⟩ := (Je _ _ _ _).1 h
 exact Prod.ext h1 h2
def ttF2 (t : Int × List UInt8) : List C := [.i .i64 t.1, .s t.2]
theorem W4 (l : List TT) : (Xe l).length = l.length * 2 := Q7 (F := ttF2) (z := 2) (fun _ => rfl) l
theorem qC {l : List TT} {i : Nat} (h : i < l.length) : ((Xe l).drop (i * 2 + 0)).take 2 = [.i .i64 l[i].1, .s l[i].2] := by
 rw [show Xe l = l.flatMap ttF2 from rfl, QL (F := ttF2) (z := 2) (fun _ => rfl) h (by omega)]; rfl
theorem ttpre {e : Nat} {a : Option Addr} {n c k : Nat} {m : List TT} {L : List Chunk} {D : List Fact} (hm : Chunk.row e 2 a n c (Xe m) ∈ L) (hn : m.length = n) (hk : k ≤ n) : Qp L D e 2 (Z9 a 0 c 2) k (Xe (m.take k)) := OL (F := ttF2) (fun _ => rfl) m hm hn hk
theorem GB {e : Nat} {a : Option Addr} {n c k : Nat} {m : List TT} {L : List Chunk} {D : List Fact} (hm : Chunk.row e 2 a n c (Xe m) ∈ L) (hn : m.length = n) (hk : k ≤ n) (hc : n ≤ c) : Qp L D e 2 (Z9 a k c 2) (n - k) (Xe (m.drop k)) := wN (F := ttF2) (fun _ => rfl) m hm hn hk hc
theorem Tl {x y : TT} (h : x.1 = y.1 ∧ x.2 = y.2 ∧ True) : x = y := Prod.ext h.1 h.2.1
theorem RP {x y : TT} (h : ¬ (x.1 = y.1 ∧ x.2 = y.2 ∧ True)) : ¬ x = y := fun e => h (by subst e; exact ⟨rfl, rfl, trivial⟩)
abbrev Oz (p : Prop) : V → List Chunk → List Fact → Prop := fun v L D => ∃ b : Bool, v = .c (.b b) ∧ (b = true → p) ∧ L = [] ∧ D = []
def ju (p : PGM) : Prop := p.hist.length ≤ 6 ∧ p.nm.length ≤ 200 ∧ ∀ r ∈ p.hist, r.text.length ≤ 300
theorem LX {l : List PGM} {i : Nat} (h : i < l.length) : ((Qm l).drop (i * 3 + 2)).take 1 = [.sl l[i].ha l[i].hist.length l[i].hc] := YH h
theorem Sh {l : List PGM} {i : Nat} (h : i < l.length) : ((Qm l).drop (i * 3 + 1)).take 1 = [.s l[i].nm] := by
 rw [Qm, QL (F := PGM.cells) (z := 3) (fun _ => rfl) h (by omega)]; rfl
def textV : Option PGM → V
 | none => .t2 (.c (.s [])) ff
 | some p => .t2 (.c (.s (J1 p.hist).text)) tt
def Jp (s : STM) (t : TT) : List UInt8 := ((s.pages.find? (X7 t.1 t.2)).map fun p => (J1 p.hist).text).getD []
end Go.X
namespace Go.Proofs
open Go Go.X Tryz
set_option maxRecDepth 100000
set_option maxHeartbeats 4000000
theorem vB (s : STM) (sp : Int) (nm : Bs) (hs : Gp s) : FnS prog 70 [.agg s.cells, .agg [.i .i64 sp, .s nm]] [] [QG s] (Is (textV (s.pages.find? (X7 sp nm)))) := by
 have cp := qG s sp nm hs
 cases hf : s.pages.find? (X7 sp nm) with
 | none =>
  rw [hf] at cp
  have cc : FnS prog 88 [.agg [.i .i64 0, .s [], .sl none 0 0]] [] [Qf 0 6 none 0 []] (Is (.agg (J1 []).cells)) := x9 0 ⟨0, [], none, 0, []⟩ (Nat.zero_le _)
  refine FJ 0 func70 ntmps70 (fun G => ?_)
  repeat' first | refine Wk ?_ | refine Qa.mk (fun h => ?_) (fun h => ?_) | refine Qd.mk (fun ad => ?_) | refine Qc.is cp ?_ | refine Qe.is rfl
  refine Qc.is cc ?_ (fun _ _ => ⟨Z8.nil (e := 0), trivial⟩)
  repeat' first | refine Wk ?_ | refine Qa.mk (fun h => ?_) (fun h => ?_) | refine Qd.mk (fun ad => ?_) | refine Qe.is rfl
 | some p =>
  rw [hf] at cp
  have hm := List.mem_of_find?_eq_some hf
  have cc := x9 0 p (hs.ph p hm)
  refine FJ 0 func70 ntmps70 (fun G => ?_)
  repeat' first | refine Wk ?_ | refine Qa.mk (fun h => ?_) (fun h => ?_) | refine Qd.mk (fun ad => ?_) | refine Qc.is cp ?_ | refine Qc.is cc ?_ (fun _ h => ⟨h.1.pages.his p hm, trivial⟩) | refine Qe.is rfl
theorem Vo (e : Nat) (p : PGM) (hl : p.hist.length ≤ big) : FnS prog 46 [.agg p.cells] [] [Qf e 6 p.ha p.hist.length (Zb p.hist)] (Is (.agg (J1 p.hist).cells)) := by
 have hl := ZQ hl
 have hrd : ∀ L, Qp L [Qf e 6 p.ha p.hist.length (Zb p.hist)] e 6 p.ha p.hist.length (Zb p.hist) := fun L => .inr fun m h => h.1
 by_cases h0 : p.hist.length = 0
 ·have : J1 p.hist = default := by rw [List.eq_nil_of_length_eq_zero h0]; rfl
  rw [this]
  refine FJ 0 func46 ntmps46 (fun G => ?_)
  repeat' first | refine Wk ?_ | refine Qa.mk (fun h => ?_) (fun h => ?_) | refine Qd.mk (fun ad => ?_) | refine Qe.mk [] [] ⟨rfl, rfl, rfl⟩ (Qb.drop.trans (Qb.drop.trans (Qb.facts fun _ _ => trivial)))
 ·obtain ⟨k, hk⟩ : ∃ k, p.hist.length = k + 1 := ⟨p.hist.length - 1, by omega⟩
  have hi : k < p.hist.length := by omega
  rw [Gj hk]
  have hg : ((Zb p.hist).drop (((p.hist.length : Int) - 1).toNat * 6 + 0)).take 6 = (p.hist[k]).cells := by
   rw [show ((p.hist.length : Int) - 1).toNat = k by omega]; exact Yo hi
  generalize p.hist[k] = x at *
  refine FJ 0 func46 ntmps46 (fun G => ?_)
  repeat' first | refine Wk ?_ | refine Qa.mk (fun h => ?_) (fun h => ?_) | refine Qd.mk (fun ad => ?_) | refine Qr.a e 6 _ (hrd _) ?_ | refine Qi.a e _ _ x.cells (hrd _) (by exact hg) ?_ | refine Qe.mk [] [] ⟨rfl, rfl, rfl⟩ (Qb.drop.trans (Qb.drop.trans (Qb.facts fun _ _ => trivial)))
theorem vG (a : Option Addr) (c : Nat) (l : List PGM) (hl : l.length ≤ 9223372036854775807) (hh : ∀ p ∈ l, p.hist.length ≤ 9223372036854775807) : FnS prog 51 [.c (.sl a l.length c)] [] [H7 a l] (Oz (l.length ≤ 10 ∧ ∀ p ∈ l, ju p)) := by
 have hrd : ∀ L, Qp L [H7 a l] 0 3 a l.length (Qm l) := fun L => .inr fun m h => h.1.row
 refine FJ 0 func51 ntmps51 (fun G => ?_)
 repeat' first | refine Qe.mk [] [] ⟨false, rfl, (fun h => absurd h (by decide)), rfl, rfl⟩ Qb.z | refine Wk ?_ | refine Qa.mk (fun h => ?_) (fun h => ?_) | refine Qd.mk (fun ad => ?_) | refine Qn (α := Nat) (fun i => [(0, .c (.sl a l.length c)), (3, .c (.i .i64 i))]) (fun _ => []) (fun _ => [H7 a l]) 0 (fun i => i ≤ l.length ∧ l.length ≤ 10 ∧ ∀ p ∈ l.take i, ju p) (fun i => l.length - i) (Qq.mk 0 ⟨Nat.zero_le _, by omega, fun _ h => by cases h⟩ Qh.a (Qb.refl _ _)) (fun i hx => QF ?_)
 refine ⟨?_⟩
 obtain ⟨hi, h10, hal⟩ := hx
 by_cases hlt : i < l.length
 ·have hg1 := LX hlt
  have hg2 := Sh hlt
  have hmem : l[i] ∈ l := List.getElem_mem hlt
  have hnext : ju l[i] → ∀ p ∈ l.take (i + 1), ju p := fun h r hr => by
   rw [List.take_succ_eq_append_getElem hlt] at hr
   rcases List.mem_append.1 hr with hr | hr
   ·exact hal r hr
   ·rw [List.mem_singleton.1 hr]; exact h
  clear hal
  generalize l[i] = x at *
  have hhx := hh x hmem
  have hrh : ∀ L, Qp L [H7 a l] 0 6 x.ha x.hist.length (Zb x.hist) := fun L => .inr fun m h => h.1.his x hmem
  repeat' first | refine Qe.mk [] [] ⟨false, rfl, (fun h => absurd h (by decide)), rfl, rfl⟩ Qb.z | refine Wk ?_ | refine Qa.mk (fun h => ?_) (fun h => ?_) | refine Qd.mk (fun ad => ?_) | fail | refine Qr.a 0 3 _ (hrd _) ?_ | refine Zv.mk 0 3 _ _ (hrd _) (by omega) ?_ | refine Qi.a 0 _ _ [.sl x.ha x.hist.length x.hc] (hrd _) (by exact hg1) ?_ | refine Qi.a 0 _ _ [.s x.nm] (hrd _) (by exact hg2) ?_ | refine Qn (α := Nat) (fun k => [(0, .c (.sl a l.length c)), (3, .c (.i .i64 i)), (4, .c (.i .i64 k))]) (fun _ => []) (fun _ => [H7 a l]) 0 (fun k => k ≤ x.hist.length ∧ x.hist.length ≤ 6 ∧ x.nm.length ≤ 200 ∧ ∀ r ∈ x.hist.take k, r.text.length ≤ 300) (fun k => x.hist.length - k) (Qq.mk 0 ⟨Nat.zero_le _, by omega, by omega, fun _ h => by cases h⟩ Qh.a (Qb.refl _ _)) (fun k hx => QF ?_)
  refine ⟨?_⟩
  obtain ⟨hk, h6, h2, hat⟩ := hx
  by_cases hkl : k < x.hist.length
  ·have hg3 := UJ hkl
   have hnx2 : x.hist[k].text.length ≤ 300 → ∀ r ∈ x.hist.take (k + 1), r.text.length ≤ 300 := fun h r hr => by
    rw [List.take_succ_eq_append_getElem hkl] at hr
    rcases List.mem_append.1 hr with hr | hr
    ·exact hat r hr
    ·rw [List.mem_singleton.1 hr]; exact h
   clear hat hnext
   generalize x.hist[k] = y at *
   repeat' first | refine Qe.mk [] [] ⟨false, rfl, (fun h => absurd h (by decide)), rfl, rfl⟩ Qb.z | refine Wk ?_ | refine Qa.mk (fun h => ?_) (fun h => ?_) | refine Qd.mk (fun ad => ?_) | refine Qr.a 0 3 _ (hrd _) ?_ | refine Zv.mk 0 3 _ _ (hrd _) (by omega) ?_ | refine Qi.a 0 _ _ [.sl x.ha x.hist.length x.hc] (hrd _) (by exact hg1) ?_ | refine Qr.a 0 6 _ (hrh _) ?_ | refine Zv.mk 0 6 _ _ (hrh _) (by omega) ?_ | refine Qi.a 0 _ _ [.s y.text] (hrh _) (by exact hg3) ?_ | refine Qo.mk (k + 1) (by omega) ⟨by omega, h6, h2, hnx2 (by omega)⟩ Qh.a Qb.a
  ·have hke : k = x.hist.length := by omega
   subst hke
   rw [List.take_length] at hat
   have hnext := hnext ⟨h6, h2, hat⟩
   repeat' first | refine Wk ?_ | refine Qa.mk (fun h => ?_) (fun h => ?_) | refine Qd.mk (fun ad => ?_) | refine Qr.a 0 3 _ (hrd _) ?_ | refine Zv.mk 0 3 _ _ (hrd _) (by omega) ?_ | refine Qi.a 0 _ _ [.sl x.ha x.hist.length x.hc] (hrd _) (by exact hg1) ?_ | refine Qo.mk (i + 1) (by omega) ⟨by omega, h10, hnext⟩ Qh.a Qb.a
 ·have hil : i = l.length := by omega
  subst hil
  rw [List.take_length] at hal
  repeat' first | refine Wk ?_ | refine Qa.mk (fun h => ?_) (fun h => ?_) | refine Qd.mk (fun ad => ?_) | refine Qe.mk [] [] ⟨true, rfl, (fun _ => ⟨h10, hal⟩), rfl, rfl⟩ Qb.z
end Go.Proofs
