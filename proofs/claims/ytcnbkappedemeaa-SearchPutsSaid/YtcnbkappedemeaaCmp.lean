/- This text holds plain facts on orders that are put together of orders, and on sorted lists. -/
import Derived.Test.YtcnbkappedemeaaSrch
import Derived.Sort.Statements
import Derived.Shelf.SlSortCmp.WholeK
set_option linter.all false

namespace Go.X
open Go Go.Lib Go.Proofs

/-- A total order, told by whole numbers. -/
structure Cmp {α : Type} (cf : α → α → Int) : Prop where
  swap : ∀ x y, cf x y = - cf y x
  trans : ∀ x y z, cf x y ≤ 0 → cf y z ≤ 0 → cf x z ≤ 0

def lexC {α : Type} (cf cg : α → α → Int) (x y : α) : Int := if cf x y ≠ 0 then cf x y else cg x y
theorem Cmp.lex {α : Type} {cf cg : α → α → Int} (hf : Cmp cf) (hg : Cmp cg) : Cmp (lexC cf cg) := by
  refine ⟨fun x y => ?_, fun x y z h1 h2 => ?_⟩
  · have := hf.swap x y
    have := hg.swap x y
    unfold lexC
    split <;> split <;> omega
  · unfold lexC at *
    have a1 := hf.swap x y; have a2 := hf.swap y z; have a3 := hf.swap x z
    have t1 := hf.trans x y z; have t2 := hf.trans z y x; have t3 := hf.trans y z x; have t4 := hf.trans z x y; have t5 := hf.trans x z y; have t6 := hf.trans y x z
    have g1 := hg.trans x y z
    split at h1 <;> split at h2 <;> split <;> omega
theorem Cmp.on {α β : Type} {cf : α → α → Int} (h : Cmp cf) (f : β → α) : Cmp fun x y => cf (f x) (f y) := ⟨fun x y => h.swap _ _, fun x y z => h.trans _ _ _⟩
theorem Cmp.flip {α : Type} {cf : α → α → Int} (h : Cmp cf) : Cmp fun x y => cf y x := ⟨fun x y => h.swap _ _, fun x y z h1 h2 => h.trans z y x h2 h1⟩

theorem cmp_int : Cmp Lib.compareInt := by
  refine ⟨fun x y => ?_, fun x y z h1 h2 => ?_⟩
  · unfold Lib.compareInt; split <;> split <;> omega
  · unfold Lib.compareInt at *
    split at h1 <;> split at h2 <;> split <;> first | omega | (split at h1 <;> split at h2 <;> split <;> omega) | (split <;> omega) | (split at h1 <;> split <;> omega) | (split at h2 <;> split <;> omega)
theorem cmp_title : Cmp fun x y : Int × List UInt8 => compareT x.1 x.2 y.1 y.2 := ⟨fun x y => compareT_swap _ _ _ _, fun x y z => compareT_trans⟩

theorem Cmp.swo {α : Type} {cf : α → α → Int} (h : Cmp cf) : Sort.SWO (ltOf cf) where
  irrefl x := by have := h.swap x x; unfold ltOf; rw [decide_eq_false_iff_not]; omega
  trans x y z h1 h2 := by
    unfold ltOf at *
    rw [decide_eq_true_eq] at *
    have a1 := h.swap x z; have a2 := h.swap y z; have a3 := h.swap x y
    have t1 := h.trans x y z (by omega) (by omega)
    have t2 := h.trans z x y
    omega
  ntrans x y z h1 h2 := by
    unfold ltOf at *
    rw [decide_eq_false_iff_not] at *
    have a1 := h.swap x z; have a2 := h.swap y z; have a3 := h.swap x y
    have t1 := h.trans z y x (by omega) (by omega)
    omega

/-- A list in order. -/
def OrdL {α : Type} (cf : α → α → Int) (l : List α) : Prop := l.Pairwise fun x y => cf x y ≤ 0
theorem ordL_of {α : Type} {cf : α → α → Int} (h : Cmp cf) {l : List α} (hl : l.Pairwise fun x y => ltOf cf y x = false) : OrdL cf l := hl.imp fun {x y} hxy => by
  have := h.swap x y
  unfold ltOf at hxy
  rw [decide_eq_false_iff_not] at hxy
  omega
theorem Cmp.refl {α : Type} {cf : α → α → Int} (h : Cmp cf) (x : α) : cf x x = 0 := by have := h.swap x x; omega

/-- Two lists in order that are permutations are one. -/
theorem ordL_eq {α : Type} {cf : α → α → Int} (h : Cmp cf) (he : ∀ x y, cf x y = 0 → x = y) : ∀ {l l' : List α}, OrdL cf l → OrdL cf l' → l.Perm l' → l = l'
  | [], l', _, _, hp => by rw [List.nil_perm.1 hp]
  | x :: r, [], _, _, hp => by have := hp.length_eq; simp at this
  | x :: r, y :: s, h1, h2, hp => by
    have h1' := List.pairwise_cons.1 h1
    have h2' := List.pairwise_cons.1 h2
    have hxy : x = y := by
      have a := hp.subset (List.mem_cons_self (a := x) (l := r))
      have b := hp.symm.subset (List.mem_cons_self (a := y) (l := s))
      rcases List.mem_cons.1 a with a | a
      · exact a
      rcases List.mem_cons.1 b with b | b
      · exact b.symm
      have c1 := h2'.1 x a
      have c2 := h1'.1 y b
      have := h.swap x y
      exact he x y (by omega)
    subst hxy
    rw [ordL_eq h he h1'.2 h2'.2 (List.Perm.cons_inv hp)]

end Go.X
