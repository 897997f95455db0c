/- This text opens arguments that are lists of arguments of a template, of parameters and of strings. -/
import Derived.Test.YtggnedoblokenaaDoorBase
import Derived.Test.YtggnedoblokenaaDoorParA
import Derived.Test.YtggnedoblokenaaDoorParC
set_option linter.all false

namespace Go.Proofs.YtggnedoblokenaaDoor
open Go Go.X Go.Proofs
set_option maxRecDepth 100000

abbrev strF : Bt → List C := fun l => [.s l]
abbrev vlF : Bool × Bt × Bt × Unit → List C := fun g => [.b g.1] ++ ([.s g.2.1] ++ ([.s g.2.2.1] ++ []))
abbrev ktF : Bt × Bt × Unit → List C := fun g => [.s g.1] ++ ([.s g.2.1] ++ [])
abbrev vlQ : Bool × Bt × Bt × Unit → Prop := fun g => True ∧ g.2.1.length ≤ maxLen ∧ g.2.2.1.length ≤ maxLen ∧ True
abbrev ktQ : Bt × Bt × Unit → Prop := fun g => g.1.length ≤ maxLen ∧ g.2.1.length ≤ maxLen ∧ True

theorem open_val {w : World} : OpenS Tryd.prog w 36 vlF vlQ :=
  openS_struct (okTy (t := 36) rfl).2.2.2 (cellsOf_ty (okTy (t := 36) rfl))
    (openF_cons (cellsOf_ty (okTy (t := 4) rfl)) (openS_bool Tryd.underlying4) (openF_cons (cellsOf_ty (okTy (t := 9) rfl)) (openS_str Tryd.underlying9) (openF_cons (cellsOf_ty (okTy (t := 9) rfl)) (openS_str Tryd.underlying9) openF_nil (by decide)) (by decide)) (by decide))
theorem open_bnd {w : World} : OpenS Tryd.prog w 33 ktF ktQ :=
  openS_struct (okTy (t := 33) rfl).2.2.2 (cellsOf_ty (okTy (t := 33) rfl))
    (openF_cons (cellsOf_ty (okTy (t := 9) rfl)) (openS_str Tryd.underlying9) (openF_cons (cellsOf_ty (okTy (t := 9) rfl)) (openS_str Tryd.underlying9) openF_nil (by decide)) (by decide))

/-- What is known of a slice that is read. -/
abbrev slQ {α : Type} (w : World) (z : Nat) (F : α → List C) (Q : α → Prop) (g : Option Addr × Nat × Nat × List α) : Prop := g.2.1 = g.2.2.2.length ∧ SlOK w z (g.2.2.2.flatMap F) g.1 g.2.1 g.2.2.1 ∧ ∀ x ∈ g.2.2.2, Q x ∧ (F x).length = z
theorem one1 {α : Type} {F : α → List C} (h : ∀ g, (F g).all (fun x => match x with | .b _ | .i _ _ | .s _ | .sl _ _ _ => true | _ => false) = true) : ∀ g, oneAll (F g) := fun g x hx => by
  have := List.all_eq_true.1 (h g) x hx
  cases x <;> first | rfl | (cases this)
theorem flatMap_mk {α β : Type} {F : α → List C} {G : β → List C} {f : α → β} : ∀ {l : List α}, (∀ x ∈ l, G (f x) = F x) → (l.map f).flatMap G = l.flatMap F
  | [], _ => rfl
  | x :: r, h => by
    rw [List.map_cons, List.flatMap_cons, List.flatMap_cons, h x (by simp), flatMap_mk fun y hy => h y (by simp [hy])]

theorem open_vals {w : World} : OpenS Tryd.prog w 22 (fun g : Option Addr × Nat × Nat × List (Bool × Bt × Bt × Unit) => [.sl g.1 g.2.1 g.2.2.1]) (slQ w 3 vlF vlQ) :=
  openS_slice (z := 3) Tryd.underlying22 (cellsOf_ty (okTy (t := 36) rfl)) (by decide) (one1 fun _ => rfl) open_val
theorem open_bnds {w : World} : OpenS Tryd.prog w 25 (fun g : Option Addr × Nat × Nat × List (Bt × Bt × Unit) => [.sl g.1 g.2.1 g.2.2.1]) (slQ w 2 ktF ktQ) :=
  openS_slice (z := 2) Tryd.underlying25 (cellsOf_ty (okTy (t := 33) rfl)) (by decide) (one1 fun _ => rfl) open_bnd
theorem open_strs {w : World} : OpenS Tryd.prog w 30 (fun g : Option Addr × Nat × Nat × List Bt => [.sl g.1 g.2.1 g.2.2.1]) (slQ w 1 strF (fun l => l.length ≤ maxLen)) :=
  openS_slice (z := 1) Tryd.underlying30 (cellsOf_ty (okTy (t := 9) rfl)) (by decide) (fun g x hx => by simp at hx; subst hx; rfl) (openS_str Tryd.underlying9)

/-- The arguments that a list in memory is. -/
theorem vals_of {w : World} {a : Option Addr} {n c : Nat} {l0 : List (Bool × Bt × Bt × Unit)} (h : slQ w 3 vlF vlQ (a, n, c, l0)) :
    ∃ (l : List Vl) (e : Nat), n = l.length ∧ VlB l ∧ l.length ≤ 9223372036854775807 ∧ (slFact e 3 a l.length (vlC l)).p (fun b => w.heap[b]?) := by
  obtain ⟨h1, h2, h3⟩ := h
  dsimp only at h1 h2 h3
  subst h1
  have hM : maxLen ≤ 9223372036854775807 := by simp only [maxLen]; omega
  let f : Bool × Bt × Bt × Unit → Vl := fun x => (x.1, x.2.1, x.2.2.1)
  have ev : vlC (l0.map f) = l0.flatMap vlF := flatMap_mk fun x hx => rfl
  obtain ⟨e, hf⟩ := h2.f
  refine ⟨l0.map f, e, by simp, fun v hv => ?_, by rw [List.length_map]; exact Nat.le_trans h2.le h2.max, ?_⟩
  · obtain ⟨x, hx, rfl⟩ := List.mem_map.1 hv
    have := (h3 x hx).1
    exact ⟨Nat.le_trans this.2.1 hM, Nat.le_trans this.2.2.1 hM⟩
  · rw [ev, List.length_map]; exact hf

/-- The parameters that a list in memory is. -/
theorem bnds_of {w : World} {a : Option Addr} {n c : Nat} {l0 : List (Bt × Bt × Unit)} (h : slQ w 2 ktF ktQ (a, n, c, l0)) :
    ∃ (l : List KT) (e : Nat), n = l.length ∧ l.length ≤ 9223372036854775807 ∧ (slFact e 2 a l.length (ktC l)).p (fun b => w.heap[b]?) := by
  obtain ⟨h1, h2, h3⟩ := h
  dsimp only at h1 h2 h3
  subst h1
  let f : Bt × Bt × Unit → KT := fun x => (x.1, x.2.1)
  have ev : ktC (l0.map f) = l0.flatMap ktF := flatMap_mk fun x hx => rfl
  obtain ⟨e, hf⟩ := h2.f
  refine ⟨l0.map f, e, by simp, by rw [List.length_map]; exact Nat.le_trans h2.le h2.max, ?_⟩
  rw [ev, List.length_map]; exact hf

/-- The strings that a list in memory is. -/
theorem strs_of {w : World} {a : Option Addr} {n c : Nat} {l : List Bt} (h : slQ w 1 strF (fun l => l.length ≤ maxLen) (a, n, c, l)) :
    ∃ e : Nat, n = l.length ∧ l.length ≤ 9223372036854775807 ∧ (∀ s ∈ l, s.length ≤ 9223372036854775807) ∧ (slFact e 1 a l.length (l.map C.s)).p (fun b => w.heap[b]?) := by
  obtain ⟨h1, h2, h3⟩ := h
  dsimp only at h1 h2 h3
  subst h1
  have hM : maxLen ≤ 9223372036854775807 := by simp only [maxLen]; omega
  obtain ⟨e, hf⟩ := h2.f
  exact ⟨e, rfl, Nat.le_trans h2.le h2.max, fun s hs => Nat.le_trans (h3 s hs).1 hM, by rw [List.map_eq_flatMap]; exact hf⟩
theorem max_le {n : Nat} (h : n ≤ maxLen) : n ≤ 9223372036854775807 := by simp only [maxLen] at h; omega
end Go.Proofs.YtggnedoblokenaaDoor
