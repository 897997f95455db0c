/- This text opens arguments that are lists of rows of words, titles and lists of numbers. -/
import Derived.Test.YtcnbkappedemeaaBase
import Derived.Test.YtcnbkappedemeaaSlc
set_option linter.all false

namespace Go.Proofs.Ytcnbkappedemeaa
open Go Go.X Go.Proofs
set_option maxRecDepth 100000

abbrev Bt := List UInt8
abbrev ttFF : Int × Bt × Unit → List C := fun g => [.i .i64 g.1] ++ ([.s g.2.1] ++ [])
abbrev ttQQ : Int × Bt × Unit → Prop := fun g => inR .i64 g.1 ∧ g.2.1.length ≤ maxLen ∧ True
abbrev wrF : Bt × (Int × Bt × Unit) × Int × Unit → List C := fun g => [.s g.1] ++ (ttFF g.2.1 ++ ([.i .i64 g.2.2.1] ++ []))
abbrev wrQ : Bt × (Int × Bt × Unit) × Int × Unit → Prop := fun g => g.1.length ≤ maxLen ∧ ttQQ g.2.1 ∧ inR .i64 g.2.2.1 ∧ True

theorem open_title {w : World} : OpenS Try.prog w 33 ttFF ttQQ :=
  openS_struct (okTy (t := 33) rfl).2.2.2 (cellsOf_ty (okTy (t := 33) rfl))
    (openF_cons (cellsOf_ty (okTy (t := 3) rfl)) (openS_int Try.underlying3) (openF_cons (cellsOf_ty (okTy (t := 9) rfl)) (openS_str Try.underlying9) openF_nil (by decide)) (by decide))
theorem open_row {w : World} : OpenS Try.prog w 39 wrF wrQ :=
  openS_struct (okTy (t := 39) rfl).2.2.2 (cellsOf_ty (okTy (t := 39) rfl))
    (openF_cons (cellsOf_ty (okTy (t := 9) rfl)) (openS_str Try.underlying9) (openF_cons (cellsOf_ty (okTy (t := 33) rfl)) open_title (openF_cons (cellsOf_ty (okTy (t := 3) rfl)) (openS_int Try.underlying3) openF_nil (by decide)) (by decide)) (by decide))

/-- What is known of a slice that is read. -/
abbrev slQ {α : Type} (w : World) (z : Nat) (F : α → List C) (Q : α → Prop) (g : Option Addr × Nat × Nat × List α) : Prop := g.2.1 = g.2.2.2.length ∧ SlOK w z (g.2.2.2.flatMap F) g.1 g.2.1 g.2.2.1 ∧ ∀ x ∈ g.2.2.2, Q x ∧ (F x).length = z
theorem flatMap_mk {α β : Type} {F : α → List C} {G : β → List C} {f : α → β} : ∀ {l : List α}, (∀ x ∈ l, G (f x) = F x) → (l.map f).flatMap G = l.flatMap F
  | [], _ => rfl
  | x :: r, h => by
    rw [List.map_cons, List.flatMap_cons, List.flatMap_cons, h x (by simp), flatMap_mk fun y hy => h y (by simp [hy])]

theorem open_rows {w : World} : OpenS Try.prog w 31 (fun g : Option Addr × Nat × Nat × List (Bt × (Int × Bt × Unit) × Int × Unit) => [.sl g.1 g.2.1 g.2.2.1]) (slQ w 4 wrF wrQ) :=
  openS_slice (z := 4) Try.underlying31 (cellsOf_ty (okTy (t := 39) rfl)) (by decide) (fun g x hx => by simp [wrF, ttFF] at hx; rcases hx with rfl | rfl | rfl | rfl <;> rfl) open_row
theorem open_ints {w : World} : OpenS Try.prog w 22 (fun g : Option Addr × Nat × Nat × List Int => [.sl g.1 g.2.1 g.2.2.1]) (slQ w 1 (fun n : Int => [.i .i64 n]) (inR .i64)) :=
  openS_slice (z := 1) Try.underlying22 (cellsOf_ty (okTy (t := 3) rfl)) (by decide) (fun g x hx => by simp at hx; subst hx; rfl) (openS_int Try.underlying3)

/-- The rows that a list in memory is. -/
theorem rows_of {w : World} {a : Option Addr} {n c : Nat} {l0 : List (Bt × (Int × Bt × Unit) × Int × Unit)} (h : slQ w 4 wrF wrQ (a, n, c, l0)) :
    ∃ (l : List WR) (e : Nat), n = l.length ∧ l.length ≤ maxLen ∧ (slFact e 4 a l.length (wrC l)).p (fun b => w.heap[b]?) := by
  obtain ⟨h1, h2, h3⟩ := h
  dsimp only at h1 h2 h3
  subst h1
  let f : Bt × (Int × Bt × Unit) × Int × Unit → WR := fun x => ⟨x.1, x.2.1.1, x.2.1.2.1, x.2.2.1⟩
  have ev : wrC (l0.map f) = l0.flatMap wrF := flatMap_mk fun x hx => rfl
  obtain ⟨e, hf⟩ := h2.f
  refine ⟨l0.map f, e, by simp, by rw [List.length_map]; exact Nat.le_trans h2.le h2.max, ?_⟩
  rw [ev, List.length_map]; exact hf
/-- The numbers that a list in memory is. -/
theorem ints_of {w : World} {a : Option Addr} {n c : Nat} {l : List Int} (h : slQ w 1 (fun n : Int => [.i .i64 n]) (inR .i64) (a, n, c, l)) :
    ∃ e : Nat, n = l.length ∧ l.length ≤ maxLen ∧ (slFact e 1 a l.length (l.map (C.i .i64))).p (fun b => w.heap[b]?) := by
  obtain ⟨h1, h2, h3⟩ := h
  dsimp only at h1 h2 h3
  subst h1
  obtain ⟨e, hf⟩ := h2.f
  exact ⟨e, rfl, Nat.le_trans h2.le h2.max, by rw [List.map_eq_flatMap]; exact hf⟩
end Go.Proofs.Ytcnbkappedemeaa
