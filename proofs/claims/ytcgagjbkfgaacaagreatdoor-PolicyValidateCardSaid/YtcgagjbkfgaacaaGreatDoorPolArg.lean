/- This text opens arguments of the type Policy: the policy in memory that they are. -/
import Derived.Test.YtcgagjbkfgaacaaGreatDoorBase
import Derived.Test.YtcgagjbkfgaacaaGreatDoorPolC
set_option linter.all false

namespace Go.Proofs.YtcgagjbkfgaacaaGreatDoor
open Go Go.X Go.Proofs
set_option maxRecDepth 100000

abbrev strF : Bs → List C := fun l => [.s l]
abbrev grpF : Bs × (Option Addr × Nat × Nat × List Bs) × Unit → List C := fun g => [.s g.1] ++ ([.sl g.2.1.1 g.2.1.2.1 g.2.1.2.2.1] ++ [])
abbrev ttlF : Int × Bs × Unit → List C := fun g => [.i .i64 g.1] ++ ([.s g.2.1] ++ [])
abbrev scpF : Int × (Int × Bs × Unit) × Unit → List C := fun g => [.i .i64 g.1] ++ (ttlF g.2.1 ++ [])
abbrev rulF : Bool × Int × Bs × (Int × (Int × Bs × Unit) × Unit) × Unit → List C := fun g => [.b g.1] ++ ([.i .i64 g.2.1] ++ ([.s g.2.2.1] ++ (scpF g.2.2.2.1 ++ [])))
abbrev grdF : Bool × Bs × (Int × Bs × Unit) × Bs × Unit → List C := fun g => [.b g.1] ++ ([.s g.2.1] ++ (ttlF g.2.2.1 ++ ([.s g.2.2.2.1] ++ [])))

theorem open_title' {w : World} : OpenS Tryz.prog w 46 ttlF (fun g => inR .i64 g.1 ∧ g.2.1.length ≤ maxLen ∧ True) :=
  openS_struct (okTy (t := 46) rfl).2.2.2 (cellsOf_ty (okTy (t := 46) rfl))
    (openF_cons (cellsOf_ty (okTy (t := 3) rfl)) (openS_int Tryz.underlying3) (openF_cons (cellsOf_ty (okTy (t := 9) rfl)) (openS_str Tryz.underlying9) openF_nil (by decide)) (by decide))
theorem open_scope {w : World} : OpenS Tryz.prog w 48 scpF (fun g => inR .i64 g.1 ∧ (inR .i64 g.2.1.1 ∧ g.2.1.2.1.length ≤ maxLen ∧ True) ∧ True) :=
  openS_struct (okTy (t := 48) rfl).2.2.2 (cellsOf_ty (okTy (t := 48) rfl))
    (openF_cons (cellsOf_ty (okTy (t := 3) rfl)) (openS_int Tryz.underlying3) (openF_cons (cellsOf_ty (okTy (t := 46) rfl)) open_title' openF_nil (by decide)) (by decide))
theorem open_rule {w : World} : OpenS Tryz.prog w 50 rulF (fun g => True ∧ inR .i64 g.2.1 ∧ g.2.2.1.length ≤ maxLen ∧ (inR .i64 g.2.2.2.1.1 ∧ (inR .i64 g.2.2.2.1.2.1.1 ∧ g.2.2.2.1.2.1.2.1.length ≤ maxLen ∧ True) ∧ True) ∧ True) :=
  openS_struct (okTy (t := 50) rfl).2.2.2 (cellsOf_ty (okTy (t := 50) rfl))
    (openF_cons (cellsOf_ty (okTy (t := 4) rfl)) (openS_bool Tryz.underlying4) (openF_cons (cellsOf_ty (okTy (t := 3) rfl)) (openS_int Tryz.underlying3) (openF_cons (cellsOf_ty (okTy (t := 9) rfl)) (openS_str Tryz.underlying9) (openF_cons (cellsOf_ty (okTy (t := 48) rfl)) open_scope openF_nil (by decide)) (by decide)) (by decide)) (by decide))
theorem open_guard {w : World} : OpenS Tryz.prog w 53 grdF (fun g => True ∧ g.2.1.length ≤ maxLen ∧ (inR .i64 g.2.2.1.1 ∧ g.2.2.1.2.1.length ≤ maxLen ∧ True) ∧ g.2.2.2.1.length ≤ maxLen ∧ True) :=
  openS_struct (okTy (t := 53) rfl).2.2.2 (cellsOf_ty (okTy (t := 53) rfl))
    (openF_cons (cellsOf_ty (okTy (t := 4) rfl)) (openS_bool Tryz.underlying4) (openF_cons (cellsOf_ty (okTy (t := 9) rfl)) (openS_str Tryz.underlying9) (openF_cons (cellsOf_ty (okTy (t := 46) rfl)) open_title' (openF_cons (cellsOf_ty (okTy (t := 9) rfl)) (openS_str Tryz.underlying9) openF_nil (by decide)) (by decide)) (by decide)) (by decide))

/-- What is known of a slice that is read. -/
abbrev slQ {α : Type} (w : World) (z : Nat) (F : α → List C) (Q : α → Prop) (g : Option Addr × Nat × Nat × List α) : Prop := g.2.1 = g.2.2.2.length ∧ SlOK w z (g.2.2.2.flatMap F) g.1 g.2.1 g.2.2.1 ∧ ∀ x ∈ g.2.2.2, Q x ∧ (F x).length = z

theorem open_strs {w : World} : OpenS Tryz.prog w 38 (fun g : Option Addr × Nat × Nat × List Bs => [.sl g.1 g.2.1 g.2.2.1]) (slQ w 1 strF (fun l => l.length ≤ maxLen)) :=
  openS_slice (z := 1) Tryz.underlying38 (cellsOf_ty (okTy (t := 9) rfl)) (by decide) (fun g x hx => by simp at hx; subst hx; rfl) (openS_str Tryz.underlying9)
theorem open_group {w : World} : OpenS Tryz.prog w 43 grpF (fun g => g.1.length ≤ maxLen ∧ slQ w 1 strF (fun l => l.length ≤ maxLen) g.2.1 ∧ True) :=
  openS_struct (okTy (t := 43) rfl).2.2.2 (cellsOf_ty (okTy (t := 43) rfl))
    (openF_cons (cellsOf_ty (okTy (t := 9) rfl)) (openS_str Tryz.underlying9) (openF_cons (cellsOf_ty (okTy (t := 38) rfl)) open_strs openF_nil (by decide)) (by decide))

abbrev polF : (Option Addr × Nat × Nat × List (Bs × (Option Addr × Nat × Nat × List Bs) × Unit)) × (Option Addr × Nat × Nat × List (Bool × Int × Bs × (Int × (Int × Bs × Unit) × Unit) × Unit)) × (Option Addr × Nat × Nat × List (Bool × Bs × (Int × Bs × Unit) × Bs × Unit)) × Unit → List C :=
  fun g => [.sl g.1.1 g.1.2.1 g.1.2.2.1] ++ ([.sl g.2.1.1 g.2.1.2.1 g.2.1.2.2.1] ++ ([.sl g.2.2.1.1 g.2.2.1.2.1 g.2.2.1.2.2.1] ++ []))
theorem one1 {α : Type} {F : α → List C} (h : ∀ g, (F g).all (fun x => match x with | .b _ | .i _ _ | .s _ | .sl _ _ _ => true | _ => false) = true) : ∀ g, oneAll (F g) := fun g x hx => by
  have := List.all_eq_true.1 (h g) x hx
  cases x <;> first | rfl | (cases this)

theorem open_policy {w : World} : OpenS Tryz.prog w 27 polF
    (fun g => slQ w 2 grpF (fun g => g.1.length ≤ maxLen ∧ slQ w 1 strF (fun l => l.length ≤ maxLen) g.2.1 ∧ True) g.1 ∧
      slQ w 6 rulF (fun g => True ∧ inR .i64 g.2.1 ∧ g.2.2.1.length ≤ maxLen ∧ (inR .i64 g.2.2.2.1.1 ∧ (inR .i64 g.2.2.2.1.2.1.1 ∧ g.2.2.2.1.2.1.2.1.length ≤ maxLen ∧ True) ∧ True) ∧ True) g.2.1 ∧
      slQ w 5 grdF (fun g => True ∧ g.2.1.length ≤ maxLen ∧ (inR .i64 g.2.2.1.1 ∧ g.2.2.1.2.1.length ≤ maxLen ∧ True) ∧ g.2.2.2.1.length ≤ maxLen ∧ True) g.2.2.1 ∧ True) :=
  openS_struct (okTy (t := 27) rfl).2.2.2 (cellsOf_ty (okTy (t := 27) rfl))
    (openF_cons (cellsOf_ty (okTy (t := 23) rfl)) (openS_slice (z := 2) Tryz.underlying23 (cellsOf_ty (okTy (t := 43) rfl)) (by decide) (one1 fun _ => rfl) open_group)
      (openF_cons (cellsOf_ty (okTy (t := 24) rfl)) (openS_slice (z := 6) Tryz.underlying24 (cellsOf_ty (okTy (t := 50) rfl)) (by decide) (one1 fun _ => rfl) open_rule)
        (openF_cons (cellsOf_ty (okTy (t := 25) rfl)) (openS_slice (z := 5) Tryz.underlying25 (cellsOf_ty (okTy (t := 53) rfl)) (by decide) (one1 fun _ => rfl) open_guard) openF_nil (by decide)) (by decide)) (by decide))

theorem flatMap_mk {α β : Type} {F : α → List C} {G : β → List C} {f : α → β} : ∀ {l : List α}, (∀ x ∈ l, G (f x) = F x) → (l.map f).flatMap G = l.flatMap F
  | [], _ => rfl
  | x :: r, h => by
    rw [List.map_cons, List.flatMap_cons, List.flatMap_cons, h x (by simp), flatMap_mk fun y hy => h y (by simp [hy])]

/-- The policy in memory that an argument is. -/
theorem pol_of {w : World} {g : (Option Addr × Nat × Nat × List (Bs × (Option Addr × Nat × Nat × List Bs) × Unit)) × (Option Addr × Nat × Nat × List (Bool × Int × Bs × (Int × (Int × Bs × Unit) × Unit) × Unit)) × (Option Addr × Nat × Nat × List (Bool × Bs × (Int × Bs × Unit) × Bs × Unit)) × Unit}
    (h : slQ w 2 grpF (fun g => g.1.length ≤ maxLen ∧ slQ w 1 strF (fun l => l.length ≤ maxLen) g.2.1 ∧ True) g.1 ∧
      slQ w 6 rulF (fun g => True ∧ inR .i64 g.2.1 ∧ g.2.2.1.length ≤ maxLen ∧ (inR .i64 g.2.2.2.1.1 ∧ (inR .i64 g.2.2.2.1.2.1.1 ∧ g.2.2.2.1.2.1.2.1.length ≤ maxLen ∧ True) ∧ True) ∧ True) g.2.1 ∧
      slQ w 5 grdF (fun g => True ∧ g.2.1.length ≤ maxLen ∧ (inR .i64 g.2.2.1.1 ∧ g.2.2.1.2.1.length ≤ maxLen ∧ True) ∧ g.2.2.2.1.length ≤ maxLen ∧ True) g.2.2.1 ∧ True) :
    ∃ p : PolM, PolOK p ∧ polF g = p.cells ∧ allD (fun b => w.heap[b]?) p.facts := by
  obtain ⟨⟨ga, gn, gc, gl⟩, ⟨ra, rn, rc, rl⟩, ⟨xa, xn, xc, xl⟩, u⟩ := g
  obtain ⟨⟨hg1, hg2, hg3⟩, ⟨hr1, hr2, hr3⟩, ⟨hx1, hx2, hx3⟩, _⟩ := h
  dsimp only at *
  subst hg1 hr1 hx1
  have hM : maxLen ≤ 9223372036854775807 := by simp only [maxLen]; omega
  let fg : Bs × (Option Addr × Nat × Nat × List Bs) × Unit → GrpM := fun x => ⟨x.1, x.2.1.1, x.2.1.2.2.1, x.2.1.2.2.2⟩
  let fr : Bool × Int × Bs × (Int × (Int × Bs × Unit) × Unit) × Unit → Rul := fun x => ⟨x.1, x.2.1, x.2.2.1, x.2.2.2.1.1, x.2.2.2.1.2.1.1, x.2.2.2.1.2.1.2.1⟩
  let fx : Bool × Bs × (Int × Bs × Unit) × Bs × Unit → Grd := fun x => ⟨x.1, x.2.1, x.2.2.1.1, x.2.2.1.2.1, x.2.2.2.1⟩
  have eg : gsC (gl.map fg) = gl.flatMap grpF := flatMap_mk fun x hx => by
    have h1 := (hg3 x hx).1.2.1.1
    show [C.s x.1, C.sl x.2.1.1 x.2.1.2.2.2.length x.2.1.2.2.1] = _
    rw [← h1]; rfl
  have er : rsC (rl.map fr) = rl.flatMap rulF := flatMap_mk fun x hx => rfl
  have ex : xsC (xl.map fx) = xl.flatMap grdF := flatMap_mk fun x hx => rfl
  have hgle := hg2.le
  have hgm := hg2.max
  have hrle := hr2.le
  have hrm := hr2.max
  have hxle := hx2.le
  have hxm := hx2.max
  refine ⟨⟨ga, gc, gl.map fg, ra, rc, rl.map fr, xa, xc, xl.map fx⟩, ⟨by simpa using hgle, by simp; omega, by simp; omega, by simp; omega, fun y hy => ?_, fun y hy => ?_, fun y hy => ?_⟩, ?_, ?_⟩
  · obtain ⟨x, hx, rfl⟩ := List.mem_map.1 hy
    obtain ⟨h1, ⟨h2, h3, h4⟩, _⟩ := (hg3 x hx).1
    have h5 := h3.le
    have h6 := h3.max
    refine ⟨by show x.1.length ≤ _; omega, by show x.2.1.2.2.2.length ≤ _; omega, fun m hm => ?_⟩
    have := (h4 m hm).1
    omega
  · obtain ⟨x, hx, rfl⟩ := List.mem_map.1 hy
    have := (hr3 x hx).1.2.2.2.1.2.1.2.1
    show x.2.2.2.1.2.1.2.1.length ≤ _
    omega
  · obtain ⟨x, hx, rfl⟩ := List.mem_map.1 hy
    have h1 := (hx3 x hx).1.2.2.1.2.1
    have h2 := (hx3 x hx).1.2.2.2.1
    exact ⟨by show x.2.2.1.2.1.length ≤ _; omega, by show x.2.2.2.1.length ≤ _; omega⟩
  · simp [polF, PolM.cells]
  · obtain ⟨_, fg1⟩ := hg2.f
    obtain ⟨_, fr1⟩ := hr2.f
    obtain ⟨_, fx1⟩ := hx2.f
    refine ⟨?_, fun y hy => ?_, ?_, ?_, trivial⟩
    · show SlF _ 0 2 ga (gl.map fg).length (gsC (gl.map fg))
      rw [eg, List.length_map]; exact fg1
    · obtain ⟨x, hx, rfl⟩ := List.mem_map.1 hy
      obtain ⟨_, ⟨h2, h3, h4⟩, _⟩ := (hg3 x hx).1
      obtain ⟨_, f⟩ := h3.f
      show SlF _ 0 1 x.2.1.1 x.2.1.2.2.2.length (x.2.1.2.2.2.map C.s)
      rw [← h2, List.map_eq_flatMap]; exact f
    · show SlF _ 0 6 ra (rl.map fr).length (rsC (rl.map fr))
      rw [er, List.length_map]; exact fr1
    · show SlF _ 0 5 xa (xl.map fx).length (xsC (xl.map fx))
      rw [ex, List.length_map]; exact fx1
end Go.Proofs.YtcgagjbkfgaacaaGreatDoor
