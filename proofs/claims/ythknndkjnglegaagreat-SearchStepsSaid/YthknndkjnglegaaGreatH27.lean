/- This text opens arguments of the types State and View: the state, or the pages of the view, in memory that they are. -/
import Derived.Test.YthknndkjnglegaaGreatH26
import Derived.Test.YthknndkjnglegaaGreatH21
set_option linter.all false

namespace Go.Proofs.YthknndkjnglegaaGreat
open Go Go.X Go.Proofs
set_option maxRecDepth 100000
theorem one1 {α : Type} {F : α → List C} (h : ∀ g, (F g).all (fun x => match x with | .b _ | .i _ _ | .s _ | .sl _ _ _ => true | _ => false) = true) : ∀ g, oneAll (F g) := fun g x hx => by
  have := List.all_eq_true.1 (h g) x hx
  cases x <;> first | rfl | (cases this)
abbrev titT := Int × Bt × Unit
abbrev titF : titT → List C := fun g => [.i .i64 g.1] ++ ([.s g.2.1] ++ ([]))
abbrev titQ (w : World) : titT → Prop := fun g => inR .i64 g.1 ∧ g.2.1.length ≤ maxLen ∧ True
theorem open_tit {w : World} : OpenS Tryz.prog w 50 titF (titQ w) :=
  openS_struct (okTy (t := 50) rfl).2.2.2 (cellsOf_ty (okTy (t := 50) rfl))
    (openF_cons (cellsOf_ty (okTy (t := 3) rfl)) (openS_int Tryz.underlying3) (openF_cons (cellsOf_ty (okTy (t := 9) rfl)) (openS_str Tryz.underlying9) openF_nil (by decide)) (by decide))
abbrev revT := Int × Bt × Bt × Bt × Int × Int × Unit
abbrev revF : revT → List C := fun g => [.i .i64 g.1] ++ ([.s g.2.1] ++ ([.s g.2.2.1] ++ ([.s g.2.2.2.1] ++ ([.i .i64 g.2.2.2.2.1] ++ ([.i .i64 g.2.2.2.2.2.1] ++ ([]))))))
abbrev revQ (w : World) : revT → Prop := fun g => inR .i64 g.1 ∧ g.2.1.length ≤ maxLen ∧ g.2.2.1.length ≤ maxLen ∧ g.2.2.2.1.length ≤ maxLen ∧ inR .i64 g.2.2.2.2.1 ∧ inR .i64 g.2.2.2.2.2.1 ∧ True
theorem open_rev {w : World} : OpenS Tryz.prog w 98 revF (revQ w) :=
  openS_struct (okTy (t := 98) rfl).2.2.2 (cellsOf_ty (okTy (t := 98) rfl))
    (openF_cons (cellsOf_ty (okTy (t := 3) rfl)) (openS_int Tryz.underlying3) (openF_cons (cellsOf_ty (okTy (t := 9) rfl)) (openS_str Tryz.underlying9) (openF_cons (cellsOf_ty (okTy (t := 9) rfl)) (openS_str Tryz.underlying9) (openF_cons (cellsOf_ty (okTy (t := 9) rfl)) (openS_str Tryz.underlying9) (openF_cons (cellsOf_ty (okTy (t := 3) rfl)) (openS_int Tryz.underlying3) (openF_cons (cellsOf_ty (okTy (t := 3) rfl)) (openS_int Tryz.underlying3) openF_nil (by decide)) (by decide)) (by decide)) (by decide)) (by decide)) (by decide))
abbrev stoT := titT × (Option Addr × Nat × Nat × List revT) × Unit
abbrev stoF : stoT → List C := fun g => titF g.1 ++ ([.sl g.2.1.1 g.2.1.2.1 g.2.1.2.2.1] ++ ([]))
abbrev stoQ (w : World) : stoT → Prop := fun g => titQ w g.1 ∧ slQ w 6 revF (revQ w) g.2.1 ∧ True
theorem open_sto {w : World} : OpenS Tryz.prog w 95 stoF (stoQ w) :=
  openS_struct (okTy (t := 95) rfl).2.2.2 (cellsOf_ty (okTy (t := 95) rfl))
    (openF_cons (cellsOf_ty (okTy (t := 50) rfl)) open_tit (openF_cons (cellsOf_ty (okTy (t := 88) rfl)) (openS_slice (z := 6) Tryz.underlying88 (cellsOf_ty (okTy (t := 98) rfl)) (by decide) (one1 fun _ => rfl) open_rev) openF_nil (by decide)) (by decide))
abbrev proT := Int × Bt × Bt × titT × Int × Bt × Int × Unit
abbrev proF : proT → List C := fun g => [.i .i64 g.1] ++ ([.s g.2.1] ++ ([.s g.2.2.1] ++ (titF g.2.2.2.1 ++ ([.i .i64 g.2.2.2.2.1] ++ ([.s g.2.2.2.2.2.1] ++ ([.i .i64 g.2.2.2.2.2.2.1] ++ ([])))))))
abbrev proQ (w : World) : proT → Prop := fun g => inR .i64 g.1 ∧ g.2.1.length ≤ maxLen ∧ g.2.2.1.length ≤ maxLen ∧ titQ w g.2.2.2.1 ∧ inR .i64 g.2.2.2.2.1 ∧ g.2.2.2.2.2.1.length ≤ maxLen ∧ inR .i64 g.2.2.2.2.2.2.1 ∧ True
theorem open_pro {w : World} : OpenS Tryz.prog w 196 proF (proQ w) :=
  openS_struct (okTy (t := 196) rfl).2.2.2 (cellsOf_ty (okTy (t := 196) rfl))
    (openF_cons (cellsOf_ty (okTy (t := 3) rfl)) (openS_int Tryz.underlying3) (openF_cons (cellsOf_ty (okTy (t := 9) rfl)) (openS_str Tryz.underlying9) (openF_cons (cellsOf_ty (okTy (t := 9) rfl)) (openS_str Tryz.underlying9) (openF_cons (cellsOf_ty (okTy (t := 50) rfl)) open_tit (openF_cons (cellsOf_ty (okTy (t := 3) rfl)) (openS_int Tryz.underlying3) (openF_cons (cellsOf_ty (okTy (t := 9) rfl)) (openS_str Tryz.underlying9) (openF_cons (cellsOf_ty (okTy (t := 3) rfl)) (openS_int Tryz.underlying3) openF_nil (by decide)) (by decide)) (by decide)) (by decide)) (by decide)) (by decide)) (by decide))
abbrev watT := Bt × titT × Unit
abbrev watF : watT → List C := fun g => [.s g.1] ++ (titF g.2.1 ++ ([]))
abbrev watQ (w : World) : watT → Prop := fun g => g.1.length ≤ maxLen ∧ titQ w g.2.1 ∧ True
theorem open_wat {w : World} : OpenS Tryz.prog w 198 watF (watQ w) :=
  openS_struct (okTy (t := 198) rfl).2.2.2 (cellsOf_ty (okTy (t := 198) rfl))
    (openF_cons (cellsOf_ty (okTy (t := 9) rfl)) (openS_str Tryz.underlying9) (openF_cons (cellsOf_ty (okTy (t := 50) rfl)) open_tit openF_nil (by decide)) (by decide))
abbrev lasT := Bt × Int × Unit
abbrev lasF : lasT → List C := fun g => [.s g.1] ++ ([.i .i64 g.2.1] ++ ([]))
abbrev lasQ (w : World) : lasT → Prop := fun g => g.1.length ≤ maxLen ∧ inR .i64 g.2.1 ∧ True
theorem open_las {w : World} : OpenS Tryz.prog w 168 lasF (lasQ w) :=
  openS_struct (okTy (t := 168) rfl).2.2.2 (cellsOf_ty (okTy (t := 168) rfl))
    (openF_cons (cellsOf_ty (okTy (t := 9) rfl)) (openS_str Tryz.underlying9) (openF_cons (cellsOf_ty (okTy (t := 3) rfl)) (openS_int Tryz.underlying3) openF_nil (by decide)) (by decide))
abbrev staT := Int × Int × (Option Addr × Nat × Nat × List stoT) × (Option Addr × Nat × Nat × List stoT) × (Option Addr × Nat × Nat × List proT) × Int × (Option Addr × Nat × Nat × List watT) × (Option Addr × Nat × Nat × List lasT) × Unit
abbrev staF : staT → List C := fun g => [.i .i64 g.1] ++ ([.i .i64 g.2.1] ++ ([.sl g.2.2.1.1 g.2.2.1.2.1 g.2.2.1.2.2.1] ++ ([.sl g.2.2.2.1.1 g.2.2.2.1.2.1 g.2.2.2.1.2.2.1] ++ ([.sl g.2.2.2.2.1.1 g.2.2.2.2.1.2.1 g.2.2.2.2.1.2.2.1] ++ ([.i .i64 g.2.2.2.2.2.1] ++ ([.sl g.2.2.2.2.2.2.1.1 g.2.2.2.2.2.2.1.2.1 g.2.2.2.2.2.2.1.2.2.1] ++ ([.sl g.2.2.2.2.2.2.2.1.1 g.2.2.2.2.2.2.2.1.2.1 g.2.2.2.2.2.2.2.1.2.2.1] ++ ([]))))))))
abbrev staQ (w : World) : staT → Prop := fun g => inR .i64 g.1 ∧ inR .i64 g.2.1 ∧ slQ w 3 stoF (stoQ w) g.2.2.1 ∧ slQ w 3 stoF (stoQ w) g.2.2.2.1 ∧ slQ w 8 proF (proQ w) g.2.2.2.2.1 ∧ inR .i64 g.2.2.2.2.2.1 ∧ slQ w 3 watF (watQ w) g.2.2.2.2.2.2.1 ∧ slQ w 2 lasF (lasQ w) g.2.2.2.2.2.2.2.1 ∧ True
theorem open_sta {w : World} : OpenS Tryz.prog w 42 staF (staQ w) :=
  openS_struct (okTy (t := 42) rfl).2.2.2 (cellsOf_ty (okTy (t := 42) rfl))
    (openF_cons (cellsOf_ty (okTy (t := 3) rfl)) (openS_int Tryz.underlying3) (openF_cons (cellsOf_ty (okTy (t := 3) rfl)) (openS_int Tryz.underlying3) (openF_cons (cellsOf_ty (okTy (t := 37) rfl)) (openS_slice (z := 3) Tryz.underlying37 (cellsOf_ty (okTy (t := 95) rfl)) (by decide) (one1 fun _ => rfl) open_sto) (openF_cons (cellsOf_ty (okTy (t := 37) rfl)) (openS_slice (z := 3) Tryz.underlying37 (cellsOf_ty (okTy (t := 95) rfl)) (by decide) (one1 fun _ => rfl) open_sto) (openF_cons (cellsOf_ty (okTy (t := 38) rfl)) (openS_slice (z := 8) Tryz.underlying38 (cellsOf_ty (okTy (t := 196) rfl)) (by decide) (one1 fun _ => rfl) open_pro) (openF_cons (cellsOf_ty (okTy (t := 3) rfl)) (openS_int Tryz.underlying3) (openF_cons (cellsOf_ty (okTy (t := 39) rfl)) (openS_slice (z := 3) Tryz.underlying39 (cellsOf_ty (okTy (t := 198) rfl)) (by decide) (one1 fun _ => rfl) open_wat) (openF_cons (cellsOf_ty (okTy (t := 40) rfl)) (openS_slice (z := 2) Tryz.underlying40 (cellsOf_ty (okTy (t := 168) rfl)) (by decide) (one1 fun _ => rfl) open_las) openF_nil (by decide)) (by decide)) (by decide)) (by decide)) (by decide)) (by decide)) (by decide)) (by decide))
theorem slf_of {α : Type} {w : World} {z e : Nat} {F : α → List C} {a : Option Addr} {n c : Nat} {l : List α} (h : SlOK w z (l.flatMap F) a n c) (hn : n = l.length) : SlF (fun b => w.heap[b]?) e z a l.length (l.flatMap F) := by
  obtain ⟨_, f⟩ := h.f
  subst hn
  exact f
/-- The pages in memory that a list is. -/
theorem pgs_of {w : World} {a : Option Addr} {n c : Nat} {l0 : List stoT} (h : slQ w 3 stoF (stoQ w) (a, n, c, l0)) : ∃ l : List PGM, n = l.length ∧ n ≤ c ∧ l.length ≤ 9223372036854775807 ∧ (∀ p ∈ l, p.hist.length ≤ 9223372036854775807) ∧ PgP (fun b => w.heap[b]?) a l := by
  obtain ⟨h1, h2, h3⟩ := h
  dsimp only at h1 h2 h3
  have hM : maxLen ≤ 9223372036854775807 := by simp only [maxLen]; omega
  let fr : revT → RV := fun x => ⟨x.1, x.2.1, x.2.2.1, x.2.2.2.1, x.2.2.2.2.1, x.2.2.2.2.2.1⟩
  let f : stoT → PGM := fun x => ⟨x.1.1, x.1.2.1, x.2.1.1, x.2.1.2.2.1, x.2.1.2.2.2.map fr⟩
  have er : ∀ l : List revT, rvC (l.map fr) = l.flatMap revF := fun l => flatMap_mk fun x hx => rfl
  have ev : pgmC (l0.map f) = l0.flatMap stoF := flatMap_mk fun x hx => by
    have h4 := (h3 x hx).1.2.1.1
    show [C.i .i64 x.1.1, C.s x.1.2.1, C.sl x.2.1.1 (x.2.1.2.2.2.map fr).length x.2.1.2.2.1] = _
    rw [List.length_map, ← h4]; rfl
  refine ⟨l0.map f, by simp [h1], h2.le, by rw [List.length_map, ← h1]; exact Nat.le_trans (Nat.le_trans h2.le h2.max) hM, fun p hp => ?_, ⟨?_, fun p hp => ?_⟩⟩
  · obtain ⟨x, hx, rfl⟩ := List.mem_map.1 hp
    obtain ⟨h4, h5, _⟩ := (h3 x hx).1.2.1
    show (x.2.1.2.2.2.map fr).length ≤ _
    rw [List.length_map, ← h4]; exact Nat.le_trans (Nat.le_trans h5.le h5.max) hM
  · rw [ev, List.length_map]; exact slf_of h2 h1
  · obtain ⟨x, hx, rfl⟩ := List.mem_map.1 hp
    obtain ⟨h4, h5, _⟩ := (h3 x hx).1.2.1
    show SlF _ 0 6 x.2.1.1 (x.2.1.2.2.2.map fr).length (rvC (x.2.1.2.2.2.map fr))
    rw [er, List.length_map]; exact slf_of h5 h4
/-- The state in memory that an argument is. -/
theorem state_of {w : World} {g : staT} (h : staQ w g) : ∃ s : STM, staF g = s.cells ∧ s.pages.length ≤ 9223372036854775807 ∧ (∀ p ∈ s.pages, p.hist.length ≤ 9223372036854775807) ∧ s.gone.length ≤ 9223372036854775807 ∧ (∀ p ∈ s.gone, p.hist.length ≤ 9223372036854775807) ∧ StP (fun b => w.heap[b]?) s := by
  obtain ⟨sq, ck, ⟨pa, pn, pc, pl⟩, ⟨ga, gn, gc, gl⟩, ⟨qa, qn, qc, ql⟩, pd, ⟨wa, wn, wc, wl⟩, ⟨la, ln, lc, ll⟩, u⟩ := g
  obtain ⟨_, _, hp, hg, ⟨q1, q2, q3⟩, _, ⟨w1, w2, w3⟩, ⟨l1, l2, l3⟩, _⟩ := h
  obtain ⟨P, p1, p2, p3, p4, p5⟩ := pgs_of hp
  obtain ⟨G, g1, g2, g3, g4, g5⟩ := pgs_of hg
  dsimp only at q1 q2 q3 w1 w2 w3 l1 l2 l3 p1 g1
  subst p1 g1
  let fq : proT → PP := fun x => ⟨x.1, x.2.1, x.2.2.1, x.2.2.2.1.1, x.2.2.2.1.2.1, x.2.2.2.2.1, x.2.2.2.2.2.1, x.2.2.2.2.2.2.1⟩
  let fw : watT → WT := fun x => ⟨x.1, x.2.1.1, x.2.1.2.1⟩
  let fl : lasT → LU := fun x => ⟨x.1, x.2.1⟩
  have eq : ppC (ql.map fq) = ql.flatMap proF := flatMap_mk fun x hx => rfl
  have ew : wtC (wl.map fw) = wl.flatMap watF := flatMap_mk fun x hx => rfl
  have el : ltC (ll.map fl) = ll.flatMap lasF := flatMap_mk fun x hx => rfl
  refine ⟨⟨sq, ck, pa, pc, P, ga, gc, G, qa, qc, ql.map fq, pd, wa, wc, wl.map fw, la, lc, ll.map fl⟩, ?_, p3, p4, g3, g4, ⟨p5, g5, ?_, ?_, ?_, ⟨p2, g2, ?_, ?_, ?_⟩⟩⟩
  · subst q1 w1 l1; simp [staF, STM.cells]
  · show SlF _ 0 8 qa (ql.map fq).length (ppC (ql.map fq)); rw [eq, List.length_map]; exact slf_of q2 q1
  · show SlF _ 0 3 wa (wl.map fw).length (wtC (wl.map fw)); rw [ew, List.length_map]; exact slf_of w2 w1
  · show SlF _ 0 2 la (ll.map fl).length (ltC (ll.map fl)); rw [el, List.length_map]; exact slf_of l2 l1
  · show (ql.map fq).length ≤ qc; rw [List.length_map, ← q1]; exact q2.le
  · show (wl.map fw).length ≤ wc; rw [List.length_map, ← w1]; exact w2.le
  · show (ll.map fl).length ≤ lc; rw [List.length_map, ← l1]; exact l2.le
end Go.Proofs.YthknndkjnglegaaGreat
