/- This text walks through the functions on lists of parameters: names, comparisons, and the sorted insertion of the reference. -/
import Derived.Test.YtggnedoblokenaaDoorParA
import Derived.Test.YtggnedoblokenaaDoorIter
set_option linter.all false

namespace Go.X
open Go Go.Lib

theorem less_iff (a b : Bt) : Op.bytesLess a b = true ↔ a < b := by rw [Go.Proofs.bytesLess_eq, decide_eq_true_eq]
theorem names_snoc {l : List KT} {i : Nat} (h : i < l.length) : keysT (l.take (i + 1)) = keysT (l.take i) ++ [l[i].1] := by
  unfold keysT
  rw [List.take_succ_eq_append_getElem h, List.map_append]; rfl

end Go.X

namespace Go.Proofs
open Go Go.X Go.Lib
set_option maxRecDepth 100000
set_option maxHeartbeats 4000000

def NamesP (l : List KT) : V → List Chunk → List Fact → Prop := fun v L D => ∃ a c, v = .c (.sl a l.length c) ∧ L = [] ∧ D = [slFact 9 1 a l.length ((keysT l).map C.s)]

theorem names_ok (e : Nat) (a : Option Addr) (c : Nat) (l : List KT) (hl : l.length ≤ 1000) :
    FnS Tryd.prog 13 [.c (.sl a l.length c)] [] [slFact e 2 a l.length (ktC l)] (NamesP l) := by
  have hrd : ∀ L, Reads L [slFact e 2 a l.length (ktC l)] e 2 a l.length (ktC l) := fun L => .inr fun m h => h.1
  refine fn_of_J Tryd.tyOK 0 Tryd.func13 (by kernel_rfl) (c := Tryd.f13.body.getD .skip) (by kernel_rfl) Tryd.ntmps13 (rs := Tryd.f13.results.toList) rfl (by simp) (fun G => ?_)
  repeat' first
    | refine J_seq ?_ | refine J_region Tryd.tyOK ?_ | refine J_block ?_ | refine J_cond ?_ | refine J_ret ?_ | refine J_skip ?_ | refine J_exit ?_ | refine J_scope ?_
    | refine CondP.yes (by omega) ?_ | refine CondP.no (by omega) ?_ | refine CondP.mk (fun h => ?_) (fun h => ?_) | refine EqP.mk rfl ?_ | refine NewP.mk (fun ad => ?_) | refine ArP.exact (by simp only [inR]; omega) ?_ | refine SideP.mk (by first | omega | (dsimp only; omega) | (simp; omega)) ?_
    | fail
  refine J_loop (α := Nat × Option Addr × Nat) (fun x => [(3, .c (.sl x.2.1 x.1 x.2.2)), (6, .c (.sl a l.length c)), (7, .c (.i .i64 l.length)), (8, .c (.i .i64 x.1))]) (fun x => [.row 9 1 x.2.1 x.1 x.2.2 ((keysT (l.take x.1)).map C.s)]) (fun _ => [slFact e 2 a l.length (ktC l)]) 0
    (fun x => x.1 ≤ l.length) (fun x => l.length - x.1) (InFam.mk (0, none, 0) (Nat.zero_le _) (by repeat' first | exact SubE.nil | refine SubE.cons rfl ?_ ?_ | exact VEq.refl _ | refine VEq.int (by omega) | refine VEq.sl rfl (by first | rfl | omega | (rw [List.length_append]; rfl) | (simp; omega)) rfl) Ents.nilRow) (fun x hi => ?_)
  obtain ⟨i, a1, c1⟩ := x
  dsimp only at hi ⊢
  by_cases hlt : i < l.length
  · have hg := kt_get hlt
    have hn := names_snoc hlt
    generalize l[i] = x at *
    obtain ⟨xn, xt⟩ := x
    generalize keysT (l.take i) = ks0 at *
    repeat' first
      | refine J_seq ?_ | refine J_region Tryd.tyOK ?_ | refine J_block ?_ | refine J_cond ?_ | refine J_ret ?_ | refine J_skip ?_ | refine J_exit ?_ | refine J_scope ?_
      | refine CondP.yes (by omega) ?_ | refine CondP.no (by omega) ?_ | refine CondP.mk (fun h => ?_) (fun h => ?_) | refine EqP.mk rfl ?_ | refine NewP.mk (fun ad => ?_) | refine ArP.exact (by simp only [inR]; omega) ?_ | refine SideP.mk (by first | omega | (dsimp only; omega) | (simp; omega)) ?_
      | refine IdxE.mk e 2 _ (hrd _) (by omega) (by omega) ?_ | refine LoadE.mk e _ _ _ (hrd _) (by omega) (by omega) (by first | omega | decide) hg ?_ | refine AppE.row [_, _] [] (ks0.map C.s) [C.s xn] 1 rfl (SrcE.sl 9 9 _ _ 1 1 _ rfl rfl (.inl ⟨1, List.Mem.head _⟩) rfl) (by dsimp only; omega) (fun a' c' => ?_) | refine Round.mk (i + 1, a', c') (by dsimp only; omega) (by dsimp only; omega) (by repeat' first | exact SubE.nil | refine SubE.cons rfl ?_ ?_ | exact VEq.refl _ | refine VEq.int (by omega) | refine VEq.sl rfl (by first | rfl | omega | (rw [List.length_append]; rfl) | (simp; omega)) rfl) (Ents.drop.trans (Ents.drop.trans (Ents.of ?_)))
      | fail
    all_goals (dsimp only; rw [hn, List.map_append]; rfl)
  · have hil : i = l.length := by omega
    subst hil
    rw [List.take_length]
    repeat' first
      | refine J_seq ?_ | refine J_region Tryd.tyOK ?_ | refine J_block ?_ | refine J_cond ?_ | refine J_ret ?_ | refine J_skip ?_ | refine J_exit ?_ | refine J_scope ?_
      | refine CondP.yes (by omega) ?_ | refine CondP.no (by omega) ?_ | refine CondP.mk (fun h => ?_) (fun h => ?_) | refine EqP.mk rfl ?_ | refine NewP.mk (fun ad => ?_) | refine ArP.exact (by simp only [inR]; omega) ?_ | refine SideP.mk (by first | omega | (dsimp only; omega) | (simp; omega)) ?_
      | refine FinE.mk [] [_] ⟨a1, c1, rfl, rfl, rfl⟩ (Ents.toFact.trans (Ents.facts fun _ h => ⟨h.1, trivial⟩))
      | fail

theorem refNames_ok (e : Nat) (a : Option Addr) (c : Nat) (l : List KT) (hl : l.length ≤ 1000) :
    FnS Tryd.prog 19 [.c (.sl a l.length c)] [] [slFact e 2 a l.length (ktC l)] (NamesP l) := by
  have hrd : ∀ L, Reads L [slFact e 2 a l.length (ktC l)] e 2 a l.length (ktC l) := fun L => .inr fun m h => h.1
  refine fn_of_J Tryd.tyOK 0 Tryd.func19 (by kernel_rfl) (c := Tryd.f19.body.getD .skip) (by kernel_rfl) Tryd.ntmps19 (rs := Tryd.f19.results.toList) rfl (by simp) (fun G => ?_)
  repeat' first
    | refine J_seq ?_ | refine J_region Tryd.tyOK ?_ | refine J_block ?_ | refine J_cond ?_ | refine J_ret ?_ | refine J_skip ?_ | refine J_exit ?_ | refine J_scope ?_
    | refine CondP.yes (by omega) ?_ | refine CondP.no (by omega) ?_ | refine CondP.mk (fun h => ?_) (fun h => ?_) | refine EqP.mk rfl ?_ | refine NewP.mk (fun ad => ?_) | refine ArP.exact (by simp only [inR]; omega) ?_ | refine SideP.mk (by first | omega | (dsimp only; omega) | (simp; omega)) ?_
    | fail
  refine J_loop (α := Nat × Option Addr × Nat) (fun x => [(0, .c (.sl a l.length c)), (3, .c (.sl x.2.1 x.1 x.2.2)), (4, .c (.i .i64 x.1))]) (fun x => [.row 9 1 x.2.1 x.1 x.2.2 ((keysT (l.take x.1)).map C.s)]) (fun _ => [slFact e 2 a l.length (ktC l)]) 0
    (fun x => x.1 ≤ l.length) (fun x => l.length - x.1) (InFam.mk (0, none, 0) (Nat.zero_le _) (by repeat' first | exact SubE.nil | refine SubE.cons rfl ?_ ?_ | exact VEq.refl _ | refine VEq.int (by omega) | refine VEq.sl rfl (by first | rfl | omega | (rw [List.length_append]; rfl) | (simp; omega)) rfl) Ents.nilRow) (fun x hi => ?_)
  obtain ⟨i, a1, c1⟩ := x
  dsimp only at hi ⊢
  by_cases hlt : i < l.length
  · have hg := kt_get0 hlt
    have hn := names_snoc hlt
    generalize l[i] = x at *
    obtain ⟨xn, xt⟩ := x
    generalize keysT (l.take i) = ks0 at *
    repeat' first
      | refine J_seq ?_ | refine J_region Tryd.tyOK ?_ | refine J_block ?_ | refine J_cond ?_ | refine J_ret ?_ | refine J_skip ?_ | refine J_exit ?_ | refine J_scope ?_
      | refine CondP.yes (by omega) ?_ | refine CondP.no (by omega) ?_ | refine CondP.mk (fun h => ?_) (fun h => ?_) | refine EqP.mk rfl ?_ | refine NewP.mk (fun ad => ?_) | refine ArP.exact (by simp only [inR]; omega) ?_ | refine SideP.mk (by first | omega | (dsimp only; omega) | (simp; omega)) ?_
      | refine IdxE.mk e 2 _ (hrd _) (by omega) (by omega) ?_ | refine FldE.mk e 2 _ _ (hrd _) (by omega) ?_ | refine LoadE.mk e _ _ _ (hrd _) (by omega) (by omega) (by first | omega | decide) hg ?_ | refine AppE.row [_] [] (ks0.map C.s) [C.s xn] 1 rfl (SrcE.sl 9 9 _ _ 1 1 _ rfl rfl (.inl ⟨1, List.Mem.head _⟩) rfl) (by dsimp only; omega) (fun a' c' => ?_) | refine Round.mk (i + 1, a', c') (by dsimp only; omega) (by dsimp only; omega) (by repeat' first | exact SubE.nil | refine SubE.cons rfl ?_ ?_ | exact VEq.refl _ | refine VEq.int (by omega) | refine VEq.sl rfl (by first | rfl | omega | (rw [List.length_append]; rfl) | (simp; omega)) rfl) (Ents.drop.trans (Ents.of ?_))
      | fail
    all_goals (dsimp only; rw [hn, List.map_append]; rfl)
  · have hil : i = l.length := by omega
    subst hil
    rw [List.take_length]
    repeat' first
      | refine J_seq ?_ | refine J_region Tryd.tyOK ?_ | refine J_block ?_ | refine J_cond ?_ | refine J_ret ?_ | refine J_skip ?_ | refine J_exit ?_ | refine J_scope ?_
      | refine CondP.yes (by omega) ?_ | refine CondP.no (by omega) ?_ | refine CondP.mk (fun h => ?_) (fun h => ?_) | refine EqP.mk rfl ?_ | refine NewP.mk (fun ad => ?_) | refine ArP.exact (by simp only [inR]; omega) ?_ | refine SideP.mk (by first | omega | (dsimp only; omega) | (simp; omega)) ?_
      | refine FinE.mk [] [_] ⟨a1, c1, rfl, rfl, rfl⟩ (Ents.toFact.trans (Ents.facts fun _ h => ⟨h.1, trivial⟩))
      | fail

theorem sameB_ok (e e' : Nat) (a a' : Option Addr) (c c' : Nat) (l : List KT) (hl : l.length ≤ 1000) :
    FnS Tryd.prog 12 [.c (.sl a l.length c), .c (.sl a' l.length c')] [] [slFact e 2 a l.length (ktC l), slFact e' 2 a' l.length (ktC l)] (Is (.c (.b true))) := by
  have hr1 : ∀ L, Reads L [slFact e 2 a l.length (ktC l), slFact e' 2 a' l.length (ktC l)] e 2 a l.length (ktC l) := fun L => .inr fun m h => h.1
  have hr2 : ∀ L, Reads L [slFact e 2 a l.length (ktC l), slFact e' 2 a' l.length (ktC l)] e' 2 a' l.length (ktC l) := fun L => .inr fun m h => h.2.1
  generalize hD : [slFact e 2 a l.length (ktC l), slFact e' 2 a' l.length (ktC l)] = DD at *
  refine fn_of_J Tryd.tyOK 0 Tryd.func12 (by kernel_rfl) (c := Tryd.f12.body.getD .skip) (by kernel_rfl) Tryd.ntmps12 (rs := Tryd.f12.results.toList) rfl (by simp) (fun G => ?_)
  repeat' first
    | refine J_seq ?_ | refine J_region Tryd.tyOK ?_ | refine J_block ?_ | refine J_cond ?_ | refine J_ret ?_ | refine J_skip ?_ | refine J_exit ?_ | refine J_scope ?_
    | refine CondP.yes (by omega) ?_ | refine CondP.no (by omega) ?_ | refine CondP.mk (fun h => ?_) (fun h => ?_) | refine EqP.mk rfl ?_ | refine NewP.mk (fun ad => ?_) | refine ArP.exact (by simp only [inR]; omega) ?_ | refine SideP.mk (by first | omega | (dsimp only; omega) | (simp; omega)) ?_
    | fail
  refine J_loop (α := Nat) (fun i => [(0, .c (.sl a l.length c)), (1, .c (.sl a' l.length c')), (5, .c (.i .i64 i))]) (fun _ => []) (fun _ => DD) 0 (fun i => i ≤ l.length) (fun i => l.length - i) (InFam.mk 0 (by omega) (by repeat' first | exact SubE.nil | refine SubE.cons rfl ?_ ?_ | exact VEq.refl _ | refine VEq.int (by omega) | refine VEq.sl rfl (by first | rfl | omega | (rw [List.length_append]; rfl) | (simp; omega)) rfl) (Ents.refl _ _)) (fun i hi => ?_)
  by_cases hlt : i < l.length
  · have hg := kt_get hlt
    generalize l[i] = x at *
    obtain ⟨xn, xt⟩ := x
    repeat' first
      | refine CondP.yes ⟨rfl, rfl, trivial⟩ ?_
      | refine J_seq ?_ | refine J_region Tryd.tyOK ?_ | refine J_block ?_ | refine J_cond ?_ | refine J_ret ?_ | refine J_skip ?_ | refine J_exit ?_ | refine J_scope ?_
      | refine CondP.yes (by omega) ?_ | refine CondP.no (by omega) ?_ | refine CondP.mk (fun h => ?_) (fun h => ?_) | refine EqP.mk rfl ?_ | refine NewP.mk (fun ad => ?_) | refine ArP.exact (by simp only [inR]; omega) ?_ | refine SideP.mk (by first | omega | (dsimp only; omega) | (simp; omega)) ?_
      | refine J_drawS (id := 6) Tryd.tyOK (by kernel_rfl) [0, 0, 3, 7, 0, 0, 48, 112, 255] [0, 1, 2, 3, 4, 5, 6, 7, 8] [] [19, 23] true (by kernel_rfl) ?_ | refine EntP.mk (Ents.ofSub (by repeat (first | exact List.Sublist.slnil | refine List.Sublist.cons_cons _ ?_ | refine List.Sublist.cons _ ?_)) (by first | exact fun _ h => h | exact fun _ _ => trivial | exact fun _ h => h.2 | exact fun _ h => h.2.2.2.2 | exact fun _ h => ((allD_append _ _).1 h).2)) ?_ | refine IdxE.mk e 2 _ (hr1 _) (by omega) (by omega) ?_ | refine IdxE.mk e' 2 _ (hr2 _) (by omega) (by omega) ?_ | refine LoadE.mk e _ _ _ (hr1 _) (by omega) (by omega) (by first | omega | decide) hg ?_ | refine LoadE.mk e' _ _ _ (hr2 _) (by omega) (by omega) (by first | omega | decide) hg ?_ | refine Round.mk (i + 1) (by omega) (by omega) (by repeat' first | exact SubE.nil | refine SubE.cons rfl ?_ ?_ | exact VEq.refl _ | refine VEq.int (by omega) | refine VEq.sl rfl (by first | rfl | omega | (rw [List.length_append]; rfl) | (simp; omega)) rfl) (Ents.refl _ _)
      | fail
  · repeat' first
      | refine J_seq ?_ | refine J_region Tryd.tyOK ?_ | refine J_block ?_ | refine J_cond ?_ | refine J_ret ?_ | refine J_skip ?_ | refine J_exit ?_ | refine J_scope ?_
      | refine CondP.yes (by omega) ?_ | refine CondP.no (by omega) ?_ | refine CondP.mk (fun h => ?_) (fun h => ?_) | refine EqP.mk rfl ?_ | refine NewP.mk (fun ad => ?_) | refine ArP.exact (by simp only [inR]; omega) ?_ | refine SideP.mk (by first | omega | (dsimp only; omega) | (simp; omega)) ?_
      | refine FinE.bool rfl
      | fail

theorem sameS_ok (e e' : Nat) (a a' : Option Addr) (c c' : Nat) (l : List Bt) (hl : l.length ≤ 1000) :
    FnS Tryd.prog 18 [.c (.sl a l.length c), .c (.sl a' l.length c')] [] [slFact e 1 a l.length (l.map C.s), slFact e' 1 a' l.length (l.map C.s)] (Is (.c (.b true))) := by
  have hr1 : ∀ L, Reads L [slFact e 1 a l.length (l.map C.s), slFact e' 1 a' l.length (l.map C.s)] e 1 a l.length (l.map C.s) := fun L => .inr fun m h => h.1
  have hr2 : ∀ L, Reads L [slFact e 1 a l.length (l.map C.s), slFact e' 1 a' l.length (l.map C.s)] e' 1 a' l.length (l.map C.s) := fun L => .inr fun m h => h.2.1
  generalize hD : [slFact e 1 a l.length (l.map C.s), slFact e' 1 a' l.length (l.map C.s)] = DD at *
  refine fn_of_J Tryd.tyOK 0 Tryd.func18 (by kernel_rfl) (c := Tryd.f18.body.getD .skip) (by kernel_rfl) Tryd.ntmps18 (rs := Tryd.f18.results.toList) rfl (by simp) (fun G => ?_)
  repeat' first
    | refine J_seq ?_ | refine J_region Tryd.tyOK ?_ | refine J_block ?_ | refine J_cond ?_ | refine J_ret ?_ | refine J_skip ?_ | refine J_exit ?_ | refine J_scope ?_
    | refine CondP.yes (by omega) ?_ | refine CondP.no (by omega) ?_ | refine CondP.mk (fun h => ?_) (fun h => ?_) | refine EqP.mk rfl ?_ | refine NewP.mk (fun ad => ?_) | refine ArP.exact (by simp only [inR]; omega) ?_ | refine SideP.mk (by first | omega | (dsimp only; omega) | (simp; omega)) ?_
    | fail
  refine J_loop (α := Nat) (fun i => [(0, .c (.sl a l.length c)), (1, .c (.sl a' l.length c')), (5, .c (.i .i64 i))]) (fun _ => []) (fun _ => DD) 0 (fun i => i ≤ l.length) (fun i => l.length - i) (InFam.mk 0 (by omega) (by repeat' first | exact SubE.nil | refine SubE.cons rfl ?_ ?_ | exact VEq.refl _ | refine VEq.int (by omega) | refine VEq.sl rfl (by first | rfl | omega | (rw [List.length_append]; rfl) | (simp; omega)) rfl) (Ents.refl _ _)) (fun i hi => ?_)
  by_cases hlt : i < l.length
  · have hcm := map_take1 (f := C.s) hlt
    generalize l[i] = x at *
    repeat' first
      | refine CondP.yes rfl ?_
      | refine J_seq ?_ | refine J_region Tryd.tyOK ?_ | refine J_block ?_ | refine J_cond ?_ | refine J_ret ?_ | refine J_skip ?_ | refine J_exit ?_ | refine J_scope ?_
      | refine CondP.yes (by omega) ?_ | refine CondP.no (by omega) ?_ | refine CondP.mk (fun h => ?_) (fun h => ?_) | refine EqP.mk rfl ?_ | refine NewP.mk (fun ad => ?_) | refine ArP.exact (by simp only [inR]; omega) ?_ | refine SideP.mk (by first | omega | (dsimp only; omega) | (simp; omega)) ?_
      | refine J_drawS (id := 6) Tryd.tyOK (by kernel_rfl) [0, 0, 3, 7, 0, 0, 48, 112, 255] [0, 1, 2, 3, 4, 5, 6, 7, 8] [] [19, 23] true (by kernel_rfl) ?_ | refine EntP.mk (Ents.ofSub (by repeat (first | exact List.Sublist.slnil | refine List.Sublist.cons_cons _ ?_ | refine List.Sublist.cons _ ?_)) (by first | exact fun _ h => h | exact fun _ _ => trivial | exact fun _ h => h.2 | exact fun _ h => h.2.2.2.2 | exact fun _ h => ((allD_append _ _).1 h).2)) ?_ | refine IdxE.mk e 1 _ (hr1 _) (by omega) (by omega) ?_ | refine IdxE.mk e' 1 _ (hr2 _) (by omega) (by omega) ?_ | refine LoadE.mk e _ _ _ (hr1 _) (by omega) (by omega) (by first | omega | decide) hcm ?_ | refine LoadE.mk e' _ _ _ (hr2 _) (by omega) (by omega) (by first | omega | decide) hcm ?_ | refine Round.mk (i + 1) (by omega) (by omega) (by repeat' first | exact SubE.nil | refine SubE.cons rfl ?_ ?_ | exact VEq.refl _ | refine VEq.int (by omega) | refine VEq.sl rfl (by first | rfl | omega | (rw [List.length_append]; rfl) | (simp; omega)) rfl) (Ents.refl _ _)
      | fail
  · repeat' first
      | refine J_seq ?_ | refine J_region Tryd.tyOK ?_ | refine J_block ?_ | refine J_cond ?_ | refine J_ret ?_ | refine J_skip ?_ | refine J_exit ?_ | refine J_scope ?_
      | refine CondP.yes (by omega) ?_ | refine CondP.no (by omega) ?_ | refine CondP.mk (fun h => ?_) (fun h => ?_) | refine EqP.mk rfl ?_ | refine NewP.mk (fun ad => ?_) | refine ArP.exact (by simp only [inR]; omega) ?_ | refine SideP.mk (by first | omega | (dsimp only; omega) | (simp; omega)) ?_
      | refine FinE.bool rfl
      | fail

/-- A list of parameters that comes back. -/
def KtP (l : List KT) : V → List Chunk → List Fact → Prop := fun v L D => ∃ a c, v = .c (.sl a l.length c) ∧ L = [] ∧ D = [slFact 33 2 a l.length (ktC l)]

theorem put_ok (e : Nat) (a : Option Addr) (c : Nat) (l : List KT) (n t : Bt) (hl : l.length ≤ 1000) :
    FnS Tryd.prog 24 [.c (.sl a l.length c), .c (.s n), .c (.s t)] [] [slFact e 2 a l.length (ktC l)] (KtP (putA l false n t)) := by
  have hrd : ∀ L, Reads L [slFact e 2 a l.length (ktC l)] e 2 a l.length (ktC l) := fun L => .inr fun m h => h.1
  generalize hP : putA l false n t = P
  generalize hD : [slFact e 2 a l.length (ktC l)] = DD at *
  refine fn_of_J Tryd.tyOK 0 Tryd.func24 (by kernel_rfl) (c := Tryd.f24.body.getD .skip) (by kernel_rfl) Tryd.ntmps24 (rs := Tryd.f24.results.toList) rfl (by simp) (fun G => ?_)
  repeat' first
    | refine J_seq ?_ | refine J_region Tryd.tyOK ?_ | refine J_block ?_ | refine J_cond ?_ | refine J_ret ?_ | refine J_skip ?_ | refine J_exit ?_ | refine J_scope ?_
    | refine CondP.yes (by omega) ?_ | refine CondP.no (by omega) ?_ | refine CondP.mk (fun h => ?_) (fun h => ?_) | refine EqP.mk rfl ?_ | refine NewP.mk (fun ad => ?_) | refine ArP.exact (by simp only [inR]; omega) ?_ | refine SideP.mk (by first | omega | (dsimp only; omega) | (simp; omega)) ?_
    | fail
  refine J_loop (α := Nat × Bool × List KT × Option Addr × Nat) (fun x => [(0, .c (.sl a l.length c)), (1, .c (.s n)), (2, .c (.s t)), (7, .c (.sl x.2.2.2.1 x.2.2.1.length x.2.2.2.2)), (8, .c (.b x.2.1)), (9, .c (.i .i64 x.1))]) (fun x => [.row 33 2 x.2.2.2.1 x.2.2.1.length x.2.2.2.2 (ktC x.2.2.1)]) (fun _ => DD) 0
    (fun x => x.1 ≤ l.length ∧ (x.2.2.1.length ≤ x.1 + 1 ∧ (x.2.1 = false → x.2.2.1.length ≤ x.1)) ∧ P = x.2.2.1 ++ putA (l.drop x.1) x.2.1 n t) (fun x => l.length - x.1) (InFam.mk (0, false, [], none, 0) ⟨Nat.zero_le _, ⟨Nat.zero_le _, fun _ => Nat.zero_le _⟩, hP.symm⟩ (by repeat' first | exact SubE.nil | refine SubE.cons rfl ?_ ?_ | exact VEq.refl _ | refine VEq.int (by omega) | refine VEq.sl rfl (by first | rfl | omega | (rw [List.length_append]; rfl) | (simp; omega)) rfl) Ents.nilRow) (fun x hi => ?_)
  obtain ⟨i, done, out, a1, c1⟩ := x
  dsimp only at hi ⊢
  obtain ⟨hi, ⟨ho, hof⟩, he⟩ := hi
  by_cases hlt : i < l.length
  · have hg := kt_get hlt
    have hg0 := kt_get0 hlt
    rw [List.drop_eq_getElem_cons hlt] at he
    generalize l[i] = x at *
    obtain ⟨xn, xt⟩ := x
    cases done with
    | true =>
      by_cases hx : xn = n
      · rw [putA, if_pos hx] at he
        repeat' first
          | refine CondP.yes hx ?_
          | refine J_seq ?_ | refine J_region Tryd.tyOK ?_ | refine J_block ?_ | refine J_cond ?_ | refine J_ret ?_ | refine J_skip ?_ | refine J_exit ?_ | refine J_scope ?_
          | refine CondP.yes (by omega) ?_ | refine CondP.no (by omega) ?_ | refine CondP.mk (fun h => ?_) (fun h => ?_) | refine EqP.mk rfl ?_ | refine NewP.mk (fun ad => ?_) | refine ArP.exact (by simp only [inR]; omega) ?_ | refine SideP.mk (by first | omega | (dsimp only; omega) | (simp; omega)) ?_
          | refine IdxE.mk e 2 _ (hrd _) (by omega) (by omega) ?_ | refine FldE.mk e 2 _ _ (hrd _) (by omega) ?_ | refine LoadE.mk e _ _ _ (hrd _) (by omega) (by omega) (by first | omega | decide) hg0 ?_ | refine Round.mk (i + 1, true, out, a1, c1) (by dsimp only; omega) ⟨by dsimp only; omega, ⟨by dsimp only; omega, fun h => by cases h⟩, ?_⟩ (by repeat' first | exact SubE.nil | refine SubE.cons rfl ?_ ?_ | exact VEq.refl _ | refine VEq.int (by omega) | refine VEq.sl rfl (by first | rfl | omega | (rw [List.length_append]; rfl) | (simp; omega)) rfl) (Ents.refl _ _)
          | fail
        all_goals first
          | solve | (repeat' first | exact SubE.nil | refine SubE.cons rfl ?_ ?_ | exact VEq.refl _ | refine VEq.int (by omega) | refine VEq.sl rfl (by first | rfl | omega | (rw [List.length_append]; rfl) | (simp; omega)) rfl)
          | (dsimp only; rw [he]; done)
          | (dsimp only; rw [he]; simp; done)
          | (dsimp only; rw [ktC_snoc]; simp [KT.cells]; done)
          | (dsimp only; simp [ktC, KT.cells]; done)
      · rw [putA, if_neg hx] at he
        repeat' first
          | refine CondP.no hx ?_
          | refine J_seq ?_ | refine J_region Tryd.tyOK ?_ | refine J_block ?_ | refine J_cond ?_ | refine J_ret ?_ | refine J_skip ?_ | refine J_exit ?_ | refine J_scope ?_
          | refine CondP.yes (by omega) ?_ | refine CondP.no (by omega) ?_ | refine CondP.mk (fun h => ?_) (fun h => ?_) | refine EqP.mk rfl ?_ | refine NewP.mk (fun ad => ?_) | refine ArP.exact (by simp only [inR]; omega) ?_ | refine SideP.mk (by first | omega | (dsimp only; omega) | (simp; omega)) ?_
          | refine IdxE.mk e 2 _ (hrd _) (by omega) (by omega) ?_ | refine FldE.mk e 2 _ _ (hrd _) (by omega) ?_ | refine LoadE.mk e _ _ _ (hrd _) (by omega) (by omega) (by first | omega | decide) hg0 ?_ | refine LoadE.mk e _ _ _ (hrd _) (by omega) (by omega) (by first | omega | decide) hg ?_ | refine AppE.row [_] [] (ktC out) [C.s xn, C.s xt] 1 rfl (SrcE.sl 33 33 _ _ 1 1 _ rfl rfl (.inl ⟨1, List.Mem.head _⟩) rfl) (by dsimp only; omega) (fun a' c' => ?_) | refine Round.mk (i + 1, true, out ++ [(xn, xt)], a', c') (by dsimp only; omega) ⟨by dsimp only; omega, ⟨by simp; omega, fun h => by cases h⟩, ?_⟩ ?_ (Ents.drop.trans (Ents.of ?_))
          | fail
        all_goals first
          | solve | (repeat' first | exact SubE.nil | refine SubE.cons rfl ?_ ?_ | exact VEq.refl _ | refine VEq.int (by omega) | refine VEq.sl rfl (by first | rfl | omega | (rw [List.length_append]; rfl) | (simp; omega)) rfl)
          | (dsimp only; rw [he]; done)
          | (dsimp only; rw [he]; simp; done)
          | (dsimp only; rw [ktC_snoc]; simp [KT.cells]; done)
          | (dsimp only; simp [ktC, KT.cells]; done)
    | false =>
      have hof := hof rfl
      by_cases h1 : xn < n
      · have hb : Op.bytesLess xn n = true := (less_iff xn n).2 h1
        have hx : ¬ xn = n := fun h => by rw [h] at h1; exact List.lt_irrefl _ h1
        rw [putA, if_pos h1] at he
        repeat' first
          | refine CondP.yes hb ?_ | refine CondP.no hx ?_
          | refine J_seq ?_ | refine J_region Tryd.tyOK ?_ | refine J_block ?_ | refine J_cond ?_ | refine J_ret ?_ | refine J_skip ?_ | refine J_exit ?_ | refine J_scope ?_
          | refine CondP.yes (by omega) ?_ | refine CondP.no (by omega) ?_ | refine CondP.mk (fun h => ?_) (fun h => ?_) | refine EqP.mk rfl ?_ | refine NewP.mk (fun ad => ?_) | refine ArP.exact (by simp only [inR]; omega) ?_ | refine SideP.mk (by first | omega | (dsimp only; omega) | (simp; omega)) ?_
          | refine IdxE.mk e 2 _ (hrd _) (by omega) (by omega) ?_ | refine FldE.mk e 2 _ _ (hrd _) (by omega) ?_ | refine LoadE.mk e _ _ _ (hrd _) (by omega) (by omega) (by first | omega | decide) hg0 ?_ | refine LoadE.mk e _ _ _ (hrd _) (by omega) (by omega) (by first | omega | decide) hg ?_ | refine AppE.row [_] [] (ktC out) [C.s xn, C.s xt] 1 rfl (SrcE.sl 33 33 _ _ 1 1 _ rfl rfl (.inl ⟨1, List.Mem.head _⟩) rfl) (by dsimp only; omega) (fun a' c' => ?_) | refine Round.mk (i + 1, false, out ++ [(xn, xt)], a', c') (by dsimp only; omega) ⟨by dsimp only; omega, ⟨by simp; omega, fun _ => by simp; omega⟩, ?_⟩ ?_ (Ents.drop.trans (Ents.of ?_))
          | fail
        all_goals first
          | solve | (repeat' first | exact SubE.nil | refine SubE.cons rfl ?_ ?_ | exact VEq.refl _ | refine VEq.int (by omega) | refine VEq.sl rfl (by first | rfl | omega | (rw [List.length_append]; rfl) | (simp; omega)) rfl)
          | (dsimp only; rw [he]; done)
          | (dsimp only; rw [he]; simp; done)
          | (dsimp only; rw [ktC_snoc]; simp [KT.cells]; done)
          | (dsimp only; simp [ktC, KT.cells]; done)
      · have hb : ¬ Op.bytesLess xn n = true := fun h => h1 ((less_iff xn n).1 h)
        by_cases hx : xn = n
        · rw [putA, if_neg h1, if_pos hx] at he
          repeat' first
            | refine CondP.no hb ?_ | refine CondP.yes hx ?_
            | refine J_seq ?_ | refine J_region Tryd.tyOK ?_ | refine J_block ?_ | refine J_cond ?_ | refine J_ret ?_ | refine J_skip ?_ | refine J_exit ?_ | refine J_scope ?_
            | refine CondP.yes (by omega) ?_ | refine CondP.no (by omega) ?_ | refine CondP.mk (fun h => ?_) (fun h => ?_) | refine EqP.mk rfl ?_ | refine NewP.mk (fun ad => ?_) | refine ArP.exact (by simp only [inR]; omega) ?_ | refine SideP.mk (by first | omega | (dsimp only; omega) | (simp; omega)) ?_
            | refine IdxE.mk e 2 _ (hrd _) (by omega) (by omega) ?_ | refine FldE.mk e 2 _ _ (hrd _) (by omega) ?_ | refine LoadE.mk e _ _ _ (hrd _) (by omega) (by omega) (by first | omega | decide) hg0 ?_ | refine LoadE.mk e _ _ _ (hrd _) (by omega) (by omega) (by first | omega | decide) hg ?_ | refine AppE.row [_] [] (ktC out) [C.s n, C.s t] 1 rfl (SrcE.sl 33 33 _ _ 1 1 _ rfl rfl (.inl ⟨1, List.Mem.head _⟩) rfl) (by dsimp only; omega) (fun a' c' => ?_) | refine Round.mk (i + 1, true, out ++ [(n, t)], a', c') (by dsimp only; omega) ⟨by dsimp only; omega, ⟨by simp; omega, fun h => by cases h⟩, ?_⟩ ?_ (Ents.drop.trans (Ents.of ?_))
            | fail
          all_goals first
            | solve | (repeat' first | exact SubE.nil | refine SubE.cons rfl ?_ ?_ | exact VEq.refl _ | refine VEq.int (by omega) | refine VEq.sl rfl (by first | rfl | omega | (rw [List.length_append]; rfl) | (simp; omega)) rfl)
            | (dsimp only; rw [he]; done)
            | (dsimp only; rw [he]; simp; done)
            | (dsimp only; rw [ktC_snoc]; simp [KT.cells]; done)
            | (dsimp only; simp [ktC, KT.cells]; done)
        · rw [putA, if_neg h1, if_neg hx] at he
          repeat' first
            | refine CondP.no hb ?_ | refine CondP.no hx ?_
            | refine J_seq ?_ | refine J_region Tryd.tyOK ?_ | refine J_block ?_ | refine J_cond ?_ | refine J_ret ?_ | refine J_skip ?_ | refine J_exit ?_ | refine J_scope ?_
            | refine CondP.yes (by omega) ?_ | refine CondP.no (by omega) ?_ | refine CondP.mk (fun h => ?_) (fun h => ?_) | refine EqP.mk rfl ?_ | refine NewP.mk (fun ad => ?_) | refine ArP.exact (by simp only [inR]; omega) ?_ | refine SideP.mk (by first | omega | (dsimp only; omega) | (simp; omega)) ?_
            | refine IdxE.mk e 2 _ (hrd _) (by omega) (by omega) ?_ | refine FldE.mk e 2 _ _ (hrd _) (by omega) ?_ | refine LoadE.mk e _ _ _ (hrd _) (by omega) (by omega) (by first | omega | decide) hg0 ?_ | refine LoadE.mk e _ _ _ (hrd _) (by omega) (by omega) (by first | omega | decide) hg ?_ | refine AppE.row [_] [] (ktC out) [C.s n, C.s t] 1 rfl (SrcE.sl 33 33 _ _ 1 1 _ rfl rfl (.inl ⟨1, List.Mem.head _⟩) rfl) (by dsimp only; omega) (fun a' c' => ?_) | refine AppE.row [_, _] [] (ktC out ++ [C.s n, C.s t]) [C.s xn, C.s xt] 1 rfl (SrcE.sl 33 33 _ _ 1 1 _ rfl rfl (.inl ⟨1, List.Mem.head _⟩) rfl) (by dsimp only; omega) (fun a' c' => ?_) | refine Round.mk (i + 1, true, out ++ [(n, t), (xn, xt)], a', c') (by dsimp only; omega) ⟨by dsimp only; omega, ⟨by simp; omega, fun h => by cases h⟩, ?_⟩ ?_ (Ents.drop.trans (Ents.drop.trans (Ents.of ?_)))
            | fail
          all_goals first
            | solve | (repeat' first | exact SubE.nil | refine SubE.cons rfl ?_ ?_ | exact VEq.refl _ | refine VEq.int (by omega) | refine VEq.sl rfl (by first | rfl | omega | (rw [List.length_append]; rfl) | (simp; omega)) rfl)
            | (dsimp only; rw [he]; done)
            | (dsimp only; rw [he]; simp; done)
            | (dsimp only; rw [ktC_snoc]; simp [KT.cells]; done)
            | (dsimp only; simp [ktC, KT.cells]; done)
  · have hil : i = l.length := by omega
    subst hil
    rw [List.drop_length] at he
    cases done with
    | true =>
      rw [putA, List.append_nil] at he
      subst he
      repeat' first
        | refine J_seq ?_ | refine J_region Tryd.tyOK ?_ | refine J_block ?_ | refine J_cond ?_ | refine J_ret ?_ | refine J_skip ?_ | refine J_exit ?_ | refine J_scope ?_
        | refine CondP.yes (by omega) ?_ | refine CondP.no (by omega) ?_ | refine CondP.mk (fun h => ?_) (fun h => ?_) | refine EqP.mk rfl ?_ | refine NewP.mk (fun ad => ?_) | refine ArP.exact (by simp only [inR]; omega) ?_ | refine SideP.mk (by first | omega | (dsimp only; omega) | (simp; omega)) ?_
        | refine FinE.mk [] [_] ⟨a1, c1, rfl, rfl, rfl⟩ (Ents.toFact.trans (Ents.facts fun _ h => ⟨h.1, trivial⟩))
        | fail
    | false =>
      rw [putA] at he
      subst he
      repeat' first
        | refine J_seq ?_ | refine J_region Tryd.tyOK ?_ | refine J_block ?_ | refine J_cond ?_ | refine J_ret ?_ | refine J_skip ?_ | refine J_exit ?_ | refine J_scope ?_
        | refine CondP.yes (by omega) ?_ | refine CondP.no (by omega) ?_ | refine CondP.mk (fun h => ?_) (fun h => ?_) | refine EqP.mk rfl ?_ | refine NewP.mk (fun ad => ?_) | refine ArP.exact (by simp only [inR]; omega) ?_ | refine SideP.mk (by first | omega | (dsimp only; omega) | (simp; omega)) ?_
        | refine AppE.row [_] [] (ktC out) [C.s n, C.s t] 1 rfl (SrcE.sl 33 33 _ _ 1 1 _ rfl rfl (.inl ⟨1, List.Mem.head _⟩) rfl) (by dsimp only; omega) (fun a' c' => ?_)
        | fail
      refine FinE.mk [] [slFact 33 2 a' (out ++ [(n, t)]).length (ktC (out ++ [(n, t)]))] ⟨a', c', ?_, rfl, rfl⟩ ?_
      · rw [List.length_append]; rfl
      · rw [ktC_snoc, List.length_append]
        exact Ents.drop.trans (Ents.toFact.trans (Ents.facts fun _ h => ⟨h.1, trivial⟩))

end Go.Proofs
