/- This text walks through the comparison of lists of strings, rows of words and hits (trcgen2.Same): lists of the same content are the same. -/
import Derived.Test.YtcnbkappedemeaaWrd
import Derived.Test.YtcnbkappedemeaaSlc
set_option linter.all false

namespace Go.X
open Go Go.Lib
theorem htC_len (l : List HT) : (htC l).length = l.length * 3 := flat_len (F := HT.cells) (z := 3) (fun _ => rfl) l
theorem ht_get {l : List HT} {i : Nat} (h : i < l.length) : ((htC l).drop (i * 3 + 0)).take 3 = [.i .i64 l[i].sp, .s l[i].nm, .i .i64 l[i].n] := by
  rw [htC, flat_get (F := HT.cells) (z := 3) (fun _ => rfl) h (by omega)]; rfl
end Go.X

namespace Go.Proofs
open Go Go.X
set_option maxRecDepth 100000
set_option maxHeartbeats 4000000

theorem sameStr_ok (e e' : Nat) (a b : Option Addr) (c d : Nat) (l : List (List UInt8)) (hl : l.length ≤ 10000000) :
    FnS Try.prog 8 [.c (.sl a l.length c), .c (.sl b l.length d)] [] [slFact e 1 a l.length (l.map C.s), slFact e' 1 b l.length (l.map C.s)] (Is tt) := by
  have hr1 : ∀ L, Reads L [slFact e 1 a l.length (l.map C.s), slFact e' 1 b l.length (l.map C.s)] e 1 a l.length (l.map C.s) := fun L => .inr fun m h => h.1
  have hr2 : ∀ L, Reads L [slFact e 1 a l.length (l.map C.s), slFact e' 1 b l.length (l.map C.s)] e' 1 b l.length (l.map C.s) := fun L => .inr fun m h => h.2.1
  refine fn_of_J Try.tyOK 0 Try.func8 (by kernel_rfl) (c := Try.f8.body.getD .skip) (by kernel_rfl) Try.ntmps8 (rs := Try.f8.results.toList) rfl (by simp) (fun G => ?_)
  repeat' first
    | refine J_seq ?_ | refine J_region Try.tyOK ?_ | refine J_block ?_ | refine J_cond ?_ | refine J_ret ?_ | refine J_skip ?_ | refine J_exit ?_ | refine J_scope ?_
    | refine CondP.yes (by omega) ?_ | refine CondP.no (by omega) ?_ | refine CondP.mk (fun h => ?_) (fun h => ?_) | refine EqP.mk rfl ?_ | refine NewP.mk (fun ad => ?_) | refine ArP.exact (by simp only [inR]; omega) ?_ | refine SideP.mk (by first | omega | (dsimp only; omega) | (simp; omega)) ?_
    | fail
  refine J_loop (α := Nat) (fun i => [(0, .c (.sl a l.length c)), (1, .c (.sl b l.length d)), (5, .c (.i .i64 i))]) (fun _ => []) (fun _ => [slFact e 1 a l.length (l.map C.s), slFact e' 1 b l.length (l.map C.s)]) 0 (fun i => i ≤ l.length) (fun i => l.length - i) (InFam.mk 0 (Nat.zero_le _) (by repeat' first | exact SubE.nil | refine SubE.cons rfl ?_ ?_ | exact VEq.refl _ | refine VEq.int (by omega) | refine VEq.sl rfl (by first | rfl | omega | (rw [List.length_append]; rfl) | (simp; omega)) rfl) (Ents.refl _ _)) (fun i hi => ?_)
  by_cases hlt : i < l.length
  · have hg := map_take1 (f := C.s) hlt
    repeat' first
      | refine CondP.yes rfl ?_
      | refine J_seq ?_ | refine J_region Try.tyOK ?_ | refine J_block ?_ | refine J_cond ?_ | refine J_ret ?_ | refine J_skip ?_ | refine J_exit ?_ | refine J_scope ?_
      | refine CondP.yes (by omega) ?_ | refine CondP.no (by omega) ?_ | refine CondP.mk (fun h => ?_) (fun h => ?_) | refine EqP.mk rfl ?_ | refine NewP.mk (fun ad => ?_) | refine ArP.exact (by simp only [inR]; omega) ?_ | refine SideP.mk (by first | omega | (dsimp only; omega) | (simp; omega)) ?_
      | refine J_drawS (id := 6) Try.tyOK (by kernel_rfl) [0, 0, 3, 7, 0, 0, 48, 112, 255] [0, 1, 2, 3, 4, 5, 6, 7, 8] [] [19, 23] true (by kernel_rfl) ?_ | refine EntP.mk (Ents.ofSub (by repeat (first | exact List.Sublist.slnil | refine List.Sublist.cons_cons _ ?_ | refine List.Sublist.cons _ ?_)) (by first | exact fun _ h => h | exact fun _ _ => trivial | exact fun _ h => h.2 | exact fun _ h => h.2.2.2.2 | exact fun _ h => h.2.2 | exact fun _ h => h.2.2.2 | exact fun _ h => h.2.2.2.2.2 | exact fun _ h => h.2.2.2.2.2.2 | exact fun _ h => h.2.2.2.2.2.2.2 | exact fun _ h => h.2.2.2.2.2.2.2.2 | exact fun _ h => h.2.2.2.2.2.2.2.2.2 | exact fun _ h => h.2.2.2.2.2.2.2.2.2.2 | exact fun _ h => ((allD_append _ _).1 h).2)) ?_ | refine IdxE.mk e 1 _ (hr1 _) (by omega) (by omega) ?_ | refine IdxE.mk e' 1 _ (hr2 _) (by omega) (by omega) ?_ | refine LoadE.mk e _ _ _ (hr1 _) (by omega) (by omega) (by first | omega | decide) hg ?_ | refine LoadE.mk e' _ _ _ (hr2 _) (by omega) (by omega) (by first | omega | decide) hg ?_ | refine Round.mk (i + 1) (by omega) (by omega) (by repeat' first | exact SubE.nil | refine SubE.cons rfl ?_ ?_ | exact VEq.refl _ | refine VEq.int (by omega) | refine VEq.sl rfl (by first | rfl | omega | (rw [List.length_append]; rfl) | (simp; omega)) rfl) (Ents.refl _ _)
      | fail
  · have hil : i = l.length := by omega
    subst hil
    repeat' first
      | refine J_seq ?_ | refine J_region Try.tyOK ?_ | refine J_block ?_ | refine J_cond ?_ | refine J_ret ?_ | refine J_skip ?_ | refine J_exit ?_ | refine J_scope ?_
      | refine CondP.yes (by omega) ?_ | refine CondP.no (by omega) ?_ | refine CondP.mk (fun h => ?_) (fun h => ?_) | refine EqP.mk rfl ?_ | refine NewP.mk (fun ad => ?_) | refine ArP.exact (by simp only [inR]; omega) ?_ | refine SideP.mk (by first | omega | (dsimp only; omega) | (simp; omega)) ?_
      | refine FinE.is rfl
      | fail

theorem sameRows_ok (e e' : Nat) (a b : Option Addr) (c d : Nat) (l : List WR) (hl : l.length ≤ 10000000) :
    FnS Try.prog 13 [.c (.sl a l.length c), .c (.sl b l.length d)] [] [slFact e 4 a l.length (wrC l), slFact e' 4 b l.length (wrC l)] (Is tt) := by
  have hr1 : ∀ L, Reads L [slFact e 4 a l.length (wrC l), slFact e' 4 b l.length (wrC l)] e 4 a l.length (wrC l) := fun L => .inr fun m h => h.1
  have hr2 : ∀ L, Reads L [slFact e 4 a l.length (wrC l), slFact e' 4 b l.length (wrC l)] e' 4 b l.length (wrC l) := fun L => .inr fun m h => h.2.1
  refine fn_of_J Try.tyOK 0 Try.func13 (by kernel_rfl) (c := Try.f13.body.getD .skip) (by kernel_rfl) Try.ntmps13 (rs := Try.f13.results.toList) rfl (by simp) (fun G => ?_)
  repeat' first
    | refine J_seq ?_ | refine J_region Try.tyOK ?_ | refine J_block ?_ | refine J_cond ?_ | refine J_ret ?_ | refine J_skip ?_ | refine J_exit ?_ | refine J_scope ?_
    | refine CondP.yes (by omega) ?_ | refine CondP.no (by omega) ?_ | refine CondP.mk (fun h => ?_) (fun h => ?_) | refine EqP.mk rfl ?_ | refine NewP.mk (fun ad => ?_) | refine ArP.exact (by simp only [inR]; omega) ?_ | refine SideP.mk (by first | omega | (dsimp only; omega) | (simp; omega)) ?_
    | fail
  refine J_loop (α := Nat) (fun i => [(0, .c (.sl a l.length c)), (1, .c (.sl b l.length d)), (5, .c (.i .i64 i))]) (fun _ => []) (fun _ => [slFact e 4 a l.length (wrC l), slFact e' 4 b l.length (wrC l)]) 0 (fun i => i ≤ l.length) (fun i => l.length - i) (InFam.mk 0 (Nat.zero_le _) (by repeat' first | exact SubE.nil | refine SubE.cons rfl ?_ ?_ | exact VEq.refl _ | refine VEq.int (by omega) | refine VEq.sl rfl (by first | rfl | omega | (rw [List.length_append]; rfl) | (simp; omega)) rfl) (Ents.refl _ _)) (fun i hi => ?_)
  by_cases hlt : i < l.length
  · have hg := wr_get hlt
    repeat' first
      | refine CondP.yes ⟨rfl, ⟨rfl, rfl, trivial⟩, rfl, trivial⟩ ?_
      | refine J_seq ?_ | refine J_region Try.tyOK ?_ | refine J_block ?_ | refine J_cond ?_ | refine J_ret ?_ | refine J_skip ?_ | refine J_exit ?_ | refine J_scope ?_
      | refine CondP.yes (by omega) ?_ | refine CondP.no (by omega) ?_ | refine CondP.mk (fun h => ?_) (fun h => ?_) | refine EqP.mk rfl ?_ | refine NewP.mk (fun ad => ?_) | refine ArP.exact (by simp only [inR]; omega) ?_ | refine SideP.mk (by first | omega | (dsimp only; omega) | (simp; omega)) ?_
      | refine J_drawS (id := 6) Try.tyOK (by kernel_rfl) [0, 0, 3, 7, 0, 0, 48, 112, 255] [0, 1, 2, 3, 4, 5, 6, 7, 8] [] [19, 23] true (by kernel_rfl) ?_ | refine EntP.mk (Ents.ofSub (by repeat (first | exact List.Sublist.slnil | refine List.Sublist.cons_cons _ ?_ | refine List.Sublist.cons _ ?_)) (by first | exact fun _ h => h | exact fun _ _ => trivial | exact fun _ h => h.2 | exact fun _ h => h.2.2.2.2 | exact fun _ h => h.2.2 | exact fun _ h => h.2.2.2 | exact fun _ h => h.2.2.2.2.2 | exact fun _ h => h.2.2.2.2.2.2 | exact fun _ h => h.2.2.2.2.2.2.2 | exact fun _ h => h.2.2.2.2.2.2.2.2 | exact fun _ h => h.2.2.2.2.2.2.2.2.2 | exact fun _ h => h.2.2.2.2.2.2.2.2.2.2 | exact fun _ h => ((allD_append _ _).1 h).2)) ?_ | refine IdxE.mk e 4 _ (hr1 _) (by omega) (by omega) ?_ | refine IdxE.mk e' 4 _ (hr2 _) (by omega) (by omega) ?_ | refine LoadE.mk e _ _ _ (hr1 _) (by omega) (by omega) (by first | omega | decide) hg ?_ | refine LoadE.mk e' _ _ _ (hr2 _) (by omega) (by omega) (by first | omega | decide) hg ?_ | refine Round.mk (i + 1) (by omega) (by omega) (by repeat' first | exact SubE.nil | refine SubE.cons rfl ?_ ?_ | exact VEq.refl _ | refine VEq.int (by omega) | refine VEq.sl rfl (by first | rfl | omega | (rw [List.length_append]; rfl) | (simp; omega)) rfl) (Ents.refl _ _)
      | fail
  · have hil : i = l.length := by omega
    subst hil
    repeat' first
      | refine J_seq ?_ | refine J_region Try.tyOK ?_ | refine J_block ?_ | refine J_cond ?_ | refine J_ret ?_ | refine J_skip ?_ | refine J_exit ?_ | refine J_scope ?_
      | refine CondP.yes (by omega) ?_ | refine CondP.no (by omega) ?_ | refine CondP.mk (fun h => ?_) (fun h => ?_) | refine EqP.mk rfl ?_ | refine NewP.mk (fun ad => ?_) | refine ArP.exact (by simp only [inR]; omega) ?_ | refine SideP.mk (by first | omega | (dsimp only; omega) | (simp; omega)) ?_
      | refine FinE.is rfl
      | fail

theorem sameHits_ok (e e' : Nat) (a b : Option Addr) (c d : Nat) (l : List HT) (hl : l.length ≤ 10000000) :
    FnS Try.prog 18 [.c (.sl a l.length c), .c (.sl b l.length d)] [] [slFact e 3 a l.length (htC l), slFact e' 3 b l.length (htC l)] (Is tt) := by
  have hr1 : ∀ L, Reads L [slFact e 3 a l.length (htC l), slFact e' 3 b l.length (htC l)] e 3 a l.length (htC l) := fun L => .inr fun m h => h.1
  have hr2 : ∀ L, Reads L [slFact e 3 a l.length (htC l), slFact e' 3 b l.length (htC l)] e' 3 b l.length (htC l) := fun L => .inr fun m h => h.2.1
  refine fn_of_J Try.tyOK 0 Try.func18 (by kernel_rfl) (c := Try.f18.body.getD .skip) (by kernel_rfl) Try.ntmps18 (rs := Try.f18.results.toList) rfl (by simp) (fun G => ?_)
  repeat' first
    | refine J_seq ?_ | refine J_region Try.tyOK ?_ | refine J_block ?_ | refine J_cond ?_ | refine J_ret ?_ | refine J_skip ?_ | refine J_exit ?_ | refine J_scope ?_
    | refine CondP.yes (by omega) ?_ | refine CondP.no (by omega) ?_ | refine CondP.mk (fun h => ?_) (fun h => ?_) | refine EqP.mk rfl ?_ | refine NewP.mk (fun ad => ?_) | refine ArP.exact (by simp only [inR]; omega) ?_ | refine SideP.mk (by first | omega | (dsimp only; omega) | (simp; omega)) ?_
    | fail
  refine J_loop (α := Nat) (fun i => [(0, .c (.sl a l.length c)), (1, .c (.sl b l.length d)), (5, .c (.i .i64 i))]) (fun _ => []) (fun _ => [slFact e 3 a l.length (htC l), slFact e' 3 b l.length (htC l)]) 0 (fun i => i ≤ l.length) (fun i => l.length - i) (InFam.mk 0 (Nat.zero_le _) (by repeat' first | exact SubE.nil | refine SubE.cons rfl ?_ ?_ | exact VEq.refl _ | refine VEq.int (by omega) | refine VEq.sl rfl (by first | rfl | omega | (rw [List.length_append]; rfl) | (simp; omega)) rfl) (Ents.refl _ _)) (fun i hi => ?_)
  by_cases hlt : i < l.length
  · have hg := ht_get hlt
    repeat' first
      | refine CondP.yes ⟨⟨rfl, rfl, trivial⟩, rfl, trivial⟩ ?_
      | refine J_seq ?_ | refine J_region Try.tyOK ?_ | refine J_block ?_ | refine J_cond ?_ | refine J_ret ?_ | refine J_skip ?_ | refine J_exit ?_ | refine J_scope ?_
      | refine CondP.yes (by omega) ?_ | refine CondP.no (by omega) ?_ | refine CondP.mk (fun h => ?_) (fun h => ?_) | refine EqP.mk rfl ?_ | refine NewP.mk (fun ad => ?_) | refine ArP.exact (by simp only [inR]; omega) ?_ | refine SideP.mk (by first | omega | (dsimp only; omega) | (simp; omega)) ?_
      | refine J_drawS (id := 6) Try.tyOK (by kernel_rfl) [0, 0, 3, 7, 0, 0, 48, 112, 255] [0, 1, 2, 3, 4, 5, 6, 7, 8] [] [19, 23] true (by kernel_rfl) ?_ | refine EntP.mk (Ents.ofSub (by repeat (first | exact List.Sublist.slnil | refine List.Sublist.cons_cons _ ?_ | refine List.Sublist.cons _ ?_)) (by first | exact fun _ h => h | exact fun _ _ => trivial | exact fun _ h => h.2 | exact fun _ h => h.2.2.2.2 | exact fun _ h => h.2.2 | exact fun _ h => h.2.2.2 | exact fun _ h => h.2.2.2.2.2 | exact fun _ h => h.2.2.2.2.2.2 | exact fun _ h => h.2.2.2.2.2.2.2 | exact fun _ h => h.2.2.2.2.2.2.2.2 | exact fun _ h => h.2.2.2.2.2.2.2.2.2 | exact fun _ h => h.2.2.2.2.2.2.2.2.2.2 | exact fun _ h => ((allD_append _ _).1 h).2)) ?_ | refine IdxE.mk e 3 _ (hr1 _) (by omega) (by omega) ?_ | refine IdxE.mk e' 3 _ (hr2 _) (by omega) (by omega) ?_ | refine LoadE.mk e _ _ _ (hr1 _) (by omega) (by omega) (by first | omega | decide) hg ?_ | refine LoadE.mk e' _ _ _ (hr2 _) (by omega) (by omega) (by first | omega | decide) hg ?_ | refine Round.mk (i + 1) (by omega) (by omega) (by repeat' first | exact SubE.nil | refine SubE.cons rfl ?_ ?_ | exact VEq.refl _ | refine VEq.int (by omega) | refine VEq.sl rfl (by first | rfl | omega | (rw [List.length_append]; rfl) | (simp; omega)) rfl) (Ents.refl _ _)
      | fail
  · have hil : i = l.length := by omega
    subst hil
    repeat' first
      | refine J_seq ?_ | refine J_region Try.tyOK ?_ | refine J_block ?_ | refine J_cond ?_ | refine J_ret ?_ | refine J_skip ?_ | refine J_exit ?_ | refine J_scope ?_
      | refine CondP.yes (by omega) ?_ | refine CondP.no (by omega) ?_ | refine CondP.mk (fun h => ?_) (fun h => ?_) | refine EqP.mk rfl ?_ | refine NewP.mk (fun ad => ?_) | refine ArP.exact (by simp only [inR]; omega) ?_ | refine SideP.mk (by first | omega | (dsimp only; omega) | (simp; omega)) ?_
      | refine FinE.is rfl
      | fail

end Go.Proofs
