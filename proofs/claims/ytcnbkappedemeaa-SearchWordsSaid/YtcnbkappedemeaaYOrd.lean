/- This text walks through the functions by which rows and hits are compared, in the strict form of the executor: what they leave of the world is known to the letter. -/
import Derived.Test.YtcnbkappedemeaaYLib
import Derived.Test.YtcnbkappedemeaaYTypes
import Derived.Sort.Grow
import Derived.Test.YtcnbkappedemeaaShelf
import Derived.Test.YtcnbkappedemeaaSrch
set_option linter.all false

namespace Go.Y
open Go Go.Lib Go.Proofs
set_option maxRecDepth 100000
set_option maxHeartbeats 4000000

/-- A strict contract tells the world to the letter: it has grown. -/
theorem exact_of {P : Program} {f : FuncId} {args : List V} {v : V} (h : FnS P f args [] [] (Is v)) (W : World) : Calls P f (args.map V.enc).toArray W fun e w' => e = .returned v.enc ∧ ∃ q os', w' = Sort.grow (W.drewN q) os' := by
  refine (h.run W (fun _ => none) ⟨List.nodup_nil, trivial, fun b o hb => (by cases hb), trivial⟩).mono ?_
  rintro e w' ⟨v', L', D', m', he, ⟨rfl, rfl, rfl⟩, _, hfr⟩
  refine ⟨he, w'.drawn - W.drawn, w'.heap.extract W.heap.size w'.heap.size, ?_⟩
  have hk := hfr.kept
  have hheap : w'.heap = W.heap ++ w'.heap.extract W.heap.size w'.heap.size := by
    apply Array.ext_getElem?
    intro b
    rw [Array.getElem?_append]
    split
    · rename_i hb
      exact hfr.same b hb (by simp [fps])
    · rename_i hb
      rw [Array.getElem?_extract]
      have := hfr.size
      by_cases hb2 : b < w'.heap.size
      · rw [if_pos (by omega), show W.heap.size + (b - W.heap.size) = b by omega]
      · rw [if_neg (by omega), Array.getElem?_eq_none (by omega)]
  have hd : w'.drawn = W.drawn + (w'.drawn - W.drawn) := by have := hk.drawn; omega
  obtain ⟨h1, h2, h3, h4, h5⟩ := w'
  obtain ⟨g1, g2, g3, g4, g5⟩ := W
  have e1 := hk.os; have e2 := hk.out; have e3 := hk.tape
  dsimp only at *
  subst e1 e2 e3
  simp only [Sort.grow, World.drewN]
  rw [← hheap, ← hd]

theorem stringsCompare_ok (a b : List UInt8) : FnS Try.prog 46 [.c (.s a), .c (.s b)] [] [] (Is (.c (.i .i64 (Lib.compareBytes a b)))) :=
  fn_pure ⟨_, Try.func46, by kernel_rfl, by kernel_rfl⟩ (Try.strings_Compare ⟨⟨a⟩⟩ ⟨⟨b⟩⟩)
theorem isNaN_ok (a : Int) : FnS Try.prog 45 [.c (.i .i64 a)] [] [] (Is ff) := by
  refine fn_of_J Try.tyOK 0 Try.func45 (by kernel_rfl) (c := Try.f45.body.getD .skip) (by kernel_rfl) Try.ntmps45 (rs := Try.f45.results.toList) rfl (by simp) (fun G => ?_)
  repeat' first
    | refine J_seq ?_ | refine J_region Try.tyOK ?_ | refine J_block ?_ | refine J_cond ?_ | refine J_ret ?_ | refine J_skip ?_ | refine J_exit ?_ | refine J_scope ?_
    | refine CondP.yes (by omega) ?_ | refine CondP.no (by omega) ?_ | refine CondP.mk (fun h => ?_) (fun h => ?_) | refine EqP.mk rfl ?_ | refine NewP.mk (fun ad => ?_) | refine ArP.exact (by simp only [inR]; omega) ?_ | refine SideP.mk (by first | omega | (dsimp only; omega) | (simp; omega)) ?_
    | refine FinE.is rfl
    | fail
theorem compareInt_ok (a b : Int) : FnS Try.prog 35 [.c (.i .i64 a), .c (.i .i64 b)] [] [] (Is (.c (.i .i64 (Lib.compareInt a b)))) := by
  have hq : ∃ q, Lib.compareInt a b = q := ⟨_, rfl⟩
  obtain ⟨q, hq⟩ := hq
  rw [hq]
  unfold Lib.compareInt at hq
  refine fn_of_J Try.tyOK 0 Try.func35 (by kernel_rfl) (c := Try.f35.body.getD .skip) (by kernel_rfl) Try.ntmps35 (rs := Try.f35.results.toList) rfl (by simp) (fun G => ?_)
  repeat' first
    | refine J_seq ?_ | refine J_region Try.tyOK ?_ | refine J_block ?_ | refine J_cond ?_ | refine J_ret ?_ | refine J_skip ?_ | refine J_exit ?_ | refine J_scope ?_
    | refine CondP.yes (by omega) ?_ | refine CondP.no (by omega) ?_ | refine CondP.mk (fun h => ?_) (fun h => ?_) | refine EqP.mk rfl ?_ | refine NewP.mk (fun ad => ?_) | refine ArP.exact (by simp only [inR]; omega) ?_ | refine SideP.mk (by first | omega | (dsimp only; omega) | (simp; omega)) ?_
    | refine CallP.is (isNaN_ok a) ?_ | refine CallP.is (isNaN_ok b) ?_ | refine FinE.int ?_
    | fail
  all_goals (split at hq <;> first | omega | (split at hq <;> omega))

theorem or_ok (a : Option Addr) (c : Nat) (x y : Int) : FnS Try.prog 34 [.c (.sl a 2 c)] [.row 3 1 a 2 c [.i .i64 x, .i .i64 y]] [] (Is (.c (.i .i64 (if x ≠ 0 then x else y)))) := by
  have hrd : Reads [.row 3 1 a 2 c [.i .i64 x, .i .i64 y]] [] 3 1 a 2 [.i .i64 x, .i .i64 y] := .inl ⟨c, List.Mem.head _⟩
  refine fn_of_J Try.tyOK 0 Try.func34 (by kernel_rfl) (c := Try.f34.body.getD .skip) (by kernel_rfl) Try.ntmps34 (rs := Try.f34.results.toList) rfl (by simp) (fun G => ?_)
  repeat' first
    | refine J_seq ?_ | refine J_region Try.tyOK ?_ | refine J_block ?_ | refine J_cond ?_ | refine J_ret ?_ | refine J_skip ?_ | refine J_exit ?_ | refine J_scope ?_
    | refine CondP.yes (by omega) ?_ | refine CondP.no (by omega) ?_ | refine CondP.mk (fun h => ?_) (fun h => ?_) | refine EqP.mk rfl ?_ | refine NewP.mk (fun ad => ?_) | refine ArP.exact (by simp only [inR]; omega) ?_ | refine SideP.mk (by first | omega | (dsimp only; omega) | (simp; omega)) ?_
    | refine J_rounds 3 ?_ | refine JR_succ ?_ | refine IdxE.mk 3 1 _ hrd (by omega) (by omega) ?_ | refine LoadE.mk 3 _ _ _ hrd (by omega) (by omega) (by omega) rfl ?_ | refine FinE.int ?_
    | fail
  all_goals simp [*]
theorem or3_ok (a : Option Addr) (c : Nat) (x y z : Int) : FnS Try.prog 34 [.c (.sl a 3 c)] [.row 3 1 a 3 c [.i .i64 x, .i .i64 y, .i .i64 z]] [] (Is (.c (.i .i64 (if x ≠ 0 then x else if y ≠ 0 then y else z)))) := by
  have hrd : Reads [.row 3 1 a 3 c [.i .i64 x, .i .i64 y, .i .i64 z]] [] 3 1 a 3 [.i .i64 x, .i .i64 y, .i .i64 z] := .inl ⟨c, List.Mem.head _⟩
  refine fn_of_J Try.tyOK 0 Try.func34 (by kernel_rfl) (c := Try.f34.body.getD .skip) (by kernel_rfl) Try.ntmps34 (rs := Try.f34.results.toList) rfl (by simp) (fun G => ?_)
  repeat' first
    | refine J_seq ?_ | refine J_region Try.tyOK ?_ | refine J_block ?_ | refine J_cond ?_ | refine J_ret ?_ | refine J_skip ?_ | refine J_exit ?_ | refine J_scope ?_
    | refine CondP.yes (by omega) ?_ | refine CondP.no (by omega) ?_ | refine CondP.mk (fun h => ?_) (fun h => ?_) | refine EqP.mk rfl ?_ | refine NewP.mk (fun ad => ?_) | refine ArP.exact (by simp only [inR]; omega) ?_ | refine SideP.mk (by first | omega | (dsimp only; omega) | (simp; omega)) ?_
    | refine J_rounds 4 ?_ | refine JR_succ ?_ | refine IdxE.mk 3 1 _ hrd (by omega) (by omega) ?_ | refine LoadE.mk 3 _ _ _ hrd (by omega) (by omega) (by omega) rfl ?_ | refine FinE.int ?_
    | fail
  all_goals simp [*]

theorem compare_ok (a : Int) (x : List UInt8) (b : Int) (y : List UInt8) : FnS Try.prog 36 [.agg [.i .i64 a, .s x], .agg [.i .i64 b, .s y]] [] [] (Is (.c (.i .i64 (Go.X.compareT a x b y)))) := by
  refine fn_of_J Try.tyOK 0 Try.func36 (by kernel_rfl) (c := Try.f36.body.getD .skip) (by kernel_rfl) Try.ntmps36 (rs := Try.f36.results.toList) rfl (by simp) (fun G => ?_)
  repeat' first
    | refine J_seq ?_ | refine J_region Try.tyOK ?_ | refine J_block ?_ | refine J_cond ?_ | refine J_ret ?_ | refine J_skip ?_ | refine J_exit ?_ | refine J_scope ?_
    | refine CondP.yes (by omega) ?_ | refine CondP.no (by omega) ?_ | refine CondP.mk (fun h => ?_) (fun h => ?_) | refine EqP.mk rfl ?_ | refine NewP.mk (fun ad => ?_) | refine ArP.exact (by simp only [inR]; omega) ?_ | refine SideP.mk (by first | omega | (dsimp only; omega) | (simp; omega)) ?_
    | refine J_draw Try.tyOK (by kernel_rfl) [0, 1, 2, 3, 4, 5, 6, 7, 8, 9, 10, 11, 12] [10, 11] _ _ (by kernel_rfl) (Ents.refl _ _) ?_ | refine CallQ.mk [] _ (compareInt_ok a b) (fun _ _ => trivial) ?_ | refine CallQ.mk [] _ (stringsCompare_ok x y) (fun _ _ => trivial) ?_ | refine CallP.mk [_] _ [] _ (or_ok _ _ _ _) (List.Perm.refl _) (fun _ h => h) (fun v L' D' hp => ?_); obtain ⟨rfl, rfl, rfl⟩ := hp | refine EntP.mk (Ents.refl _ _) ?_ | refine EntP.mk Ents.drop ?_ | refine FinE.int ?_
    | fail
  rfl
theorem compareRows_ok (x y : Go.X.WR) : FnS Try.prog 39 [.agg [.s x.w, .i .i64 x.sp, .s x.nm, .i .i64 x.n], .agg [.s y.w, .i .i64 y.sp, .s y.nm, .i .i64 y.n]] [] [] (Is (.c (.i .i64 (Go.X.cmpWR x y)))) := by
  refine fn_of_J Try.tyOK 0 Try.func39 (by kernel_rfl) (c := Try.f39.body.getD .skip) (by kernel_rfl) Try.ntmps39 (rs := Try.f39.results.toList) rfl (by simp) (fun G => ?_)
  repeat' first
    | refine J_seq ?_ | refine J_region Try.tyOK ?_ | refine J_block ?_ | refine J_cond ?_ | refine J_ret ?_ | refine J_skip ?_ | refine J_exit ?_ | refine J_scope ?_
    | refine CondP.yes (by omega) ?_ | refine CondP.no (by omega) ?_ | refine CondP.mk (fun h => ?_) (fun h => ?_) | refine EqP.mk rfl ?_ | refine NewP.mk (fun ad => ?_) | refine ArP.exact (by simp only [inR]; omega) ?_ | refine SideP.mk (by first | omega | (dsimp only; omega) | (simp; omega)) ?_
    | refine J_draw Try.tyOK (by kernel_rfl) [0, 1, 2, 3, 4, 5, 6, 7, 8, 9, 10, 11, 12, 13, 14, 15, 16, 17] [15, 16] _ _ (by kernel_rfl) (Ents.refl _ _) ?_ | refine CallQ.mk [] _ (compareInt_ok x.n y.n) (fun _ _ => trivial) ?_ | refine CallQ.mk [] _ (stringsCompare_ok x.w y.w) (fun _ _ => trivial) ?_ | refine CallQ.mk [] _ (compare_ok x.sp x.nm y.sp y.nm) (fun _ _ => trivial) ?_ | refine CallP.mk [_] _ [] _ (or3_ok _ _ _ _ _) (List.Perm.refl _) (fun _ h => h) (fun v L' D' hp => ?_); obtain ⟨rfl, rfl, rfl⟩ := hp | refine EntP.mk (Ents.refl _ _) ?_ | refine EntP.mk Ents.drop ?_ | refine FinE.int ?_
    | fail
  rfl
theorem findCmp_ok (x y : Go.X.HT) : FnS Try.prog 33 [.agg [.i .i64 x.sp, .s x.nm, .i .i64 x.n], .agg [.i .i64 y.sp, .s y.nm, .i .i64 y.n]] [] [] (Is (.c (.i .i64 (Go.X.cmpHT x y)))) := by
  refine fn_of_J Try.tyOK 0 Try.func33 (by kernel_rfl) (c := Try.f33.body.getD .skip) (by kernel_rfl) Try.ntmps33 (rs := Try.f33.results.toList) rfl (by simp) (fun G => ?_)
  repeat' first
    | refine J_seq ?_ | refine J_region Try.tyOK ?_ | refine J_block ?_ | refine J_cond ?_ | refine J_ret ?_ | refine J_skip ?_ | refine J_exit ?_ | refine J_scope ?_
    | refine CondP.yes (by omega) ?_ | refine CondP.no (by omega) ?_ | refine CondP.mk (fun h => ?_) (fun h => ?_) | refine EqP.mk rfl ?_ | refine NewP.mk (fun ad => ?_) | refine ArP.exact (by simp only [inR]; omega) ?_ | refine SideP.mk (by first | omega | (dsimp only; omega) | (simp; omega)) ?_
    | refine J_draw Try.tyOK (by kernel_rfl) [0, 1, 2, 3, 4, 5, 6, 7, 8, 9, 10, 11, 12] [10, 11] _ _ (by kernel_rfl) (Ents.refl _ _) ?_ | refine CallQ.mk [] _ (compareInt_ok y.n x.n) (fun _ _ => trivial) ?_ | refine CallQ.mk [] _ (compare_ok x.sp x.nm y.sp y.nm) (fun _ _ => trivial) ?_ | refine CallP.mk [_] _ [] _ (or_ok _ _ _ _) (List.Perm.refl _) (fun _ h => h) (fun v L' D' hp => ?_); obtain ⟨rfl, rfl, rfl⟩ := hp | refine EntP.mk (Ents.refl _ _) ?_ | refine EntP.mk Ents.drop ?_ | refine FinE.int ?_
    | fail
  rfl
end Go.Y
