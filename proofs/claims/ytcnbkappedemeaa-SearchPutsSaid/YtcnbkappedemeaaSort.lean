/- This text gives the contract of slices.SortFunc at rows of words and at hits. -/
import Derived.Test.YtcnbkappedemeaaLibc
import Derived.Test.YtcnbkappedemeaaSortF
import Derived.Test.YtcnbkappedemeaaSortL
import Derived.Test.YtcnbkappedemeaaCmp
import Derived.Test.YtcnbkappedemeaaYOrd
set_option linter.all false

namespace Go.X
open Go Go.Lib Go.Proofs
instance : Inhabited WR := ⟨⟨[], 0, [], 0⟩⟩
instance : Inhabited HT := ⟨⟨0, [], 0⟩⟩

theorem cmp_bytes : Cmp Lib.compareBytes := ⟨cmpB_swap, cmpB_trans⟩
theorem cmp_WR : Cmp cmpWR := ((cmp_bytes.on WR.w).lex ((cmp_title.on fun x : WR => (x.sp, x.nm)).lex (cmp_int.on WR.n)))
theorem cmp_HT : Cmp cmpHT := (((cmp_int.on HT.n).flip).lex (cmp_title.on fun x : HT => (x.sp, x.nm)))

end Go.X

namespace Go.Proofs
open Go Go.X
set_option maxRecDepth 100000
set_option maxHeartbeats 4000000

theorem bitsLen0_ok : FnS Try.prog 43 [.c (.i .u64 0)] [] [] (Is (.c (.i .i64 0))) :=
  fn_pure ⟨_, Try.func43, by kernel_rfl, by kernel_rfl⟩ (fun w => Try.bits_Len 0 w (by omega) (by omega))

theorem insRow0 (g : Nat) : FnS Try.prog 69 [.c (.sl none 0 0), .c (.i .i64 0), .c (.i .i64 0), .c (.fn g [])] [] [] (Is .t0) := by
  refine fn_of_J Try.tyOK 0 Try.func69 (by kernel_rfl) (c := Try.f69.body.getD .skip) (by kernel_rfl) Try.ntmps69 (rs := Try.f69.results.toList) rfl (by simp) (fun G => ?_)
  repeat' first
    | refine J_seq ?_ | refine J_region Try.tyOK ?_ | refine J_block ?_ | refine J_cond ?_ | refine J_ret ?_ | refine J_skip ?_ | refine J_exit ?_ | refine J_scope ?_
    | refine CondP.yes (by omega) ?_ | refine CondP.no (by omega) ?_ | refine CondP.mk (fun h => ?_) (fun h => ?_) | refine EqP.mk rfl ?_ | refine NewP.mk (fun ad => ?_) | refine ArP.exact (by simp only [inR]; omega) ?_ | refine SideP.mk (by first | omega | (dsimp only; omega) | (simp; omega)) ?_
    | refine J_rounds 1 ?_ | refine JR_succ ?_ | refine FinE.is rfl
    | fail
theorem pdqRow0 (g : Nat) : FnS Try.prog 47 [.c (.sl none 0 0), .c (.i .i64 0), .c (.i .i64 0), .c (.i .i64 0), .c (.fn g [])] [] [] (Is .t0) := by
  refine fn_of_J Try.tyOK 0 Try.func47 (by kernel_rfl) (c := Try.f47.body.getD .skip) (by kernel_rfl) Try.ntmps47 (rs := Try.f47.results.toList) rfl (by simp) (fun G => ?_)
  repeat' first
    | refine J_seq ?_ | refine J_region Try.tyOK ?_ | refine J_block ?_ | refine J_cond ?_ | refine J_ret ?_ | refine J_skip ?_ | refine J_exit ?_ | refine J_scope ?_
    | refine CondP.yes (by omega) ?_ | refine CondP.no (by omega) ?_ | refine CondP.mk (fun h => ?_) (fun h => ?_) | refine EqP.mk rfl ?_ | refine NewP.mk (fun ad => ?_) | refine ArP.exact (by simp only [inR]; omega) ?_ | refine SideP.mk (by first | omega | (dsimp only; omega) | (simp; omega)) ?_
    | refine J_rounds 1 ?_ | refine JR_succ ?_ | refine CallP.is (insRow0 g) ?_ | refine FinE.is rfl
    | fail
theorem sortRow0 (g : Nat) : FnS Try.prog 38 [.c (.sl none 0 0), .c (.fn g [])] [] [] (Is .t0) := by
  refine fn_of_J Try.tyOK 0 Try.func38 (by kernel_rfl) (c := Try.f38.body.getD .skip) (by kernel_rfl) Try.ntmps38 (rs := Try.f38.results.toList) rfl (by simp) (fun G => ?_)
  repeat' first
    | refine J_seq ?_ | refine J_region Try.tyOK ?_ | refine J_block ?_ | refine J_cond ?_ | refine J_ret ?_ | refine J_skip ?_ | refine J_exit ?_ | refine J_scope ?_
    | refine CondP.yes (by omega) ?_ | refine CondP.no (by omega) ?_ | refine CondP.mk (fun h => ?_) (fun h => ?_) | refine EqP.mk rfl ?_ | refine NewP.mk (fun ad => ?_) | refine ArP.exact (by simp only [inR]; omega) ?_ | refine SideP.mk (by first | omega | (dsimp only; omega) | (simp; omega)) ?_
    | refine CallP.is (pdqRow0 g) ?_ | refine CallP.is bitsLen0_ok ?_ | refine FinE.is rfl
    | fail

theorem sortRows_ok (a : Option Addr) (c : Nat) (l : List WR) (hl : l.length < 4611686018427387904) :
    FnS Try.prog 38 [.c (.sl a l.length c), .c (.fn 39 [])] [.row 39 4 a l.length c (wrC l)] []
      (fun v L D => ∃ l' : List WR, l'.Perm l ∧ l'.Pairwise (fun x y => ltOf cmpWR y x = false) ∧ v = .t0 ∧ L = [.row 39 4 a l.length c (wrC l')] ∧ D = []) :=
  fn_sort (F := WR.cells) (lt := ltOf cmpWR) (fun _ => rfl) (fun x y hy => by simp [WR.cells] at hy; rcases hy with rfl | rfl | rfl | rfl <;> rfl) (sortRow0 _)
    (fun blk cap d w hH hblk hsz => AnyQ.slices_SortFunc Try.sortF_WordRow 4 Try.isAgg39 Try.sizeOf39 (encF WR.cells) (fun _ => rfl) (fun x v hv => by simp [encF, WR.cells] at hv; rcases hv with rfl | rfl | rfl | rfl <;> rfl) cmpWR cmp_WR.swo 39 #[] blk 0 cap d w
      (enters_of Try.func39 (by kernel_rfl) rfl) (fun m os dk hs x y => Go.Y.exact_of (Go.Y.compareRows_ok x y) _) hH hblk hsz) a c l hl
theorem insHit0 (g : Nat) : FnS Try.prog 60 [.c (.sl none 0 0), .c (.i .i64 0), .c (.i .i64 0), .c (.fn g [])] [] [] (Is .t0) := by
  refine fn_of_J Try.tyOK 0 Try.func60 (by kernel_rfl) (c := Try.f60.body.getD .skip) (by kernel_rfl) Try.ntmps60 (rs := Try.f60.results.toList) rfl (by simp) (fun G => ?_)
  repeat' first
    | refine J_seq ?_ | refine J_region Try.tyOK ?_ | refine J_block ?_ | refine J_cond ?_ | refine J_ret ?_ | refine J_skip ?_ | refine J_exit ?_ | refine J_scope ?_
    | refine CondP.yes (by omega) ?_ | refine CondP.no (by omega) ?_ | refine CondP.mk (fun h => ?_) (fun h => ?_) | refine EqP.mk rfl ?_ | refine NewP.mk (fun ad => ?_) | refine ArP.exact (by simp only [inR]; omega) ?_ | refine SideP.mk (by first | omega | (dsimp only; omega) | (simp; omega)) ?_
    | refine J_rounds 1 ?_ | refine JR_succ ?_ | refine FinE.is rfl
    | fail
theorem pdqHit0 (g : Nat) : FnS Try.prog 44 [.c (.sl none 0 0), .c (.i .i64 0), .c (.i .i64 0), .c (.i .i64 0), .c (.fn g [])] [] [] (Is .t0) := by
  refine fn_of_J Try.tyOK 0 Try.func44 (by kernel_rfl) (c := Try.f44.body.getD .skip) (by kernel_rfl) Try.ntmps44 (rs := Try.f44.results.toList) rfl (by simp) (fun G => ?_)
  repeat' first
    | refine J_seq ?_ | refine J_region Try.tyOK ?_ | refine J_block ?_ | refine J_cond ?_ | refine J_ret ?_ | refine J_skip ?_ | refine J_exit ?_ | refine J_scope ?_
    | refine CondP.yes (by omega) ?_ | refine CondP.no (by omega) ?_ | refine CondP.mk (fun h => ?_) (fun h => ?_) | refine EqP.mk rfl ?_ | refine NewP.mk (fun ad => ?_) | refine ArP.exact (by simp only [inR]; omega) ?_ | refine SideP.mk (by first | omega | (dsimp only; omega) | (simp; omega)) ?_
    | refine J_rounds 1 ?_ | refine JR_succ ?_ | refine CallP.is (insHit0 g) ?_ | refine FinE.is rfl
    | fail
theorem sortHit0 (g : Nat) : FnS Try.prog 32 [.c (.sl none 0 0), .c (.fn g [])] [] [] (Is .t0) := by
  refine fn_of_J Try.tyOK 0 Try.func32 (by kernel_rfl) (c := Try.f32.body.getD .skip) (by kernel_rfl) Try.ntmps32 (rs := Try.f32.results.toList) rfl (by simp) (fun G => ?_)
  repeat' first
    | refine J_seq ?_ | refine J_region Try.tyOK ?_ | refine J_block ?_ | refine J_cond ?_ | refine J_ret ?_ | refine J_skip ?_ | refine J_exit ?_ | refine J_scope ?_
    | refine CondP.yes (by omega) ?_ | refine CondP.no (by omega) ?_ | refine CondP.mk (fun h => ?_) (fun h => ?_) | refine EqP.mk rfl ?_ | refine NewP.mk (fun ad => ?_) | refine ArP.exact (by simp only [inR]; omega) ?_ | refine SideP.mk (by first | omega | (dsimp only; omega) | (simp; omega)) ?_
    | refine CallP.is (pdqHit0 g) ?_ | refine CallP.is bitsLen0_ok ?_ | refine FinE.is rfl
    | fail

theorem sortHits_ok (a : Option Addr) (c : Nat) (l : List HT) (hl : l.length < 4611686018427387904) :
    FnS Try.prog 32 [.c (.sl a l.length c), .c (.fn 33 [])] [.row 57 3 a l.length c (htC l)] []
      (fun v L D => ∃ l' : List HT, l'.Perm l ∧ l'.Pairwise (fun x y => ltOf cmpHT y x = false) ∧ v = .t0 ∧ L = [.row 57 3 a l.length c (htC l')] ∧ D = []) :=
  fn_sort (F := HT.cells) (lt := ltOf cmpHT) (fun _ => rfl) (fun x y hy => by simp [HT.cells] at hy; rcases hy with rfl | rfl | rfl <;> rfl) (sortHit0 _)
    (fun blk cap d w hH hblk hsz => AnyQ.slices_SortFunc Try.sortF_Hit 3 Try.isAgg57 Try.sizeOf57 (encF HT.cells) (fun _ => rfl) (fun x v hv => by simp [encF, HT.cells] at hv; rcases hv with rfl | rfl | rfl <;> rfl) cmpHT cmp_HT.swo 33 #[] blk 0 cap d w
      (enters_of Try.func33 (by kernel_rfl) rfl) (fun m os dk hs x y => Go.Y.exact_of (Go.Y.findCmp_ok x y) _) hH hblk hsz) a c l hl

end Go.Proofs
