/- This text walks through the statements TitleParse, TitleFormat, TitleResolve, TitleCompare and TitleAncestors: each answers true. -/
import Derived.Test.YtimekkilmffpiaaDoorRef1g
set_option linter.all false

namespace Go.Proofs
open Go Go.X
set_option maxRecDepth 100000

theorem known_ok : FnS Tryd.prog 12 [] [] [gInt 0] (Is tt) := by
  have h1 : parseT [116, 101, 109, 112, 108, 97, 116, 101, 32, 58, 32, 105, 110, 102, 111, 95, 98, 111, 120] = (3, [73, 110, 102, 111, 32, 98, 111, 120], 0) := by decide +kernel
  have h2 : formatT 3 [73, 110, 102, 111, 32, 98, 111, 120] = [84, 101, 109, 112, 108, 97, 116, 101, 58, 73, 110, 102, 111, 32, 98, 111, 120] := by decide +kernel
  have c1 := parse_ok [116, 101, 109, 112, 108, 97, 116, 101, 32, 58, 32, 105, 110, 102, 111, 95, 98, 111, 120] (by decide)
  have c2 := format_ok 3 [73, 110, 102, 111, 32, 98, 111, 120] (by decide)
  rw [h1] at c1
  rw [h2] at c2
  refine fn_of_J Tryd.tyOK 0 Tryd.func12 (by kernel_rfl) (c := Tryd.f12.body.getD .skip) (by kernel_rfl) Tryd.ntmps12 (rs := Tryd.f12.results.toList) rfl (by simp) (fun G => ?_)
  repeat' first
    | refine J_seq ?_ | refine J_region Tryd.tyOK ?_ | refine J_block ?_ | refine J_cond ?_ | refine J_ret ?_ | refine J_skip ?_ | refine J_exit ?_
    | refine CondP.yes (by omega) ?_ | refine CondP.no (by omega) ?_ | refine CondP.mk (fun h => ?_) (fun h => ?_) | refine EqP.mk rfl ?_ | refine NewP.mk (fun ad => ?_) | refine ArP.exact (by simp only [inR]; omega) ?_ | refine SideP.mk (by first | omega | (dsimp only; omega) | (simp; omega)) ?_
    | refine CallP.is c1 ?_ | refine CallP.is c2 ?_ | refine FinE.is ?_
    | fail
  all_goals first | rfl | (exfalso; simp at *)

theorem titleParse_law (s : List UInt8) (hs : s.length ≤ maxLen) : FnS Tryd.prog 3 [.c (.s s)] [] [gInt 0] (Is tt) := by
  simp only [maxLen] at hs
  refine fn_of_J Tryd.tyOK 0 Tryd.func3 (by kernel_rfl) (c := Tryd.f3.body.getD .skip) (by kernel_rfl) Tryd.ntmps3 (rs := Tryd.f3.results.toList) rfl (by simp) (fun G => ?_)
  repeat' first
    | refine J_stop (c := .seq (.region 3 _ _) _) ?_
    | refine J_seq ?_ | refine J_region Tryd.tyOK ?_ | refine J_block ?_ | refine J_cond ?_ | refine J_ret ?_ | refine J_skip ?_ | refine J_exit ?_
    | refine CondP.yes (by omega) ?_ | refine CondP.no (by omega) ?_ | refine CondP.mk (fun h => ?_) (fun h => ?_) | refine EqP.mk rfl ?_ | refine NewP.mk (fun ad => ?_) | refine ArP.exact (by simp only [inR]; omega) ?_ | refine SideP.mk (by first | omega | (dsimp only; omega) | (simp; omega)) ?_
    | refine CallP.is known_ok ?_ | refine FinE.is ?_
    | fail
  · rfl
  have c1 := parse_ok s (by omega)
  have c2 := refParse_ok s (by omega)
  generalize parseT s = r at *
  obtain ⟨sp, n, e⟩ := r
  refine ⟨?_⟩
  refine J_seq ?_
  repeat' first
    | refine J_seq ?_ | refine J_region Tryd.tyOK ?_ | refine J_block ?_ | refine J_cond ?_ | refine J_ret ?_ | refine J_skip ?_ | refine J_exit ?_
    | refine CondP.yes (by omega) ?_ | refine CondP.no (by omega) ?_ | refine CondP.mk (fun h => ?_) (fun h => ?_) | refine EqP.mk rfl ?_ | refine NewP.mk (fun ad => ?_) | refine ArP.exact (by simp only [inR]; omega) ?_ | refine SideP.mk (by first | omega | (dsimp only; omega) | (simp; omega)) ?_
    | refine CallP.is c1 ?_ | refine CallP.is c2 ?_ | refine CallP.is known_ok ?_ | refine FinE.is ?_
    | fail
  all_goals first | rfl | (exfalso; simp at *)

theorem titleFormat_law (sp : Int) (s : List UInt8) (hs : s.length ≤ maxLen) : FnS Tryd.prog 4 [.agg [.i .i64 sp, .s s]] [] [gInt 0] (Is tt) := by
  simp only [maxLen] at hs
  refine fn_of_J Tryd.tyOK 0 Tryd.func4 (by kernel_rfl) (c := Tryd.f4.body.getD .skip) (by kernel_rfl) Tryd.ntmps4 (rs := Tryd.f4.results.toList) rfl (by simp) (fun G => ?_)
  repeat' first
    | refine J_stop (c := .seq (.region 3 _ _) _) ?_
    | refine J_seq ?_ | refine J_region Tryd.tyOK ?_ | refine J_block ?_ | refine J_cond ?_ | refine J_ret ?_ | refine J_skip ?_ | refine J_exit ?_
    | refine CondP.yes (by omega) ?_ | refine CondP.no (by omega) ?_ | refine CondP.mk (fun h => ?_) (fun h => ?_) | refine EqP.mk rfl ?_ | refine NewP.mk (fun ad => ?_) | refine ArP.exact (by simp only [inR]; omega) ?_ | refine SideP.mk (by first | omega | (dsimp only; omega) | (simp; omega)) ?_
    | refine CallP.is known_ok ?_ | refine FinE.is ?_
    | fail
  · rfl
  have c1 := valid_ok sp s (by omega)
  have c2 := refValid_ok sp s (by omega)
  have c3 := format_ok sp s (by omega)
  have c4 := refFormat_ok sp s (by omega)
  generalize validT sp s = r at *
  generalize formatT sp s = q at *
  refine ⟨?_⟩
  refine J_seq ?_
  repeat' first
    | refine J_seq ?_ | refine J_region Tryd.tyOK ?_ | refine J_block ?_ | refine J_cond ?_ | refine J_ret ?_ | refine J_skip ?_ | refine J_exit ?_
    | refine CondP.yes (by omega) ?_ | refine CondP.no (by omega) ?_ | refine CondP.mk (fun h => ?_) (fun h => ?_) | refine EqP.mk rfl ?_ | refine NewP.mk (fun ad => ?_) | refine ArP.exact (by simp only [inR]; omega) ?_ | refine SideP.mk (by first | omega | (dsimp only; omega) | (simp; omega)) ?_
    | refine J_drawS (id := 3) Tryd.tyOK (by kernel_rfl) [0, 1, 0, 7, 15, 31, 63, 127, 63, 511, 1023, 2047, 4095, 8191, 16383, 32767] [0, 1, 2, 3, 4, 5, 6, 7, 8, 9, 10, 11, 12, 13, 14, 15] [] [1] true (by kernel_rfl) ?_ | refine EntP.mk (Ents.ofSub (by repeat (first | exact List.Sublist.slnil | refine List.Sublist.cons_cons _ ?_ | refine List.Sublist.cons _ ?_)) (by first | exact fun _ h => h | exact fun _ _ => trivial | exact fun _ h => h.2)) ?_ | refine CallQ.mk [gInt 0] _ c1 (fun _ h => h) ?_ | refine CallQ.mk [] _ c2 (fun _ _ => trivial) ?_ | refine CallQ.mk [gInt 0] _ c3 (fun _ h => h) ?_ | refine CallQ.mk [] _ c4 (fun _ _ => trivial) ?_ | refine CallQ.mk [gInt 0] _ known_ok (fun _ h => h) ?_ | refine FinE.is ?_
    | fail
  all_goals first | rfl | (exfalso; simp at *)

theorem titleResolve_law (sp : Int) (n s : List UInt8) (hn : n.length ≤ maxLen) (hs : s.length ≤ maxLen) : FnS Tryd.prog 8 [.agg [.i .i64 sp, .s n], .c (.s s)] [] [gInt 0] (Is tt) := by
  simp only [maxLen] at hs hn
  by_cases hb : n.length ≤ 300 ∧ s.length ≤ 300
  · have c1 := resolve_ok sp n s (by omega) (by omega)
    have c2 := refResolve_ok sp n s (by omega) (by omega)
    generalize resolveT sp n s = r at *
    obtain ⟨a, b, e⟩ := r
    refine fn_of_J Tryd.tyOK 0 Tryd.func8 (by kernel_rfl) (c := Tryd.f8.body.getD .skip) (by kernel_rfl) Tryd.ntmps8 (rs := Tryd.f8.results.toList) rfl (by simp) (fun G => ?_)
    repeat' first
      | refine J_seq ?_ | refine J_region Tryd.tyOK ?_ | refine J_block ?_ | refine J_cond ?_ | refine J_ret ?_ | refine J_skip ?_ | refine J_exit ?_
      | refine CondP.yes (by omega) ?_ | refine CondP.no (by omega) ?_ | refine CondP.mk (fun h => ?_) (fun h => ?_) | refine EqP.mk rfl ?_ | refine NewP.mk (fun ad => ?_) | refine ArP.exact (by simp only [inR]; omega) ?_ | refine SideP.mk (by first | omega | (dsimp only; omega) | (simp; omega)) ?_
      | refine CallP.is c1 ?_ | refine CallP.is c2 ?_ | refine CallP.is known_ok ?_ | refine FinE.is ?_
      | fail
    all_goals first | rfl | (exfalso; simp at *)
  · refine fn_of_J Tryd.tyOK 0 Tryd.func8 (by kernel_rfl) (c := Tryd.f8.body.getD .skip) (by kernel_rfl) Tryd.ntmps8 (rs := Tryd.f8.results.toList) rfl (by simp) (fun G => ?_)
    repeat' first
      | refine J_seq ?_ | refine J_region Tryd.tyOK ?_ | refine J_block ?_ | refine J_cond ?_ | refine J_ret ?_ | refine J_skip ?_ | refine J_exit ?_
      | refine CondP.yes (by omega) ?_ | refine CondP.no (by omega) ?_ | refine CondP.mk (fun h => ?_) (fun h => ?_) | refine EqP.mk rfl ?_ | refine NewP.mk (fun ad => ?_) | refine ArP.exact (by simp only [inR]; omega) ?_ | refine SideP.mk (by first | omega | (dsimp only; omega) | (simp; omega)) ?_
      | refine CallP.is known_ok ?_ | refine FinE.is ?_
      | fail
    all_goals rfl

set_option maxHeartbeats 4000000 in
theorem titleCompare_law (a : Int) (x : List UInt8) (b : Int) (y : List UInt8) (c : Int) (z : List UInt8) : FnS Tryd.prog 11 [.agg [.i .i64 a, .s x], .agg [.i .i64 b, .s y], .agg [.i .i64 c, .s z]] [] [gInt 0] (Is tt) := by
  have c1 := compare_ok a x b y
  have c2 := refCompare_ok a x b y
  have c3 := compare_ok b y a x
  have c4 := compare_ok b y c z
  have c5 := compare_ok a x c z
  have h1 := compareT_swap a x b y
  have h2 := compareT_eq a x b y
  have h3 := @compareT_trans a x b y c z
  have h4 := compareT_range b y a x
  generalize compareT a x b y = k1 at *
  generalize compareT b y a x = k2 at *
  generalize compareT b y c z = k3 at *
  generalize compareT a x c z = k4 at *
  refine fn_of_J Tryd.tyOK 0 Tryd.func11 (by kernel_rfl) (c := Tryd.f11.body.getD .skip) (by kernel_rfl) Tryd.ntmps11 (rs := Tryd.f11.results.toList) rfl (by simp) (fun G => ?_)
  repeat' first
    | refine J_seq ?_ | refine J_region Tryd.tyOK ?_ | refine J_block ?_ | refine J_cond ?_ | refine J_ret ?_ | refine J_skip ?_ | refine J_exit ?_
    | refine CondP.yes (by omega) ?_ | refine CondP.no (by omega) ?_ | refine CondP.mk (fun h => ?_) (fun h => ?_) | refine EqP.mk rfl ?_ | refine NewP.mk (fun ad => ?_) | refine ArP.exact (by simp only [inR]; omega) ?_ | refine SideP.mk (by first | omega | (dsimp only; omega) | (simp; omega)) ?_
    | refine J_drawS (id := 1) Tryd.tyOK (by kernel_rfl) [0, 0, 3, 0, 0, 31, 63, 127, 255, 255, 1023, 255, 255, 8191, 16383, 32767, 65535, 131071, 262143, 262143, 1048575, 2097151, 262143, 262143, 12845055, 33554431, 67108863] [0, 1, 2, 3, 4, 5, 6, 7, 8, 9, 10, 11, 12, 13, 14, 15, 16, 17, 18, 19, 20, 21, 22, 23, 24, 25, 26] [] [3, 4] true (by kernel_rfl) ?_ | refine EntP.mk (Ents.ofSub (by repeat (first | exact List.Sublist.slnil | refine List.Sublist.cons_cons _ ?_ | refine List.Sublist.cons _ ?_)) (by first | exact fun _ h => h | exact fun _ _ => trivial | exact fun _ h => h.2)) ?_ | refine CallQ.mk [] _ c1 (fun _ _ => trivial) ?_ | refine CallQ.mk [] _ c2 (fun _ _ => trivial) ?_ | refine CallQ.mk [] _ c3 (fun _ _ => trivial) ?_ | refine CallP.is c1 ?_ | refine CallP.is c4 ?_ | refine CallP.is c5 ?_ | refine CallP.is known_ok ?_ | refine FinE.is ?_
    | fail
  all_goals first | rfl | (exfalso; clear c1 c2 c3 c4 c5; first | omega | (simp_all; done) | exact absurd (show a = b ∧ x = y ∧ True from ⟨(h2.1 (by assumption)).1, (h2.1 (by assumption)).2, trivial⟩) (by assumption))

end Go.Proofs
