/- This text walks through the function awake of the statements of chapter 35: the examples of the chapter. -/
import Derived.Test.YtcnbkappedemeaaFind
import Derived.Test.YtcnbkappedemeaaSame
import Derived.Test.YtcnbkappedemeaaDrawP
set_option linter.all false

namespace Go.X
open Go Go.Lib Go.Proofs

def annT : List UInt8 := [65, 110, 110]
def annW : List UInt8 := [97, 110, 110]
def teaW : List UInt8 := [116, 101, 97]
def rowsA : List WR := [⟨annW, 0, annT, 2⟩, ⟨[108, 105, 107, 101, 115], 0, annT, 1⟩, ⟨teaW, 0, annT, 1⟩]
theorem wordsA : wordsS (annT ++ [10] ++ [97, 110, 110, 32, 108, 105, 107, 101, 115, 32, 116, 101, 97]) = [annW, annW, [108, 105, 107, 101, 115], teaW] := by decide
theorem rowsA_is : rowsT 0 annT [97, 110, 110, 32, 108, 105, 107, 101, 115, 32, 116, 101, 97] = rowsA := by
  unfold rowsT
  rw [wordsA, ordW_mem (m := rowsA) (fun z => ?_)]
  · refine ordW_of_str ?_
    unfold rowsA StrL
    simp only [List.pairwise_cons, List.mem_cons, List.not_mem_nil, or_false]
    refine ⟨?_, ?_, ?_⟩
    · rintro a (rfl | rfl) <;> decide
    · rintro a rfl; decide
    · exact ⟨fun _ h => h.elim, List.Pairwise.nil⟩
  · have : rowsW 0 annT [annW, annW, [108, 105, 107, 101, 115], teaW] = ⟨annW, 0, annT, 2⟩ :: rowsA := by decide
    rw [this]
    simp [rowsA]
theorem wordsB : wordsS [73, 116, 39, 115, 32, 53, 32, 111, 39, 99, 108, 111, 99, 107, 44, 32, 65, 110, 110] = [[105, 116], [99, 108, 111, 99, 107], annW] := by decide
def pageA : PG := ⟨0, annT, [], 0⟩

theorem srt1 (x : List UInt8) : srtS [x] = [x] := by unfold srtS; exact List.mergeSort_singleton ..
theorem srt2 (x y : List UInt8) : srtS [x, y] = if x ≤ y then [x, y] else [y, x] := by
  unfold srtS
  simp [List.mergeSort, List.MergeSort.Internal.splitInTwo, List.merge]
theorem find1 : findT rowsA [pageA] [65, 78, 78] = [⟨0, annT, 2⟩] := by
  have hq : queryT [65, 78, 78] = [annW] := by
    unfold queryT
    rw [show wordsS [65, 78, 78] = [annW] by decide, srt1]
    rfl
  unfold findT
  rw [hq, if_neg (by simp), show hitsGo rowsA [annW] [] [pageA] = [⟨0, annT, 2⟩] by decide]
  exact List.mergeSort_singleton ..
theorem find2 : findT rowsA [pageA] [116, 101, 97, 32, 97, 110, 110] = [⟨0, annT, 3⟩] := by
  have hq : queryT [116, 101, 97, 32, 97, 110, 110] = [annW, teaW] := by
    unfold queryT
    rw [show wordsS [116, 101, 97, 32, 97, 110, 110] = [teaW, annW] by decide, srt2, if_neg (by decide)]
    decide
  unfold findT
  rw [hq, if_neg (by simp), show hitsGo rowsA [annW, teaW] [] [pageA] = [⟨0, annT, 3⟩] by decide]
  exact List.mergeSort_singleton ..
theorem find3 : findT rowsA [pageA] [97, 110, 110, 32, 99, 111, 102, 102, 101, 101] = [] := by
  have hq : queryT [97, 110, 110, 32, 99, 111, 102, 102, 101, 101] = [annW, [99, 111, 102, 102, 101, 101]] := by
    unfold queryT
    rw [show wordsS [97, 110, 110, 32, 99, 111, 102, 102, 101, 101] = [annW, [99, 111, 102, 102, 101, 101]] by decide, srt2, if_pos (by decide)]
    decide
  unfold findT
  rw [hq, if_neg (by simp), show hitsGo rowsA [annW, [99, 111, 102, 102, 101, 101]] [] [pageA] = [] by decide]
  exact List.mergeSort_nil ..

end Go.X

namespace Go.Proofs
open Go Go.X
set_option maxRecDepth 100000
set_option maxHeartbeats 4000000

theorem awake_ok : FnS Try.prog 5 [] [] [] (Is tt) := by
  have c0 : FnS Try.prog 17 [.agg [.i .i64 0, .s annT], .c (.s [97, 110, 110, 32, 108, 105, 107, 101, 115, 32, 116, 101, 97])] [] [] (fun v L D => ∃ a c, v = .c (.sl a 3 c) ∧ L = [] ∧ D = [slFact 39 4 a 3 (wrC rowsA)]) :=
    (rows_ok 0 annT [97, 110, 110, 32, 108, 105, 107, 101, 115, 32, 116, 101, 97] (by decide)).entsP fun v L D ⟨a, c, h1, h2, h3⟩ => by
      rw [rowsA_is] at h1 h2
      subst h1 h2 h3
      exact ⟨[], _, Ents.toFact, a, c, rfl, rfl, rfl⟩
  have c1 : FnS Try.prog 9 [.c (.s [73, 116, 39, 115, 32, 53, 32, 111, 39, 99, 108, 111, 99, 107, 44, 32, 65, 110, 110])] [] [] (fun v L D => ∃ a c, v = .c (.sl a 3 c) ∧ L = [] ∧ D = [slFact 9 1 a 3 ([[105, 116], [99, 108, 111, 99, 107], annW].map C.s)]) :=
    (words_ok [73, 116, 39, 115, 32, 53, 32, 111, 39, 99, 108, 111, 99, 107, 44, 32, 65, 110, 110] (by decide)).entsP fun v L D ⟨a, c, h1, h2, h3⟩ => by
      rw [wordsB] at h1 h2
      subst h1 h2 h3
      exact ⟨[], _, Ents.toFact, a, c, rfl, rfl, rfl⟩
  have hb : ∀ r ∈ rowsA, -1099511627776 ≤ r.n ∧ r.n ≤ 1099511627776 := by decide
  have cf := fun (q : List UInt8) (H : List HT) (hq : q.length ≤ 1000) (hH : findT rowsA [pageA] q = H) (e e' : Nat) (la pa : Option Addr) (lc pc : Nat) =>
    (find_ok e e' la pa lc pc rowsA [pageA] ⟨(none, 0, 0), (none, 0, 0), (none, 0, 0), (none, 0, 0), 0, (none, 0, 0)⟩ q (by decide) hb (by decide) hq).entsP
      (post' := fun v L D => ∃ a c, v = .c (.sl a H.length c) ∧ L = [] ∧ D = [slFact 57 3 a H.length (htC H)]) fun v L D ⟨a, c, h1, h2, h3⟩ => by
      rw [hH] at h1 h2
      subst h1 h2 h3
      exact ⟨[], _, Ents.toFact, a, c, rfl, rfl, rfl⟩
  have f1 : ∀ (e e' : Nat) (la pa : Option Addr) (lc pc : Nat), FnS Try.prog 19 [.c (.sl la 3 lc), .agg [.sl pa 1 pc, .sl none 0 0, .sl none 0 0, .sl none 0 0, .sl none 0 0, .i .i64 0, .sl none 0 0], .c (.s [65, 78, 78])] [] [slFact e 4 la 3 (wrC rowsA), slFact e' 4 pa 1 (pgC [pageA])] (fun v L D => ∃ a c, v = .c (.sl a 1 c) ∧ L = [] ∧ D = [slFact 57 3 a 1 (htC [⟨0, annT, 2⟩])]) := cf _ _ (by decide) find1
  have f2 : ∀ (e e' : Nat) (la pa : Option Addr) (lc pc : Nat), FnS Try.prog 19 [.c (.sl la 3 lc), .agg [.sl pa 1 pc, .sl none 0 0, .sl none 0 0, .sl none 0 0, .sl none 0 0, .i .i64 0, .sl none 0 0], .c (.s [116, 101, 97, 32, 97, 110, 110])] [] [slFact e 4 la 3 (wrC rowsA), slFact e' 4 pa 1 (pgC [pageA])] (fun v L D => ∃ a c, v = .c (.sl a 1 c) ∧ L = [] ∧ D = [slFact 57 3 a 1 (htC [⟨0, annT, 3⟩])]) := cf _ _ (by decide) find2
  have f3 : ∀ (e e' : Nat) (la pa : Option Addr) (lc pc : Nat), FnS Try.prog 19 [.c (.sl la 3 lc), .agg [.sl pa 1 pc, .sl none 0 0, .sl none 0 0, .sl none 0 0, .sl none 0 0, .i .i64 0, .sl none 0 0], .c (.s [97, 110, 110, 32, 99, 111, 102, 102, 101, 101])] [] [slFact e 4 la 3 (wrC rowsA), slFact e' 4 pa 1 (pgC [pageA])] (fun v L D => ∃ a c, v = .c (.sl a 0 c) ∧ L = [] ∧ D = [slFact 57 3 a 0 (htC [])]) := cf _ _ (by decide) find3
  clear cf
  refine fn_of_J Try.tyOK 0 Try.func5 (by kernel_rfl) (c := Try.f5.body.getD .skip) (by kernel_rfl) Try.ntmps5 (rs := Try.f5.results.toList) rfl (by simp) (fun G => ?_)
  repeat' first
    | refine J_stop (c := .region 4 _ _) ?_
    | refine J_seq ?_ | refine J_region Try.tyOK ?_ | refine J_block ?_ | refine J_cond ?_ | refine J_ret ?_ | refine J_skip ?_ | refine J_exit ?_ | refine J_scope ?_
    | refine CondP.yes (by omega) ?_ | refine CondP.no (by omega) ?_ | refine CondP.mk (fun h => ?_) (fun h => ?_) | refine EqP.mk rfl ?_ | refine NewP.mk (fun ad => ?_) | refine ArP.exact (by simp only [inR]; omega) ?_ | refine SideP.mk (by first | omega | (dsimp only; omega) | (simp; omega)) ?_
    | refine CallP.mk [] [_] [] _ c0 (List.Perm.refl _) (fun _ _ => trivial) (fun v L' D' hq => ?_); obtain ⟨a0, k0, rfl, rfl, rfl⟩ := hq
    | fail
  refine ⟨?_⟩
  rename_i ad0 ad1
  refine J_ent (n' := 2) (env' := [(0, ff), (1, .c (.p 0 ad0 0)), (2, .c (.sl a0 3 k0)), (3, .c (.p 1 ad 0))]) (L' := [.box 1 ad 54 [.sl (some ⟨ad1, 0, none⟩) 1 1, .sl none 0 0, .sl none 0 0, .sl none 0 0, .sl none 0 0, .i .i64 0, .sl none 0 0], .box 0 ad0 33 [.i .i64 0, .s annT]]) (D' := [slFact 45 4 (some ⟨ad1, 0, none⟩) 1 (pgC [pageA]), slFact 39 4 a0 3 (wrC rowsA)]) (by repeat' first | exact SubE.nil | refine SubE.cons rfl ?_ ?_ | exact VEq.refl _ | refine VEq.int (by omega) | refine VEq.sl rfl (by first | rfl | omega | (rw [List.length_append]; rfl) | (simp; omega)) rfl) ((Ents.perm (List.Perm.swap _ _ _)).trans Ents.toFact) ?_
  repeat' first
    | refine J_seq ?_ | refine J_region Try.tyOK ?_ | refine J_block ?_ | refine J_cond ?_ | refine J_ret ?_ | refine J_skip ?_ | refine J_exit ?_ | refine J_scope ?_
    | refine CondP.yes (by omega) ?_ | refine CondP.no (by omega) ?_ | refine CondP.mk (fun h => ?_) (fun h => ?_) | refine EqP.mk rfl ?_ | refine NewP.mk (fun ad => ?_) | refine ArP.exact (by simp only [inR]; omega) ?_ | refine SideP.mk (by first | omega | (dsimp only; omega) | (simp; omega)) ?_
    | refine J_drawP (id := 4) Try.tyOK (by kernel_rfl) [0, 0, 3, 7, 15, 15, 63, 15, 143, 399, 1023, 2047, 4095, 8191, 8191, 32767, 8191, 73727, 204799, 524287, 1048575, 2097151, 4194303, 4194303, 16777215, 33554431, 67108863, 134217727, 268435455] (.node [] 0 (.node [1, 2, 3, 4, 5, 7, 8] 6 (.node [9, 10, 11, 12, 13, 14, 16, 17] 15 (.leaf [18, 19, 20, 21, 22, 23, 24, 25, 26, 27, 28]) 18 (.leaf [15, 19, 20, 21, 22, 23, 24, 25, 26, 27, 28])) 9 (.node [6, 10, 11, 12, 13, 14, 16, 17] 15 (.leaf [18, 19, 20, 21, 22, 23, 24, 25, 26, 27, 28]) 18 (.leaf [15, 19, 20, 21, 22, 23, 24, 25, 26, 27, 28]))) 1 (.node [0, 2, 3, 4, 5, 7, 8] 6 (.node [9, 10, 11, 12, 13, 14, 16, 17] 15 (.leaf [18, 19, 20, 21, 22, 23, 24, 25, 26, 27, 28]) 18 (.leaf [15, 19, 20, 21, 22, 23, 24, 25, 26, 27, 28])) 9 (.node [6, 10, 11, 12, 13, 14, 16, 17] 15 (.leaf [18, 19, 20, 21, 22, 23, 24, 25, 26, 27, 28]) 18 (.leaf [15, 19, 20, 21, 22, 23, 24, 25, 26, 27, 28])))) [0, 1, 2, 6, 9, 10, 15, 18, 19, 24] [1, 3] 29 true (by kernel_rfl) ?_ | refine TwoP.mk ?_ ?_ | refine EntP.mk (Ents.ofSub (by repeat (first | exact List.Sublist.slnil | refine List.Sublist.cons_cons _ ?_ | refine List.Sublist.cons _ ?_)) (by first | exact fun _ h => h | exact fun _ _ => trivial | exact fun _ h => h.2 | exact fun _ h => h.2.2.2.2 | exact fun _ h => h.2.2 | exact fun _ h => h.2.2.2 | exact fun _ h => h.2.2.2.2.2 | exact fun _ h => h.2.2.2.2.2.2 | exact fun _ h => h.2.2.2.2.2.2.2 | exact fun _ h => h.2.2.2.2.2.2.2.2 | exact fun _ h => h.2.2.2.2.2.2.2.2.2 | exact fun _ h => h.2.2.2.2.2.2.2.2.2.2 | exact fun _ h => ((allD_append _ _).1 h).2)) ?_ | refine CallP.mk [] _ [] _ c1 (List.Perm.refl _) (fun _ _ => trivial) (fun v L' D' hq => ?_); obtain ⟨a1, k1, rfl, rfl, rfl⟩ := hq | refine CallP.isE (sameStr_ok 9 9 _ _ _ _ [[105, 116], [99, 108, 111, 99, 107], annW] (by decide)) Ents.toFact (fun _ h => by exact ⟨h.2.1, h.1, trivial⟩) ?_ | refine CallP.mk [] _ [_, _] _ (f1 39 45 _ _ _ _) (List.Perm.refl _) (fun _ h => by exact ⟨h.2.2.2.1, h.2.2.1, trivial⟩) (fun v L' D' hq => ?_); obtain ⟨a2, k2, rfl, rfl, rfl⟩ := hq | refine CallP.mk [] _ [_, _] _ (f2 39 45 _ _ _ _) (List.Perm.refl _) (fun _ h => by exact ⟨h.2.2.2.2.2.1, h.2.2.2.2.1, trivial⟩) (fun v L' D' hq => ?_); obtain ⟨a3, k3, rfl, rfl, rfl⟩ := hq | refine CallP.mk [] _ [_, _] _ (f3 39 45 _ _ _ _) (List.Perm.refl _) (fun _ h => by exact ⟨h.2.2.2.2.2.2.2.1, h.2.2.2.2.2.2.1, trivial⟩) (fun v L' D' hq => ?_); obtain ⟨a4, k4, rfl, rfl, rfl⟩ := hq | refine CallP.isE (sameHits_ok 57 57 _ _ _ _ [⟨0, annT, 2⟩] (by decide)) Ents.toFact (fun _ h => by exact ⟨h.2.1, h.1, trivial⟩) ?_ | refine CallP.isE (sameHits_ok 57 57 _ _ _ _ [⟨0, annT, 3⟩] (by decide)) Ents.toFact (fun _ h => by exact ⟨h.2.1, h.1, trivial⟩) ?_ | refine FinE.mk [] [] ⟨rfl, rfl, rfl⟩ (Ents.ofSub (by repeat (first | exact List.Sublist.slnil | refine List.Sublist.cons_cons _ ?_ | refine List.Sublist.cons _ ?_)) (by first | exact fun _ h => h | exact fun _ _ => trivial | exact fun _ h => h.2 | exact fun _ h => h.2.2.2.2 | exact fun _ h => h.2.2 | exact fun _ h => h.2.2.2 | exact fun _ h => h.2.2.2.2.2 | exact fun _ h => h.2.2.2.2.2.2 | exact fun _ h => h.2.2.2.2.2.2.2 | exact fun _ h => h.2.2.2.2.2.2.2.2 | exact fun _ h => h.2.2.2.2.2.2.2.2.2 | exact fun _ h => h.2.2.2.2.2.2.2.2.2.2 | exact fun _ h => ((allD_append _ _).1 h).2))
    | fail

end Go.Proofs
