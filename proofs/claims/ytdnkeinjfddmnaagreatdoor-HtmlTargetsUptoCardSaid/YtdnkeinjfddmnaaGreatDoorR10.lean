/- This text walks through html.Path. · This text walks through html.Render on a document of one paragraph, and through the sanity check of chapter 20. · This text proves the plain laws of the escaping: different strings have different escaped forms; these hold no brackets and no quotation marks. · This text walks through the reference's Escape: it computes the escaped string too. · This text walks through Hex and Path of the references. · This text walks through the sanity check of chapter 20 and the functions of its laws on texts and paths. · This text holds plain facts on the order of lists of bytes, and on that of titles. · This text holds the rows and hits of the search as plain data, and their orders. · This text holds plain facts on orders that are put together of orders, and on sorted lists. · This text holds rules on parts of rows and on what known facts imply. · This text holds plain facts on lists in order and on titles in lists. · This text turns the kit's contract of slices.SortFunc, at elements of several cells, into the form of the symbolic executor. · This text holds the layings of the kit's contract of slices.SortFunc at this program (its plain mode). · This text walks through the functions by which rows and hits are compared, in any mode of the executor: in the strict one, what they leave of the world is known to the letter. · This text walks through SortFunc and Compact of the package slices at titles. -/
import Derived.Test.YtdnkeinjfddmnaaGreatDoorR08
import Derived.Test.YtdnkeinjfddmnaaGreatDoorR09
import Derived.Test.YtdnkeinjfddmnaaGreatDoorR07
import Derived.Test.YtdnkeinjfddmnaaGreatDoorR06
import Derived.Test.YtdnkeinjfddmnaaGreatDoorR01
import Derived.Sort.Statements
import Derived.Shelf.SlSortCmp.WholeK
import Derived.Test.YtdnkeinjfddmnaaGreatDoorR04
import Derived.Test.YtdnkeinjfddmnaaGreatDoorProg
import Derived.Test.YtdnkeinjfddmnaaGreatDoorR05
import Derived.Sort.Grow
set_option linter.all false

namespace Go.Proofs
open Go Go.X
set_option maxRecDepth 100000

theorem shr4 (y : UInt8) : ((y.toNat : Int).fdiv (2 ^ min (Int.toNat 4) IntKind.u8.bits)) = ((y.toNat / 16 : Nat) : Int) := by
  show (y.toNat : Int).fdiv 16 = _
  rw [Int.fdiv_eq_ediv_of_nonneg _ (by decide)]
  omega
theorem and15_all : ∀ n : Fin 256, bitsV .and .u8 ((n.val : Nat) : Int) 15 = ((n.val % 16 : Nat) : Int) := by decide
theorem and15 (y : UInt8) : bitsV .and .u8 (y.toNat : Int) 15 = ((y.toNat % 16 : Nat) : Int) := and15_all ⟨y.toNat, y.toNat_lt⟩

set_option maxHeartbeats 1000000 in
theorem path_ok (sp : Int) (nm : List UInt8) (hn : nm.length ≤ 1000000) : FnS Tryz.prog 16 [.agg [.i .i64 sp, .s nm]] [] [gInt 0] (Is (.c (.s (pathT sp nm)))) := by
  have hfl := formatT_le sp nm
  have hf := format_ok sp nm hn
  unfold pathT
  generalize formatT sp nm = s at *
  refine fn_of_J Tryz.tyOK 0 Tryz.func16 (by kernel_rfl) (c := Tryz.f16.body.getD .skip) (by kernel_rfl) Tryz.ntmps16 (rs := Tryz.f16.results.toList) rfl (by simp) (fun G => ?_)
  repeat' first
    | refine J_seq ?_ | refine J_region Tryz.tyOK ?_ | refine J_block ?_ | refine J_cond ?_ | refine J_ret ?_ | refine J_skip ?_ | refine J_exit ?_ | refine J_scope ?_
    | refine CondP.yes (by omega) ?_ | refine CondP.no (by omega) ?_ | refine CondP.mk (fun h => ?_) (fun h => ?_) | refine EqP.mk rfl ?_ | refine NewP.mk (fun ad => ?_) | refine ArP.exact (by simp only [inR]; omega) ?_ | refine SideP.mk (by first | omega | (dsimp only; omega) | (simp; omega)) ?_
    | refine CallP.is hf ?_ | (refine CallP.mk [_] [_] [] _ (bwString_ok 1 _ _ none 0 [] wikiS [] bty0 (by decide) (by decide)) (List.Perm.refl _) (fun _ _ => trivial) (fun v L' D' hp => ?_); obtain ⟨a0, c0, rfl, rfl, rfl⟩ := hp) | refine NewB.mk (fun ad2 c2 => ?_)
    | fail
  refine J_loop (α := Nat × List UInt8 × Option Addr × Nat) (fun x => [(3, .c (.p 1 ad 0)), (9, .c (.sl (some ⟨ad2, 0, none⟩) s.length c2)), (10, lenV s.length), (11, .c (.i .i64 x.1))])
    (fun x => bw 1 ad 66 x.2.2.1 x.2.2.2 x.2.1 []) (fun _ => [slFact 5 1 (some ⟨ad2, 0, none⟩) s.length (s.map byteC)]) 7000 (fun x => x.1 ≤ s.length ∧ x.2.1 = wikiS ++ pathS (s.take x.1)) (fun x => s.length - x.1)
    (InFam.mk (0, wikiS, a0, c0) ⟨Nat.zero_le _, rfl⟩ (by repeat' first | exact SubE.nil | refine SubE.cons rfl ?_ ?_ | exact VEq.refl _ | refine VEq.int (by omega) | refine VEq.sl rfl (by first | rfl | omega | (rw [List.length_append]; rfl) | (simp; omega)) rfl) (Ents.toFact.trans ((Ents.sub ⟨_, List.perm_append_comm⟩).trans (Ents.facts fun _ h => ⟨h.1, trivial⟩)))) (fun x hx => ?_)
  obtain ⟨i, o, a, c⟩ := x
  obtain ⟨hi, ho⟩ := hx
  dsimp only at hi ho ⊢
  by_cases hlt : i < s.length
  · have hst : wikiS ++ pathS (s.take (i + 1)) = o ++ pathB s[i] := by rw [pathS_take_succ hlt, ho, List.append_assoc]
    have hol : o.length ≤ 6 + 3 * 109 := by
      have := pathS_le (s.take i)
      rw [ho, List.length_append]
      simp only [List.length_take] at this
      have : wikiS.length = 6 := rfl
      omega
    have hrd : ∀ L, Reads L [slFact 5 1 (some ⟨ad2, 0, none⟩) s.length (s.map byteC)] 5 1 (some ⟨ad2, 0, none⟩) s.length (s.map byteC) := fun _ => .inr fun _ h => h.1
    have hld : ((s.map byteC).drop (Int.toNat (i : Int) * 1 + 0)).take 1 = [byteC s[i]] := by
      simp only [Int.toNat_natCast, Nat.mul_one, Nat.add_zero]
      rw [List.drop_eq_getElem_cons (by simpa using hlt)]
      simp
    generalize s[i] = y at *
    have hy := y.toNat_lt
    repeat' first
      | refine J_seq ?_ | refine J_region Tryz.tyOK ?_ | refine J_block ?_ | refine J_cond ?_ | refine J_ret ?_ | refine J_skip ?_ | refine J_exit ?_ | refine J_scope ?_
      | refine CondP.yes (by omega) ?_ | refine CondP.no (by omega) ?_ | refine CondP.mk (fun h => ?_) (fun h => ?_) | refine EqP.mk rfl ?_ | refine NewP.mk (fun ad => ?_) | refine ArP.exact (by simp only [inR]; omega) ?_ | refine SideP.mk (by first | omega | (dsimp only; omega) | (simp; omega)) ?_
      | refine IdxE.mk 5 1 _ (hrd _) (by omega) (by omega) ?_ | refine LoadE.mk 5 s.length _ [byteC y] (hrd _) (by omega) (by omega) (by decide) (by exact hld) ?_ | refine CallP.is (indexByte_ok punctS y) ?_ | refine J_drawU (id := 6) Tryz.tyOK (by kernel_rfl) [0, 1, 3, 0, 8, 24, 63, 127] (.fork [0, 1, 2, 3, 4, 5] (.alt 6 (.leaf [7]) (.stop))) [6, 7] [] 7 false (by kernel_rfl) ?_ | refine TwoP.mk ?_ ?_ | refine GoP.mk (by repeat (first | exact keepC_sub _ _ _ | exact List.Sublist.slnil | refine List.Sublist.cons_cons _ ?_ | refine List.Sublist.cons _ ?_)) (by first | exact fun _ h => h | exact fun _ h => h.2 | exact fun _ h => ((allD_append _ _).1 h).2) ?_ | exact trivial | refine EntP.mk (Ents.ofSub (by repeat (first | exact keepC_sub _ _ _ | exact List.Sublist.slnil | refine List.Sublist.cons_cons _ ?_ | refine List.Sublist.cons _ ?_)) (by first | exact fun _ h => h | exact fun _ _ => trivial | exact fun _ h => h.2 | exact fun _ h => h.2.2.2.2 | exact fun _ h => h.2.2 | exact fun _ h => h.2.2.2 | exact fun _ h => h.2.2.2.2.2 | exact fun _ h => h.2.2.2.2.2.2 | exact fun _ h => h.2.2.2.2.2.2.2 | exact fun _ h => h.2.2.2.2.2.2.2.2 | exact fun _ h => h.2.2.2.2.2.2.2.2.2 | exact fun _ h => h.2.2.2.2.2.2.2.2.2.2 | exact fun _ h => ((allD_append _ _).1 h).2)) ?_ | (refine CallP.mk _ [] [] _ (bwByte_ok 1 _ _ a c o 95 [] bty0 (by omega)) (by simp) (fun _ _ => trivial) (fun v L' D' hp => ?_); obtain ⟨a', c', rfl, rfl, rfl⟩ := hp) | (refine CallP.mk _ [] [] _ (bwByte_ok 1 _ _ a c o y [] bty0 (by omega)) (by simp) (fun _ _ => trivial) (fun v L' D' hp => ?_); obtain ⟨a', c', rfl, rfl, rfl⟩ := hp) | rw [shr4] | rw [and15] | refine SideP.mk (by show _ ∧ _ < (16 : Int); omega) ?_ | refine SideP.mk (by rw [and15]; show _ ∧ _ < (16 : Int); omega) ?_ | (refine CallP.mkE _ [] [_] _ _ (bwWrite_ok 1 _ _ a c o (37 :: hexB y) _ _ [] bty0 (by simp) (by show _ + 3 ≤ _; omega)) (Ents.toFact.trans (Ents.of (List.append_nil _).symm)) (fun _ h => ⟨h.1, trivial⟩) (fun v L' D' hp => ?_); obtain ⟨a', c', rfl, rfl, rfl⟩ := hp) | refine Round.mk (i + 1, o ++ [95], a', c') (by dsimp only; omega) ⟨by dsimp only; omega, pathStep32 hst (by omega)⟩ (by repeat' first | exact SubE.nil | refine SubE.cons rfl ?_ ?_ | exact VEq.refl _ | refine VEq.int (by omega) | refine VEq.sl rfl (by first | rfl | omega | (rw [List.length_append]; rfl) | (simp; omega)) rfl) (Ents.of (List.append_nil _)) | refine Round.mk (i + 1, o ++ [y], a', c') (by dsimp only; omega) ⟨by dsimp only; omega, pathStepK hst (by omega) (by unfold keepP; omega)⟩ (by repeat' first | exact SubE.nil | refine SubE.cons rfl ?_ ?_ | exact VEq.refl _ | refine VEq.int (by omega) | refine VEq.sl rfl (by first | rfl | omega | (rw [List.length_append]; rfl) | (simp; omega)) rfl) (Ents.of (List.append_nil _)) | refine Round.mk (i + 1, o ++ 37 :: hexB y, a', c') (by dsimp only; omega) ⟨by dsimp only; omega, pathStepH hst (by omega) (by unfold keepP; omega)⟩ (by repeat' first | exact SubE.nil | refine SubE.cons rfl ?_ ?_ | exact VEq.refl _ | refine VEq.int (by omega) | refine VEq.sl rfl (by first | rfl | omega | (rw [List.length_append]; rfl) | (simp; omega)) rfl) ((Ents.of (List.append_nil _)).trans (Ents.facts fun _ h => ⟨h.2.1, trivial⟩))
      | fail
  · have hil : i = s.length := by omega
    subst hil
    rw [List.take_length] at ho
    subst ho
    repeat' first
      | refine J_seq ?_ | refine J_region Tryz.tyOK ?_ | refine J_block ?_ | refine J_cond ?_ | refine J_ret ?_ | refine J_skip ?_ | refine J_exit ?_ | refine J_scope ?_
      | refine CondP.yes (by omega) ?_ | refine CondP.no (by omega) ?_ | refine CondP.mk (fun h => ?_) (fun h => ?_) | refine EqP.mk rfl ?_ | refine NewP.mk (fun ad => ?_) | refine ArP.exact (by simp only [inR]; omega) ?_ | refine SideP.mk (by first | omega | (dsimp only; omega) | (simp; omega)) ?_
      | refine CallP.mk _ [] [] _ (bwText_ok 1 _ 66 a c (wikiS ++ pathS s) []) (by simp) (fun _ _ => trivial) (fun v L' D' hp => ?_); obtain ⟨rfl, rfl, rfl⟩ := hp | refine FinE.str rfl
      | fail

end Go.Proofs

namespace Go.Proofs
open Go Go.X
set_option maxRecDepth 100000

theorem blocksPara1 (id ab : Nat) (ba ia : Option Addr) (bc ic : Nat) (s : List UInt8) (hs : s.length ≤ 100000) (mi no : C) :
    FnS Tryz.prog 52 [.c (.p id ab 0), .c (.sl ba 1 bc), .c (.b true)] (bw id ab 87 none 0 [] (wR mi no)) [pgF ba ia ic, txF ia s] (BwPost .t0 id ab 87 (pOpen ++ escT s ++ pEnd) (wR mi no)) :=
  (blocksPara ab ba ia bc ic s hs mi no).same rfl (bw_same _ _ _ _ _ _ _ _) fun v L1 D1 ⟨a', c', h1, h2, h3⟩ => ⟨_, h2 ▸ bw_same 0 id ab _ a' c' _ _, a', c', h1, rfl, h3⟩
theorem noContents1 (id ab : Nat) (mi no : C) : FnS Tryz.prog 51 [.c (.p id ab 0)] (bw id ab 87 none 0 [] (wR mi no)) [] (fun v L D => v = .t0 ∧ L = bw id ab 87 none 0 [] (wR mi no) ∧ D = []) :=
  (noContents ab mi no).same rfl (bw_same _ _ _ _ _ _ _ _) fun v L1 D1 ⟨h1, h2, h3⟩ => ⟨_, h2 ▸ bw_same 0 id ab _ none 0 [] _, h1, rfl, h3⟩
theorem noList1 (id ab : Nat) : FnS Tryz.prog 53 [.c (.p id ab 0), .c (.sl none 0 0)] [] [] (Is .t0) :=
  (noList ab).same rfl ⟨rfl, fun _ => Iff.rfl⟩ fun v L1 D1 h => ⟨L1, ⟨rfl, fun _ => Iff.rfl⟩, h⟩

theorem renderPara (ba ia : Option Addr) (bc ic : Nat) (s : List UInt8) (hs : s.length ≤ 100000) :
    FnS Tryz.prog 20 [.c (.sl ba 1 bc), .c (.sl none 0 0)] [] [pgF ba ia ic, txF ia s] (Is (.c (.s (pOpen ++ escT s ++ pEnd)))) := by
  have hm := marksPara ba ia bc ic s
  refine fn_of_J Tryz.tyOK 0 Tryz.func20 (by kernel_rfl) (c := Tryz.f20.body.getD .skip) (by kernel_rfl) Tryz.ntmps20 (rs := Tryz.f20.results.toList) rfl (by simp) (fun G => ?_)
  repeat' first
    | refine CondP.yes (by decide) ?_ | refine CondP.no (by decide) ?_
    | refine J_seq ?_ | refine J_region Tryz.tyOK ?_ | refine J_block ?_ | refine J_cond ?_ | refine J_ret ?_ | refine J_skip ?_ | refine J_exit ?_ | refine J_scope ?_
    | refine CondP.yes (by omega) ?_ | refine CondP.no (by omega) ?_ | refine CondP.mk (fun h => ?_) (fun h => ?_) | refine EqP.mk rfl ?_ | refine NewP.mk (fun ad => ?_) | refine ArP.exact (by simp only [inR]; omega) ?_ | refine SideP.mk (by first | omega | (dsimp only; omega) | (simp; omega)) ?_
    | refine J_rounds 1 ?_ | refine JR_succ ?_ | refine CallP.is (contentsPara ba ia bc ic s) ?_ | (refine CallP.mk [] _ _ _ hm (List.Perm.refl _) (fun _ h => h) (fun v L' D' hp => ?_); obtain ⟨a1, c1, rfl, rfl, rfl⟩ := hp) | refine CallP.is (notesPara ba ia bc ic s) ?_ | refine SideP.mk (by decide) ?_ | (refine CallP.mk _ [_, _] [] _ (noContents1 _ _ _ _) (List.Perm.refl _) (fun _ _ => trivial) (fun v L' D' hp => ?_); obtain ⟨rfl, rfl, rfl⟩ := hp) | (refine CallP.mk _ [_, _] [pgF ba ia ic, txF ia s] _ (blocksPara1 _ _ ba ia bc ic s hs _ _) (List.Perm.refl _) (fun _ h => h) (fun v L' D' hp => ?_); obtain ⟨a2, c2, rfl, rfl, rfl⟩ := hp) | refine CallP.is (noList1 _ _) ?_ | (refine CallP.mk _ [_, _] [] _ (bwText_ok _ _ 87 a2 c2 (pOpen ++ escT s ++ pEnd) (wR _ _)) (List.Perm.refl _) (fun _ _ => trivial) (fun v L' D' hp => ?_); obtain ⟨rfl, rfl, rfl⟩ := hp) | exact FinE.mk [] [] ⟨rfl, rfl, rfl⟩ (Ents.dropAll.trans (Ents.facts fun _ _ => trivial))
    | fail
  all_goals trace_state

theorem paragraph_ok (s : List UInt8) : FnS Tryz.prog 28 [.c (.s s)] [] [] (fun v L D => ∃ ba ia bc ic, v = .c (.sl ba 1 bc) ∧ L = [] ∧ D = [pgF ba ia ic, txF ia s]) := by
  refine fn_of_J Tryz.tyOK 0 Tryz.func28 (by kernel_rfl) (c := Tryz.f28.body.getD .skip) (by kernel_rfl) Tryz.ntmps28 (rs := Tryz.f28.results.toList) rfl (by simp) (fun G => ?_)
  repeat' first
    | refine J_seq ?_ | refine J_region Tryz.tyOK ?_ | refine J_block ?_ | refine J_cond ?_ | refine J_ret ?_ | refine J_skip ?_ | refine J_exit ?_ | refine J_scope ?_
    | refine CondP.yes (by omega) ?_ | refine CondP.no (by omega) ?_ | refine CondP.mk (fun h => ?_) (fun h => ?_) | refine EqP.mk rfl ?_ | refine NewP.mk (fun ad => ?_) | refine ArP.exact (by simp only [inR]; omega) ?_ | refine SideP.mk (by first | omega | (dsimp only; omega) | (simp; omega)) ?_
    | fail | refine FinE.mk [] [pgF _ _ _, txF _ s] ⟨_, _, _, _, rfl, rfl, rfl⟩ (Ents.toFact.trans (Ents.toFact.trans (Ents.facts fun _ h => ⟨h.2.1, h.1, trivial⟩)))
    | fail
  all_goals trace_state

end Go.Proofs

namespace Go.X

/-- Two strings' escaped forms, each with something behind it, agree only where the first bytes do. -/
theorem escB_inj {a b : UInt8} {x y : List UInt8} (h : escB a ++ x = escB b ++ y) : a = b ∧ x = y := by
  by_cases a1 : a = 38 <;> by_cases b1 : b = 38
  · subst a1 b1; simpa [escB, eAmp] using h
  all_goals by_cases a2 : a = 60 <;> by_cases b2 : b = 60
  all_goals by_cases a3 : a = 62 <;> by_cases b3 : b = 62
  all_goals by_cases a4 : a = 34 <;> by_cases b4 : b = 34
  all_goals simp [escB, eAmp, eLt, eGt, eQuot, a1, b1, a2, b2, a3, b3, a4, b4] at h
  all_goals try (subst_vars; first | (exact absurd rfl (by assumption)) | (simp_all; done))
  all_goals first | (exact ⟨h.1, h.2⟩) | (exact absurd h.1.symm (by assumption)) | (exact absurd h.1 (by assumption)) | simp_all

theorem escT_inj : ∀ {a b : List UInt8}, escT a = escT b → a = b
  | [], [], _ => rfl
  | [], b :: l, h => by
    have h1 := congrArg List.length h
    have h2 := escB_len b
    rw [escT_cons, List.length_append] at h1
    have h3 : (escT []).length = 0 := rfl
    omega
  | a :: k, [], h => by
    have h1 := congrArg List.length h
    have h2 := escB_len a
    rw [escT_cons, List.length_append] at h1
    have h3 : (escT []).length = 0 := rfl
    omega
  | a :: k, b :: l, h => by
    rw [escT_cons, escT_cons] at h
    obtain ⟨h1, h2⟩ := escB_inj h
    rw [h1, escT_inj h2]

theorem escB_safe (b : UInt8) : 60 ∉ escB b ∧ 62 ∉ escB b ∧ 34 ∉ escB b := by
  unfold escB
  split
  · decide
  split
  · decide
  split
  · decide
  split
  · decide
  · rename_i h1 h2 h3 h4
    simp only [List.mem_singleton]
    exact ⟨fun h => h2 h.symm, fun h => h3 h.symm, fun h => h4 h.symm⟩

theorem escT_safe (s : List UInt8) : 60 ∉ escT s ∧ 62 ∉ escT s ∧ 34 ∉ escT s := by
  unfold escT
  simp only [List.mem_flatMap, not_exists, not_and]
  exact ⟨fun b _ => (escB_safe b).1, fun b _ => (escB_safe b).2.1, fun b _ => (escB_safe b).2.2⟩

end Go.X

namespace Go.Proofs
open Go Go.X
set_option maxRecDepth 100000

theorem escStep38 {o r : List UInt8} {x y : UInt8} (hst : r = o ++ escB y) (hg : x = y) (h : (x.toNat : Int) = 38) : o ++ eAmp = r := by
  subst hg
  have hy : x = 38 := byte_is (n := 38) (by decide) h
  subst hy; rw [hst]; rfl
theorem escStep60 {o r : List UInt8} {x y : UInt8} (hst : r = o ++ escB y) (hg : x = y) (h : (x.toNat : Int) = 60) : o ++ eLt = r := by
  subst hg
  have hy : x = 60 := byte_is (n := 60) (by decide) h
  subst hy; rw [hst]; rfl
theorem escStep62 {o r : List UInt8} {x y : UInt8} (hst : r = o ++ escB y) (hg : x = y) (h : (x.toNat : Int) = 62) : o ++ eGt = r := by
  subst hg
  have hy : x = 62 := byte_is (n := 62) (by decide) h
  subst hy; rw [hst]; rfl
theorem escStep34 {o r : List UInt8} {x y : UInt8} (hst : r = o ++ escB y) (hg : x = y) (h : (x.toNat : Int) = 34) : o ++ eQuot = r := by
  subst hg
  have hy : x = 34 := byte_is (n := 34) (by decide) h
  subst hy; rw [hst]; rfl
theorem escStepN {o r : List UInt8} {x y : UInt8} (hst : r = o ++ escB y) (hg : x = y) (h1 : ¬ (x.toNat : Int) = 38) (h2 : ¬ (x.toNat : Int) = 60) (h3 : ¬ (x.toNat : Int) = 62) (h4 : ¬ (x.toNat : Int) = 34) : o ++ [y] = r := by
  subst hg
  have n1 : ¬ x = 38 := byte_not (n := 38) (by decide) h1
  have n2 : ¬ x = 60 := byte_not (n := 60) (by decide) h2
  have n3 : ¬ x = 62 := byte_not (n := 62) (by decide) h3
  have n4 : ¬ x = 34 := byte_not (n := 34) (by decide) h4
  rw [hst]; simp [escB, n1, n2, n3, n4]

theorem refEscape_ok (s : List UInt8) (hs : s.length ≤ 1000000) : FnS Tryz.prog 15 [.c (.s s)] [] [] (Is (.c (.s (escT s)))) := by
  have hle := escT_le s
  refine fn_of_J Tryz.tyOK 0 Tryz.func15 (by kernel_rfl) (c := Tryz.f15.body.getD .skip) (by kernel_rfl) Tryz.ntmps15 (rs := Tryz.f15.results.toList) rfl (by simp) (fun G => ?_)
  repeat' first
    | refine J_seq ?_ | refine J_region Tryz.tyOK ?_ | refine J_block ?_ | refine J_cond ?_ | refine J_ret ?_ | refine J_skip ?_ | refine J_exit ?_ | refine J_scope ?_
    | refine CondP.yes (by omega) ?_ | refine CondP.no (by omega) ?_ | refine CondP.mk (fun h => ?_) (fun h => ?_) | refine EqP.mk rfl ?_ | refine NewP.mk (fun ad => ?_) | refine ArP.exact (by simp only [inR]; omega) ?_ | refine SideP.mk (by first | omega | (dsimp only; omega) | (simp; omega)) ?_
    | fail
  refine J_loop (α := Nat × List UInt8) (fun x => [(0, .c (.s s)), (3, .c (.s x.2)), (4, .c (.i .i64 x.1))]) (fun _ => []) (fun _ => []) 0 (fun x => x.1 ≤ s.length ∧ x.2 = escT (s.take x.1)) (fun x => s.length - x.1)
    (InFam.mk (0, []) ⟨Nat.zero_le _, rfl⟩ (by repeat' first | exact SubE.nil | refine SubE.cons rfl ?_ ?_ | exact VEq.refl _ | refine VEq.int (by omega) | refine VEq.sl rfl (by first | rfl | omega | (rw [List.length_append]; rfl) | (simp; omega)) rfl) (Ents.refl _ _)) (fun x hx => ?_)
  obtain ⟨i, o⟩ := x
  obtain ⟨hi, ho⟩ := hx
  dsimp only at hi ho ⊢
  by_cases hlt : i < s.length
  · have hst := escT_take_succ hlt
    have htl := escT_take_le s i
    rw [← ho] at hst htl
    have hgd : (s.getD (Int.toNat (i : Int)) 0) = s[i] := by simp [hlt]
    have h1 := slice_one hlt
    have hgd2 : s.getD i 0 = s[i] := by simp [hlt]
    rw [hgd2] at h1
    generalize s[i] = y at *
    have h1' : (s.take (Int.toNat ((i : Int) + 1))).drop (Int.toNat (i : Int)) = [y] := h1
    repeat' first
      | refine J_seq ?_ | refine J_region Tryz.tyOK ?_ | refine J_block ?_ | refine J_cond ?_ | refine J_ret ?_ | refine J_skip ?_ | refine J_exit ?_ | refine J_scope ?_
      | refine CondP.yes (by omega) ?_ | refine CondP.no (by omega) ?_ | refine CondP.mk (fun h => ?_) (fun h => ?_) | refine EqP.mk rfl ?_ | refine NewP.mk (fun ad => ?_) | refine ArP.exact (by simp only [inR]; omega) ?_ | refine SideP.mk (by first | omega | (dsimp only; omega) | (simp; omega)) ?_
      | rw [hgd] | refine Round.mk (i + 1, o ++ eAmp) (by dsimp only; omega) ⟨by dsimp only; omega, escStep38 hst hgd h⟩ (by repeat' first | exact SubE.nil | refine SubE.cons rfl ?_ ?_ | exact VEq.refl _ | refine VEq.int (by omega) | refine VEq.sl rfl (by first | rfl | omega | (rw [List.length_append]; rfl) | (simp; omega)) rfl) (Ents.refl _ _) | refine Round.mk (i + 1, o ++ eLt) (by dsimp only; omega) ⟨by dsimp only; omega, escStep60 hst hgd h⟩ (by repeat' first | exact SubE.nil | refine SubE.cons rfl ?_ ?_ | exact VEq.refl _ | refine VEq.int (by omega) | refine VEq.sl rfl (by first | rfl | omega | (rw [List.length_append]; rfl) | (simp; omega)) rfl) (Ents.refl _ _) | refine Round.mk (i + 1, o ++ eGt) (by dsimp only; omega) ⟨by dsimp only; omega, escStep62 hst hgd h⟩ (by repeat' first | exact SubE.nil | refine SubE.cons rfl ?_ ?_ | exact VEq.refl _ | refine VEq.int (by omega) | refine VEq.sl rfl (by first | rfl | omega | (rw [List.length_append]; rfl) | (simp; omega)) rfl) (Ents.refl _ _) | refine Round.mk (i + 1, o ++ eQuot) (by dsimp only; omega) ⟨by dsimp only; omega, escStep34 hst hgd h⟩ (by repeat' first | exact SubE.nil | refine SubE.cons rfl ?_ ?_ | exact VEq.refl _ | refine VEq.int (by omega) | refine VEq.sl rfl (by first | rfl | omega | (rw [List.length_append]; rfl) | (simp; omega)) rfl) (Ents.refl _ _) | rw [h1'] | refine Round.mk (i + 1, o ++ [y]) (by dsimp only; omega) ⟨by dsimp only; omega, escStepN hst hgd (by assumption) (by assumption) (by assumption) (by assumption)⟩ (by repeat' first | exact SubE.nil | refine SubE.cons rfl ?_ ?_ | exact VEq.refl _ | refine VEq.int (by omega) | refine VEq.sl rfl (by first | rfl | omega | (rw [List.length_append]; rfl) | (simp; omega)) rfl) (Ents.refl _ _)
      | fail
  · have hil : i = s.length := by omega
    subst hil
    rw [List.take_length] at ho
    subst ho
    repeat' first
      | refine J_seq ?_ | refine J_region Tryz.tyOK ?_ | refine J_block ?_ | refine J_cond ?_ | refine J_ret ?_ | refine J_skip ?_ | refine J_exit ?_ | refine J_scope ?_
      | refine CondP.yes (by omega) ?_ | refine CondP.no (by omega) ?_ | refine CondP.mk (fun h => ?_) (fun h => ?_) | refine EqP.mk rfl ?_ | refine NewP.mk (fun ad => ?_) | refine ArP.exact (by simp only [inR]; omega) ?_ | refine SideP.mk (by first | omega | (dsimp only; omega) | (simp; omega)) ?_
      | refine FinE.str rfl
      | fail

end Go.Proofs

namespace Go.Proofs
open Go Go.X
set_option maxRecDepth 100000

theorem refHex_ok (y : UInt8) : FnS Tryz.prog 47 [.c (byteC y)] [] [] (Is (.c (.s (hexB y)))) := by
  have hy := y.toNat_lt
  have hq : (y.toNat : Int).tdiv 16 = ((y.toNat / 16 : Nat) : Int) := by
    rw [Int.tdiv_eq_ediv_of_nonneg (by omega)]; omega
  have hm : (y.toNat : Int).tmod 16 = ((y.toNat % 16 : Nat) : Int) := by
    rw [Int.tmod_eq_emod_of_nonneg (by omega)]; omega
  refine fn_of_J Tryz.tyOK 0 Tryz.func47 (by kernel_rfl) (c := Tryz.f47.body.getD .skip) (by kernel_rfl) Tryz.ntmps47 (rs := Tryz.f47.results.toList) rfl (by simp) (fun G => ?_)
  repeat' first
    | refine J_seq ?_ | refine J_region Tryz.tyOK ?_ | refine J_block ?_ | refine J_cond ?_ | refine J_ret ?_ | refine J_skip ?_ | refine J_exit ?_ | refine J_scope ?_
    | refine CondP.yes (by omega) ?_ | refine CondP.no (by omega) ?_ | refine CondP.mk (fun h => ?_) (fun h => ?_) | refine EqP.mk rfl ?_ | refine NewP.mk (fun ad => ?_) | refine ArP.exact (by simp only [inR]; omega) ?_ | refine SideP.mk (by first | omega | (dsimp only; omega) | (simp; omega)) ?_
    | refine J_drawU (id := 2) Tryz.tyOK (by kernel_rfl) [0, 0, 2, 0, 8, 24, 63, 0, 0, 256, 0, 1024, 3072, 8064, 16383, 32767] (.leaf [0, 1, 2, 3, 4, 5, 6, 7, 8, 9, 10, 11, 12, 13, 14, 15]) [] [] 16 true (by kernel_rfl) ?_ | refine TwoP.mk ?_ ?_ | refine GoP.mk (by repeat (first | exact List.Sublist.slnil | refine List.Sublist.cons_cons _ ?_ | refine List.Sublist.cons _ ?_)) (by first | exact fun _ h => h | exact fun _ h => h.2 | exact fun _ h => ((allD_append _ _).1 h).2) ?_ | exact trivial | refine EntP.mk (Ents.ofSub (by repeat (first | exact List.Sublist.slnil | refine List.Sublist.cons_cons _ ?_ | refine List.Sublist.cons _ ?_)) (by first | exact fun _ h => h | exact fun _ _ => trivial | exact fun _ h => h.2 | exact fun _ h => h.2.2.2.2 | exact fun _ h => h.2.2 | exact fun _ h => h.2.2.2 | exact fun _ h => h.2.2.2.2.2 | exact fun _ h => h.2.2.2.2.2.2 | exact fun _ h => h.2.2.2.2.2.2.2 | exact fun _ h => h.2.2.2.2.2.2.2.2 | exact fun _ h => h.2.2.2.2.2.2.2.2.2 | exact fun _ h => h.2.2.2.2.2.2.2.2.2.2 | exact fun _ h => ((allD_append _ _).1 h).2)) ?_ | refine SideP.mk (by decide) ?_ | rw [hq] | rw [hm] | refine SideP.mk (by show _ ∧ _ ∧ _ ≤ (16 : Int); omega) ?_ | refine ArP.exact (by simp only [inR]; rw [hq]; omega) ?_ | refine SideP.mk (by rw [hm]; show _ ∧ _ ∧ _ ≤ (16 : Int); omega) ?_ | refine FinE.str ?_
    | fail
  show hexB y = (hexS.take (y.toNat / 16 + 1)).drop (y.toNat / 16) ++ (hexS.take (y.toNat % 16 + 1)).drop (y.toNat % 16)
  rw [slice_one (s := hexS) (by show _ < 16; omega), slice_one (s := hexS) (by show _ < 16; omega)]
  rfl

set_option maxHeartbeats 1000000 in
theorem refPath_ok (sp : Int) (nm : List UInt8) (hn : nm.length ≤ 1000000) : FnS Tryz.prog 17 [.agg [.i .i64 sp, .s nm]] [] [] (Is (.c (.s (pathT sp nm)))) := by
  have hfl := formatT_le sp nm
  have hf := refFormat_ok sp nm hn
  unfold pathT
  generalize formatT sp nm = s at *
  refine fn_of_J Tryz.tyOK 0 Tryz.func17 (by kernel_rfl) (c := Tryz.f17.body.getD .skip) (by kernel_rfl) Tryz.ntmps17 (rs := Tryz.f17.results.toList) rfl (by simp) (fun G => ?_)
  repeat' first
    | refine J_seq ?_ | refine J_region Tryz.tyOK ?_ | refine J_block ?_ | refine J_cond ?_ | refine J_ret ?_ | refine J_skip ?_ | refine J_exit ?_ | refine J_scope ?_
    | refine CondP.yes (by omega) ?_ | refine CondP.no (by omega) ?_ | refine CondP.mk (fun h => ?_) (fun h => ?_) | refine EqP.mk rfl ?_ | refine NewP.mk (fun ad => ?_) | refine ArP.exact (by simp only [inR]; omega) ?_ | refine SideP.mk (by first | omega | (dsimp only; omega) | (simp; omega)) ?_
    | refine CallP.is hf ?_
    | fail
  refine J_loop (α := Nat × List UInt8) (fun x => [(3, .c (.s s)), (4, .c (.s x.2)), (5, .c (.i .i64 x.1))]) (fun _ => []) (fun _ => []) 0 (fun x => x.1 ≤ s.length ∧ x.2 = wikiS ++ pathS (s.take x.1)) (fun x => s.length - x.1)
    (InFam.mk (0, wikiS) ⟨Nat.zero_le _, rfl⟩ (by repeat' first | exact SubE.nil | refine SubE.cons rfl ?_ ?_ | exact VEq.refl _ | refine VEq.int (by omega) | refine VEq.sl rfl (by first | rfl | omega | (rw [List.length_append]; rfl) | (simp; omega)) rfl) Ents.dropAll) (fun x hx => ?_)
  obtain ⟨i, o⟩ := x
  obtain ⟨hi, ho⟩ := hx
  dsimp only at hi ho ⊢
  by_cases hlt : i < s.length
  · have hst : wikiS ++ pathS (s.take (i + 1)) = o ++ pathB s[i] := by rw [pathS_take_succ hlt, ho, List.append_assoc]
    have hol : o.length ≤ 6 + 3 * 109 := by
      have := pathS_le (s.take i)
      rw [ho, List.length_append]
      simp only [List.length_take] at this
      have : wikiS.length = 6 := rfl
      omega
    have hgd : (s.getD (Int.toNat (i : Int)) 0) = s[i] := by simp [hlt]
    have hgd2 : s.getD i 0 = s[i] := by simp [hlt]
    have h1 := slice_one hlt
    rw [hgd2] at h1
    have hx := refIdx_byte punctS s[i]
    have hidx := index_ok punctS [s[i]] 0 (by decide) (Nat.le_refl 1) (by show 1 ≤ 1000000; decide) (Nat.zero_le _)
    rw [hx] at hidx
    generalize s[i] = y at *
    have h1' : (s.take (Int.toNat ((i : Int) + 1))).drop (Int.toNat (i : Int)) = [y] := h1
    have hy := y.toNat_lt
    have hgn : (s.getD (Int.toNat (i : Int)) 0).toNat = y.toNat := by rw [hgd]
    repeat' first
      | refine J_seq ?_ | refine J_region Tryz.tyOK ?_ | refine J_block ?_ | refine J_cond ?_ | refine J_ret ?_ | refine J_skip ?_ | refine J_exit ?_ | refine J_scope ?_
      | refine CondP.yes (by omega) ?_ | refine CondP.no (by omega) ?_ | refine CondP.mk (fun h => ?_) (fun h => ?_) | refine EqP.mk rfl ?_ | refine NewP.mk (fun ad => ?_) | refine ArP.exact (by simp only [inR]; omega) ?_ | refine SideP.mk (by first | omega | (dsimp only; omega) | (simp; omega)) ?_
      | rw [hgd] | rw [h1'] | refine CallP.is hidx ?_ | refine CallP.is (refHex_ok y) ?_ | refine SideP.mk (by rw [List.length_append]; show _ + 1 + 2 ≤ _; omega) ?_ | refine Round.mk (i + 1, o ++ [95]) (by dsimp only; omega) ⟨by dsimp only; omega, pathStep32 hst (by omega)⟩ (by repeat' first | exact SubE.nil | refine SubE.cons rfl ?_ ?_ | exact VEq.refl _ | refine VEq.int (by omega) | refine VEq.sl rfl (by first | rfl | omega | (rw [List.length_append]; rfl) | (simp; omega)) rfl) (Ents.refl _ _) | refine Round.mk (i + 1, o ++ [y]) (by dsimp only; omega) ⟨by dsimp only; omega, pathStepK hst (by omega) (by unfold keepP; omega)⟩ (by repeat' first | exact SubE.nil | refine SubE.cons rfl ?_ ?_ | exact VEq.refl _ | refine VEq.int (by omega) | refine VEq.sl rfl (by first | rfl | omega | (rw [List.length_append]; rfl) | (simp; omega)) rfl) (Ents.refl _ _) | refine Round.mk (i + 1, o ++ [37] ++ hexB y) (by dsimp only; omega) ⟨by dsimp only; omega, (by rw [List.append_assoc]; exact pathStepH hst (by omega) (by unfold keepP; omega))⟩ (by repeat' first | exact SubE.nil | refine SubE.cons rfl ?_ ?_ | exact VEq.refl _ | refine VEq.int (by omega) | refine VEq.sl rfl (by first | rfl | omega | (rw [List.length_append]; rfl) | (simp; omega)) rfl) (Ents.refl _ _)
      | fail
  · have hil : i = s.length := by omega
    subst hil
    rw [List.take_length] at ho
    subst ho
    repeat' first
      | refine J_seq ?_ | refine J_region Tryz.tyOK ?_ | refine J_block ?_ | refine J_cond ?_ | refine J_ret ?_ | refine J_skip ?_ | refine J_exit ?_ | refine J_scope ?_
      | refine CondP.yes (by omega) ?_ | refine CondP.no (by omega) ?_ | refine CondP.mk (fun h => ?_) (fun h => ?_) | refine EqP.mk rfl ?_ | refine NewP.mk (fun ad => ?_) | refine ArP.exact (by simp only [inR]; omega) ?_ | refine SideP.mk (by first | omega | (dsimp only; omega) | (simp; omega)) ?_
      | refine FinE.str rfl
      | fail

end Go.Proofs

namespace Go.Proofs
open Go Go.X
set_option maxRecDepth 100000

theorem known_para : pOpen ++ escT [97, 60, 98] ++ pEnd = [60, 112, 62, 97, 38, 108, 116, 59, 98, 60, 47, 112, 62, 10] := by decide
theorem known_path : pathT 0 [65, 32, 98] = [47, 119, 105, 107, 105, 47, 65, 95, 98] := by decide +kernel

theorem known_ok : FnS Tryz.prog 11 [] [] [gInt 0] (Is (.c (.b true))) := by
  have hp := paragraph_ok [97, 60, 98]
  have hpa := path_ok 0 [65, 32, 98] (by decide)
  rw [known_path] at hpa
  have he := escape_ok [38] (by decide)
  refine fn_of_J Tryz.tyOK 0 Tryz.func11 (by kernel_rfl) (c := Tryz.f11.body.getD .skip) (by kernel_rfl) Tryz.ntmps11 (rs := Tryz.f11.results.toList) rfl (by simp) (fun G => ?_)
  repeat' first
    | refine CondP.yes known_para ?_ | refine CondP.yes rfl ?_
    | refine J_seq ?_ | refine J_region Tryz.tyOK ?_ | refine J_block ?_ | refine J_cond ?_ | refine J_ret ?_ | refine J_skip ?_ | refine J_exit ?_ | refine J_scope ?_
    | refine CondP.yes (by omega) ?_ | refine CondP.no (by omega) ?_ | refine CondP.mk (fun h => ?_) (fun h => ?_) | refine EqP.mk rfl ?_ | refine NewP.mk (fun ad => ?_) | refine ArP.exact (by simp only [inR]; omega) ?_ | refine SideP.mk (by first | omega | (dsimp only; omega) | (simp; omega)) ?_
    | (refine CallP.mk [] _ _ _ hp (List.Perm.refl _) (fun _ _ => trivial) (fun v L' D' hq => ?_); obtain ⟨ba, ia, bc, ic, rfl, rfl, rfl⟩ := hq) | refine CallP.is (renderPara ba ia bc ic [97, 60, 98] (by decide)) ?_ (fun _ h => ⟨h.1, h.2.1, trivial⟩) | refine CallP.is hpa ?_ (fun _ h => ⟨h.2.2.1, trivial⟩) | refine CallP.is he ?_ | refine FinE.bool rfl
    | fail
  all_goals trace_state

theorem htmlEscapes_law (a b : List UInt8) : FnS Tryz.prog 5 [.c (.s a), .c (.s b)] [] [gInt 0] (Is (.c (.b true))) := by
  have hinj : escT a = escT b ↔ a = b := ⟨escT_inj, fun h => by rw [h]⟩
  have happ := escT_append a b
  have h1 := escT_le a
  have h2 := escT_le b
  by_cases hla : a.length ≤ 300
  · by_cases hlb : b.length ≤ 300
    · have ea := escape_ok a (by omega)
      have eb := escape_ok b (by omega)
      have eab := escape_ok (a ++ b) (by rw [List.length_append]; omega)
      rw [happ] at eab
      refine fn_of_J Tryz.tyOK 0 Tryz.func5 (by kernel_rfl) (c := Tryz.f5.body.getD .skip) (by kernel_rfl) Tryz.ntmps5 (rs := Tryz.f5.results.toList) rfl (by simp) (fun G => ?_)
      by_cases he : a = b
      · have he2 := hinj.2 he
        repeat' first
          | refine CondP.yes rfl ?_ | refine CondP.yes he2 ?_ | refine CondP.yes he ?_
          | refine J_seq ?_ | refine J_region Tryz.tyOK ?_ | refine J_block ?_ | refine J_cond ?_ | refine J_ret ?_ | refine J_skip ?_ | refine J_exit ?_ | refine J_scope ?_
          | refine CondP.yes (by omega) ?_ | refine CondP.no (by omega) ?_ | refine CondP.mk (fun h => ?_) (fun h => ?_) | refine EqP.mk rfl ?_ | refine NewP.mk (fun ad => ?_) | refine ArP.exact (by simp only [inR]; omega) ?_ | refine SideP.mk (by first | omega | (dsimp only; omega) | (simp; omega)) ?_
          | refine CallP.is ea ?_ | refine CallP.is eb ?_ | refine CallP.is eab ?_ | refine CallP.is known_ok ?_ | refine FinE.bool rfl
          | fail
        all_goals trace_state
      · have he2 := fun h => he (hinj.1 h)
        repeat' first
          | refine CondP.yes rfl ?_ | refine CondP.no he2 ?_ | refine CondP.no he ?_
          | refine J_seq ?_ | refine J_region Tryz.tyOK ?_ | refine J_block ?_ | refine J_cond ?_ | refine J_ret ?_ | refine J_skip ?_ | refine J_exit ?_ | refine J_scope ?_
          | refine CondP.yes (by omega) ?_ | refine CondP.no (by omega) ?_ | refine CondP.mk (fun h => ?_) (fun h => ?_) | refine EqP.mk rfl ?_ | refine NewP.mk (fun ad => ?_) | refine ArP.exact (by simp only [inR]; omega) ?_ | refine SideP.mk (by first | omega | (dsimp only; omega) | (simp; omega)) ?_
          | refine CallP.is ea ?_ | refine CallP.is eb ?_ | refine CallP.is eab ?_ | refine CallP.is known_ok ?_ | refine FinE.bool rfl
          | fail
        all_goals trace_state
    · refine fn_of_J Tryz.tyOK 0 Tryz.func5 (by kernel_rfl) (c := Tryz.f5.body.getD .skip) (by kernel_rfl) Tryz.ntmps5 (rs := Tryz.f5.results.toList) rfl (by simp) (fun G => ?_)
      repeat' first
        | refine J_seq ?_ | refine J_region Tryz.tyOK ?_ | refine J_block ?_ | refine J_cond ?_ | refine J_ret ?_ | refine J_skip ?_ | refine J_exit ?_ | refine J_scope ?_
        | refine CondP.yes (by omega) ?_ | refine CondP.no (by omega) ?_ | refine CondP.mk (fun h => ?_) (fun h => ?_) | refine EqP.mk rfl ?_ | refine NewP.mk (fun ad => ?_) | refine ArP.exact (by simp only [inR]; omega) ?_ | refine SideP.mk (by first | omega | (dsimp only; omega) | (simp; omega)) ?_
        | refine CallP.is known_ok ?_ | refine FinE.bool rfl
        | fail
  · refine fn_of_J Tryz.tyOK 0 Tryz.func5 (by kernel_rfl) (c := Tryz.f5.body.getD .skip) (by kernel_rfl) Tryz.ntmps5 (rs := Tryz.f5.results.toList) rfl (by simp) (fun G => ?_)
    repeat' first
      | refine J_seq ?_ | refine J_region Tryz.tyOK ?_ | refine J_block ?_ | refine J_cond ?_ | refine J_ret ?_ | refine J_skip ?_ | refine J_exit ?_ | refine J_scope ?_
      | refine CondP.yes (by omega) ?_ | refine CondP.no (by omega) ?_ | refine CondP.mk (fun h => ?_) (fun h => ?_) | refine EqP.mk rfl ?_ | refine NewP.mk (fun ad => ?_) | refine ArP.exact (by simp only [inR]; omega) ?_ | refine SideP.mk (by first | omega | (dsimp only; omega) | (simp; omega)) ?_
      | refine CallP.is known_ok ?_ | refine FinE.bool rfl
      | fail

end Go.Proofs

namespace Go.X
open Go.Lib

theorem cmpB_range : ∀ a b : List UInt8, compareBytes a b = -1 ∨ compareBytes a b = 0 ∨ compareBytes a b = 1
  | [], [] => by simp [compareBytes]
  | [], _ :: _ => by simp [compareBytes]
  | _ :: _, [] => by simp [compareBytes]
  | x :: a, y :: b => by
    have := cmpB_range a b
    simp only [compareBytes]
    split
    · simp
    · split
      · simp
      · exact this

theorem u8_lt {x y : UInt8} : x < y ↔ x.toNat < y.toNat := UInt8.lt_iff_toNat_lt
theorem u8_eq {x y : UInt8} : x = y ↔ x.toNat = y.toNat := ⟨fun h => by rw [h], UInt8.toNat_inj.1⟩

theorem less_cmp : ∀ a b : List UInt8, Op.bytesLess a b = true ↔ compareBytes a b = -1
  | [], [] => by simp [compareBytes, Op.bytesLess]
  | [], _ :: _ => by simp [compareBytes, Op.bytesLess]
  | _ :: _, [] => by simp [compareBytes, Op.bytesLess]
  | x :: a, y :: b => by
    have ih := less_cmp a b
    simp only [Op.bytesLess, compareBytes, Bool.or_eq_true, decide_eq_true_eq, Bool.and_eq_true, beq_iff_eq, ih, u8_lt, u8_eq]
    split
    · simp_all
    · split
      · constructor
        · rintro (h | ⟨h, _⟩) <;> omega
        · intro h; omega
      · constructor
        · rintro (h | ⟨_, h⟩)
          · omega
          · exact h
        · intro h; exact .inr ⟨by omega, h⟩

theorem cmpB_eq : ∀ a b : List UInt8, compareBytes a b = 0 ↔ a = b
  | [], [] => by simp [compareBytes]
  | [], _ :: _ => by simp [compareBytes]
  | _ :: _, [] => by simp [compareBytes]
  | x :: a, y :: b => by
    have ih := cmpB_eq a b
    simp only [compareBytes, List.cons.injEq, u8_lt, u8_eq]
    split
    · constructor
      · intro h; omega
      · rintro ⟨h, _⟩; omega
    · split
      · constructor
        · intro h; omega
        · rintro ⟨h, _⟩; omega
      · rw [ih]
        exact ⟨fun h => ⟨by omega, h⟩, fun h => h.2⟩

theorem cmpB_swap : ∀ a b : List UInt8, compareBytes a b = - compareBytes b a
  | [], [] => by simp [compareBytes]
  | [], _ :: _ => by simp [compareBytes]
  | _ :: _, [] => by simp [compareBytes]
  | x :: a, y :: b => by
    have ih := cmpB_swap a b
    simp only [compareBytes, u8_lt]
    split
    · rw [if_neg (by omega)]
    · split
      · rfl
      · exact ih

theorem cmpB_trans : ∀ a b c : List UInt8, compareBytes a b ≤ 0 → compareBytes b c ≤ 0 → compareBytes a c ≤ 0
  | [], [], _, _, h => h
  | [], _ :: _, [], _, h => by simp [compareBytes] at h
  | [], _ :: _, _ :: _, _, _ => by simp [compareBytes]
  | _ :: _, [], _, h, _ => by simp [compareBytes] at h
  | _ :: _, _ :: _, [], _, h => by simp [compareBytes] at h
  | x :: a, y :: b, z :: c, h1, h2 => by
    have ih := cmpB_trans a b c
    simp only [compareBytes, u8_lt] at *
    split at h1
    · split at h2
      · rw [if_pos (by omega)]; omega
      · split at h2
        · omega
        · rw [if_pos (by omega)]; omega
    · split at h1
      · omega
      · split at h2
        · rw [if_pos (by omega)]; omega
        · split at h2
          · omega
          · rw [if_neg (by omega), if_neg (by omega)]; exact ih h1 h2

theorem cmpI (a b : Int) : (a < b ∧ compareInt a b = -1) ∨ (a = b ∧ compareInt a b = 0) ∨ (b < a ∧ compareInt a b = 1) := by
  unfold compareInt
  rcases Int.lt_trichotomy a b with h | h | h
  · rw [if_pos h]; exact .inl ⟨h, rfl⟩
  · rw [if_neg (by omega), if_neg (by omega)]; exact .inr (.inl ⟨h, rfl⟩)
  · rw [if_neg (by omega), if_pos h]; exact .inr (.inr ⟨h, rfl⟩)

theorem compareT_range (a : Int) (x : List UInt8) (b : Int) (y : List UInt8) : compareT a x b y = -1 ∨ compareT a x b y = 0 ∨ compareT a x b y = 1 := by
  have h := cmpB_range x y
  unfold compareT
  rcases cmpI a b with ⟨_, h1⟩ | ⟨_, h1⟩ | ⟨_, h1⟩ <;> rw [h1] <;> simp <;> exact h
theorem compareT_eq (a : Int) (x : List UInt8) (b : Int) (y : List UInt8) : compareT a x b y = 0 ↔ a = b ∧ x = y := by
  have h := cmpB_eq x y
  unfold compareT
  rcases cmpI a b with ⟨h0, h1⟩ | ⟨h0, h1⟩ | ⟨h0, h1⟩ <;> rw [h1] <;> simp
  · omega
  · rw [h]; exact ⟨fun e => ⟨h0, e⟩, fun e => e.2⟩
  · omega
theorem compareT_swap (a : Int) (x : List UInt8) (b : Int) (y : List UInt8) : compareT a x b y = - compareT b y a x := by
  have h := cmpB_swap x y
  unfold compareT
  rcases cmpI a b with ⟨h0, h1⟩ | ⟨h0, h1⟩ | ⟨h0, h1⟩ <;> rcases cmpI b a with ⟨h2, h3⟩ | ⟨h2, h3⟩ | ⟨h2, h3⟩ <;> rw [h1, h3] <;> simp <;> first | omega | exact h
theorem compareT_trans {a : Int} {x : List UInt8} {b : Int} {y : List UInt8} {c : Int} {z : List UInt8} (h1 : compareT a x b y ≤ 0) (h2 : compareT b y c z ≤ 0) : compareT a x c z ≤ 0 := by
  have h := cmpB_trans x y z
  unfold compareT at *
  rcases cmpI a b with ⟨p0, p1⟩ | ⟨p0, p1⟩ | ⟨p0, p1⟩ <;> rcases cmpI b c with ⟨q0, q1⟩ | ⟨q0, q1⟩ | ⟨q0, q1⟩ <;> rcases cmpI a c with ⟨r0, r1⟩ | ⟨r0, r1⟩ | ⟨r0, r1⟩ <;> rw [p1] at h1 <;> rw [q1] at h2 <;> rw [r1] <;> simp at * <;> first | omega | exact h h1 h2 | skip

end Go.X

namespace Go.X
open Go Go.Lib

/-- A row of the table of words. -/
structure WR where
  w : List UInt8
  sp : Int
  nm : List UInt8
  n : Int
  deriving DecidableEq
/-- A hit. -/
structure HT where
  sp : Int
  nm : List UInt8
  n : Int
  deriving DecidableEq
def WR.cells (x : WR) : List C := [.s x.w, .i .i64 x.sp, .s x.nm, .i .i64 x.n]
def HT.cells (x : HT) : List C := [.i .i64 x.sp, .s x.nm, .i .i64 x.n]
def wrC (l : List WR) : List C := l.flatMap WR.cells
def htC (l : List HT) : List C := l.flatMap HT.cells
def cmpWR (x y : WR) : Int := if Lib.compareBytes x.w y.w ≠ 0 then Lib.compareBytes x.w y.w else if compareT x.sp x.nm y.sp y.nm ≠ 0 then compareT x.sp x.nm y.sp y.nm else Lib.compareInt x.n y.n
def cmpHT (x y : HT) : Int := if Lib.compareInt y.n x.n ≠ 0 then Lib.compareInt y.n x.n else compareT x.sp x.nm y.sp y.nm

end Go.X

namespace Go.X
open Go Go.Lib Go.Proofs

/-- A total order, told by whole numbers. -/
structure Cmp {α : Type} (cf : α → α → Int) : Prop where
  swap : ∀ x y, cf x y = - cf y x
  trans : ∀ x y z, cf x y ≤ 0 → cf y z ≤ 0 → cf x z ≤ 0

def lexC {α : Type} (cf cg : α → α → Int) (x y : α) : Int := if cf x y ≠ 0 then cf x y else cg x y
theorem Cmp.lex {α : Type} {cf cg : α → α → Int} (hf : Cmp cf) (hg : Cmp cg) : Cmp (lexC cf cg) := by
  refine ⟨fun x y => ?_, fun x y z h1 h2 => ?_⟩
  · have := hf.swap x y
    have := hg.swap x y
    unfold lexC
    split <;> split <;> omega
  · unfold lexC at *
    have a1 := hf.swap x y; have a2 := hf.swap y z; have a3 := hf.swap x z
    have t1 := hf.trans x y z; have t2 := hf.trans z y x; have t3 := hf.trans y z x; have t4 := hf.trans z x y; have t5 := hf.trans x z y; have t6 := hf.trans y x z
    have g1 := hg.trans x y z
    split at h1 <;> split at h2 <;> split <;> omega
theorem Cmp.on {α β : Type} {cf : α → α → Int} (h : Cmp cf) (f : β → α) : Cmp fun x y => cf (f x) (f y) := ⟨fun x y => h.swap _ _, fun x y z => h.trans _ _ _⟩
theorem Cmp.flip {α : Type} {cf : α → α → Int} (h : Cmp cf) : Cmp fun x y => cf y x := ⟨fun x y => h.swap _ _, fun x y z h1 h2 => h.trans z y x h2 h1⟩

theorem cmp_int : Cmp Lib.compareInt := by
  refine ⟨fun x y => ?_, fun x y z h1 h2 => ?_⟩
  · unfold Lib.compareInt; split <;> split <;> omega
  · unfold Lib.compareInt at *
    split at h1 <;> split at h2 <;> split <;> first | omega | (split at h1 <;> split at h2 <;> split <;> omega) | (split <;> omega) | (split at h1 <;> split <;> omega) | (split at h2 <;> split <;> omega)
theorem cmp_title : Cmp fun x y : Int × List UInt8 => compareT x.1 x.2 y.1 y.2 := ⟨fun x y => compareT_swap _ _ _ _, fun x y z => compareT_trans⟩

theorem Cmp.swo {α : Type} {cf : α → α → Int} (h : Cmp cf) : Sort.SWO (ltOf cf) where
  irrefl x := by have := h.swap x x; unfold ltOf; rw [decide_eq_false_iff_not]; omega
  trans x y z h1 h2 := by
    unfold ltOf at *
    rw [decide_eq_true_eq] at *
    have a1 := h.swap x z; have a2 := h.swap y z; have a3 := h.swap x y
    have t1 := h.trans x y z (by omega) (by omega)
    have t2 := h.trans z x y
    omega
  ntrans x y z h1 h2 := by
    unfold ltOf at *
    rw [decide_eq_false_iff_not] at *
    have a1 := h.swap x z; have a2 := h.swap y z; have a3 := h.swap x y
    have t1 := h.trans z y x (by omega) (by omega)
    omega

/-- A list in order. -/
def OrdL {α : Type} (cf : α → α → Int) (l : List α) : Prop := l.Pairwise fun x y => cf x y ≤ 0
theorem ordL_of {α : Type} {cf : α → α → Int} (h : Cmp cf) {l : List α} (hl : l.Pairwise fun x y => ltOf cf y x = false) : OrdL cf l := hl.imp fun {x y} hxy => by
  have := h.swap x y
  unfold ltOf at hxy
  rw [decide_eq_false_iff_not] at hxy
  omega
theorem Cmp.refl {α : Type} {cf : α → α → Int} (h : Cmp cf) (x : α) : cf x x = 0 := by have := h.swap x x; omega

/-- Two lists in order that are permutations are one. -/
theorem ordL_eq {α : Type} {cf : α → α → Int} (h : Cmp cf) (he : ∀ x y, cf x y = 0 → x = y) : ∀ {l l' : List α}, OrdL cf l → OrdL cf l' → l.Perm l' → l = l'
  | [], l', _, _, hp => by rw [List.nil_perm.1 hp]
  | x :: r, [], _, _, hp => by have := hp.length_eq; simp at this
  | x :: r, y :: s, h1, h2, hp => by
    have h1' := List.pairwise_cons.1 h1
    have h2' := List.pairwise_cons.1 h2
    have hxy : x = y := by
      have a := hp.subset (List.mem_cons_self (a := x) (l := r))
      have b := hp.symm.subset (List.mem_cons_self (a := y) (l := s))
      rcases List.mem_cons.1 a with a | a
      · exact a
      rcases List.mem_cons.1 b with b | b
      · exact b.symm
      have c1 := h2'.1 x a
      have c2 := h1'.1 y b
      have := h.swap x y
      exact he x y (by omega)
    subst hxy
    rw [ordL_eq h he h1'.2 h2'.2 (List.Perm.cons_inv hp)]

end Go.X

namespace Go.X
open Go Go.Lib

theorem resl0 (a : Option Addr) (c z : Nat) : resl a 0 c z = a := by
  unfold resl
  split
  · rfl
  · cases a <;> simp [Addr.add]
/-- A row of which only the first elements are wanted. -/
theorem Ents.rowPre {e z : Nat} {a : Option Addr} {n c k : Nat} {cs : List C} {L : List Chunk} {D : List Fact} (hk : k ≤ n) : Ents (.row e z a n c cs :: L) D (.row e z a k c (cs.take (k * z)) :: L) D := fun G w hs => by
  obtain ⟨m, h1, h2⟩ := hs
  have hok : (Chunk.row e z a k c (cs.take (k * z))).ok w := by
    refine ⟨fun x hx => h1.ok.1.1 x (List.mem_of_mem_take hx), ?_⟩
    rcases h1.ok.1.2 with ⟨h3, h4, h5, h6⟩ | ⟨g, hg, cur, lo, hi, h3, h4, h5, h6, h7, h8, h9⟩
    · exact .inl ⟨h3, by omega, h5, by rw [h6]; simp⟩
    · have hle : k * z ≤ n * z := Nat.mul_le_mul_right _ hk
      refine .inr ⟨g, hg, cur, lo, hi, h3, by omega, h5, h6, h7, by rw [List.length_take, h8]; omega, ?_⟩
      rw [List.map_take, ← h9, List.take_take, Nat.min_eq_left hle]
  exact ⟨m, ⟨h1.nd, ⟨hok, h1.ok.2⟩, h1.im, h1.d⟩, ⟨h2.size, h2.same, h2.own, h2.im, h2.new, h2.kept⟩⟩

/-- What the known facts imply. -/
theorem J_known {P : Program} {G : Ent} {N : Nat} {c0 : Code} {env : Env} {L : List Chunk} {D : List Fact} {nid : Nat} {K : Kt} {Q : Prop} (h : ∀ m, allD m D → Q) (k : Q → J P G N c0 env L D nid K) : J P G N c0 env L D nid K :=
  ⟨fun a w he hs => (k (by obtain ⟨m, h1, _⟩ := hs; exact h m h1.d)).run a w he hs⟩

theorem setC_take {o : Nat} {vs cs : List C} (h : o ≤ cs.length) : (setC o vs cs).take o = cs.take o := by
  unfold setC
  rw [List.append_assoc, List.take_append_of_le_length (by rw [List.length_take]; omega), List.take_take, Nat.min_self]

/-! ### Cells of lists -/

theorem flat_dropZ {α : Type} {F : α → List C} {z : Nat} (hF : ∀ x, (F x).length = z) : ∀ (l : List α) (k : Nat), (l.flatMap F).drop (k * z) = (l.drop k).flatMap F
  | [], k => by simp
  | x :: r, 0 => by simp
  | x :: r, k + 1 => by
    have h := flat_dropZ hF r k
    rw [List.flatMap_cons, List.drop_succ_cons, show (k + 1) * z = (F x).length + k * z by rw [hF, Nat.add_mul]; omega, ← List.drop_drop, List.drop_left, h]
theorem flat_takeZ {α : Type} {F : α → List C} {z : Nat} (hF : ∀ x, (F x).length = z) : ∀ (l : List α) (k : Nat), (l.flatMap F).take (k * z) = (l.take k).flatMap F
  | [], k => by simp
  | x :: r, 0 => by simp
  | x :: r, k + 1 => by
    have h := flat_takeZ hF r k
    rw [List.flatMap_cons, List.take_succ_cons, List.flatMap_cons, show (k + 1) * z = (F x).length + k * z by rw [hF, Nat.add_mul]; omega, List.take_append, List.take_of_length_le (by omega), Nat.add_sub_cancel_left, h]
/-- What the program leaves when it puts an element in, or takes one away. -/
theorem flat_shift {α : Type} {F : α → List C} {z : Nat} (hF : ∀ x, (F x).length = z) (l : List α) (x : α) (i : Nat) (hi : i < l.length) :
    setC (i * z) (F x) (setC ((i + 1) * z) ((l.drop i).flatMap F) (l.flatMap F)) = (l.take i ++ x :: l.drop i).flatMap F := by
  have h1 : (l.flatMap F).take (i * z) = (l.take i).flatMap F := flat_takeZ hF l i
  have h2 : (l.take i).flatMap F ++ (l.drop i).flatMap F = l.flatMap F := by rw [← List.flatMap_append, List.take_append_drop]
  have hl : (l.flatMap F).length = l.length * z := flat_len hF l
  have hl1 : ((l.take i).flatMap F).length = i * z := by rw [flat_len hF, List.length_take, Nat.min_eq_left (by omega)]
  have hl2 : ((l.drop i).flatMap F).length = (l.length - i) * z := by rw [flat_len hF, List.length_drop]
  have e0 : (i + 1) * z = i * z + z := by rw [Nat.add_mul, Nat.one_mul]
  have e1 : l.length * z = i * z + (l.length - i) * z := by rw [← Nat.add_mul]; congr 1; omega
  have e2 : z ≤ (l.length - i) * z := Nat.le_mul_of_pos_left _ (by omega)
  generalize hq : (l.drop i).flatMap F = q at *
  generalize hp : l.flatMap F = p at *
  unfold setC
  rw [List.flatMap_append, List.flatMap_cons, hq]
  have d1 : p.drop ((i + 1) * z + q.length) = [] := List.drop_eq_nil_of_le (by omega)
  have t1 : ((p.take ((i + 1) * z) ++ q ++ p.drop ((i + 1) * z + q.length)).take (i * z)) = p.take (i * z) := by
    rw [List.append_assoc, List.take_append_of_le_length (by rw [List.length_take]; omega), List.take_take, Nat.min_eq_left (by omega)]
  rw [t1, h1, d1, List.append_nil, hF, show i * z + z = (p.take ((i + 1) * z)).length by rw [List.length_take]; omega, List.drop_left, List.append_assoc]
theorem flat_grow {α : Type} {F : α → List C} {z : Nat} (hF : ∀ x, (F x).length = z) (l : List α) (x : α) (i : Nat) (hi : i < l.length) (zs : List C) (hz : zs.length = (l.length + 1 - i) * z) :
    setC ((i + 1) * z) ((l.drop i).flatMap F) (setC (i * z) (F x) ((l.take i).flatMap F ++ zs)) = (l.take i ++ x :: l.drop i).flatMap F := by
  have hl1 : ((l.take i).flatMap F).length = i * z := by rw [flat_len hF, List.length_take, Nat.min_eq_left (by omega)]
  have hl2 : ((l.drop i).flatMap F).length = (l.length - i) * z := by rw [flat_len hF, List.length_drop]
  have e0 : (i + 1) * z = i * z + z := by rw [Nat.add_mul, Nat.one_mul]
  have e1 : (l.length + 1 - i) * z = (l.length - i) * z + z := by rw [show l.length + 1 - i = (l.length - i) + 1 by omega, Nat.add_mul, Nat.one_mul]
  generalize hq : (l.drop i).flatMap F = q at *
  generalize hp : (l.take i).flatMap F = p at *
  have h1 : setC (i * z) (F x) (p ++ zs) = p ++ F x ++ zs.drop z := by
    unfold setC
    rw [← hl1, List.take_left, hF, List.drop_append, List.drop_of_length_le (by omega), List.nil_append, Nat.add_sub_cancel_left]
  rw [h1, List.flatMap_append, List.flatMap_cons, hp, hq]
  unfold setC
  have h2 : (i + 1) * z = (p ++ F x).length := by rw [List.length_append, hF]; omega
  have h3 : (p ++ F x ++ zs.drop z).drop ((i + 1) * z + q.length) = [] := List.drop_eq_nil_of_le (by rw [List.length_append, List.length_append, hF, List.length_drop]; omega)
  rw [h3, List.append_nil, h2, List.take_left, List.append_assoc]
theorem flat_cut {α : Type} {F : α → List C} {z : Nat} (hF : ∀ x, (F x).length = z) (l : List α) (i : Nat) (hi : i < l.length) (zs : List C) (o : Nat) (ho : (l.length - 1) * z ≤ o) :
    (setC o zs (setC (i * z) ((l.drop (i + 1)).flatMap F) (l.flatMap F))).take ((l.length - 1) * z) = (l.eraseIdx i).flatMap F := by
  have h1 : (l.flatMap F).take (i * z) = (l.take i).flatMap F := flat_takeZ hF l i
  have hl : (l.flatMap F).length = l.length * z := flat_len hF l
  have hl1 : ((l.take i).flatMap F).length = i * z := by rw [flat_len hF, List.length_take, Nat.min_eq_left (by omega)]
  have hl2 : ((l.drop (i + 1)).flatMap F).length = (l.length - (i + 1)) * z := by rw [flat_len hF, List.length_drop]
  have e1 : (l.length - 1) * z = i * z + (l.length - (i + 1)) * z := by rw [← Nat.add_mul]; congr 1; omega
  have e2 : (l.length - 1) * z ≤ l.length * z := Nat.mul_le_mul_right _ (by omega)
  have e3 : ((l.take i).flatMap F ++ (l.drop (i + 1)).flatMap F).length = (l.length - 1) * z := by rw [List.length_append]; omega
  rw [List.eraseIdx_eq_take_drop_succ, List.flatMap_append]
  have key : ∀ q : List C, q.length = l.length * z → q.take ((l.length - 1) * z) = (l.take i).flatMap F ++ (l.drop (i + 1)).flatMap F → (setC o zs q).take ((l.length - 1) * z) = (l.take i).flatMap F ++ (l.drop (i + 1)).flatMap F := fun q hq h => by
    unfold setC
    by_cases hoq : o ≤ q.length
    · rw [List.append_assoc, List.take_append_of_le_length (by rw [List.length_take]; omega), List.take_take, Nat.min_eq_left ho]
      exact h
    · rw [List.append_assoc, List.take_append_of_le_length (by rw [List.length_take]; omega), List.take_take, Nat.min_eq_left ho]
      exact h
  refine key _ ?_ ?_
  · rw [setC_length (by omega)]; exact hl
  · unfold setC
    rw [h1]
    exact List.take_left' e3

theorem flat_dropL {α : Type} {F : α → List C} {z : Nat} (hz : ∀ x, (F x).length = z) (l : List α) (k : Nat) (h : k ≤ l.length) : (l.flatMap F).drop (k * z) = (l.drop k).flatMap F := by
  have h2 : l.flatMap F = (l.take k).flatMap F ++ (l.drop k).flatMap F := by rw [← List.flatMap_append, List.take_append_drop]
  rw [h2]
  refine List.drop_left' ?_
  rw [flat_len hz, List.length_take, Nat.min_eq_left h]
theorem rpreF {α : Type} {F : α → List C} {z : Nat} (hz : ∀ x, (F x).length = z) (m : List α) {e : Nat} {a : Option Addr} {n c k : Nat} {L : List Chunk} {D : List Fact} (hm : Chunk.row e z a n c (m.flatMap F) ∈ L) (hn : m.length = n) (hk : k ≤ n) : Reads L D e z (resl a 0 c z) k ((m.take k).flatMap F) := by
  refine .sub a 0 n c (m.flatMap F) hm ?_ (by omega) ?_
  · rw [resl0]; cases a <;> simp [Addr.add]
  · rw [Nat.zero_mul, List.drop_zero, flat_take hz m k (by omega)]
theorem rsufF {α : Type} {F : α → List C} {z : Nat} (hz : ∀ x, (F x).length = z) (m : List α) {e : Nat} {a : Option Addr} {n c k : Nat} {L : List Chunk} {D : List Fact} (hm : Chunk.row e z a n c (m.flatMap F) ∈ L) (hn : m.length = n) (hk : k ≤ n) (hc : n ≤ c) : Reads L D e z (resl a k c z) (n - k) ((m.drop k).flatMap F) := by
  by_cases h : k < n
  · refine .sub a k n c (m.flatMap F) hm ?_ (by omega) ?_
    · exact if_neg (by omega)
    · rw [flat_dropL hz m k (by omega), List.take_of_length_le]
      rw [flat_len hz, List.length_drop]; exact Nat.le_of_eq (by rw [hn])
  · have h0 : m.drop k = [] := List.drop_eq_nil_of_le (by omega)
    rw [h0]
    exact .inr fun _ _ => ⟨fun x hx => (by cases hx), .inl ⟨by omega, rfl⟩⟩

end Go.X

namespace Go.X
open Go Go.Lib Go.Proofs

/-- A list in strict order. -/
def StrL {α : Type} (cf : α → α → Int) (l : List α) : Prop := l.Pairwise fun x y => cf x y < 0
theorem strL_eq {α : Type} {cf : α → α → Int} (h : Cmp cf) : ∀ {l l' : List α}, StrL cf l → StrL cf l' → (∀ x, x ∈ l ↔ x ∈ l') → l = l'
  | [], [], _, _, _ => rfl
  | [], y :: s, _, _, hm => by have := (hm y).2 (List.mem_cons_self ..); cases this
  | x :: r, [], _, _, hm => by have := (hm x).1 (List.mem_cons_self ..); cases this
  | x :: r, y :: s, h1, h2, hm => by
    have h1' := List.pairwise_cons.1 h1
    have h2' := List.pairwise_cons.1 h2
    have hxy : x = y := by
      rcases List.mem_cons.1 ((hm x).1 (List.mem_cons_self ..)) with a | a
      · exact a
      rcases List.mem_cons.1 ((hm y).2 (List.mem_cons_self ..)) with b | b
      · exact b.symm
      have c1 := h2'.1 x a
      have c2 := h1'.1 y b
      have := h.swap x y
      omega
    subst hxy
    rw [strL_eq h h1'.2 h2'.2 (fun z => ⟨fun hz => ?_, fun hz => ?_⟩)]
    · rcases List.mem_cons.1 ((hm z).1 (List.mem_cons_of_mem _ hz)) with e | e
      · subst e; have := h1'.1 z hz; have := h.refl z; omega
      · exact e
    · rcases List.mem_cons.1 ((hm z).2 (List.mem_cons_of_mem _ hz)) with e | e
      · subst e; have := h2'.1 z hz; have := h.refl z; omega
      · exact e
theorem Cmp.lt_trans {α : Type} {cf : α → α → Int} (h : Cmp cf) {x y z : α} (h1 : cf x y < 0) (h2 : cf y z ≤ 0) : cf x z < 0 := by
  have a1 := h.swap x z; have a2 := h.swap y z; have a3 := h.swap x y
  have t1 := h.trans x y z (by omega) (by omega)
  have t2 := h.trans y z x
  omega

/-- A thing put into a list in order. -/
def addG {α : Type} [DecidableEq α] (cf : α → α → Int) : List α → α → List α
  | [], r => [r]
  | x :: t, r => if cf x r < 0 then x :: addG cf t r else if x = r then x :: t else r :: x :: t
section
variable {α : Type} [DecidableEq α] {cf : α → α → Int}
theorem addG_len (l : List α) (r : α) : (addG cf l r).length ≤ l.length + 1 := by
  induction l with
  | nil => exact Nat.le_refl _
  | cons x t ih =>
    simp only [addG]
    split
    · simp; omega
    · split <;> simp
theorem addG_ge (l : List α) (r : α) : l.length ≤ (addG cf l r).length := by
  induction l with
  | nil => exact Nat.zero_le _
  | cons x t ih =>
    simp only [addG]
    split
    · simp; omega
    · split <;> simp
theorem addG_mem (l : List α) (r z : α) : z ∈ addG cf l r ↔ z ∈ l ∨ z = r := by
  induction l with
  | nil => simp [addG]
  | cons x t ih =>
    simp only [addG]
    split
    · simp [ih, or_assoc]
    · split
      · rename_i h; subst h; simp
        intro h; exact .inl h
      · simp [or_comm, or_assoc, or_left_comm]
theorem addG_str (hc : Cmp cf) (he : ∀ x y, cf x y = 0 → x = y) (l : List α) (r : α) (hl : StrL cf l) : StrL cf (addG cf l r) := by
  induction l with
  | nil => exact List.pairwise_cons.2 ⟨fun _ h => (by cases h), List.Pairwise.nil⟩
  | cons x t ih =>
    have hl' := List.pairwise_cons.1 hl
    simp only [addG]
    split
    · rename_i h
      refine List.pairwise_cons.2 ⟨fun z hz => ?_, ih hl'.2⟩
      rcases (addG_mem t r z).1 hz with hz | hz
      · exact hl'.1 z hz
      · rw [hz]; exact h
    · rename_i h
      split
      · exact hl
      · rename_i hne
        have hs := hc.swap x r
        have hrx : cf r x < 0 := by
          have : cf r x ≠ 0 := fun e => hne (he r x e).symm
          omega
        refine List.pairwise_cons.2 ⟨fun z hz => ?_, hl⟩
        rcases List.mem_cons.1 hz with hz | hz
        · rw [hz]; exact hrx
        · exact hc.lt_trans hrx (by have := hl'.1 z hz; omega)
theorem foldAddG (hc : Cmp cf) (he : ∀ x y, cf x y = 0 → x = y) (l : List α) : ∀ m : List α, StrL cf m → StrL cf (l.foldl (addG cf) m) ∧ ∀ z, z ∈ l.foldl (addG cf) m ↔ z ∈ m ∨ z ∈ l := by
  induction l with
  | nil => intro m hm; exact ⟨hm, fun z => by simp⟩
  | cons x t ih =>
    intro m hm
    obtain ⟨h1, h2⟩ := ih (addG cf m x) (addG_str hc he m x hm)
    refine ⟨h1, fun z => ?_⟩
    rw [List.foldl_cons, h2, addG_mem, List.mem_cons, or_assoc]
theorem addG_at {l : List α} {r : α} {i : Nat} (h : i < l.length) : addG cf (l.drop i) r = if cf l[i] r < 0 then l[i] :: addG cf (l.drop (i + 1)) r else if l[i] = r then l.drop i else r :: l.drop i := by
  rw [List.drop_eq_getElem_cons h, addG]
theorem StrL.nodup (hc : Cmp cf) {l : List α} (h : StrL cf l) : l.Nodup := h.imp fun {x y} hxy e => by
  subst e; have := hc.refl x; omega
theorem foldAddG_len (l : List α) : ∀ m : List α, (l.foldl (addG cf) m).length ≤ m.length + l.length := by
  induction l with
  | nil => intro m; simp
  | cons x t ih =>
    intro m
    have := ih (addG cf m x)
    have := addG_len (cf := cf) m x
    rw [List.foldl_cons, List.length_cons]; omega
end

/-- A title in a list. -/
abbrev TT := Int × List UInt8
def cmpTT (x y : TT) : Int := compareT x.1 x.2 y.1 y.2
theorem cmp_TT : Cmp cmpTT := cmp_title
theorem cmpTT_eq (x y : TT) (h : cmpTT x y = 0) : x = y := by
  obtain ⟨h1, h2⟩ := (compareT_eq _ _ _ _).1 h
  exact Prod.ext h1 h2

def ttC (l : List (Int × List UInt8)) : List C := l.flatMap fun t => [.i .i64 t.1, .s t.2]
def ttF2 (t : Int × List UInt8) : List C := [.i .i64 t.1, .s t.2]
theorem ttC_len (l : List TT) : (ttC l).length = l.length * 2 := flat_len (F := ttF2) (z := 2) (fun _ => rfl) l
theorem ttl_get {l : List TT} {i : Nat} (h : i < l.length) : ((ttC l).drop (i * 2 + 0)).take 2 = [.i .i64 l[i].1, .s l[i].2] := by
  rw [show ttC l = l.flatMap ttF2 from rfl, flat_get (F := ttF2) (z := 2) (fun _ => rfl) h (by omega)]; rfl
theorem ttpre {e : Nat} {a : Option Addr} {n c k : Nat} {m : List TT} {L : List Chunk} {D : List Fact} (hm : Chunk.row e 2 a n c (ttC m) ∈ L) (hn : m.length = n) (hk : k ≤ n) : Reads L D e 2 (resl a 0 c 2) k (ttC (m.take k)) := rpreF (F := ttF2) (fun _ => rfl) m hm hn hk
theorem ttsuf {e : Nat} {a : Option Addr} {n c k : Nat} {m : List TT} {L : List Chunk} {D : List Fact} (hm : Chunk.row e 2 a n c (ttC m) ∈ L) (hn : m.length = n) (hk : k ≤ n) (hc : n ≤ c) : Reads L D e 2 (resl a k c 2) (n - k) (ttC (m.drop k)) := rsufF (F := ttF2) (fun _ => rfl) m hm hn hk hc
theorem tt_ext {x y : TT} (h : x.1 = y.1 ∧ x.2 = y.2 ∧ True) : x = y := Prod.ext h.1 h.2.1
theorem tt_ne {x y : TT} (h : ¬ (x.1 = y.1 ∧ x.2 = y.2 ∧ True)) : ¬ x = y := fun e => h (by subst e; exact ⟨rfl, rfl, trivial⟩)

theorem foldAddG_str {α : Type} [DecidableEq α] {cf : α → α → Int} (hc : Cmp cf) (he : ∀ x y, cf x y = 0 → x = y) : ∀ (l m : List α), StrL cf m → StrL cf (l.foldl (addG cf) m) ∧ ∀ z, z ∈ l.foldl (addG cf) m ↔ z ∈ m ∨ z ∈ l
  | [], m, h => ⟨h, fun z => by simp⟩
  | x :: r, m, h => by
    have h1 := foldAddG_str hc he r (addG cf m x) (addG_str hc he m x h)
    refine ⟨h1.1, fun z => ?_⟩
    rw [List.foldl_cons, h1.2, addG_mem, List.mem_cons, or_assoc]

end Go.X

namespace Go.X
open Go Go.Sort Go.Proofs

theorem flat_at {α : Type} {F : α → List C} {k : Nat} (hF : ∀ x, (F x).length = k) : ∀ {d : List α} {t : Nat} (_ : t < d.length * k), ∃ (h : t / k < d.length) (h2 : t % k < (F (d[t / k]'h)).length), (d.flatMap F)[t]? = some ((F (d[t / k]'h))[t % k]'h2)
  | [], t, h => by simp at h
  | x :: r, t, h => by
    have hk : 0 < k := by rcases Nat.eq_zero_or_pos k with h0 | h0; · subst h0; simp at h
                          · exact h0
    by_cases ht : t < k
    · have h1 : t / k = 0 := Nat.div_eq_of_lt ht
      have h2 : t % k = t := Nat.mod_eq_of_lt ht
      refine ⟨by rw [h1]; simp, by simp only [h1, h2, List.getElem_cons_zero, hF]; exact ht, ?_⟩
      simp only [h1, h2, List.getElem_cons_zero]
      rw [List.flatMap_cons, List.getElem?_append_left (by rw [hF]; exact ht), List.getElem?_eq_getElem (by rw [hF]; exact ht)]
    · obtain ⟨u, rfl⟩ : ∃ u, t = u + k := ⟨t - k, by omega⟩
      have h1 : (u + k) / k = u / k + 1 := Nat.add_div_right u hk
      have h2 : (u + k) % k = u % k := Nat.add_mod_right u k
      have hu : u < r.length * k := by simp only [List.length_cons, Nat.add_mul, Nat.one_mul] at h; omega
      obtain ⟨h3, h4, h5⟩ := flat_at hF (d := r) (t := u) hu
      refine ⟨by rw [h1]; simpa using h3, by simp only [h1, h2, List.getElem_cons_succ]; exact h4, ?_⟩
      simp only [h1, h2, List.getElem_cons_succ]
      rw [List.flatMap_cons, List.getElem?_append_right (by rw [hF]; omega), hF, Nat.add_sub_cancel, h5]

/-- The kit's encoding of an element. -/
abbrev encF {α : Type} (F : α → List C) : α → List Value := fun x => (F x).map C.enc

theorem flatK_list {α : Type} [Inhabited α] {F : α → List C} {k : Nat} (hF : ∀ x, (F x).length = k) (d : List α) : (flatK (encF F) k d.toArray).toList = (d.flatMap F).map C.enc := by
  have hlen : (d.flatMap F).length = d.length * k := flat_len hF d
  apply List.ext_getElem?
  intro t
  by_cases ht : t < d.length * k
  · obtain ⟨h1, h2, h3⟩ := flat_at hF ht
    rw [List.getElem?_map, h3]
    have h4 := get_flatK (encF F) k d.toArray t (by simpa using ht)
    rw [getElem!_pos _ t (by simpa using ht)] at h4
    rw [Array.getElem?_toList, Array.getElem?_eq_getElem (by simpa using ht), h4]
    rw [getElem!_pos d.toArray (t / k) (by simpa using h1)]
    simp only [List.getElem_toArray, Option.map_some]
    rw [getElem!_pos _ (t % k) (by simpa using h2)]
    simp
  · rw [List.getElem?_eq_none (by simp; omega), List.getElem?_eq_none (by rw [List.length_map, hlen]; omega)]

theorem holdsK_of_row {α : Type} [Inhabited α] {F : α → List C} {k : Nat} (hF : ∀ x, (F x).length = k) {w : World} {g ety c : Nat} {d : List α} (h : RowIn w.heap[g]? ety k d.length c (d.flatMap F)) : HoldsK (encF F) k w g 0 d.toArray := by
  obtain ⟨cur, lo, hi, ho, hn, hc, hs, hfr, hl, ht⟩ := h
  intro j hj
  rw [size_flatK] at hj
  have hj' : j < d.length * k := by simpa using hj
  have hcur : j < cur.size := by
    have := Nat.mul_le_mul_right k hn
    omega
  have h1 : cur[j]? = some ((flatK (encF F) k d.toArray)[j]!) := by
    have h2 : (cur.toList.take (d.length * k))[j]? = some (cur[j]'hcur) := by
      rw [List.getElem?_take, if_pos hj', Array.getElem?_toList, Array.getElem?_eq_getElem hcur]
    rw [ht, ← flatK_list hF d, Array.getElem?_toList, Array.getElem?_eq_getElem (by simpa using hj)] at h2
    rw [Array.getElem?_eq_getElem hcur, getElem!_pos _ j (by simpa using hj)]
    exact h2.symm
  refine ⟨?_, ?_⟩
  · simp only [World.cell?, ho, Nat.zero_add]
    rw [h1]; rfl
  · simp only [World.frozen?, ho, Nat.zero_add, Bool.and_eq_false_iff, decide_eq_false_iff_not]
    omega

theorem row_sorted {α : Type} [Inhabited α] {F : α → List C} {k : Nat} (hF : ∀ x, (F x).length = k) {w : World} {g ety c m : Nat} {d d' : List α} {os : Array Obj} (hl : d'.length = d.length) (h : RowIn w.heap[g]? ety k d.length c (d.flatMap F)) (hg : g < w.heap.size) :
    RowIn (sortWorldK (encF F) k w g 0 m d'.toArray os).heap[g]? ety k d'.length c (d'.flatMap F) := by
  obtain ⟨cur, lo, hi, ho, hn, hc, hs, hfr, hcl, ht⟩ := h
  have hsz : g < (putRowK (encF F) k (Sort.ahead w m) g 0 d'.toArray).heap.size := by
    show g < (mapBlock (Sort.ahead w m) g _).heap.size
    simp only [mapBlock, Array.size_modify]
    exact hg
  have hget : (sortWorldK (encF F) k w g 0 m d'.toArray os).heap[g]? = some (.cells (putCells id 0 (flatK (encF F) k d'.toArray) cur) ety (lo, hi)) := by
    unfold sortWorldK
    rw [heap_grow_old _ _ hsz]
    show (mapBlock (Sort.ahead w m) g _).heap[g]? = _
    simp only [mapBlock, Array.getElem?_modify, if_true]
    rw [show (Sort.ahead w m).heap[g]? = w.heap[g]? from rfl, ho]
    rfl
  rw [hget]
  refine ⟨_, lo, hi, rfl, by omega, hc, by simp [putCells, hs], by simpa [putCells] using hfr, by rw [flat_len hF], ?_⟩
  rw [← flatK_list hF d']
  have hle := Nat.mul_le_mul_right k hn
  apply List.ext_getElem?
  intro t
  by_cases h1 : t < d'.length * k
  · rw [List.getElem?_take, if_pos h1, Array.getElem?_toList, Array.getElem?_toList]
    have h2 : t < cur.size := by rw [hl] at h1; omega
    simp only [putCells, Array.getElem?_mapIdx, Array.getElem?_eq_getElem h2, Option.map_some, size_flatK, List.size_toArray, Nat.zero_le, true_and, Nat.zero_add, h1, if_true, Nat.sub_zero, id]
    rw [getElem!_pos _ t (by simpa using h1), Array.getElem?_eq_getElem (by simpa using h1)]
  · rw [List.getElem?_take, if_neg h1, List.getElem?_eq_none (by simp; omega)]

theorem sorted_other {α : Type} [Inhabited α] {enc : α → List Value} {k : Nat} {w : World} {g m b : Nat} {d : Array α} {os : Array Obj} (hb : b < w.heap.size) (hn : b ≠ g) : (sortWorldK enc k w g 0 m d os).heap[b]? = w.heap[b]? := by
  have hsz : b < (putRowK enc k (Sort.ahead w m) g 0 d).heap.size := by
    show b < (mapBlock (Sort.ahead w m) g _).heap.size
    simp only [mapBlock, Array.size_modify]
    exact hb
  unfold sortWorldK
  rw [heap_grow_old _ _ hsz]
  show (mapBlock (Sort.ahead w m) g _).heap[b]? = _
  simp only [mapBlock, Array.getElem?_modify]
  rw [if_neg (fun h => hn h.symm)]
  rfl

theorem perm_whole {α : Type} [Inhabited α] {d d' : Array α} (h : PermIn 0 d.size d d') : d'.toList.Perm d.toList := by
  obtain ⟨h1, _, h3⟩ := h
  rw [show d.size = d'.size from h1.symm] at h3
  rw [Array.extract_size] at h3
  rwa [h1, Array.extract_size] at h3

theorem pair_sorted {α : Type} [Inhabited α] {lt : α → α → Bool} {d : Array α} (h : SortedIn lt 0 d.size d) : d.toList.Pairwise fun x y => lt y x = false := by
  rw [List.pairwise_iff_getElem]
  intro i j hi hj hij
  have := h i j (Nat.zero_le _) hij (by simpa using hj)
  rw [getElem!_pos d j (by simpa using hj), getElem!_pos d i (by simpa using hi)] at this
  simpa using this

/-- slices.SortFunc. -/
theorem fn_sort {P : Program} {α : Type} [Inhabited α] {fS g : FuncId} {ety k : Nat} {F : α → List C} {lt : α → α → Bool} (hF : ∀ x, (F x).length = k) (hF1 : ∀ x, oneAll (F x))
    (hn : FnS P fS [.c (.sl none 0 0), .c (.fn g [])] [] [] (fun v L D => v = .t0 ∧ L = [] ∧ D = []))
    (hsort : ∀ (blk cap : Nat) (d : Array α) (w : World), HoldsK (encF F) k w blk 0 d → blk < w.heap.size → d.size < 4611686018427387904 → Calls P fS #[.slice (some ⟨blk, 0, none⟩) d.size cap, .func (.func g) #[] #[]] w fun e w' => e = .returned (.tuple #[]) ∧ ∃ d' n os, PermIn 0 d.size d d' ∧ SortedIn lt 0 d.size d' ∧ w' = sortWorldK (encF F) k w blk 0 n d' os)
    (a : Option Addr) (c : Nat) (l : List α) (hl : l.length < 4611686018427387904) :
    FnS P fS [.c (.sl a l.length c), .c (.fn g [])] [.row ety k a l.length c (l.flatMap F)] [] (fun v L D => ∃ l' : List α, l'.Perm l ∧ l'.Pairwise (fun x y => lt y x = false) ∧ v = .t0 ∧ L = [.row ety k a l.length c (l'.flatMap F)] ∧ D = []) := by
  refine ⟨hn.en, fun w m hh => ?_⟩
  rcases hh.ok.1.2 with ⟨ha, hn0, hc0, hcs⟩ | ⟨b, ha, hrow⟩
  · subst ha hc0
    have hl0 : l = [] := List.eq_nil_of_length_eq_zero hn0
    subst hl0
    refine (hn.run w m ⟨by simp [fps], trivial, fun b o hb => ⟨(hh.im b o hb).1, by simp [fps]⟩, trivial⟩).mono ?_
    rintro e w' ⟨v, L', D', m', he, ⟨rfl, rfl, rfl⟩, h1, h2⟩
    refine ⟨.t0, _, [], m', he, ⟨[], .refl _, .nil, rfl, rfl, rfl⟩, ⟨by simp [fps, Chunk.fp], ⟨⟨fun x hx => by simp at hx, .inl ⟨rfl, rfl, rfl, rfl⟩⟩, trivial⟩, fun b o hb => ⟨(h1.im b o hb).1, by simp [fps, Chunk.fp]⟩, trivial⟩, ⟨h2.size, fun b hb hx => h2.same b hb (by simp [fps]), fun b hb => by simp [fps, Chunk.fp] at hb, h2.im, fun b o ho => ?_, h2.kept⟩⟩
    rcases h2.new b o ho with h3 | h3 | h3
    · exact .inl h3
    · simp [fps] at h3
    · exact .inr (.inr h3)
  · subst ha
    have hb : b < w.heap.size := mem_fps_lt hh.ok b (by simp [fps, Chunk.fp])
    refine (hsort b c l.toArray w (holdsK_of_row hF hrow) hb (by simpa using hl)).mono ?_
    rintro e w' ⟨he, d', n, os, hp, hs, rfl⟩
    have hlen : d'.toList.length = l.length := by have := hp.1; simpa using this
    have hperm := perm_whole hp
    have hsd : SortedIn lt 0 d'.size d' := by rw [hp.1]; exact hs
    have hrow' := row_sorted hF (m := n) (d' := d'.toList) (os := os) hlen hrow hb
    rw [show d'.toList.toArray = d' from by simp, hlen] at hrow'
    have hsize : w.heap.size ≤ (sortWorldK (encF F) k w b 0 n d' os).heap.size := by
      unfold sortWorldK
      rw [size_grow]
      show w.heap.size ≤ (mapBlock (Sort.ahead w n) b _).heap.size + _
      simp only [mapBlock, Array.size_modify]
      exact Nat.le_add_right _ _
    refine ⟨.t0, _, [], m, by rw [he]; rfl, ⟨d'.toList, by simpa using hperm, pair_sorted hsd, rfl, rfl, rfl⟩, ⟨by simp [fps, Chunk.fp], ⟨⟨fun x hx => ?_, .inr ⟨b, rfl, hrow'⟩⟩, trivial⟩, fun q o hq => ?_, trivial⟩, ⟨hsize, fun q hq hx => ?_, fun q hq => .inl hq, fun _ _ h => h, fun _ _ h => .inl h, ⟨rfl, rfl, hsize, fun e => absurd e (by decide), fun e => absurd e (by decide)⟩⟩⟩
    · obtain ⟨y, _, hy⟩ := List.mem_flatMap.1 hx
      exact hF1 y x hy
    · obtain ⟨h1, h2⟩ := hh.im q o hq
      have hne : q ≠ b := fun h => h2 (by simp [fps, Chunk.fp, h])
      refine ⟨?_, by simpa [fps, Chunk.fp] using h2⟩
      rw [sorted_other (Array.getElem?_eq_some_iff.1 h1).1 hne]; exact h1
    · exact sorted_other hq (fun h => hx (by simp [fps, Chunk.fp, h]))

end Go.X

namespace Go.Proofs
open Go.Shelf
def Tryz.sortF_Title_ren : Go.Shelf.Ren := ⟨fun | 6 => 72 | 15 => 106 | 14 => 105 | 28 => 144 | 29 => 145 | 20 => 136 | 21 => 137 | 22 => 138 | 23 => 139 | 24 => 140 | 25 => 141 | 26 => 142 | 27 => 143 | 46 => 168 | 47 => 169 | 48 => 170 | 49 => 171 | 50 => 172 | 57 => 189 | n => n, fun | 22 => 33 | 24 => 23 | 25 => 111 | 3 => 3 | 39 => 74 | 0 => 0 | 53 => 118 | 55 => 184 | 4 => 4 | 46 => 177 | 45 => 176 | 50 => 103 | 5 => 5 | 9 => 9 | 66 => 213 | 70 => 217 | 76 => 241 | 77 => 107 | n => n, fun | n => n⟩
theorem Tryz.sortF_Title : Go.Proofs.SlLaysF0.n6 Tryz.prog Tryz.sortF_Title_ren := {
  mixed := by kernel_rfl
  f6 := ⟨Tryz.f72.name, by decide, Tryz.func72.trans (congrArg some (by kernel_rfl))⟩
  f14 := ⟨Tryz.f105.name, by decide, Tryz.func105.trans (congrArg some (by kernel_rfl))⟩
  f15 := Tryz.func106.trans (congrArg some (by kernel_rfl))
  f20 := ⟨Tryz.f136.name, by decide, Tryz.func136.trans (congrArg some (by kernel_rfl))⟩
  f21 := ⟨Tryz.f137.name, by decide, Tryz.func137.trans (congrArg some (by kernel_rfl))⟩
  f22 := ⟨Tryz.f138.name, by decide, Tryz.func138.trans (congrArg some (by kernel_rfl))⟩
  f23 := ⟨Tryz.f139.name, by decide, Tryz.func139.trans (congrArg some (by kernel_rfl))⟩
  f24 := ⟨Tryz.f140.name, by decide, Tryz.func140.trans (congrArg some (by kernel_rfl))⟩
  f25 := ⟨Tryz.f141.name, by decide, Tryz.func141.trans (congrArg some (by kernel_rfl))⟩
  f26 := ⟨Tryz.f142.name, by decide, Tryz.func142.trans (congrArg some (by kernel_rfl))⟩
  f27 := ⟨Tryz.f143.name, by decide, Tryz.func143.trans (congrArg some (by kernel_rfl))⟩
  f28 := Tryz.func144.trans (congrArg some (by kernel_rfl))
  f29 := Tryz.func145.trans (congrArg some (by kernel_rfl))
  f46 := ⟨Tryz.f168.name, by decide, Tryz.func168.trans (congrArg some (by kernel_rfl))⟩
  f47 := Tryz.func169.trans (congrArg some (by kernel_rfl))
  f48 := Tryz.func170.trans (congrArg some (by kernel_rfl))
  f49 := ⟨Tryz.f171.name, by decide, Tryz.func171.trans (congrArg some (by kernel_rfl))⟩
  f50 := ⟨Tryz.f172.name, by decide, Tryz.func172.trans (congrArg some (by kernel_rfl))⟩
  f57 := ⟨Tryz.f189.name, by decide, Tryz.func189.trans (congrArg some (by kernel_rfl))⟩
  t0 := Tryz.underlying0
  a0 := Tryz.isAgg0
  z0 := Tryz.sizeOf0
  v0 := Tryz.zeroValue0
  t3 := Tryz.underlying3
  a3 := Tryz.isAgg3
  z3 := Tryz.sizeOf3
  v3 := Tryz.zeroValue3
  t4 := Tryz.underlying4
  a4 := Tryz.isAgg4
  z4 := Tryz.sizeOf4
  v4 := Tryz.zeroValue4
  t5 := Tryz.underlying5
  a5 := Tryz.isAgg5
  z5 := Tryz.sizeOf5
  v5 := Tryz.zeroValue5
  t9 := Tryz.underlying9
  a9 := Tryz.isAgg9
  z9 := Tryz.sizeOf9
  v9 := Tryz.zeroValue9
  t22 := Tryz.underlying33
  a22 := Tryz.isAgg33
  z22 := Tryz.sizeOf33
  v22 := Tryz.zeroValue33
  t25 := Tryz.underlying111
  a25 := Tryz.isAgg111
  z25 := Tryz.sizeOf111
  v25 := Tryz.zeroValue111
  t39 := Tryz.underlying74
  a39 := Tryz.isAgg74
  z39 := Tryz.sizeOf74
  v39 := Tryz.zeroValue74
  t45 := Tryz.underlying176
  a45 := Tryz.isAgg176
  z45 := Tryz.sizeOf176
  v45 := Tryz.zeroValue176
  t46 := Tryz.underlying177
  a46 := Tryz.isAgg177
  z46 := Tryz.sizeOf177
  v46 := Tryz.zeroValue177
  t50 := Tryz.underlying103
  a50 := Tryz.isAgg103
  z50 := Tryz.sizeOf103
  v50 := Tryz.zeroValue103
  t53 := Tryz.underlying118
  a53 := Tryz.isAgg118
  z53 := Tryz.sizeOf118
  v53 := Tryz.zeroValue118
  t55 := Tryz.underlying184
  a55 := Tryz.isAgg184
  z55 := Tryz.sizeOf184
  v55 := Tryz.zeroValue184
  t66 := Tryz.underlying213
  a66 := Tryz.isAgg213
  z66 := Tryz.sizeOf213
  v66 := Tryz.zeroValue213
  t70 := Tryz.underlying217
  a70 := Tryz.isAgg217
  z70 := Tryz.sizeOf217
  v70 := Tryz.zeroValue217
  t76 := Tryz.underlying241
  a76 := Tryz.isAgg241
  z76 := Tryz.sizeOf241
  v76 := Tryz.zeroValue241
  t77 := Tryz.underlying107
  a77 := Tryz.isAgg107
  z77 := Tryz.sizeOf107
  v77 := Tryz.zeroValue107 }
end Go.Proofs

namespace Go.Y
open Go Go.X Go.Lib Go.Proofs
set_option maxRecDepth 100000
set_option maxHeartbeats 4000000

variable [Sm : Inhabited Manner]
/-- A strict contract tells the world to the letter: it has grown. -/
theorem exact_of {P : Program} {f : FuncId} {args : List V} {v : V} (hS : Sm.default = .strict) (h : FnS P f args [] [] (Is v)) (W : World) : Calls P f (args.map V.enc).toArray W fun e w' => e = .returned v.enc ∧ ∃ q os', w' = Sort.grow (W.drewN q) os' := by
  refine (h.run W (fun _ => none) ⟨List.nodup_nil, trivial, fun b o hb => (by cases hb), trivial⟩).mono ?_
  rintro e w' ⟨v', L', D', m', he, ⟨rfl, rfl, rfl⟩, _, hfr⟩
  refine ⟨he, w'.drawn - W.drawn, w'.heap.extract W.heap.size w'.heap.size, ?_⟩
  have hk := hfr.kept
  have hheap : w'.heap = W.heap ++ w'.heap.extract W.heap.size w'.heap.size := by
    apply Array.ext_getElem?
    intro b
    rw [Array.getElem?_append]
    split
    · rename_i hb
      exact hfr.same b hb (by simp [fps])
    · rename_i hb
      rw [Array.getElem?_extract]
      have := hfr.size
      by_cases hb2 : b < w'.heap.size
      · rw [if_pos (by omega), show W.heap.size + (b - W.heap.size) = b by omega]
      · rw [if_neg (by omega), Array.getElem?_eq_none (by omega)]
  have hd : w'.drawn = W.drawn + (w'.drawn - W.drawn) := by have := hk.drawn hS; omega
  obtain ⟨h1, h2, h3, h4, h5⟩ := w'
  obtain ⟨g1, g2, g3, g4, g5⟩ := W
  have e1 := hk.os; have e2 := hk.out; have e3 := hk.tape hS
  dsimp only at *
  subst e1 e2 e3
  simp only [Sort.grow, World.drewN]
  rw [← hheap, ← hd]

theorem stringsCompare_ok (a b : List UInt8) : FnS Tryz.prog 109 [.c (.s a), .c (.s b)] [] [] (Is (.c (.i .i64 (Lib.compareBytes a b)))) :=
  fn_pure ⟨_, Tryz.func109, by kernel_rfl, by kernel_rfl⟩ (Tryz.strings_Compare ⟨⟨a⟩⟩ ⟨⟨b⟩⟩)
theorem isNaN_ok (a : Int) : FnS Tryz.prog 146 [.c (.i .i64 a)] [] [] (Is ff) := by
  refine fn_of_J Tryz.tyOK 0 Tryz.func146 (by kernel_rfl) (c := Tryz.f146.body.getD .skip) (by kernel_rfl) Tryz.ntmps146 (rs := Tryz.f146.results.toList) rfl (by simp) (fun G => ?_)
  repeat' first
    | refine J_seq ?_ | refine J_region Tryz.tyOK ?_ | refine J_block ?_ | refine J_cond ?_ | refine J_ret ?_ | refine J_skip ?_ | refine J_exit ?_ | refine J_scope ?_
    | refine CondP.yes (by omega) ?_ | refine CondP.no (by omega) ?_ | refine CondP.mk (fun h => ?_) (fun h => ?_) | refine EqP.mk rfl ?_ | refine NewP.mk (fun ad => ?_) | refine ArP.exact (by simp only [inR]; omega) ?_ | refine SideP.mk (by first | omega | (dsimp only; omega) | (simp; omega)) ?_
    | refine FinE.is rfl
    | fail
theorem compareInt_ok (a b : Int) : FnS Tryz.prog 108 [.c (.i .i64 a), .c (.i .i64 b)] [] [] (Is (.c (.i .i64 (Lib.compareInt a b)))) := by
  have hq : ∃ q, Lib.compareInt a b = q := ⟨_, rfl⟩
  obtain ⟨q, hq⟩ := hq
  rw [hq]
  unfold Lib.compareInt at hq
  refine fn_of_J Tryz.tyOK 0 Tryz.func108 (by kernel_rfl) (c := Tryz.f108.body.getD .skip) (by kernel_rfl) Tryz.ntmps108 (rs := Tryz.f108.results.toList) rfl (by simp) (fun G => ?_)
  repeat' first
    | refine J_seq ?_ | refine J_region Tryz.tyOK ?_ | refine J_block ?_ | refine J_cond ?_ | refine J_ret ?_ | refine J_skip ?_ | refine J_exit ?_ | refine J_scope ?_
    | refine CondP.yes (by omega) ?_ | refine CondP.no (by omega) ?_ | refine CondP.mk (fun h => ?_) (fun h => ?_) | refine EqP.mk rfl ?_ | refine NewP.mk (fun ad => ?_) | refine ArP.exact (by simp only [inR]; omega) ?_ | refine SideP.mk (by first | omega | (dsimp only; omega) | (simp; omega)) ?_
    | refine CallP.is (isNaN_ok a) ?_ | refine CallP.is (isNaN_ok b) ?_ | refine FinE.int ?_
    | fail
  all_goals (split at hq <;> first | omega | (split at hq <;> omega))

theorem or_ok (a : Option Addr) (c : Nat) (x y : Int) : FnS Tryz.prog 107 [.c (.sl a 2 c)] [.row 3 1 a 2 c [.i .i64 x, .i .i64 y]] [] (Is (.c (.i .i64 (if x ≠ 0 then x else y)))) := by
  have hrd : Reads [.row 3 1 a 2 c [.i .i64 x, .i .i64 y]] [] 3 1 a 2 [.i .i64 x, .i .i64 y] := .inl ⟨c, List.Mem.head _⟩
  refine fn_of_J Tryz.tyOK 0 Tryz.func107 (by kernel_rfl) (c := Tryz.f107.body.getD .skip) (by kernel_rfl) Tryz.ntmps107 (rs := Tryz.f107.results.toList) rfl (by simp) (fun G => ?_)
  repeat' first
    | refine J_seq ?_ | refine J_region Tryz.tyOK ?_ | refine J_block ?_ | refine J_cond ?_ | refine J_ret ?_ | refine J_skip ?_ | refine J_exit ?_ | refine J_scope ?_
    | refine CondP.yes (by omega) ?_ | refine CondP.no (by omega) ?_ | refine CondP.mk (fun h => ?_) (fun h => ?_) | refine EqP.mk rfl ?_ | refine NewP.mk (fun ad => ?_) | refine ArP.exact (by simp only [inR]; omega) ?_ | refine SideP.mk (by first | omega | (dsimp only; omega) | (simp; omega)) ?_
    | refine J_rounds 3 ?_ | refine JR_succ ?_ | refine IdxE.mk 3 1 _ hrd (by omega) (by omega) ?_ | refine LoadE.mk 3 _ _ _ hrd (by omega) (by omega) (by omega) rfl ?_ | refine FinE.int ?_
    | fail
  all_goals simp [*]
theorem or3_ok (a : Option Addr) (c : Nat) (x y z : Int) : FnS Tryz.prog 107 [.c (.sl a 3 c)] [.row 3 1 a 3 c [.i .i64 x, .i .i64 y, .i .i64 z]] [] (Is (.c (.i .i64 (if x ≠ 0 then x else if y ≠ 0 then y else z)))) := by
  have hrd : Reads [.row 3 1 a 3 c [.i .i64 x, .i .i64 y, .i .i64 z]] [] 3 1 a 3 [.i .i64 x, .i .i64 y, .i .i64 z] := .inl ⟨c, List.Mem.head _⟩
  refine fn_of_J Tryz.tyOK 0 Tryz.func107 (by kernel_rfl) (c := Tryz.f107.body.getD .skip) (by kernel_rfl) Tryz.ntmps107 (rs := Tryz.f107.results.toList) rfl (by simp) (fun G => ?_)
  repeat' first
    | refine J_seq ?_ | refine J_region Tryz.tyOK ?_ | refine J_block ?_ | refine J_cond ?_ | refine J_ret ?_ | refine J_skip ?_ | refine J_exit ?_ | refine J_scope ?_
    | refine CondP.yes (by omega) ?_ | refine CondP.no (by omega) ?_ | refine CondP.mk (fun h => ?_) (fun h => ?_) | refine EqP.mk rfl ?_ | refine NewP.mk (fun ad => ?_) | refine ArP.exact (by simp only [inR]; omega) ?_ | refine SideP.mk (by first | omega | (dsimp only; omega) | (simp; omega)) ?_
    | refine J_rounds 4 ?_ | refine JR_succ ?_ | refine IdxE.mk 3 1 _ hrd (by omega) (by omega) ?_ | refine LoadE.mk 3 _ _ _ hrd (by omega) (by omega) (by omega) rfl ?_ | refine FinE.int ?_
    | fail
  all_goals simp [*]

theorem compare_ok (a : Int) (x : List UInt8) (b : Int) (y : List UInt8) : FnS Tryz.prog 73 [.agg [.i .i64 a, .s x], .agg [.i .i64 b, .s y]] [] [] (Is (.c (.i .i64 (Go.X.compareT a x b y)))) := by
  refine fn_of_J Tryz.tyOK 0 Tryz.func73 (by kernel_rfl) (c := Tryz.f73.body.getD .skip) (by kernel_rfl) Tryz.ntmps73 (rs := Tryz.f73.results.toList) rfl (by simp) (fun G => ?_)
  repeat' first
    | refine J_seq ?_ | refine J_region Tryz.tyOK ?_ | refine J_block ?_ | refine J_cond ?_ | refine J_ret ?_ | refine J_skip ?_ | refine J_exit ?_ | refine J_scope ?_
    | refine CondP.yes (by omega) ?_ | refine CondP.no (by omega) ?_ | refine CondP.mk (fun h => ?_) (fun h => ?_) | refine EqP.mk rfl ?_ | refine NewP.mk (fun ad => ?_) | refine ArP.exact (by simp only [inR]; omega) ?_ | refine SideP.mk (by first | omega | (dsimp only; omega) | (simp; omega)) ?_
    | refine J_draw Tryz.tyOK (by kernel_rfl) [0, 1, 2, 3, 4, 5, 6, 7, 8, 9, 10, 11, 12] [10, 11] _ _ (by kernel_rfl) (Ents.refl _ _) ?_ | refine CallQ.mk [] _ (compareInt_ok a b) (fun _ _ => trivial) ?_ | refine CallQ.mk [] _ (stringsCompare_ok x y) (fun _ _ => trivial) ?_ | refine CallP.mk [_] _ [] _ (or_ok _ _ _ _) (List.Perm.refl _) (fun _ h => h) (fun v L' D' hp => ?_); obtain ⟨rfl, rfl, rfl⟩ := hp | refine EntP.mk (Ents.refl _ _) ?_ | refine EntP.mk Ents.drop ?_ | refine FinE.int ?_
    | fail
  rfl
end Go.Y

namespace Go.X
open Go Go.Lib

def cmGo {α : Type} [DecidableEq α] : α → List α → List α
  | _, [] => []
  | p, y :: r => if y = p then cmGo p r else y :: cmGo y r
/-- The elements without equal neighbours. -/
def cmG {α : Type} [DecidableEq α] : List α → List α
  | [] => []
  | x :: r => x :: cmGo x r
def nthG (l : List TT) (i : Nat) : TT := l.getD i (0, [])
theorem nthG_eq {l : List TT} {i : Nat} (h : i < l.length) : nthG l i = l[i] := by
  unfold nthG; rw [List.getD_eq_getElem?_getD, List.getElem?_eq_getElem h]; rfl
theorem ttC_takeT (l : List TT) (k : Nat) : (ttC l).take (k * 2) = ttC (l.take k) := by
  by_cases h : k ≤ l.length
  · exact flat_take (F := ttF2) (z := 2) (fun _ => rfl) l k h
  · rw [List.take_of_length_le (by rw [ttC_len]; omega), List.take_of_length_le (by omega)]
theorem ttC_dropT (l : List TT) (k : Nat) (h : k ≤ l.length) : (ttC l).drop (k * 2) = ttC (l.drop k) := flat_dropL (F := ttF2) (z := 2) (fun _ => rfl) l k h
theorem drop_atG {m l : List TT} {d i : Nat} (h : m.drop d = l.drop d) (hi : d ≤ i) (h1 : i < m.length) (h2 : i < l.length) : m[i] = l[i] := by
  have := congrArg (fun x => x[i - d]?) h
  simp only [List.getElem?_drop, show d + (i - d) = i by omega, List.getElem?_eq_getElem h1, List.getElem?_eq_getElem h2] at this
  exact Option.some.inj this
theorem rsubT {e : Nat} {a : Option Addr} {n c k : Nat} {m : List TT} {L : List Chunk} {D : List Fact} (hm : Chunk.row e 2 a n c (ttC m) ∈ L) (hn : m.length = n) (hk : k < n) (hc : n ≤ c) : Reads L D e 2 (resl a k c 2) (n - k) (ttC (m.drop k)) := ttsuf hm hn (by omega) hc
theorem tt_sub {m : List TT} {k i : Nat} (h : k + i < m.length) : ((ttC (m.drop k)).drop (i * 2 + 0)).take 2 = [.i .i64 m[k + i].1, .s m[k + i].2] := by
  rw [ttl_get (l := m.drop k) (i := i) (by rw [List.length_drop]; omega)]
  simp
theorem ttC_set {l : List TT} {j : Nat} (hj : j < l.length) (x : TT) : setC (j * 2 + 0) (ttF2 x) (ttC l) = ttC (l.set j x) := by
  have key : ∀ (l : List TT) (j : Nat), j < l.length → setC (j * 2) (ttF2 x) (l.flatMap ttF2) = (l.set j x).flatMap ttF2 := by
    intro l
    induction l with
    | nil => intro j h; simp at h
    | cons y r ih =>
      intro j h
      cases j with
      | zero =>
        simp only [List.flatMap_cons, List.set_cons_zero, Nat.zero_mul, setC, List.take_zero, List.nil_append, Nat.zero_add]
        rw [show (ttF2 x).length = (ttF2 y).length from rfl, List.drop_left]
      | succ j =>
        have := ih j (by simpa using h)
        simp only [List.flatMap_cons, List.set_cons_succ, ← this, setC]
        rw [show (j + 1) * 2 = (ttF2 y).length + j * 2 by show (j + 1) * 2 = 2 + j * 2; omega, List.take_append, List.take_of_length_le (by omega), Nat.add_sub_cancel_left, Nat.add_assoc, ← List.drop_drop, List.drop_left]
        simp
  exact key l j hj
theorem cmGo_len {α : Type} [DecidableEq α] : ∀ (r : List α) (p : α), (cmGo p r).length ≤ r.length
  | [], _ => Nat.le_refl _
  | y :: r, p => by
    rw [cmGo]
    split
    · exact Nat.le_succ_of_le (cmGo_len r p)
    · exact Nat.succ_le_succ (cmGo_len r y)
theorem cmGo_str {α : Type} [DecidableEq α] {cf : α → α → Int} (hc : Cmp cf) (he : ∀ x y, cf x y = 0 → x = y) : ∀ (r : List α) (p : α), (p :: r).Pairwise (fun x y => cf x y ≤ 0) → StrL cf (p :: cmGo p r) ∧ ∀ z, z ∈ p :: cmGo p r ↔ z ∈ p :: r
  | [], p, _ => ⟨List.pairwise_singleton _ _, fun z => Iff.rfl⟩
  | y :: r, p, h => by
    have h1 := List.pairwise_cons.1 h
    rw [cmGo]
    by_cases hy : y = p
    · subst hy
      rw [if_pos rfl]
      obtain ⟨i1, i2⟩ := cmGo_str hc he r y h1.2
      exact ⟨i1, fun z => by rw [i2]; simp⟩
    · rw [if_neg hy]
      obtain ⟨i1, i2⟩ := cmGo_str hc he r y h1.2
      have hpy : cf p y < 0 := by
        have h0 := h1.1 y (List.mem_cons_self ..)
        have : cf p y ≠ 0 := fun e => hy (he _ _ e).symm
        omega
      refine ⟨List.pairwise_cons.2 ⟨fun z hz => ?_, i1⟩, fun z => ?_⟩
      · rcases List.mem_cons.1 ((i2 z).1 hz) with rfl | hz'
        · exact hpy
        · have h2 := (List.pairwise_cons.1 h1.2).1 z hz'
          exact hc.lt_trans hpy h2
      · rw [List.mem_cons, i2, List.mem_cons (a := z) (b := p)]
theorem cmG_str {α : Type} [DecidableEq α] {cf : α → α → Int} (hc : Cmp cf) (he : ∀ x y, cf x y = 0 → x = y) (l : List α) (h : l.Pairwise (fun x y => cf x y ≤ 0)) : StrL cf (cmG l) ∧ ∀ z, z ∈ cmG l ↔ z ∈ l := by
  cases l with
  | nil => exact ⟨List.Pairwise.nil, fun z => Iff.rfl⟩
  | cons x r => exact cmGo_str hc he r x h
instance : Inhabited TT := ⟨(0, [])⟩

end Go.X

namespace Go.Proofs
open Go Go.X
set_option maxRecDepth 100000
set_option maxHeartbeats 8000000

theorem bitsLen0_ok : FnS Tryz.prog 106 [.c (.i .u64 0)] [] [] (Is (.c (.i .i64 0))) :=
  fn_pure ⟨_, Tryz.func106, by kernel_rfl, by kernel_rfl⟩ (fun w => Tryz.bits_Len 0 w (by omega) (by omega))

theorem insTt0 (g : Nat) : FnS Tryz.prog 136 [.c (.sl none 0 0), .c (.i .i64 0), .c (.i .i64 0), .c (.fn g [])] [] [] (Is .t0) := by
  refine fn_of_J Tryz.tyOK 0 Tryz.func136 (by kernel_rfl) (c := Tryz.f136.body.getD .skip) (by kernel_rfl) Tryz.ntmps136 (rs := Tryz.f136.results.toList) rfl (by simp) (fun G => ?_)
  repeat' first
    | refine J_seq ?_ | refine J_region Tryz.tyOK ?_ | refine J_block ?_ | refine J_cond ?_ | refine J_ret ?_ | refine J_skip ?_ | refine J_exit ?_ | refine J_scope ?_
    | refine CondP.yes (by omega) ?_ | refine CondP.no (by omega) ?_ | refine CondP.mk (fun h => ?_) (fun h => ?_) | refine EqP.mk rfl ?_ | refine NewP.mk (fun ad => ?_) | refine ArP.exact (by simp only [inR]; omega) ?_ | refine SideP.mk (by first | omega | (dsimp only; omega) | (simp; omega)) ?_
    | refine J_rounds 1 ?_ | refine JR_succ ?_ | refine FinE.is rfl
    | fail
theorem pdqTt0 (g : Nat) : FnS Tryz.prog 105 [.c (.sl none 0 0), .c (.i .i64 0), .c (.i .i64 0), .c (.i .i64 0), .c (.fn g [])] [] [] (Is .t0) := by
  refine fn_of_J Tryz.tyOK 0 Tryz.func105 (by kernel_rfl) (c := Tryz.f105.body.getD .skip) (by kernel_rfl) Tryz.ntmps105 (rs := Tryz.f105.results.toList) rfl (by simp) (fun G => ?_)
  repeat' first
    | refine J_seq ?_ | refine J_region Tryz.tyOK ?_ | refine J_block ?_ | refine J_cond ?_ | refine J_ret ?_ | refine J_skip ?_ | refine J_exit ?_ | refine J_scope ?_
    | refine CondP.yes (by omega) ?_ | refine CondP.no (by omega) ?_ | refine CondP.mk (fun h => ?_) (fun h => ?_) | refine EqP.mk rfl ?_ | refine NewP.mk (fun ad => ?_) | refine ArP.exact (by simp only [inR]; omega) ?_ | refine SideP.mk (by first | omega | (dsimp only; omega) | (simp; omega)) ?_
    | refine J_rounds 1 ?_ | refine JR_succ ?_ | refine CallP.is (insTt0 g) ?_ | refine FinE.is rfl
    | fail
theorem sortTt0 (g : Nat) : FnS Tryz.prog 72 [.c (.sl none 0 0), .c (.fn g [])] [] [] (Is .t0) := by
  refine fn_of_J Tryz.tyOK 0 Tryz.func72 (by kernel_rfl) (c := Tryz.f72.body.getD .skip) (by kernel_rfl) Tryz.ntmps72 (rs := Tryz.f72.results.toList) rfl (by simp) (fun G => ?_)
  repeat' first
    | refine J_seq ?_ | refine J_region Tryz.tyOK ?_ | refine J_block ?_ | refine J_cond ?_ | refine J_ret ?_ | refine J_skip ?_ | refine J_exit ?_ | refine J_scope ?_
    | refine CondP.yes (by omega) ?_ | refine CondP.no (by omega) ?_ | refine CondP.mk (fun h => ?_) (fun h => ?_) | refine EqP.mk rfl ?_ | refine NewP.mk (fun ad => ?_) | refine ArP.exact (by simp only [inR]; omega) ?_ | refine SideP.mk (by first | omega | (dsimp only; omega) | (simp; omega)) ?_
    | refine CallP.is (pdqTt0 g) ?_ | refine CallP.is bitsLen0_ok ?_ | refine FinE.is rfl
    | fail

theorem sortTt_ok (a : Option Addr) (c : Nat) (l : List TT) (hl : l.length < 4611686018427387904) :
    FnS Tryz.prog 72 [.c (.sl a l.length c), .c (.fn 73 [])] [.row 23 2 a l.length c (ttC l)] []
      (fun v L D => ∃ l' : List TT, l'.Perm l ∧ l'.Pairwise (fun x y => ltOf cmpTT y x = false) ∧ v = .t0 ∧ L = [.row 23 2 a l.length c (ttC l')] ∧ D = []) :=
  fn_sort (F := ttF2) (lt := ltOf cmpTT) (fun _ => rfl) (fun x y hy => by simp [ttF2] at hy; rcases hy with rfl | rfl <;> rfl) (sortTt0 _)
    (fun blk cap d w hH hblk hsz => AnyQ.slices_SortFunc Tryz.sortF_Title 2 Tryz.isAgg23 Tryz.sizeOf23 (encF ttF2) (fun _ => rfl) (fun x v hv => by simp [encF, ttF2] at hv; rcases hv with rfl | rfl <;> rfl) cmpTT cmp_TT.swo 73 #[] blk 0 cap d w
      (enters_of Tryz.func73 (by kernel_rfl) rfl) (fun m os dk hs x y => Go.Y.exact_of (Sm := ⟨Manner.strict⟩) rfl (Go.Y.compare_ok (Sm := ⟨Manner.strict⟩) x.1 x.2 y.1 y.2) _) hH hblk hsz) a c l hl

theorem cptTt_ok (a : Option Addr) (c : Nat) (l : List TT) (hl : l.length ≤ 10000000) :
    FnS Tryz.prog 74 [.c (.sl a l.length c)] [.row 23 2 a l.length c (ttC l)] []
      (fun v L D => v = .c (.sl a (cmG l).length c) ∧ L = [.row 23 2 a (cmG l).length c (ttC (cmG l))] ∧ D = []) := by
  by_cases h2 : l.length < 2
  · have he : cmG l = l := by
      match l, h2 with
      | [], _ => rfl
      | [x], _ => rfl
      | x :: y :: r, h => simp at h; omega
    rw [he]
    refine fn_of_J Tryz.tyOK 0 Tryz.func74 (by kernel_rfl) (c := Tryz.f74.body.getD .skip) (by kernel_rfl) Tryz.ntmps74 (rs := Tryz.f74.results.toList) rfl (by simp) (fun G => ?_)
    repeat' first
      | refine J_seq ?_ | refine J_region Tryz.tyOK ?_ | refine J_block ?_ | refine J_cond ?_ | refine J_ret ?_ | refine J_skip ?_ | refine J_exit ?_ | refine J_scope ?_
      | refine CondP.yes (by omega) ?_ | refine CondP.no (by omega) ?_ | refine CondP.mk (fun h => ?_) (fun h => ?_) | refine EqP.mk rfl ?_ | refine NewP.mk (fun ad => ?_) | refine ArP.exact (by simp only [inR]; omega) ?_ | refine SideP.mk (by first | omega | (dsimp only; omega) | (simp; omega)) ?_
      | refine FinE.mk [_] [] ⟨rfl, rfl, rfl⟩ (Ents.refl _ _)
      | fail
  · generalize hq : cmG l = q
    refine fn_of_J Tryz.tyOK 0 Tryz.func74 (by kernel_rfl) (c := Tryz.f74.body.getD .skip) (by kernel_rfl) Tryz.ntmps74 (rs := Tryz.f74.results.toList) rfl (by simp) (fun G => ?_)
    refine J_cap (List.Mem.head _) (fun hnc _ _ => ?_)
    repeat' first
      | refine J_seq ?_ | refine J_region Tryz.tyOK ?_ | refine J_block ?_ | refine J_cond ?_ | refine J_ret ?_ | refine J_skip ?_ | refine J_exit ?_ | refine J_scope ?_
      | refine CondP.yes (by omega) ?_ | refine CondP.no (by omega) ?_ | refine CondP.mk (fun h => ?_) (fun h => ?_) | refine EqP.mk rfl ?_ | refine NewP.mk (fun ad => ?_) | refine ArP.exact (by simp only [inR]; omega) ?_ | refine SideP.mk (by first | omega | (dsimp only; omega) | (simp; omega)) ?_
      | fail
    refine J_loop (α := Nat) (fun k => [(0, .c (.sl a l.length c)), (3, .c (.i .i64 k))]) (fun _ => [.row 23 2 a l.length c (ttC l)]) (fun _ => []) 0
      (fun k => 1 ≤ k ∧ k ≤ l.length ∧ q = l.take k ++ cmGo (nthG l (k - 1)) (l.drop k)) (fun k => l.length - k) (InFam.mk 1 ⟨Nat.le_refl _, by omega, ?_⟩ (by repeat' first | exact SubE.nil | refine SubE.cons rfl ?_ ?_ | exact VEq.refl _ | refine VEq.int (by omega) | refine VEq.sl rfl (by first | rfl | omega | (rw [List.length_append]; rfl) | (simp; omega)) rfl) (Ents.refl _ _)) (fun k hx => ?_)
    · rw [← hq]
      match l, h2 with
      | [], h => simp at h
      | x :: r, _ => rfl
    obtain ⟨hk1, hkn, he⟩ := hx
    by_cases hlt : k < l.length
    · have hg := ttl_get hlt
      have hkk : ((k : Int) - 1).toNat = k - 1 := by omega
      have hg1 : ((ttC l).drop (((k : Int) - 1).toNat * 2 + 0)).take 2 = [.i .i64 l[k - 1].1, .s l[k - 1].2] := by rw [hkk]; exact ttl_get (by omega)
      have hn1 : nthG l (k - 1) = l[k - 1] := nthG_eq (by omega)
      have hyes : l[k] = l[k - 1] → q = l.take k ++ cmGo (nthG l k) (l.drop (k + 1)) := fun h => by
        rw [he, List.drop_eq_getElem_cons hlt, cmGo, hn1, if_pos h, nthG_eq hlt, h]
      have hno : ¬ l[k] = l[k - 1] → q = l.take (k + 1) ++ cmGo (nthG l k) (l.drop (k + 1)) := fun h => by
        rw [he, List.drop_eq_getElem_cons hlt, cmGo, hn1, if_neg h, nthG_eq hlt, List.take_succ_eq_append_getElem hlt, List.append_assoc]
        rfl
      repeat' first
        | refine J_stop (c := .seq (.region 7 _ _) _) ?_
        | refine J_seq ?_ | refine J_region Tryz.tyOK ?_ | refine J_block ?_ | refine J_cond ?_ | refine J_ret ?_ | refine J_skip ?_ | refine J_exit ?_ | refine J_scope ?_
        | refine CondP.yes (by omega) ?_ | refine CondP.no (by omega) ?_ | refine CondP.mk (fun h => ?_) (fun h => ?_) | refine EqP.mk rfl ?_ | refine NewP.mk (fun ad => ?_) | refine ArP.exact (by simp only [inR]; omega) ?_ | refine SideP.mk (by first | omega | (dsimp only; omega) | (simp; omega)) ?_
        | refine J_drawS (id := 6) Tryz.tyOK (by kernel_rfl) [0, 0, 3, 7, 0, 0, 32, 112, 240, 511] [0, 1, 2, 3, 4, 5, 6, 7, 8, 9] [] [18, 23] true (by kernel_rfl) ?_ | refine J_drawS (id := 11) Tryz.tyOK (by kernel_rfl) [0, 0, 3, 7, 0, 0, 32, 112, 240, 511] [0, 1, 2, 3, 4, 5, 6, 7, 8, 9] [] [37, 42] true (by kernel_rfl) ?_ | refine EntP.mk (Ents.ofSub (by repeat (first | exact List.Sublist.slnil | refine List.Sublist.cons_cons _ ?_ | refine List.Sublist.cons _ ?_)) (by first | exact fun _ h => h | exact fun _ _ => trivial | exact fun _ h => h.2 | exact fun _ h => h.2.2.2.2 | exact fun _ h => h.2.2 | exact fun _ h => h.2.2.2 | exact fun _ h => h.2.2.2.2.2 | exact fun _ h => h.2.2.2.2.2.2 | exact fun _ h => h.2.2.2.2.2.2.2 | exact fun _ h => h.2.2.2.2.2.2.2.2 | exact fun _ h => h.2.2.2.2.2.2.2.2.2 | exact fun _ h => h.2.2.2.2.2.2.2.2.2.2 | exact fun _ h => ((allD_append _ _).1 h).2)) ?_ | refine IdxE.mk 23 2 _ (.inl ⟨c, List.Mem.head _⟩) (by omega) (by omega) ?_ | refine LoadE.mk 23 _ _ _ (.inl ⟨c, List.Mem.head _⟩) (by omega) (by omega) (by first | omega | decide) hg ?_ | refine LoadE.mk 23 _ _ _ (.inl ⟨c, List.Mem.head _⟩) (by omega) (by omega) (by first | omega | decide) hg1 ?_ | refine Round.mk (k + 1) (by omega) ⟨by omega, by omega, ?_⟩ (by repeat' first | exact SubE.nil | refine SubE.cons rfl ?_ ?_ | exact VEq.refl _ | refine VEq.int (by omega) | refine VEq.sl rfl (by first | rfl | omega | (rw [List.length_append]; rfl) | (simp; omega)) rfl) (Ents.refl _ _)
        | fail
      · have hxy := tt_ext h
        have hq0 := hyes hxy
        clear hyes hno hg hg1 hn1 hkk he
        refine ⟨?_⟩
        refine J_ent (n' := 0) (env' := [(0, .c (.sl a l.length c)), (3, .c (.i .i64 k))]) (by repeat' first | exact SubE.nil | refine SubE.cons rfl ?_ ?_ | exact VEq.refl _ | refine VEq.int (by omega) | refine VEq.sl rfl (by first | rfl | omega | (rw [List.length_append]; rfl) | (simp; omega)) rfl) (Ents.refl _ _) ?_
        repeat' first
          | refine J_seq ?_ | refine J_region Tryz.tyOK ?_ | refine J_block ?_ | refine J_cond ?_ | refine J_ret ?_ | refine J_skip ?_ | refine J_exit ?_ | refine J_scope ?_
          | refine CondP.yes (by omega) ?_ | refine CondP.no (by omega) ?_ | refine CondP.mk (fun h => ?_) (fun h => ?_) | refine EqP.mk rfl ?_ | refine NewP.mk (fun ad => ?_) | refine ArP.exact (by simp only [inR]; omega) ?_ | refine SideP.mk (by first | omega | (dsimp only; omega) | (simp; omega)) ?_
          | fail
        refine J_loop (α := Nat × Nat × List TT) (fun x => [(0, .c (.sl a l.length c)), (3, .c (.i .i64 x.2.1)), (4, .c (.sl (resl a k c 2) (l.length - k) (c - k))), (5, .c (.i .i64 x.1))]) (fun x => [.row 23 2 a l.length c (ttC x.2.2)]) (fun _ => []) 0
          (fun x => 1 ≤ x.1 ∧ x.1 ≤ l.length - k ∧ k ≤ x.2.1 ∧ x.2.1 ≤ k + x.1 - 1 ∧ x.2.2.length = l.length ∧ x.2.2.drop (k + x.1 - 1) = l.drop (k + x.1 - 1) ∧ q = x.2.2.take x.2.1 ++ cmGo (nthG l (k + x.1 - 1)) (l.drop (k + x.1))) (fun x => l.length - x.1) (InFam.mk (1, k, l) ⟨Nat.le_refl _, by dsimp only; omega, Nat.le_refl _, by dsimp only; omega, rfl, rfl, by dsimp only; exact hq0⟩ (by repeat' first | exact SubE.nil | refine SubE.cons rfl ?_ ?_ | exact VEq.refl _ | refine VEq.int (by omega) | refine VEq.sl rfl (by first | rfl | omega | (rw [List.length_append]; rfl) | (simp; omega)) rfl) (Ents.refl _ _)) (fun x hx => ?_)
        obtain ⟨j, i, m⟩ := x
        dsimp only at hx ⊢
        obtain ⟨hj1, hj2, hki, hij, hml, hdr, hq1⟩ := hx
        have hR : Reads [.row 23 2 a l.length c (ttC m)] [] 23 2 (resl a k c 2) (l.length - k) (ttC (m.drop k)) := rsubT (List.Mem.head _) hml (by omega) hnc
        by_cases hjl : j < l.length - k
        · have e1 := drop_atG hdr (i := k + j) (by omega) (by omega) (by omega)
          have e2 := drop_atG hdr (i := k + (j - 1)) (by omega) (by omega) (by omega)
          have hg := tt_sub (m := m) (k := k) (i := j) (by omega)
          rw [e1] at hg
          have hg1 : ((ttC (m.drop k)).drop (((j : Int) - 1).toNat * 2 + 0)).take 2 = [.i .i64 l[k + (j - 1)].1, .s l[k + (j - 1)].2] := by
            rw [show ((j : Int) - 1).toNat = j - 1 by omega]
            have := tt_sub (m := m) (k := k) (i := j - 1) (by omega)
            rw [e2] at this
            exact this
          have hst : setC (i * 2 + 0) (ttF2 l[k + j]) (ttC m) = ttC (m.set i l[k + j]) := ttC_set (by omega) _
          have hn1 : nthG l (k + j - 1) = l[k + (j - 1)] := by rw [nthG_eq (by omega)]; simp only [show k + j - 1 = k + (j - 1) by omega]
          have hyes : l[k + j] = l[k + (j - 1)] → q = m.take i ++ cmGo (nthG l (k + (j + 1) - 1)) (l.drop (k + (j + 1))) := fun h => by
            rw [hq1, List.drop_eq_getElem_cons (show k + j < l.length by omega), cmGo, hn1, if_pos h, show k + (j + 1) - 1 = k + j by omega, nthG_eq (by omega), h]
            rfl
          have hno : ¬ l[k + j] = l[k + (j - 1)] → q = (m.set i l[k + j]).take (i + 1) ++ cmGo (nthG l (k + (j + 1) - 1)) (l.drop (k + (j + 1))) := fun h => by
            rw [hq1, List.drop_eq_getElem_cons (show k + j < l.length by omega), cmGo, hn1, if_neg h, show k + (j + 1) - 1 = k + j by omega, nthG_eq (by omega), List.take_succ_eq_append_getElem (by rw [List.length_set]; omega), List.append_assoc]
            simp [List.take_set_of_le]
            rfl
          have hdr1 : m.drop (k + (j + 1) - 1) = l.drop (k + (j + 1) - 1) := by
            rw [show k + (j + 1) - 1 = (k + j - 1) + 1 by omega, ← List.drop_drop, hdr, List.drop_drop]
          have hdr2 : (m.set i l[k + j]).drop (k + (j + 1) - 1) = l.drop (k + (j + 1) - 1) := by
            rw [List.drop_set_of_lt (by omega)]; exact hdr1
          repeat' first
            | refine J_seq ?_ | refine J_region Tryz.tyOK ?_ | refine J_block ?_ | refine J_cond ?_ | refine J_ret ?_ | refine J_skip ?_ | refine J_exit ?_ | refine J_scope ?_
            | refine CondP.yes (by omega) ?_ | refine CondP.no (by omega) ?_ | refine CondP.mk (fun h => ?_) (fun h => ?_) | refine EqP.mk rfl ?_ | refine NewP.mk (fun ad => ?_) | refine ArP.exact (by simp only [inR]; omega) ?_ | refine SideP.mk (by first | omega | (dsimp only; omega) | (simp; omega)) ?_
            | refine J_drawS (id := 6) Tryz.tyOK (by kernel_rfl) [0, 0, 3, 7, 0, 0, 32, 112, 240, 511] [0, 1, 2, 3, 4, 5, 6, 7, 8, 9] [] [18, 23] true (by kernel_rfl) ?_ | refine J_drawS (id := 11) Tryz.tyOK (by kernel_rfl) [0, 0, 3, 7, 0, 0, 32, 112, 240, 511] [0, 1, 2, 3, 4, 5, 6, 7, 8, 9] [] [37, 42] true (by kernel_rfl) ?_ | refine EntP.mk (Ents.ofSub (by repeat (first | exact List.Sublist.slnil | refine List.Sublist.cons_cons _ ?_ | refine List.Sublist.cons _ ?_)) (by first | exact fun _ h => h | exact fun _ _ => trivial | exact fun _ h => h.2 | exact fun _ h => h.2.2.2.2 | exact fun _ h => h.2.2 | exact fun _ h => h.2.2.2 | exact fun _ h => h.2.2.2.2.2 | exact fun _ h => h.2.2.2.2.2.2 | exact fun _ h => h.2.2.2.2.2.2.2 | exact fun _ h => h.2.2.2.2.2.2.2.2 | exact fun _ h => h.2.2.2.2.2.2.2.2.2 | exact fun _ h => h.2.2.2.2.2.2.2.2.2.2 | exact fun _ h => ((allD_append _ _).1 h).2)) ?_ | refine IdxE.mk 23 2 _ hR (by omega) (by omega) ?_ | refine IdxE.mk 23 2 _ (.inl ⟨c, List.Mem.head _⟩) (by omega) (by omega) ?_ | refine LoadE.mk 23 _ _ _ hR (by omega) (by omega) (by first | omega | decide) hg ?_ | refine LoadE.mk 23 _ _ _ hR (by omega) (by omega) (by first | omega | decide) hg1 ?_ | refine StoreE.mk [] _ _ _ _ _ _ rfl (by omega) (by omega) (Nat.le_of_ble_eq_true rfl) hst ?_ | refine Round.mk (j + 1, i, m) (by dsimp only; omega) ⟨by dsimp only; omega, by dsimp only; omega, hki, by dsimp only; omega, hml, hdr1, hyes (tt_ext (by assumption))⟩ (by repeat' first | exact SubE.nil | refine SubE.cons rfl ?_ ?_ | exact VEq.refl _ | refine VEq.int (by omega) | refine VEq.sl rfl (by first | rfl | omega | (rw [List.length_append]; rfl) | (simp; omega)) rfl) (Ents.refl _ _) | refine Round.mk (j + 1, i + 1, m.set i l[k + j]) (by dsimp only; omega) ⟨by dsimp only; omega, by dsimp only; omega, by dsimp only; omega, by dsimp only; omega, by rw [List.length_set]; exact hml, hdr2, hno (tt_ne (by assumption))⟩ (by repeat' first | exact SubE.nil | refine SubE.cons rfl ?_ ?_ | exact VEq.refl _ | refine VEq.int (by omega) | refine VEq.sl rfl (by first | rfl | omega | (rw [List.length_append]; rfl) | (simp; omega)) rfl) (Ents.refl _ _)
            | fail
        · have hjn : j = l.length - k := by omega
          subst hjn
          rw [show l.drop (k + (l.length - k)) = [] from List.drop_eq_nil_of_le (by omega)] at hq1
          have hq1 : q = m.take i ++ [] := hq1
          rw [List.append_nil] at hq1
          have hql : q.length = i := by rw [hq1, List.length_take]; omega
          have hwl := ttC_len m
          repeat' first
            | refine J_seq ?_ | refine J_region Tryz.tyOK ?_ | refine J_block ?_ | refine J_cond ?_ | refine J_ret ?_ | refine J_skip ?_ | refine J_exit ?_ | refine J_scope ?_
            | refine CondP.yes (by omega) ?_ | refine CondP.no (by omega) ?_ | refine CondP.mk (fun h => ?_) (fun h => ?_) | refine EqP.mk rfl ?_ | refine NewP.mk (fun ad => ?_) | refine ArP.exact (by simp only [inR]; omega) ?_ | refine SideP.mk (by first | omega | (dsimp only; omega) | (simp; omega)) ?_
            | refine ClearE.mk [] _ _ _ _ (i : Int).toNat _ _ rfl (if_neg (by omega)) (by omega) ?_ | refine FinE.mk [_] [] ⟨?_, rfl, rfl⟩ ((Ents.rowPre (k := i) (by omega)).trans (Ents.of ?_))
            | fail
          · show V.c (C.sl (resl a 0 c 2) (i : Int).toNat c) = _
            rw [resl0, hql, Int.toNat_natCast]
          · show [Chunk.row _ 2 a i c ((setC ((i : Int).toNat * 2) (repC (l.length - (i : Int).toNat) [C.i .i64 0, C.s []]) (ttC m)).take (i * 2))] = _
            rw [Int.toNat_natCast, setC_take (by omega), ttC_takeT, ← hq1, hql]
      · exact hno (tt_ne h)
    · have hkl : k = l.length := by omega
      subst hkl
      rw [List.take_length, List.drop_length] at he
      have he : q = l ++ [] := he
      rw [List.append_nil] at he
      subst he
      repeat' first
        | refine J_seq ?_ | refine J_region Tryz.tyOK ?_ | refine J_block ?_ | refine J_cond ?_ | refine J_ret ?_ | refine J_skip ?_ | refine J_exit ?_ | refine J_scope ?_
        | refine CondP.yes (by omega) ?_ | refine CondP.no (by omega) ?_ | refine CondP.mk (fun h => ?_) (fun h => ?_) | refine EqP.mk rfl ?_ | refine NewP.mk (fun ad => ?_) | refine ArP.exact (by simp only [inR]; omega) ?_ | refine SideP.mk (by first | omega | (dsimp only; omega) | (simp; omega)) ?_
        | refine FinE.mk [_] [] ⟨rfl, rfl, rfl⟩ (Ents.refl _ _)
        | fail

end Go.Proofs
