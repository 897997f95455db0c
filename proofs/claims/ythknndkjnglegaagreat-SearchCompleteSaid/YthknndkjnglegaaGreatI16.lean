/- This text walks through the statements and whole texts in the reference of chapter 12. -/
import Derived.Test.YthknndkjnglegaaGreatI15
set_option linter.all false

namespace Go.Proofs
open Go Go.X
set_option maxRecDepth 100000
set_option maxHeartbeats 4000000
/-- What a statement of the reference leaves: a policy in memory that stays. -/
abbrev rsPost (p : PolM) (r : Bool × P3) : V → List Chunk → List Fact → Prop := fun v L D => ∃ p' : PolM, (r.1 = true → p'.p3 = r.2) ∧ (p.gs.length ≤ p.gc → p'.gs.length ≤ p'.gc) ∧ v = .t2 (.agg p'.cells) (.c (.b r.1)) ∧ L = [] ∧ D = p'.facts
theorem rs_none (p : PolM) (s : Bs) (hs : s.length ≤ 1000000) (hW : wordsT blankB s = []) : FnS Tryz.prog 113 [.agg p.cells, .c (.s s)] [] p.facts (rsPost p (true, p.p3)) := by
  have c1 := refWords_ok s hs
  rw [hW] at c1
  have hWl : ([] : List Bs).length = 0 := rfl
  refine fn_of_J Tryz.tyOK 0 Tryz.func113 (by kernel_rfl) (c := Tryz.f113.body.getD .skip) (by kernel_rfl) Tryz.ntmps113 (rs := Tryz.f113.results.toList) rfl (by simp) (fun G => ?_)
  repeat' first | refine J_seq ?_ | refine J_region Tryz.tyOK ?_ | refine J_block ?_ | refine J_cond ?_ | refine J_ret ?_ | refine J_skip ?_ | refine J_exit ?_ | refine J_scope ?_ | refine CondP.y ?_ | refine CondP.n ?_ | refine CondP.mk (fun h => ?_) (fun h => ?_) | refine EqP.mk rfl ?_ | refine NewP.mk (fun ad => ?_) | refine ArP.x ?_ | refine SideP.a ?_ | refine CallP.mk [] _ [] _ c1 (List.Perm.refl _) (fun _ _ => trivial) (fun v L' D' hp => ?_); obtain ⟨wa, wc, rfl, rfl, rfl⟩ := hp | exact FinE.mk [] p.facts ⟨p, fun _ => rfl, id, rfl, rfl, rfl⟩ (Ents.dropAll.trans (Ents.facts fun m h => h)) | fail
theorem rs_hash (p : PolM) (s a : Bs) (w : List Bs) (hs : s.length ≤ 1000000) (hW : wordsT blankB s = a :: w) (hp : 0 < a.length) (h35 : (((a.getD (0 : Int).toNat 0).toNat : Int) = 35)) : FnS Tryz.prog 113 [.agg p.cells, .c (.s s)] [] p.facts (rsPost p (true, p.p3)) := by
  have c1 := refWords_ok s hs
  rw [hW] at c1
  have hWl : (a :: w).length = w.length + 1 := rfl
  have hc0 : (((a :: w).map C.s).drop (0 * 1 + 0)).take 1 = [C.s a] := rfl
  refine fn_of_J Tryz.tyOK 0 Tryz.func113 (by kernel_rfl) (c := Tryz.f113.body.getD .skip) (by kernel_rfl) Tryz.ntmps113 (rs := Tryz.f113.results.toList) rfl (by simp) (fun G => ?_)
  repeat' first | refine J_stop (c := .seq (.seq (.region 2 _ _) _) _) ?_ | refine J_seq ?_ | refine J_region Tryz.tyOK ?_ | refine J_block ?_ | refine J_cond ?_ | refine J_ret ?_ | refine J_skip ?_ | refine J_exit ?_ | refine J_scope ?_ | refine CondP.y ?_ | refine CondP.n ?_ | refine CondP.mk (fun h => ?_) (fun h => ?_) | refine EqP.mk rfl ?_ | refine NewP.mk (fun ad => ?_) | refine ArP.x ?_ | refine SideP.a ?_ | refine CallP.mk [] _ [] _ c1 (List.Perm.refl _) (fun _ _ => trivial) (fun v L' D' hp => ?_); obtain ⟨wa, wc, rfl, rfl, rfl⟩ := hp | fail
  refine ⟨?_⟩
  refine J_cap (List.Mem.head _) (fun hnc _ _ => ?_)
  refine J_mem (n' := 2) Ents.toFact ?_
  have hrw : ∀ L, Reads L (slFact 9 1 wa (a :: w).length ((a :: w).map C.s) :: ([] ++ p.facts)) 9 1 wa (a :: w).length ((a :: w).map C.s) := fun L => .inr fun m h => h.1
  repeat' first | refine CondP.yes h35 ?_ | refine J_seq ?_ | refine J_region Tryz.tyOK ?_ | refine J_block ?_ | refine J_cond ?_ | refine J_ret ?_ | refine J_skip ?_ | refine J_exit ?_ | refine J_scope ?_ | refine CondP.y ?_ | refine CondP.n ?_ | refine CondP.mk (fun h => ?_) (fun h => ?_) | refine EqP.mk rfl ?_ | refine NewP.mk (fun ad => ?_) | refine ArP.x ?_ | refine SideP.a ?_ | refine IdxE.mk 9 1 _ (hrw _) (by omega) (by omega) ?_ | refine LoadE.mk 9 _ _ _ (hrw _) (by omega) (by omega) (by omega) hc0 ?_ | exact FinE.mk [] p.facts ⟨p, fun _ => rfl, id, rfl, rfl, rfl⟩ (Ents.dropAll.trans (Ents.facts fun m h => h.2)) | fail
theorem rs_other (p : PolM) (s a : Bs) (w : List Bs) (hs : s.length ≤ 1000000) (hW : wordsT blankB s = a :: w) (hp : 0 < a.length) (h35 : ¬ (((a.getD (0 : Int).toNat 0).toNat : Int) = 35)) (h1 : ¬ a = wGroup) (h2 : ¬ a = wAllow) (h3 : ¬ a = wDeny) (h4 : ¬ a = wGuard) (h5 : ¬ a = wStrict) :
    FnS Tryz.prog 113 [.agg p.cells, .c (.s s)] [] p.facts (rsPost p (false, p.p3)) := by
  have c1 := refWords_ok s hs
  rw [hW] at c1
  have hWl : (a :: w).length = w.length + 1 := rfl
  have hc0 : (((a :: w).map C.s).drop (0 * 1 + 0)).take 1 = [C.s a] := rfl
  refine fn_of_J Tryz.tyOK 0 Tryz.func113 (by kernel_rfl) (c := Tryz.f113.body.getD .skip) (by kernel_rfl) Tryz.ntmps113 (rs := Tryz.f113.results.toList) rfl (by simp) (fun G => ?_)
  repeat' first | refine J_stop (c := .seq (.seq (.region 2 _ _) _) _) ?_ | refine J_seq ?_ | refine J_region Tryz.tyOK ?_ | refine J_block ?_ | refine J_cond ?_ | refine J_ret ?_ | refine J_skip ?_ | refine J_exit ?_ | refine J_scope ?_ | refine CondP.y ?_ | refine CondP.n ?_ | refine CondP.mk (fun h => ?_) (fun h => ?_) | refine EqP.mk rfl ?_ | refine NewP.mk (fun ad => ?_) | refine ArP.x ?_ | refine SideP.a ?_ | refine CallP.mk [] _ [] _ c1 (List.Perm.refl _) (fun _ _ => trivial) (fun v L' D' hp => ?_); obtain ⟨wa, wc, rfl, rfl, rfl⟩ := hp | fail
  refine ⟨?_⟩
  refine J_cap (List.Mem.head _) (fun hnc _ _ => ?_)
  refine J_mem (n' := 2) Ents.toFact ?_
  have hrw : ∀ L, Reads L (slFact 9 1 wa (a :: w).length ((a :: w).map C.s) :: ([] ++ p.facts)) 9 1 wa (a :: w).length ((a :: w).map C.s) := fun L => .inr fun m h => h.1
  repeat' first | refine CondP.no h35 ?_ | refine CondP.no h1 ?_ | refine CondP.no h2 ?_ | refine CondP.no h3 ?_ | refine CondP.no h4 ?_ | refine CondP.no h5 ?_ | refine J_seq ?_ | refine J_region Tryz.tyOK ?_ | refine J_block ?_ | refine J_cond ?_ | refine J_ret ?_ | refine J_skip ?_ | refine J_exit ?_ | refine J_scope ?_ | refine CondP.y ?_ | refine CondP.n ?_ | refine CondP.mk (fun h => ?_) (fun h => ?_) | refine EqP.mk rfl ?_ | refine NewP.mk (fun ad => ?_) | refine ArP.x ?_ | refine SideP.a ?_ | refine IdxE.mk 9 1 _ (hrw _) (by omega) (by omega) ?_ | refine LoadE.mk 9 _ _ _ (hrw _) (by omega) (by omega) (by omega) hc0 ?_ | exact FinE.mk [] p.facts ⟨p, fun h => (by cases h), id, rfl, rfl, rfl⟩ (Ents.dropAll.trans (Ents.facts fun m h => h.2)) | fail
theorem rs_group0 (p : PolM) (s : Bs) (q : P3) (hs : s.length ≤ 1000000) (hW : wordsT blankB s = [wGroup]) : FnS Tryz.prog 113 [.agg p.cells, .c (.s s)] [] p.facts (rsPost p (false, q)) := by
  have c1 := refWords_ok s hs
  rw [hW] at c1
  have hWl : ([wGroup] : List Bs).length = 1 := rfl
  have hp : 0 < wGroup.length := by decide
  have hc0 : ((([wGroup] : List Bs).map C.s).drop (0 * 1 + 0)).take 1 = [C.s wGroup] := rfl
  have h35 : ¬ (((wGroup.getD (0 : Int).toNat 0).toNat : Int) = 35) := by decide
  have h1 : wGroup = wGroup := rfl
  refine fn_of_J Tryz.tyOK 0 Tryz.func113 (by kernel_rfl) (c := Tryz.f113.body.getD .skip) (by kernel_rfl) Tryz.ntmps113 (rs := Tryz.f113.results.toList) rfl (by simp) (fun G => ?_)
  repeat' first | refine J_stop (c := .seq (.seq (.region 2 _ _) _) _) ?_ | refine J_seq ?_ | refine J_region Tryz.tyOK ?_ | refine J_block ?_ | refine J_cond ?_ | refine J_ret ?_ | refine J_skip ?_ | refine J_exit ?_ | refine J_scope ?_ | refine CondP.y ?_ | refine CondP.n ?_ | refine CondP.mk (fun h => ?_) (fun h => ?_) | refine EqP.mk rfl ?_ | refine NewP.mk (fun ad => ?_) | refine ArP.x ?_ | refine SideP.a ?_ | refine CallP.mk [] _ [] _ c1 (List.Perm.refl _) (fun _ _ => trivial) (fun v L' D' hp => ?_); obtain ⟨wa, wc, rfl, rfl, rfl⟩ := hp | fail
  refine ⟨?_⟩
  refine J_cap (List.Mem.head _) (fun hnc _ _ => ?_)
  refine J_mem (n' := 2) Ents.toFact ?_
  have hrw : ∀ L, Reads L (slFact 9 1 wa ([wGroup]).length (([wGroup]).map C.s) :: ([] ++ p.facts)) 9 1 wa ([wGroup]).length (([wGroup]).map C.s) := fun L => .inr fun m h => h.1
  repeat' first | refine CondP.no h35 ?_ | refine CondP.yes h1 ?_ | refine J_seq ?_ | refine J_region Tryz.tyOK ?_ | refine J_block ?_ | refine J_cond ?_ | refine J_ret ?_ | refine J_skip ?_ | refine J_exit ?_ | refine J_scope ?_ | refine CondP.y ?_ | refine CondP.n ?_ | refine CondP.mk (fun h => ?_) (fun h => ?_) | refine EqP.mk rfl ?_ | refine NewP.mk (fun ad => ?_) | refine ArP.x ?_ | refine SideP.a ?_ | refine IdxE.mk 9 1 _ (hrw _) (by omega) (by omega) ?_ | refine LoadE.mk 9 _ _ _ (hrw _) (by omega) (by omega) (by omega) hc0 ?_ | exact FinE.mk [] p.facts ⟨p, fun h => (by cases h), id, rfl, rfl, rfl⟩ (Ents.dropAll.trans (Ents.facts fun m h => h.2)) | fail
theorem rs_group (p : PolM) (s b : Bs) (w : List Bs) (hs : s.length ≤ 1000000) (hl : p.gs.length ≤ 1000000) (hW : wordsT blankB s = wGroup :: b :: w) : FnS Tryz.prog 113 [.agg p.cells, .c (.s s)] [] p.facts (rsPost p (true, (gpOf p.gs ++ [(b, w)], p.rs, p.xs))) := by
  have c1 := refWords_ok s hs
  have hwl := words_len (p := blankB) s []
  rw [show wordsGo blankB [] s = wordsT blankB s from rfl] at hwl
  rw [hW] at c1 hwl
  have hWl : (wGroup :: b :: w).length = w.length + 2 := rfl
  have hp : 0 < wGroup.length := by decide
  have hc0 : (((wGroup :: b :: w).map C.s).drop (0 * 1 + 0)).take 1 = [C.s wGroup] := rfl
  have hc1 : (((wGroup :: b :: w).map C.s).drop (1 * 1 + 0)).take 1 = [C.s b] := rfl
  have h35 : ¬ (((wGroup.getD (0 : Int).toNat 0).toNat : Int) = 35) := by decide
  have h1 : wGroup = wGroup := rfl
  have hgl : (gsC p.gs).length = p.gs.length * 2 := flat_len (F := GrpM.cells) (z := 2) (fun _ => rfl) p.gs
  refine fn_of_J Tryz.tyOK 0 Tryz.func113 (by kernel_rfl) (c := Tryz.f113.body.getD .skip) (by kernel_rfl) Tryz.ntmps113 (rs := Tryz.f113.results.toList) rfl (by simp) (fun G => ?_)
  repeat' first | refine J_stop (c := .seq (.seq (.region 2 _ _) _) _) ?_ | refine J_seq ?_ | refine J_region Tryz.tyOK ?_ | refine J_block ?_ | refine J_cond ?_ | refine J_ret ?_ | refine J_skip ?_ | refine J_exit ?_ | refine J_scope ?_ | refine CondP.y ?_ | refine CondP.n ?_ | refine CondP.mk (fun h => ?_) (fun h => ?_) | refine EqP.mk rfl ?_ | refine NewP.mk (fun ad => ?_) | refine ArP.x ?_ | refine SideP.a ?_ | refine CallP.mk [] _ [] _ c1 (List.Perm.refl _) (fun _ _ => trivial) (fun v L' D' hp => ?_); obtain ⟨wa, wc, rfl, rfl, rfl⟩ := hp | fail
  refine ⟨?_⟩
  refine J_cap (List.Mem.head _) (fun hnc _ _ => ?_)
  refine J_mem (n' := 2) Ents.toFact ?_
  have hrw : ∀ L, Reads L (slFact 9 1 wa (wGroup :: b :: w).length ((wGroup :: b :: w).map C.s) :: ([] ++ p.facts)) 9 1 wa (wGroup :: b :: w).length ((wGroup :: b :: w).map C.s) := fun L => .inr fun m h => h.1
  have hsub : ∀ m, allD m (slFact 9 1 wa (wGroup :: b :: w).length ((wGroup :: b :: w).map C.s) :: ([] ++ p.facts)) → SlF m 0 1 (resl wa 2 wc 1) w.length (w.map C.s) := fun m h => by
    have := slFact_sub (lo := 2) (hi := (wGroup :: b :: w).length) h.1 (by omega) (Nat.le_refl _) hnc
    rw [List.take_of_length_le (by simp)] at this
    exact this
  repeat' first | refine CondP.no h35 ?_ | refine CondP.yes h1 ?_ | refine J_stop (c := .seq (.region 9 _ _) _) ?_ | refine J_seq ?_ | refine J_region Tryz.tyOK ?_ | refine J_block ?_ | refine J_cond ?_ | refine J_ret ?_ | refine J_skip ?_ | refine J_exit ?_ | refine J_scope ?_ | refine CondP.y ?_ | refine CondP.n ?_ | refine CondP.mk (fun h => ?_) (fun h => ?_) | refine EqP.mk rfl ?_ | refine NewP.mk (fun ad => ?_) | refine ArP.x ?_ | refine SideP.a ?_ | refine IdxE.mk 9 1 _ (hrw _) (by omega) (by omega) ?_ | refine LoadE.mk 9 _ _ _ (hrw _) (by omega) (by omega) (by omega) hc0 ?_ | refine LoadE.mk 9 _ _ _ (hrw _) (by omega) (by omega) (by omega) hc1 ?_ | refine J_drawZ (id := 8) Tryz.tyOK (by kernel_rfl) [0, 1, 3, 0, 8, 24, 0, 64, 199, 511, 1023, 2047, 4095, 8191] [0, 1, 3, 4, 5, 6, 7, 2, 8, 9, 10, 11, 12, 13] [2, 8, 10, 11, 13] [2, 38] 13 false (by kernel_rfl) ?_ | refine J_drawZ (id := 15) Tryz.tyOK (by kernel_rfl) [0, 1, 3, 0, 8, 24, 56, 0, 128, 384, 903, 0, 2048, 6144, 0, 32767, 65535, 131071, 262143, 524287] [0, 1, 3, 4, 5, 6, 7, 8, 9, 11, 12, 13, 14, 2, 10, 15, 16, 17, 18, 19] [2, 16, 17, 19] [2, 7, 72, 76, 80] 19 false (by kernel_rfl) ?_ | refine J_drawT (id := 22) Tryz.tyOK (by kernel_rfl) [0, 1, 3, 0, 8, 24, 56, 0, 128, 384, 0, 0, 4088, 8184, 16383, 32767, 65535] [0, 1, 3, 4, 5, 6, 7, 8, 9, 10, 11, 12] 2 [13, 14, 15, 16] 13 [2, 14, 15, 16] [2, 13, 14, 16] [2, 9, 107, 111] 16 false (by kernel_rfl) ?_ | refine TwoP.mk ?_ ?_ | refine EntP.mk Ents.a ?_ | refine AppE.nil (gsC p.gs) p.gs.length rfl rfl rfl (SrcE.sl 0 145 _ _ _ _ _ rfl rfl (.inr fun m h => h.2.1) hgl) (by show p.gs.length * 40 ≤ _; omega) (fun a1 k1 => ?_) | refine AppE.nil (w.map C.s) w.length rfl rfl rfl (SrcE.sl 0 9 _ _ _ _ _ rfl rfl (.inr hsub) (by simp)) (by show w.length * 16 ≤ _; omega) (fun a2 k2 => ?_) | refine AppE.row [_, _] [_, _] (gsC p.gs) [.s b, .sl a2 w.length k2] 1 rfl (SrcE.sl 145 145 _ _ 1 1 _ rfl rfl (.inl ⟨1, List.Mem.head _⟩) rfl) (by show (p.gs.length + 1) * 40 ≤ _; omega) (fun a3 k3 => ?_) | fail
  refine ⟨?_⟩
  refine J_cap (List.Mem.tail _ (List.Mem.tail _ (List.Mem.head _))) (fun hnc3 _ _ => ?_)
  repeat' first | refine J_seq ?_ | refine J_region Tryz.tyOK ?_ | refine J_block ?_ | refine J_cond ?_ | refine J_ret ?_ | refine J_skip ?_ | refine J_exit ?_ | refine J_scope ?_ | refine CondP.y ?_ | refine CondP.n ?_ | refine CondP.mk (fun h => ?_) (fun h => ?_) | refine EqP.mk rfl ?_ | refine NewP.mk (fun ad => ?_) | refine ArP.x ?_ | refine SideP.a ?_ | exact FinE.mk [] ({ p with ga := a3, gc := k3, gs := p.gs ++ [⟨b, a2, k2, w⟩] } : PolM).facts ⟨{ p with ga := a3, gc := k3, gs := p.gs ++ [⟨b, a2, k2, w⟩] }, fun _ => (by simp [PolM.p3, gpOf]), fun _ => (by show (p.gs ++ [_]).length ≤ k3; rw [List.length_append]; exact hnc3), (by show _ = V.t2 (V.agg [.sl a3 (p.gs ++ [_]).length k3, _, _]) _; rw [List.length_append]; rfl), rfl, rfl⟩ (Ents.drop.trans (Ents.toFact.trans (Ents.toFact.trans (Ents.dropAll.trans (Ents.facts fun m h => ⟨(by show SlF m 0 2 a3 (p.gs ++ [_]).length (gsC (p.gs ++ [_])); rw [gsC_snoc, List.length_append]; exact h.1), memsF_add h.2.2.2.2.1 h.2.1, h.2.2.2.2.2.1, h.2.2.2.2.2.2.1, trivial⟩))))) | fail
theorem rs_rule0 (p : PolM) (s a : Bs) (w : List Bs) (hs : s.length ≤ 1000000) (hW : wordsT blankB s = a :: w) (ha : a = wAllow ∨ a = wDeny) (h : w.length < 3) : FnS Tryz.prog 113 [.agg p.cells, .c (.s s)] [] p.facts (rsPost p (false, p.p3)) := by
  have c1 := refWords_ok s hs
  rw [hW] at c1
  have hWl : (a :: w).length = w.length + 1 := rfl
  have hc0 : (((a :: w).map C.s).drop (0 * 1 + 0)).take 1 = [C.s a] := rfl
  have hp : 0 < a.length := by rcases ha with rfl | rfl <;> decide
  have h35 : ¬ (((a.getD (0 : Int).toNat 0).toNat : Int) = 35) := by rcases ha with rfl | rfl <;> decide
  have h1 : ¬ a = wGroup := by rcases ha with rfl | rfl <;> decide
  refine fn_of_J Tryz.tyOK 0 Tryz.func113 (by kernel_rfl) (c := Tryz.f113.body.getD .skip) (by kernel_rfl) Tryz.ntmps113 (rs := Tryz.f113.results.toList) rfl (by simp) (fun G => ?_)
  repeat' first | refine J_stop (c := .seq (.seq (.region 2 _ _) _) _) ?_ | refine J_seq ?_ | refine J_region Tryz.tyOK ?_ | refine J_block ?_ | refine J_cond ?_ | refine J_ret ?_ | refine J_skip ?_ | refine J_exit ?_ | refine J_scope ?_ | refine CondP.y ?_ | refine CondP.n ?_ | refine CondP.mk (fun h => ?_) (fun h => ?_) | refine EqP.mk rfl ?_ | refine NewP.mk (fun ad => ?_) | refine ArP.x ?_ | refine SideP.a ?_ | refine CallP.mk [] _ [] _ c1 (List.Perm.refl _) (fun _ _ => trivial) (fun v L' D' hp => ?_); obtain ⟨wa, wc, rfl, rfl, rfl⟩ := hp | fail
  refine ⟨?_⟩
  refine J_cap (List.Mem.head _) (fun hnc _ _ => ?_)
  refine J_mem (n' := 2) Ents.toFact ?_
  have hrw : ∀ L, Reads L (slFact 9 1 wa (a :: w).length ((a :: w).map C.s) :: ([] ++ p.facts)) 9 1 wa (a :: w).length ((a :: w).map C.s) := fun L => .inr fun m h => h.1
  rcases ha with ha | ha
  · repeat' first | refine CondP.no h35 ?_ | refine CondP.no h1 ?_ | refine CondP.yes ha ?_ | refine J_seq ?_ | refine J_region Tryz.tyOK ?_ | refine J_block ?_ | refine J_cond ?_ | refine J_ret ?_ | refine J_skip ?_ | refine J_exit ?_ | refine J_scope ?_ | refine CondP.y ?_ | refine CondP.n ?_ | refine CondP.mk (fun h => ?_) (fun h => ?_) | refine EqP.mk rfl ?_ | refine NewP.mk (fun ad => ?_) | refine ArP.x ?_ | refine SideP.a ?_ | refine IdxE.mk 9 1 _ (hrw _) (by omega) (by omega) ?_ | refine LoadE.mk 9 _ _ _ (hrw _) (by omega) (by omega) (by omega) hc0 ?_ | exact FinE.mk [] p.facts ⟨p, fun h => (by cases h), id, rfl, rfl, rfl⟩ (Ents.dropAll.trans (Ents.facts fun m h => h.2)) | fail
  · have h2 : ¬ a = wAllow := by rw [ha]; decide
    repeat' first | refine CondP.no h35 ?_ | refine CondP.no h1 ?_ | refine CondP.no h2 ?_ | refine CondP.yes ha ?_ | refine J_seq ?_ | refine J_region Tryz.tyOK ?_ | refine J_block ?_ | refine J_cond ?_ | refine J_ret ?_ | refine J_skip ?_ | refine J_exit ?_ | refine J_scope ?_ | refine CondP.y ?_ | refine CondP.n ?_ | refine CondP.mk (fun h => ?_) (fun h => ?_) | refine EqP.mk rfl ?_ | refine NewP.mk (fun ad => ?_) | refine ArP.x ?_ | refine SideP.a ?_ | refine IdxE.mk 9 1 _ (hrw _) (by omega) (by omega) ?_ | refine LoadE.mk 9 _ _ _ (hrw _) (by omega) (by omega) (by omega) hc0 ?_ | exact FinE.mk [] p.facts ⟨p, fun h => (by cases h), id, rfl, rfl, rfl⟩ (Ents.dropAll.trans (Ents.facts fun m h => h.2)) | fail
theorem rs_rule (p : PolM) (s a b c d : Bs) (w : List Bs) (hs : s.length ≤ 1000000) (hl : p.rs.length ≤ 1000000) (hW : wordsT blankB s = a :: b :: c :: d :: w) (ha : a = wAllow ∨ a = wDeny) : FnS Tryz.prog 113 [.agg p.cells, .c (.s s)] [] p.facts (rsPost p (ruleW p.p3 (decide (a = wAllow)) (b :: c :: d :: w) (restT s 3))) := by
  have c1 := refWords_ok s hs
  rw [hW] at c1
  have hWl : (a :: b :: c :: d :: w).length = w.length + 4 := rfl
  have hc0 : (((a :: b :: c :: d :: w).map C.s).drop (0 * 1 + 0)).take 1 = [C.s a] := rfl
  have hc1 : (((a :: b :: c :: d :: w).map C.s).drop (1 * 1 + 0)).take 1 = [C.s b] := rfl
  have hc2 : (((a :: b :: c :: d :: w).map C.s).drop (2 * 1 + 0)).take 1 = [C.s c] := rfl
  have hp : 0 < a.length := by rcases ha with rfl | rfl <;> decide
  have h35 : ¬ (((a.getD (0 : Int).toNat 0).toNat : Int) = 35) := by rcases ha with rfl | rfl <;> decide
  have h1 : ¬ a = wGroup := by rcases ha with rfl | rfl <;> decide
  have c2 := rightOf_ok b
  have c3 := refRest_ok s 3 hs (by omega)
  have c4 := readScope_ok (restT s 3) (by have := restT_le s 3; omega)
  have hrl : (rsC p.rs).length = p.rs.length * 6 := flat_len (F := Rul.cells) (z := 6) (fun _ => rfl) p.rs
  have hR : ruleW p.p3 (decide (a = wAllow)) (b :: c :: d :: w) (restT s 3) = if idxS rightsL b + 1 = 0 then (false, p.p3) else ((scopeV (restT s 3)).2, if (scopeV (restT s 3)).2 = true then (gpOf p.gs, p.rs ++ [⟨decide (a = wAllow), idxS rightsL b + 1, c, (scopeV (restT s 3)).1.1, (scopeV (restT s 3)).1.2.1, (scopeV (restT s 3)).1.2.2⟩], p.xs) else p.p3) := by
    unfold ruleW
    rw [scopeT_V]
    generalize scopeV (restT s 3) = v
    obtain ⟨⟨k, sp, nm⟩, ok⟩ := v
    have hlen : ¬ (b :: c :: d :: w).length < 3 := by simp
    simp only [hlen, false_or, List.getD_cons_zero]
    split
    · rfl
    · cases ok <;> rfl
  rw [hR]
  clear hR
  generalize scopeV (restT s 3) = v at *
  obtain ⟨⟨k, sp, nm⟩, ok⟩ := v
  have hk := idxS_lt rightsL b
  rw [show (rightsL.length : Int) = 5 from rfl] at hk
  generalize idxS rightsL b = z at *
  generalize restT s 3 = x at *
  simp only at c4 ⊢
  refine fn_of_J Tryz.tyOK 0 Tryz.func113 (by kernel_rfl) (c := Tryz.f113.body.getD .skip) (by kernel_rfl) Tryz.ntmps113 (rs := Tryz.f113.results.toList) rfl (by simp) (fun G => ?_)
  repeat' first | refine J_stop (c := .seq (.seq (.region 2 _ _) _) _) ?_ | refine J_seq ?_ | refine J_region Tryz.tyOK ?_ | refine J_block ?_ | refine J_cond ?_ | refine J_ret ?_ | refine J_skip ?_ | refine J_exit ?_ | refine J_scope ?_ | refine CondP.y ?_ | refine CondP.n ?_ | refine CondP.mk (fun h => ?_) (fun h => ?_) | refine EqP.mk rfl ?_ | refine NewP.mk (fun ad => ?_) | refine ArP.x ?_ | refine SideP.a ?_ | refine CallP.mk [] _ [] _ c1 (List.Perm.refl _) (fun _ _ => trivial) (fun v L' D' hp => ?_); obtain ⟨wa, wc, rfl, rfl, rfl⟩ := hp | fail
  refine ⟨?_⟩
  refine J_cap (List.Mem.head _) (fun hnc _ _ => ?_)
  refine J_mem (n' := 2) Ents.toFact ?_
  have hrw : ∀ L, Reads L (slFact 9 1 wa (a :: b :: c :: d :: w).length ((a :: b :: c :: d :: w).map C.s) :: ([] ++ p.facts)) 9 1 wa (a :: b :: c :: d :: w).length ((a :: b :: c :: d :: w).map C.s) := fun L => .inr fun m h => h.1
  by_cases hz : z + 1 = 0
  · rw [if_pos hz]
    rcases ha with ha | ha
    · repeat' first | refine CondP.no h35 ?_ | refine CondP.no h1 ?_ | refine CondP.yes ha ?_ | refine J_seq ?_ | refine J_region Tryz.tyOK ?_ | refine J_block ?_ | refine J_cond ?_ | refine J_ret ?_ | refine J_skip ?_ | refine J_exit ?_ | refine J_scope ?_ | refine CondP.y ?_ | refine CondP.n ?_ | refine CondP.mk (fun h => ?_) (fun h => ?_) | refine EqP.mk rfl ?_ | refine NewP.mk (fun ad => ?_) | refine ArP.x ?_ | refine SideP.a ?_ | refine IdxE.mk 9 1 _ (hrw _) (by omega) (by omega) ?_ | refine LoadE.mk 9 _ _ _ (hrw _) (by omega) (by omega) (by omega) hc0 ?_ | refine LoadE.mk 9 _ _ _ (hrw _) (by omega) (by omega) (by omega) hc1 ?_ | refine CallP.is c2 ?_ | exact FinE.mk [] p.facts ⟨p, fun h => (by cases h), id, rfl, rfl, rfl⟩ (Ents.dropAll.trans (Ents.facts fun m h => h.2)) | fail
    · have h2 : ¬ a = wAllow := by rw [ha]; decide
      repeat' first | refine CondP.no h35 ?_ | refine CondP.no h1 ?_ | refine CondP.no h2 ?_ | refine CondP.yes ha ?_ | refine J_seq ?_ | refine J_region Tryz.tyOK ?_ | refine J_block ?_ | refine J_cond ?_ | refine J_ret ?_ | refine J_skip ?_ | refine J_exit ?_ | refine J_scope ?_ | refine CondP.y ?_ | refine CondP.n ?_ | refine CondP.mk (fun h => ?_) (fun h => ?_) | refine EqP.mk rfl ?_ | refine NewP.mk (fun ad => ?_) | refine ArP.x ?_ | refine SideP.a ?_ | refine IdxE.mk 9 1 _ (hrw _) (by omega) (by omega) ?_ | refine LoadE.mk 9 _ _ _ (hrw _) (by omega) (by omega) (by omega) hc0 ?_ | refine LoadE.mk 9 _ _ _ (hrw _) (by omega) (by omega) (by omega) hc1 ?_ | refine CallP.is c2 ?_ | exact FinE.mk [] p.facts ⟨p, fun h => (by cases h), id, rfl, rfl, rfl⟩ (Ents.dropAll.trans (Ents.facts fun m h => h.2)) | fail
  rw [if_neg hz]
  rcases ha with ha | ha
  · rw [decide_eq_true ha]
    repeat' first | refine CondP.no h35 ?_ | refine CondP.no h1 ?_ | refine CondP.yes ha ?_ | refine J_seq ?_ | refine J_region Tryz.tyOK ?_ | refine J_block ?_ | refine J_cond ?_ | refine J_ret ?_ | refine J_skip ?_ | refine J_exit ?_ | refine J_scope ?_ | refine CondP.y ?_ | refine CondP.n ?_ | refine CondP.mk (fun h => ?_) (fun h => ?_) | refine EqP.mk rfl ?_ | refine NewP.mk (fun ad => ?_) | refine ArP.x ?_ | refine SideP.a ?_ | refine IdxE.mk 9 1 _ (hrw _) (by omega) (by omega) ?_ | refine LoadE.mk 9 _ _ _ (hrw _) (by omega) (by omega) (by omega) hc0 ?_ | refine LoadE.mk 9 _ _ _ (hrw _) (by omega) (by omega) (by omega) hc1 ?_ | refine LoadE.mk 9 _ _ _ (hrw _) (by omega) (by omega) (by omega) hc2 ?_ | refine CallP.is c2 ?_ | refine CallP.is c3 ?_ | refine CallP.is c4 ?_ | refine J_drawZ (id := 8) Tryz.tyOK (by kernel_rfl) [0, 1, 3, 0, 8, 24, 0, 64, 199, 511, 1023, 2047, 4095, 8191] [0, 1, 3, 4, 5, 6, 7, 2, 8, 9, 10, 11, 12, 13] [2, 8, 10, 11, 13] [2, 38] 13 false (by kernel_rfl) ?_ | refine J_drawZ (id := 15) Tryz.tyOK (by kernel_rfl) [0, 1, 3, 0, 8, 24, 56, 0, 128, 384, 903, 0, 2048, 6144, 0, 32767, 65535, 131071, 262143, 524287] [0, 1, 3, 4, 5, 6, 7, 8, 9, 11, 12, 13, 14, 2, 10, 15, 16, 17, 18, 19] [2, 16, 17, 19] [2, 7, 72, 76, 80] 19 false (by kernel_rfl) ?_ | refine J_drawT (id := 22) Tryz.tyOK (by kernel_rfl) [0, 1, 3, 0, 8, 24, 56, 0, 128, 384, 0, 0, 4088, 8184, 16383, 32767, 65535] [0, 1, 3, 4, 5, 6, 7, 8, 9, 10, 11, 12] 2 [13, 14, 15, 16] 13 [2, 14, 15, 16] [2, 13, 14, 16] [2, 9, 107, 111] 16 false (by kernel_rfl) ?_ | refine TwoP.mk ?_ ?_ | refine EntP.mk Ents.a ?_ | refine CallQ.mk [] _ c2 (fun _ _ => trivial) ?_ | refine AppE.nil (rsC p.rs) p.rs.length rfl rfl rfl (SrcE.sl 0 152 _ _ _ _ _ rfl rfl (.inr fun m h => h.2.2.2.1) hrl) (by show p.rs.length * 64 ≤ _; omega) (fun a1 k1 => ?_) | refine AppE.row [_] [_, _, _] (rsC p.rs) _ 1 rfl (SrcE.sl 152 152 _ _ 1 1 _ rfl rfl (.inl ⟨1, List.Mem.head _⟩) rfl) (by show (p.rs.length + 1) * 64 ≤ _; omega) (fun a3 k3 => ?_) | exact FinE.mk [] ({ p with ra := a3, rc := k3, rs := p.rs ++ [⟨true, z + 1, c, k, sp, nm⟩] } : PolM).facts ⟨{ p with ra := a3, rc := k3, rs := p.rs ++ [⟨true, z + 1, c, k, sp, nm⟩] }, (by intro h; first | rfl | (cases h; done) | (simp at h; subst h; simp [PolM.p3])), id, (by show _ = V.t2 (V.agg [_, .sl a3 (p.rs ++ [_]).length k3, _]) _; rw [List.length_append]; rfl), rfl, rfl⟩ (Ents.drop.trans (Ents.toFact.trans (Ents.dropAll.trans (Ents.facts fun m h => ⟨h.2.2.1, h.2.2.2.1, (by show SlF m 0 6 a3 (p.rs ++ [_]).length (rsC (p.rs ++ [_])); rw [rsC_snoc, List.length_append]; exact h.1), h.2.2.2.2.2.1, trivial⟩)))) | fail
  · have h2 : ¬ a = wAllow := by rw [ha]; decide
    rw [decide_eq_false h2]
    repeat' first | refine CondP.no h35 ?_ | refine CondP.no h1 ?_ | refine CondP.no h2 ?_ | refine CondP.yes ha ?_ | refine J_seq ?_ | refine J_region Tryz.tyOK ?_ | refine J_block ?_ | refine J_cond ?_ | refine J_ret ?_ | refine J_skip ?_ | refine J_exit ?_ | refine J_scope ?_ | refine CondP.y ?_ | refine CondP.n ?_ | refine CondP.mk (fun h => ?_) (fun h => ?_) | refine EqP.mk rfl ?_ | refine NewP.mk (fun ad => ?_) | refine ArP.x ?_ | refine SideP.a ?_ | refine IdxE.mk 9 1 _ (hrw _) (by omega) (by omega) ?_ | refine LoadE.mk 9 _ _ _ (hrw _) (by omega) (by omega) (by omega) hc0 ?_ | refine LoadE.mk 9 _ _ _ (hrw _) (by omega) (by omega) (by omega) hc1 ?_ | refine LoadE.mk 9 _ _ _ (hrw _) (by omega) (by omega) (by omega) hc2 ?_ | refine CallP.is c2 ?_ | refine CallP.is c3 ?_ | refine CallP.is c4 ?_ | refine J_drawZ (id := 8) Tryz.tyOK (by kernel_rfl) [0, 1, 3, 0, 8, 24, 0, 64, 199, 511, 1023, 2047, 4095, 8191] [0, 1, 3, 4, 5, 6, 7, 2, 8, 9, 10, 11, 12, 13] [2, 8, 10, 11, 13] [2, 38] 13 false (by kernel_rfl) ?_ | refine J_drawZ (id := 15) Tryz.tyOK (by kernel_rfl) [0, 1, 3, 0, 8, 24, 56, 0, 128, 384, 903, 0, 2048, 6144, 0, 32767, 65535, 131071, 262143, 524287] [0, 1, 3, 4, 5, 6, 7, 8, 9, 11, 12, 13, 14, 2, 10, 15, 16, 17, 18, 19] [2, 16, 17, 19] [2, 7, 72, 76, 80] 19 false (by kernel_rfl) ?_ | refine J_drawT (id := 22) Tryz.tyOK (by kernel_rfl) [0, 1, 3, 0, 8, 24, 56, 0, 128, 384, 0, 0, 4088, 8184, 16383, 32767, 65535] [0, 1, 3, 4, 5, 6, 7, 8, 9, 10, 11, 12] 2 [13, 14, 15, 16] 13 [2, 14, 15, 16] [2, 13, 14, 16] [2, 9, 107, 111] 16 false (by kernel_rfl) ?_ | refine TwoP.mk ?_ ?_ | refine EntP.mk Ents.a ?_ | refine CallQ.mk [] _ c2 (fun _ _ => trivial) ?_ | refine AppE.nil (rsC p.rs) p.rs.length rfl rfl rfl (SrcE.sl 0 152 _ _ _ _ _ rfl rfl (.inr fun m h => h.2.2.2.1) hrl) (by show p.rs.length * 64 ≤ _; omega) (fun a1 k1 => ?_) | refine AppE.row [_] [_, _, _] (rsC p.rs) _ 1 rfl (SrcE.sl 152 152 _ _ 1 1 _ rfl rfl (.inl ⟨1, List.Mem.head _⟩) rfl) (by show (p.rs.length + 1) * 64 ≤ _; omega) (fun a3 k3 => ?_) | exact FinE.mk [] ({ p with ra := a3, rc := k3, rs := p.rs ++ [⟨false, z + 1, c, k, sp, nm⟩] } : PolM).facts ⟨{ p with ra := a3, rc := k3, rs := p.rs ++ [⟨false, z + 1, c, k, sp, nm⟩] }, (by intro h; first | rfl | (cases h; done) | (simp at h; subst h; simp [PolM.p3])), id, (by show _ = V.t2 (V.agg [_, .sl a3 (p.rs ++ [_]).length k3, _]) _; rw [List.length_append]; rfl), rfl, rfl⟩ (Ents.drop.trans (Ents.toFact.trans (Ents.dropAll.trans (Ents.facts fun m h => ⟨h.2.2.1, h.2.2.2.1, (by show SlF m 0 6 a3 (p.rs ++ [_]).length (rsC (p.rs ++ [_])); rw [rsC_snoc, List.length_append]; exact h.1), h.2.2.2.2.2.1, trivial⟩)))) | fail
theorem rs_guard0 (p : PolM) (s a : Bs) (w : List Bs) (hs : s.length ≤ 1000000) (hW : wordsT blankB s = a :: w) (ha : a = wGuard ∨ a = wStrict) (h : w.length < 2) : FnS Tryz.prog 113 [.agg p.cells, .c (.s s)] [] p.facts (rsPost p (false, p.p3)) := by
  have c1 := refWords_ok s hs
  rw [hW] at c1
  have hWl : (a :: w).length = w.length + 1 := rfl
  have hc0 : (((a :: w).map C.s).drop (0 * 1 + 0)).take 1 = [C.s a] := rfl
  have hp : 0 < a.length := by rcases ha with rfl | rfl <;> decide
  have h35 : ¬ (((a.getD (0 : Int).toNat 0).toNat : Int) = 35) := by rcases ha with rfl | rfl <;> decide
  have h1 : ¬ a = wGroup := by rcases ha with rfl | rfl <;> decide
  have h2 : ¬ a = wAllow := by rcases ha with rfl | rfl <;> decide
  have h3 : ¬ a = wDeny := by rcases ha with rfl | rfl <;> decide
  refine fn_of_J Tryz.tyOK 0 Tryz.func113 (by kernel_rfl) (c := Tryz.f113.body.getD .skip) (by kernel_rfl) Tryz.ntmps113 (rs := Tryz.f113.results.toList) rfl (by simp) (fun G => ?_)
  repeat' first | refine J_stop (c := .seq (.seq (.region 2 _ _) _) _) ?_ | refine J_seq ?_ | refine J_region Tryz.tyOK ?_ | refine J_block ?_ | refine J_cond ?_ | refine J_ret ?_ | refine J_skip ?_ | refine J_exit ?_ | refine J_scope ?_ | refine CondP.y ?_ | refine CondP.n ?_ | refine CondP.mk (fun h => ?_) (fun h => ?_) | refine EqP.mk rfl ?_ | refine NewP.mk (fun ad => ?_) | refine ArP.x ?_ | refine SideP.a ?_ | refine CallP.mk [] _ [] _ c1 (List.Perm.refl _) (fun _ _ => trivial) (fun v L' D' hp => ?_); obtain ⟨wa, wc, rfl, rfl, rfl⟩ := hp | fail
  refine ⟨?_⟩
  refine J_cap (List.Mem.head _) (fun hnc _ _ => ?_)
  refine J_mem (n' := 2) Ents.toFact ?_
  have hrw : ∀ L, Reads L (slFact 9 1 wa (a :: w).length ((a :: w).map C.s) :: ([] ++ p.facts)) 9 1 wa (a :: w).length ((a :: w).map C.s) := fun L => .inr fun m h => h.1
  rcases ha with ha | ha
  · repeat' first | refine CondP.no h35 ?_ | refine CondP.no h1 ?_ | refine CondP.no h2 ?_ | refine CondP.no h3 ?_ | refine CondP.yes ha ?_ | refine J_seq ?_ | refine J_region Tryz.tyOK ?_ | refine J_block ?_ | refine J_cond ?_ | refine J_ret ?_ | refine J_skip ?_ | refine J_exit ?_ | refine J_scope ?_ | refine CondP.y ?_ | refine CondP.n ?_ | refine CondP.mk (fun h => ?_) (fun h => ?_) | refine EqP.mk rfl ?_ | refine NewP.mk (fun ad => ?_) | refine ArP.x ?_ | refine SideP.a ?_ | refine IdxE.mk 9 1 _ (hrw _) (by omega) (by omega) ?_ | refine LoadE.mk 9 _ _ _ (hrw _) (by omega) (by omega) (by omega) hc0 ?_ | exact FinE.mk [] p.facts ⟨p, fun h => (by cases h), id, rfl, rfl, rfl⟩ (Ents.dropAll.trans (Ents.facts fun m h => h.2)) | fail
  · have h4 : ¬ a = wGuard := by rw [ha]; decide
    repeat' first | refine CondP.no h35 ?_ | refine CondP.no h1 ?_ | refine CondP.no h2 ?_ | refine CondP.no h3 ?_ | refine CondP.no h4 ?_ | refine CondP.yes ha ?_ | refine J_seq ?_ | refine J_region Tryz.tyOK ?_ | refine J_block ?_ | refine J_cond ?_ | refine J_ret ?_ | refine J_skip ?_ | refine J_exit ?_ | refine J_scope ?_ | refine CondP.y ?_ | refine CondP.n ?_ | refine CondP.mk (fun h => ?_) (fun h => ?_) | refine EqP.mk rfl ?_ | refine NewP.mk (fun ad => ?_) | refine ArP.x ?_ | refine SideP.a ?_ | refine IdxE.mk 9 1 _ (hrw _) (by omega) (by omega) ?_ | refine LoadE.mk 9 _ _ _ (hrw _) (by omega) (by omega) (by omega) hc0 ?_ | exact FinE.mk [] p.facts ⟨p, fun h => (by cases h), id, rfl, rfl, rfl⟩ (Ents.dropAll.trans (Ents.facts fun m h => h.2)) | fail
theorem rs_guard (p : PolM) (s a b c : Bs) (w : List Bs) (hs : s.length ≤ 1000000) (hl : p.xs.length ≤ 1000000) (hW : wordsT blankB s = a :: b :: c :: w) (ha : a = wGuard ∨ a = wStrict) : FnS Tryz.prog 113 [.agg p.cells, .c (.s s)] [] p.facts (rsPost p (guardW p.p3 (decide (a = wStrict)) (b :: c :: w) (restT s 2))) := by
  have c1 := refWords_ok s hs
  rw [hW] at c1
  have hWl : (a :: b :: c :: w).length = w.length + 3 := rfl
  have hc0 : (((a :: b :: c :: w).map C.s).drop (0 * 1 + 0)).take 1 = [C.s a] := rfl
  have hc1 : (((a :: b :: c :: w).map C.s).drop (1 * 1 + 0)).take 1 = [C.s b] := rfl
  have hp : 0 < a.length := by rcases ha with rfl | rfl <;> decide
  have h35 : ¬ (((a.getD (0 : Int).toNat 0).toNat : Int) = 35) := by rcases ha with rfl | rfl <;> decide
  have h1 : ¬ a = wGroup := by rcases ha with rfl | rfl <;> decide
  have h2 : ¬ a = wAllow := by rcases ha with rfl | rfl <;> decide
  have h3 : ¬ a = wDeny := by rcases ha with rfl | rfl <;> decide
  have c3 := refRest_ok s 2 hs (by omega)
  have c4 := readGuard_ok (restT s 2) (by have := restT_le s 2; omega)
  have hxl : (xsC p.xs).length = p.xs.length * 5 := flat_len (F := Grd.cells) (z := 5) (fun _ => rfl) p.xs
  have hR : guardW p.p3 (decide (a = wStrict)) (b :: c :: w) (restT s 2) = ((grdV (restT s 2)).2.2, if (grdV (restT s 2)).2.2 = true then (gpOf p.gs, p.rs, p.xs ++ [⟨decide (a = wStrict), b, (grdV (restT s 2)).1.1, (grdV (restT s 2)).1.2, (grdV (restT s 2)).2.1⟩]) else p.p3) := by
    rw [guardW_V (by simp)]
    generalize grdV (restT s 2) = v
    obtain ⟨⟨sp, nm⟩, sec, ok⟩ := v
    cases ok <;> rfl
  rw [hR]
  clear hR
  generalize grdV (restT s 2) = v at *
  obtain ⟨⟨sp, nm⟩, sec, ok⟩ := v
  generalize restT s 2 = x at *
  simp only at c4 ⊢
  refine fn_of_J Tryz.tyOK 0 Tryz.func113 (by kernel_rfl) (c := Tryz.f113.body.getD .skip) (by kernel_rfl) Tryz.ntmps113 (rs := Tryz.f113.results.toList) rfl (by simp) (fun G => ?_)
  repeat' first | refine J_stop (c := .seq (.seq (.region 2 _ _) _) _) ?_ | refine J_seq ?_ | refine J_region Tryz.tyOK ?_ | refine J_block ?_ | refine J_cond ?_ | refine J_ret ?_ | refine J_skip ?_ | refine J_exit ?_ | refine J_scope ?_ | refine CondP.y ?_ | refine CondP.n ?_ | refine CondP.mk (fun h => ?_) (fun h => ?_) | refine EqP.mk rfl ?_ | refine NewP.mk (fun ad => ?_) | refine ArP.x ?_ | refine SideP.a ?_ | refine CallP.mk [] _ [] _ c1 (List.Perm.refl _) (fun _ _ => trivial) (fun v L' D' hp => ?_); obtain ⟨wa, wc, rfl, rfl, rfl⟩ := hp | fail
  refine ⟨?_⟩
  refine J_cap (List.Mem.head _) (fun hnc _ _ => ?_)
  refine J_mem (n' := 2) Ents.toFact ?_
  have hrw : ∀ L, Reads L (slFact 9 1 wa (a :: b :: c :: w).length ((a :: b :: c :: w).map C.s) :: ([] ++ p.facts)) 9 1 wa (a :: b :: c :: w).length ((a :: b :: c :: w).map C.s) := fun L => .inr fun m h => h.1
  rcases ha with ha | ha
  · have h5 : ¬ a = wStrict := by rw [ha]; decide
    rw [decide_eq_false h5]
    repeat' first | refine CondP.no h35 ?_ | refine CondP.no h1 ?_ | refine CondP.no h2 ?_ | refine CondP.no h3 ?_ | refine CondP.no h5 ?_ | refine CondP.yes ha ?_ | refine J_seq ?_ | refine J_region Tryz.tyOK ?_ | refine J_block ?_ | refine J_cond ?_ | refine J_ret ?_ | refine J_skip ?_ | refine J_exit ?_ | refine J_scope ?_ | refine CondP.y ?_ | refine CondP.n ?_ | refine CondP.mk (fun h => ?_) (fun h => ?_) | refine EqP.mk rfl ?_ | refine NewP.mk (fun ad => ?_) | refine ArP.x ?_ | refine SideP.a ?_ | refine IdxE.mk 9 1 _ (hrw _) (by omega) (by omega) ?_ | refine LoadE.mk 9 _ _ _ (hrw _) (by omega) (by omega) (by omega) hc0 ?_ | refine LoadE.mk 9 _ _ _ (hrw _) (by omega) (by omega) (by omega) hc1 ?_ | refine CallP.is c3 ?_ | refine CallP.is c4 ?_ | refine J_drawZ (id := 8) Tryz.tyOK (by kernel_rfl) [0, 1, 3, 0, 8, 24, 0, 64, 199, 511, 1023, 2047, 4095, 8191] [0, 1, 3, 4, 5, 6, 7, 2, 8, 9, 10, 11, 12, 13] [2, 8, 10, 11, 13] [2, 38] 13 false (by kernel_rfl) ?_ | refine J_drawZ (id := 15) Tryz.tyOK (by kernel_rfl) [0, 1, 3, 0, 8, 24, 56, 0, 128, 384, 903, 0, 2048, 6144, 0, 32767, 65535, 131071, 262143, 524287] [0, 1, 3, 4, 5, 6, 7, 8, 9, 11, 12, 13, 14, 2, 10, 15, 16, 17, 18, 19] [2, 16, 17, 19] [2, 7, 72, 76, 80] 19 false (by kernel_rfl) ?_ | refine J_drawT (id := 22) Tryz.tyOK (by kernel_rfl) [0, 1, 3, 0, 8, 24, 56, 0, 128, 384, 0, 0, 4088, 8184, 16383, 32767, 65535] [0, 1, 3, 4, 5, 6, 7, 8, 9, 10, 11, 12] 2 [13, 14, 15, 16] 13 [2, 14, 15, 16] [2, 13, 14, 16] [2, 9, 107, 111] 16 false (by kernel_rfl) ?_ | refine TwoP.mk ?_ ?_ | refine EntP.mk Ents.a ?_ | refine AppE.nil (xsC p.xs) p.xs.length rfl rfl rfl (SrcE.sl 0 213 _ _ _ _ _ rfl rfl (.inr fun m h => h.2.2.2.2.1) hxl) (by show p.xs.length * 64 ≤ _; omega) (fun a1 k1 => ?_) | refine AppE.row [_] [_, _, _] (xsC p.xs) _ 1 rfl (SrcE.sl 213 213 _ _ 1 1 _ rfl rfl (.inl ⟨1, List.Mem.head _⟩) rfl) (by show (p.xs.length + 1) * 64 ≤ _; omega) (fun a3 k3 => ?_) | refine AppE.row [] [_, _, _, _] (xsC p.xs) _ 1 rfl (SrcE.sl 213 213 _ _ 1 1 _ rfl rfl (.inl ⟨1, List.Mem.tail _ (List.Mem.head _)⟩) rfl) (by show (p.xs.length + 1) * 64 ≤ _; omega) (fun a3 k3 => ?_) | exact FinE.mk [] ({ p with xa := a3, xc := k3, xs := p.xs ++ [⟨false, b, sp, nm, sec⟩] } : PolM).facts ⟨{ p with xa := a3, xc := k3, xs := p.xs ++ [⟨false, b, sp, nm, sec⟩] }, (by intro h; first | rfl | (cases h; done) | (simp at h; subst h; simp [PolM.p3])), id, (by show _ = V.t2 (V.agg [_, _, .sl a3 (p.xs ++ [_]).length k3]) _; rw [List.length_append]; rfl), rfl, rfl⟩ (Ents.drop.trans (Ents.toFact.trans (Ents.dropAll.trans (Ents.facts fun m h => ⟨h.2.2.1, h.2.2.2.1, h.2.2.2.2.1, (by show SlF m 0 5 a3 (p.xs ++ [_]).length (xsC (p.xs ++ [_])); rw [xsC_snoc, List.length_append]; exact h.1), trivial⟩)))) | exact FinE.mk [] ({ p with xa := a3, xc := k3, xs := p.xs ++ [⟨false, b, sp, nm, sec⟩] } : PolM).facts ⟨{ p with xa := a3, xc := k3, xs := p.xs ++ [⟨false, b, sp, nm, sec⟩] }, (by intro h; first | rfl | (cases h; done) | (simp at h; subst h; simp [PolM.p3])), id, (by show _ = V.t2 (V.agg [_, _, .sl a3 (p.xs ++ [_]).length k3]) _; rw [List.length_append]; rfl), rfl, rfl⟩ ((Ents.toFact.trans (Ents.dropAll.trans (Ents.facts fun m h => ⟨h.2.2.1, h.2.2.2.1, h.2.2.2.2.1, (by show SlF m 0 5 a3 (p.xs ++ [_]).length (xsC (p.xs ++ [_])); rw [xsC_snoc, List.length_append]; exact h.1), trivial⟩)))) | fail
  · have h4 : ¬ a = wGuard := by rw [ha]; decide
    rw [decide_eq_true ha]
    repeat' first | refine CondP.no h35 ?_ | refine CondP.no h1 ?_ | refine CondP.no h2 ?_ | refine CondP.no h3 ?_ | refine CondP.no h4 ?_ | refine CondP.yes ha ?_ | refine J_seq ?_ | refine J_region Tryz.tyOK ?_ | refine J_block ?_ | refine J_cond ?_ | refine J_ret ?_ | refine J_skip ?_ | refine J_exit ?_ | refine J_scope ?_ | refine CondP.y ?_ | refine CondP.n ?_ | refine CondP.mk (fun h => ?_) (fun h => ?_) | refine EqP.mk rfl ?_ | refine NewP.mk (fun ad => ?_) | refine ArP.x ?_ | refine SideP.a ?_ | refine IdxE.mk 9 1 _ (hrw _) (by omega) (by omega) ?_ | refine LoadE.mk 9 _ _ _ (hrw _) (by omega) (by omega) (by omega) hc0 ?_ | refine LoadE.mk 9 _ _ _ (hrw _) (by omega) (by omega) (by omega) hc1 ?_ | refine CallP.is c3 ?_ | refine CallP.is c4 ?_ | refine J_drawZ (id := 8) Tryz.tyOK (by kernel_rfl) [0, 1, 3, 0, 8, 24, 0, 64, 199, 511, 1023, 2047, 4095, 8191] [0, 1, 3, 4, 5, 6, 7, 2, 8, 9, 10, 11, 12, 13] [2, 8, 10, 11, 13] [2, 38] 13 false (by kernel_rfl) ?_ | refine J_drawZ (id := 15) Tryz.tyOK (by kernel_rfl) [0, 1, 3, 0, 8, 24, 56, 0, 128, 384, 903, 0, 2048, 6144, 0, 32767, 65535, 131071, 262143, 524287] [0, 1, 3, 4, 5, 6, 7, 8, 9, 11, 12, 13, 14, 2, 10, 15, 16, 17, 18, 19] [2, 16, 17, 19] [2, 7, 72, 76, 80] 19 false (by kernel_rfl) ?_ | refine J_drawT (id := 22) Tryz.tyOK (by kernel_rfl) [0, 1, 3, 0, 8, 24, 56, 0, 128, 384, 0, 0, 4088, 8184, 16383, 32767, 65535] [0, 1, 3, 4, 5, 6, 7, 8, 9, 10, 11, 12] 2 [13, 14, 15, 16] 13 [2, 14, 15, 16] [2, 13, 14, 16] [2, 9, 107, 111] 16 false (by kernel_rfl) ?_ | refine TwoP.mk ?_ ?_ | refine EntP.mk Ents.a ?_ | refine AppE.nil (xsC p.xs) p.xs.length rfl rfl rfl (SrcE.sl 0 213 _ _ _ _ _ rfl rfl (.inr fun m h => h.2.2.2.2.1) hxl) (by show p.xs.length * 64 ≤ _; omega) (fun a1 k1 => ?_) | refine AppE.row [_] [_, _, _] (xsC p.xs) _ 1 rfl (SrcE.sl 213 213 _ _ 1 1 _ rfl rfl (.inl ⟨1, List.Mem.head _⟩) rfl) (by show (p.xs.length + 1) * 64 ≤ _; omega) (fun a3 k3 => ?_) | refine AppE.row [] [_, _, _, _] (xsC p.xs) _ 1 rfl (SrcE.sl 213 213 _ _ 1 1 _ rfl rfl (.inl ⟨1, List.Mem.tail _ (List.Mem.head _)⟩) rfl) (by show (p.xs.length + 1) * 64 ≤ _; omega) (fun a3 k3 => ?_) | exact FinE.mk [] ({ p with xa := a3, xc := k3, xs := p.xs ++ [⟨true, b, sp, nm, sec⟩] } : PolM).facts ⟨{ p with xa := a3, xc := k3, xs := p.xs ++ [⟨true, b, sp, nm, sec⟩] }, (by intro h; first | rfl | (cases h; done) | (simp at h; subst h; simp [PolM.p3])), id, (by show _ = V.t2 (V.agg [_, _, .sl a3 (p.xs ++ [_]).length k3]) _; rw [List.length_append]; rfl), rfl, rfl⟩ (Ents.drop.trans (Ents.toFact.trans (Ents.dropAll.trans (Ents.facts fun m h => ⟨h.2.2.1, h.2.2.2.1, h.2.2.2.2.1, (by show SlF m 0 5 a3 (p.xs ++ [_]).length (xsC (p.xs ++ [_])); rw [xsC_snoc, List.length_append]; exact h.1), trivial⟩)))) | exact FinE.mk [] ({ p with xa := a3, xc := k3, xs := p.xs ++ [⟨true, b, sp, nm, sec⟩] } : PolM).facts ⟨{ p with xa := a3, xc := k3, xs := p.xs ++ [⟨true, b, sp, nm, sec⟩] }, (by intro h; first | rfl | (cases h; done) | (simp at h; subst h; simp [PolM.p3])), id, (by show _ = V.t2 (V.agg [_, _, .sl a3 (p.xs ++ [_]).length k3]) _; rw [List.length_append]; rfl), rfl, rfl⟩ ((Ents.toFact.trans (Ents.dropAll.trans (Ents.facts fun m h => ⟨h.2.2.1, h.2.2.2.1, h.2.2.2.2.1, (by show SlF m 0 5 a3 (p.xs ++ [_]).length (xsC (p.xs ++ [_])); rw [xsC_snoc, List.length_append]; exact h.1), trivial⟩)))) | fail
end Go.Proofs

/- This text walks through the statements and the check of whole policies in the reference of chapter 12. -/
namespace Go.Proofs
open Go Go.X
set_option maxRecDepth 100000
set_option maxHeartbeats 4000000
theorem refStatement_ok (p : PolM) (s : Bs) (hs : s.length ≤ 1000000) (hg : p.gs.length ≤ 1000000) (hl : p.rs.length ≤ 1000000) (hx : p.xs.length ≤ 1000000) :
    FnS Tryz.prog 113 [.agg p.cells, .c (.s s)] [] p.facts (rsPost p (stmtT p.p3 s)) := by
  cases hW : wordsT blankB s with
  | nil => rw [stmt_none hW]; exact rs_none p s hs hW
  | cons a w =>
    have ha := pos_of_ne (stmt_word hW).1
    have hb := byte_iff (x := a.getD 0 0) (n := 35) (by decide)
    by_cases h0 : a.getD 0 0 = 35
    · rw [stmt_hash hW h0]; exact rs_hash p s a w hs hW ha (hb.2 h0)
    have h35 : ¬ (((a.getD (0 : Int).toNat 0).toNat : Int) = 35) := fun h => h0 (hb.1 h)
    by_cases h1 : a = wGroup
    · subst h1
      rw [stmt_group hW]
      cases w with
      | nil => exact rs_group0 p s _ hs hW
      | cons b w => exact rs_group p s b w hs hg hW
    by_cases h2 : a = wAllow ∨ a = wDeny
    · rw [stmt_rule hW h2]
      by_cases h3 : w.length < 3
      · have : ruleW p.p3 (decide (a = wAllow)) w (restT s 3) = (false, p.p3) := by unfold ruleW; rw [if_pos (.inl h3)]
        rw [this]; exact rs_rule0 p s a w hs hW h2 h3
      · match w, h3, hW with
        | [], h3, _ => simp at h3
        | [_], h3, _ => simp at h3
        | [_, _], h3, _ => simp at h3
        | b :: c :: d :: w, _, hW => exact rs_rule p s a b c d w hs hl hW h2
    by_cases h3 : a = wGuard ∨ a = wStrict
    · rw [stmt_guard hW h3]
      by_cases h4 : w.length < 2
      · have : guardW p.p3 (decide (a = wStrict)) w (restT s 2) = (false, p.p3) := by unfold guardW; rw [if_pos h4]
        rw [this]; exact rs_guard0 p s a w hs hW h3 h4
      · match w, h4, hW with
        | [], h4, _ => simp at h4
        | [_], h4, _ => simp at h4
        | b :: c :: w, _, hW => exact rs_guard p s a b c w hs hx hW h3
    have h5 : ¬ a = wAllow := fun h => h2 (.inl h)
    have h6 : ¬ a = wDeny := fun h => h2 (.inr h)
    have h7 : ¬ a = wGuard := fun h => h3 (.inl h)
    have h8 : ¬ a = wStrict := fun h => h3 (.inr h)
    rw [stmt_other hW h0 h1 h5 h6 h7 h8]
    exact rs_other p s a w hs hW ha h35 h1 h5 h6 h7 h8
theorem refValidate_ok (p : PolM) (h : PolOK p) : FnS Tryz.prog 114 [.agg p.cells] [] p.facts (Is (.c (.i .i64 (validateT (gpOf p.gs) p.rs p.xs)))) := by
  have hgl := h.gl
  have hrl := h.rl
  have hxl := h.xl
  have hrr : ∀ L, Reads L p.facts 0 6 p.ra p.rs.length (rsC p.rs) := fun L => .inr fun m h => h.2.2.1
  have hrx : ∀ L, Reads L p.facts 0 5 p.xa p.xs.length (xsC p.xs) := fun L => .inr fun m h => h.2.2.2.1
  have hgp : (gpOf p.gs).length = p.gs.length := by simp [gpOf]
  by_cases hbig : 24 < (p.gs.length : Int) ∨ 64 < (p.rs.length : Int) ∨ 64 < (p.xs.length : Int)
  · have hv : validateT (gpOf p.gs) p.rs p.xs = 3 := by unfold validateT; rw [if_pos (by rw [hgp]; exact hbig)]
    rw [hv]
    refine fn_of_J Tryz.tyOK 0 Tryz.func114 (by kernel_rfl) (c := Tryz.f114.body.getD .skip) (by kernel_rfl) Tryz.ntmps114 (rs := Tryz.f114.results.toList) rfl (by simp) (fun G => ?_)
    repeat' first | refine J_seq ?_ | refine J_region Tryz.tyOK ?_ | refine J_block ?_ | refine J_cond ?_ | refine J_ret ?_ | refine J_skip ?_ | refine J_exit ?_ | refine J_scope ?_ | refine CondP.y ?_ | refine CondP.n ?_ | refine CondP.mk (fun h => ?_) (fun h => ?_) | refine EqP.mk rfl ?_ | refine NewP.mk (fun ad => ?_) | refine ArP.x ?_ | refine SideP.a ?_ | refine FinE.int rfl | fail
  · have hv : validateT (gpOf p.gs) p.rs p.xs = firstErr (grpErrs (gpOf p.gs) ++ (p.rs.map (rulErr (names p.gs)) ++ p.xs.map (grdErr (names p.gs)))) := by
      unfold validateT; rw [if_neg (by rw [hgp]; exact hbig), gp_names, List.append_assoc]
    rw [hv]
    generalize hR : p.rs.map (rulErr (names p.gs)) = R
    generalize hX : p.xs.map (grdErr (names p.gs)) = X
    have hRl : R.length = p.rs.length := by rw [← hR]; simp
    have hXl : X.length = p.xs.length := by rw [← hX]; simp
    generalize hV : firstErr (grpErrs (gpOf p.gs) ++ (R ++ X)) = v
    have hRg : ∀ (i : Nat) (hi : i < p.rs.length), R[i]'(by omega) = rulErr (names p.gs) p.rs[i] := fun i hi => by simp [← hR]
    have hXg : ∀ (i : Nat) (hi : i < p.xs.length), X[i]'(by omega) = grdErr (names p.gs) p.xs[i] := fun i hi => by simp [← hX]
    have ce := fun s => refExists_ok p.ga p.gc p.gs s hgl
    refine fn_of_J Tryz.tyOK 0 Tryz.func114 (by kernel_rfl) (c := Tryz.f114.body.getD .skip) (by kernel_rfl) Tryz.ntmps114 (rs := Tryz.f114.results.toList) rfl (by simp) (fun G => ?_)
    repeat' first | refine J_seq ?_ | refine J_region Tryz.tyOK ?_ | refine J_block ?_ | refine J_cond ?_ | refine J_ret ?_ | refine J_skip ?_ | refine J_exit ?_ | refine J_scope ?_ | refine CondP.y ?_ | refine CondP.n ?_ | refine CondP.mk (fun h => ?_) (fun h => ?_) | refine EqP.mk rfl ?_ | refine NewP.mk (fun ad => ?_) | refine ArP.x ?_ | refine SideP.a ?_ | fail
    refine J_loop (α := Nat) (fun i => [(1, .c (.p 0 ad 0)), (3, .c (.i .i64 i))]) (fun _ => [.box 0 ad 28 p.cells]) (fun _ => p.facts) 1
      (fun i => i ≤ p.gs.length ∧ v = firstErr ((grpErrs (gpOf p.gs)).drop i ++ (R ++ X))) (fun i => p.gs.length - i) (InFam.mk 0 ⟨by omega, hV.symm⟩ SubE.a (Ents.refl _ _)) (fun i hi => ?_)
    obtain ⟨hi, he⟩ := hi
    by_cases hlt : i < p.gs.length
    · have hc := refGroup_ok p i hlt h.gc h.gl h.gb
      rw [List.drop_eq_getElem_cons (by rw [grpErrs_len]; exact hlt), grpErrs_get _ hlt, List.cons_append, firstErr_cons] at he
      generalize grpErr (names p.gs) ((names p.gs).take i) p.gs[i].name p.gs[i].mem = e at *
      repeat' first | refine J_seq ?_ | refine J_region Tryz.tyOK ?_ | refine J_block ?_ | refine J_cond ?_ | refine J_ret ?_ | refine J_skip ?_ | refine J_exit ?_ | refine J_scope ?_ | refine CondP.y ?_ | refine CondP.n ?_ | refine CondP.mk (fun h => ?_) (fun h => ?_) | refine EqP.mk rfl ?_ | refine NewP.mk (fun ad => ?_) | refine ArP.x ?_ | refine SideP.a ?_ | refine CallP.is hc ?_ (fun _ h => h) | refine FinE.int ?_ | refine Round.mk (i + 1) (by omega) ⟨by omega, ?_⟩ SubE.a (Ents.refl _ _) | fail
      all_goals first | rw [he, if_pos (by assumption)] | rw [he, if_neg (by assumption)]
    · have hil : i = p.gs.length := by omega
      subst hil
      rw [List.drop_of_length_le (by rw [grpErrs_len]; omega), List.nil_append] at he
      clear hlt hi hV
      repeat' first | refine J_seq ?_ | refine J_region Tryz.tyOK ?_ | refine J_block ?_ | refine J_cond ?_ | refine J_ret ?_ | refine J_skip ?_ | refine J_exit ?_ | refine J_scope ?_ | refine CondP.y ?_ | refine CondP.n ?_ | refine CondP.mk (fun h => ?_) (fun h => ?_) | refine EqP.mk rfl ?_ | refine NewP.mk (fun ad => ?_) | refine ArP.x ?_ | refine SideP.a ?_ | fail
      refine J_loop (α := Nat) (fun i => [(1, .c (.p 0 ad 0)), (5, .c (.i .i64 i))]) (fun _ => [.box 0 ad 28 p.cells]) (fun _ => p.facts) 1
        (fun i => i ≤ p.rs.length ∧ v = firstErr (R.drop i ++ X)) (fun i => p.rs.length - i) (InFam.mk 0 ⟨by omega, he⟩ SubE.a (Ents.refl _ _)) (fun i hi => ?_)
      obtain ⟨hi, he⟩ := hi
      by_cases hlt : i < p.rs.length
      · have hcell : ((rsC p.rs).drop (i * 6 + 0)).take 6 = p.rs[i].cells := by rw [rsC, flat_get (F := Rul.cells) (z := 6) (fun _ => rfl) hlt (by omega)]; rfl
        rw [List.drop_eq_getElem_cons (by omega), hRg i hlt, List.cons_append, firstErr_cons] at he
        have hnb := h.rb _ (List.getElem_mem hlt)
        generalize p.rs[i] = r at *
        have c1 := ce r.group
        have c2 := refScope_ok r.kind r.sp r.nm hnb
        unfold rulErr at he
        generalize existsT (names p.gs) r.group = b1 at *
        generalize scopeOK r.kind r.sp r.nm = b2 at *
        by_cases hrr5 : r.right < 1 ∨ 5 < r.right
        · simp only [if_pos hrr5] at he
          repeat' first | refine J_seq ?_ | refine J_region Tryz.tyOK ?_ | refine J_block ?_ | refine J_cond ?_ | refine J_ret ?_ | refine J_skip ?_ | refine J_exit ?_ | refine J_scope ?_ | refine CondP.y ?_ | refine CondP.n ?_ | refine CondP.mk (fun h => ?_) (fun h => ?_) | refine EqP.mk rfl ?_ | refine NewP.mk (fun ad => ?_) | refine ArP.x ?_ | refine SideP.a ?_ | refine IdxE.mk 0 6 _ (hrr _) (by omega) (by omega) ?_ | refine LoadE.mk 0 _ _ _ (hrr _) (by omega) (by omega) (by omega) hcell ?_ | refine CallP.is c1 ?_ (fun _ h => ⟨h.1, trivial⟩) | refine CallP.is c2 ?_ | refine FinE.int ?_ | refine Round.mk (i + 1) (by omega) ⟨by omega, ?_⟩ SubE.a Ents.drop | fail
          all_goals (rw [he]; rfl)
        · simp only [if_neg hrr5] at he
          cases b1 <;> cases b2 <;>
          · simp at he
            repeat' first | refine J_seq ?_ | refine J_region Tryz.tyOK ?_ | refine J_block ?_ | refine J_cond ?_ | refine J_ret ?_ | refine J_skip ?_ | refine J_exit ?_ | refine J_scope ?_ | refine CondP.y ?_ | refine CondP.n ?_ | refine CondP.mk (fun h => ?_) (fun h => ?_) | refine EqP.mk rfl ?_ | refine NewP.mk (fun ad => ?_) | refine ArP.x ?_ | refine SideP.a ?_ | refine IdxE.mk 0 6 _ (hrr _) (by omega) (by omega) ?_ | refine LoadE.mk 0 _ _ _ (hrr _) (by omega) (by omega) (by omega) hcell ?_ | refine CallP.is c1 ?_ (fun _ h => ⟨h.1, trivial⟩) | refine CallP.is c2 ?_ | refine FinE.int ?_ | refine Round.mk (i + 1) (by omega) ⟨by omega, ?_⟩ SubE.a Ents.drop | fail
            all_goals (first | exact he | (rw [he]; rfl))
      · have hil : i = p.rs.length := by omega
        subst hil
        rw [List.drop_of_length_le (by omega), List.nil_append] at he
        clear hlt hi
        repeat' first | refine J_seq ?_ | refine J_region Tryz.tyOK ?_ | refine J_block ?_ | refine J_cond ?_ | refine J_ret ?_ | refine J_skip ?_ | refine J_exit ?_ | refine J_scope ?_ | refine CondP.y ?_ | refine CondP.n ?_ | refine CondP.mk (fun h => ?_) (fun h => ?_) | refine EqP.mk rfl ?_ | refine NewP.mk (fun ad => ?_) | refine ArP.x ?_ | refine SideP.a ?_ | fail
        refine J_loop (α := Nat) (fun i => [(1, .c (.p 0 ad 0)), (7, .c (.i .i64 i))]) (fun _ => [.box 0 ad 28 p.cells]) (fun _ => p.facts) 1
          (fun i => i ≤ p.xs.length ∧ v = firstErr (X.drop i)) (fun i => p.xs.length - i) (InFam.mk 0 ⟨by omega, he⟩ SubE.a (Ents.refl _ _)) (fun i hi => ?_)
        obtain ⟨hi, he⟩ := hi
        by_cases hlt : i < p.xs.length
        · have hcell : ((xsC p.xs).drop (i * 5 + 0)).take 5 = p.xs[i].cells := by rw [xsC, flat_get (F := Grd.cells) (z := 5) (fun _ => rfl) hlt (by omega)]; rfl
          have hxb := h.xb _ (List.getElem_mem hlt)
          rw [List.drop_eq_getElem_cons (by omega), hXg i hlt, firstErr_cons] at he
          generalize p.xs[i] = r at *
          have c1 := ce r.group
          have c2 := refValid_any r.sp r.nm hxb.1
          have c3 := refSection_ok r.sect hxb.2
          unfold grdErr at he
          generalize existsT (names p.gs) r.group = b1 at *
          generalize validT r.sp r.nm = b2 at *
          generalize sectOK r.sect = b3 at *
          cases b1 <;> cases b2 <;> cases b3 <;>
          · simp at he
            repeat' first | refine J_seq ?_ | refine J_region Tryz.tyOK ?_ | refine J_block ?_ | refine J_cond ?_ | refine J_ret ?_ | refine J_skip ?_ | refine J_exit ?_ | refine J_scope ?_ | refine CondP.y ?_ | refine CondP.n ?_ | refine CondP.mk (fun h => ?_) (fun h => ?_) | refine EqP.mk rfl ?_ | refine NewP.mk (fun ad => ?_) | refine ArP.x ?_ | refine SideP.a ?_ | refine IdxE.mk 0 5 _ (hrx _) (by omega) (by omega) ?_ | refine LoadE.mk 0 _ _ _ (hrx _) (by omega) (by omega) (by omega) hcell ?_ | refine CallP.is c1 ?_ (fun _ h => ⟨h.1, trivial⟩) | refine CallP.is c2 ?_ | refine CallP.is c3 ?_ | refine FinE.int ?_ | refine Round.mk (i + 1) (by omega) ⟨by omega, ?_⟩ SubE.a Ents.drop | fail
            all_goals (first | exact he | (rw [he]; rfl))
        · have hil : i = p.xs.length := by omega
          subst hil
          rw [List.drop_of_length_le (by omega), firstErr] at he
          repeat' first | refine J_seq ?_ | refine J_region Tryz.tyOK ?_ | refine J_block ?_ | refine J_cond ?_ | refine J_ret ?_ | refine J_skip ?_ | refine J_exit ?_ | refine J_scope ?_ | refine CondP.y ?_ | refine CondP.n ?_ | refine CondP.mk (fun h => ?_) (fun h => ?_) | refine EqP.mk rfl ?_ | refine NewP.mk (fun ad => ?_) | refine ArP.x ?_ | refine SideP.a ?_ | refine FinE.int ?_ | fail
          exact he
end Go.Proofs

/- This text walks through the reading of whole texts in the reference of chapter 12. -/
namespace Go.Proofs
open Go Go.X
set_option maxRecDepth 100000
set_option maxHeartbeats 4000000
theorem refParse12_ok (s : Bs) (hs : s.length ≤ 1000000) : FnS Tryz.prog 78 [.c (.s s)] [] [] (parsePost (polParseT s)) := by
  unfold polParseT
  by_cases hbig : 8192 < (s.length : Int)
  · rw [if_pos hbig]
    refine fn_of_J Tryz.tyOK 0 Tryz.func78 (by kernel_rfl) (c := Tryz.f78.body.getD .skip) (by kernel_rfl) Tryz.ntmps78 (rs := Tryz.f78.results.toList) rfl (by simp) (fun G => ?_)
    repeat' first | refine J_seq ?_ | refine J_region Tryz.tyOK ?_ | refine J_block ?_ | refine J_cond ?_ | refine J_ret ?_ | refine J_skip ?_ | refine J_exit ?_ | refine J_scope ?_ | refine CondP.y ?_ | refine CondP.n ?_ | refine CondP.mk (fun h => ?_) (fun h => ?_) | refine EqP.mk rfl ?_ | refine NewP.mk (fun ad => ?_) | refine ArP.x ?_ | refine SideP.a ?_ | exact FinE.mk [] polNil.facts ⟨polNil, rfl, Nat.le_refl _, (P3B.nil _).more (by omega), rfl, rfl, rfl⟩ (Ents.dropAll.trans (Ents.facts fun m _ => polNil_facts m)) | fail
  rw [if_neg hbig]
  have c1 := lines_ok s (by omega)
  have hsl := splitOn_length_le 10 s
  have hml := mem_splitOn_le 10 s
  generalize splitOn 10 s = ls at *
  generalize hV : finT (linesT ([], [], []) 0 ls) = res
  refine fn_of_J Tryz.tyOK 0 Tryz.func78 (by kernel_rfl) (c := Tryz.f78.body.getD .skip) (by kernel_rfl) Tryz.ntmps78 (rs := Tryz.f78.results.toList) rfl (by simp) (fun G => ?_)
  repeat' first | refine J_seq ?_ | refine J_region Tryz.tyOK ?_ | refine J_block ?_ | refine J_cond ?_ | refine J_ret ?_ | refine J_skip ?_ | refine J_exit ?_ | refine J_scope ?_ | refine CondP.y ?_ | refine CondP.n ?_ | refine CondP.mk (fun h => ?_) (fun h => ?_) | refine EqP.mk rfl ?_ | refine NewP.mk (fun ad => ?_) | refine ArP.x ?_ | refine SideP.a ?_ | refine CallP.mk [] _ [] _ c1 (List.Perm.refl _) (fun _ h => h) (fun v L' D' hp => ?_); obtain ⟨la, lc, rfl, rfl, rfl⟩ := hp | fail
  rename_i ad0
  refine J_loop (α := Nat × PolM) (fun x => [(2, .c (.p 0 ad0 0)), (5, .c (.p 1 ad 0)), (6, .c (.sl la ls.length lc)), (7, .c (.i .i64 x.1))]) (fun x => [.box 1 ad 28 x.2.cells, .box 0 ad0 28 polNil.cells]) (fun x => slFact 0 1 la ls.length (ls.map C.s) :: x.2.facts) 2
    (fun x => x.1 ≤ ls.length ∧ linesT ([], [], []) 0 ls = linesT x.2.p3 x.1 (ls.drop x.1) ∧ P3B 8192 x.1 x.2.p3 ∧ x.2.gs.length ≤ x.2.gc) (fun x => ls.length - x.1) (InFam.mk (0, polNil) ⟨Nat.zero_le _, rfl, P3B.nil _, Nat.le_refl _⟩ SubE.a ?_) (fun x hx => ?_)
  · exact Ents.toFact.trans (Ents.facts (D' := slFact 0 1 la ls.length (ls.map C.s) :: polNil.facts) fun m h => ⟨h.1, polNil_facts m⟩)
  obtain ⟨i, p⟩ := x
  dsimp only at hx ⊢
  obtain ⟨hi, he, hb, hgc⟩ := hx
  have hgl : p.gs.length ≤ i := by have := hb.gl; simpa [PolM.p3, gpOf] using this
  have hrl : p.rs.length ≤ i := hb.rl
  have hxl : p.xs.length ≤ i := hb.xl
  by_cases hlt : i < ls.length
  · have hcm := map_take1 (f := C.s) hlt
    have hle := hml _ (List.getElem_mem hlt)
    rw [List.drop_eq_getElem_cons hlt, linesT] at he
    generalize ls[i] = line at *
    have hB := hb.stmt (s := line) (by omega)
    have c2 := refStatement_ok p line (by omega) (by omega) (by omega) (by omega)
    have hrd : ∀ L, Reads L (slFact 0 1 la ls.length (ls.map C.s) :: p.facts) 0 1 la ls.length (ls.map C.s) := fun L => .inr fun m h => h.1
    generalize stmtT p.p3 line = r at *
    obtain ⟨ok, q⟩ := r
    dsimp only at *
    cases ok with
    | false =>
      rw [if_neg (by simp)] at he
      rw [he] at hV
      have hV' : res = (([], [], []), ((i + 1 : Nat) : Int), 1) := by rw [← hV]; simp [finT]
      subst hV'
      repeat' first | refine J_seq ?_ | refine J_region Tryz.tyOK ?_ | refine J_block ?_ | refine J_cond ?_ | refine J_ret ?_ | refine J_skip ?_ | refine J_exit ?_ | refine J_scope ?_ | refine CondP.y ?_ | refine CondP.n ?_ | refine CondP.mk (fun h => ?_) (fun h => ?_) | refine EqP.mk rfl ?_ | refine NewP.mk (fun ad => ?_) | refine ArP.x ?_ | refine SideP.a ?_ | refine J_drawT (id := 8) Tryz.tyOK (by kernel_rfl) [0, 0, 0, 6, 14, 31, 63, 127, 127, 0, 767, 2047] [0, 1, 2, 3, 4] 5 [6, 7, 8, 9, 10, 11] 9 [5, 6, 7, 8, 10, 11] [5, 9, 10] [5, 27] 12 true (by kernel_rfl) ?_ | refine TwoP.mk ?_ ?_ | refine EntP.mk Ents.a ?_ | refine IdxE.mk 0 1 _ (hrd _) (by omega) (by omega) ?_ | refine LoadE.mk 0 _ _ _ (hrd _) (by omega) (by omega) (by omega) hcm ?_ | refine CallP.mk [] _ p.facts _ c2 (List.Perm.refl _) (fun m h => h.2) (fun v L' D' hp => ?_); obtain ⟨p', hp3, hpc, rfl, rfl, rfl⟩ := hp | exact FinE.mk [] polNil.facts ⟨polNil, rfl, Nat.le_refl _, (P3B.nil _).more (by omega), rfl, rfl, rfl⟩ (Ents.dropAll.trans (Ents.facts fun m _ => polNil_facts m)) | fail
    | true =>
      rw [if_pos rfl] at he
      repeat' first | refine J_seq ?_ | refine J_region Tryz.tyOK ?_ | refine J_block ?_ | refine J_cond ?_ | refine J_ret ?_ | refine J_skip ?_ | refine J_exit ?_ | refine J_scope ?_ | refine CondP.y ?_ | refine CondP.n ?_ | refine CondP.mk (fun h => ?_) (fun h => ?_) | refine EqP.mk rfl ?_ | refine NewP.mk (fun ad => ?_) | refine ArP.x ?_ | refine SideP.a ?_ | refine J_drawT (id := 8) Tryz.tyOK (by kernel_rfl) [0, 0, 0, 6, 14, 31, 63, 127, 127, 0, 767, 2047] [0, 1, 2, 3, 4] 5 [6, 7, 8, 9, 10, 11] 9 [5, 6, 7, 8, 10, 11] [5, 9, 10] [5, 27] 12 true (by kernel_rfl) ?_ | refine TwoP.mk ?_ ?_ | refine EntP.mk Ents.a ?_ | refine IdxE.mk 0 1 _ (hrd _) (by omega) (by omega) ?_ | refine LoadE.mk 0 _ _ _ (hrd _) (by omega) (by omega) (by omega) hcm ?_ | refine CallP.mk [] _ p.facts _ c2 (List.Perm.refl _) (fun m h => h.2) (fun v L' D' hp => ?_); obtain ⟨p', hp3, hpc, rfl, rfl, rfl⟩ := hp | refine Round.mk (i + 1, p') (by dsimp only; omega) ⟨by dsimp only; omega, ?_, ?_, hpc hgc⟩ SubE.a (Ents.drop.trans (Ents.facts fun m h => ⟨h.2.2.2.2.1, h.1, h.2.1, h.2.2.1, h.2.2.2.1, trivial⟩)) | fail
      all_goals (dsimp only at hp3 ⊢; rw [hp3 rfl]; first | exact he | exact hB)
  · have hil : i = ls.length := by omega
    subst hil
    rw [List.drop_length, linesT] at he
    rw [he] at hV
    unfold finT at hV
    dsimp only at hV
    rw [if_neg (by simp)] at hV
    have c3 := refValidate_ok p (PolOK.of hb (by omega) (by omega) hgc)
    have hpv : validateT p.p3.1 p.p3.2.1 p.p3.2.2 = validateT (gpOf p.gs) p.rs p.xs := rfl
    rw [hpv] at hV
    have hbb := hb.more (m := 8193) (by omega)
    clear hlt he hml
    generalize validateT (gpOf p.gs) p.rs p.xs = e at *
    by_cases he0 : e = 0
    · rw [if_neg (by simpa using he0)] at hV; subst hV
      repeat' first | refine J_seq ?_ | refine J_region Tryz.tyOK ?_ | refine J_block ?_ | refine J_cond ?_ | refine J_ret ?_ | refine J_skip ?_ | refine J_exit ?_ | refine J_scope ?_ | refine CondP.y ?_ | refine CondP.n ?_ | refine CondP.mk (fun h => ?_) (fun h => ?_) | refine EqP.mk rfl ?_ | refine NewP.mk (fun ad => ?_) | refine ArP.x ?_ | refine SideP.a ?_ | refine CallP.is c3 ?_ (fun m h => h.2) | exact FinE.mk [] p.facts ⟨p, rfl, hgc, hbb, rfl, rfl, rfl⟩ (Ents.dropAll.trans (Ents.facts fun m h => h.2)) | fail
    · rw [if_pos (by simpa using he0)] at hV; subst hV
      repeat' first | refine J_seq ?_ | refine J_region Tryz.tyOK ?_ | refine J_block ?_ | refine J_cond ?_ | refine J_ret ?_ | refine J_skip ?_ | refine J_exit ?_ | refine J_scope ?_ | refine CondP.y ?_ | refine CondP.n ?_ | refine CondP.mk (fun h => ?_) (fun h => ?_) | refine EqP.mk rfl ?_ | refine NewP.mk (fun ad => ?_) | refine ArP.x ?_ | refine SideP.a ?_ | refine CallP.is c3 ?_ (fun m h => h.2) | exact FinE.mk [] polNil.facts ⟨polNil, rfl, Nat.le_refl _, (P3B.nil _).more (by omega), rfl, rfl, rfl⟩ (Ents.dropAll.trans (Ents.facts fun m _ => polNil_facts m)) | fail
end Go.Proofs
