/- This text walks through the statements and whole texts in the reference of chapter 12. -/
import Derived.Test.YtcgagjbkfgaacaaGreatDoorPolT
import Derived.Test.YtcgagjbkfgaacaaGreatDoorPolE
set_option linter.all false

namespace Go.Proofs
open Go Go.X
set_option maxRecDepth 100000
set_option maxHeartbeats 4000000

/-- What a statement of the reference leaves: a policy in memory that stays. -/
abbrev rsPost (p : PolM) (r : Bool × P3) : V → List Chunk → List Fact → Prop := fun v L D => ∃ p' : PolM, (r.1 = true → p'.p3 = r.2) ∧ (p.gs.length ≤ p.gc → p'.gs.length ≤ p'.gc) ∧ v = .t2 (.agg p'.cells) (.c (.b r.1)) ∧ L = [] ∧ D = p'.facts

theorem rs_none (p : PolM) (s : Bs) (hs : s.length ≤ 1000000) (hW : wordsT blankB s = []) : FnS Tryz.prog 26 [.agg p.cells, .c (.s s)] [] p.facts (rsPost p (true, p.p3)) := by
  have c1 := refWords_ok s hs
  rw [hW] at c1
  have hWl : ([] : List Bs).length = 0 := rfl
  refine fn_of_J Tryz.tyOK 0 Tryz.func26 (by kernel_rfl) (c := Tryz.f26.body.getD .skip) (by kernel_rfl) Tryz.ntmps26 (rs := Tryz.f26.results.toList) rfl (by simp) (fun G => ?_)
  repeat' first
    | refine J_seq ?_ | refine J_region Tryz.tyOK ?_ | refine J_block ?_ | refine J_cond ?_ | refine J_ret ?_ | refine J_skip ?_ | refine J_exit ?_ | refine J_scope ?_
    | refine CondP.yes (by omega) ?_ | refine CondP.no (by omega) ?_ | refine CondP.mk (fun h => ?_) (fun h => ?_) | refine EqP.mk rfl ?_ | refine NewP.mk (fun ad => ?_) | refine ArP.exact (by simp only [inR]; omega) ?_ | refine SideP.mk (by first | omega | (dsimp only; omega) | (simp; omega)) ?_
    | refine CallP.mk [] _ [] _ c1 (List.Perm.refl _) (fun _ _ => trivial) (fun v L' D' hp => ?_); obtain ⟨wa, wc, rfl, rfl, rfl⟩ := hp | exact FinE.mk [] p.facts ⟨p, fun _ => rfl, id, rfl, rfl, rfl⟩ (Ents.dropAll.trans (Ents.facts fun m h => h))
    | fail

theorem rs_hash (p : PolM) (s a : Bs) (w : List Bs) (hs : s.length ≤ 1000000) (hW : wordsT blankB s = a :: w) (hp : 0 < a.length) (h35 : (((a.getD (0 : Int).toNat 0).toNat : Int) = 35)) : FnS Tryz.prog 26 [.agg p.cells, .c (.s s)] [] p.facts (rsPost p (true, p.p3)) := by
  have c1 := refWords_ok s hs
  rw [hW] at c1
  have hWl : (a :: w).length = w.length + 1 := rfl
  have hc0 : (((a :: w).map C.s).drop (0 * 1 + 0)).take 1 = [C.s a] := rfl
  refine fn_of_J Tryz.tyOK 0 Tryz.func26 (by kernel_rfl) (c := Tryz.f26.body.getD .skip) (by kernel_rfl) Tryz.ntmps26 (rs := Tryz.f26.results.toList) rfl (by simp) (fun G => ?_)
  repeat' first
    | refine J_stop (c := .seq (.seq (.region 2 _ _) _) _) ?_
    | refine J_seq ?_ | refine J_region Tryz.tyOK ?_ | refine J_block ?_ | refine J_cond ?_ | refine J_ret ?_ | refine J_skip ?_ | refine J_exit ?_ | refine J_scope ?_
    | refine CondP.yes (by omega) ?_ | refine CondP.no (by omega) ?_ | refine CondP.mk (fun h => ?_) (fun h => ?_) | refine EqP.mk rfl ?_ | refine NewP.mk (fun ad => ?_) | refine ArP.exact (by simp only [inR]; omega) ?_ | refine SideP.mk (by first | omega | (dsimp only; omega) | (simp; omega)) ?_
    | refine CallP.mk [] _ [] _ c1 (List.Perm.refl _) (fun _ _ => trivial) (fun v L' D' hp => ?_); obtain ⟨wa, wc, rfl, rfl, rfl⟩ := hp
    | fail
  refine ⟨?_⟩
  refine J_cap (List.Mem.head _) (fun hnc _ _ => ?_)
  refine J_mem (n' := 2) Ents.toFact ?_
  have hrw : ∀ L, Reads L (slFact 9 1 wa (a :: w).length ((a :: w).map C.s) :: ([] ++ p.facts)) 9 1 wa (a :: w).length ((a :: w).map C.s) := fun L => .inr fun m h => h.1
  repeat' first
    | refine CondP.yes h35 ?_
    | refine J_seq ?_ | refine J_region Tryz.tyOK ?_ | refine J_block ?_ | refine J_cond ?_ | refine J_ret ?_ | refine J_skip ?_ | refine J_exit ?_ | refine J_scope ?_
    | refine CondP.yes (by omega) ?_ | refine CondP.no (by omega) ?_ | refine CondP.mk (fun h => ?_) (fun h => ?_) | refine EqP.mk rfl ?_ | refine NewP.mk (fun ad => ?_) | refine ArP.exact (by simp only [inR]; omega) ?_ | refine SideP.mk (by first | omega | (dsimp only; omega) | (simp; omega)) ?_
    | refine IdxE.mk 9 1 _ (hrw _) (by omega) (by omega) ?_ | refine LoadE.mk 9 _ _ _ (hrw _) (by omega) (by omega) (by omega) hc0 ?_ | exact FinE.mk [] p.facts ⟨p, fun _ => rfl, id, rfl, rfl, rfl⟩ (Ents.dropAll.trans (Ents.facts fun m h => h.2))
    | fail

theorem rs_other (p : PolM) (s a : Bs) (w : List Bs) (hs : s.length ≤ 1000000) (hW : wordsT blankB s = a :: w) (hp : 0 < a.length) (h35 : ¬ (((a.getD (0 : Int).toNat 0).toNat : Int) = 35)) (h1 : ¬ a = wGroup) (h2 : ¬ a = wAllow) (h3 : ¬ a = wDeny) (h4 : ¬ a = wGuard) (h5 : ¬ a = wStrict) :
    FnS Tryz.prog 26 [.agg p.cells, .c (.s s)] [] p.facts (rsPost p (false, p.p3)) := by
  have c1 := refWords_ok s hs
  rw [hW] at c1
  have hWl : (a :: w).length = w.length + 1 := rfl
  have hc0 : (((a :: w).map C.s).drop (0 * 1 + 0)).take 1 = [C.s a] := rfl
  refine fn_of_J Tryz.tyOK 0 Tryz.func26 (by kernel_rfl) (c := Tryz.f26.body.getD .skip) (by kernel_rfl) Tryz.ntmps26 (rs := Tryz.f26.results.toList) rfl (by simp) (fun G => ?_)
  repeat' first
    | refine J_stop (c := .seq (.seq (.region 2 _ _) _) _) ?_
    | refine J_seq ?_ | refine J_region Tryz.tyOK ?_ | refine J_block ?_ | refine J_cond ?_ | refine J_ret ?_ | refine J_skip ?_ | refine J_exit ?_ | refine J_scope ?_
    | refine CondP.yes (by omega) ?_ | refine CondP.no (by omega) ?_ | refine CondP.mk (fun h => ?_) (fun h => ?_) | refine EqP.mk rfl ?_ | refine NewP.mk (fun ad => ?_) | refine ArP.exact (by simp only [inR]; omega) ?_ | refine SideP.mk (by first | omega | (dsimp only; omega) | (simp; omega)) ?_
    | refine CallP.mk [] _ [] _ c1 (List.Perm.refl _) (fun _ _ => trivial) (fun v L' D' hp => ?_); obtain ⟨wa, wc, rfl, rfl, rfl⟩ := hp
    | fail
  refine ⟨?_⟩
  refine J_cap (List.Mem.head _) (fun hnc _ _ => ?_)
  refine J_mem (n' := 2) Ents.toFact ?_
  have hrw : ∀ L, Reads L (slFact 9 1 wa (a :: w).length ((a :: w).map C.s) :: ([] ++ p.facts)) 9 1 wa (a :: w).length ((a :: w).map C.s) := fun L => .inr fun m h => h.1
  repeat' first
    | refine CondP.no h35 ?_ | refine CondP.no h1 ?_ | refine CondP.no h2 ?_ | refine CondP.no h3 ?_ | refine CondP.no h4 ?_ | refine CondP.no h5 ?_
    | refine J_seq ?_ | refine J_region Tryz.tyOK ?_ | refine J_block ?_ | refine J_cond ?_ | refine J_ret ?_ | refine J_skip ?_ | refine J_exit ?_ | refine J_scope ?_
    | refine CondP.yes (by omega) ?_ | refine CondP.no (by omega) ?_ | refine CondP.mk (fun h => ?_) (fun h => ?_) | refine EqP.mk rfl ?_ | refine NewP.mk (fun ad => ?_) | refine ArP.exact (by simp only [inR]; omega) ?_ | refine SideP.mk (by first | omega | (dsimp only; omega) | (simp; omega)) ?_
    | refine IdxE.mk 9 1 _ (hrw _) (by omega) (by omega) ?_ | refine LoadE.mk 9 _ _ _ (hrw _) (by omega) (by omega) (by omega) hc0 ?_ | exact FinE.mk [] p.facts ⟨p, fun h => (by cases h), id, rfl, rfl, rfl⟩ (Ents.dropAll.trans (Ents.facts fun m h => h.2))
    | fail

theorem rs_group0 (p : PolM) (s : Bs) (q : P3) (hs : s.length ≤ 1000000) (hW : wordsT blankB s = [wGroup]) : FnS Tryz.prog 26 [.agg p.cells, .c (.s s)] [] p.facts (rsPost p (false, q)) := by
  have c1 := refWords_ok s hs
  rw [hW] at c1
  have hWl : ([wGroup] : List Bs).length = 1 := rfl
  have hp : 0 < wGroup.length := by decide
  have hc0 : ((([wGroup] : List Bs).map C.s).drop (0 * 1 + 0)).take 1 = [C.s wGroup] := rfl
  have h35 : ¬ (((wGroup.getD (0 : Int).toNat 0).toNat : Int) = 35) := by decide
  have h1 : wGroup = wGroup := rfl
  refine fn_of_J Tryz.tyOK 0 Tryz.func26 (by kernel_rfl) (c := Tryz.f26.body.getD .skip) (by kernel_rfl) Tryz.ntmps26 (rs := Tryz.f26.results.toList) rfl (by simp) (fun G => ?_)
  repeat' first
    | refine J_stop (c := .seq (.seq (.region 2 _ _) _) _) ?_
    | refine J_seq ?_ | refine J_region Tryz.tyOK ?_ | refine J_block ?_ | refine J_cond ?_ | refine J_ret ?_ | refine J_skip ?_ | refine J_exit ?_ | refine J_scope ?_
    | refine CondP.yes (by omega) ?_ | refine CondP.no (by omega) ?_ | refine CondP.mk (fun h => ?_) (fun h => ?_) | refine EqP.mk rfl ?_ | refine NewP.mk (fun ad => ?_) | refine ArP.exact (by simp only [inR]; omega) ?_ | refine SideP.mk (by first | omega | (dsimp only; omega) | (simp; omega)) ?_
    | refine CallP.mk [] _ [] _ c1 (List.Perm.refl _) (fun _ _ => trivial) (fun v L' D' hp => ?_); obtain ⟨wa, wc, rfl, rfl, rfl⟩ := hp
    | fail
  refine ⟨?_⟩
  refine J_cap (List.Mem.head _) (fun hnc _ _ => ?_)
  refine J_mem (n' := 2) Ents.toFact ?_
  have hrw : ∀ L, Reads L (slFact 9 1 wa ([wGroup]).length (([wGroup]).map C.s) :: ([] ++ p.facts)) 9 1 wa ([wGroup]).length (([wGroup]).map C.s) := fun L => .inr fun m h => h.1
  repeat' first
    | refine CondP.no h35 ?_ | refine CondP.yes h1 ?_
    | refine J_seq ?_ | refine J_region Tryz.tyOK ?_ | refine J_block ?_ | refine J_cond ?_ | refine J_ret ?_ | refine J_skip ?_ | refine J_exit ?_ | refine J_scope ?_
    | refine CondP.yes (by omega) ?_ | refine CondP.no (by omega) ?_ | refine CondP.mk (fun h => ?_) (fun h => ?_) | refine EqP.mk rfl ?_ | refine NewP.mk (fun ad => ?_) | refine ArP.exact (by simp only [inR]; omega) ?_ | refine SideP.mk (by first | omega | (dsimp only; omega) | (simp; omega)) ?_
    | refine IdxE.mk 9 1 _ (hrw _) (by omega) (by omega) ?_ | refine LoadE.mk 9 _ _ _ (hrw _) (by omega) (by omega) (by omega) hc0 ?_ | exact FinE.mk [] p.facts ⟨p, fun h => (by cases h), id, rfl, rfl, rfl⟩ (Ents.dropAll.trans (Ents.facts fun m h => h.2))
    | fail

theorem rs_group (p : PolM) (s b : Bs) (w : List Bs) (hs : s.length ≤ 1000000) (hl : p.gs.length ≤ 1000000) (hW : wordsT blankB s = wGroup :: b :: w) : FnS Tryz.prog 26 [.agg p.cells, .c (.s s)] [] p.facts (rsPost p (true, (gpOf p.gs ++ [(b, w)], p.rs, p.xs))) := by
  have c1 := refWords_ok s hs
  have hwl := words_len (p := blankB) s []
  rw [show wordsGo blankB [] s = wordsT blankB s from rfl] at hwl
  rw [hW] at c1 hwl
  have hWl : (wGroup :: b :: w).length = w.length + 2 := rfl
  have hp : 0 < wGroup.length := by decide
  have hc0 : (((wGroup :: b :: w).map C.s).drop (0 * 1 + 0)).take 1 = [C.s wGroup] := rfl
  have hc1 : (((wGroup :: b :: w).map C.s).drop (1 * 1 + 0)).take 1 = [C.s b] := rfl
  have h35 : ¬ (((wGroup.getD (0 : Int).toNat 0).toNat : Int) = 35) := by decide
  have h1 : wGroup = wGroup := rfl
  have hgl : (gsC p.gs).length = p.gs.length * 2 := flat_len (F := GrpM.cells) (z := 2) (fun _ => rfl) p.gs
  refine fn_of_J Tryz.tyOK 0 Tryz.func26 (by kernel_rfl) (c := Tryz.f26.body.getD .skip) (by kernel_rfl) Tryz.ntmps26 (rs := Tryz.f26.results.toList) rfl (by simp) (fun G => ?_)
  repeat' first
    | refine J_stop (c := .seq (.seq (.region 2 _ _) _) _) ?_
    | refine J_seq ?_ | refine J_region Tryz.tyOK ?_ | refine J_block ?_ | refine J_cond ?_ | refine J_ret ?_ | refine J_skip ?_ | refine J_exit ?_ | refine J_scope ?_
    | refine CondP.yes (by omega) ?_ | refine CondP.no (by omega) ?_ | refine CondP.mk (fun h => ?_) (fun h => ?_) | refine EqP.mk rfl ?_ | refine NewP.mk (fun ad => ?_) | refine ArP.exact (by simp only [inR]; omega) ?_ | refine SideP.mk (by first | omega | (dsimp only; omega) | (simp; omega)) ?_
    | refine CallP.mk [] _ [] _ c1 (List.Perm.refl _) (fun _ _ => trivial) (fun v L' D' hp => ?_); obtain ⟨wa, wc, rfl, rfl, rfl⟩ := hp
    | fail
  refine ⟨?_⟩
  refine J_cap (List.Mem.head _) (fun hnc _ _ => ?_)
  refine J_mem (n' := 2) Ents.toFact ?_
  have hrw : ∀ L, Reads L (slFact 9 1 wa (wGroup :: b :: w).length ((wGroup :: b :: w).map C.s) :: ([] ++ p.facts)) 9 1 wa (wGroup :: b :: w).length ((wGroup :: b :: w).map C.s) := fun L => .inr fun m h => h.1
  have hsub : ∀ m, allD m (slFact 9 1 wa (wGroup :: b :: w).length ((wGroup :: b :: w).map C.s) :: ([] ++ p.facts)) → SlF m 0 1 (resl wa 2 wc 1) w.length (w.map C.s) := fun m h => by
    have := slFact_sub (lo := 2) (hi := (wGroup :: b :: w).length) h.1 (by omega) (Nat.le_refl _) hnc
    rw [List.take_of_length_le (by simp)] at this
    exact this
  repeat' first
    | refine CondP.no h35 ?_ | refine CondP.yes h1 ?_ | refine J_stop (c := .seq (.region 9 _ _) _) ?_
    | refine J_seq ?_ | refine J_region Tryz.tyOK ?_ | refine J_block ?_ | refine J_cond ?_ | refine J_ret ?_ | refine J_skip ?_ | refine J_exit ?_ | refine J_scope ?_
    | refine CondP.yes (by omega) ?_ | refine CondP.no (by omega) ?_ | refine CondP.mk (fun h => ?_) (fun h => ?_) | refine EqP.mk rfl ?_ | refine NewP.mk (fun ad => ?_) | refine ArP.exact (by simp only [inR]; omega) ?_ | refine SideP.mk (by first | omega | (dsimp only; omega) | (simp; omega)) ?_
    | refine IdxE.mk 9 1 _ (hrw _) (by omega) (by omega) ?_ | refine LoadE.mk 9 _ _ _ (hrw _) (by omega) (by omega) (by omega) hc0 ?_ | refine LoadE.mk 9 _ _ _ (hrw _) (by omega) (by omega) (by omega) hc1 ?_ | refine J_drawZ (id := 8) Tryz.tyOK (by kernel_rfl) [0, 1, 3, 0, 8, 24, 0, 64, 199, 511, 1023, 2047, 4095, 8191] [0, 1, 3, 4, 5, 6, 7, 2, 8, 9, 10, 11, 12, 13] [2, 8, 10, 11, 13] [2, 38] 13 false (by kernel_rfl) ?_ | refine J_drawZ (id := 15) Tryz.tyOK (by kernel_rfl) [0, 1, 3, 0, 8, 24, 56, 0, 128, 384, 903, 0, 2048, 6144, 0, 32767, 65535, 131071, 262143, 524287] [0, 1, 3, 4, 5, 6, 7, 8, 9, 11, 12, 13, 14, 2, 10, 15, 16, 17, 18, 19] [2, 16, 17, 19] [2, 7, 72, 76, 80] 19 false (by kernel_rfl) ?_ | refine J_drawT (id := 22) Tryz.tyOK (by kernel_rfl) [0, 1, 3, 0, 8, 24, 56, 0, 128, 384, 0, 0, 4088, 8184, 16383, 32767, 65535] [0, 1, 3, 4, 5, 6, 7, 8, 9, 10, 11, 12] 2 [13, 14, 15, 16] 13 [2, 14, 15, 16] [2, 13, 14, 16] [2, 9, 107, 111] 16 false (by kernel_rfl) ?_ | refine TwoP.mk ?_ ?_ | refine EntP.mk (Ents.ofSub (by repeat (first | exact List.Sublist.slnil | refine List.Sublist.cons_cons _ ?_ | refine List.Sublist.cons _ ?_)) (by first | exact fun _ h => h | exact fun _ _ => trivial | exact fun _ h => h.2 | exact fun _ h => h.2.2.2.2 | exact fun _ h => ((allD_append _ _).1 h).2)) ?_ | refine AppE.nil (gsC p.gs) p.gs.length rfl rfl rfl (SrcE.sl 0 43 _ _ _ _ _ rfl rfl (.inr fun m h => h.2.1) hgl) (by show p.gs.length * 40 ≤ _; omega) (fun a1 k1 => ?_) | refine AppE.nil (w.map C.s) w.length rfl rfl rfl (SrcE.sl 0 9 _ _ _ _ _ rfl rfl (.inr hsub) (by simp)) (by show w.length * 16 ≤ _; omega) (fun a2 k2 => ?_) | refine AppE.row [_, _] [_, _] (gsC p.gs) [.s b, .sl a2 w.length k2] 1 rfl (SrcE.sl 43 43 _ _ 1 1 _ rfl rfl (.inl ⟨1, List.Mem.head _⟩) rfl) (by show (p.gs.length + 1) * 40 ≤ _; omega) (fun a3 k3 => ?_)
    | fail
  refine ⟨?_⟩
  refine J_cap (List.Mem.tail _ (List.Mem.tail _ (List.Mem.head _))) (fun hnc3 _ _ => ?_)
  repeat' first
    | refine J_seq ?_ | refine J_region Tryz.tyOK ?_ | refine J_block ?_ | refine J_cond ?_ | refine J_ret ?_ | refine J_skip ?_ | refine J_exit ?_ | refine J_scope ?_
    | refine CondP.yes (by omega) ?_ | refine CondP.no (by omega) ?_ | refine CondP.mk (fun h => ?_) (fun h => ?_) | refine EqP.mk rfl ?_ | refine NewP.mk (fun ad => ?_) | refine ArP.exact (by simp only [inR]; omega) ?_ | refine SideP.mk (by first | omega | (dsimp only; omega) | (simp; omega)) ?_
    | exact FinE.mk [] ({ p with ga := a3, gc := k3, gs := p.gs ++ [⟨b, a2, k2, w⟩] } : PolM).facts ⟨{ p with ga := a3, gc := k3, gs := p.gs ++ [⟨b, a2, k2, w⟩] }, fun _ => (by simp [PolM.p3, gpOf]), fun _ => (by show (p.gs ++ [_]).length ≤ k3; rw [List.length_append]; exact hnc3), (by show _ = V.t2 (V.agg [.sl a3 (p.gs ++ [_]).length k3, _, _]) _; rw [List.length_append]; rfl), rfl, rfl⟩ (Ents.drop.trans (Ents.toFact.trans (Ents.toFact.trans (Ents.dropAll.trans (Ents.facts fun m h => ⟨(by show SlF m 0 2 a3 (p.gs ++ [_]).length (gsC (p.gs ++ [_])); rw [gsC_snoc, List.length_append]; exact h.1), memsF_add h.2.2.2.2.1 h.2.1, h.2.2.2.2.2.1, h.2.2.2.2.2.2.1, trivial⟩)))))
    | fail

theorem rs_rule0 (p : PolM) (s a : Bs) (w : List Bs) (hs : s.length ≤ 1000000) (hW : wordsT blankB s = a :: w) (ha : a = wAllow ∨ a = wDeny) (h : w.length < 3) : FnS Tryz.prog 26 [.agg p.cells, .c (.s s)] [] p.facts (rsPost p (false, p.p3)) := by
  have c1 := refWords_ok s hs
  rw [hW] at c1
  have hWl : (a :: w).length = w.length + 1 := rfl
  have hc0 : (((a :: w).map C.s).drop (0 * 1 + 0)).take 1 = [C.s a] := rfl
  have hp : 0 < a.length := by rcases ha with rfl | rfl <;> decide
  have h35 : ¬ (((a.getD (0 : Int).toNat 0).toNat : Int) = 35) := by rcases ha with rfl | rfl <;> decide
  have h1 : ¬ a = wGroup := by rcases ha with rfl | rfl <;> decide
  refine fn_of_J Tryz.tyOK 0 Tryz.func26 (by kernel_rfl) (c := Tryz.f26.body.getD .skip) (by kernel_rfl) Tryz.ntmps26 (rs := Tryz.f26.results.toList) rfl (by simp) (fun G => ?_)
  repeat' first
    | refine J_stop (c := .seq (.seq (.region 2 _ _) _) _) ?_
    | refine J_seq ?_ | refine J_region Tryz.tyOK ?_ | refine J_block ?_ | refine J_cond ?_ | refine J_ret ?_ | refine J_skip ?_ | refine J_exit ?_ | refine J_scope ?_
    | refine CondP.yes (by omega) ?_ | refine CondP.no (by omega) ?_ | refine CondP.mk (fun h => ?_) (fun h => ?_) | refine EqP.mk rfl ?_ | refine NewP.mk (fun ad => ?_) | refine ArP.exact (by simp only [inR]; omega) ?_ | refine SideP.mk (by first | omega | (dsimp only; omega) | (simp; omega)) ?_
    | refine CallP.mk [] _ [] _ c1 (List.Perm.refl _) (fun _ _ => trivial) (fun v L' D' hp => ?_); obtain ⟨wa, wc, rfl, rfl, rfl⟩ := hp
    | fail
  refine ⟨?_⟩
  refine J_cap (List.Mem.head _) (fun hnc _ _ => ?_)
  refine J_mem (n' := 2) Ents.toFact ?_
  have hrw : ∀ L, Reads L (slFact 9 1 wa (a :: w).length ((a :: w).map C.s) :: ([] ++ p.facts)) 9 1 wa (a :: w).length ((a :: w).map C.s) := fun L => .inr fun m h => h.1
  rcases ha with ha | ha
  · repeat' first
      | refine CondP.no h35 ?_ | refine CondP.no h1 ?_ | refine CondP.yes ha ?_
      | refine J_seq ?_ | refine J_region Tryz.tyOK ?_ | refine J_block ?_ | refine J_cond ?_ | refine J_ret ?_ | refine J_skip ?_ | refine J_exit ?_ | refine J_scope ?_
      | refine CondP.yes (by omega) ?_ | refine CondP.no (by omega) ?_ | refine CondP.mk (fun h => ?_) (fun h => ?_) | refine EqP.mk rfl ?_ | refine NewP.mk (fun ad => ?_) | refine ArP.exact (by simp only [inR]; omega) ?_ | refine SideP.mk (by first | omega | (dsimp only; omega) | (simp; omega)) ?_
      | refine IdxE.mk 9 1 _ (hrw _) (by omega) (by omega) ?_ | refine LoadE.mk 9 _ _ _ (hrw _) (by omega) (by omega) (by omega) hc0 ?_ | exact FinE.mk [] p.facts ⟨p, fun h => (by cases h), id, rfl, rfl, rfl⟩ (Ents.dropAll.trans (Ents.facts fun m h => h.2))
      | fail
  · have h2 : ¬ a = wAllow := by rw [ha]; decide
    repeat' first
      | refine CondP.no h35 ?_ | refine CondP.no h1 ?_ | refine CondP.no h2 ?_ | refine CondP.yes ha ?_
      | refine J_seq ?_ | refine J_region Tryz.tyOK ?_ | refine J_block ?_ | refine J_cond ?_ | refine J_ret ?_ | refine J_skip ?_ | refine J_exit ?_ | refine J_scope ?_
      | refine CondP.yes (by omega) ?_ | refine CondP.no (by omega) ?_ | refine CondP.mk (fun h => ?_) (fun h => ?_) | refine EqP.mk rfl ?_ | refine NewP.mk (fun ad => ?_) | refine ArP.exact (by simp only [inR]; omega) ?_ | refine SideP.mk (by first | omega | (dsimp only; omega) | (simp; omega)) ?_
      | refine IdxE.mk 9 1 _ (hrw _) (by omega) (by omega) ?_ | refine LoadE.mk 9 _ _ _ (hrw _) (by omega) (by omega) (by omega) hc0 ?_ | exact FinE.mk [] p.facts ⟨p, fun h => (by cases h), id, rfl, rfl, rfl⟩ (Ents.dropAll.trans (Ents.facts fun m h => h.2))
      | fail

theorem rs_rule (p : PolM) (s a b c d : Bs) (w : List Bs) (hs : s.length ≤ 1000000) (hl : p.rs.length ≤ 1000000) (hW : wordsT blankB s = a :: b :: c :: d :: w) (ha : a = wAllow ∨ a = wDeny) : FnS Tryz.prog 26 [.agg p.cells, .c (.s s)] [] p.facts (rsPost p (ruleW p.p3 (decide (a = wAllow)) (b :: c :: d :: w) (restT s 3))) := by
  have c1 := refWords_ok s hs
  rw [hW] at c1
  have hWl : (a :: b :: c :: d :: w).length = w.length + 4 := rfl
  have hc0 : (((a :: b :: c :: d :: w).map C.s).drop (0 * 1 + 0)).take 1 = [C.s a] := rfl
  have hc1 : (((a :: b :: c :: d :: w).map C.s).drop (1 * 1 + 0)).take 1 = [C.s b] := rfl
  have hc2 : (((a :: b :: c :: d :: w).map C.s).drop (2 * 1 + 0)).take 1 = [C.s c] := rfl
  have hp : 0 < a.length := by rcases ha with rfl | rfl <;> decide
  have h35 : ¬ (((a.getD (0 : Int).toNat 0).toNat : Int) = 35) := by rcases ha with rfl | rfl <;> decide
  have h1 : ¬ a = wGroup := by rcases ha with rfl | rfl <;> decide
  have c2 := rightOf_ok b
  have c3 := refRest_ok s 3 hs (by omega)
  have c4 := readScope_ok (restT s 3) (by have := restT_le s 3; omega)
  have hrl : (rsC p.rs).length = p.rs.length * 6 := flat_len (F := Rul.cells) (z := 6) (fun _ => rfl) p.rs
  have hR : ruleW p.p3 (decide (a = wAllow)) (b :: c :: d :: w) (restT s 3) = if idxS rightsL b + 1 = 0 then (false, p.p3) else ((scopeV (restT s 3)).2, if (scopeV (restT s 3)).2 = true then (gpOf p.gs, p.rs ++ [⟨decide (a = wAllow), idxS rightsL b + 1, c, (scopeV (restT s 3)).1.1, (scopeV (restT s 3)).1.2.1, (scopeV (restT s 3)).1.2.2⟩], p.xs) else p.p3) := by
    unfold ruleW
    rw [scopeT_V]
    generalize scopeV (restT s 3) = v
    obtain ⟨⟨k, sp, nm⟩, ok⟩ := v
    have hlen : ¬ (b :: c :: d :: w).length < 3 := by simp
    simp only [hlen, false_or, List.getD_cons_zero]
    split
    · rfl
    · cases ok <;> rfl
  rw [hR]
  clear hR
  generalize scopeV (restT s 3) = v at *
  obtain ⟨⟨k, sp, nm⟩, ok⟩ := v
  have hk := idxS_lt rightsL b
  rw [show (rightsL.length : Int) = 5 from rfl] at hk
  generalize idxS rightsL b = z at *
  generalize restT s 3 = x at *
  simp only at c4 ⊢
  refine fn_of_J Tryz.tyOK 0 Tryz.func26 (by kernel_rfl) (c := Tryz.f26.body.getD .skip) (by kernel_rfl) Tryz.ntmps26 (rs := Tryz.f26.results.toList) rfl (by simp) (fun G => ?_)
  repeat' first
    | refine J_stop (c := .seq (.seq (.region 2 _ _) _) _) ?_
    | refine J_seq ?_ | refine J_region Tryz.tyOK ?_ | refine J_block ?_ | refine J_cond ?_ | refine J_ret ?_ | refine J_skip ?_ | refine J_exit ?_ | refine J_scope ?_
    | refine CondP.yes (by omega) ?_ | refine CondP.no (by omega) ?_ | refine CondP.mk (fun h => ?_) (fun h => ?_) | refine EqP.mk rfl ?_ | refine NewP.mk (fun ad => ?_) | refine ArP.exact (by simp only [inR]; omega) ?_ | refine SideP.mk (by first | omega | (dsimp only; omega) | (simp; omega)) ?_
    | refine CallP.mk [] _ [] _ c1 (List.Perm.refl _) (fun _ _ => trivial) (fun v L' D' hp => ?_); obtain ⟨wa, wc, rfl, rfl, rfl⟩ := hp
    | fail
  refine ⟨?_⟩
  refine J_cap (List.Mem.head _) (fun hnc _ _ => ?_)
  refine J_mem (n' := 2) Ents.toFact ?_
  have hrw : ∀ L, Reads L (slFact 9 1 wa (a :: b :: c :: d :: w).length ((a :: b :: c :: d :: w).map C.s) :: ([] ++ p.facts)) 9 1 wa (a :: b :: c :: d :: w).length ((a :: b :: c :: d :: w).map C.s) := fun L => .inr fun m h => h.1
  by_cases hz : z + 1 = 0
  · rw [if_pos hz]
    rcases ha with ha | ha
    · repeat' first
        | refine CondP.no h35 ?_ | refine CondP.no h1 ?_ | refine CondP.yes ha ?_
        | refine J_seq ?_ | refine J_region Tryz.tyOK ?_ | refine J_block ?_ | refine J_cond ?_ | refine J_ret ?_ | refine J_skip ?_ | refine J_exit ?_ | refine J_scope ?_
        | refine CondP.yes (by omega) ?_ | refine CondP.no (by omega) ?_ | refine CondP.mk (fun h => ?_) (fun h => ?_) | refine EqP.mk rfl ?_ | refine NewP.mk (fun ad => ?_) | refine ArP.exact (by simp only [inR]; omega) ?_ | refine SideP.mk (by first | omega | (dsimp only; omega) | (simp; omega)) ?_
        | refine IdxE.mk 9 1 _ (hrw _) (by omega) (by omega) ?_ | refine LoadE.mk 9 _ _ _ (hrw _) (by omega) (by omega) (by omega) hc0 ?_ | refine LoadE.mk 9 _ _ _ (hrw _) (by omega) (by omega) (by omega) hc1 ?_ | refine CallP.is c2 ?_ | exact FinE.mk [] p.facts ⟨p, fun h => (by cases h), id, rfl, rfl, rfl⟩ (Ents.dropAll.trans (Ents.facts fun m h => h.2))
        | fail
    · have h2 : ¬ a = wAllow := by rw [ha]; decide
      repeat' first
        | refine CondP.no h35 ?_ | refine CondP.no h1 ?_ | refine CondP.no h2 ?_ | refine CondP.yes ha ?_
        | refine J_seq ?_ | refine J_region Tryz.tyOK ?_ | refine J_block ?_ | refine J_cond ?_ | refine J_ret ?_ | refine J_skip ?_ | refine J_exit ?_ | refine J_scope ?_
        | refine CondP.yes (by omega) ?_ | refine CondP.no (by omega) ?_ | refine CondP.mk (fun h => ?_) (fun h => ?_) | refine EqP.mk rfl ?_ | refine NewP.mk (fun ad => ?_) | refine ArP.exact (by simp only [inR]; omega) ?_ | refine SideP.mk (by first | omega | (dsimp only; omega) | (simp; omega)) ?_
        | refine IdxE.mk 9 1 _ (hrw _) (by omega) (by omega) ?_ | refine LoadE.mk 9 _ _ _ (hrw _) (by omega) (by omega) (by omega) hc0 ?_ | refine LoadE.mk 9 _ _ _ (hrw _) (by omega) (by omega) (by omega) hc1 ?_ | refine CallP.is c2 ?_ | exact FinE.mk [] p.facts ⟨p, fun h => (by cases h), id, rfl, rfl, rfl⟩ (Ents.dropAll.trans (Ents.facts fun m h => h.2))
        | fail
  rw [if_neg hz]
  rcases ha with ha | ha
  · rw [decide_eq_true ha]
    repeat' first
      | refine CondP.no h35 ?_ | refine CondP.no h1 ?_ | refine CondP.yes ha ?_
      | refine J_seq ?_ | refine J_region Tryz.tyOK ?_ | refine J_block ?_ | refine J_cond ?_ | refine J_ret ?_ | refine J_skip ?_ | refine J_exit ?_ | refine J_scope ?_
      | refine CondP.yes (by omega) ?_ | refine CondP.no (by omega) ?_ | refine CondP.mk (fun h => ?_) (fun h => ?_) | refine EqP.mk rfl ?_ | refine NewP.mk (fun ad => ?_) | refine ArP.exact (by simp only [inR]; omega) ?_ | refine SideP.mk (by first | omega | (dsimp only; omega) | (simp; omega)) ?_
      | refine IdxE.mk 9 1 _ (hrw _) (by omega) (by omega) ?_ | refine LoadE.mk 9 _ _ _ (hrw _) (by omega) (by omega) (by omega) hc0 ?_ | refine LoadE.mk 9 _ _ _ (hrw _) (by omega) (by omega) (by omega) hc1 ?_ | refine LoadE.mk 9 _ _ _ (hrw _) (by omega) (by omega) (by omega) hc2 ?_ | refine CallP.is c2 ?_ | refine CallP.is c3 ?_ | refine CallP.is c4 ?_ | refine J_drawZ (id := 8) Tryz.tyOK (by kernel_rfl) [0, 1, 3, 0, 8, 24, 0, 64, 199, 511, 1023, 2047, 4095, 8191] [0, 1, 3, 4, 5, 6, 7, 2, 8, 9, 10, 11, 12, 13] [2, 8, 10, 11, 13] [2, 38] 13 false (by kernel_rfl) ?_ | refine J_drawZ (id := 15) Tryz.tyOK (by kernel_rfl) [0, 1, 3, 0, 8, 24, 56, 0, 128, 384, 903, 0, 2048, 6144, 0, 32767, 65535, 131071, 262143, 524287] [0, 1, 3, 4, 5, 6, 7, 8, 9, 11, 12, 13, 14, 2, 10, 15, 16, 17, 18, 19] [2, 16, 17, 19] [2, 7, 72, 76, 80] 19 false (by kernel_rfl) ?_ | refine J_drawT (id := 22) Tryz.tyOK (by kernel_rfl) [0, 1, 3, 0, 8, 24, 56, 0, 128, 384, 0, 0, 4088, 8184, 16383, 32767, 65535] [0, 1, 3, 4, 5, 6, 7, 8, 9, 10, 11, 12] 2 [13, 14, 15, 16] 13 [2, 14, 15, 16] [2, 13, 14, 16] [2, 9, 107, 111] 16 false (by kernel_rfl) ?_ | refine TwoP.mk ?_ ?_ | refine EntP.mk (Ents.ofSub (by repeat (first | exact List.Sublist.slnil | refine List.Sublist.cons_cons _ ?_ | refine List.Sublist.cons _ ?_)) (by first | exact fun _ h => h | exact fun _ _ => trivial | exact fun _ h => h.2 | exact fun _ h => h.2.2.2.2 | exact fun _ h => ((allD_append _ _).1 h).2)) ?_ | refine CallQ.mk [] _ c2 (fun _ _ => trivial) ?_ | refine AppE.nil (rsC p.rs) p.rs.length rfl rfl rfl (SrcE.sl 0 50 _ _ _ _ _ rfl rfl (.inr fun m h => h.2.2.2.1) hrl) (by show p.rs.length * 64 ≤ _; omega) (fun a1 k1 => ?_) | refine AppE.row [_] [_, _, _] (rsC p.rs) _ 1 rfl (SrcE.sl 50 50 _ _ 1 1 _ rfl rfl (.inl ⟨1, List.Mem.head _⟩) rfl) (by show (p.rs.length + 1) * 64 ≤ _; omega) (fun a3 k3 => ?_) | exact FinE.mk [] ({ p with ra := a3, rc := k3, rs := p.rs ++ [⟨true, z + 1, c, k, sp, nm⟩] } : PolM).facts ⟨{ p with ra := a3, rc := k3, rs := p.rs ++ [⟨true, z + 1, c, k, sp, nm⟩] }, (by intro h; first | rfl | (cases h; done) | (simp at h; subst h; simp [PolM.p3])), id, (by show _ = V.t2 (V.agg [_, .sl a3 (p.rs ++ [_]).length k3, _]) _; rw [List.length_append]; rfl), rfl, rfl⟩ (Ents.drop.trans (Ents.toFact.trans (Ents.dropAll.trans (Ents.facts fun m h => ⟨h.2.2.1, h.2.2.2.1, (by show SlF m 0 6 a3 (p.rs ++ [_]).length (rsC (p.rs ++ [_])); rw [rsC_snoc, List.length_append]; exact h.1), h.2.2.2.2.2.1, trivial⟩))))
      | fail
  · have h2 : ¬ a = wAllow := by rw [ha]; decide
    rw [decide_eq_false h2]
    repeat' first
      | refine CondP.no h35 ?_ | refine CondP.no h1 ?_ | refine CondP.no h2 ?_ | refine CondP.yes ha ?_
      | refine J_seq ?_ | refine J_region Tryz.tyOK ?_ | refine J_block ?_ | refine J_cond ?_ | refine J_ret ?_ | refine J_skip ?_ | refine J_exit ?_ | refine J_scope ?_
      | refine CondP.yes (by omega) ?_ | refine CondP.no (by omega) ?_ | refine CondP.mk (fun h => ?_) (fun h => ?_) | refine EqP.mk rfl ?_ | refine NewP.mk (fun ad => ?_) | refine ArP.exact (by simp only [inR]; omega) ?_ | refine SideP.mk (by first | omega | (dsimp only; omega) | (simp; omega)) ?_
      | refine IdxE.mk 9 1 _ (hrw _) (by omega) (by omega) ?_ | refine LoadE.mk 9 _ _ _ (hrw _) (by omega) (by omega) (by omega) hc0 ?_ | refine LoadE.mk 9 _ _ _ (hrw _) (by omega) (by omega) (by omega) hc1 ?_ | refine LoadE.mk 9 _ _ _ (hrw _) (by omega) (by omega) (by omega) hc2 ?_ | refine CallP.is c2 ?_ | refine CallP.is c3 ?_ | refine CallP.is c4 ?_ | refine J_drawZ (id := 8) Tryz.tyOK (by kernel_rfl) [0, 1, 3, 0, 8, 24, 0, 64, 199, 511, 1023, 2047, 4095, 8191] [0, 1, 3, 4, 5, 6, 7, 2, 8, 9, 10, 11, 12, 13] [2, 8, 10, 11, 13] [2, 38] 13 false (by kernel_rfl) ?_ | refine J_drawZ (id := 15) Tryz.tyOK (by kernel_rfl) [0, 1, 3, 0, 8, 24, 56, 0, 128, 384, 903, 0, 2048, 6144, 0, 32767, 65535, 131071, 262143, 524287] [0, 1, 3, 4, 5, 6, 7, 8, 9, 11, 12, 13, 14, 2, 10, 15, 16, 17, 18, 19] [2, 16, 17, 19] [2, 7, 72, 76, 80] 19 false (by kernel_rfl) ?_ | refine J_drawT (id := 22) Tryz.tyOK (by kernel_rfl) [0, 1, 3, 0, 8, 24, 56, 0, 128, 384, 0, 0, 4088, 8184, 16383, 32767, 65535] [0, 1, 3, 4, 5, 6, 7, 8, 9, 10, 11, 12] 2 [13, 14, 15, 16] 13 [2, 14, 15, 16] [2, 13, 14, 16] [2, 9, 107, 111] 16 false (by kernel_rfl) ?_ | refine TwoP.mk ?_ ?_ | refine EntP.mk (Ents.ofSub (by repeat (first | exact List.Sublist.slnil | refine List.Sublist.cons_cons _ ?_ | refine List.Sublist.cons _ ?_)) (by first | exact fun _ h => h | exact fun _ _ => trivial | exact fun _ h => h.2 | exact fun _ h => h.2.2.2.2 | exact fun _ h => ((allD_append _ _).1 h).2)) ?_ | refine CallQ.mk [] _ c2 (fun _ _ => trivial) ?_ | refine AppE.nil (rsC p.rs) p.rs.length rfl rfl rfl (SrcE.sl 0 50 _ _ _ _ _ rfl rfl (.inr fun m h => h.2.2.2.1) hrl) (by show p.rs.length * 64 ≤ _; omega) (fun a1 k1 => ?_) | refine AppE.row [_] [_, _, _] (rsC p.rs) _ 1 rfl (SrcE.sl 50 50 _ _ 1 1 _ rfl rfl (.inl ⟨1, List.Mem.head _⟩) rfl) (by show (p.rs.length + 1) * 64 ≤ _; omega) (fun a3 k3 => ?_) | exact FinE.mk [] ({ p with ra := a3, rc := k3, rs := p.rs ++ [⟨false, z + 1, c, k, sp, nm⟩] } : PolM).facts ⟨{ p with ra := a3, rc := k3, rs := p.rs ++ [⟨false, z + 1, c, k, sp, nm⟩] }, (by intro h; first | rfl | (cases h; done) | (simp at h; subst h; simp [PolM.p3])), id, (by show _ = V.t2 (V.agg [_, .sl a3 (p.rs ++ [_]).length k3, _]) _; rw [List.length_append]; rfl), rfl, rfl⟩ (Ents.drop.trans (Ents.toFact.trans (Ents.dropAll.trans (Ents.facts fun m h => ⟨h.2.2.1, h.2.2.2.1, (by show SlF m 0 6 a3 (p.rs ++ [_]).length (rsC (p.rs ++ [_])); rw [rsC_snoc, List.length_append]; exact h.1), h.2.2.2.2.2.1, trivial⟩))))
      | fail

theorem rs_guard0 (p : PolM) (s a : Bs) (w : List Bs) (hs : s.length ≤ 1000000) (hW : wordsT blankB s = a :: w) (ha : a = wGuard ∨ a = wStrict) (h : w.length < 2) : FnS Tryz.prog 26 [.agg p.cells, .c (.s s)] [] p.facts (rsPost p (false, p.p3)) := by
  have c1 := refWords_ok s hs
  rw [hW] at c1
  have hWl : (a :: w).length = w.length + 1 := rfl
  have hc0 : (((a :: w).map C.s).drop (0 * 1 + 0)).take 1 = [C.s a] := rfl
  have hp : 0 < a.length := by rcases ha with rfl | rfl <;> decide
  have h35 : ¬ (((a.getD (0 : Int).toNat 0).toNat : Int) = 35) := by rcases ha with rfl | rfl <;> decide
  have h1 : ¬ a = wGroup := by rcases ha with rfl | rfl <;> decide
  have h2 : ¬ a = wAllow := by rcases ha with rfl | rfl <;> decide
  have h3 : ¬ a = wDeny := by rcases ha with rfl | rfl <;> decide
  refine fn_of_J Tryz.tyOK 0 Tryz.func26 (by kernel_rfl) (c := Tryz.f26.body.getD .skip) (by kernel_rfl) Tryz.ntmps26 (rs := Tryz.f26.results.toList) rfl (by simp) (fun G => ?_)
  repeat' first
    | refine J_stop (c := .seq (.seq (.region 2 _ _) _) _) ?_
    | refine J_seq ?_ | refine J_region Tryz.tyOK ?_ | refine J_block ?_ | refine J_cond ?_ | refine J_ret ?_ | refine J_skip ?_ | refine J_exit ?_ | refine J_scope ?_
    | refine CondP.yes (by omega) ?_ | refine CondP.no (by omega) ?_ | refine CondP.mk (fun h => ?_) (fun h => ?_) | refine EqP.mk rfl ?_ | refine NewP.mk (fun ad => ?_) | refine ArP.exact (by simp only [inR]; omega) ?_ | refine SideP.mk (by first | omega | (dsimp only; omega) | (simp; omega)) ?_
    | refine CallP.mk [] _ [] _ c1 (List.Perm.refl _) (fun _ _ => trivial) (fun v L' D' hp => ?_); obtain ⟨wa, wc, rfl, rfl, rfl⟩ := hp
    | fail
  refine ⟨?_⟩
  refine J_cap (List.Mem.head _) (fun hnc _ _ => ?_)
  refine J_mem (n' := 2) Ents.toFact ?_
  have hrw : ∀ L, Reads L (slFact 9 1 wa (a :: w).length ((a :: w).map C.s) :: ([] ++ p.facts)) 9 1 wa (a :: w).length ((a :: w).map C.s) := fun L => .inr fun m h => h.1
  rcases ha with ha | ha
  · repeat' first
      | refine CondP.no h35 ?_ | refine CondP.no h1 ?_ | refine CondP.no h2 ?_ | refine CondP.no h3 ?_ | refine CondP.yes ha ?_
      | refine J_seq ?_ | refine J_region Tryz.tyOK ?_ | refine J_block ?_ | refine J_cond ?_ | refine J_ret ?_ | refine J_skip ?_ | refine J_exit ?_ | refine J_scope ?_
      | refine CondP.yes (by omega) ?_ | refine CondP.no (by omega) ?_ | refine CondP.mk (fun h => ?_) (fun h => ?_) | refine EqP.mk rfl ?_ | refine NewP.mk (fun ad => ?_) | refine ArP.exact (by simp only [inR]; omega) ?_ | refine SideP.mk (by first | omega | (dsimp only; omega) | (simp; omega)) ?_
      | refine IdxE.mk 9 1 _ (hrw _) (by omega) (by omega) ?_ | refine LoadE.mk 9 _ _ _ (hrw _) (by omega) (by omega) (by omega) hc0 ?_ | exact FinE.mk [] p.facts ⟨p, fun h => (by cases h), id, rfl, rfl, rfl⟩ (Ents.dropAll.trans (Ents.facts fun m h => h.2))
      | fail
  · have h4 : ¬ a = wGuard := by rw [ha]; decide
    repeat' first
      | refine CondP.no h35 ?_ | refine CondP.no h1 ?_ | refine CondP.no h2 ?_ | refine CondP.no h3 ?_ | refine CondP.no h4 ?_ | refine CondP.yes ha ?_
      | refine J_seq ?_ | refine J_region Tryz.tyOK ?_ | refine J_block ?_ | refine J_cond ?_ | refine J_ret ?_ | refine J_skip ?_ | refine J_exit ?_ | refine J_scope ?_
      | refine CondP.yes (by omega) ?_ | refine CondP.no (by omega) ?_ | refine CondP.mk (fun h => ?_) (fun h => ?_) | refine EqP.mk rfl ?_ | refine NewP.mk (fun ad => ?_) | refine ArP.exact (by simp only [inR]; omega) ?_ | refine SideP.mk (by first | omega | (dsimp only; omega) | (simp; omega)) ?_
      | refine IdxE.mk 9 1 _ (hrw _) (by omega) (by omega) ?_ | refine LoadE.mk 9 _ _ _ (hrw _) (by omega) (by omega) (by omega) hc0 ?_ | exact FinE.mk [] p.facts ⟨p, fun h => (by cases h), id, rfl, rfl, rfl⟩ (Ents.dropAll.trans (Ents.facts fun m h => h.2))
      | fail

theorem rs_guard (p : PolM) (s a b c : Bs) (w : List Bs) (hs : s.length ≤ 1000000) (hl : p.xs.length ≤ 1000000) (hW : wordsT blankB s = a :: b :: c :: w) (ha : a = wGuard ∨ a = wStrict) : FnS Tryz.prog 26 [.agg p.cells, .c (.s s)] [] p.facts (rsPost p (guardW p.p3 (decide (a = wStrict)) (b :: c :: w) (restT s 2))) := by
  have c1 := refWords_ok s hs
  rw [hW] at c1
  have hWl : (a :: b :: c :: w).length = w.length + 3 := rfl
  have hc0 : (((a :: b :: c :: w).map C.s).drop (0 * 1 + 0)).take 1 = [C.s a] := rfl
  have hc1 : (((a :: b :: c :: w).map C.s).drop (1 * 1 + 0)).take 1 = [C.s b] := rfl
  have hp : 0 < a.length := by rcases ha with rfl | rfl <;> decide
  have h35 : ¬ (((a.getD (0 : Int).toNat 0).toNat : Int) = 35) := by rcases ha with rfl | rfl <;> decide
  have h1 : ¬ a = wGroup := by rcases ha with rfl | rfl <;> decide
  have h2 : ¬ a = wAllow := by rcases ha with rfl | rfl <;> decide
  have h3 : ¬ a = wDeny := by rcases ha with rfl | rfl <;> decide
  have c3 := refRest_ok s 2 hs (by omega)
  have c4 := readGuard_ok (restT s 2) (by have := restT_le s 2; omega)
  have hxl : (xsC p.xs).length = p.xs.length * 5 := flat_len (F := Grd.cells) (z := 5) (fun _ => rfl) p.xs
  have hR : guardW p.p3 (decide (a = wStrict)) (b :: c :: w) (restT s 2) = ((grdV (restT s 2)).2.2, if (grdV (restT s 2)).2.2 = true then (gpOf p.gs, p.rs, p.xs ++ [⟨decide (a = wStrict), b, (grdV (restT s 2)).1.1, (grdV (restT s 2)).1.2, (grdV (restT s 2)).2.1⟩]) else p.p3) := by
    rw [guardW_V (by simp)]
    generalize grdV (restT s 2) = v
    obtain ⟨⟨sp, nm⟩, sec, ok⟩ := v
    cases ok <;> rfl
  rw [hR]
  clear hR
  generalize grdV (restT s 2) = v at *
  obtain ⟨⟨sp, nm⟩, sec, ok⟩ := v
  generalize restT s 2 = x at *
  simp only at c4 ⊢
  refine fn_of_J Tryz.tyOK 0 Tryz.func26 (by kernel_rfl) (c := Tryz.f26.body.getD .skip) (by kernel_rfl) Tryz.ntmps26 (rs := Tryz.f26.results.toList) rfl (by simp) (fun G => ?_)
  repeat' first
    | refine J_stop (c := .seq (.seq (.region 2 _ _) _) _) ?_
    | refine J_seq ?_ | refine J_region Tryz.tyOK ?_ | refine J_block ?_ | refine J_cond ?_ | refine J_ret ?_ | refine J_skip ?_ | refine J_exit ?_ | refine J_scope ?_
    | refine CondP.yes (by omega) ?_ | refine CondP.no (by omega) ?_ | refine CondP.mk (fun h => ?_) (fun h => ?_) | refine EqP.mk rfl ?_ | refine NewP.mk (fun ad => ?_) | refine ArP.exact (by simp only [inR]; omega) ?_ | refine SideP.mk (by first | omega | (dsimp only; omega) | (simp; omega)) ?_
    | refine CallP.mk [] _ [] _ c1 (List.Perm.refl _) (fun _ _ => trivial) (fun v L' D' hp => ?_); obtain ⟨wa, wc, rfl, rfl, rfl⟩ := hp
    | fail
  refine ⟨?_⟩
  refine J_cap (List.Mem.head _) (fun hnc _ _ => ?_)
  refine J_mem (n' := 2) Ents.toFact ?_
  have hrw : ∀ L, Reads L (slFact 9 1 wa (a :: b :: c :: w).length ((a :: b :: c :: w).map C.s) :: ([] ++ p.facts)) 9 1 wa (a :: b :: c :: w).length ((a :: b :: c :: w).map C.s) := fun L => .inr fun m h => h.1
  rcases ha with ha | ha
  · have h5 : ¬ a = wStrict := by rw [ha]; decide
    rw [decide_eq_false h5]
    repeat' first
      | refine CondP.no h35 ?_ | refine CondP.no h1 ?_ | refine CondP.no h2 ?_ | refine CondP.no h3 ?_ | refine CondP.no h5 ?_ | refine CondP.yes ha ?_
      | refine J_seq ?_ | refine J_region Tryz.tyOK ?_ | refine J_block ?_ | refine J_cond ?_ | refine J_ret ?_ | refine J_skip ?_ | refine J_exit ?_ | refine J_scope ?_
      | refine CondP.yes (by omega) ?_ | refine CondP.no (by omega) ?_ | refine CondP.mk (fun h => ?_) (fun h => ?_) | refine EqP.mk rfl ?_ | refine NewP.mk (fun ad => ?_) | refine ArP.exact (by simp only [inR]; omega) ?_ | refine SideP.mk (by first | omega | (dsimp only; omega) | (simp; omega)) ?_
      | refine IdxE.mk 9 1 _ (hrw _) (by omega) (by omega) ?_ | refine LoadE.mk 9 _ _ _ (hrw _) (by omega) (by omega) (by omega) hc0 ?_ | refine LoadE.mk 9 _ _ _ (hrw _) (by omega) (by omega) (by omega) hc1 ?_ | refine CallP.is c3 ?_ | refine CallP.is c4 ?_ | refine J_drawZ (id := 8) Tryz.tyOK (by kernel_rfl) [0, 1, 3, 0, 8, 24, 0, 64, 199, 511, 1023, 2047, 4095, 8191] [0, 1, 3, 4, 5, 6, 7, 2, 8, 9, 10, 11, 12, 13] [2, 8, 10, 11, 13] [2, 38] 13 false (by kernel_rfl) ?_ | refine J_drawZ (id := 15) Tryz.tyOK (by kernel_rfl) [0, 1, 3, 0, 8, 24, 56, 0, 128, 384, 903, 0, 2048, 6144, 0, 32767, 65535, 131071, 262143, 524287] [0, 1, 3, 4, 5, 6, 7, 8, 9, 11, 12, 13, 14, 2, 10, 15, 16, 17, 18, 19] [2, 16, 17, 19] [2, 7, 72, 76, 80] 19 false (by kernel_rfl) ?_ | refine J_drawT (id := 22) Tryz.tyOK (by kernel_rfl) [0, 1, 3, 0, 8, 24, 56, 0, 128, 384, 0, 0, 4088, 8184, 16383, 32767, 65535] [0, 1, 3, 4, 5, 6, 7, 8, 9, 10, 11, 12] 2 [13, 14, 15, 16] 13 [2, 14, 15, 16] [2, 13, 14, 16] [2, 9, 107, 111] 16 false (by kernel_rfl) ?_ | refine TwoP.mk ?_ ?_ | refine EntP.mk (Ents.ofSub (by repeat (first | exact List.Sublist.slnil | refine List.Sublist.cons_cons _ ?_ | refine List.Sublist.cons _ ?_)) (by first | exact fun _ h => h | exact fun _ _ => trivial | exact fun _ h => h.2 | exact fun _ h => h.2.2.2.2 | exact fun _ h => ((allD_append _ _).1 h).2)) ?_ | refine AppE.nil (xsC p.xs) p.xs.length rfl rfl rfl (SrcE.sl 0 53 _ _ _ _ _ rfl rfl (.inr fun m h => h.2.2.2.2.1) hxl) (by show p.xs.length * 64 ≤ _; omega) (fun a1 k1 => ?_) | refine AppE.row [_] [_, _, _] (xsC p.xs) _ 1 rfl (SrcE.sl 53 53 _ _ 1 1 _ rfl rfl (.inl ⟨1, List.Mem.head _⟩) rfl) (by show (p.xs.length + 1) * 64 ≤ _; omega) (fun a3 k3 => ?_) | refine AppE.row [] [_, _, _, _] (xsC p.xs) _ 1 rfl (SrcE.sl 53 53 _ _ 1 1 _ rfl rfl (.inl ⟨1, List.Mem.tail _ (List.Mem.head _)⟩) rfl) (by show (p.xs.length + 1) * 64 ≤ _; omega) (fun a3 k3 => ?_) | exact FinE.mk [] ({ p with xa := a3, xc := k3, xs := p.xs ++ [⟨false, b, sp, nm, sec⟩] } : PolM).facts ⟨{ p with xa := a3, xc := k3, xs := p.xs ++ [⟨false, b, sp, nm, sec⟩] }, (by intro h; first | rfl | (cases h; done) | (simp at h; subst h; simp [PolM.p3])), id, (by show _ = V.t2 (V.agg [_, _, .sl a3 (p.xs ++ [_]).length k3]) _; rw [List.length_append]; rfl), rfl, rfl⟩ (Ents.drop.trans (Ents.toFact.trans (Ents.dropAll.trans (Ents.facts fun m h => ⟨h.2.2.1, h.2.2.2.1, h.2.2.2.2.1, (by show SlF m 0 5 a3 (p.xs ++ [_]).length (xsC (p.xs ++ [_])); rw [xsC_snoc, List.length_append]; exact h.1), trivial⟩)))) | exact FinE.mk [] ({ p with xa := a3, xc := k3, xs := p.xs ++ [⟨false, b, sp, nm, sec⟩] } : PolM).facts ⟨{ p with xa := a3, xc := k3, xs := p.xs ++ [⟨false, b, sp, nm, sec⟩] }, (by intro h; first | rfl | (cases h; done) | (simp at h; subst h; simp [PolM.p3])), id, (by show _ = V.t2 (V.agg [_, _, .sl a3 (p.xs ++ [_]).length k3]) _; rw [List.length_append]; rfl), rfl, rfl⟩ ((Ents.toFact.trans (Ents.dropAll.trans (Ents.facts fun m h => ⟨h.2.2.1, h.2.2.2.1, h.2.2.2.2.1, (by show SlF m 0 5 a3 (p.xs ++ [_]).length (xsC (p.xs ++ [_])); rw [xsC_snoc, List.length_append]; exact h.1), trivial⟩))))
      | fail
  · have h4 : ¬ a = wGuard := by rw [ha]; decide
    rw [decide_eq_true ha]
    repeat' first
      | refine CondP.no h35 ?_ | refine CondP.no h1 ?_ | refine CondP.no h2 ?_ | refine CondP.no h3 ?_ | refine CondP.no h4 ?_ | refine CondP.yes ha ?_
      | refine J_seq ?_ | refine J_region Tryz.tyOK ?_ | refine J_block ?_ | refine J_cond ?_ | refine J_ret ?_ | refine J_skip ?_ | refine J_exit ?_ | refine J_scope ?_
      | refine CondP.yes (by omega) ?_ | refine CondP.no (by omega) ?_ | refine CondP.mk (fun h => ?_) (fun h => ?_) | refine EqP.mk rfl ?_ | refine NewP.mk (fun ad => ?_) | refine ArP.exact (by simp only [inR]; omega) ?_ | refine SideP.mk (by first | omega | (dsimp only; omega) | (simp; omega)) ?_
      | refine IdxE.mk 9 1 _ (hrw _) (by omega) (by omega) ?_ | refine LoadE.mk 9 _ _ _ (hrw _) (by omega) (by omega) (by omega) hc0 ?_ | refine LoadE.mk 9 _ _ _ (hrw _) (by omega) (by omega) (by omega) hc1 ?_ | refine CallP.is c3 ?_ | refine CallP.is c4 ?_ | refine J_drawZ (id := 8) Tryz.tyOK (by kernel_rfl) [0, 1, 3, 0, 8, 24, 0, 64, 199, 511, 1023, 2047, 4095, 8191] [0, 1, 3, 4, 5, 6, 7, 2, 8, 9, 10, 11, 12, 13] [2, 8, 10, 11, 13] [2, 38] 13 false (by kernel_rfl) ?_ | refine J_drawZ (id := 15) Tryz.tyOK (by kernel_rfl) [0, 1, 3, 0, 8, 24, 56, 0, 128, 384, 903, 0, 2048, 6144, 0, 32767, 65535, 131071, 262143, 524287] [0, 1, 3, 4, 5, 6, 7, 8, 9, 11, 12, 13, 14, 2, 10, 15, 16, 17, 18, 19] [2, 16, 17, 19] [2, 7, 72, 76, 80] 19 false (by kernel_rfl) ?_ | refine J_drawT (id := 22) Tryz.tyOK (by kernel_rfl) [0, 1, 3, 0, 8, 24, 56, 0, 128, 384, 0, 0, 4088, 8184, 16383, 32767, 65535] [0, 1, 3, 4, 5, 6, 7, 8, 9, 10, 11, 12] 2 [13, 14, 15, 16] 13 [2, 14, 15, 16] [2, 13, 14, 16] [2, 9, 107, 111] 16 false (by kernel_rfl) ?_ | refine TwoP.mk ?_ ?_ | refine EntP.mk (Ents.ofSub (by repeat (first | exact List.Sublist.slnil | refine List.Sublist.cons_cons _ ?_ | refine List.Sublist.cons _ ?_)) (by first | exact fun _ h => h | exact fun _ _ => trivial | exact fun _ h => h.2 | exact fun _ h => h.2.2.2.2 | exact fun _ h => ((allD_append _ _).1 h).2)) ?_ | refine AppE.nil (xsC p.xs) p.xs.length rfl rfl rfl (SrcE.sl 0 53 _ _ _ _ _ rfl rfl (.inr fun m h => h.2.2.2.2.1) hxl) (by show p.xs.length * 64 ≤ _; omega) (fun a1 k1 => ?_) | refine AppE.row [_] [_, _, _] (xsC p.xs) _ 1 rfl (SrcE.sl 53 53 _ _ 1 1 _ rfl rfl (.inl ⟨1, List.Mem.head _⟩) rfl) (by show (p.xs.length + 1) * 64 ≤ _; omega) (fun a3 k3 => ?_) | refine AppE.row [] [_, _, _, _] (xsC p.xs) _ 1 rfl (SrcE.sl 53 53 _ _ 1 1 _ rfl rfl (.inl ⟨1, List.Mem.tail _ (List.Mem.head _)⟩) rfl) (by show (p.xs.length + 1) * 64 ≤ _; omega) (fun a3 k3 => ?_) | exact FinE.mk [] ({ p with xa := a3, xc := k3, xs := p.xs ++ [⟨true, b, sp, nm, sec⟩] } : PolM).facts ⟨{ p with xa := a3, xc := k3, xs := p.xs ++ [⟨true, b, sp, nm, sec⟩] }, (by intro h; first | rfl | (cases h; done) | (simp at h; subst h; simp [PolM.p3])), id, (by show _ = V.t2 (V.agg [_, _, .sl a3 (p.xs ++ [_]).length k3]) _; rw [List.length_append]; rfl), rfl, rfl⟩ (Ents.drop.trans (Ents.toFact.trans (Ents.dropAll.trans (Ents.facts fun m h => ⟨h.2.2.1, h.2.2.2.1, h.2.2.2.2.1, (by show SlF m 0 5 a3 (p.xs ++ [_]).length (xsC (p.xs ++ [_])); rw [xsC_snoc, List.length_append]; exact h.1), trivial⟩)))) | exact FinE.mk [] ({ p with xa := a3, xc := k3, xs := p.xs ++ [⟨true, b, sp, nm, sec⟩] } : PolM).facts ⟨{ p with xa := a3, xc := k3, xs := p.xs ++ [⟨true, b, sp, nm, sec⟩] }, (by intro h; first | rfl | (cases h; done) | (simp at h; subst h; simp [PolM.p3])), id, (by show _ = V.t2 (V.agg [_, _, .sl a3 (p.xs ++ [_]).length k3]) _; rw [List.length_append]; rfl), rfl, rfl⟩ ((Ents.toFact.trans (Ents.dropAll.trans (Ents.facts fun m h => ⟨h.2.2.1, h.2.2.2.1, h.2.2.2.2.1, (by show SlF m 0 5 a3 (p.xs ++ [_]).length (xsC (p.xs ++ [_])); rw [xsC_snoc, List.length_append]; exact h.1), trivial⟩))))
      | fail

end Go.Proofs
