/- This text walks through the functions Ancestors and Format of the reference of chapter 1. -/
import Derived.Test.YtimekkilmffpiaaDoorRef1e
import Derived.Test.YtimekkilmffpiaaDoorWResolve
set_option linter.all false

namespace Go.Proofs
open Go Go.X
set_option maxRecDepth 100000

theorem refAncestors_ok (sp : Int) (s : List UInt8) (hs : s.length ≤ 1000000) : FnS Tryd.prog 23 [.agg [.i .i64 sp, .s s]] [] [gInt 0]
    (fun v L D => ∃ a c, v = .c (.sl a (ancT sp s).length c) ∧ L = [.row 24 2 a (ancT sp s).length c (titlesC sp (ancT sp s))] ∧ D = []) := by
  have hno : validT sp s = false → ancT sp s = [] := fun h => by simp [ancT, h]
  have hyes : validT sp s = true → ancT sp s = ancL s s.length := fun h => by simp [ancT, h]
  refine fn_of_J Tryd.tyOK 0 Tryd.func23 (by kernel_rfl) (c := Tryd.f23.body.getD .skip) (by kernel_rfl) Tryd.ntmps23 (rs := Tryd.f23.results.toList) rfl (by simp) (fun G => ?_)
  repeat' first
    | refine J_stop (c := .seq (.seq (.region 4 _ _) _) _) ?_
    | refine J_seq ?_ | refine J_region Tryd.tyOK ?_ | refine J_block ?_ | refine J_cond ?_ | refine J_ret ?_ | refine J_skip ?_ | refine J_exit ?_
    | refine CondP.yes (by omega) ?_ | refine CondP.no (by omega) ?_ | refine CondP.mk (fun h => ?_) (fun h => ?_) | refine EqP.mk rfl ?_ | refine NewP.mk (fun ad => ?_) | refine ArP.exact (by simp only [inR]; omega) ?_ | refine SideP.mk (by first | omega | (dsimp only; omega) | (simp; omega)) ?_
    | refine CallP.isB (refValid_ok sp s hs) (fun hv => ?_) (fun hv => ?_)
    | fail
  rotate_left
  · refine FinE.mk [.row 24 2 none 0 0 []] [] ⟨none, 0, ?_, ?_, rfl⟩ (Ents.dropAll.trans ((Ents.facts (D' := []) fun _ _ => trivial).trans Ents.nilRow))
    · rw [hno hv]; rfl
    · rw [hno hv]; rfl
  rw [hyes hv]
  refine ⟨?_⟩
  refine J_seq ?_
  repeat' first
    | refine J_seq ?_ | refine J_region Tryd.tyOK ?_ | refine J_block ?_ | refine J_cond ?_ | refine J_ret ?_ | refine J_skip ?_ | refine J_exit ?_
    | refine CondP.yes (by omega) ?_ | refine CondP.no (by omega) ?_ | refine CondP.mk (fun h => ?_) (fun h => ?_) | refine EqP.mk rfl ?_ | refine NewP.mk (fun ad => ?_) | refine ArP.exact (by simp only [inR]; omega) ?_ | refine SideP.mk (by first | omega | (dsimp only; omega) | (simp; omega)) ?_
    | fail
    | fail
  refine J_loop (α := Nat × Option Addr × Nat) (fun x => [(4, .c (.i .i64 x.1)), (3, .c (.sl x.2.1 (ancL s x.1).length x.2.2)), (1, .c (.p 0 ad 0))])
    (fun x => [.row 24 2 x.2.1 (ancL s x.1).length x.2.2 (titlesC sp (ancL s x.1)), .box 0 ad 24 [.i .i64 sp, .s s]]) (fun _ => []) 1 (fun x => x.1 ≤ s.length) (fun x => s.length - x.1)
    (InFam.mk (0, none, 0) (by simp) (by repeat' first | exact SubE.nil | refine SubE.cons rfl ?_ ?_ | exact VEq.refl _ | refine VEq.int (by omega) | refine VEq.sl rfl (by first | rfl | omega | (rw [List.length_append]; rfl) | (simp; omega)) rfl) (Ents.nilRow.trans (Ents.facts (D' := []) fun _ _ => trivial))) (fun x hi => ?_)
  obtain ⟨i, a, c⟩ := x
  dsimp only at hi ⊢
  have hal := ancL_le s i
  by_cases hlt : i < s.length
  · have hst : ancL s (i + 1) = if ((s.getD i 0).toNat : Int) = 47 then ancL s i ++ [s.take i] else ancL s i := rfl
    repeat' first
      | refine J_seq ?_ | refine J_region Tryd.tyOK ?_ | refine J_block ?_ | refine J_cond ?_ | refine J_ret ?_ | refine J_skip ?_ | refine J_exit ?_
      | refine CondP.yes (by omega) ?_ | refine CondP.no (by omega) ?_ | refine CondP.mk (fun h => ?_) (fun h => ?_) | refine EqP.mk rfl ?_ | refine NewP.mk (fun ad => ?_) | refine ArP.exact (by simp only [inR]; omega) ?_ | refine SideP.mk (by first | omega | (dsimp only; omega) | (simp; omega)) ?_
      | refine J_draw Tryd.tyOK (by kernel_rfl) [0, 1, 2, 3, 4, 5, 6, 7, 8, 9, 10] [8, 9] [.box 0 ad 24 [.i .i64 sp, .s s]] [] (by kernel_rfl) Ents.drop ?_ | refine EntP.mk Ents.drop ?_ | refine EntP.mk (Ents.drop.trans Ents.drop) ?_ | refine AppE.row [_] [_] (titlesC sp (ancL s i)) [.i .i64 sp, .s (s.take i)] 1 rfl (SrcE.sl 24 24 _ _ 1 1 _ rfl rfl (.inl ⟨1, List.Mem.head _⟩) rfl) (by dsimp only; omega) (fun a' c' => ?_) | refine Round.mk (i + 1, a', c') (by simp; omega) (by simp; omega) ?_ ?_ | refine Round.mk (i + 1, a, c) (by simp; omega) (by simp; omega) ?_ ?_
      | fail
    all_goals
      first
        | (have e : ancL s (i + 1) = ancL s i ++ [s.take i] := by rw [hst, if_pos (by assumption)]
           dsimp only; rw [e])
        | (have e : ancL s (i + 1) = ancL s i := by rw [hst, if_neg (by assumption)]
           dsimp only; rw [e])
      first
        | exact Ents.refl _ _
        | refine Ents.drop.trans (Ents.of (by unfold titlesC; rw [List.length_append, List.flatMap_append]; rfl))
        | skip
      repeat' first
        | exact SubE.nil | refine SubE.cons rfl ?_ ?_ | exact VEq.refl _ | refine VEq.int (by omega) | refine VEq.sl rfl (by first | rfl | omega | (rw [List.length_append]; rfl) | (simp; omega)) rfl
        | fail
  · have hil : i = s.length := by omega
    subst hil
    repeat' first
      | refine J_seq ?_ | refine J_region Tryd.tyOK ?_ | refine J_block ?_ | refine J_cond ?_ | refine J_ret ?_ | refine J_skip ?_ | refine J_exit ?_
      | refine CondP.yes (by omega) ?_ | refine CondP.no (by omega) ?_ | refine CondP.mk (fun h => ?_) (fun h => ?_) | refine EqP.mk rfl ?_ | refine NewP.mk (fun ad => ?_) | refine ArP.exact (by simp only [inR]; omega) ?_ | refine SideP.mk (by first | omega | (dsimp only; omega) | (simp; omega)) ?_
      | refine FinE.mk [.row 24 2 a (ancL s s.length).length c (titlesC sp (ancL s s.length))] [] ⟨a, c, rfl, rfl, rfl⟩ ((Ents.perm (List.perm_append_comm (l₁ := [_]) (l₂ := [_]))).trans Ents.drop)
      | fail

theorem refFormat_ok (sp : Int) (s : List UInt8) (hs : s.length ≤ 1000000) : FnS Tryd.prog 18 [.agg [.i .i64 sp, .s s]] [] [] (Is (.c (.s (formatT sp s)))) := by
  have hb := @validT_bounds sp s
  have hn := spName_le sp.toNat
  refine fn_of_J Tryd.tyOK 0 Tryd.func18 (by kernel_rfl) (c := Tryd.f18.body.getD .skip) (by kernel_rfl) Tryd.ntmps18 (rs := Tryd.f18.results.toList) rfl (by simp) (fun G => ?_)
  repeat' first
    | refine J_seq ?_ | refine J_region Tryd.tyOK ?_ | refine J_block ?_ | refine J_cond ?_ | refine J_ret ?_ | refine J_skip ?_ | refine J_exit ?_
    | refine CondP.yes (by omega) ?_ | refine CondP.no (by omega) ?_ | refine CondP.mk (fun h => ?_) (fun h => ?_) | refine EqP.mk rfl ?_ | refine NewP.mk (fun ad => ?_) | refine ArP.exact (by simp only [inR]; omega) ?_ | refine SideP.mk (by first | omega | (dsimp only; omega) | (simp; omega)) ?_
    | refine CallP.isB (refValid_ok sp s hs) (fun hv => ?_) (fun hv => ?_) | refine FinE.str ?_ | refine J_draw Tryd.tyOK (by kernel_rfl) [0, 1, 2, 3, 4, 5, 6, 7] [] _ _ (by kernel_rfl) (Ents.refl _ _) ?_ | refine CallQ.mk [] _ (spaceName_ok _) (fun _ _ => trivial) ?_ | refine SideP.mk (by have := hb hv; simp; omega) ?_
    | fail
  all_goals
    unfold formatT
    repeat (first | rw [if_pos (by assumption)] | rw [if_neg (by assumption)] | rw [if_neg (by simp [*])])
    try rfl

end Go.Proofs
