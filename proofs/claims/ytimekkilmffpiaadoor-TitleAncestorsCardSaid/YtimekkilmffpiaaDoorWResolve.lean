/- This text walks through the functions Resolve and Ancestors of the package title. -/
import Derived.Test.YtimekkilmffpiaaDoorWFormat
set_option linter.all false

namespace Go.Proofs
open Go Go.X
set_option maxRecDepth 100000

theorem resolve_ok (sp : Int) (n s : List UInt8) (hn : n.length ≤ 1000) (hs : s.length ≤ 1000) : FnS Tryd.prog 19 [.agg [.i .i64 sp, .s n], .c (.s s)] [] [gInt 0] (Is (parseV (resolveT sp n s))) := by
  have h1 : (Lib.trimLeftS s [32, 95]).length ≤ s.length := dropWhile_le s
  have h2 := formatT_le sp n
  have c0 := trimLeftS_ok s [32, 95] (by decide) (by intro j b hb; have := List.mem_of_getElem? hb; simp at this; rcases this with rfl | rfl <;> decide)
  unfold resolveT
  generalize Lib.trimLeftS s [32, 95] = t at *
  have c1 := parse_ok (formatT sp n ++ t) (by simp; omega)
  have c2 := parse_ok s (by omega)
  have c3 := format_ok sp n (by omega)
  generalize formatT sp n = q at *
  generalize parseT (q ++ t) = r1 at *
  generalize parseT s = r2 at *
  obtain ⟨a1, b1, e1⟩ := r1
  obtain ⟨a2, b2, e2⟩ := r2
  refine fn_of_J Tryd.tyOK 0 Tryd.func19 (by kernel_rfl) (c := Tryd.f19.body.getD .skip) (by kernel_rfl) Tryd.ntmps19 (rs := Tryd.f19.results.toList) rfl (by simp) (fun G => ?_)
  repeat' first
    | refine J_seq ?_ | refine J_region Tryd.tyOK ?_ | refine J_block ?_ | refine J_cond ?_ | refine J_ret ?_ | refine J_skip ?_ | refine J_exit ?_
    | refine CondP.yes (by omega) ?_ | refine CondP.no (by omega) ?_ | refine CondP.mk (fun h => ?_) (fun h => ?_) | refine EqP.mk rfl ?_ | refine NewP.mk (fun ad => ?_) | refine ArP.exact (by simp only [inR]; omega) ?_ | refine SideP.mk (by first | omega | (dsimp only; omega) | (simp; omega)) ?_
    | refine CallP.is c0 ?_ | refine CallP.isB (hasPrefix_ok t [47]) (fun hp => ?_) (fun hp => ?_)
    | fail
  · rw [if_pos hp]
    repeat' first
      | refine J_seq ?_ | refine J_region Tryd.tyOK ?_ | refine J_block ?_ | refine J_cond ?_ | refine J_ret ?_ | refine J_skip ?_ | refine J_exit ?_
      | refine CondP.yes (by omega) ?_ | refine CondP.no (by omega) ?_ | refine CondP.mk (fun h => ?_) (fun h => ?_) | refine EqP.mk rfl ?_ | refine NewP.mk (fun ad => ?_) | refine ArP.exact (by simp only [inR]; omega) ?_ | refine SideP.mk (by first | omega | (dsimp only; omega) | (simp; omega)) ?_
      | refine CallP.is c3 ?_
      | fail
    refine CallP.is c1 ?_
    repeat' first
      | refine J_seq ?_ | refine J_region Tryd.tyOK ?_ | refine J_block ?_ | refine J_cond ?_ | refine J_ret ?_ | refine J_skip ?_ | refine J_exit ?_
      | refine CondP.yes (by omega) ?_ | refine CondP.no (by omega) ?_ | refine CondP.mk (fun h => ?_) (fun h => ?_) | refine EqP.mk rfl ?_ | refine NewP.mk (fun ad => ?_) | refine ArP.exact (by simp only [inR]; omega) ?_ | refine SideP.mk (by first | omega | (dsimp only; omega) | (simp; omega)) ?_
      | fail
      | fail
    refine FinE.is ?_
    rfl
  · rw [if_neg (by simp [hp])]
    repeat' first
      | refine J_seq ?_ | refine J_region Tryd.tyOK ?_ | refine J_block ?_ | refine J_cond ?_ | refine J_ret ?_ | refine J_skip ?_ | refine J_exit ?_
      | refine CondP.yes (by omega) ?_ | refine CondP.no (by omega) ?_ | refine CondP.mk (fun h => ?_) (fun h => ?_) | refine EqP.mk rfl ?_ | refine NewP.mk (fun ad => ?_) | refine ArP.exact (by simp only [inR]; omega) ?_ | refine SideP.mk (by first | omega | (dsimp only; omega) | (simp; omega)) ?_
      | refine CallP.is c2 ?_ | refine FinE.is ?_
      | fail
    rfl

/-- The cells of titles of one namespace. -/
def titlesC (sp : Int) (l : List (List UInt8)) : List C := l.flatMap fun p => [.i .i64 sp, .s p]

theorem ancestors_ok (sp : Int) (s : List UInt8) (hs : s.length ≤ 1000000) : FnS Tryd.prog 21 [.agg [.i .i64 sp, .s s]] [] [gInt 0]
    (fun v L D => ∃ a c, v = .c (.sl a (ancT sp s).length c) ∧ L = [.row 24 2 a (ancT sp s).length c (titlesC sp (ancT sp s))] ∧ D = []) := by
  have hno : validT sp s = false → ancT sp s = [] := fun h => by simp [ancT, h]
  have hyes : validT sp s = true → ancT sp s = ancL s s.length := fun h => by simp [ancT, h]
  refine fn_of_J Tryd.tyOK 0 Tryd.func21 (by kernel_rfl) (c := Tryd.f21.body.getD .skip) (by kernel_rfl) Tryd.ntmps21 (rs := Tryd.f21.results.toList) rfl (by simp) (fun G => ?_)
  repeat' first
    | refine J_stop (c := .seq (.seq (.region 4 _ _) _) _) ?_
    | refine J_seq ?_ | refine J_region Tryd.tyOK ?_ | refine J_block ?_ | refine J_cond ?_ | refine J_ret ?_ | refine J_skip ?_ | refine J_exit ?_
    | refine CondP.yes (by omega) ?_ | refine CondP.no (by omega) ?_ | refine CondP.mk (fun h => ?_) (fun h => ?_) | refine EqP.mk rfl ?_ | refine NewP.mk (fun ad => ?_) | refine ArP.exact (by simp only [inR]; omega) ?_ | refine SideP.mk (by first | omega | (dsimp only; omega) | (simp; omega)) ?_
    | refine CallP.isB (valid_ok sp s hs) (fun hv => ?_) (fun hv => ?_)
    | fail
  rotate_left
  · refine FinE.mk [.row 24 2 none 0 0 []] [] ⟨none, 0, ?_, ?_, rfl⟩ (Ents.dropAll.trans ((Ents.facts (D' := []) fun _ _ => trivial).trans Ents.nilRow))
    · rw [hno hv]; rfl
    · rw [hno hv]; rfl
  rw [hyes hv]
  refine ⟨?_⟩
  refine J_seq ?_
  repeat' first
    | refine J_seq ?_ | refine J_region Tryd.tyOK ?_ | refine J_block ?_ | refine J_cond ?_ | refine J_ret ?_ | refine J_skip ?_ | refine J_exit ?_
    | refine CondP.yes (by omega) ?_ | refine CondP.no (by omega) ?_ | refine CondP.mk (fun h => ?_) (fun h => ?_) | refine EqP.mk rfl ?_ | refine NewP.mk (fun ad => ?_) | refine ArP.exact (by simp only [inR]; omega) ?_ | refine SideP.mk (by first | omega | (dsimp only; omega) | (simp; omega)) ?_
    | fail
    | fail
  refine J_loop (α := Nat × Option Addr × Nat) (fun x => [(4, .c (.i .i64 x.1)), (3, .c (.sl x.2.1 (ancL s x.1).length x.2.2)), (1, .c (.p 0 ad 0))])
    (fun x => [.row 24 2 x.2.1 (ancL s x.1).length x.2.2 (titlesC sp (ancL s x.1)), .box 0 ad 24 [.i .i64 sp, .s s]]) (fun _ => []) 1 (fun x => x.1 ≤ s.length) (fun x => s.length - x.1)
    (InFam.mk (0, none, 0) (by simp) (by repeat' first | exact SubE.nil | refine SubE.cons rfl ?_ ?_ | exact VEq.refl _ | refine VEq.int (by omega) | refine VEq.sl rfl (by first | rfl | omega | (rw [List.length_append]; rfl) | (simp; omega)) rfl) (Ents.nilRow.trans (Ents.facts (D' := []) fun _ _ => trivial))) (fun x hi => ?_)
  obtain ⟨i, a, c⟩ := x
  dsimp only at hi ⊢
  have hal := ancL_le s i
  by_cases hlt : i < s.length
  · have hst : ancL s (i + 1) = if ((s.getD i 0).toNat : Int) = 47 then ancL s i ++ [s.take i] else ancL s i := rfl
    repeat' first
      | refine J_seq ?_ | refine J_region Tryd.tyOK ?_ | refine J_block ?_ | refine J_cond ?_ | refine J_ret ?_ | refine J_skip ?_ | refine J_exit ?_
      | refine CondP.yes (by omega) ?_ | refine CondP.no (by omega) ?_ | refine CondP.mk (fun h => ?_) (fun h => ?_) | refine EqP.mk rfl ?_ | refine NewP.mk (fun ad => ?_) | refine ArP.exact (by simp only [inR]; omega) ?_ | refine SideP.mk (by first | omega | (dsimp only; omega) | (simp; omega)) ?_
      | refine J_draw Tryd.tyOK (by kernel_rfl) [0, 1, 2, 3, 4, 5, 6, 7, 8, 9, 10] [8, 9] [.box 0 ad 24 [.i .i64 sp, .s s]] [] (by kernel_rfl) Ents.drop ?_ | refine EntP.mk Ents.drop ?_ | refine EntP.mk (Ents.drop.trans Ents.drop) ?_ | refine AppE.row [_] [_] (titlesC sp (ancL s i)) [.i .i64 sp, .s (s.take i)] 1 rfl (SrcE.sl 24 24 _ _ 1 1 _ rfl rfl (.inl ⟨1, List.Mem.head _⟩) rfl) (by dsimp only; omega) (fun a' c' => ?_) | refine Round.mk (i + 1, a', c') (by simp; omega) (by simp; omega) ?_ ?_ | refine Round.mk (i + 1, a, c) (by simp; omega) (by simp; omega) ?_ ?_
      | fail
    all_goals
      first
        | (have e : ancL s (i + 1) = ancL s i ++ [s.take i] := by rw [hst, if_pos (by assumption)]
           dsimp only; rw [e])
        | (have e : ancL s (i + 1) = ancL s i := by rw [hst, if_neg (by assumption)]
           dsimp only; rw [e])
      first
        | exact Ents.refl _ _
        | refine Ents.drop.trans (Ents.of (by unfold titlesC; rw [List.length_append, List.flatMap_append]; rfl))
        | skip
      repeat' first
        | exact SubE.nil | refine SubE.cons rfl ?_ ?_ | exact VEq.refl _ | refine VEq.int (by omega) | refine VEq.sl rfl (by first | rfl | omega | (rw [List.length_append]; rfl) | (simp; omega)) rfl
        | fail
  · have hil : i = s.length := by omega
    subst hil
    repeat' first
      | refine J_seq ?_ | refine J_region Tryd.tyOK ?_ | refine J_block ?_ | refine J_cond ?_ | refine J_ret ?_ | refine J_skip ?_ | refine J_exit ?_
      | refine CondP.yes (by omega) ?_ | refine CondP.no (by omega) ?_ | refine CondP.mk (fun h => ?_) (fun h => ?_) | refine EqP.mk rfl ?_ | refine NewP.mk (fun ad => ?_) | refine ArP.exact (by simp only [inR]; omega) ?_ | refine SideP.mk (by first | omega | (dsimp only; omega) | (simp; omega)) ?_
      | refine FinE.mk [.row 24 2 a (ancL s s.length).length c (titlesC sp (ancL s s.length))] [] ⟨a, c, rfl, rfl, rfl⟩ ((Ents.perm (List.perm_append_comm (l₁ := [_]) (l₂ := [_]))).trans Ents.drop)
      | fail

end Go.Proofs
