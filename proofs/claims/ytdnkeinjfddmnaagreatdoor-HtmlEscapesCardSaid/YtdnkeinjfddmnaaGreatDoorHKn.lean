/- This text walks through html.Render on a document of one paragraph, and through the sanity check of chapter 20. -/
import Derived.Test.YtdnkeinjfddmnaaGreatDoorHWr
import Derived.Test.YtdnkeinjfddmnaaGreatDoorHPath
set_option linter.all false

namespace Go.Proofs
open Go Go.X
set_option maxRecDepth 100000

theorem blocksPara1 (id ab : Nat) (ba ia : Option Addr) (bc ic : Nat) (s : List UInt8) (hs : s.length ≤ 100000) (mi no : C) :
    FnS Tryz.prog 52 [.c (.p id ab 0), .c (.sl ba 1 bc), .c (.b true)] (bw id ab 87 none 0 [] (wR mi no)) [pgF ba ia ic, txF ia s] (BwPost .t0 id ab 87 (pOpen ++ escT s ++ pEnd) (wR mi no)) :=
  (blocksPara ab ba ia bc ic s hs mi no).same rfl (bw_same _ _ _ _ _ _ _ _) fun v L1 D1 ⟨a', c', h1, h2, h3⟩ => ⟨_, h2 ▸ bw_same 0 id ab _ a' c' _ _, a', c', h1, rfl, h3⟩
theorem noContents1 (id ab : Nat) (mi no : C) : FnS Tryz.prog 51 [.c (.p id ab 0)] (bw id ab 87 none 0 [] (wR mi no)) [] (fun v L D => v = .t0 ∧ L = bw id ab 87 none 0 [] (wR mi no) ∧ D = []) :=
  (noContents ab mi no).same rfl (bw_same _ _ _ _ _ _ _ _) fun v L1 D1 ⟨h1, h2, h3⟩ => ⟨_, h2 ▸ bw_same 0 id ab _ none 0 [] _, h1, rfl, h3⟩
theorem noList1 (id ab : Nat) : FnS Tryz.prog 53 [.c (.p id ab 0), .c (.sl none 0 0)] [] [] (Is .t0) :=
  (noList ab).same rfl ⟨rfl, fun _ => Iff.rfl⟩ fun v L1 D1 h => ⟨L1, ⟨rfl, fun _ => Iff.rfl⟩, h⟩

theorem renderPara (ba ia : Option Addr) (bc ic : Nat) (s : List UInt8) (hs : s.length ≤ 100000) :
    FnS Tryz.prog 20 [.c (.sl ba 1 bc), .c (.sl none 0 0)] [] [pgF ba ia ic, txF ia s] (Is (.c (.s (pOpen ++ escT s ++ pEnd)))) := by
  have hm := marksPara ba ia bc ic s
  refine fn_of_J Tryz.tyOK 0 Tryz.func20 (by kernel_rfl) (c := Tryz.f20.body.getD .skip) (by kernel_rfl) Tryz.ntmps20 (rs := Tryz.f20.results.toList) rfl (by simp) (fun G => ?_)
  repeat' first
    | refine CondP.yes (by decide) ?_ | refine CondP.no (by decide) ?_
    | refine J_seq ?_ | refine J_region Tryz.tyOK ?_ | refine J_block ?_ | refine J_cond ?_ | refine J_ret ?_ | refine J_skip ?_ | refine J_exit ?_ | refine J_scope ?_
    | refine CondP.yes (by omega) ?_ | refine CondP.no (by omega) ?_ | refine CondP.mk (fun h => ?_) (fun h => ?_) | refine EqP.mk rfl ?_ | refine NewP.mk (fun ad => ?_) | refine ArP.exact (by simp only [inR]; omega) ?_ | refine SideP.mk (by first | omega | (dsimp only; omega) | (simp; omega)) ?_
    | refine J_rounds 1 ?_ | refine JR_succ ?_ | refine CallP.is (contentsPara ba ia bc ic s) ?_ | (refine CallP.mk [] _ _ _ hm (List.Perm.refl _) (fun _ h => h) (fun v L' D' hp => ?_); obtain ⟨a1, c1, rfl, rfl, rfl⟩ := hp) | refine CallP.is (notesPara ba ia bc ic s) ?_ | refine SideP.mk (by decide) ?_ | (refine CallP.mk _ [_, _] [] _ (noContents1 _ _ _ _) (List.Perm.refl _) (fun _ _ => trivial) (fun v L' D' hp => ?_); obtain ⟨rfl, rfl, rfl⟩ := hp) | (refine CallP.mk _ [_, _] [pgF ba ia ic, txF ia s] _ (blocksPara1 _ _ ba ia bc ic s hs _ _) (List.Perm.refl _) (fun _ h => h) (fun v L' D' hp => ?_); obtain ⟨a2, c2, rfl, rfl, rfl⟩ := hp) | refine CallP.is (noList1 _ _) ?_ | (refine CallP.mk _ [_, _] [] _ (bwText_ok _ _ 87 a2 c2 (pOpen ++ escT s ++ pEnd) (wR _ _)) (List.Perm.refl _) (fun _ _ => trivial) (fun v L' D' hp => ?_); obtain ⟨rfl, rfl, rfl⟩ := hp) | exact FinE.mk [] [] ⟨rfl, rfl, rfl⟩ (Ents.dropAll.trans (Ents.facts fun _ _ => trivial))
    | fail
  all_goals trace_state

theorem paragraph_ok (s : List UInt8) : FnS Tryz.prog 28 [.c (.s s)] [] [] (fun v L D => ∃ ba ia bc ic, v = .c (.sl ba 1 bc) ∧ L = [] ∧ D = [pgF ba ia ic, txF ia s]) := by
  refine fn_of_J Tryz.tyOK 0 Tryz.func28 (by kernel_rfl) (c := Tryz.f28.body.getD .skip) (by kernel_rfl) Tryz.ntmps28 (rs := Tryz.f28.results.toList) rfl (by simp) (fun G => ?_)
  repeat' first
    | refine J_seq ?_ | refine J_region Tryz.tyOK ?_ | refine J_block ?_ | refine J_cond ?_ | refine J_ret ?_ | refine J_skip ?_ | refine J_exit ?_ | refine J_scope ?_
    | refine CondP.yes (by omega) ?_ | refine CondP.no (by omega) ?_ | refine CondP.mk (fun h => ?_) (fun h => ?_) | refine EqP.mk rfl ?_ | refine NewP.mk (fun ad => ?_) | refine ArP.exact (by simp only [inR]; omega) ?_ | refine SideP.mk (by first | omega | (dsimp only; omega) | (simp; omega)) ?_
    | fail | refine FinE.mk [] [pgF _ _ _, txF _ s] ⟨_, _, _, _, rfl, rfl, rfl⟩ (Ents.toFact.trans (Ents.toFact.trans (Ents.facts fun _ h => ⟨h.2.1, h.1, trivial⟩)))
    | fail
  all_goals trace_state

end Go.Proofs
