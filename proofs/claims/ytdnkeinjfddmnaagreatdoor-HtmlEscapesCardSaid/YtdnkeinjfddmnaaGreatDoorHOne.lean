/- This text walks through the functions on a document of one paragraph: its contents, marks and notes are empty. -/
import Derived.Test.YtdnkeinjfddmnaaGreatDoorBldH
import Derived.Test.YtdnkeinjfddmnaaGreatDoorRepF
import Derived.Test.YtdnkeinjfddmnaaGreatDoorDrawU
set_option linter.all false

namespace Go.Proofs
open Go Go.X
set_option maxRecDepth 100000

/-- An element that is a text. -/
def txC (s : List UInt8) : List C := [.i .i64 1, .s s, .i .i64 0, .s [], .s [], .sl none 0 0]
/-- A block that is a paragraph. -/
def pgC (ia : Option Addr) (ic : Nat) : List C := [.i .i64 2, .i .i64 0, .s [], .sl ia 1 ic, .sl none 0 0]
def txF (ia : Option Addr) (s : List UInt8) : Fact := slFact 102 6 ia 1 (txC s)
def pgF (ba ia : Option Addr) (ic : Nat) : Fact := slFact 81 5 ba 1 (pgC ia ic)

theorem readsNil {L : List Chunk} {D : List Fact} {e z : Nat} {a : Option Addr} : Reads L D e z a 0 [] := .inr fun _ _ => ⟨(fun x hx => by cases hx), .inl ⟨rfl, rfl⟩⟩

theorem marksOne (ia : Option Addr) (ic : Nat) (s : List UInt8) : FnS Tryz.prog 84 [.c (.sl ia 1 ic)] [] [txF ia s] (Is (.c (.sl none 0 0))) := by
  have hr : ∀ L, Reads L [txF ia s] 102 6 ia 1 (txC s) := fun _ => .inr fun _ h => h.1
  refine fn_of_J Tryz.tyOK 0 Tryz.func84 (by kernel_rfl) (c := Tryz.f84.body.getD .skip) (by kernel_rfl) Tryz.ntmps84 (rs := Tryz.f84.results.toList) rfl (by simp) (fun G => ?_)
  repeat' first
    | refine CondP.yes (by decide) ?_ | refine CondP.no (by decide) ?_
    | refine J_seq ?_ | refine J_region Tryz.tyOK ?_ | refine J_block ?_ | refine J_cond ?_ | refine J_ret ?_ | refine J_skip ?_ | refine J_exit ?_ | refine J_scope ?_
    | refine CondP.yes (by omega) ?_ | refine CondP.no (by omega) ?_ | refine CondP.mk (fun h => ?_) (fun h => ?_) | refine EqP.mk rfl ?_ | refine NewP.mk (fun ad => ?_) | refine ArP.exact (by simp only [inR]; omega) ?_ | refine SideP.mk (by first | omega | (dsimp only; omega) | (simp; omega)) ?_
    | refine J_rounds 2 ?_ | refine JR_succ ?_ | refine IdxE.mk 102 6 _ (hr _) (by decide) (by decide) ?_ | refine LoadE.mk 102 1 _ _ (hr _) (by decide) (by decide) (by decide) rfl ?_ | exact FinE.mk [] [] ⟨rfl, rfl, rfl⟩ (Ents.dropAll.trans (Ents.facts fun _ _ => trivial))
    | fail
  all_goals trace_state

theorem marksNone (c : Nat) : FnS Tryz.prog 50 [.c (.sl none 0 c)] [] [] (Is (.c (.sl none 0 0))) := by
  refine fn_of_J Tryz.tyOK 0 Tryz.func50 (by kernel_rfl) (c := Tryz.f50.body.getD .skip) (by kernel_rfl) Tryz.ntmps50 (rs := Tryz.f50.results.toList) rfl (by simp) (fun G => ?_)
  repeat' first
    | refine CondP.yes (by decide) ?_ | refine CondP.no (by decide) ?_
    | refine J_seq ?_ | refine J_region Tryz.tyOK ?_ | refine J_block ?_ | refine J_cond ?_ | refine J_ret ?_ | refine J_skip ?_ | refine J_exit ?_ | refine J_scope ?_
    | refine CondP.yes (by omega) ?_ | refine CondP.no (by omega) ?_ | refine CondP.mk (fun h => ?_) (fun h => ?_) | refine EqP.mk rfl ?_ | refine NewP.mk (fun ad => ?_) | refine ArP.exact (by simp only [inR]; omega) ?_ | refine SideP.mk (by first | omega | (dsimp only; omega) | (simp; omega)) ?_
    | refine J_rounds 1 ?_ | refine JR_succ ?_ | exact FinE.mk [] [] ⟨rfl, rfl, rfl⟩ (Ents.refl _ _)
    | fail
  all_goals trace_state

def EmptyP : V → List Chunk → List Fact → Prop := fun v L D => ∃ a c, v = .c (.sl a 0 c) ∧ L = [] ∧ D = []

theorem marksPara (ba ia : Option Addr) (bc ic : Nat) (s : List UInt8) : FnS Tryz.prog 50 [.c (.sl ba 1 bc)] [] [pgF ba ia ic, txF ia s] EmptyP := by
  have hr : ∀ L, Reads L [pgF ba ia ic, txF ia s] 81 5 ba 1 (pgC ia ic) := fun _ => .inr fun _ h => h.1
  refine fn_of_J Tryz.tyOK 0 Tryz.func50 (by kernel_rfl) (c := Tryz.f50.body.getD .skip) (by kernel_rfl) Tryz.ntmps50 (rs := Tryz.f50.results.toList) rfl (by simp) (fun G => ?_)
  repeat' first
    | refine CondP.yes (by decide) ?_ | refine CondP.no (by decide) ?_
    | refine J_seq ?_ | refine J_region Tryz.tyOK ?_ | refine J_block ?_ | refine J_cond ?_ | refine J_ret ?_ | refine J_skip ?_ | refine J_exit ?_ | refine J_scope ?_
    | refine CondP.yes (by omega) ?_ | refine CondP.no (by omega) ?_ | refine CondP.mk (fun h => ?_) (fun h => ?_) | refine EqP.mk rfl ?_ | refine NewP.mk (fun ad => ?_) | refine ArP.exact (by simp only [inR]; omega) ?_ | refine SideP.mk (by first | omega | (dsimp only; omega) | (simp; omega)) ?_
    | refine J_rounds 2 ?_ | refine JR_succ ?_ | refine IdxE.mk 81 5 _ (hr _) (by decide) (by decide) ?_ | refine LoadE.mk 81 1 _ _ (hr _) (by decide) (by decide) (by decide) rfl ?_ | refine CallP.is (marksOne ia ic s) ?_ (fun _ h => ⟨h.2.1, trivial⟩) | refine CallP.is (marksNone _) ?_ | refine AppE.nil [] 0 rfl rfl rfl (SrcE.sl 102 102 _ _ _ _ [] rfl rfl readsNil rfl) (by decide) (fun a' c' => ?_) | refine AppE.row [] _ [] [] 0 rfl (SrcE.sl 102 102 _ _ _ _ [] rfl rfl readsNil rfl) (by decide) (fun a' c' => ?_) | exact FinE.mk [] [] ⟨_, _, rfl, rfl, rfl⟩ (Ents.dropAll.trans (Ents.facts fun _ _ => trivial))
    | fail
  all_goals trace_state

theorem contentsPara (ba ia : Option Addr) (bc ic : Nat) (s : List UInt8) : FnS Tryz.prog 22 [.c (.sl ba 1 bc)] [] [pgF ba ia ic, txF ia s] (Is (.c (.sl none 0 0))) := by
  have hr : ∀ L, Reads L [pgF ba ia ic, txF ia s] 81 5 ba 1 (pgC ia ic) := fun _ => .inr fun _ h => h.1
  refine fn_of_J Tryz.tyOK 0 Tryz.func22 (by kernel_rfl) (c := Tryz.f22.body.getD .skip) (by kernel_rfl) Tryz.ntmps22 (rs := Tryz.f22.results.toList) rfl (by simp) (fun G => ?_)
  repeat' first
    | refine CondP.yes (by decide) ?_ | refine CondP.no (by decide) ?_
    | refine J_seq ?_ | refine J_region Tryz.tyOK ?_ | refine J_block ?_ | refine J_cond ?_ | refine J_ret ?_ | refine J_skip ?_ | refine J_exit ?_ | refine J_scope ?_
    | refine CondP.yes (by omega) ?_ | refine CondP.no (by omega) ?_ | refine CondP.mk (fun h => ?_) (fun h => ?_) | refine EqP.mk rfl ?_ | refine NewP.mk (fun ad => ?_) | refine ArP.exact (by simp only [inR]; omega) ?_ | refine SideP.mk (by first | omega | (dsimp only; omega) | (simp; omega)) ?_
    | refine J_rounds 2 ?_ | refine JR_succ ?_ | refine IdxE.mk 81 5 _ (hr _) (by decide) (by decide) ?_ | refine LoadE.mk 81 1 _ _ (hr _) (by decide) (by decide) (by decide) rfl ?_ | exact FinE.mk [] [] ⟨rfl, rfl, rfl⟩ (Ents.dropAll.trans (Ents.facts fun _ _ => trivial))
    | fail
  all_goals trace_state

theorem notesPara (ba ia : Option Addr) (bc ic : Nat) (s : List UInt8) : FnS Tryz.prog 24 [.c (.sl ba 1 bc)] [] [pgF ba ia ic, txF ia s] (Is (.c (.sl none 0 0))) := by
  have hm := marksPara ba ia bc ic s
  refine fn_of_J Tryz.tyOK 0 Tryz.func24 (by kernel_rfl) (c := Tryz.f24.body.getD .skip) (by kernel_rfl) Tryz.ntmps24 (rs := Tryz.f24.results.toList) rfl (by simp) (fun G => ?_)
  repeat' first
    | refine CondP.yes (by decide) ?_ | refine CondP.no (by decide) ?_
    | refine J_seq ?_ | refine J_region Tryz.tyOK ?_ | refine J_block ?_ | refine J_cond ?_ | refine J_ret ?_ | refine J_skip ?_ | refine J_exit ?_ | refine J_scope ?_
    | refine CondP.yes (by omega) ?_ | refine CondP.no (by omega) ?_ | refine CondP.mk (fun h => ?_) (fun h => ?_) | refine EqP.mk rfl ?_ | refine NewP.mk (fun ad => ?_) | refine ArP.exact (by simp only [inR]; omega) ?_ | refine SideP.mk (by first | omega | (dsimp only; omega) | (simp; omega)) ?_
    | refine J_rounds 1 ?_ | refine JR_succ ?_ | (refine CallP.mk [] _ _ _ hm (List.Perm.refl _) (fun _ h => h) (fun v L' D' hp => ?_); obtain ⟨a', c', rfl, rfl, rfl⟩ := hp) | exact FinE.mk [] [] ⟨rfl, rfl, rfl⟩ (Ents.dropAll.trans (Ents.facts fun _ _ => trivial))
    | fail
  all_goals trace_state

end Go.Proofs
