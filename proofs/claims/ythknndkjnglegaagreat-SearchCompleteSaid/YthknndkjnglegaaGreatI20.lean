/- This text walks through the functions of the references of chapters 13, 29 and 31 that say what a user sees: Has, put, Groups, Levels, May, PolicyOf, View. -/
import Derived.Test.YthknndkjnglegaaGreatI17
import Derived.Test.YthknndkjnglegaaGreatI16
import Derived.Test.YthknndkjnglegaaGreatI19
import Derived.Test.YthknndkjnglegaaGreatI14
set_option linter.all false

namespace Go.X
open Go Go.Lib
theorem nodup_len {α : Type} [DecidableEq α] : ∀ {l S : List α}, l.Nodup → (∀ z ∈ l, z ∈ S) → l.length ≤ S.length
  | [], _, _, _ => Nat.zero_le _
  | x :: r, S, h, hs => by
    have h' := List.nodup_cons.1 h
    have hx := hs x (List.mem_cons_self ..)
    have := nodup_len (l := r) (S := S.erase x) h'.2 fun z hz => (List.mem_erase_of_ne (fun e => by subst e; exact h'.1 hz)).2 (hs z (List.mem_cons_of_mem _ hz))
    rw [List.length_erase_of_mem hx] at this
    have := List.length_pos_of_mem hx
    rw [List.length_cons]; omega
theorem strTo {m : Im} {a : Option Addr} {n c k : Nat} {l : List (List UInt8)} (h : SlF m 0 1 a n (sC l)) (hk : k ≤ n) : SlF m 0 1 (resl a 0 c 1) k (sC (l.take k)) := by
  have := slFact_pre (e := 0) (z := 1) (hi := k) c (show (slFact 0 1 a n (sC l)).p m from h) hk
  rw [sC_take] at this
  exact this
theorem strFrom {m : Im} {a : Option Addr} {n c k : Nat} {l : List (List UInt8)} (h : SlF m 0 1 a n (sC l)) (hl : l.length = n) (hk : k ≤ n) (hc : n ≤ c) : SlF m 0 1 (resl a k c 1) (n - k) (sC (l.drop k)) := by
  have := slFact_sub (e := 0) (z := 1) (lo := k) (hi := n) (show (slFact 0 1 a n (sC l)).p m from h) hk (Nat.le_refl _) hc
  rw [sC_take, List.take_of_length_le (by omega), sC_drop] at this
  exact this
/-- A list of strings that stays. -/
abbrev StrF (W : List (List UInt8)) : V → List Chunk → List Fact → Prop := fun v L D => ∃ a c, v = .c (.sl a W.length c) ∧ L = [] ∧ D = [slcFact 1 a W.length c (sC W)]
/-- Some truth value. -/
abbrev BoolP : V → List Chunk → List Fact → Prop := fun v L D => ∃ b, v = .c (.b b) ∧ L = [] ∧ D = []
/-- A scope, and its cells. -/
abbrev SCP := Int × Int × List UInt8
def scF (s : SCP) : List C := [.i .i64 s.1, .i .i64 s.2.1, .s s.2.2]
def scC (l : List SCP) : List C := l.flatMap scF
theorem sc_get {l : List SCP} {i : Nat} (h : i < l.length) : ((scC l).drop (i * 3 + 0)).take 3 = [.i .i64 l[i].1, .i .i64 l[i].2.1, .s l[i].2.2] := by
  rw [scC, flat_get (F := scF) (z := 3) (fun _ => rfl) h (by omega)]; rfl
theorem tit_get {sp : Int} {l : List Bs} {i : Nat} (h : i < l.length) : ((Go.Proofs.titlesC sp l).drop (i * 2 + 0)).take 2 = [.i .i64 sp, .s l[i]] := by
  unfold Go.Proofs.titlesC
  rw [flat_get (F := fun s => [C.i .i64 sp, .s s]) (z := 2) (fun _ => rfl) h (by omega)]; rfl
theorem rs_get {l : List Rul} {i : Nat} (h : i < l.length) : ((rsC l).drop (i * 6 + 0)).take 6 = [.b l[i].allow, .i .i64 l[i].right, .s l[i].group, .i .i64 l[i].kind, .i .i64 l[i].sp, .s l[i].nm] := by
  unfold rsC
  rw [flat_get (F := Rul.cells) (z := 6) (fun _ => rfl) h (by omega)]; rfl
theorem gs_get {l : List GrpM} {i : Nat} (h : i < l.length) : ((gsC l).drop (i * 2 + 0)).take 2 = l[i].cells := by
  unfold gsC
  rw [flat_get (F := GrpM.cells) (z := 2) (fun _ => rfl) h (by omega)]; rfl
theorem gs_name {l : List GrpM} {i : Nat} (h : i < l.length) : ((gsC l).drop (i * 2 + 0)).take 1 = [.s l[i].name] := by
  unfold gsC
  rw [flat_get (F := GrpM.cells) (z := 2) (fun _ => rfl) h (by omega)]; rfl
end Go.X
namespace Go.Proofs
open Go Go.X
set_option maxRecDepth 100000
set_option maxHeartbeats 4000000
theorem refAncestors0_ok (sp : Int) (s : List UInt8) (hs : s.length ≤ 1000000) : FnS Tryz.prog 118 [.agg [.i .i64 sp, .s s]] [] []
    (fun v L D => ∃ a c, v = .c (.sl a (ancT sp s).length c) ∧ L = [.row 50 2 a (ancT sp s).length c (titlesC sp (ancT sp s))] ∧ D = []) := by
  have hno : validT sp s = false → ancT sp s = [] := fun h => by simp [ancT, h]
  have hyes : validT sp s = true → ancT sp s = ancL s s.length := fun h => by simp [ancT, h]
  refine fn_of_J Tryz.tyOK 0 Tryz.func118 (by kernel_rfl) (c := Tryz.f118.body.getD .skip) (by kernel_rfl) Tryz.ntmps118 (rs := Tryz.f118.results.toList) rfl (by simp) (fun G => ?_)
  repeat' first | refine J_stop (c := .seq (.seq (.region 4 _ _) _) _) ?_ | refine J_seq ?_ | refine J_region Tryz.tyOK ?_ | refine J_block ?_ | refine J_cond ?_ | refine J_ret ?_ | refine J_skip ?_ | refine J_exit ?_ | refine J_scope ?_ | refine CondP.y ?_ | refine CondP.n ?_ | refine CondP.mk (fun h => ?_) (fun h => ?_) | refine EqP.mk rfl ?_ | refine NewP.mk (fun ad => ?_) | refine ArP.x ?_ | refine SideP.a ?_ | refine CallP.isB (refValid_ok sp s hs) (fun hv => ?_) (fun hv => ?_) | fail
  rotate_left
  · refine FinE.mk [.row 50 2 none 0 0 []] [] ⟨none, 0, ?_, ?_, rfl⟩ (Ents.dropAll.trans ((Ents.facts (D' := []) fun _ _ => trivial).trans Ents.nilRow))
    · rw [hno hv]; rfl
    · rw [hno hv]; rfl
  rw [hyes hv]
  refine ⟨?_⟩
  refine J_seq ?_
  repeat' first | refine J_seq ?_ | refine J_region Tryz.tyOK ?_ | refine J_block ?_ | refine J_cond ?_ | refine J_ret ?_ | refine J_skip ?_ | refine J_exit ?_ | refine J_scope ?_ | refine CondP.y ?_ | refine CondP.n ?_ | refine CondP.mk (fun h => ?_) (fun h => ?_) | refine EqP.mk rfl ?_ | refine NewP.mk (fun ad => ?_) | refine ArP.x ?_ | refine SideP.a ?_ | fail | fail
  refine J_loop (α := Nat × Option Addr × Nat) (fun x => [(4, .c (.i .i64 x.1)), (3, .c (.sl x.2.1 (ancL s x.1).length x.2.2)), (1, .c (.p 0 ad 0))])
    (fun x => [.row 50 2 x.2.1 (ancL s x.1).length x.2.2 (titlesC sp (ancL s x.1)), .box 0 ad 50 [.i .i64 sp, .s s]]) (fun _ => []) 1 (fun x => x.1 ≤ s.length) (fun x => s.length - x.1)
    (InFam.mk (0, none, 0) (by simp) SubE.a (Ents.nilRow.trans (Ents.facts (D' := []) fun _ _ => trivial))) (fun x hi => ?_)
  obtain ⟨i, a, c⟩ := x
  dsimp only at hi ⊢
  have hal := ancL_le s i
  by_cases hlt : i < s.length
  · have hst : ancL s (i + 1) = if ((s.getD i 0).toNat : Int) = 47 then ancL s i ++ [s.take i] else ancL s i := rfl
    repeat' first | refine J_seq ?_ | refine J_region Tryz.tyOK ?_ | refine J_block ?_ | refine J_cond ?_ | refine J_ret ?_ | refine J_skip ?_ | refine J_exit ?_ | refine J_scope ?_ | refine CondP.y ?_ | refine CondP.n ?_ | refine CondP.mk (fun h => ?_) (fun h => ?_) | refine EqP.mk rfl ?_ | refine NewP.mk (fun ad => ?_) | refine ArP.x ?_ | refine SideP.a ?_ | refine J_draw Tryz.tyOK (by kernel_rfl) [0, 1, 2, 3, 4, 5, 6, 7, 8, 9, 10] [8, 9] [.box 0 ad 50 [.i .i64 sp, .s s]] [] (by kernel_rfl) Ents.drop ?_ | refine EntP.mk Ents.drop ?_ | refine EntP.mk (Ents.drop.trans Ents.drop) ?_ | refine AppE.row [_] [_] (titlesC sp (ancL s i)) [.i .i64 sp, .s (s.take i)] 1 rfl (SrcE.sl 50 50 _ _ 1 1 _ rfl rfl (.inl ⟨1, List.Mem.head _⟩) rfl) (by dsimp only; omega) (fun a' c' => ?_) | refine Round.mk (i + 1, a', c') (by simp; omega) (by simp; omega) ?_ ?_ | refine Round.mk (i + 1, a, c) (by simp; omega) (by simp; omega) ?_ ?_ | fail
    all_goals
      first
        | (have e : ancL s (i + 1) = ancL s i ++ [s.take i] := by rw [hst, if_pos (by assumption)]
           dsimp only; rw [e])
        | (have e : ancL s (i + 1) = ancL s i := by rw [hst, if_neg (by assumption)]
           dsimp only; rw [e])
      first
        | exact Ents.refl _ _
        | refine Ents.drop.trans (Ents.of (by unfold titlesC; rw [List.length_append, List.flatMap_append]; rfl))
        | skip
      repeat' first | exact SubE.nil | refine SubE.cons rfl ?_ ?_ | exact VEq.refl _ | refine VEq.int (by omega) | refine VEq.sl rfl (by first | rfl | omega | (rw [List.length_append]; rfl) | (simp; omega)) rfl | fail
  · have hil : i = s.length := by omega
    subst hil
    repeat' first | refine J_seq ?_ | refine J_region Tryz.tyOK ?_ | refine J_block ?_ | refine J_cond ?_ | refine J_ret ?_ | refine J_skip ?_ | refine J_exit ?_ | refine J_scope ?_ | refine CondP.y ?_ | refine CondP.n ?_ | refine CondP.mk (fun h => ?_) (fun h => ?_) | refine EqP.mk rfl ?_ | refine NewP.mk (fun ad => ?_) | refine ArP.x ?_ | refine SideP.a ?_ | refine FinE.mk [.row 50 2 a (ancL s s.length).length c (titlesC sp (ancL s s.length))] [] ⟨a, c, rfl, rfl, rfl⟩ ((Ents.perm (List.perm_append_comm (l₁ := [_]) (l₂ := [_]))).trans Ents.drop) | fail
theorem has13_ok (e : Nat) (a : Option Addr) (c : Nat) (l : List (List UInt8)) (s : List UInt8) (hl : l.length ≤ 10000000) : FnS Tryz.prog 84 [.c (.sl a l.length c), .c (.s s)] [] [slFact e 1 a l.length (sC l)] BoolP := by
  have hrd : ∀ L, Reads L [slFact e 1 a l.length (sC l)] e 1 a l.length (sC l) := fun L => .inr fun m h => h.1
  refine fn_of_J Tryz.tyOK 0 Tryz.func84 (by kernel_rfl) (c := Tryz.f84.body.getD .skip) (by kernel_rfl) Tryz.ntmps84 (rs := Tryz.f84.results.toList) rfl (by simp) (fun G => ?_)
  repeat' first | refine J_seq ?_ | refine J_region Tryz.tyOK ?_ | refine J_block ?_ | refine J_cond ?_ | refine J_ret ?_ | refine J_skip ?_ | refine J_exit ?_ | refine J_scope ?_ | refine CondP.y ?_ | refine CondP.n ?_ | refine CondP.mk (fun h => ?_) (fun h => ?_) | refine EqP.mk rfl ?_ | refine NewP.mk (fun ad => ?_) | refine ArP.x ?_ | refine SideP.a ?_ | fail
  refine J_loop (α := Nat) (fun i => [(0, .c (.sl a l.length c)), (1, .c (.s s)), (5, .c (.i .i64 i))]) (fun _ => []) (fun _ => [slFact e 1 a l.length (sC l)]) 0
    (fun i => i ≤ l.length) (fun i => l.length - i) (InFam.mk 0 (Nat.zero_le _) SubE.a (Ents.refl _ _)) (fun i hi => ?_)
  by_cases hlt : i < l.length
  · have hg := s_get hlt
    generalize l[i] = x at *
    repeat' first | refine J_seq ?_ | refine J_region Tryz.tyOK ?_ | refine J_block ?_ | refine J_cond ?_ | refine J_ret ?_ | refine J_skip ?_ | refine J_exit ?_ | refine J_scope ?_ | refine CondP.y ?_ | refine CondP.n ?_ | refine CondP.mk (fun h => ?_) (fun h => ?_) | refine EqP.mk rfl ?_ | refine NewP.mk (fun ad => ?_) | refine ArP.x ?_ | refine SideP.a ?_ | fail | refine IdxE.mk e 1 _ (hrd _) (by omega) (by omega) ?_ | refine LoadE.mk e _ _ [.s x] (hrd _) (by omega) (by omega) (by first | omega | decide) (by exact hg) ?_ | refine Round.mk (i + 1) (by omega) (by omega) SubE.a Ents.a | refine FinE.mk [] [] ⟨_, rfl, rfl, rfl⟩ (Ents.dropAll.trans (Ents.facts fun _ _ => trivial)) | fail
  · repeat' first | refine J_seq ?_ | refine J_region Tryz.tyOK ?_ | refine J_block ?_ | refine J_cond ?_ | refine J_ret ?_ | refine J_skip ?_ | refine J_exit ?_ | refine J_scope ?_ | refine CondP.y ?_ | refine CondP.n ?_ | refine CondP.mk (fun h => ?_) (fun h => ?_) | refine EqP.mk rfl ?_ | refine NewP.mk (fun ad => ?_) | refine ArP.x ?_ | refine SideP.a ?_ | refine FinE.mk [] [] ⟨_, rfl, rfl, rfl⟩ (Ents.dropAll.trans (Ents.facts fun _ _ => trivial)) | fail
theorem put13_ok (a : Option Addr) (c : Nat) (l : List (List UInt8)) (s : List UInt8) (hl : l.length ≤ 10000000) : FnS Tryz.prog 80 [.c (.sl a l.length c), .c (.s s)] [] [slcFact 1 a l.length c (sC l)] (StrF (addG Lib.compareBytes l s)) := by
  have hrd : ∀ L, Reads L [slcFact 1 a l.length c (sC l)] 0 1 a l.length (sC l) := fun L => .inr fun m h => h.1.2
  generalize hW : addG Lib.compareBytes l s = W
  refine fn_of_J Tryz.tyOK 0 Tryz.func80 (by kernel_rfl) (c := Tryz.f80.body.getD .skip) (by kernel_rfl) Tryz.ntmps80 (rs := Tryz.f80.results.toList) rfl (by simp) (fun G => ?_)
  refine J_know (fun m h => h.1.1) (fun hnc => ?_)
  repeat' first | refine J_seq ?_ | refine J_region Tryz.tyOK ?_ | refine J_block ?_ | refine J_cond ?_ | refine J_ret ?_ | refine J_skip ?_ | refine J_exit ?_ | refine J_scope ?_ | refine CondP.y ?_ | refine CondP.n ?_ | refine CondP.mk (fun h => ?_) (fun h => ?_) | refine EqP.mk rfl ?_ | refine NewP.mk (fun ad => ?_) | refine ArP.x ?_ | refine SideP.a ?_ | fail
  refine J_loop (α := Nat) (fun i => [(0, .c (.sl a l.length c)), (1, .c (.s s)), (5, .c (.i .i64 i))]) (fun _ => []) (fun _ => [slcFact 1 a l.length c (sC l)]) 0
    (fun i => i ≤ l.length ∧ W = l.take i ++ addG Lib.compareBytes (l.drop i) s) (fun i => l.length - i) (InFam.mk 0 ⟨Nat.zero_le _, by rw [← hW]; rfl⟩ SubE.a (Ents.refl _ _)) (fun i hx => ?_)
  obtain ⟨hi, he⟩ := hx
  have h6l : W = l.take i ++ s :: l.drop i → W.length = i + 1 + (l.length - i) := fun h => by rw [h]; simp; omega
  have h6c : W = l.take i ++ s :: l.drop i → sC W = sC (l.take i) ++ [.s s] ++ sC (l.drop i) := fun h => by rw [h]; simp [sC]
  by_cases hlt : i < l.length
  · have hg := s_get hlt
    have hat := addG_at (cf := Lib.compareBytes) (r := s) hlt
    have ht := List.take_succ_eq_append_getElem hlt
    have hfull : l.take i ++ l.drop i = l := List.take_append_drop i l
    generalize l[i] = x at *
    have hbl := less_cmp x s
    have hbr := cmpB_range x s
    have hstep : Op.bytesLess x s = true → W = l.take (i + 1) ++ addG Lib.compareBytes (l.drop (i + 1)) s := fun h => by rw [he, hat, if_pos (by have := hbl.1 h; omega), ht, List.append_assoc]; rfl
    have hsame : ¬ Op.bytesLess x s = true → x = s → W = l := fun h1 h2 => by rw [he, hat, if_neg (fun e => h1 (hbl.2 (by omega))), if_pos h2, hfull]
    have hnew : ¬ Op.bytesLess x s = true → ¬ x = s → W = l.take i ++ s :: l.drop i := fun h1 h2 => by rw [he, hat, if_neg (fun e => h1 (hbl.2 (by omega))), if_neg h2]
    clear hat ht hfull he hW hbl hbr
    repeat' first | refine J_seq ?_ | refine J_region Tryz.tyOK ?_ | refine J_block ?_ | refine J_cond ?_ | refine J_ret ?_ | refine J_skip ?_ | refine J_exit ?_ | refine J_scope ?_ | refine CondP.y ?_ | refine CondP.n ?_ | refine CondP.mk (fun h => ?_) (fun h => ?_) | refine EqP.mk rfl ?_ | refine NewP.mk (fun ad => ?_) | refine ArP.x ?_ | refine SideP.a ?_ | refine J_drawT (id := 6) Tryz.tyOK (by kernel_rfl) [0, 0, 3, 7, 0, 16, 63, 0, 0, 384, 1023, 2047] [0, 1, 2, 4, 7, 8, 9] 3 [5, 6, 10, 11] 5 [3, 6, 10, 11] [3, 5, 6, 10] [] 12 false (by kernel_rfl) ?_ | refine TwoP.mk ?_ ?_ | refine EntP.mk Ents.a ?_ | refine IdxE.mk 0 1 _ (hrd _) (by omega) (by omega) ?_ | refine LoadE.mk 0 _ _ [.s x] (hrd _) (by omega) (by omega) (by first | omega | decide) (by exact hg) ?_ | refine Round.mk (i + 1) (by omega) ⟨by omega, hstep (by assumption)⟩ SubE.a (Ents.refl _ _) | refine AppE.nil (sC (l.take i)) i rfl rfl rfl (SrcE.sl 0 9 _ _ _ _ _ rfl rfl (.inr fun m h => strTo h.1.2 hi) (by rw [sC_len, List.length_take, Nat.min_eq_left hi]; rfl)) (by dsimp only; omega) (fun a' c' => ?_) | refine AppE.row [_] _ (sC (l.take i)) [.s s] 1 rfl (SrcE.sl 9 9 _ _ 1 1 _ rfl rfl (.inl ⟨1, List.Mem.head _⟩) rfl) (by dsimp only; omega) (fun a' c' => ?_) | refine AppE.row [] _ (sC (l.take i)) [.s s] 1 rfl (SrcE.sl 9 9 _ _ 1 1 _ rfl rfl (.inl ⟨1, List.Mem.tail _ (List.Mem.head _)⟩) rfl) (by dsimp only; omega) (fun a' c' => ?_) | refine AppE.row [_] _ (sC (l.take i) ++ [.s s]) (sC (l.drop i)) (l.length - i) rfl (SrcE.sl 0 9 _ _ _ _ _ rfl rfl (.inr fun m h => strFrom h.1.2 rfl hi hnc) (by rw [sC_len, List.length_drop]; rfl)) (by dsimp only; omega) (fun a' c' => ?_) | refine AppE.row [] _ (sC (l.take i) ++ [.s s]) (sC (l.drop i)) (l.length - i) rfl (SrcE.sl 0 9 _ _ _ _ _ rfl rfl (.inr fun m h => strFrom h.1.2 rfl hi hnc) (by rw [sC_len, List.length_drop]; rfl)) (by dsimp only; omega) (fun a' c' => ?_) | refine FinE.mk [] [_] ⟨a, c, by rw [hsame (by assumption) (by assumption)], rfl, by rw [hsame (by assumption) (by assumption)]⟩ (Ents.dropAll.trans (Ents.facts fun _ h => h)) | refine FinE.mk [] [slcFact 1 a' (i + 1 + (l.length - i)) c' (sC (l.take i) ++ [.s s] ++ sC (l.drop i))] ⟨a', c', by rw [h6l (hnew (by assumption) (by assumption))], rfl, by rw [h6l (hnew (by assumption) (by assumption)), h6c (hnew (by assumption) (by assumption))]⟩ (Ents.drop.trans (Ents.toFactC.trans (Ents.dropAll.trans (Ents.facts fun _ h => ⟨h.1, trivial⟩)))) | refine FinE.mk [] [slcFact 1 a' (i + 1 + (l.length - i)) c' (sC (l.take i) ++ [.s s] ++ sC (l.drop i))] ⟨a', c', by rw [h6l (hnew (by assumption) (by assumption))], rfl, by rw [h6l (hnew (by assumption) (by assumption)), h6c (hnew (by assumption) (by assumption))]⟩ (Ents.toFactC.trans (Ents.dropAll.trans (Ents.facts fun _ h => ⟨h.1, trivial⟩))) | fail
  · have hil : i = l.length := by omega
    have hdn : l.drop i = [] := List.drop_eq_nil_of_le (by omega)
    have hnew : W = l.take i ++ s :: l.drop i := by rw [he, hdn]; rfl
    repeat' first | refine J_seq ?_ | refine J_region Tryz.tyOK ?_ | refine J_block ?_ | refine J_cond ?_ | refine J_ret ?_ | refine J_skip ?_ | refine J_exit ?_ | refine J_scope ?_ | refine CondP.y ?_ | refine CondP.n ?_ | refine CondP.mk (fun h => ?_) (fun h => ?_) | refine EqP.mk rfl ?_ | refine NewP.mk (fun ad => ?_) | refine ArP.x ?_ | refine SideP.a ?_ | refine J_drawT (id := 6) Tryz.tyOK (by kernel_rfl) [0, 0, 3, 7, 0, 16, 63, 0, 0, 384, 1023, 2047] [0, 1, 2, 4, 7, 8, 9] 3 [5, 6, 10, 11] 5 [3, 6, 10, 11] [3, 5, 6, 10] [] 12 false (by kernel_rfl) ?_ | refine TwoP.mk ?_ ?_ | refine EntP.mk Ents.a ?_ | refine AppE.nil (sC (l.take i)) i rfl rfl rfl (SrcE.sl 0 9 _ _ _ _ _ rfl rfl (.inr fun m h => strTo h.1.2 hi) (by rw [sC_len, List.length_take, Nat.min_eq_left hi]; rfl)) (by dsimp only; omega) (fun a' c' => ?_) | refine AppE.row [_] _ (sC (l.take i)) [.s s] 1 rfl (SrcE.sl 9 9 _ _ 1 1 _ rfl rfl (.inl ⟨1, List.Mem.head _⟩) rfl) (by dsimp only; omega) (fun a' c' => ?_) | refine AppE.row [] _ (sC (l.take i)) [.s s] 1 rfl (SrcE.sl 9 9 _ _ 1 1 _ rfl rfl (.inl ⟨1, List.Mem.tail _ (List.Mem.head _)⟩) rfl) (by dsimp only; omega) (fun a' c' => ?_) | refine AppE.row [_] _ (sC (l.take i) ++ [.s s]) (sC (l.drop i)) (l.length - i) rfl (SrcE.sl 0 9 _ _ _ _ _ rfl rfl (.inr fun m h => strFrom h.1.2 rfl hi hnc) (by rw [sC_len, List.length_drop]; rfl)) (by dsimp only; omega) (fun a' c' => ?_) | refine AppE.row [] _ (sC (l.take i) ++ [.s s]) (sC (l.drop i)) (l.length - i) rfl (SrcE.sl 0 9 _ _ _ _ _ rfl rfl (.inr fun m h => strFrom h.1.2 rfl hi hnc) (by rw [sC_len, List.length_drop]; rfl)) (by dsimp only; omega) (fun a' c' => ?_) | refine FinE.mk [] [slcFact 1 a' (i + 1 + (l.length - i)) c' (sC (l.take i) ++ [.s s] ++ sC (l.drop i))] ⟨a', c', by rw [h6l hnew], rfl, by rw [h6l hnew, h6c hnew]⟩ (Ents.drop.trans (Ents.toFactC.trans (Ents.dropAll.trans (Ents.facts fun _ h => ⟨h.1, trivial⟩)))) | refine FinE.mk [] [slcFact 1 a' (i + 1 + (l.length - i)) c' (sC (l.take i) ++ [.s s] ++ sC (l.drop i))] ⟨a', c', by rw [h6l hnew], rfl, by rw [h6l hnew, h6c hnew]⟩ (Ents.toFactC.trans (Ents.dropAll.trans (Ents.facts fun _ h => ⟨h.1, trivial⟩))) | fail
end Go.Proofs

/- This text walks through the functions of the references of chapters 13, 29 and 31 that say what a user sees: Groups, Levels, May, PolicyOf, View. -/
namespace Go.X
open Go Go.Lib
def textV : Option PGM → V
  | none => .t2 (.c (.s [])) ff
  | some p => .t2 (.c (.s (curM p.hist).text)) tt
def allB : List UInt8 := [97, 108, 108]
def usersB : List UInt8 := [117, 115, 101, 114, 115]
theorem groups_step {gs : List GrpM} {l : List (List UInt8)} {s : List UInt8} (h : StrL Lib.compareBytes l) (hs : ∀ z ∈ l, z ∈ allB :: usersB :: gs.map GrpM.name) (hn : s ∈ allB :: usersB :: gs.map GrpM.name) :
    StrL Lib.compareBytes (addG Lib.compareBytes l s) ∧ ∀ z ∈ addG Lib.compareBytes l s, z ∈ allB :: usersB :: gs.map GrpM.name :=
  ⟨addG_str cmp_bytes (fun x y e => (cmpB_eq x y).1 e) l s h, fun z hz => by
    rcases (addG_mem l s z).1 hz with hz | hz
    · exact hs z hz
    · subst hz; exact hn⟩
theorem groups_len {gs : List GrpM} {l : List (List UInt8)} (h : StrL Lib.compareBytes l) (hs : ∀ z ∈ l, z ∈ allB :: usersB :: gs.map GrpM.name) : l.length ≤ gs.length + 2 := by
  have := nodup_len (StrL.nodup cmp_bytes h) hs
  simpa using this
end Go.X
namespace Go.Proofs
open Go Go.X
set_option maxRecDepth 100000
set_option maxHeartbeats 4000000
theorem belongs13_ok (g : GrpM) (user : Bs) (a : Option Addr) (c : Nat) (l : List (List UInt8)) (hm : g.mem.length ≤ 10000000) (hl : l.length ≤ 10000000) : FnS Tryz.prog 81 [.agg g.cells, .c (.s user), .c (.sl a l.length c)] [] [slFact 0 1 g.a g.mem.length (sC g.mem), slcFact 1 a l.length c (sC l)] BoolP := by
  have hrd : ∀ L, Reads L [slFact 0 1 g.a g.mem.length (sC g.mem), slcFact 1 a l.length c (sC l)] 0 1 g.a g.mem.length (sC g.mem) := fun L => .inr fun m h => h.1
  have cu := isNameA_ok user
  refine fn_of_J Tryz.tyOK 0 Tryz.func81 (by kernel_rfl) (c := Tryz.f81.body.getD .skip) (by kernel_rfl) Tryz.ntmps81 (rs := Tryz.f81.results.toList) rfl (by simp) (fun G => ?_)
  repeat' first | refine J_seq ?_ | refine J_region Tryz.tyOK ?_ | refine J_block ?_ | refine J_cond ?_ | refine J_ret ?_ | refine J_skip ?_ | refine J_exit ?_ | refine J_scope ?_ | refine CondP.y ?_ | refine CondP.n ?_ | refine CondP.mk (fun h => ?_) (fun h => ?_) | refine EqP.mk rfl ?_ | refine NewP.mk (fun ad => ?_) | refine ArP.x ?_ | refine SideP.a ?_ | fail
  refine J_loop (α := Nat) (fun i => [(1, .c (.s user)), (2, .c (.sl a l.length c)), (3, .c (.p 0 ad 0)), (7, .c (.i .i64 i))]) (fun _ => [.box 0 ad 145 g.cells]) (fun _ => [slFact 0 1 g.a g.mem.length (sC g.mem), slcFact 1 a l.length c (sC l)]) 1
    (fun i => i ≤ g.mem.length) (fun i => g.mem.length - i) (InFam.mk 0 (Nat.zero_le _) SubE.a (Ents.refl _ _)) (fun i hi => ?_)
  by_cases hlt : i < g.mem.length
  · have hg := s_get hlt
    generalize g.mem[i] = x at *
    repeat' first | refine J_seq ?_ | refine J_region Tryz.tyOK ?_ | refine J_block ?_ | refine J_cond ?_ | refine J_ret ?_ | refine J_skip ?_ | refine J_exit ?_ | refine J_scope ?_ | refine CondP.y ?_ | refine CondP.n ?_ | refine CondP.mk (fun h => ?_) (fun h => ?_) | refine EqP.mk rfl ?_ | refine NewP.mk (fun ad => ?_) | refine ArP.x ?_ | refine SideP.a ?_ | fail | refine CallP.isB cu (fun _ => ?_) (fun _ => ?_) | (refine CallP.mk [] _ [_] _ (has13_ok 0 a c l _ hl) (List.Perm.refl _) (fun _ h => ⟨h.2.1.2, trivial⟩) (fun v L' D' hp => ?_); obtain ⟨b, rfl, rfl, rfl⟩ := hp; cases b) | refine IdxE.mk 0 1 _ (hrd _) (by omega) (by omega) ?_ | refine LoadE.mk 0 _ _ [.s x] (hrd _) (by omega) (by omega) (by first | omega | decide) (by exact hg) ?_ | refine Round.mk (i + 1) (by omega) (by omega) SubE.a Ents.a | refine FinE.mk [] [] ⟨_, rfl, rfl, rfl⟩ (Ents.dropAll.trans (Ents.facts fun _ _ => trivial)) | fail
  · repeat' first | refine J_seq ?_ | refine J_region Tryz.tyOK ?_ | refine J_block ?_ | refine J_cond ?_ | refine J_ret ?_ | refine J_skip ?_ | refine J_exit ?_ | refine J_scope ?_ | refine CondP.y ?_ | refine CondP.n ?_ | refine CondP.mk (fun h => ?_) (fun h => ?_) | refine EqP.mk rfl ?_ | refine NewP.mk (fun ad => ?_) | refine ArP.x ?_ | refine SideP.a ?_ | refine FinE.mk [] [] ⟨_, rfl, rfl, rfl⟩ (Ents.dropAll.trans (Ents.facts fun _ _ => trivial)) | fail
theorem groups13_ok (p : PolM) (user : Bs) (hg : p.gs.length ≤ 1000000) (hm : ∀ g ∈ p.gs, g.mem.length ≤ 10000000) : FnS Tryz.prog 43 [.agg p.cells, .c (.s user)] [] [slFact 0 2 p.ga p.gs.length (gsC p.gs), memsF p.gs]
    (fun v L D => ∃ W : List (List UInt8), W.length ≤ 1000002 ∧ StrF W v L D) := by
  have cu := isNameA_ok user
  have cp := fun a c l s h => put13_ok a c l s h
  have hrd : ∀ F L, Reads L [F, slFact 0 2 p.ga p.gs.length (gsC p.gs), memsF p.gs] 0 2 p.ga p.gs.length (gsC p.gs) := fun F L => .inr fun m h => h.2.1
  have hS0 : StrL Lib.compareBytes [allB] ∧ ∀ z ∈ [allB], z ∈ allB :: usersB :: p.gs.map GrpM.name := ⟨List.pairwise_singleton _ _, fun z hz => by rw [List.mem_singleton.1 hz]; exact List.mem_cons_self ..⟩
  have hS1 := groups_step hS0.1 hS0.2 (s := usersB) (by simp)
  generalize hu : addG Lib.compareBytes [allB] usersB = U at *
  refine fn_of_J Tryz.tyOK 0 Tryz.func43 (by kernel_rfl) (c := Tryz.f43.body.getD .skip) (by kernel_rfl) Tryz.ntmps43 (rs := Tryz.f43.results.toList) rfl (by simp) (fun G => ?_)
  repeat' first | refine J_seq ?_ | refine J_region Tryz.tyOK ?_ | refine J_block ?_ | refine J_cond ?_ | refine J_ret ?_ | refine J_skip ?_ | refine J_exit ?_ | refine J_scope ?_ | refine CondP.y ?_ | refine CondP.n ?_ | refine CondP.mk (fun h => ?_) (fun h => ?_) | refine EqP.mk rfl ?_ | refine NewP.mk (fun ad => ?_) | refine ArP.x ?_ | refine SideP.a ?_ | refine CallP.isB cu (fun _ => ?_) (fun _ => ?_) | (refine CallP.mkE [] _ [_] _ _ (cp _ _ [allB] usersB (by decide)) Ents.toFactC (fun _ h => ⟨h.1, trivial⟩) (fun v L' D' hq => ?_); rw [hu] at hq; obtain ⟨a1, c1, rfl, rfl, rfl⟩ := hq) | fail
  · rename_i ad0 _hx
    refine J_loop (α := Nat × List (List UInt8) × Option Addr × Nat) (fun x => [(1, .c (.s user)), (2, .c (.p 0 ad0 0)), (5, .c (.sl x.2.2.1 x.2.1.length x.2.2.2)), (6, .c (.i .i64 ((x.1 : Int) - 1)))]) (fun _ => [.box 0 ad0 28 p.cells]) (fun x => [slcFact 1 x.2.2.1 x.2.1.length x.2.2.2 (sC x.2.1), slFact 0 2 p.ga p.gs.length (gsC p.gs), memsF p.gs]) 1
      (fun x => StrL Lib.compareBytes x.2.1 ∧ (∀ z ∈ x.2.1, z ∈ allB :: usersB :: p.gs.map GrpM.name) ∧ x.1 ≤ p.gs.length + 3) (fun x => p.gs.length + 4 - x.1) (InFam.mk (0, U, a1, c1) ⟨hS1.1, hS1.2, Nat.zero_le _⟩ SubE.a (Ents.facts fun _ h => ⟨h.1, h.2.2.1, h.2.2.2.1, trivial⟩)) (fun x hx => ?_)
    obtain ⟨n, l, a2, c2⟩ := x
    dsimp only at hx ⊢
    obtain ⟨h1, h2, h3⟩ := hx
    have hll := groups_len h1 h2
    by_cases hnl : (n : Int) - 1 < l.length
    · repeat' first | refine J_seq ?_ | refine J_region Tryz.tyOK ?_ | refine J_block ?_ | refine J_cond ?_ | refine J_ret ?_ | refine J_skip ?_ | refine J_exit ?_ | refine J_scope ?_ | refine CondP.y ?_ | refine CondP.n ?_ | refine CondP.mk (fun h => ?_) (fun h => ?_) | refine EqP.mk rfl ?_ | refine NewP.mk (fun ad => ?_) | refine ArP.x ?_ | refine SideP.a ?_ | fail
      refine J_loop (α := Nat × List (List UInt8) × Option Addr × Nat) (fun x => [(1, .c (.s user)), (2, .c (.p 0 ad0 0)), (5, .c (.sl x.2.2.1 x.2.1.length x.2.2.2)), (6, .c (.i .i64 l.length)), (7, .c (.i .i64 x.1))]) (fun _ => [.box 0 ad0 28 p.cells]) (fun x => [slcFact 1 x.2.2.1 x.2.1.length x.2.2.2 (sC x.2.1), slFact 0 2 p.ga p.gs.length (gsC p.gs), memsF p.gs]) 1
        (fun x => StrL Lib.compareBytes x.2.1 ∧ (∀ z ∈ x.2.1, z ∈ allB :: usersB :: p.gs.map GrpM.name) ∧ x.1 ≤ p.gs.length) (fun x => p.gs.length - x.1) (InFam.mk (0, l, a2, c2) ⟨h1, h2, Nat.zero_le _⟩ SubE.a (Ents.refl _ _)) (fun x hx => ?_)
      obtain ⟨i, l', a3, c3⟩ := x
      dsimp only at hx ⊢
      obtain ⟨h4, h5, h6⟩ := hx
      have hll' := groups_len h4 h5
      by_cases hlt : i < p.gs.length
      · have hgc := gs_get hlt
        have hgn := gs_name hlt
        have hmem : p.gs[i] ∈ p.gs := List.getElem_mem hlt
        have hst := groups_step h4 h5 (s := p.gs[i].name) (by simp only [List.mem_cons, List.mem_map]; exact .inr (.inr ⟨_, hmem, rfl⟩))
        generalize p.gs[i] = g at *
        have cb := belongs13_ok g user a3 c3 l' (hm g hmem) (by omega)
        have cq := cp a3 c3 l' g.name (by omega)
        generalize addG Lib.compareBytes l' g.name = W at *
        repeat' first | refine J_seq ?_ | refine J_region Tryz.tyOK ?_ | refine J_block ?_ | refine J_cond ?_ | refine J_ret ?_ | refine J_skip ?_ | refine J_exit ?_ | refine J_scope ?_ | refine CondP.y ?_ | refine CondP.n ?_ | refine CondP.mk (fun h => ?_) (fun h => ?_) | refine EqP.mk rfl ?_ | refine NewP.mk (fun ad => ?_) | refine ArP.x ?_ | refine SideP.a ?_ | fail | (refine CallP.mk [] _ [_, _] _ cb (List.Perm.refl _) (fun _ h => ⟨h.2.2.1 g hmem, h.1, trivial⟩) (fun v L' D' hq => ?_); obtain ⟨b, rfl, rfl, rfl⟩ := hq; cases b) | (refine CallP.mk [] _ [_] _ cq (List.Perm.refl _) (fun _ h => ⟨h.1, trivial⟩) (fun v L' D' hq => ?_); obtain ⟨a4, c4, rfl, rfl, rfl⟩ := hq) | refine IdxE.mk 0 2 _ (hrd _ _) (by omega) (by omega) ?_ | refine FldE.mk 0 2 _ _ (hrd _ _) (by omega) ?_ | refine LoadE.mk 0 _ _ g.cells (hrd _ _) (by omega) (by omega) (by first | omega | decide) (by exact hgc) ?_ | refine LoadE.mk 0 _ _ [.s g.name] (hrd _ _) (by omega) (by omega) (by first | omega | decide) (by exact hgn) ?_ | refine Round.mk (i + 1, l', a3, c3) (by dsimp only; omega) ⟨h4, h5, by dsimp only; omega⟩ SubE.a (Ents.ofSub (by simp) (fun _ h => h)) | refine Round.mk (i + 1, W, a4, c4) (by dsimp only; omega) ⟨hst.1, hst.2, by dsimp only; omega⟩ SubE.a (Ents.facts fun _ h => ⟨h.1, h.2.2.1, h.2.2.2.1, trivial⟩) | fail
      · repeat' first | refine J_seq ?_ | refine J_region Tryz.tyOK ?_ | refine J_block ?_ | refine J_cond ?_ | refine J_ret ?_ | refine J_skip ?_ | refine J_exit ?_ | refine J_scope ?_ | refine CondP.y ?_ | refine CondP.n ?_ | refine CondP.mk (fun h => ?_) (fun h => ?_) | refine EqP.mk rfl ?_ | refine NewP.mk (fun ad => ?_) | refine ArP.x ?_ | refine SideP.a ?_ | refine Round.mk (l.length + 1, l', a3, c3) (by dsimp only; omega) ⟨h4, h5, by dsimp only; omega⟩ SubE.a (Ents.refl _ _) | fail
    · repeat' first | refine J_seq ?_ | refine J_region Tryz.tyOK ?_ | refine J_block ?_ | refine J_cond ?_ | refine J_ret ?_ | refine J_skip ?_ | refine J_exit ?_ | refine J_scope ?_ | refine CondP.y ?_ | refine CondP.n ?_ | refine CondP.mk (fun h => ?_) (fun h => ?_) | refine EqP.mk rfl ?_ | refine NewP.mk (fun ad => ?_) | refine ArP.x ?_ | refine SideP.a ?_ | refine FinE.mk [] [_] ⟨l, by omega, a2, c2, rfl, rfl, rfl⟩ (Ents.dropAll.trans (Ents.facts fun _ h => ⟨h.1, trivial⟩)) | fail
  · rename_i ad0 _hx
    refine J_loop (α := Nat × List (List UInt8) × Option Addr × Nat) (fun x => [(1, .c (.s user)), (2, .c (.p 0 ad0 0)), (5, .c (.sl x.2.2.1 x.2.1.length x.2.2.2)), (6, .c (.i .i64 ((x.1 : Int) - 1)))]) (fun _ => [.box 0 ad0 28 p.cells]) (fun x => [slcFact 1 x.2.2.1 x.2.1.length x.2.2.2 (sC x.2.1), slFact 0 2 p.ga p.gs.length (gsC p.gs), memsF p.gs]) 1
      (fun x => StrL Lib.compareBytes x.2.1 ∧ (∀ z ∈ x.2.1, z ∈ allB :: usersB :: p.gs.map GrpM.name) ∧ x.1 ≤ p.gs.length + 3) (fun x => p.gs.length + 4 - x.1) (InFam.mk (0, [allB], _, 1) ⟨hS0.1, hS0.2, Nat.zero_le _⟩ SubE.a Ents.toFactC) (fun x hx => ?_)
    obtain ⟨n, l, a2, c2⟩ := x
    dsimp only at hx ⊢
    obtain ⟨h1, h2, h3⟩ := hx
    have hll := groups_len h1 h2
    by_cases hnl : (n : Int) - 1 < l.length
    · repeat' first | refine J_seq ?_ | refine J_region Tryz.tyOK ?_ | refine J_block ?_ | refine J_cond ?_ | refine J_ret ?_ | refine J_skip ?_ | refine J_exit ?_ | refine J_scope ?_ | refine CondP.y ?_ | refine CondP.n ?_ | refine CondP.mk (fun h => ?_) (fun h => ?_) | refine EqP.mk rfl ?_ | refine NewP.mk (fun ad => ?_) | refine ArP.x ?_ | refine SideP.a ?_ | fail
      refine J_loop (α := Nat × List (List UInt8) × Option Addr × Nat) (fun x => [(1, .c (.s user)), (2, .c (.p 0 ad0 0)), (5, .c (.sl x.2.2.1 x.2.1.length x.2.2.2)), (6, .c (.i .i64 l.length)), (7, .c (.i .i64 x.1))]) (fun _ => [.box 0 ad0 28 p.cells]) (fun x => [slcFact 1 x.2.2.1 x.2.1.length x.2.2.2 (sC x.2.1), slFact 0 2 p.ga p.gs.length (gsC p.gs), memsF p.gs]) 1
        (fun x => StrL Lib.compareBytes x.2.1 ∧ (∀ z ∈ x.2.1, z ∈ allB :: usersB :: p.gs.map GrpM.name) ∧ x.1 ≤ p.gs.length) (fun x => p.gs.length - x.1) (InFam.mk (0, l, a2, c2) ⟨h1, h2, Nat.zero_le _⟩ SubE.a (Ents.refl _ _)) (fun x hx => ?_)
      obtain ⟨i, l', a3, c3⟩ := x
      dsimp only at hx ⊢
      obtain ⟨h4, h5, h6⟩ := hx
      have hll' := groups_len h4 h5
      by_cases hlt : i < p.gs.length
      · have hgc := gs_get hlt
        have hgn := gs_name hlt
        have hmem : p.gs[i] ∈ p.gs := List.getElem_mem hlt
        have hst := groups_step h4 h5 (s := p.gs[i].name) (by simp only [List.mem_cons, List.mem_map]; exact .inr (.inr ⟨_, hmem, rfl⟩))
        generalize p.gs[i] = g at *
        have cb := belongs13_ok g user a3 c3 l' (hm g hmem) (by omega)
        have cq := cp a3 c3 l' g.name (by omega)
        generalize addG Lib.compareBytes l' g.name = W at *
        repeat' first | refine J_seq ?_ | refine J_region Tryz.tyOK ?_ | refine J_block ?_ | refine J_cond ?_ | refine J_ret ?_ | refine J_skip ?_ | refine J_exit ?_ | refine J_scope ?_ | refine CondP.y ?_ | refine CondP.n ?_ | refine CondP.mk (fun h => ?_) (fun h => ?_) | refine EqP.mk rfl ?_ | refine NewP.mk (fun ad => ?_) | refine ArP.x ?_ | refine SideP.a ?_ | fail | (refine CallP.mk [] _ [_, _] _ cb (List.Perm.refl _) (fun _ h => ⟨h.2.2.1 g hmem, h.1, trivial⟩) (fun v L' D' hq => ?_); obtain ⟨b, rfl, rfl, rfl⟩ := hq; cases b) | (refine CallP.mk [] _ [_] _ cq (List.Perm.refl _) (fun _ h => ⟨h.1, trivial⟩) (fun v L' D' hq => ?_); obtain ⟨a4, c4, rfl, rfl, rfl⟩ := hq) | refine IdxE.mk 0 2 _ (hrd _ _) (by omega) (by omega) ?_ | refine FldE.mk 0 2 _ _ (hrd _ _) (by omega) ?_ | refine LoadE.mk 0 _ _ g.cells (hrd _ _) (by omega) (by omega) (by first | omega | decide) (by exact hgc) ?_ | refine LoadE.mk 0 _ _ [.s g.name] (hrd _ _) (by omega) (by omega) (by first | omega | decide) (by exact hgn) ?_ | refine Round.mk (i + 1, l', a3, c3) (by dsimp only; omega) ⟨h4, h5, by dsimp only; omega⟩ SubE.a (Ents.ofSub (by simp) (fun _ h => h)) | refine Round.mk (i + 1, W, a4, c4) (by dsimp only; omega) ⟨hst.1, hst.2, by dsimp only; omega⟩ SubE.a (Ents.facts fun _ h => ⟨h.1, h.2.2.1, h.2.2.2.1, trivial⟩) | fail
      · repeat' first | refine J_seq ?_ | refine J_region Tryz.tyOK ?_ | refine J_block ?_ | refine J_cond ?_ | refine J_ret ?_ | refine J_skip ?_ | refine J_exit ?_ | refine J_scope ?_ | refine CondP.y ?_ | refine CondP.n ?_ | refine CondP.mk (fun h => ?_) (fun h => ?_) | refine EqP.mk rfl ?_ | refine NewP.mk (fun ad => ?_) | refine ArP.x ?_ | refine SideP.a ?_ | refine Round.mk (l.length + 1, l', a3, c3) (by dsimp only; omega) ⟨h4, h5, by dsimp only; omega⟩ SubE.a (Ents.refl _ _) | fail
    · repeat' first | refine J_seq ?_ | refine J_region Tryz.tyOK ?_ | refine J_block ?_ | refine J_cond ?_ | refine J_ret ?_ | refine J_skip ?_ | refine J_exit ?_ | refine J_scope ?_ | refine CondP.y ?_ | refine CondP.n ?_ | refine CondP.mk (fun h => ?_) (fun h => ?_) | refine EqP.mk rfl ?_ | refine NewP.mk (fun ad => ?_) | refine ArP.x ?_ | refine SideP.a ?_ | refine FinE.mk [] [_] ⟨l, by omega, a2, c2, rfl, rfl, rfl⟩ (Ents.dropAll.trans (Ents.facts fun _ h => ⟨h.1, trivial⟩)) | fail
theorem levels13_ok (sp : Int) (s : List UInt8) (hs : s.length ≤ 1000000) : FnS Tryz.prog 83 [.agg [.i .i64 sp, .s s]] [] []
    (fun v L D => ∃ (W : List SCP) (a : Option Addr) (c : Nat), W.length ≤ 1000100 ∧ v = .c (.sl a W.length c) ∧ L = [] ∧ D = [slFact 0 3 a W.length (scC W)]) := by
  have ca := refAncestors0_ok sp s hs
  have hal : (ancT sp s).length ≤ s.length := by
    unfold ancT
    split
    · exact ancL_le _ _
    · exact Nat.zero_le _
  generalize ancT sp s = A at *
  refine fn_of_J Tryz.tyOK 0 Tryz.func83 (by kernel_rfl) (c := Tryz.f83.body.getD .skip) (by kernel_rfl) Tryz.ntmps83 (rs := Tryz.f83.results.toList) rfl (by simp) (fun G => ?_)
  repeat' first | refine J_seq ?_ | refine J_region Tryz.tyOK ?_ | refine J_block ?_ | refine J_cond ?_ | refine J_ret ?_ | refine J_skip ?_ | refine J_exit ?_ | refine J_scope ?_ | refine CondP.y ?_ | refine CondP.n ?_ | refine CondP.mk (fun h => ?_) (fun h => ?_) | refine EqP.mk rfl ?_ | refine NewP.mk (fun ad => ?_) | refine ArP.x ?_ | refine SideP.a ?_ | (refine CallP.mk [] [_, _] [] _ ca (List.Perm.refl _) (fun _ _ => trivial) (fun v L' D' hq => ?_); obtain ⟨a1, k1, rfl, rfl, rfl⟩ := hq) | fail
  rename_i ad0
  refine J_loop (α := Nat × List SCP × Option Addr × Nat) (fun x => [(1, .c (.p 0 ad0 0)), (3, .c (.sl x.2.2.1 x.2.1.length x.2.2.2)), (4, .c (.sl a1 A.length k1)), (5, .c (.i .i64 ((x.1 : Int) - 1)))]) (fun x => [.row 50 2 a1 A.length k1 (titlesC sp A), .row 150 3 x.2.2.1 x.2.1.length x.2.2.2 (scC x.2.1), .box 0 ad0 50 [.i .i64 sp, .s s]]) (fun _ => []) 1
    (fun x => x.1 ≤ A.length ∧ x.2.1.length + x.1 = A.length + 1) (fun x => x.1) (InFam.mk (A.length, [(3, sp, s)], some ⟨ad, 0, none⟩, 1) ⟨Nat.le_refl _, by simp; omega⟩ SubE.a (Ents.of rfl)) (fun x hx => ?_)
  obtain ⟨n, W, a2, c2⟩ := x
  dsimp only at hx ⊢
  obtain ⟨h1, h2⟩ := hx
  cases n with
  | zero =>
    have hW2 : (W ++ [((2 : Int), sp, ([] : List UInt8)), (1, 0, [])]).length = W.length + 2 := by simp
    have hC2 : scC (W ++ [((2 : Int), sp, ([] : List UInt8)), (1, 0, [])]) = scC W ++ [.i .i64 2, .i .i64 sp, .s [], .i .i64 1, .i .i64 0, .s []] := by simp [scC, scF]
    repeat' first | refine J_seq ?_ | refine J_region Tryz.tyOK ?_ | refine J_block ?_ | refine J_cond ?_ | refine J_ret ?_ | refine J_skip ?_ | refine J_exit ?_ | refine J_scope ?_ | refine CondP.y ?_ | refine CondP.n ?_ | refine CondP.mk (fun h => ?_) (fun h => ?_) | refine EqP.mk rfl ?_ | refine NewP.mk (fun ad => ?_) | refine ArP.x ?_ | refine SideP.a ?_ | refine AppE.row [] _ (scC W) [.i .i64 2, .i .i64 sp, .s [], .i .i64 1, .i .i64 0, .s []] 2 rfl (SrcE.sl 150 150 _ _ 2 2 _ rfl rfl (.inl ⟨2, (by first | exact List.Mem.head _ | exact List.Mem.tail _ (List.Mem.head _) | exact List.Mem.tail _ (List.Mem.tail _ (List.Mem.head _)) | exact List.Mem.tail _ (List.Mem.tail _ (List.Mem.tail _ (List.Mem.head _))) | exact List.Mem.tail _ (List.Mem.tail _ (List.Mem.tail _ (List.Mem.tail _ (List.Mem.head _)))))⟩) rfl) (by dsimp only; omega) (fun a' c' => ?_) | refine AppE.row [_] _ (scC W) [.i .i64 2, .i .i64 sp, .s [], .i .i64 1, .i .i64 0, .s []] 2 rfl (SrcE.sl 150 150 _ _ 2 2 _ rfl rfl (.inl ⟨2, (by first | exact List.Mem.head _ | exact List.Mem.tail _ (List.Mem.head _) | exact List.Mem.tail _ (List.Mem.tail _ (List.Mem.head _)) | exact List.Mem.tail _ (List.Mem.tail _ (List.Mem.tail _ (List.Mem.head _))) | exact List.Mem.tail _ (List.Mem.tail _ (List.Mem.tail _ (List.Mem.tail _ (List.Mem.head _)))))⟩) rfl) (by dsimp only; omega) (fun a' c' => ?_) | refine AppE.row [_, _] _ (scC W) [.i .i64 2, .i .i64 sp, .s [], .i .i64 1, .i .i64 0, .s []] 2 rfl (SrcE.sl 150 150 _ _ 2 2 _ rfl rfl (.inl ⟨2, (by first | exact List.Mem.head _ | exact List.Mem.tail _ (List.Mem.head _) | exact List.Mem.tail _ (List.Mem.tail _ (List.Mem.head _)) | exact List.Mem.tail _ (List.Mem.tail _ (List.Mem.tail _ (List.Mem.head _))) | exact List.Mem.tail _ (List.Mem.tail _ (List.Mem.tail _ (List.Mem.tail _ (List.Mem.head _)))))⟩) rfl) (by dsimp only; omega) (fun a' c' => ?_) | fail
    refine FinE.mk [] [slFact 0 3 a' (W.length + 2) (scC W ++ [C.i IntKind.i64 2, C.i IntKind.i64 sp, C.s [], C.i IntKind.i64 1, C.i IntKind.i64 0, C.s []])] ⟨W ++ [(2, sp, []), (1, 0, [])], a', c', by rw [hW2]; omega, by rw [hW2], rfl, by rw [hW2, hC2]⟩ ((Ents.ofSub (L0 := [.row 150 3 a' (W.length + 2) c' (scC W ++ [C.i IntKind.i64 2, C.i IntKind.i64 sp, C.s [], C.i IntKind.i64 1, C.i IntKind.i64 0, C.s []])]) (D0 := []) (by repeat (first | exact List.Sublist.slnil | refine List.Sublist.cons_cons _ ?_ | refine List.Sublist.cons _ ?_)) (fun _ _ => trivial)).trans (Ents.toFact.trans (Ents.facts fun m h => ⟨SlF.label (e := 150) (e' := 0) h.1, trivial⟩)))
  | succ n =>
    have hlt : n < A.length := by omega
    have hg : ((titlesC sp A).drop ((((n + 1 : Nat) : Int) - 1).toNat * 2 + 0)).take 2 = [.i .i64 sp, .s A[n]] := by
      rw [show (((n + 1 : Nat) : Int) - 1).toNat = n by omega]; exact tit_get hlt
    have hrow : ∀ y, scC (W ++ [(3, sp, y)]) = scC W ++ [.i .i64 3, .i .i64 sp, .s y] := fun y => by simp [scC, scF]
    have hln : ∀ y, (W ++ [((3 : Int), sp, y)]).length = W.length + 1 := fun y => by simp
    generalize A[n] = y at *
    repeat' first | refine J_seq ?_ | refine J_region Tryz.tyOK ?_ | refine J_block ?_ | refine J_cond ?_ | refine J_ret ?_ | refine J_skip ?_ | refine J_exit ?_ | refine J_scope ?_ | refine CondP.y ?_ | refine CondP.n ?_ | refine CondP.mk (fun h => ?_) (fun h => ?_) | refine EqP.mk rfl ?_ | refine NewP.mk (fun ad => ?_) | refine ArP.x ?_ | refine SideP.a ?_ | refine IdxE.mk 50 2 _ (.inl ⟨k1, (by first | exact List.Mem.head _ | exact List.Mem.tail _ (List.Mem.head _) | exact List.Mem.tail _ (List.Mem.tail _ (List.Mem.head _)) | exact List.Mem.tail _ (List.Mem.tail _ (List.Mem.tail _ (List.Mem.head _))) | exact List.Mem.tail _ (List.Mem.tail _ (List.Mem.tail _ (List.Mem.tail _ (List.Mem.head _)))))⟩) (by omega) (by omega) ?_ | refine LoadE.mk 50 _ _ [.i .i64 sp, .s y] (.inl ⟨k1, (by first | exact List.Mem.head _ | exact List.Mem.tail _ (List.Mem.head _) | exact List.Mem.tail _ (List.Mem.tail _ (List.Mem.head _)) | exact List.Mem.tail _ (List.Mem.tail _ (List.Mem.tail _ (List.Mem.head _))) | exact List.Mem.tail _ (List.Mem.tail _ (List.Mem.tail _ (List.Mem.tail _ (List.Mem.head _)))))⟩) (by omega) (by omega) (by first | omega | decide) (by exact hg) ?_ | (refine AppE.row [_, _] _ (scC W) [.i .i64 3, .i .i64 sp, .s y] 1 rfl (SrcE.sl 150 150 _ _ 1 1 _ rfl rfl (.inl ⟨1, (by first | exact List.Mem.head _ | exact List.Mem.tail _ (List.Mem.head _) | exact List.Mem.tail _ (List.Mem.tail _ (List.Mem.head _)) | exact List.Mem.tail _ (List.Mem.tail _ (List.Mem.tail _ (List.Mem.head _))) | exact List.Mem.tail _ (List.Mem.tail _ (List.Mem.tail _ (List.Mem.tail _ (List.Mem.head _)))))⟩) rfl) (by dsimp only; omega) (fun a' c' => ?_); rw [← hrow, ← hln y]) | refine Round.mk (n, W ++ [(3, sp, y)], a', c') (by dsimp only; omega) ⟨by dsimp only; omega, by simp; omega⟩ SubE.a Ents.a | fail
theorem matches13_ok (k1 s1 : Int) (n1 : List UInt8) (k2 s2 : Int) (n2 : List UInt8) : FnS Tryz.prog 85 [.agg [.i .i64 k1, .i .i64 s1, .s n1], .agg [.i .i64 k2, .i .i64 s2, .s n2]] [] [] BoolP := by
  refine fn_of_J Tryz.tyOK 0 Tryz.func85 (by kernel_rfl) (c := Tryz.f85.body.getD .skip) (by kernel_rfl) Tryz.ntmps85 (rs := Tryz.f85.results.toList) rfl (by simp) (fun G => ?_)
  repeat' first | refine J_seq ?_ | refine J_region Tryz.tyOK ?_ | refine J_block ?_ | refine J_cond ?_ | refine J_ret ?_ | refine J_skip ?_ | refine J_exit ?_ | refine J_scope ?_ | refine CondP.y ?_ | refine CondP.n ?_ | refine CondP.mk (fun h => ?_) (fun h => ?_) | refine EqP.mk rfl ?_ | refine NewP.mk (fun ad => ?_) | refine ArP.x ?_ | refine SideP.a ?_ | fail | refine FinE.mk [] [] ⟨_, rfl, rfl, rfl⟩ (Ents.dropAll.trans (Ents.facts fun _ _ => trivial)) | fail
theorem may13_ok (p : PolM) (ga : Option Addr) (gc : Nat) (gl : List (List UInt8)) (sp : Int) (nm : List UInt8) (hr : p.rs.length ≤ 1000000) (hg : gl.length ≤ 10000000) (hn : nm.length ≤ 1000000) :
    FnS Tryz.prog 44 [.agg p.cells, .c (.sl ga gl.length gc), .c (.i .i64 1), .agg [.i .i64 sp, .s nm]] [] [slFact 0 6 p.ra p.rs.length (rsC p.rs), slFact 0 1 ga gl.length (sC gl)] BoolP := by
  have cv := validA_ok sp nm
  have cl := levels13_ok sp nm hn
  have ch := fun s => has13_ok 0 ga gc gl s hg
  refine fn_of_J Tryz.tyOK 0 Tryz.func44 (by kernel_rfl) (c := Tryz.f44.body.getD .skip) (by kernel_rfl) Tryz.ntmps44 (rs := Tryz.f44.results.toList) rfl (by simp) (fun G => ?_)
  repeat' first | refine J_seq ?_ | refine J_region Tryz.tyOK ?_ | refine J_block ?_ | refine J_cond ?_ | refine J_ret ?_ | refine J_skip ?_ | refine J_exit ?_ | refine J_scope ?_ | refine CondP.y ?_ | refine CondP.n ?_ | refine CondP.mk (fun h => ?_) (fun h => ?_) | refine EqP.mk rfl ?_ | refine NewP.mk (fun ad => ?_) | refine ArP.x ?_ | refine SideP.a ?_ | refine CallP.isB cv (fun _ => ?_) (fun _ => ?_) | (refine CallP.mk [] _ [] _ cl (List.Perm.refl _) (fun _ _ => trivial) (fun v L' D' hq => ?_); obtain ⟨W, a1, k1, hW, rfl, rfl, rfl⟩ := hq) | refine FinE.mk [] [] ⟨_, rfl, rfl, rfl⟩ (Ents.dropAll.trans (Ents.facts fun _ _ => trivial)) | fail
  rename_i ad0 _hv
  have hrl : ∀ L, Reads L [slFact 0 3 a1 W.length (scC W), slFact 0 6 p.ra p.rs.length (rsC p.rs), slFact 0 1 ga gl.length (sC gl)] 0 3 a1 W.length (scC W) := fun L => .inr fun m h => h.1
  have hrr : ∀ L, Reads L [slFact 0 3 a1 W.length (scC W), slFact 0 6 p.ra p.rs.length (rsC p.rs), slFact 0 1 ga gl.length (sC gl)] 0 6 p.ra p.rs.length (rsC p.rs) := fun L => .inr fun m h => h.2.1
  refine J_loop (α := Nat) (fun i => [(1, .c (.sl ga gl.length gc)), (2, .c (.i .i64 1)), (4, .c (.p 0 ad0 0)), (9, .c (.sl a1 W.length k1)), (10, .c (.i .i64 i))]) (fun _ => [.box 0 ad0 28 p.cells]) (fun _ => [slFact 0 3 a1 W.length (scC W), slFact 0 6 p.ra p.rs.length (rsC p.rs), slFact 0 1 ga gl.length (sC gl)]) 2
    (fun i => i ≤ W.length) (fun i => W.length - i) (InFam.mk 0 (Nat.zero_le _) SubE.a Ents.a) (fun i hi => ?_)
  by_cases hlt : i < W.length
  · have hgl := sc_get hlt
    generalize W[i] = w at *
    repeat' first | refine J_seq ?_ | refine J_region Tryz.tyOK ?_ | refine J_block ?_ | refine J_cond ?_ | refine J_ret ?_ | refine J_skip ?_ | refine J_exit ?_ | refine J_scope ?_ | refine CondP.y ?_ | refine CondP.n ?_ | refine CondP.mk (fun h => ?_) (fun h => ?_) | refine EqP.mk rfl ?_ | refine NewP.mk (fun ad => ?_) | refine ArP.x ?_ | refine SideP.a ?_ | fail
    refine J_loop (α := Nat × Bool × Bool) (fun x => [(1, .c (.sl ga gl.length gc)), (2, .c (.i .i64 1)), (4, .c (.p 0 ad0 0)), (9, .c (.sl a1 W.length k1)), (10, .c (.i .i64 i)), (11, .c (.b x.2.1)), (12, .c (.b x.2.2)), (13, .c (.i .i64 x.1))]) (fun _ => [.box 0 ad0 28 p.cells]) (fun _ => [slFact 0 3 a1 W.length (scC W), slFact 0 6 p.ra p.rs.length (rsC p.rs), slFact 0 1 ga gl.length (sC gl)]) 2
      (fun x => x.1 ≤ p.rs.length) (fun x => p.rs.length - x.1) (InFam.mk (0, false, true) (Nat.zero_le _) SubE.a (Ents.refl _ _)) (fun x hx => ?_)
    obtain ⟨k, b1, b2⟩ := x
    dsimp only at hx ⊢
    by_cases hk : k < p.rs.length
    · have hgr := rs_get hk
      generalize p.rs[k] = r at *
      cases b1 <;> cases b2
      all_goals
        repeat' first | refine J_seq ?_ | refine J_region Tryz.tyOK ?_ | refine J_block ?_ | refine J_cond ?_ | refine J_ret ?_ | refine J_skip ?_ | refine J_exit ?_ | refine J_scope ?_ | refine CondP.y ?_ | refine CondP.n ?_ | refine CondP.mk (fun h => ?_) (fun h => ?_) | refine EqP.mk rfl ?_ | refine NewP.mk (fun ad => ?_) | refine ArP.x ?_ | refine SideP.a ?_ | refine J_drawS (id := 12) Tryz.tyOK (by kernel_rfl) [0, 1, 0, 7, 15, 31, 31, 95, 255, 511, 1023, 2047, 4095, 2047, 2047, 26623, 59391, 131071, 262143] [0, 1, 2, 3, 4, 5, 6, 7, 8, 9, 10, 11, 12, 13, 14, 15, 16, 17, 18] [8, 17] [14, 61] false (by kernel_rfl) ?_ | refine J_drawS (id := 13) Tryz.tyOK (by kernel_rfl) [0, 1, 3, 7, 15, 3, 63] [0, 1, 2, 3, 4, 5, 6] [] [14] false (by kernel_rfl) ?_ | refine EntP.mk Ents.a ?_ | refine IdxE.mk 0 6 _ (hrr _) (by omega) (by omega) ?_ | refine IdxE.mk 0 3 _ (hrl _) (by omega) (by omega) ?_ | refine LoadE.mk 0 _ _ [.b r.allow, .i .i64 r.right, .s r.group, .i .i64 r.kind, .i .i64 r.sp, .s r.nm] (hrr _) (by omega) (by omega) (by first | omega | decide) (by exact hgr) ?_ | refine LoadE.mk 0 _ _ [.i .i64 w.1, .i .i64 w.2.1, .s w.2.2] (hrl _) (by omega) (by omega) (by first | omega | decide) (by exact hgl) ?_ | (refine CallP.mk [] _ [_] _ (ch _) (List.Perm.refl _) (fun _ h => ⟨h.2.2.1, trivial⟩) (fun v L' D' hq => ?_); obtain ⟨b, rfl, rfl, rfl⟩ := hq; cases b) | (refine CallP.mk [] _ [] _ (matches13_ok _ _ _ _ _ _) (List.Perm.refl _) (fun _ _ => trivial) (fun v L' D' hq => ?_); obtain ⟨b, rfl, rfl, rfl⟩ := hq; cases b) | refine Round.mk (k + 1, _, _) (by dsimp only; omega) (by dsimp only; omega) SubE.a Ents.a | fail
    · cases b1
      all_goals
        repeat' first | refine J_seq ?_ | refine J_region Tryz.tyOK ?_ | refine J_block ?_ | refine J_cond ?_ | refine J_ret ?_ | refine J_skip ?_ | refine J_exit ?_ | refine J_scope ?_ | refine CondP.y ?_ | refine CondP.n ?_ | refine CondP.mk (fun h => ?_) (fun h => ?_) | refine EqP.mk rfl ?_ | refine NewP.mk (fun ad => ?_) | refine ArP.x ?_ | refine SideP.a ?_ | refine Round.mk (i + 1) (by omega) (by omega) SubE.a Ents.a | refine FinE.mk [] [] ⟨_, rfl, rfl, rfl⟩ (Ents.dropAll.trans (Ents.facts fun _ _ => trivial)) | fail
  · repeat' first | refine J_seq ?_ | refine J_region Tryz.tyOK ?_ | refine J_block ?_ | refine J_cond ?_ | refine J_ret ?_ | refine J_skip ?_ | refine J_exit ?_ | refine J_scope ?_ | refine CondP.y ?_ | refine CondP.n ?_ | refine CondP.mk (fun h => ?_) (fun h => ?_) | refine EqP.mk rfl ?_ | refine NewP.mk (fun ad => ?_) | refine ArP.x ?_ | refine SideP.a ?_ | refine FinE.mk [] [] ⟨_, rfl, rfl, rfl⟩ (Ents.dropAll.trans (Ents.facts fun _ _ => trivial)) | fail
theorem text27_ok (s : STM) (sp : Int) (nm : Bs) (hs : StB s) : FnS Tryz.prog 30 [.agg s.cells, .agg [.i .i64 sp, .s nm]] [] [stF s] (Is (textV (s.pages.find? (atM sp nm)))) := by
  have cp := page27_ok s sp nm hs
  cases hf : s.pages.find? (atM sp nm) with
  | none =>
    rw [hf] at cp
    have cc : FnS Tryz.prog 45 [.agg [.i .i64 0, .s [], .sl none 0 0]] [] [slFact 0 6 none 0 []] (Is (.agg (curM []).cells)) := cur27_ok 0 ⟨0, [], none, 0, []⟩ (Nat.zero_le _)
    refine fn_of_J Tryz.tyOK 0 Tryz.func30 (by kernel_rfl) (c := Tryz.f30.body.getD .skip) (by kernel_rfl) Tryz.ntmps30 (rs := Tryz.f30.results.toList) rfl (by simp) (fun G => ?_)
    repeat' first | refine J_seq ?_ | refine J_region Tryz.tyOK ?_ | refine J_block ?_ | refine J_cond ?_ | refine J_ret ?_ | refine J_skip ?_ | refine J_exit ?_ | refine J_scope ?_ | refine CondP.y ?_ | refine CondP.n ?_ | refine CondP.mk (fun h => ?_) (fun h => ?_) | refine EqP.mk rfl ?_ | refine NewP.mk (fun ad => ?_) | refine ArP.x ?_ | refine SideP.a ?_ | refine CallP.is cp ?_ | refine FinE.is rfl | fail
    refine CallP.is cc ?_ (fun _ _ => ⟨SlF.nil (e := 0), trivial⟩)
    repeat' first | refine J_seq ?_ | refine J_region Tryz.tyOK ?_ | refine J_block ?_ | refine J_cond ?_ | refine J_ret ?_ | refine J_skip ?_ | refine J_exit ?_ | refine J_scope ?_ | refine CondP.y ?_ | refine CondP.n ?_ | refine CondP.mk (fun h => ?_) (fun h => ?_) | refine EqP.mk rfl ?_ | refine NewP.mk (fun ad => ?_) | refine ArP.x ?_ | refine SideP.a ?_ | refine FinE.is rfl | fail
  | some p =>
    rw [hf] at cp
    have hm := List.mem_of_find?_eq_some hf
    have cc := cur27_ok 0 p (hs.ph p hm)
    refine fn_of_J Tryz.tyOK 0 Tryz.func30 (by kernel_rfl) (c := Tryz.f30.body.getD .skip) (by kernel_rfl) Tryz.ntmps30 (rs := Tryz.f30.results.toList) rfl (by simp) (fun G => ?_)
    repeat' first | refine J_seq ?_ | refine J_region Tryz.tyOK ?_ | refine J_block ?_ | refine J_cond ?_ | refine J_ret ?_ | refine J_skip ?_ | refine J_exit ?_ | refine J_scope ?_ | refine CondP.y ?_ | refine CondP.n ?_ | refine CondP.mk (fun h => ?_) (fun h => ?_) | refine EqP.mk rfl ?_ | refine NewP.mk (fun ad => ?_) | refine ArP.x ?_ | refine SideP.a ?_ | refine CallP.is cp ?_ | refine CallP.is cc ?_ (fun _ h => ⟨h.1.pages.his p hm, trivial⟩) | refine FinE.is rfl | fail
theorem policy29_ok : FnS Tryz.prog 77 [] [] [] (Is (.agg [.i .i64 5, .s policyNm])) := by
  refine fn_of_J Tryz.tyOK 0 Tryz.func77 (by kernel_rfl) (c := Tryz.f77.body.getD .skip) (by kernel_rfl) Tryz.ntmps77 (rs := Tryz.f77.results.toList) rfl (by simp) (fun G => ?_)
  repeat' first | refine J_seq ?_ | refine J_region Tryz.tyOK ?_ | refine J_block ?_ | refine J_cond ?_ | refine J_ret ?_ | refine J_skip ?_ | refine J_exit ?_ | refine J_scope ?_ | refine CondP.y ?_ | refine CondP.n ?_ | refine CondP.mk (fun h => ?_) (fun h => ?_) | refine EqP.mk rfl ?_ | refine NewP.mk (fun ad => ?_) | refine ArP.x ?_ | refine SideP.a ?_ | refine FinE.is rfl | fail
theorem policyOf29_ok (s : STM) (hs : StB s) (ht : ∀ p ∈ s.pages, (curM p.hist).text.length ≤ 1000000) : FnS Tryz.prog 42 [.agg s.cells] [] [stF s] (fun v L D => ∃ p : PolM, PolOK p ∧ p.gs.length ≤ 1000000 ∧ p.rs.length ≤ 1000000 ∧ (∀ g ∈ p.gs, g.mem.length ≤ 10000000) ∧ v = .agg p.cells ∧ L = [] ∧ D = p.facts) := by
  have cx := text27_ok s 5 policyNm hs
  have hnil : PolOK polNil := PolOK.of (p := polNil) (P3B.nil 8192) (by omega) (by omega) (Nat.le_refl _)
  have hfin : ∀ p : PolM, p.gs.length ≤ p.gc → P3B 8192 8193 p.p3 → PolOK p ∧ p.gs.length ≤ 1000000 ∧ p.rs.length ≤ 1000000 ∧ (∀ g ∈ p.gs, g.mem.length ≤ 10000000) := fun p hc hb => by
    have h1 := hb.gl
    have h2 := hb.rl
    refine ⟨PolOK.of hb (by omega) (by omega) hc, ?_, ?_, fun g hg => ?_⟩
    · simp only [PolM.p3, gpOf, List.length_map] at h1; omega
    · simp only [PolM.p3] at h2; omega
    · have := (hb.gb (g.name, g.mem) (List.mem_map.2 ⟨g, hg, rfl⟩)).2.1
      dsimp only at this; omega
  cases hf : s.pages.find? (atM 5 policyNm) with
  | none =>
    rw [hf] at cx
    refine fn_of_J Tryz.tyOK 0 Tryz.func42 (by kernel_rfl) (c := Tryz.f42.body.getD .skip) (by kernel_rfl) Tryz.ntmps42 (rs := Tryz.f42.results.toList) rfl (by simp) (fun G => ?_)
    repeat' first | refine J_seq ?_ | refine J_region Tryz.tyOK ?_ | refine J_block ?_ | refine J_cond ?_ | refine J_ret ?_ | refine J_skip ?_ | refine J_exit ?_ | refine J_scope ?_ | refine CondP.y ?_ | refine CondP.n ?_ | refine CondP.mk (fun h => ?_) (fun h => ?_) | refine EqP.mk rfl ?_ | refine NewP.mk (fun ad => ?_) | refine ArP.x ?_ | refine SideP.a ?_ | refine J_drawS (id := 1) Tryz.tyOK (by kernel_rfl) [0, 0, 3, 7, 15, 15, 31, 127] [0, 1, 2, 3, 4, 5, 6, 7] [1, 2] [1] false (by kernel_rfl) ?_ | refine EntP.mk Ents.a ?_ | refine CallP.is policy29_ok ?_ | refine CallP.is cx ?_ | exact FinE.mk [] polNil.facts ⟨polNil, hnil, by decide, by decide, (fun _ h => by cases h), rfl, rfl, rfl⟩ (Ents.dropAll.trans (Ents.facts fun m _ => polNil_facts m)) | fail
  | some p =>
    rw [hf] at cx
    have cp := refParse12_ok (curM p.hist).text (ht p (List.mem_of_find?_eq_some hf))
    refine fn_of_J Tryz.tyOK 0 Tryz.func42 (by kernel_rfl) (c := Tryz.f42.body.getD .skip) (by kernel_rfl) Tryz.ntmps42 (rs := Tryz.f42.results.toList) rfl (by simp) (fun G => ?_)
    repeat' first | refine J_seq ?_ | refine J_region Tryz.tyOK ?_ | refine J_block ?_ | refine J_cond ?_ | refine J_ret ?_ | refine J_skip ?_ | refine J_exit ?_ | refine J_scope ?_ | refine CondP.y ?_ | refine CondP.n ?_ | refine CondP.mk (fun h => ?_) (fun h => ?_) | refine EqP.mk rfl ?_ | refine NewP.mk (fun ad => ?_) | refine ArP.x ?_ | refine SideP.a ?_ | refine J_drawS (id := 1) Tryz.tyOK (by kernel_rfl) [0, 0, 3, 7, 15, 15, 31, 127] [0, 1, 2, 3, 4, 5, 6, 7] [1, 2] [1] false (by kernel_rfl) ?_ | refine EntP.mk Ents.a ?_ | refine CallP.is policy29_ok ?_ | refine CallP.is cx ?_ | (refine CallP.mk [] _ [] _ cp (List.Perm.refl _) (fun _ _ => trivial) (fun v L' D' hq => ?_); obtain ⟨p1, hp1, hgc, hb, rfl, rfl, rfl⟩ := hq) | exact FinE.mk [] p1.facts ⟨p1, (hfin p1 hgc hb).1, (hfin p1 hgc hb).2.1, (hfin p1 hgc hb).2.2.1, (hfin p1 hgc hb).2.2.2, rfl, rfl, rfl⟩ (Ents.dropAll.trans (Ents.facts fun m h => ⟨h.1, h.2.1, h.2.2.1, h.2.2.2.1, trivial⟩)) | exact FinE.mk [] polNil.facts ⟨polNil, hnil, by decide, by decide, (fun _ h => by cases h), rfl, rfl, rfl⟩ (Ents.dropAll.trans (Ents.facts fun m _ => polNil_facts m)) | fail
end Go.Proofs

/- This text walks through the functions Build of the reference of chapter 35 and of the package search: both give the rows of all pages in order. -/
namespace Go.X
open Go Go.Lib
def pgmRows (p : PGM) : List WR := rowsT p.sp p.nm (curM p.hist).text
theorem buildT_is (s : STM) : buildT s.pl = ordW (s.pages.flatMap pgmRows) := by
  unfold buildT
  rw [show s.pl.pages = s.pages.map PGM.pl from rfl, List.flatMap_map]
  rfl
/-- The pages of a state are few and not long. -/
structure PgS (s : STM) : Prop where
  n : s.pages.length ≤ 200
  h : ∀ p ∈ s.pages, p.hist.length ≤ big
  t : ∀ p ∈ s.pages, p.nm.length + (curM p.hist).text.length ≤ 10000
theorem pgmRows_len {s : STM} (h : PgS s) {p : PGM} (hp : p ∈ s.pages) : (pgmRows p).length ≤ 10002 := by
  have := h.t p hp
  have := rowsT_len p.sp p.nm (curM p.hist).text
  unfold pgmRows; omega
theorem flatRows_len {s : STM} (h : PgS s) : (s.pages.flatMap pgmRows).length ≤ 2000400 := by
  have key : ∀ l : List PGM, (∀ p ∈ l, p ∈ s.pages) → (l.flatMap pgmRows).length ≤ l.length * 10002 := by
    intro l
    induction l with
    | nil => intro _; simp
    | cons x r ih =>
      intro hs
      have h1 := pgmRows_len h (hs x (List.mem_cons_self ..))
      have h2 := ih fun p hp => hs p (List.mem_cons_of_mem _ hp)
      rw [List.flatMap_cons, List.length_append, List.length_cons]
      omega
  have := key s.pages fun _ h => h
  have := h.n
  omega
end Go.X
namespace Go.Proofs
open Go Go.X
set_option maxRecDepth 100000
set_option maxHeartbeats 4000000
theorem build_ok (s : STM) (hs : PgS s) : FnS Tryz.prog 28 [.agg s.cells] [] [stF s] (RowP (buildT s.pl)) := by
  rw [buildT_is]
  have hrp : ∀ L, Reads L [stF s] 0 3 s.pa s.pages.length (pgmC s.pages) := fun L => .inr fun m h => h.1.pages.row
  have hn := hs.n
  have hfl := flatRows_len hs
  generalize hF : s.pages.flatMap pgmRows = F at *
  have co := fun a c => ordered_ok a c F (by omega)
  refine fn_of_J Tryz.tyOK 0 Tryz.func28 (by kernel_rfl) (c := Tryz.f28.body.getD .skip) (by kernel_rfl) Tryz.ntmps28 (rs := Tryz.f28.results.toList) rfl (by simp) (fun G => ?_)
  repeat' first | refine J_seq ?_ | refine J_region Tryz.tyOK ?_ | refine J_block ?_ | refine J_cond ?_ | refine J_ret ?_ | refine J_skip ?_ | refine J_exit ?_ | refine J_scope ?_ | refine CondP.y ?_ | refine CondP.n ?_ | refine CondP.mk (fun h => ?_) (fun h => ?_) | refine EqP.mk rfl ?_ | refine NewP.mk (fun ad => ?_) | refine ArP.x ?_ | refine SideP.a ?_ | fail
  refine J_loop (α := Nat × List WR × Option Addr × Nat) (fun x => [(3, .c (.sl x.2.2.1 x.2.1.length x.2.2.2)), (7, .c (.sl s.pa s.pages.length s.pc)), (8, .c (.i .i64 s.pages.length)), (9, .c (.i .i64 x.1))]) (fun x => [.row 60 4 x.2.2.1 x.2.1.length x.2.2.2 (wrC x.2.1)]) (fun _ => [stF s]) 1
    (fun x => x.1 ≤ s.pages.length ∧ x.2.1.length ≤ x.1 * 10002 ∧ F = x.2.1 ++ (s.pages.drop x.1).flatMap pgmRows) (fun x => s.pages.length - x.1) (InFam.mk (0, [], none, 0) ⟨Nat.zero_le _, Nat.zero_le _, hF.symm⟩ SubE.a (Ents.drop.trans (Ents.nilRow (ety := 60) (esz := 4)))) (fun x hx => ?_)
  clear hF
  obtain ⟨i, out, b1, d1⟩ := x
  dsimp only at hx ⊢
  obtain ⟨hi, hol, he⟩ := hx
  by_cases hlt : i < s.pages.length
  · have hg := pgm_get hlt
    have hmem : s.pages[i] ∈ s.pages := List.getElem_mem hlt
    rw [List.drop_eq_getElem_cons hlt, List.flatMap_cons, ← List.append_assoc] at he
    generalize s.pages[i] = p at *
    have hrl := pgmRows_len hs hmem
    have cr := rows_ok p.sp p.nm (curM p.hist).text (hs.t p hmem)
    have cc := current_ok 0 p (hs.h p hmem)
    change FnS _ _ _ _ _ (RowP (pgmRows p)) at cr
    generalize pgmRows p = R at *
    have hln : (out ++ R).length = out.length + R.length := List.length_append
    have hrc : wrC (out ++ R) = wrC out ++ wrC R := by simp [wrC]
    clear co
    repeat' first | refine J_seq ?_ | refine J_region Tryz.tyOK ?_ | refine J_block ?_ | refine J_cond ?_ | refine J_ret ?_ | refine J_skip ?_ | refine J_exit ?_ | refine J_scope ?_ | refine CondP.y ?_ | refine CondP.n ?_ | refine CondP.mk (fun h => ?_) (fun h => ?_) | refine EqP.mk rfl ?_ | refine NewP.mk (fun ad => ?_) | refine ArP.x ?_ | refine SideP.a ?_ | refine J_drawS (id := 5) Tryz.tyOK (by kernel_rfl) [0, 0, 2, 0, 8, 24, 62, 127, 255] [0, 1, 2, 3, 4, 5, 6, 7, 8] [6, 7] [5] false (by kernel_rfl) ?_ | refine EntP.mk Ents.a ?_ | refine IdxE.mk 0 3 _ (hrp _) (by omega) (by omega) ?_ | refine LoadE.mk 0 _ _ p.cells (hrp _) (by omega) (by omega) (by first | omega | decide) (by exact hg) ?_ | refine CallQ.mk [_] _ cc (fun _ h => ⟨h.1.pages.his p hmem, trivial⟩) ?_ | (refine CallP.mk [] [_, _] [] _ cr (List.Perm.refl _) (fun _ _ => trivial) (fun v L' D' hq => ?_); obtain ⟨a2, k2, rfl, rfl, rfl⟩ := hq) | (refine AppE.row [_, _] _ (wrC out) (wrC R) R.length rfl (SrcE.sl 60 60 _ _ _ _ _ rfl rfl (.inl ⟨_, List.Mem.head _⟩) (wrC_len R)) (by dsimp only; omega) (fun a' c' => ?_); rw [← hln, ← hrc]) | (refine AppE.row [_] _ (wrC out) (wrC R) R.length rfl (SrcE.sl 60 60 _ _ _ _ _ rfl rfl (.inl ⟨_, List.Mem.head _⟩) (wrC_len R)) (by dsimp only; omega) (fun a' c' => ?_); rw [← hln, ← hrc]) | refine Round.mk (i + 1, out ++ R, a', c') (by dsimp only; omega) ⟨by dsimp only; omega, by dsimp only; omega, he⟩ SubE.a Ents.a | fail
  · have hil : i = s.pages.length := by omega
    rw [hil, List.drop_length] at he
    have he : F = out := by rw [he]; simp
    subst he
    repeat' first | refine J_seq ?_ | refine J_region Tryz.tyOK ?_ | refine J_block ?_ | refine J_cond ?_ | refine J_ret ?_ | refine J_skip ?_ | refine J_exit ?_ | refine J_scope ?_ | refine CondP.y ?_ | refine CondP.n ?_ | refine CondP.mk (fun h => ?_) (fun h => ?_) | refine EqP.mk rfl ?_ | refine NewP.mk (fun ad => ?_) | refine ArP.x ?_ | refine SideP.a ?_ | (refine CallP.mk [_] [] [] _ (co _ _) (List.Perm.refl _) (fun _ _ => trivial) (fun v L' D' hq => ?_); obtain ⟨rfl, rfl, rfl⟩ := hq) | refine FinE.mk [_] [] ⟨_, _, rfl, rfl, rfl⟩ (Ents.ofSub (by repeat (first | exact List.Sublist.slnil | refine List.Sublist.cons_cons _ ?_ | refine List.Sublist.cons _ ?_)) (fun _ _ => trivial)) | fail
end Go.Proofs
