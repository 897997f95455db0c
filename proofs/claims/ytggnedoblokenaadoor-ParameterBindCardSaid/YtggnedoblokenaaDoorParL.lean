/- This text walks through the statements on parameters: known, large, and the five. -/
import Derived.Test.YtggnedoblokenaaDoorParC
set_option linter.all false

namespace Go.X
open Go Go.Lib

def largeB : List Vl → Nat → Bool
  | [], _ => false
  | v :: r, i => decide (60 < (i : Int)) || decide (100 < (v.2.1.length : Int)) || decide (300 < (v.2.2.length : Int)) || largeB r (i + 1)
theorem large_no : ∀ (l : List Vl) (i : Nat), largeB l i = false → i ≤ 61 → i + l.length ≤ 61 ∧ ∀ v ∈ l, v.2.1.length ≤ 100 ∧ v.2.2.length ≤ 300
  | [], i, _, hi => ⟨hi, fun v hv => by cases hv⟩
  | v :: r, i, h, hi => by
    simp only [largeB, Bool.or_eq_false_iff, decide_eq_false_iff_not] at h
    obtain ⟨⟨⟨h1, h2⟩, h3⟩, h4⟩ := h
    obtain ⟨h5, h6⟩ := large_no r (i + 1) h4 (by omega)
    refine ⟨by simp only [List.length_cons]; omega, fun u hu => ?_⟩
    rcases List.mem_cons.1 hu with rfl | hu
    · omega
    · exact h6 u hu

def known3 : List Vl := [(false, [], [97]), (true, [32, 49, 32], [32, 98, 32]), (false, [], [99])]
theorem known3_bind : bindT known3 = [([49], [98]), ([50], [99])] := by
  unfold bindT known3
  simp only [putsT, Bool.false_eq_true, if_false, if_true]
  rw [decDigits_one (show 0 + 1 < 10 by decide), decDigits_one (show 0 + 1 + 1 < 10 by decide)]
  decide

theorem andI (n : Int) : 0 ≤ bitsV .and .i64 n 65535 ∧ bitsV .and .i64 n 65535 ≤ 65535 := by
  have h : bitsV .and .i64 n 65535 = IntKind.i64.wrap ((BitVec.ofInt 64 n &&& BitVec.ofInt 64 65535).toNat : Nat) := rfl
  have h2 : (BitVec.ofInt 64 n &&& BitVec.ofInt 64 65535).toNat ≤ 65535 := by
    rw [BitVec.toNat_and]
    exact Nat.le_trans Nat.and_le_right (by decide)
  rw [h, wrap_of_inR (by simp only [inR]; omega)]
  omega

theorem bindV_le {l : List Vl} (h : l.length ≤ 40) : bindV l = (bindT l, 0) := if_pos h
theorem bindV_len (l : List Vl) : (bindV l).1.length ≤ 40 := by
  unfold bindV
  split
  · have := bind_len l; dsimp only; omega
  · simp

end Go.X

namespace Go.Proofs
open Go Go.X Go.Lib
set_option maxRecDepth 100000
set_option maxHeartbeats 4000000

/-- The binding of at most forty arguments. -/
theorem bind40_ok (e : Nat) (a : Option Addr) (c : Nat) (l : List Vl) (hb : VlB l) (h : l.length ≤ 40) : FnS Tryd.prog 10 [.c (.sl a l.length c)] [] [slFact e 3 a l.length (vlC l)]
    (fun v L D => ∃ a c, v = .t2 (.c (.sl a (bindT l).length c)) (.c (.i .i64 0)) ∧ L = [] ∧ D = [slFact 33 2 a (bindT l).length (ktC (bindT l))]) := by
  have := bind_ok e a c l hb
  unfold BindP at this
  rw [bindV_le h] at this
  exact this

theorem known_ok : FnS Tryd.prog 9 [] [] [] (Is (.c (.b true))) := by
  have cb := fun a c => bind40_ok 36 a c known3 (fun v hv => by
    simp only [known3, List.mem_cons, List.mem_nil_iff, or_false] at hv
    rcases hv with rfl | rfl | rfl <;> decide) (by decide)
  rw [known3_bind] at cb
  have cs := fun a a' c c' => sameB_ok 33 33 a a' c c' [([49], [98]), ([50], [99])] (by decide)
  refine fn_of_J Tryd.tyOK 0 Tryd.func9 (by kernel_rfl) (c := Tryd.f9.body.getD .skip) (by kernel_rfl) Tryd.ntmps9 (rs := Tryd.f9.results.toList) rfl (by simp) (fun G => ?_)
  repeat' first
    | refine J_seq ?_ | refine J_region Tryd.tyOK ?_ | refine J_block ?_ | refine J_cond ?_ | refine J_ret ?_ | refine J_skip ?_ | refine J_exit ?_ | refine J_scope ?_
    | refine CondP.yes (by omega) ?_ | refine CondP.no (by omega) ?_ | refine CondP.mk (fun h => ?_) (fun h => ?_) | refine EqP.mk rfl ?_ | refine NewP.mk (fun ad => ?_) | refine ArP.exact (by simp only [inR]; omega) ?_ | refine SideP.mk (by first | omega | (dsimp only; omega) | (simp; omega)) ?_
    | refine CallP.mkE [] [] [_] _ _ (cb _ _) (Ents.toFact.trans (Ents.of rfl)) (fun _ h => ⟨h.1, trivial⟩) (fun v L' D' hp => ?_); obtain ⟨a1, c1, rfl, rfl, rfl⟩ := hp | refine CallP.isE (cs _ _ _ _) Ents.toFact (fun _ h => ⟨h.2.1, h.1, trivial⟩) ?_ | refine FinE.bool rfl
    | fail

theorem large_ok (e : Nat) (a : Option Addr) (c : Nat) (l : List Vl) (hl : l.length ≤ 9223372036854775807) : FnS Tryd.prog 8 [.c (.sl a l.length c)] [] [slFact e 3 a l.length (vlC l)] (Is (.c (.b (largeB l 0)))) := by
  have hrd : ∀ L, Reads L [slFact e 3 a l.length (vlC l)] e 3 a l.length (vlC l) := fun L => .inr fun m h => h.1
  generalize hv : largeB l 0 = v
  refine fn_of_J Tryd.tyOK 0 Tryd.func8 (by kernel_rfl) (c := Tryd.f8.body.getD .skip) (by kernel_rfl) Tryd.ntmps8 (rs := Tryd.f8.results.toList) rfl (by simp) (fun G => ?_)
  repeat' first
    | refine J_seq ?_ | refine J_region Tryd.tyOK ?_ | refine J_block ?_ | refine J_cond ?_ | refine J_ret ?_ | refine J_skip ?_ | refine J_exit ?_ | refine J_scope ?_
    | refine CondP.yes (by omega) ?_ | refine CondP.no (by omega) ?_ | refine CondP.mk (fun h => ?_) (fun h => ?_) | refine EqP.mk rfl ?_ | refine NewP.mk (fun ad => ?_) | refine ArP.exact (by simp only [inR]; omega) ?_ | refine SideP.mk (by first | omega | (dsimp only; omega) | (simp; omega)) ?_
    | fail
  refine J_loop (α := Nat) (fun i => [(0, .c (.sl a l.length c)), (3, .c (.i .i64 i))]) (fun _ => []) (fun _ => [slFact e 3 a l.length (vlC l)]) 0
    (fun i => i ≤ l.length ∧ v = largeB (l.drop i) i) (fun i => l.length - i) (InFam.mk 0 ⟨by omega, hv.symm⟩ (by repeat' first | exact SubE.nil | refine SubE.cons rfl ?_ ?_ | exact VEq.refl _ | refine VEq.int (by omega) | refine VEq.sl rfl (by first | rfl | omega | (rw [List.length_append]; rfl) | (simp; omega)) rfl) (Ents.refl _ _)) (fun i hi => ?_)
  obtain ⟨hi, he⟩ := hi
  by_cases hlt : i < l.length
  · have hg1 := vl_get1 hlt
    have hg2 := vl_get2 hlt
    rw [List.drop_eq_getElem_cons hlt, largeB] at he
    generalize l[i] = x at *
    obtain ⟨nd, xn, xt⟩ := x
    dsimp only at he hg1 hg2
    repeat' first
      | refine J_seq ?_ | refine J_region Tryd.tyOK ?_ | refine J_block ?_ | refine J_cond ?_ | refine J_ret ?_ | refine J_skip ?_ | refine J_exit ?_ | refine J_scope ?_
      | refine CondP.yes (by omega) ?_ | refine CondP.no (by omega) ?_ | refine CondP.mk (fun h => ?_) (fun h => ?_) | refine EqP.mk rfl ?_ | refine NewP.mk (fun ad => ?_) | refine ArP.exact (by simp only [inR]; omega) ?_ | refine SideP.mk (by first | omega | (dsimp only; omega) | (simp; omega)) ?_
      | refine IdxE.mk e 3 _ (hrd _) (by omega) (by omega) ?_ | refine FldE.mk e 3 _ _ (hrd _) (by omega) ?_ | refine LoadE.mk e _ _ _ (hrd _) (by omega) (by omega) (by first | omega | decide) hg1 ?_ | refine LoadE.mk e _ _ _ (hrd _) (by omega) (by omega) (by first | omega | decide) hg2 ?_ | refine FinE.bool ?_ | refine Round.mk (i + 1) (by omega) ⟨by omega, ?_⟩ (by repeat' first | exact SubE.nil | refine SubE.cons rfl ?_ ?_ | exact VEq.refl _ | refine VEq.int (by omega) | refine VEq.sl rfl (by first | rfl | omega | (rw [List.length_append]; rfl) | (simp; omega)) rfl) (Ents.refl _ _)
      | fail
    all_goals (rw [he]; (try simp only [Int.toNat_natCast, Int.toNat_zero] at *); simp only [*, decide_true, decide_false, Bool.true_and, Bool.false_and, Bool.and_true, Bool.and_false, Bool.not_true, Bool.not_false, Bool.true_or, Bool.false_or, Bool.or_true, Bool.or_false, not_true, not_false_eq_true, ne_eq, if_true, if_false, Bool.false_eq_true]; try rfl)
  · have hil : i = l.length := by omega
    subst hil
    rw [List.drop_length, largeB] at he
    repeat' first
      | refine J_seq ?_ | refine J_region Tryd.tyOK ?_ | refine J_block ?_ | refine J_cond ?_ | refine J_ret ?_ | refine J_skip ?_ | refine J_exit ?_ | refine J_scope ?_
      | refine CondP.yes (by omega) ?_ | refine CondP.no (by omega) ?_ | refine CondP.mk (fun h => ?_) (fun h => ?_) | refine EqP.mk rfl ?_ | refine NewP.mk (fun ad => ?_) | refine ArP.exact (by simp only [inR]; omega) ?_ | refine SideP.mk (by first | omega | (dsimp only; omega) | (simp; omega)) ?_
      | refine FinE.bool he
      | fail

theorem parameterBind_law (e : Nat) (a : Option Addr) (c : Nat) (l : List Vl) (hl : l.length ≤ 9223372036854775807) (hb : VlB l) : FnS Tryd.prog 3 [.c (.sl a l.length c)] [] [slFact e 3 a l.length (vlC l)] (Is (.c (.b true))) := by
  have cl := large_ok e a c l hl
  have c1 := bind_ok e a c l hb
  have c2 := refBind_ok e a c l hb
  unfold BindP at c1 c2
  have hP := bindV_len l
  generalize (bindV l).1 = P at *
  generalize (bindV l).2 = er at *
  have cs := fun a a' c c' => sameB_ok 33 33 a a' c c' P (by omega)
  refine fn_of_J Tryd.tyOK 0 Tryd.func3 (by kernel_rfl) (c := Tryd.f3.body.getD .skip) (by kernel_rfl) Tryd.ntmps3 (rs := Tryd.f3.results.toList) rfl (by simp) (fun G => ?_)
  repeat' first
    | refine CondP.yes rfl ?_
    | refine J_seq ?_ | refine J_region Tryd.tyOK ?_ | refine J_block ?_ | refine J_cond ?_ | refine J_ret ?_ | refine J_skip ?_ | refine J_exit ?_ | refine J_scope ?_
    | refine CondP.yes (by omega) ?_ | refine CondP.no (by omega) ?_ | refine CondP.mk (fun h => ?_) (fun h => ?_) | refine EqP.mk rfl ?_ | refine NewP.mk (fun ad => ?_) | refine ArP.exact (by simp only [inR]; omega) ?_ | refine SideP.mk (by first | omega | (dsimp only; omega) | (simp; omega)) ?_
    | refine CallP.isB cl (fun h => ?_) (fun h => ?_) | refine CallP.is known_ok ?_ | refine CallP.mk [] [] [_] _ c1 (List.Perm.refl _) (fun _ h => ⟨h.1, trivial⟩) (fun v L' D' hp => ?_); obtain ⟨a1, c1, rfl, rfl, rfl⟩ := hp | refine CallP.mk [] [] [_] _ c2 (List.Perm.refl _) (fun _ h => ⟨h.2.1, trivial⟩) (fun v L' D' hp => ?_); obtain ⟨a2, c2, rfl, rfl, rfl⟩ := hp | refine CallP.is (cs _ _ _ _) ?_ (fun _ h => ⟨h.2.1, h.1, trivial⟩) | refine FinE.bool rfl
    | fail

theorem parameterGet_law (e : Nat) (a : Option Addr) (c : Nat) (l : List KT) (s : Bt) (hl : l.length ≤ 9223372036854775807) (hs : s.length ≤ 9223372036854775807) : FnS Tryd.prog 7 [.c (.sl a l.length c), .c (.s s)] [] [slFact e 2 a l.length (ktC l)] (Is (.c (.b true))) := by
  have g1 := get_ok e a c l s hl hs
  have g2 := refGet_ok e a c l s hl hs
  by_cases hbig : l.length ≤ 100
  · have n1 := names_ok e a c l (by omega)
    have n2 := refNames_ok e a c l (by omega)
    have hkl : (keysT l).length = l.length := by unfold keysT; rw [List.length_map]
    have cs := fun a a' c c' => sameS_ok 9 9 a a' c c' (keysT l) (by omega)
    rw [hkl] at cs
    unfold NamesP at n1 n2
    generalize (getA l (trimT s)).getD [] = x at *
    generalize (getA l (trimT s)).isSome = p at *
    refine fn_of_J Tryd.tyOK 0 Tryd.func7 (by kernel_rfl) (c := Tryd.f7.body.getD .skip) (by kernel_rfl) Tryd.ntmps7 (rs := Tryd.f7.results.toList) rfl (by simp) (fun G => ?_)
    repeat' first
      | refine CondP.yes rfl ?_
      | refine J_seq ?_ | refine J_region Tryd.tyOK ?_ | refine J_block ?_ | refine J_cond ?_ | refine J_ret ?_ | refine J_skip ?_ | refine J_exit ?_ | refine J_scope ?_
      | refine CondP.yes (by omega) ?_ | refine CondP.no (by omega) ?_ | refine CondP.mk (fun h => ?_) (fun h => ?_) | refine EqP.mk rfl ?_ | refine NewP.mk (fun ad => ?_) | refine ArP.exact (by simp only [inR]; omega) ?_ | refine SideP.mk (by first | omega | (dsimp only; omega) | (simp; omega)) ?_
      | refine CallP.is known_ok ?_ | refine CallP.is g1 ?_ (fun _ h => h) | refine CallP.is g2 ?_ (fun _ h => h) | refine CallP.mk [] [] [_] _ n1 (List.Perm.refl _) (fun _ h => ⟨h.1, trivial⟩) (fun v L' D' hp => ?_); obtain ⟨a1, c1, rfl, rfl, rfl⟩ := hp | refine CallP.mk [] [] [_] _ n2 (List.Perm.refl _) (fun _ h => ⟨h.2.1, trivial⟩) (fun v L' D' hp => ?_); obtain ⟨a2, c2, rfl, rfl, rfl⟩ := hp | refine CallP.is (cs _ _ _ _) ?_ (fun _ h => ⟨h.2.1, h.1, trivial⟩) | refine FinE.bool rfl
      | fail
  · refine fn_of_J Tryd.tyOK 0 Tryd.func7 (by kernel_rfl) (c := Tryd.f7.body.getD .skip) (by kernel_rfl) Tryd.ntmps7 (rs := Tryd.f7.results.toList) rfl (by simp) (fun G => ?_)
    repeat' first
      | refine J_seq ?_ | refine J_region Tryd.tyOK ?_ | refine J_block ?_ | refine J_cond ?_ | refine J_ret ?_ | refine J_skip ?_ | refine J_exit ?_ | refine J_scope ?_
      | refine CondP.yes (by omega) ?_ | refine CondP.no (by omega) ?_ | refine CondP.mk (fun h => ?_) (fun h => ?_) | refine EqP.mk rfl ?_ | refine NewP.mk (fun ad => ?_) | refine ArP.exact (by simp only [inR]; omega) ?_ | refine SideP.mk (by first | omega | (dsimp only; omega) | (simp; omega)) ?_
      | refine CallP.is known_ok ?_ | refine FinE.bool rfl
      | fail

end Go.Proofs
