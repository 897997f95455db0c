/- This text walks through the functions of the package title, and shows what each computes. · This text walks through the function Valid of the package title. · This text walks through the function Parse of the package title, and what it calls. · This text walks through the functions Parse, Format, Compare and Resolve of the package title. · This text walks through the functions Format and Compare of the package title. · This text walks through html.Path. · This text walks through html.Render on a document of one paragraph, and through the sanity check of chapter 20. · This text proves the plain laws of the escaping: different strings have different escaped forms; these hold no brackets and no quotation marks. · This text says in plain Lean what the reference functions of chapter 1 compute, and links it to what the package title computes. · This text walks through the small functions of the reference of chapter 1. · This text walks through the functions prefixed, cut, blanks and Parts of the reference of chapter 1. · This text walks through the functions blanks and Parts of the reference of chapter 1. · This text walks through the reference's Escape: it computes the escaped string too. · This text walks through the function Valid of the reference of chapter 1. · This text proves in plain Lean that, in a text without two blanks side by side, leaving out each blank next to a slash is the same as trimming the pieces between the slashes. · This text walks through the function Parse of the reference of chapter 1. · This text walks through the functions Resolve and Ancestors of the package title. · This text walks through the functions Ancestors and Format of the reference of chapter 1. -/
import Derived.Test.YtdnkeinjfddmnaaGreatDoorQ06
import Derived.Test.YtdnkeinjfddmnaaGreatDoorQ07
set_option linter.all false

namespace Go.Proofs
open Go Go.X
set_option maxRecDepth 100000

theorem drop_take1 {α : Type} {l : List α} {i : Nat} (h : i < l.length) : (l.drop i).take 1 = [l[i]] := by
  rw [List.drop_eq_getElem_cons h]; rfl
theorem setC_one {l : List C} {i : Nat} {x : C} (h : i < l.length) : setC i [x] l = l.set i x := by
  rw [List.set_eq_take_append_cons_drop, if_pos h]; simp [setC]

def mixed (l : List UInt8) (i : Nat) : List UInt8 := (l.take i).map lowB ++ l.drop i
theorem mixed_get {l : List UInt8} {i : Nat} (h : i < l.length) : ((mixed l i).map byteC).drop i = byteC l[i] :: (l.drop (i + 1)).map byteC := by
  rw [← List.map_drop, mixed, List.drop_left' (by simp; omega), List.drop_eq_getElem_cons h, List.map_cons]
theorem mixed_len {l : List UInt8} {i : Nat} (h : i ≤ l.length) : (mixed l i).length = l.length := by simp [mixed]; omega
theorem mixed_succ {l : List UInt8} {i : Nat} (h : i < l.length) : (mixed l i).set i (lowB l[i]) = mixed l (i + 1) := by
  unfold mixed
  have hlen : ((l.take i).map lowB).length = i := by simp; omega
  rw [List.set_append_right _ _ (by omega), List.take_succ_eq_append_getElem h, hlen, Nat.sub_self, List.drop_eq_getElem_cons h, List.set_cons_zero, List.map_append]
  simp
theorem mixed_same {l : List UInt8} {i : Nat} (h : i < l.length) (h' : lowB l[i] = l[i]) : mixed l i = mixed l (i + 1) := by
  rw [← mixed_succ h, h']
  have := mixed_get h
  have hi : (mixed l i)[i]? = some l[i] := by
    have h2 := congrArg (fun x => x[0]?) this
    simp only [List.getElem?_drop, Nat.add_zero, List.getElem?_cons_zero, List.getElem?_map] at h2
    cases hx : (mixed l i)[i]? with
    | none => rw [hx] at h2; simp at h2
    | some u =>
      rw [hx] at h2
      simp [byteC] at h2
      have : u.toNat = l[i].toNat := by omega
      rw [UInt8.toNat_inj.1 this]
  obtain ⟨hlt, he⟩ := List.getElem?_eq_some_iff.1 hi
  rw [← he, List.set_getElem_self]

theorem fold_ok (l : List UInt8) (hl : l.length ≤ 1000000) : FnS Tryz.prog 159 [.c (.s l)] [] [] (Is (.c (.s (l.map lowB)))) := by
  refine fn_of_J Tryz.tyOK 0 Tryz.func159 (by kernel_rfl) (c := Tryz.f159.body.getD .skip) (by kernel_rfl) Tryz.ntmps159 (rs := Tryz.f159.results.toList) rfl (by simp) (fun G => ?_)
  repeat' first
    | refine J_seq ?_ | refine J_region Tryz.tyOK ?_ | refine J_block ?_ | refine J_cond ?_ | refine J_ret ?_ | refine J_skip ?_ | refine J_exit ?_ | refine J_scope ?_
    | refine CondP.yes (by omega) ?_ | refine CondP.no (by omega) ?_ | refine CondP.mk (fun h => ?_) (fun h => ?_) | refine EqP.mk rfl ?_ | refine NewP.mk (fun ad => ?_) | refine ArP.exact (by simp only [inR]; omega) ?_ | refine SideP.mk (by first | omega | (dsimp only; omega) | (simp; omega)) ?_
    | refine NewB.mk (fun ad c => ?_)
    | fail
  refine J_loop (α := Nat) (fun i => [(10, .c (.i .i64 i)), (9, lenV l.length), (8, .c (.sl (some ⟨ad, 0, none⟩) l.length c)), (3, .c (.sl (some ⟨ad, 0, none⟩) l.length c))])
    (fun i => [.row 5 1 (some ⟨ad, 0, none⟩) l.length c ((mixed l i).map byteC)]) (fun _ => []) 0 (fun i => i ≤ l.length) (fun i => l.length - i) (InFam.mk 0 (by omega) ?_ (Ents.of (by simp [mixed]))) (fun i hi => ?_)
  · repeat' first
      | exact SubE.nil | refine SubE.cons rfl ?_ ?_ | exact VEq.refl _ | refine VEq.int (by omega) | refine VEq.sl rfl (by first | rfl | omega | (rw [List.length_append]; rfl) | (simp; omega)) rfl
      | fail
  have hrd : Reads [.row 5 1 (some ⟨ad, 0, none⟩) l.length c ((mixed l i).map byteC)] [] 5 1 (some ⟨ad, 0, none⟩) l.length ((mixed l i).map byteC) := .inl ⟨c, by simp⟩
  by_cases hlt : i < l.length
  · have hb := (l[i]).toNat_lt
    have hg := mixed_get hlt
    repeat' first
      | refine J_seq ?_ | refine J_region Tryz.tyOK ?_ | refine J_block ?_ | refine J_cond ?_ | refine J_ret ?_ | refine J_skip ?_ | refine J_exit ?_ | refine J_scope ?_
      | refine CondP.yes (by omega) ?_ | refine CondP.no (by omega) ?_ | refine CondP.mk (fun h => ?_) (fun h => ?_) | refine EqP.mk rfl ?_ | refine NewP.mk (fun ad => ?_) | refine ArP.exact (by simp only [inR]; omega) ?_ | refine SideP.mk (by first | omega | (dsimp only; omega) | (simp; omega)) ?_
      | refine IdxE.mk 5 1 _ hrd (by omega) (by omega) ?_ | refine LoadE.mk 5 _ _ [byteC l[i]] hrd (by omega) (by omega) (by omega) (by simp [hg]) ?_ | (exfalso; omega)
      | fail
    · refine StoreE.mk [] [] 5 _ c _ ((mixed l (i + 1)).map byteC) rfl (by omega) (by omega) (by simp) ?_ ?_
      · rw [← mixed_succ hlt, List.map_set, ← setC_one (by simp [mixed_len hi, hlt]), byteC, lowB_yes (by assumption) (by assumption)]
        simp
      · repeat' first
          | refine J_seq ?_ | refine J_region Tryz.tyOK ?_ | refine J_block ?_ | refine J_cond ?_ | refine J_ret ?_ | refine J_skip ?_ | refine J_exit ?_ | refine J_scope ?_
          | refine CondP.yes (by omega) ?_ | refine CondP.no (by omega) ?_ | refine CondP.mk (fun h => ?_) (fun h => ?_) | refine EqP.mk rfl ?_ | refine NewP.mk (fun ad => ?_) | refine ArP.exact (by simp only [inR]; omega) ?_ | refine SideP.mk (by first | omega | (dsimp only; omega) | (simp; omega)) ?_
          | fail
        refine Round.mk (i + 1) (by omega) (by omega) ?_ (Ents.refl _ _)
        repeat' first
          | exact SubE.nil | refine SubE.cons rfl ?_ ?_ | exact VEq.refl _ | refine VEq.int (by omega) | refine VEq.sl rfl (by first | rfl | omega | (rw [List.length_append]; rfl) | (simp; omega)) rfl
          | fail
    all_goals
      refine Round.mk (i + 1) (by omega) (by omega) ?_ (Ents.of (by rw [mixed_same hlt (lowB_no (by omega))]))
      repeat' first
        | exact SubE.nil | refine SubE.cons rfl ?_ ?_ | exact VEq.refl _ | refine VEq.int (by omega) | refine VEq.sl rfl (by first | rfl | omega | (rw [List.length_append]; rfl) | (simp; omega)) rfl
        | fail
  · have hil : i = l.length := by omega
    subst hil
    repeat' first
      | refine J_seq ?_ | refine J_region Tryz.tyOK ?_ | refine J_block ?_ | refine J_cond ?_ | refine J_ret ?_ | refine J_skip ?_ | refine J_exit ?_ | refine J_scope ?_
      | refine CondP.yes (by omega) ?_ | refine CondP.no (by omega) ?_ | refine CondP.mk (fun h => ?_) (fun h => ?_) | refine EqP.mk rfl ?_ | refine NewP.mk (fun ad => ?_) | refine ArP.exact (by simp only [inR]; omega) ?_ | refine SideP.mk (by first | omega | (dsimp only; omega) | (simp; omega)) ?_
      | (exfalso; omega)
      | fail
    refine BytesE.mk 5 (l.map lowB) ?_ ?_
    · have : mixed l l.length = l.map lowB := by simp [mixed]
      rw [← this]; exact hrd
    · repeat' first
        | refine J_seq ?_ | refine J_region Tryz.tyOK ?_ | refine J_block ?_ | refine J_cond ?_ | refine J_ret ?_ | refine J_skip ?_ | refine J_exit ?_ | refine J_scope ?_
        | refine CondP.yes (by omega) ?_ | refine CondP.no (by omega) ?_ | refine CondP.mk (fun h => ?_) (fun h => ?_) | refine EqP.mk rfl ?_ | refine NewP.mk (fun ad => ?_) | refine ArP.exact (by simp only [inR]; omega) ?_ | refine SideP.mk (by first | omega | (dsimp only; omega) | (simp; omega)) ?_
        | exact FinE.is rfl
        | fail

theorem spaces_ok : FnS Tryz.prog 81 [] [] [] (Is (.agg [.s [], .s (spName 1), .s (spName 2), .s (spName 3), .s (spName 4), .s (spName 5)])) := by
  refine fn_of_J Tryz.tyOK 0 Tryz.func81 (by kernel_rfl) (c := Tryz.f81.body.getD .skip) (by kernel_rfl) Tryz.ntmps81 (rs := Tryz.f81.results.toList) rfl (by simp) (fun G => ?_)
  repeat' first
    | refine J_seq ?_ | refine J_region Tryz.tyOK ?_ | refine J_block ?_ | refine J_cond ?_ | refine J_ret ?_ | refine J_skip ?_ | refine J_exit ?_ | refine J_scope ?_
    | refine CondP.yes (by omega) ?_ | refine CondP.no (by omega) ?_ | refine CondP.mk (fun h => ?_) (fun h => ?_) | refine EqP.mk rfl ?_ | refine NewP.mk (fun ad => ?_) | refine ArP.exact (by simp only [inR]; omega) ?_ | refine SideP.mk (by first | omega | (dsimp only; omega) | (simp; omega)) ?_
    | exact FinE.is rfl
    | fail

theorem prefix_ok (s : List UInt8) (hs : s.length ≤ 1000000) : FnS Tryz.prog 119 [.c (.s s)] [] [gInt 0]
    (Is (.t3 (.c (.i .i64 (colonNo s))) (.c (.s (if colonNo s = 0 then [] else behind s))) (.c (.b (decide (colonNo s ≠ 0)))))) := by
  have h1 := cutAt_len1 58 s
  have h2 := trimSuffix_le (cutAt 58 s).1 [32]
  cases hc : (cutAt 58 s).2.2 with
  | false =>
    have e : colonNo s = 0 := by simp [colonNo, hc]
    refine fn_of_J Tryz.tyOK 0 Tryz.func119 (by kernel_rfl) (c := Tryz.f119.body.getD .skip) (by kernel_rfl) Tryz.ntmps119 (rs := Tryz.f119.results.toList) rfl (by simp) (fun G => ?_)
    repeat' first
      | refine J_seq ?_ | refine J_region Tryz.tyOK ?_ | refine J_block ?_ | refine J_cond ?_ | refine J_ret ?_ | refine J_skip ?_ | refine J_exit ?_ | refine J_scope ?_
      | refine CondP.yes (by omega) ?_ | refine CondP.no (by omega) ?_ | refine CondP.mk (fun h => ?_) (fun h => ?_) | refine EqP.mk rfl ?_ | refine NewP.mk (fun ad => ?_) | refine ArP.exact (by simp only [inR]; omega) ?_ | refine SideP.mk (by first | omega | (dsimp only; omega) | (simp; omega)) ?_
      | refine CallP.is (cutOne_ok s 58 (by omega)) ?_ | rw [hc]
      | fail
    refine FinE.is ?_
    simp only [e]; rfl
  | true =>
    have e : colonNo s = spaceNo (Lib.trimSuffix (cutAt 58 s).1 [32]) := by simp [colonNo, hc]
    refine fn_of_J Tryz.tyOK 0 Tryz.func119 (by kernel_rfl) (c := Tryz.f119.body.getD .skip) (by kernel_rfl) Tryz.ntmps119 (rs := Tryz.f119.results.toList) rfl (by simp) (fun G => ?_)
    repeat' first
      | refine J_seq ?_ | refine J_region Tryz.tyOK ?_ | refine J_block ?_ | refine J_cond ?_ | refine J_ret ?_ | refine J_skip ?_ | refine J_exit ?_ | refine J_scope ?_
      | refine CondP.yes (by omega) ?_ | refine CondP.no (by omega) ?_ | refine CondP.mk (fun h => ?_) (fun h => ?_) | refine EqP.mk rfl ?_ | refine NewP.mk (fun ad => ?_) | refine ArP.exact (by simp only [inR]; omega) ?_ | refine SideP.mk (by first | omega | (dsimp only; omega) | (simp; omega)) ?_
      | refine CallP.is (cutOne_ok s 58 (by omega)) ?_ | rw [hc] | refine CallP.is (trimSuffix_ok _ [32] (by omega)) ?_ | refine CallP.is (fold_ok _ (Nat.le_trans h2 (Nat.le_trans h1 hs))) ?_ | refine CallP.is (fold_ok _ (by decide)) ?_ | refine CallP.is spaces_ok ?_ | refine J_rounds 7 ?_ | refine JR_succ ?_ | refine IdxA.mk _ (by omega) (by omega) rfl rfl ?_ | refine FinE.is ?_
      | fail
    all_goals
      have hk := e
      unfold spaceNo at hk
      repeat (first | rw [if_pos (by assumption)] at hk | rw [if_neg (by assumption)] at hk)
      simp only [hk]
      rfl

def pv (s : List UInt8) (i : Nat) : Bool := decide (0 < (i : Int)) && decide (((s.getD ((i : Int) - 1).toNat 0).toNat : Int) = 32)
theorem drop_getD {s : List UInt8} {i : Nat} (h : i < s.length) : s.drop i = s.getD i 0 :: s.drop (i + 1) := by
  rw [List.drop_eq_getElem_cons h]; simp [h]
theorem clean_step {s : List UInt8} {i : Nat} (h : i < s.length) :
    cleanB (pv s i) (s.drop i) = (!badB (s.getD i 0) && !(pv s i && decide (((s.getD i 0).toNat : Int) = 32)) && cleanB (pv s (i + 1)) (s.drop (i + 1))) := by
  have e : pv s (i + 1) = ((s.getD i 0).toNat == 32) := by
    have h1 : (((i + 1 : Nat) : Int) - 1).toNat = i := by omega
    have h2 : (0 : Int) < ((i + 1 : Nat) : Int) := by omega
    unfold pv
    rw [h1, decide_eq_true h2, Bool.true_and]
    rw [Bool.eq_iff_iff]; simp; omega
  have e2 : decide (((s.getD i 0).toNat : Int) = 32) = ((s.getD i 0).toNat == 32) := by rw [Bool.eq_iff_iff]; simp; omega
  rw [drop_getD h, cleanB, e, e2]

theorem clean_ok (s : List UInt8) (hs : s.length ≤ 1000000) : FnS Tryz.prog 117 [.c (.s s)] [] [] (Is (.c (.b (cleanB false s)))) := by
  refine fn_of_J Tryz.tyOK 0 Tryz.func117 (by kernel_rfl) (c := Tryz.f117.body.getD .skip) (by kernel_rfl) Tryz.ntmps117 (rs := Tryz.f117.results.toList) rfl (by simp) (fun G => ?_)
  repeat' first
    | refine J_seq ?_ | refine J_region Tryz.tyOK ?_ | refine J_block ?_ | refine J_cond ?_ | refine J_ret ?_ | refine J_skip ?_ | refine J_exit ?_ | refine J_scope ?_
    | refine CondP.yes (by omega) ?_ | refine CondP.no (by omega) ?_ | refine CondP.mk (fun h => ?_) (fun h => ?_) | refine EqP.mk rfl ?_ | refine NewP.mk (fun ad => ?_) | refine ArP.exact (by simp only [inR]; omega) ?_ | refine SideP.mk (by first | omega | (dsimp only; omega) | (simp; omega)) ?_
    | fail
  refine J_loop (α := Nat) (fun i => [(0, .c (.s s)), (3, .c (.i .i64 i))]) (fun _ => []) (fun _ => []) 0 (fun i => i ≤ s.length ∧ cleanB false s = cleanB (pv s i) (s.drop i)) (fun i => s.length - i)
    (InFam.mk 0 ⟨by omega, by simp [pv]⟩ ?_ (Ents.refl _ _)) (fun i hi => ?_)
  · repeat' first
      | exact SubE.nil | refine SubE.cons rfl ?_ ?_ | exact VEq.refl _ | refine VEq.int (by omega) | refine VEq.sl rfl (by first | rfl | omega | (rw [List.length_append]; rfl) | (simp; omega)) rfl
      | fail
  obtain ⟨hi, hcl⟩ := hi
  by_cases hlt : i < s.length
  · have hst := clean_step hlt
    have hb := (s.getD i 0).toNat_lt
    repeat' first
      | refine J_seq ?_ | refine J_region Tryz.tyOK ?_ | refine J_block ?_ | refine J_cond ?_ | refine J_ret ?_ | refine J_skip ?_ | refine J_exit ?_ | refine J_scope ?_
      | refine CondP.yes (by omega) ?_ | refine CondP.no (by omega) ?_ | refine CondP.mk (fun h => ?_) (fun h => ?_) | refine EqP.mk rfl ?_ | refine NewP.mk (fun ad => ?_) | refine ArP.exact (by simp only [inR]; omega) ?_ | refine SideP.mk (by first | omega | (dsimp only; omega) | (simp; omega)) ?_
      | refine CallP.is (indexByte_ok [60, 62, 91, 93, 123, 125, 124, 35, 95] (s.getD i 0)) ?_ | refine FinE.bool ?_ | refine Round.mk (i + 1) (by omega) ⟨by omega, ?_⟩ (by repeat' first | exact SubE.nil | refine SubE.cons rfl ?_ ?_ | exact VEq.refl _ | refine VEq.int (by omega) | refine VEq.sl rfl (by first | rfl | omega | (rw [List.length_append]; rfl) | (simp; omega)) rfl) (Ents.refl _ _)
      | fail
    all_goals simp only [Int.toNat_natCast] at *
    all_goals rw [hcl, hst]
    all_goals (clear hcl hst; (try simp only [Int.toNat_natCast, Int.toNat_zero] at *); simp only [badB, pv, *, decide_true, decide_false, Bool.true_and, Bool.false_and, Bool.and_true, Bool.and_false, Bool.not_true, Bool.not_false, Bool.true_or, Bool.false_or, Bool.or_true, Bool.or_false, not_true, not_false_eq_true, ne_eq, if_true, if_false, Bool.false_eq_true]; try rfl)
  · have hil : i = s.length := by omega
    subst hil
    repeat' first
      | refine J_seq ?_ | refine J_region Tryz.tyOK ?_ | refine J_block ?_ | refine J_cond ?_ | refine J_ret ?_ | refine J_skip ?_ | refine J_exit ?_ | refine J_scope ?_
      | refine CondP.yes (by omega) ?_ | refine CondP.no (by omega) ?_ | refine CondP.mk (fun h => ?_) (fun h => ?_) | refine EqP.mk rfl ?_ | refine NewP.mk (fun ad => ?_) | refine ArP.exact (by simp only [inR]; omega) ?_ | refine SideP.mk (by first | omega | (dsimp only; omega) | (simp; omega)) ?_
      | refine FinE.bool ?_
      | fail
    rw [hcl]; simp [cleanB]

end Go.Proofs

namespace Go.Proofs
open Go Go.X
set_option maxRecDepth 100000

theorem valid_ok (sp : Int) (s : List UInt8) (hs : s.length ≤ 1000000) : FnS Tryz.prog 80 [.agg [.i .i64 sp, .s s]] [] [gInt 0] (Is (.c (.b (validT sp s)))) := by
  refine fn_of_J Tryz.tyOK 0 Tryz.func80 (by kernel_rfl) (c := Tryz.f80.body.getD .skip) (by kernel_rfl) Tryz.ntmps80 (rs := Tryz.f80.results.toList) rfl (by simp) (fun G => ?_)
  cases hcl : cleanB false s
  · repeat' first
      | refine J_seq ?_ | refine J_region Tryz.tyOK ?_ | refine J_block ?_ | refine J_cond ?_ | refine J_ret ?_ | refine J_skip ?_ | refine J_exit ?_ | refine J_scope ?_
      | refine CondP.yes (by omega) ?_ | refine CondP.no (by omega) ?_ | refine CondP.mk (fun h => ?_) (fun h => ?_) | refine EqP.mk rfl ?_ | refine NewP.mk (fun ad => ?_) | refine ArP.exact (by simp only [inR]; omega) ?_ | refine SideP.mk (by first | omega | (dsimp only; omega) | (simp; omega)) ?_
      | refine CallP.is (clean_ok s hs) ?_ | rw [hcl] | refine FinE.bool ?_
      | fail
    all_goals ((try simp only [Int.toNat_natCast, Int.toNat_zero] at *); simp only [validT, *, decide_true, decide_false, Bool.true_and, Bool.false_and, Bool.and_true, Bool.and_false, Bool.not_true, Bool.not_false, Bool.true_or, Bool.false_or, Bool.or_true, Bool.or_false, not_true, not_false_eq_true, ne_eq, if_true, if_false, Bool.false_eq_true]; try rfl)
  · repeat' first
      | refine J_seq ?_ | refine J_region Tryz.tyOK ?_ | refine J_block ?_ | refine J_cond ?_ | refine J_ret ?_ | refine J_skip ?_ | refine J_exit ?_ | refine J_scope ?_
      | refine CondP.yes (by omega) ?_ | refine CondP.no (by omega) ?_ | refine CondP.mk (fun h => ?_) (fun h => ?_) | refine EqP.mk rfl ?_ | refine NewP.mk (fun ad => ?_) | refine ArP.exact (by simp only [inR]; omega) ?_ | refine SideP.mk (by first | omega | (dsimp only; omega) | (simp; omega)) ?_
      | refine CallP.is (clean_ok s hs) ?_ | rw [hcl] | refine FinE.bool ?_ | refine CallP.mk [] _ _ _ (splitOne_ok s 47 (by omega)) (List.Perm.refl _) (fun _ h => h) (fun v L' D' hp => ?_); obtain ⟨g, rfl, rfl, rfl⟩ := hp
      | fail
    rotate_right
    · refine J_loop (α := Nat) (fun i => [(37, .c (.i .i64 i)), (36, lenV (splitOn 47 s).length), (35, .c (.sl (some ⟨g, 0, none⟩) (splitOn 47 s).length (splitOn 47 s).length)), (3, .c (.s s)), (1, .c (.p 0 ad 0))])
        (fun _ => [.box 0 ad 23 [.i .i64 sp, .s s]]) (fun _ => [slFact 9 1 (some ⟨g, 0, none⟩) (splitOn 47 s).length ((splitOn 47 s).map C.s), gInt 0]) 1
        (fun i => i ≤ (splitOn 47 s).length ∧ (splitOn 47 s).all pieceOK = ((splitOn 47 s).drop i).all pieceOK) (fun i => (splitOn 47 s).length - i)
        (InFam.mk 0 ⟨by omega, rfl⟩ (by repeat' first | exact SubE.nil | refine SubE.cons rfl ?_ ?_ | exact VEq.refl _ | refine VEq.int (by omega) | refine VEq.sl rfl (by first | rfl | omega | (rw [List.length_append]; rfl) | (simp; omega)) rfl) Ents.toFact) (fun i hi => ?_)
      obtain ⟨hi, hal⟩ := hi
      have hsl := splitOn_length_le 47 s
      by_cases hlt : i < (splitOn 47 s).length
      · have hrd : Reads [.box 0 ad 23 [.i .i64 sp, .s s]] [slFact 9 1 (some ⟨g, 0, none⟩) (splitOn 47 s).length ((splitOn 47 s).map C.s), gInt 0] 9 1 (some ⟨g, 0, none⟩) (splitOn 47 s).length ((splitOn 47 s).map C.s) :=
          .inr fun m h => h.1
        rw [List.drop_eq_getElem_cons hlt, List.all_cons] at hal
        have hpl := mem_splitOn_le 47 s _ (List.getElem_mem hlt)
        repeat' first
          | refine J_seq ?_ | refine J_region Tryz.tyOK ?_ | refine J_block ?_ | refine J_cond ?_ | refine J_ret ?_ | refine J_skip ?_ | refine J_exit ?_ | refine J_scope ?_
          | refine CondP.yes (by omega) ?_ | refine CondP.no (by omega) ?_ | refine CondP.mk (fun h => ?_) (fun h => ?_) | refine EqP.mk rfl ?_ | refine NewP.mk (fun ad => ?_) | refine ArP.exact (by simp only [inR]; omega) ?_ | refine SideP.mk (by first | omega | (dsimp only; omega) | (simp; omega)) ?_
          | refine IdxE.mk 9 1 _ hrd (by omega) (by omega) ?_ | refine LoadE.mk 9 _ _ [C.s (splitOn 47 s)[i]] hrd (by omega) (by omega) (by omega) (map_take1 hlt) ?_ | refine SideP.mk (by have := pos_of_ne ‹¬ (splitOn 47 s)[i] = []›; omega) ?_ | refine FinE.bool ?_ | refine Round.mk (i + 1) (by omega) ⟨by omega, ?_⟩ (by repeat' first | exact SubE.nil | refine SubE.cons rfl ?_ ?_ | exact VEq.refl _ | refine VEq.int (by omega) | refine VEq.sl rfl (by first | rfl | omega | (rw [List.length_append]; rfl) | (simp; omega)) rfl) (Ents.refl _ _)
          | fail
        all_goals ((try simp only [Int.toNat_natCast, Int.toNat_zero] at *); simp only [validT, pieceOK, *, decide_true, decide_false, Bool.true_and, Bool.false_and, Bool.and_true, Bool.and_false, Bool.not_true, Bool.not_false, Bool.true_or, Bool.false_or, Bool.or_true, Bool.or_false, not_true, not_false_eq_true, ne_eq, if_true, if_false, Bool.false_eq_true]; try rfl)
      · have hil : i = (splitOn 47 s).length := by omega
        subst hil
        simp only [List.drop_length, List.all_nil] at hal
        have e : ∀ b : Bool, b = (headOK s && (!decide (sp = 0) || !decide (colonNo s ≠ 0))) → validT sp s = b := by
          rintro b rfl
          (try simp only [Int.toNat_natCast, Int.toNat_zero] at *); simp only [validT, *, decide_true, decide_false, Bool.true_and, Bool.false_and, Bool.and_true, Bool.and_false, Bool.not_true, Bool.not_false, Bool.true_or, Bool.false_or, Bool.or_true, Bool.or_false, not_true, not_false_eq_true, ne_eq, if_true, if_false, Bool.false_eq_true]
        cases hn : decide (colonNo s ≠ 0) <;>
        (rw [hn] at e
         repeat' first
           | refine J_seq ?_ | refine J_region Tryz.tyOK ?_ | refine J_block ?_ | refine J_cond ?_ | refine J_ret ?_ | refine J_skip ?_ | refine J_exit ?_ | refine J_scope ?_
           | refine CondP.yes (by omega) ?_ | refine CondP.no (by omega) ?_ | refine CondP.mk (fun h => ?_) (fun h => ?_) | refine EqP.mk rfl ?_ | refine NewP.mk (fun ad => ?_) | refine ArP.exact (by simp only [inR]; omega) ?_ | refine SideP.mk (by first | omega | (dsimp only; omega) | (simp; omega)) ?_
           | refine FinE.bool (e _ ?_) | refine CallP.is (prefix_ok s hs) ?_ | rw [hn]
           | fail
         all_goals (clear e; (try simp only [Int.toNat_natCast, Int.toNat_zero] at *); simp only [headOK, *, decide_true, decide_false, Bool.true_and, Bool.false_and, Bool.and_true, Bool.and_false, Bool.not_true, Bool.not_false, Bool.true_or, Bool.false_or, Bool.or_true, Bool.or_false, not_true, not_false_eq_true, ne_eq, if_true, if_false, Bool.false_eq_true]; try rfl))
    all_goals ((try simp only [Int.toNat_natCast, Int.toNat_zero] at *); simp only [validT, *, decide_true, decide_false, Bool.true_and, Bool.false_and, Bool.and_true, Bool.and_false, Bool.not_true, Bool.not_false, Bool.true_or, Bool.false_or, Bool.or_true, Bool.or_false, not_true, not_false_eq_true, ne_eq, if_true, if_false, Bool.false_eq_true]; try rfl)

end Go.Proofs

namespace Go.Proofs
open Go Go.X
set_option maxRecDepth 100000

end Go.Proofs

namespace Go.Proofs
open Go Go.X
set_option maxRecDepth 100000

def titleV (sp : Int) (s : List UInt8) : V := .agg [.i .i64 sp, .s s]
def parseV (r : Int × List UInt8 × Int) : V := .t2 (.agg [.i .i64 r.1, .s r.2.1]) (.c (.i .i64 r.2.2))

theorem up_byte {x : UInt8} (h : 97 ≤ (x.toNat : Int)) : [C.i .u8 ((x.toNat : Int) - 32)] = [x - 32].map byteC := by
  have : (x - 32).toNat = x.toNat - 32 := by
    rw [UInt8.toNat_sub_of_le]
    · rfl
    · rw [UInt8.le_iff_toNat_le]; simp; omega
  simp only [List.map_cons, List.map_nil, byteC, this]
  congr 2
  omega

end Go.Proofs

namespace Go.Proofs
open Go Go.X
set_option maxRecDepth 100000

theorem spName_idx {sp : Int} (h0 : 0 ≤ sp) (h1 : sp < 6) : ([C.s [], .s (spName 1), .s (spName 2), .s (spName 3), .s (spName 4), .s (spName 5)].drop (sp.toNat * 1)).take 1 = [C.s (spName sp.toNat)] := by
  rcases (by omega : sp = 0 ∨ sp = 1 ∨ sp = 2 ∨ sp = 3 ∨ sp = 4 ∨ sp = 5) with rfl | rfl | rfl | rfl | rfl | rfl <;> rfl

theorem format_ok (sp : Int) (s : List UInt8) (hs : s.length ≤ 1000000) : FnS Tryz.prog 40 [.agg [.i .i64 sp, .s s]] [] [gInt 0] (Is (.c (.s (formatT sp s)))) := by
  have hb := @validT_bounds sp s
  have hn := spName_le sp.toNat
  refine fn_of_J Tryz.tyOK 0 Tryz.func40 (by kernel_rfl) (c := Tryz.f40.body.getD .skip) (by kernel_rfl) Tryz.ntmps40 (rs := Tryz.f40.results.toList) rfl (by simp) (fun G => ?_)
  repeat' first
    | refine J_seq ?_ | refine J_region Tryz.tyOK ?_ | refine J_block ?_ | refine J_cond ?_ | refine J_ret ?_ | refine J_skip ?_ | refine J_exit ?_ | refine J_scope ?_
    | refine CondP.yes (by omega) ?_ | refine CondP.no (by omega) ?_ | refine CondP.mk (fun h => ?_) (fun h => ?_) | refine EqP.mk rfl ?_ | refine NewP.mk (fun ad => ?_) | refine ArP.exact (by simp only [inR]; omega) ?_ | refine SideP.mk (by first | omega | (dsimp only; omega) | (simp; omega)) ?_
    | refine CallP.isB (valid_ok sp s hs) (fun hv => ?_) (fun hv => ?_) | refine FinE.str ?_ | refine J_draw Tryz.tyOK (by kernel_rfl) [0, 1, 2, 3, 4, 5, 6, 7, 8] [] _ _ (by kernel_rfl) (Ents.refl _ _) ?_ | refine CallQ.mk [] _ spaces_ok (fun _ _ => trivial) ?_ | refine IdxA.mk [C.s (spName sp.toNat)] (by have := hb hv; omega) (by have := hb hv; omega) (spName_idx (by have := hb hv; omega) (by have := hb hv; omega)) rfl ?_ | refine SideP.mk (by have := hb hv; simp; omega) ?_
    | fail
  all_goals
    unfold formatT
    repeat (first | rw [if_pos (by assumption)] | rw [if_neg (by assumption)] | rw [if_neg (by simp [*])])
    try rfl

theorem or_ok (a : Option Addr) (c : Nat) (x y : Int) : FnS Tryz.prog 107 [.c (.sl a 2 c)] [.row 3 1 a 2 c [.i .i64 x, .i .i64 y]] [] (Is (.c (.i .i64 (if x ≠ 0 then x else y)))) := by
  have hrd : Reads [.row 3 1 a 2 c [.i .i64 x, .i .i64 y]] [] 3 1 a 2 [.i .i64 x, .i .i64 y] := .inl ⟨c, List.Mem.head _⟩
  refine fn_of_J Tryz.tyOK 0 Tryz.func107 (by kernel_rfl) (c := Tryz.f107.body.getD .skip) (by kernel_rfl) Tryz.ntmps107 (rs := Tryz.f107.results.toList) rfl (by simp) (fun G => ?_)
  repeat' first
    | refine J_seq ?_ | refine J_region Tryz.tyOK ?_ | refine J_block ?_ | refine J_cond ?_ | refine J_ret ?_ | refine J_skip ?_ | refine J_exit ?_ | refine J_scope ?_
    | refine CondP.yes (by omega) ?_ | refine CondP.no (by omega) ?_ | refine CondP.mk (fun h => ?_) (fun h => ?_) | refine EqP.mk rfl ?_ | refine NewP.mk (fun ad => ?_) | refine ArP.exact (by simp only [inR]; omega) ?_ | refine SideP.mk (by first | omega | (dsimp only; omega) | (simp; omega)) ?_
    | refine J_rounds 3 ?_ | refine JR_succ ?_ | refine IdxE.mk 3 1 _ hrd (by omega) (by omega) ?_ | refine LoadE.mk 3 _ _ _ hrd (by omega) (by omega) (by omega) rfl ?_ | refine FinE.int ?_
    | fail
  all_goals simp [*]

theorem compare_ok (a : Int) (x : List UInt8) (b : Int) (y : List UInt8) : FnS Tryz.prog 73 [.agg [.i .i64 a, .s x], .agg [.i .i64 b, .s y]] [] [] (Is (.c (.i .i64 (compareT a x b y)))) := by
  refine fn_of_J Tryz.tyOK 0 Tryz.func73 (by kernel_rfl) (c := Tryz.f73.body.getD .skip) (by kernel_rfl) Tryz.ntmps73 (rs := Tryz.f73.results.toList) rfl (by simp) (fun G => ?_)
  repeat' first
    | refine J_seq ?_ | refine J_region Tryz.tyOK ?_ | refine J_block ?_ | refine J_cond ?_ | refine J_ret ?_ | refine J_skip ?_ | refine J_exit ?_ | refine J_scope ?_
    | refine CondP.yes (by omega) ?_ | refine CondP.no (by omega) ?_ | refine CondP.mk (fun h => ?_) (fun h => ?_) | refine EqP.mk rfl ?_ | refine NewP.mk (fun ad => ?_) | refine ArP.exact (by simp only [inR]; omega) ?_ | refine SideP.mk (by first | omega | (dsimp only; omega) | (simp; omega)) ?_
    | refine J_draw Tryz.tyOK (by kernel_rfl) [0, 1, 2, 3, 4, 5, 6, 7, 8, 9, 10, 11, 12] [10, 11] _ _ (by kernel_rfl) (Ents.refl _ _) ?_ | refine CallQ.mk [] _ (compareInt_ok a b) (fun _ _ => trivial) ?_ | refine CallQ.mk [] _ (stringsCompare_ok x y) (fun _ _ => trivial) ?_ | refine CallP.mk [_] _ [] _ (or_ok _ _ _ _) (List.Perm.refl _) (fun _ h => h) (fun v L' D' hp => ?_); obtain ⟨rfl, rfl, rfl⟩ := hp | refine EntP.mk (Ents.refl _ _) ?_ | refine EntP.mk Ents.drop ?_ | refine FinE.int ?_
    | fail
  rfl

end Go.Proofs

namespace Go.Proofs
open Go Go.X
set_option maxRecDepth 100000

theorem shr4 (y : UInt8) : ((y.toNat : Int).fdiv (2 ^ min (Int.toNat 4) IntKind.u8.bits)) = ((y.toNat / 16 : Nat) : Int) := by
  show (y.toNat : Int).fdiv 16 = _
  rw [Int.fdiv_eq_ediv_of_nonneg _ (by decide)]
  omega
theorem and15_all : ∀ n : Fin 256, bitsV .and .u8 ((n.val : Nat) : Int) 15 = ((n.val % 16 : Nat) : Int) := by decide
theorem and15 (y : UInt8) : bitsV .and .u8 (y.toNat : Int) 15 = ((y.toNat % 16 : Nat) : Int) := and15_all ⟨y.toNat, y.toNat_lt⟩

set_option maxHeartbeats 1000000 in
theorem path_ok (sp : Int) (nm : List UInt8) (hn : nm.length ≤ 1000000) : FnS Tryz.prog 16 [.agg [.i .i64 sp, .s nm]] [] [gInt 0] (Is (.c (.s (pathT sp nm)))) := by
  have hfl := formatT_le sp nm
  have hf := format_ok sp nm hn
  unfold pathT
  generalize formatT sp nm = s at *
  refine fn_of_J Tryz.tyOK 0 Tryz.func16 (by kernel_rfl) (c := Tryz.f16.body.getD .skip) (by kernel_rfl) Tryz.ntmps16 (rs := Tryz.f16.results.toList) rfl (by simp) (fun G => ?_)
  repeat' first
    | refine J_seq ?_ | refine J_region Tryz.tyOK ?_ | refine J_block ?_ | refine J_cond ?_ | refine J_ret ?_ | refine J_skip ?_ | refine J_exit ?_ | refine J_scope ?_
    | refine CondP.yes (by omega) ?_ | refine CondP.no (by omega) ?_ | refine CondP.mk (fun h => ?_) (fun h => ?_) | refine EqP.mk rfl ?_ | refine NewP.mk (fun ad => ?_) | refine ArP.exact (by simp only [inR]; omega) ?_ | refine SideP.mk (by first | omega | (dsimp only; omega) | (simp; omega)) ?_
    | refine CallP.is hf ?_ | (refine CallP.mk [_] [_] [] _ (bwString_ok 1 _ _ none 0 [] wikiS [] bty0 (by decide) (by decide)) (List.Perm.refl _) (fun _ _ => trivial) (fun v L' D' hp => ?_); obtain ⟨a0, c0, rfl, rfl, rfl⟩ := hp) | refine NewB.mk (fun ad2 c2 => ?_)
    | fail
  refine J_loop (α := Nat × List UInt8 × Option Addr × Nat) (fun x => [(3, .c (.p 1 ad 0)), (9, .c (.sl (some ⟨ad2, 0, none⟩) s.length c2)), (10, lenV s.length), (11, .c (.i .i64 x.1))])
    (fun x => bw 1 ad 66 x.2.2.1 x.2.2.2 x.2.1 []) (fun _ => [slFact 5 1 (some ⟨ad2, 0, none⟩) s.length (s.map byteC)]) 7000 (fun x => x.1 ≤ s.length ∧ x.2.1 = wikiS ++ pathS (s.take x.1)) (fun x => s.length - x.1)
    (InFam.mk (0, wikiS, a0, c0) ⟨Nat.zero_le _, rfl⟩ (by repeat' first | exact SubE.nil | refine SubE.cons rfl ?_ ?_ | exact VEq.refl _ | refine VEq.int (by omega) | refine VEq.sl rfl (by first | rfl | omega | (rw [List.length_append]; rfl) | (simp; omega)) rfl) (Ents.toFact.trans ((Ents.sub ⟨_, List.perm_append_comm⟩).trans (Ents.facts fun _ h => ⟨h.1, trivial⟩)))) (fun x hx => ?_)
  obtain ⟨i, o, a, c⟩ := x
  obtain ⟨hi, ho⟩ := hx
  dsimp only at hi ho ⊢
  by_cases hlt : i < s.length
  · have hst : wikiS ++ pathS (s.take (i + 1)) = o ++ pathB s[i] := by rw [pathS_take_succ hlt, ho, List.append_assoc]
    have hol : o.length ≤ 6 + 3 * 109 := by
      have := pathS_le (s.take i)
      rw [ho, List.length_append]
      simp only [List.length_take] at this
      have : wikiS.length = 6 := rfl
      omega
    have hrd : ∀ L, Reads L [slFact 5 1 (some ⟨ad2, 0, none⟩) s.length (s.map byteC)] 5 1 (some ⟨ad2, 0, none⟩) s.length (s.map byteC) := fun _ => .inr fun _ h => h.1
    have hld : ((s.map byteC).drop (Int.toNat (i : Int) * 1 + 0)).take 1 = [byteC s[i]] := by
      simp only [Int.toNat_natCast, Nat.mul_one, Nat.add_zero]
      rw [List.drop_eq_getElem_cons (by simpa using hlt)]
      simp
    generalize s[i] = y at *
    have hy := y.toNat_lt
    repeat' first
      | refine J_seq ?_ | refine J_region Tryz.tyOK ?_ | refine J_block ?_ | refine J_cond ?_ | refine J_ret ?_ | refine J_skip ?_ | refine J_exit ?_ | refine J_scope ?_
      | refine CondP.yes (by omega) ?_ | refine CondP.no (by omega) ?_ | refine CondP.mk (fun h => ?_) (fun h => ?_) | refine EqP.mk rfl ?_ | refine NewP.mk (fun ad => ?_) | refine ArP.exact (by simp only [inR]; omega) ?_ | refine SideP.mk (by first | omega | (dsimp only; omega) | (simp; omega)) ?_
      | refine IdxE.mk 5 1 _ (hrd _) (by omega) (by omega) ?_ | refine LoadE.mk 5 s.length _ [byteC y] (hrd _) (by omega) (by omega) (by decide) (by exact hld) ?_ | refine CallP.is (indexByte_ok punctS y) ?_ | refine J_drawU (id := 6) Tryz.tyOK (by kernel_rfl) [0, 1, 3, 0, 8, 24, 63, 127] (.fork [0, 1, 2, 3, 4, 5] (.alt 6 (.leaf [7]) (.stop))) [6, 7] [] 7 false (by kernel_rfl) ?_ | refine TwoP.mk ?_ ?_ | refine GoP.mk (by repeat (first | exact keepC_sub _ _ _ | exact List.Sublist.slnil | refine List.Sublist.cons_cons _ ?_ | refine List.Sublist.cons _ ?_)) (by first | exact fun _ h => h | exact fun _ h => h.2 | exact fun _ h => ((allD_append _ _).1 h).2) ?_ | exact trivial | refine EntP.mk (Ents.ofSub (by repeat (first | exact keepC_sub _ _ _ | exact List.Sublist.slnil | refine List.Sublist.cons_cons _ ?_ | refine List.Sublist.cons _ ?_)) (by first | exact fun _ h => h | exact fun _ _ => trivial | exact fun _ h => h.2 | exact fun _ h => h.2.2.2.2 | exact fun _ h => h.2.2 | exact fun _ h => h.2.2.2 | exact fun _ h => h.2.2.2.2.2 | exact fun _ h => h.2.2.2.2.2.2 | exact fun _ h => h.2.2.2.2.2.2.2 | exact fun _ h => h.2.2.2.2.2.2.2.2 | exact fun _ h => h.2.2.2.2.2.2.2.2.2 | exact fun _ h => h.2.2.2.2.2.2.2.2.2.2 | exact fun _ h => ((allD_append _ _).1 h).2)) ?_ | (refine CallP.mk _ [] [] _ (bwByte_ok 1 _ _ a c o 95 [] bty0 (by omega)) (by simp) (fun _ _ => trivial) (fun v L' D' hp => ?_); obtain ⟨a', c', rfl, rfl, rfl⟩ := hp) | (refine CallP.mk _ [] [] _ (bwByte_ok 1 _ _ a c o y [] bty0 (by omega)) (by simp) (fun _ _ => trivial) (fun v L' D' hp => ?_); obtain ⟨a', c', rfl, rfl, rfl⟩ := hp) | rw [shr4] | rw [and15] | refine SideP.mk (by show _ ∧ _ < (16 : Int); omega) ?_ | refine SideP.mk (by rw [and15]; show _ ∧ _ < (16 : Int); omega) ?_ | (refine CallP.mkE _ [] [_] _ _ (bwWrite_ok 1 _ _ a c o (37 :: hexB y) _ _ [] bty0 (by simp) (by show _ + 3 ≤ _; omega)) (Ents.toFact.trans (Ents.of (List.append_nil _).symm)) (fun _ h => ⟨h.1, trivial⟩) (fun v L' D' hp => ?_); obtain ⟨a', c', rfl, rfl, rfl⟩ := hp) | refine Round.mk (i + 1, o ++ [95], a', c') (by dsimp only; omega) ⟨by dsimp only; omega, pathStep32 hst (by omega)⟩ (by repeat' first | exact SubE.nil | refine SubE.cons rfl ?_ ?_ | exact VEq.refl _ | refine VEq.int (by omega) | refine VEq.sl rfl (by first | rfl | omega | (rw [List.length_append]; rfl) | (simp; omega)) rfl) (Ents.of (List.append_nil _)) | refine Round.mk (i + 1, o ++ [y], a', c') (by dsimp only; omega) ⟨by dsimp only; omega, pathStepK hst (by omega) (by unfold keepP; omega)⟩ (by repeat' first | exact SubE.nil | refine SubE.cons rfl ?_ ?_ | exact VEq.refl _ | refine VEq.int (by omega) | refine VEq.sl rfl (by first | rfl | omega | (rw [List.length_append]; rfl) | (simp; omega)) rfl) (Ents.of (List.append_nil _)) | refine Round.mk (i + 1, o ++ 37 :: hexB y, a', c') (by dsimp only; omega) ⟨by dsimp only; omega, pathStepH hst (by omega) (by unfold keepP; omega)⟩ (by repeat' first | exact SubE.nil | refine SubE.cons rfl ?_ ?_ | exact VEq.refl _ | refine VEq.int (by omega) | refine VEq.sl rfl (by first | rfl | omega | (rw [List.length_append]; rfl) | (simp; omega)) rfl) ((Ents.of (List.append_nil _)).trans (Ents.facts fun _ h => ⟨h.2.1, trivial⟩))
      | fail
  · have hil : i = s.length := by omega
    subst hil
    rw [List.take_length] at ho
    subst ho
    repeat' first
      | refine J_seq ?_ | refine J_region Tryz.tyOK ?_ | refine J_block ?_ | refine J_cond ?_ | refine J_ret ?_ | refine J_skip ?_ | refine J_exit ?_ | refine J_scope ?_
      | refine CondP.yes (by omega) ?_ | refine CondP.no (by omega) ?_ | refine CondP.mk (fun h => ?_) (fun h => ?_) | refine EqP.mk rfl ?_ | refine NewP.mk (fun ad => ?_) | refine ArP.exact (by simp only [inR]; omega) ?_ | refine SideP.mk (by first | omega | (dsimp only; omega) | (simp; omega)) ?_
      | refine CallP.mk _ [] [] _ (bwText_ok 1 _ 66 a c (wikiS ++ pathS s) []) (by simp) (fun _ _ => trivial) (fun v L' D' hp => ?_); obtain ⟨rfl, rfl, rfl⟩ := hp | refine FinE.str rfl
      | fail

end Go.Proofs

namespace Go.Proofs
open Go Go.X
set_option maxRecDepth 100000

theorem blocksPara1 (id ab : Nat) (ba ia : Option Addr) (bc ic : Nat) (s : List UInt8) (hs : s.length ≤ 100000) (mi no : C) :
    FnS Tryz.prog 52 [.c (.p id ab 0), .c (.sl ba 1 bc), .c (.b true)] (bw id ab 87 none 0 [] (wR mi no)) [pgF ba ia ic, txF ia s] (BwPost .t0 id ab 87 (pOpen ++ escT s ++ pEnd) (wR mi no)) :=
  (blocksPara ab ba ia bc ic s hs mi no).same rfl (bw_same _ _ _ _ _ _ _ _) fun v L1 D1 ⟨a', c', h1, h2, h3⟩ => ⟨_, h2 ▸ bw_same 0 id ab _ a' c' _ _, a', c', h1, rfl, h3⟩
theorem noContents1 (id ab : Nat) (mi no : C) : FnS Tryz.prog 51 [.c (.p id ab 0)] (bw id ab 87 none 0 [] (wR mi no)) [] (fun v L D => v = .t0 ∧ L = bw id ab 87 none 0 [] (wR mi no) ∧ D = []) :=
  (noContents ab mi no).same rfl (bw_same _ _ _ _ _ _ _ _) fun v L1 D1 ⟨h1, h2, h3⟩ => ⟨_, h2 ▸ bw_same 0 id ab _ none 0 [] _, h1, rfl, h3⟩
theorem noList1 (id ab : Nat) : FnS Tryz.prog 53 [.c (.p id ab 0), .c (.sl none 0 0)] [] [] (Is .t0) :=
  (noList ab).same rfl ⟨rfl, fun _ => Iff.rfl⟩ fun v L1 D1 h => ⟨L1, ⟨rfl, fun _ => Iff.rfl⟩, h⟩

theorem renderPara (ba ia : Option Addr) (bc ic : Nat) (s : List UInt8) (hs : s.length ≤ 100000) :
    FnS Tryz.prog 20 [.c (.sl ba 1 bc), .c (.sl none 0 0)] [] [pgF ba ia ic, txF ia s] (Is (.c (.s (pOpen ++ escT s ++ pEnd)))) := by
  have hm := marksPara ba ia bc ic s
  refine fn_of_J Tryz.tyOK 0 Tryz.func20 (by kernel_rfl) (c := Tryz.f20.body.getD .skip) (by kernel_rfl) Tryz.ntmps20 (rs := Tryz.f20.results.toList) rfl (by simp) (fun G => ?_)
  repeat' first
    | refine CondP.yes (by decide) ?_ | refine CondP.no (by decide) ?_
    | refine J_seq ?_ | refine J_region Tryz.tyOK ?_ | refine J_block ?_ | refine J_cond ?_ | refine J_ret ?_ | refine J_skip ?_ | refine J_exit ?_ | refine J_scope ?_
    | refine CondP.yes (by omega) ?_ | refine CondP.no (by omega) ?_ | refine CondP.mk (fun h => ?_) (fun h => ?_) | refine EqP.mk rfl ?_ | refine NewP.mk (fun ad => ?_) | refine ArP.exact (by simp only [inR]; omega) ?_ | refine SideP.mk (by first | omega | (dsimp only; omega) | (simp; omega)) ?_
    | refine J_rounds 1 ?_ | refine JR_succ ?_ | refine CallP.is (contentsPara ba ia bc ic s) ?_ | (refine CallP.mk [] _ _ _ hm (List.Perm.refl _) (fun _ h => h) (fun v L' D' hp => ?_); obtain ⟨a1, c1, rfl, rfl, rfl⟩ := hp) | refine CallP.is (notesPara ba ia bc ic s) ?_ | refine SideP.mk (by decide) ?_ | (refine CallP.mk _ [_, _] [] _ (noContents1 _ _ _ _) (List.Perm.refl _) (fun _ _ => trivial) (fun v L' D' hp => ?_); obtain ⟨rfl, rfl, rfl⟩ := hp) | (refine CallP.mk _ [_, _] [pgF ba ia ic, txF ia s] _ (blocksPara1 _ _ ba ia bc ic s hs _ _) (List.Perm.refl _) (fun _ h => h) (fun v L' D' hp => ?_); obtain ⟨a2, c2, rfl, rfl, rfl⟩ := hp) | refine CallP.is (noList1 _ _) ?_ | (refine CallP.mk _ [_, _] [] _ (bwText_ok _ _ 87 a2 c2 (pOpen ++ escT s ++ pEnd) (wR _ _)) (List.Perm.refl _) (fun _ _ => trivial) (fun v L' D' hp => ?_); obtain ⟨rfl, rfl, rfl⟩ := hp) | exact FinE.mk [] [] ⟨rfl, rfl, rfl⟩ (Ents.dropAll.trans (Ents.facts fun _ _ => trivial))
    | fail
  all_goals trace_state

theorem paragraph_ok (s : List UInt8) : FnS Tryz.prog 28 [.c (.s s)] [] [] (fun v L D => ∃ ba ia bc ic, v = .c (.sl ba 1 bc) ∧ L = [] ∧ D = [pgF ba ia ic, txF ia s]) := by
  refine fn_of_J Tryz.tyOK 0 Tryz.func28 (by kernel_rfl) (c := Tryz.f28.body.getD .skip) (by kernel_rfl) Tryz.ntmps28 (rs := Tryz.f28.results.toList) rfl (by simp) (fun G => ?_)
  repeat' first
    | refine J_seq ?_ | refine J_region Tryz.tyOK ?_ | refine J_block ?_ | refine J_cond ?_ | refine J_ret ?_ | refine J_skip ?_ | refine J_exit ?_ | refine J_scope ?_
    | refine CondP.yes (by omega) ?_ | refine CondP.no (by omega) ?_ | refine CondP.mk (fun h => ?_) (fun h => ?_) | refine EqP.mk rfl ?_ | refine NewP.mk (fun ad => ?_) | refine ArP.exact (by simp only [inR]; omega) ?_ | refine SideP.mk (by first | omega | (dsimp only; omega) | (simp; omega)) ?_
    | fail | refine FinE.mk [] [pgF _ _ _, txF _ s] ⟨_, _, _, _, rfl, rfl, rfl⟩ (Ents.toFact.trans (Ents.toFact.trans (Ents.facts fun _ h => ⟨h.2.1, h.1, trivial⟩)))
    | fail
  all_goals trace_state

end Go.Proofs

namespace Go.X

/-- Two strings' escaped forms, each with something behind it, agree only where the first bytes do. -/
theorem escB_inj {a b : UInt8} {x y : List UInt8} (h : escB a ++ x = escB b ++ y) : a = b ∧ x = y := by
  by_cases a1 : a = 38 <;> by_cases b1 : b = 38
  · subst a1 b1; simpa [escB, eAmp] using h
  all_goals by_cases a2 : a = 60 <;> by_cases b2 : b = 60
  all_goals by_cases a3 : a = 62 <;> by_cases b3 : b = 62
  all_goals by_cases a4 : a = 34 <;> by_cases b4 : b = 34
  all_goals simp [escB, eAmp, eLt, eGt, eQuot, a1, b1, a2, b2, a3, b3, a4, b4] at h
  all_goals try (subst_vars; first | (exact absurd rfl (by assumption)) | (simp_all; done))
  all_goals first | (exact ⟨h.1, h.2⟩) | (exact absurd h.1.symm (by assumption)) | (exact absurd h.1 (by assumption)) | simp_all

theorem escT_inj : ∀ {a b : List UInt8}, escT a = escT b → a = b
  | [], [], _ => rfl
  | [], b :: l, h => by
    have h1 := congrArg List.length h
    have h2 := escB_len b
    rw [escT_cons, List.length_append] at h1
    have h3 : (escT []).length = 0 := rfl
    omega
  | a :: k, [], h => by
    have h1 := congrArg List.length h
    have h2 := escB_len a
    rw [escT_cons, List.length_append] at h1
    have h3 : (escT []).length = 0 := rfl
    omega
  | a :: k, b :: l, h => by
    rw [escT_cons, escT_cons] at h
    obtain ⟨h1, h2⟩ := escB_inj h
    rw [h1, escT_inj h2]

theorem escB_safe (b : UInt8) : 60 ∉ escB b ∧ 62 ∉ escB b ∧ 34 ∉ escB b := by
  unfold escB
  split
  · decide
  split
  · decide
  split
  · decide
  split
  · decide
  · rename_i h1 h2 h3 h4
    simp only [List.mem_singleton]
    exact ⟨fun h => h2 h.symm, fun h => h3 h.symm, fun h => h4 h.symm⟩

theorem escT_safe (s : List UInt8) : 60 ∉ escT s ∧ 62 ∉ escT s ∧ 34 ∉ escT s := by
  unfold escT
  simp only [List.mem_flatMap, not_exists, not_and]
  exact ⟨fun b _ => (escB_safe b).1, fun b _ => (escB_safe b).2.1, fun b _ => (escB_safe b).2.2⟩

end Go.X

namespace Go.X
open Go.Lib

/-- The first place from on at which t stands in s, or -1. -/
def refIdx (s t : List UInt8) (i : Nat) : Int := if index (s.drop i) t = -1 then -1 else index (s.drop i) t + i

theorem slice_mid (s : List UInt8) (i n : Nat) : (s.take (i + n)).drop i = (s.drop i).take n := by
  rw [List.drop_take]; congr 1; omega

theorem pre_iff (s t : List UInt8) : t.isPrefixOf s = true ↔ s.take t.length = t := by
  rw [List.isPrefixOf_iff_prefix, List.prefix_iff_eq_take]
  exact eq_comm

theorem refIdx_hit {s t : List UInt8} {i : Nat} (ht : 1 ≤ t.length) (h : i + t.length ≤ s.length) (he : (s.take (i + t.length)).drop i = t) : refIdx s t i = i := by
  rw [slice_mid] at he
  have hp := (pre_iff (s.drop i) t).2 he
  have : index (s.drop i) t = 0 := by
    cases hs : s.drop i with
    | nil => have := congrArg List.length hs; simp at this; omega
    | cons b r => rw [hs] at hp; simp [index, hp]
  simp [refIdx, this]

theorem refIdx_miss {s t : List UInt8} {i : Nat} (ht : 1 ≤ t.length) (h : i + t.length ≤ s.length) (he : ¬ (s.take (i + t.length)).drop i = t) : refIdx s t i = refIdx s t (i + 1) := by
  rw [slice_mid] at he
  have hp : t.isPrefixOf (s.drop i) = false := by
    cases hx : t.isPrefixOf (s.drop i) with
    | false => rfl
    | true => exact absurd ((pre_iff _ _).1 hx) he
  have hd : s.drop (i + 1) = (s.drop i).tail := by rw [List.tail_drop]
  unfold refIdx
  rw [hd]
  cases hs : s.drop i with
  | nil => have := congrArg List.length hs; simp at this; omega
  | cons b r =>
    rw [hs] at hp
    have hge := index_ge r t
    have e : index (b :: r) t = if index r t = -1 then -1 else index r t + 1 := by simp [index, hp]
    rw [e, List.tail_cons]
    by_cases hm : index r t = -1
    · simp [hm]
    · rw [if_neg hm, if_neg hm, if_neg (by omega)]; omega

theorem refIdx_end {s t : List UInt8} {i : Nat} (ht : 1 ≤ t.length) (h : ¬ i + t.length ≤ s.length) : refIdx s t i = -1 := by
  have : index (s.drop i) t = -1 := by
    have hge := index_ge (s.drop i) t
    by_cases hx : index (s.drop i) t = -1
    · exact hx
    · have := index_room (s.drop i) t (by omega)
      simp at this; omega
  simp [refIdx, this]

theorem index_cut (c : UInt8) : ∀ s : List UInt8, index s [c] = if (cutAt c s).2.2 = true then ((cutAt c s).1.length : Int) else -1
  | [] => by simp [index_nil, cutAt]
  | x :: r => by
    have ih := index_cut c r
    by_cases h : x = c
    · subst h; simp [index_same, cutAt]
    · rw [index_other h, ih]
      simp only [cutAt, if_neg h]
      by_cases hc : (cutAt c r).2.2 = true
      · rw [if_pos hc, if_pos hc, if_neg (by omega)]; simp
      · rw [if_neg hc, if_neg hc, if_pos rfl]

theorem cutAt_take (c : UInt8) : ∀ s : List UInt8, s.take (cutAt c s).1.length = (cutAt c s).1
  | [] => by simp [cutAt]
  | x :: r => by
    have ih := cutAt_take c r
    simp only [cutAt]; split
    · simp
    · simp [ih]
theorem cutAt_drop (c : UInt8) : ∀ s : List UInt8, (cutAt c s).2.2 = true → s.drop ((cutAt c s).1.length + 1) = (cutAt c s).2.1 ∧ (cutAt c s).1.length < s.length
  | [], h => by simp [cutAt] at h
  | x :: r, h => by
    have ih := cutAt_drop c r
    simp only [cutAt] at h ⊢
    split
    · simp
    · rename_i hx
      rw [if_neg hx] at h
      have := ih h
      simp [this.1]; omega

theorem index_byte (c : UInt8) : ∀ l : List UInt8, index l [c] = indexByte l c
  | [] => by simp [index_nil, indexByte]
  | x :: r => by
    have ih := index_byte c r
    by_cases h : x = c
    · subst h; simp [index_same, indexByte]
    · rw [index_other h, ih]
      simp only [indexByte, beq_iff_eq, if_neg h]
theorem refIdx_byte (l : List UInt8) (c : UInt8) : refIdx l [c] 0 = indexByte l c := by
  rw [← index_byte]
  unfold refIdx
  rw [List.drop_zero]
  split
  · rename_i h; rw [h]
  · omega

/-- Without one blank at the end. -/
def noEnd (p : List UInt8) : List UInt8 := if (decide (0 < (p.length : Int)) && decide (((p.getD ((p.length : Int) - 1).toNat 0).toNat : Int) = 32)) = true then p.take ((p.length : Int) - 1).toNat else p

theorem noEnd_eq (p : List UInt8) : noEnd p = trimSuffix p [32] := by
  have key : (decide (0 < (p.length : Int)) && decide (((p.getD ((p.length : Int) - 1).toNat 0).toNat : Int) = 32)) = hasSuffix p [32] := by
    rcases List.eq_nil_or_concat p with rfl | ⟨q, x, rfl⟩
    · rfl
    · have e : (((q.concat x).length : Int) - 1).toNat = q.length := by simp
      rw [e]
      have h1 : (q.concat x).getD q.length 0 = x := by simp
      rw [h1]
      rw [Bool.eq_iff_iff]
      simp only [Bool.and_eq_true, decide_eq_true_eq, hasSuffix, List.isSuffixOf_iff_suffix, List.concat_eq_append]
      constructor
      · rintro ⟨_, h⟩
        have : x = 32 := UInt8.toNat_inj.1 (by simpa using Int.ofNat.inj h)
        subst this
        exact List.suffix_append _ _
      · rintro ⟨t, ht⟩
        have := List.append_inj_right' ht (by simp)
        simp at this
        subst this
        simp
  unfold noEnd trimSuffix
  rw [key]
  cases hs : hasSuffix p [32] with
  | false => simp
  | true =>
    simp only [if_true, List.length_singleton]
    congr 1
    omega

/-- Without one blank ahead. -/
def noFront (t : List UInt8) : List UInt8 := if (decide (0 < (t.length : Int)) && decide (((t.getD 0 0).toNat : Int) = 32)) = true then t.drop 1 else t

theorem noFront_eq (t : List UInt8) : noFront t = trimPrefix t [32] := by
  cases t with
  | nil => rfl
  | cons x r =>
    have h : ((((x :: r).getD 0 0).toNat : Int) = 32) ↔ x = 32 := by
      simp only [List.getD_cons_zero]
      exact ⟨fun h => UInt8.toNat_inj.1 (by simpa using Int.ofNat.inj h), fun h => by subst h; rfl⟩
    unfold noFront trimPrefix hasPrefix
    by_cases hx : x = 32
    · rw [if_pos (by simp only [Bool.and_eq_true, decide_eq_true_eq]; exact ⟨by simp, h.2 hx⟩), if_pos (by simp [List.isPrefixOf, hx])]
      rfl
    · rw [if_neg (by simp only [Bool.and_eq_true, decide_eq_true_eq]; exact fun hh => hx (h.1 hh.2)), if_neg (by simp [List.isPrefixOf, Ne.symm hx])]

theorem slice_one {s : List UInt8} {i : Nat} (h : i < s.length) : (s.take (i + 1)).drop i = [s.getD i 0] := by
  rw [slice_mid, List.drop_eq_getElem_cons h]
  simp only [List.take_succ_cons, List.take_zero]
  simp [h]

theorem stepB_nil : stepB [] 32 = [] := by decide
theorem stepB_blank {o : List UInt8} (h : ((o.getD ((o.length : Int) - 1).toNat 0).toNat : Int) = 32) : stepB o 32 = o := by
  unfold stepB
  rw [decide_eq_true h]
  simp
theorem stepB_first {o : List UInt8} (h0 : ¬ o = []) (h : ¬ ((o.getD ((o.length : Int) - 1).toNat 0).toNat : Int) = 32) : stepB o 32 = o ++ [32] := by
  unfold stepB
  have h1 : (0 : Int) < (o.length : Int) := by have := List.length_pos_iff.2 h0; omega
  rw [decide_eq_false h, decide_eq_true h1]
  simp
theorem stepB_other {o : List UInt8} {y : UInt8} (h : ¬ y = 32) : stepB o y = o ++ [y] := by
  unfold stepB
  have h1 : ¬ (y.toNat : Int) = 32 := fun hh => h (UInt8.toNat_inj.1 (by simpa using Int.ofNat.inj hh))
  rw [decide_eq_false h1]
  simp

theorem usc_get (s : List UInt8) {i : Nat} (h : i < s.length) : (usc s).getD i 0 = if s.getD i 0 = 95 then 32 else s.getD i 0 := by
  simp [usc, h]

theorem splitOn_snoc (c x : UInt8) : ∀ l : List UInt8, splitOn c (l ++ [x]) = if x = c then splitOn c l ++ [[]] else (splitOn c l).dropLast ++ [(splitOn c l).getLastD [] ++ [x]]
  | [] => by simp only [List.nil_append, splitOn]; split <;> rfl
  | y :: r => by
    have ih := splitOn_snoc c x r
    have e := splitOn_eq c r
    simp only [List.cons_append, splitOn]
    rw [ih]
    by_cases hx : x = c
    · simp only [if_pos hx]
      by_cases hy : y = c
      · simp [hy]
      · simp only [if_neg hy]
        rw [e]; rfl
    · simp only [if_neg hx]
      cases ht : (splitOn c r).tail with
      | nil =>
        rw [ht] at e
        by_cases hy : y = c
        · simp only [if_pos hy]; rw [e]; rfl
        · simp only [if_neg hy]; rw [e]; rfl
      | cons z t =>
        rw [ht] at e
        by_cases hy : y = c
        · simp only [if_pos hy]; rw [e]; simp [List.getLastD]
        · simp only [if_neg hy]; rw [e]; simp [List.getLastD]

end Go.X

namespace Go.Proofs
open Go Go.X
set_option maxRecDepth 100000

theorem lower_ok (b : UInt8) : FnS Tryz.prog 135 [.c (byteC b)] [] [] (Is (.c (byteC (lowB b)))) := by
  have hb := b.toNat_lt
  refine fn_of_J Tryz.tyOK 0 Tryz.func135 (by kernel_rfl) (c := Tryz.f135.body.getD .skip) (by kernel_rfl) Tryz.ntmps135 (rs := Tryz.f135.results.toList) rfl (by simp) (fun G => ?_)
  repeat' first
    | refine J_seq ?_ | refine J_region Tryz.tyOK ?_ | refine J_block ?_ | refine J_cond ?_ | refine J_ret ?_ | refine J_skip ?_ | refine J_exit ?_ | refine J_scope ?_
    | refine CondP.yes (by omega) ?_ | refine CondP.no (by omega) ?_ | refine CondP.mk (fun h => ?_) (fun h => ?_) | refine EqP.mk rfl ?_ | refine NewP.mk (fun ad => ?_) | refine ArP.exact (by simp only [inR]; omega) ?_ | refine SideP.mk (by first | omega | (dsimp only; omega) | (simp; omega)) ?_
    | refine FinE.is ?_
    | fail
  · rw [byteC, lowB_yes (by assumption) (by assumption)]
  · rw [lowB_no (by omega)]
  · rw [lowB_no (by omega)]

theorem low_same {a b : UInt8} : ((lowB a).toNat : Int) = (lowB b).toNat ↔ lowB a = lowB b :=
  ⟨fun h => UInt8.toNat_inj.1 (by omega), fun h => by rw [h]⟩

theorem map_take_succ {f : UInt8 → UInt8} {a : List UInt8} {i : Nat} (h : i < a.length) : (a.take (i + 1)).map f = (a.take i).map f ++ [f (a.getD i 0)] := by
  rw [List.take_succ_eq_append_getElem h, List.map_append]; simp [h]

theorem sameLetters_ok (a b : List UInt8) (ha : a.length ≤ 1000000) : FnS Tryz.prog 103 [.c (.s a), .c (.s b)] [] [] (Is (.c (.b (decide (a.map lowB = b.map lowB))))) := by
  refine fn_of_J Tryz.tyOK 0 Tryz.func103 (by kernel_rfl) (c := Tryz.f103.body.getD .skip) (by kernel_rfl) Tryz.ntmps103 (rs := Tryz.f103.results.toList) rfl (by simp) (fun G => ?_)
  repeat' first
    | refine J_stop (c := .seq (.seq (.region 3 _ _) _) _) ?_
    | refine J_seq ?_ | refine J_region Tryz.tyOK ?_ | refine J_block ?_ | refine J_cond ?_ | refine J_ret ?_ | refine J_skip ?_ | refine J_exit ?_ | refine J_scope ?_
    | refine CondP.yes (by omega) ?_ | refine CondP.no (by omega) ?_ | refine CondP.mk (fun h => ?_) (fun h => ?_) | refine EqP.mk rfl ?_ | refine NewP.mk (fun ad => ?_) | refine ArP.exact (by simp only [inR]; omega) ?_ | refine SideP.mk (by first | omega | (dsimp only; omega) | (simp; omega)) ?_
    | refine FinE.bool ?_
    | fail
  rotate_left
  · refine decide_eq_false fun h => ?_
    have := congrArg List.length h
    simp at this; omega
  refine ⟨?_⟩
  refine J_seq ?_
  repeat' first
    | refine J_seq ?_ | refine J_region Tryz.tyOK ?_ | refine J_block ?_ | refine J_cond ?_ | refine J_ret ?_ | refine J_skip ?_ | refine J_exit ?_ | refine J_scope ?_
    | refine CondP.yes (by omega) ?_ | refine CondP.no (by omega) ?_ | refine CondP.mk (fun h => ?_) (fun h => ?_) | refine EqP.mk rfl ?_ | refine NewP.mk (fun ad => ?_) | refine ArP.exact (by simp only [inR]; omega) ?_ | refine SideP.mk (by first | omega | (dsimp only; omega) | (simp; omega)) ?_
    | fail
    | fail
  refine J_loop (α := Nat) (fun i => [(0, .c (.s a)), (1, .c (.s b)), (5, .c (.i .i64 i))]) (fun _ => []) (fun _ => []) 0 (fun i => i ≤ a.length ∧ (a.take i).map lowB = (b.take i).map lowB) (fun i => a.length - i)
    (InFam.mk 0 ⟨by omega, rfl⟩ (by repeat' first | exact SubE.nil | refine SubE.cons rfl ?_ ?_ | exact VEq.refl _ | refine VEq.int (by omega) | refine VEq.sl rfl (by first | rfl | omega | (rw [List.length_append]; rfl) | (simp; omega)) rfl) (Ents.refl _ _)) (fun i hi => ?_)
  obtain ⟨hi, hal⟩ := hi
  by_cases hlt : i < a.length
  · have h1 := map_take_succ (f := lowB) hlt
    have h2 := map_take_succ (f := lowB) (a := b) (i := i) (by omega)
    repeat' first
      | refine J_seq ?_ | refine J_region Tryz.tyOK ?_ | refine J_block ?_ | refine J_cond ?_ | refine J_ret ?_ | refine J_skip ?_ | refine J_exit ?_ | refine J_scope ?_
      | refine CondP.yes (by omega) ?_ | refine CondP.no (by omega) ?_ | refine CondP.mk (fun h => ?_) (fun h => ?_) | refine EqP.mk rfl ?_ | refine NewP.mk (fun ad => ?_) | refine ArP.exact (by simp only [inR]; omega) ?_ | refine SideP.mk (by first | omega | (dsimp only; omega) | (simp; omega)) ?_
      | refine J_draw Tryz.tyOK (by kernel_rfl) [0, 1, 2, 3, 4, 5, 6, 7, 8] [] _ _ (by kernel_rfl) (Ents.refl _ _) ?_ | refine CallQ.mk [] _ (lower_ok _) (fun _ _ => trivial) ?_ | refine Round.mk (i + 1) (by omega) ⟨by omega, ?_⟩ (by repeat' first | exact SubE.nil | refine SubE.cons rfl ?_ ?_ | exact VEq.refl _ | refine VEq.int (by omega) | refine VEq.sl rfl (by first | rfl | omega | (rw [List.length_append]; rfl) | (simp; omega)) rfl) (Ents.refl _ _) | refine FinE.bool ?_
      | fail
    · have h5 : lowB (a.getD i 0) = lowB (b.getD i 0) := low_same.1 (by assumption)
      rw [h1, h2, hal, h5]
    · refine decide_eq_false fun hh => ?_
      have h3 : (a.take (i + 1)).map lowB = (b.take (i + 1)).map lowB := by rw [List.map_take, List.map_take, hh]
      rw [h1, h2, hal] at h3
      have h4 := List.append_cancel_left h3
      simp only [List.cons.injEq, and_true] at h4
      have h5 := low_same.2 h4
      exact absurd h5 (by assumption)
  · have hil : i = a.length := by omega
    subst hil
    repeat' first
      | refine J_seq ?_ | refine J_region Tryz.tyOK ?_ | refine J_block ?_ | refine J_cond ?_ | refine J_ret ?_ | refine J_skip ?_ | refine J_exit ?_ | refine J_scope ?_
      | refine CondP.yes (by omega) ?_ | refine CondP.no (by omega) ?_ | refine CondP.mk (fun h => ?_) (fun h => ?_) | refine EqP.mk rfl ?_ | refine NewP.mk (fun ad => ?_) | refine ArP.exact (by simp only [inR]; omega) ?_ | refine SideP.mk (by first | omega | (dsimp only; omega) | (simp; omega)) ?_
      | refine FinE.bool ?_
      | fail
    refine decide_eq_true ?_
    rw [List.take_length, List.take_of_length_le (by omega)] at hal
    exact hal

theorem spaceName_ok (n : Int) : FnS Tryz.prog 83 [.c (.i .i64 n)] [] [] (Is (.c (.s (spName n.toNat)))) := by
  have hlo : n < 0 → spName n.toNat = [] := fun h => by rw [show n.toNat = 0 by omega]; rfl
  have hhi : 6 ≤ n → spName n.toNat = [] := fun h => by
    obtain ⟨k, hk⟩ : ∃ k, n.toNat = k + 6 := ⟨n.toNat - 6, by omega⟩
    rw [hk]; rfl
  have hid : 0 ≤ n → n < 6 → ([C.s [], .s (spName 1), .s (spName 2), .s (spName 3), .s (spName 4), .s (spName 5)].drop (n.toNat * 1 + 0)).take 1 = [C.s (spName n.toNat)] := fun h0 h1 => by
    rcases (by omega : n = 0 ∨ n = 1 ∨ n = 2 ∨ n = 3 ∨ n = 4 ∨ n = 5) with rfl | rfl | rfl | rfl | rfl | rfl <;> rfl
  refine fn_of_J Tryz.tyOK 0 Tryz.func83 (by kernel_rfl) (c := Tryz.f83.body.getD .skip) (by kernel_rfl) Tryz.ntmps83 (rs := Tryz.f83.results.toList) rfl (by simp) (fun G => ?_)
  repeat' first
    | refine J_seq ?_ | refine J_region Tryz.tyOK ?_ | refine J_block ?_ | refine J_cond ?_ | refine J_ret ?_ | refine J_skip ?_ | refine J_exit ?_ | refine J_scope ?_
    | refine CondP.yes (by omega) ?_ | refine CondP.no (by omega) ?_ | refine CondP.mk (fun h => ?_) (fun h => ?_) | refine EqP.mk rfl ?_ | refine NewP.mk (fun ad => ?_) | refine ArP.exact (by simp only [inR]; omega) ?_ | refine SideP.mk (by first | omega | (dsimp only; omega) | (simp; omega)) ?_
    | refine FinE.str ?_ | refine IdxE.mk 9 1 _ (.inl ⟨6, List.Mem.head _⟩) (by omega) (by omega) ?_ | refine LoadE.mk 9 6 [C.s [], .s (spName 1), .s (spName 2), .s (spName 3), .s (spName 4), .s (spName 5)] [C.s (spName n.toNat)] (.inl ⟨6, List.Mem.head _⟩) (by omega) (by omega) (by omega) (hid (by omega) (by omega)) ?_
    | fail
  · exact hlo (by omega)
  · exact hhi (by omega)
  · rfl

theorem index_ok (s t : List UInt8) (i0 : Nat) (hs : s.length ≤ 1000000) (ht1 : 1 ≤ t.length) (ht : t.length ≤ 1000000) (hi0 : i0 ≤ s.length) : FnS Tryz.prog 46 [.c (.s s), .c (.s t), .c (.i .i64 i0)] [] [] (Is (.c (.i .i64 (refIdx s t i0)))) := by
  refine fn_of_J Tryz.tyOK 0 Tryz.func46 (by kernel_rfl) (c := Tryz.f46.body.getD .skip) (by kernel_rfl) Tryz.ntmps46 (rs := Tryz.f46.results.toList) rfl (by simp) (fun G => ?_)
  refine J_seq ?_
  repeat' first
    | refine J_stop (c := .seq (.seq (.region 1 _ _) _) _) ?_
    | refine J_seq ?_ | refine J_region Tryz.tyOK ?_ | refine J_block ?_ | refine J_cond ?_ | refine J_ret ?_ | refine J_skip ?_ | refine J_exit ?_ | refine J_scope ?_
    | refine CondP.yes (by omega) ?_ | refine CondP.no (by omega) ?_ | refine CondP.mk (fun h => ?_) (fun h => ?_) | refine EqP.mk rfl ?_ | refine NewP.mk (fun ad => ?_) | refine ArP.exact (by simp only [inR]; omega) ?_ | refine SideP.mk (by first | omega | (dsimp only; omega) | (simp; omega)) ?_
    | fail
    | fail
  refine ⟨?_⟩
  refine J_seq ?_
  repeat' first
    | refine J_seq ?_ | refine J_region Tryz.tyOK ?_ | refine J_block ?_ | refine J_cond ?_ | refine J_ret ?_ | refine J_skip ?_ | refine J_exit ?_ | refine J_scope ?_
    | refine CondP.yes (by omega) ?_ | refine CondP.no (by omega) ?_ | refine CondP.mk (fun h => ?_) (fun h => ?_) | refine EqP.mk rfl ?_ | refine NewP.mk (fun ad => ?_) | refine ArP.exact (by simp only [inR]; omega) ?_ | refine SideP.mk (by first | omega | (dsimp only; omega) | (simp; omega)) ?_
    | fail
    | fail
  refine J_loop (α := Nat) (fun i => [(0, .c (.s s)), (1, .c (.s t)), (7, .c (.i .i64 i))]) (fun _ => []) (fun _ => []) 0 (fun i => i ≤ s.length ∧ refIdx s t i0 = refIdx s t i) (fun i => s.length - i)
    (InFam.mk i0 ⟨by omega, rfl⟩ (by repeat' first | exact SubE.nil | refine SubE.cons rfl ?_ ?_ | exact VEq.refl _ | refine VEq.int (by omega) | refine VEq.sl rfl (by first | rfl | omega | (rw [List.length_append]; rfl) | (simp; omega)) rfl) (Ents.refl _ _)) (fun i hi => ?_)
  obtain ⟨hi, hal⟩ := hi
  by_cases hle : i + t.length ≤ s.length
  · have h1 := refIdx_hit (s := s) (t := t) (i := i) ht1 hle
    have h2 := refIdx_miss (s := s) (t := t) (i := i) ht1 hle
    repeat' first
      | refine J_seq ?_ | refine J_region Tryz.tyOK ?_ | refine J_block ?_ | refine J_cond ?_ | refine J_ret ?_ | refine J_skip ?_ | refine J_exit ?_ | refine J_scope ?_
      | refine CondP.yes (by omega) ?_ | refine CondP.no (by omega) ?_ | refine CondP.mk (fun h => ?_) (fun h => ?_) | refine EqP.mk rfl ?_ | refine NewP.mk (fun ad => ?_) | refine ArP.exact (by simp only [inR]; omega) ?_ | refine SideP.mk (by first | omega | (dsimp only; omega) | (simp; omega)) ?_
      | refine Round.mk (i + 1) (by omega) ⟨by omega, ?_⟩ (by repeat' first | exact SubE.nil | refine SubE.cons rfl ?_ ?_ | exact VEq.refl _ | refine VEq.int (by omega) | refine VEq.sl rfl (by first | rfl | omega | (rw [List.length_append]; rfl) | (simp; omega)) rfl) (Ents.refl _ _) | refine FinE.int ?_
      | fail
    · rw [hal]; exact h1 (by assumption)
    · rw [hal]; exact h2 (by assumption)
  · repeat' first
      | refine J_seq ?_ | refine J_region Tryz.tyOK ?_ | refine J_block ?_ | refine J_cond ?_ | refine J_ret ?_ | refine J_skip ?_ | refine J_exit ?_ | refine J_scope ?_
      | refine CondP.yes (by omega) ?_ | refine CondP.no (by omega) ?_ | refine CondP.mk (fun h => ?_) (fun h => ?_) | refine EqP.mk rfl ?_ | refine NewP.mk (fun ad => ?_) | refine ArP.exact (by simp only [inR]; omega) ?_ | refine SideP.mk (by first | omega | (dsimp only; omega) | (simp; omega)) ?_
      | refine FinE.int ?_
      | fail
    rw [hal, refIdx_end ht1 hle]

end Go.Proofs

namespace Go.Proofs
open Go Go.X
set_option maxRecDepth 100000

theorem prefixed_ok (s : List UInt8) (hs : s.length ≤ 1000000) : FnS Tryz.prog 69 [.c (.s s)] [] []
    (Is (.t2 (.c (.i .i64 (colonNo s))) (.c (.i .i64 (if colonNo s = 0 then 0 else ((cutAt 58 s).1.length : Int)))))) := by
  have c1 := index_ok s [58] 0 hs (by decide) (by decide) (by omega)
  have hr : refIdx s [58] 0 = if (cutAt 58 s).2.2 = true then ((cutAt 58 s).1.length : Int) else -1 := by
    rw [← index_cut]
    unfold refIdx
    rw [List.drop_zero]
    split
    · rename_i h; rw [h]
    · omega
  rw [hr] at c1
  have hl := cutAt_len1 58 s
  cases hc : (cutAt 58 s).2.2 with
  | false =>
    have e : colonNo s = 0 := by simp [colonNo, hc]
    rw [hc, if_neg (by decide)] at c1
    rw [e]
    refine fn_of_J Tryz.tyOK 0 Tryz.func69 (by kernel_rfl) (c := Tryz.f69.body.getD .skip) (by kernel_rfl) Tryz.ntmps69 (rs := Tryz.f69.results.toList) rfl (by simp) (fun G => ?_)
    repeat' first
      | refine J_seq ?_ | refine J_region Tryz.tyOK ?_ | refine J_block ?_ | refine J_cond ?_ | refine J_ret ?_ | refine J_skip ?_ | refine J_exit ?_ | refine J_scope ?_
      | refine CondP.yes (by omega) ?_ | refine CondP.no (by omega) ?_ | refine CondP.mk (fun h => ?_) (fun h => ?_) | refine EqP.mk rfl ?_ | refine NewP.mk (fun ad => ?_) | refine ArP.exact (by simp only [inR]; omega) ?_ | refine SideP.mk (by first | omega | (dsimp only; omega) | (simp; omega)) ?_
      | refine CallP.is c1 ?_ | refine FinE.is ?_
      | fail
    all_goals rfl
  | true =>
    have e : colonNo s = spaceNo (noEnd (cutAt 58 s).1) := by rw [noEnd_eq]; simp [colonNo, hc]
    have ht := cutAt_take 58 s
    rw [hc, if_pos rfl] at c1
    rw [e]
    generalize (cutAt 58 s).1 = p at *
    obtain ⟨q, hq⟩ : ∃ q, noEnd p = q := ⟨_, rfl⟩
    have hql : q.length ≤ p.length := by
      rw [← hq]; unfold noEnd; split
      · simp
      · exact Nat.le_refl _
    rw [hq]
    refine fn_of_J Tryz.tyOK 0 Tryz.func69 (by kernel_rfl) (c := Tryz.f69.body.getD .skip) (by kernel_rfl) Tryz.ntmps69 (rs := Tryz.f69.results.toList) rfl (by simp) (fun G => ?_)
    repeat' first
      | refine J_cut (x := .seq (.region 5 _ _) _) (α := Unit) (fun _ => [(0, .c (.s s)), (4, .c (.i .i64 p.length)), (5, .c (.s q))]) (fun _ => []) (fun _ => []) 0 (fun _ => True) ?_ (fun _ _ => ?_) | refine J_cut (x := .region 4 _ _) (α := Unit) (fun _ => [(0, .c (.s s)), (4, .c (.i .i64 p.length)), (5, .c (.s p))]) (fun _ => []) (fun _ => []) 0 (fun _ => True) ?_ (fun _ _ => ?_)
      | refine J_seq ?_ | refine J_region Tryz.tyOK ?_ | refine J_block ?_ | refine J_cond ?_ | refine J_ret ?_ | refine J_skip ?_ | refine J_exit ?_ | refine J_scope ?_
      | refine CondP.yes (by omega) ?_ | refine CondP.no (by omega) ?_ | refine CondP.mk (fun h => ?_) (fun h => ?_) | refine EqP.mk rfl ?_ | refine NewP.mk (fun ad => ?_) | refine ArP.exact (by simp only [inR]; omega) ?_ | refine SideP.mk (by first | omega | (dsimp only; omega) | (simp; omega)) ?_
      | refine CallP.is c1 ?_ | refine FinE.is ?_ | refine InFam.mk () trivial (SubE.cons rfl (VEq.refl _) (SubE.cons rfl (VEq.refl _) (SubE.cons rfl (VEq.str ?_) SubE.nil))) (Ents.refl _ _) | refine J_rounds 6 ?_ | refine JR_succ ?_ | refine CallP.is (spaceName_ok _) ?_ | refine CallP.isB (sameLetters_ok q _ (by omega)) (fun h => ?_) (fun h => ?_)
      | fail
    · exact ht
    · rw [← hq]; unfold noEnd; (try simp only [Int.toNat_natCast, Int.toNat_zero] at *); simp only [*, decide_true, decide_false, Bool.true_and, Bool.false_and, Bool.and_true, Bool.and_false, Bool.not_true, Bool.not_false, Bool.true_or, Bool.false_or, Bool.or_true, Bool.or_false, not_true, not_false_eq_true, ne_eq, if_true, if_false, Bool.false_eq_true]
    · rw [← hq]; unfold noEnd; (try simp only [Int.toNat_natCast, Int.toNat_zero] at *); simp only [*, decide_true, decide_false, Bool.true_and, Bool.false_and, Bool.and_true, Bool.and_false, Bool.not_true, Bool.not_false, Bool.true_or, Bool.false_or, Bool.or_true, Bool.or_false, not_true, not_false_eq_true, ne_eq, if_true, if_false, Bool.false_eq_true]
    · rw [← hq]; unfold noEnd; (try simp only [Int.toNat_natCast, Int.toNat_zero] at *); simp only [*, decide_true, decide_false, Bool.true_and, Bool.false_and, Bool.and_true, Bool.and_false, Bool.not_true, Bool.not_false, Bool.true_or, Bool.false_or, Bool.or_true, Bool.or_false, not_true, not_false_eq_true, ne_eq, if_true, if_false, Bool.false_eq_true]
    all_goals
      have hk : ∃ k, spaceNo q = k := ⟨_, rfl⟩
      obtain ⟨k, hk⟩ := hk
      have hk' := hk
      unfold spaceNo at hk
      repeat (first | rw [if_pos (of_decide_eq_true (by assumption))] at hk | rw [if_neg (of_decide_eq_false (by assumption))] at hk)
      subst hk
      rw [hk']
      rfl

end Go.Proofs

namespace Go.Proofs
open Go Go.X
set_option maxRecDepth 100000

theorem set_last {α : Type} {A : List α} (h : A ≠ []) (x : α) : A.set ((A.length : Int) - 1).toNat x = A.dropLast ++ [x] := by
  rcases List.eq_nil_or_concat A with rfl | ⟨q, y, rfl⟩
  · exact absurd rfl h
  · have e : (((q.concat y).length : Int) - 1).toNat = q.length := by simp
    rw [e]
    simp [List.concat_eq_append]

theorem byte_is {x : UInt8} {n : Nat} (hn : n < 256) (h : (x.toNat : Int) = (n : Int)) : x = UInt8.ofNat n := by
  apply UInt8.toNat_inj.1
  have e : (UInt8.ofNat n).toNat = n % 256 := by simp
  rw [e, Nat.mod_eq_of_lt hn]; omega
theorem byte_not {x : UInt8} {n : Nat} (hn : n < 256) (h : ¬ (x.toNat : Int) = (n : Int)) : ¬ x = UInt8.ofNat n := fun hx => by
  have e : (UInt8.ofNat n).toNat = n % 256 := by simp
  rw [hx, e, Nat.mod_eq_of_lt hn] at h
  exact h rfl

theorem parts_ok (s : List UInt8) (hs : s.length ≤ 1000000) : FnS Tryz.prog 68 [.c (.s s)] [] []
    (fun v L D => ∃ a c, v = .c (.sl a (splitOn 47 s).length c) ∧ L = [.row 9 1 a (splitOn 47 s).length c ((splitOn 47 s).map C.s)] ∧ D = []) := by
  refine fn_of_J Tryz.tyOK 0 Tryz.func68 (by kernel_rfl) (c := Tryz.f68.body.getD .skip) (by kernel_rfl) Tryz.ntmps68 (rs := Tryz.f68.results.toList) rfl (by simp) (fun G => ?_)
  refine J_seq ?_
  repeat' first
    | refine J_stop (c := .seq (.seq (.region 2 _ _) _) _) ?_
    | refine J_seq ?_ | refine J_region Tryz.tyOK ?_ | refine J_block ?_ | refine J_cond ?_ | refine J_ret ?_ | refine J_skip ?_ | refine J_exit ?_ | refine J_scope ?_
    | refine CondP.yes (by omega) ?_ | refine CondP.no (by omega) ?_ | refine CondP.mk (fun h => ?_) (fun h => ?_) | refine EqP.mk rfl ?_ | refine NewP.mk (fun ad => ?_) | refine ArP.exact (by simp only [inR]; omega) ?_ | refine SideP.mk (by first | omega | (dsimp only; omega) | (simp; omega)) ?_
    | fail
    | fail
  refine ⟨?_⟩
  refine J_seq ?_
  repeat' first
    | refine J_seq ?_ | refine J_region Tryz.tyOK ?_ | refine J_block ?_ | refine J_cond ?_ | refine J_ret ?_ | refine J_skip ?_ | refine J_exit ?_ | refine J_scope ?_
    | refine CondP.yes (by omega) ?_ | refine CondP.no (by omega) ?_ | refine CondP.mk (fun h => ?_) (fun h => ?_) | refine EqP.mk rfl ?_ | refine NewP.mk (fun ad => ?_) | refine ArP.exact (by simp only [inR]; omega) ?_ | refine SideP.mk (by first | omega | (dsimp only; omega) | (simp; omega)) ?_
    | fail
    | fail
  refine J_loop (α := Nat × Option Addr × Nat) (fun x => [(0, .c (.s s)), (3, .c (.sl x.2.1 (splitOn 47 (s.take x.1)).length x.2.2)), (4, .c (.i .i64 x.1))])
    (fun x => [.row 9 1 x.2.1 (splitOn 47 (s.take x.1)).length x.2.2 ((splitOn 47 (s.take x.1)).map C.s)]) (fun _ => []) 0 (fun x => x.1 ≤ s.length) (fun x => s.length - x.1)
    (InFam.mk (0, some ⟨ad, 0, none⟩, 1) (by simp) (by repeat' first | exact SubE.nil | refine SubE.cons rfl ?_ ?_ | exact VEq.refl _ | refine VEq.int (by omega) | refine VEq.sl rfl (by first | rfl | omega | (rw [List.length_append]; rfl) | (simp; omega)) rfl) (Ents.refl _ _)) (fun x hi => ?_)
  obtain ⟨i, a, c⟩ := x
  dsimp only at hi ⊢
  have hsl := splitOn_length_le 47 (s.take i)
  have hsn := splitOn_ne 47 (s.take i)
  have hml := mem_splitOn_le 47 (s.take i)
  have htl : (s.take i).length = i := by simp; omega
  by_cases hlt : i < s.length
  · have hgi : s[i] = s.getD i 0 := by simp [hlt]
    have hst : splitOn 47 (s.take (i + 1)) = if s.getD i 0 = 47 then splitOn 47 (s.take i) ++ [[]] else (splitOn 47 (s.take i)).dropLast ++ [(splitOn 47 (s.take i)).getLastD [] ++ [s.getD i 0]] := by
      rw [List.take_succ_eq_append_getElem hlt, hgi, splitOn_snoc]
    have h1 := slice_one hlt
    have hl1 : ((s.take (i + 1)).drop i).length = 1 := by rw [h1]; rfl
    generalize splitOn 47 (s.take i) = A at *
    have hA := List.length_pos_iff.2 hsn
    have hrd : Reads [.row 9 1 a A.length c (A.map C.s)] [] 9 1 a A.length (A.map C.s) := .inl ⟨c, List.Mem.head _⟩
    have hla : (((A.map C.s).drop (((A.length : Int) - 1).toNat * 1 + 0)).take 1) = [C.s (A.getLastD [])] := by
      have e : ((A.length : Int) - 1).toNat = A.length - 1 := by omega
      rw [e, map_take1 (by omega)]
      simp only [List.getLastD_eq_getLast?, List.getLast?_eq_getElem?]
      rw [List.getElem?_eq_getElem (by omega)]; rfl
    have hll : (A.getLastD []).length ≤ i := by
      have := hml (A.getLastD []) (by rw [List.getLastD_eq_getLast?, List.getLast?_eq_some_getLast hsn]; exact List.getLast_mem hsn)
      omega
    repeat' first
      | refine J_seq ?_ | refine J_region Tryz.tyOK ?_ | refine J_block ?_ | refine J_cond ?_ | refine J_ret ?_ | refine J_skip ?_ | refine J_exit ?_ | refine J_scope ?_
      | refine CondP.yes (by omega) ?_ | refine CondP.no (by omega) ?_ | refine CondP.mk (fun h => ?_) (fun h => ?_) | refine EqP.mk rfl ?_ | refine NewP.mk (fun ad => ?_) | refine ArP.exact (by simp only [inR]; omega) ?_ | refine SideP.mk (by first | omega | (dsimp only; omega) | (simp; omega)) ?_
      | refine J_draw Tryz.tyOK (by kernel_rfl) [0, 1, 2, 3, 4, 5, 6, 7, 10, 11, 12, 13, 14, 8, 9, 15, 16, 17] [8, 9, 16, 17] [] [] (by kernel_rfl) Ents.dropAll ?_ | refine EntP.mk Ents.dropAll ?_ | refine IdxE.mk 9 1 _ hrd (by omega) (by omega) ?_ | refine LoadE.mk 9 _ _ _ hrd (by omega) (by omega) (by omega) hla ?_ | refine AppE.row [_] [] (A.map C.s) [C.s []] 1 rfl (SrcE.sl 9 9 _ _ 1 1 _ rfl rfl (.inl ⟨1, List.Mem.head _⟩) rfl) (by dsimp only; omega) (fun a' c' => ?_) | refine SideP.mk (Nat.le_trans (Nat.add_le_add hll (Nat.le_of_eq hl1)) (by omega)) ?_ | refine StoreE.mk [] [] 9 _ _ (A.map C.s) _ rfl (by omega) (by omega) (by simp) (setC_map (f := C.s) (by omega)) ?_ | refine Round.mk (i + 1, a', c') (by simp; omega) (by simp; omega) ?_ ?_ | refine Round.mk (i + 1, a, c) (by simp; omega) (by simp; omega) ?_ ?_
      | fail
    all_goals
      dsimp only
      first
        | (have h47 : s.getD i 0 = 47 := byte_is (n := 47) (by decide) (by assumption)
           rw [hst, if_pos h47])
        | (have h47 : ¬ s.getD i 0 = 47 := byte_not (n := 47) (by decide) (by assumption)
           rw [hst, if_neg h47])
      first
        | refine Ents.drop.trans (Ents.of (by rw [List.map_append, List.length_append]; rfl))
        | (refine Ents.of ?_
           have hs2 := set_last hsn (A.getLastD [] ++ (s.take (i + 1)).drop i)
           rw [h1] at hs2
           rw [← hs2, List.length_set, ← h1]
           rfl)
        | skip
    repeat' first
      | exact SubE.nil | refine SubE.cons rfl ?_ ?_ | exact VEq.refl _ | refine VEq.int (by omega) | refine VEq.sl rfl (by first | rfl | omega | (rw [List.length_append]; rfl) | (simp; omega)) rfl
      | fail
    repeat' first
      | exact SubE.nil | refine SubE.cons rfl ?_ ?_ | exact VEq.refl _ | refine VEq.int (by omega) | refine VEq.sl rfl (by first | rfl | omega | (rw [List.length_append]; rfl) | (simp; omega)) rfl
      | fail
  · have hil : i = s.length := by omega
    subst hil
    rw [List.take_length]
    repeat' first
      | refine J_seq ?_ | refine J_region Tryz.tyOK ?_ | refine J_block ?_ | refine J_cond ?_ | refine J_ret ?_ | refine J_skip ?_ | refine J_exit ?_ | refine J_scope ?_
      | refine CondP.yes (by omega) ?_ | refine CondP.no (by omega) ?_ | refine CondP.mk (fun h => ?_) (fun h => ?_) | refine EqP.mk rfl ?_ | refine NewP.mk (fun ad => ?_) | refine ArP.exact (by simp only [inR]; omega) ?_ | refine SideP.mk (by first | omega | (dsimp only; omega) | (simp; omega)) ?_
      | fail
      | fail
    exact FinE.mk [_] [] ⟨a, c, rfl, rfl, rfl⟩ (Ents.refl _ _)

end Go.Proofs

namespace Go.Proofs
open Go Go.X
set_option maxRecDepth 100000

theorem escStep38 {o r : List UInt8} {x y : UInt8} (hst : r = o ++ escB y) (hg : x = y) (h : (x.toNat : Int) = 38) : o ++ eAmp = r := by
  subst hg
  have hy : x = 38 := byte_is (n := 38) (by decide) h
  subst hy; rw [hst]; rfl
theorem escStep60 {o r : List UInt8} {x y : UInt8} (hst : r = o ++ escB y) (hg : x = y) (h : (x.toNat : Int) = 60) : o ++ eLt = r := by
  subst hg
  have hy : x = 60 := byte_is (n := 60) (by decide) h
  subst hy; rw [hst]; rfl
theorem escStep62 {o r : List UInt8} {x y : UInt8} (hst : r = o ++ escB y) (hg : x = y) (h : (x.toNat : Int) = 62) : o ++ eGt = r := by
  subst hg
  have hy : x = 62 := byte_is (n := 62) (by decide) h
  subst hy; rw [hst]; rfl
theorem escStep34 {o r : List UInt8} {x y : UInt8} (hst : r = o ++ escB y) (hg : x = y) (h : (x.toNat : Int) = 34) : o ++ eQuot = r := by
  subst hg
  have hy : x = 34 := byte_is (n := 34) (by decide) h
  subst hy; rw [hst]; rfl
theorem escStepN {o r : List UInt8} {x y : UInt8} (hst : r = o ++ escB y) (hg : x = y) (h1 : ¬ (x.toNat : Int) = 38) (h2 : ¬ (x.toNat : Int) = 60) (h3 : ¬ (x.toNat : Int) = 62) (h4 : ¬ (x.toNat : Int) = 34) : o ++ [y] = r := by
  subst hg
  have n1 : ¬ x = 38 := byte_not (n := 38) (by decide) h1
  have n2 : ¬ x = 60 := byte_not (n := 60) (by decide) h2
  have n3 : ¬ x = 62 := byte_not (n := 62) (by decide) h3
  have n4 : ¬ x = 34 := byte_not (n := 34) (by decide) h4
  rw [hst]; simp [escB, n1, n2, n3, n4]

theorem refEscape_ok (s : List UInt8) (hs : s.length ≤ 1000000) : FnS Tryz.prog 15 [.c (.s s)] [] [] (Is (.c (.s (escT s)))) := by
  have hle := escT_le s
  refine fn_of_J Tryz.tyOK 0 Tryz.func15 (by kernel_rfl) (c := Tryz.f15.body.getD .skip) (by kernel_rfl) Tryz.ntmps15 (rs := Tryz.f15.results.toList) rfl (by simp) (fun G => ?_)
  repeat' first
    | refine J_seq ?_ | refine J_region Tryz.tyOK ?_ | refine J_block ?_ | refine J_cond ?_ | refine J_ret ?_ | refine J_skip ?_ | refine J_exit ?_ | refine J_scope ?_
    | refine CondP.yes (by omega) ?_ | refine CondP.no (by omega) ?_ | refine CondP.mk (fun h => ?_) (fun h => ?_) | refine EqP.mk rfl ?_ | refine NewP.mk (fun ad => ?_) | refine ArP.exact (by simp only [inR]; omega) ?_ | refine SideP.mk (by first | omega | (dsimp only; omega) | (simp; omega)) ?_
    | fail
  refine J_loop (α := Nat × List UInt8) (fun x => [(0, .c (.s s)), (3, .c (.s x.2)), (4, .c (.i .i64 x.1))]) (fun _ => []) (fun _ => []) 0 (fun x => x.1 ≤ s.length ∧ x.2 = escT (s.take x.1)) (fun x => s.length - x.1)
    (InFam.mk (0, []) ⟨Nat.zero_le _, rfl⟩ (by repeat' first | exact SubE.nil | refine SubE.cons rfl ?_ ?_ | exact VEq.refl _ | refine VEq.int (by omega) | refine VEq.sl rfl (by first | rfl | omega | (rw [List.length_append]; rfl) | (simp; omega)) rfl) (Ents.refl _ _)) (fun x hx => ?_)
  obtain ⟨i, o⟩ := x
  obtain ⟨hi, ho⟩ := hx
  dsimp only at hi ho ⊢
  by_cases hlt : i < s.length
  · have hst := escT_take_succ hlt
    have htl := escT_take_le s i
    rw [← ho] at hst htl
    have hgd : (s.getD (Int.toNat (i : Int)) 0) = s[i] := by simp [hlt]
    have h1 := slice_one hlt
    have hgd2 : s.getD i 0 = s[i] := by simp [hlt]
    rw [hgd2] at h1
    generalize s[i] = y at *
    have h1' : (s.take (Int.toNat ((i : Int) + 1))).drop (Int.toNat (i : Int)) = [y] := h1
    repeat' first
      | refine J_seq ?_ | refine J_region Tryz.tyOK ?_ | refine J_block ?_ | refine J_cond ?_ | refine J_ret ?_ | refine J_skip ?_ | refine J_exit ?_ | refine J_scope ?_
      | refine CondP.yes (by omega) ?_ | refine CondP.no (by omega) ?_ | refine CondP.mk (fun h => ?_) (fun h => ?_) | refine EqP.mk rfl ?_ | refine NewP.mk (fun ad => ?_) | refine ArP.exact (by simp only [inR]; omega) ?_ | refine SideP.mk (by first | omega | (dsimp only; omega) | (simp; omega)) ?_
      | rw [hgd] | refine Round.mk (i + 1, o ++ eAmp) (by dsimp only; omega) ⟨by dsimp only; omega, escStep38 hst hgd h⟩ (by repeat' first | exact SubE.nil | refine SubE.cons rfl ?_ ?_ | exact VEq.refl _ | refine VEq.int (by omega) | refine VEq.sl rfl (by first | rfl | omega | (rw [List.length_append]; rfl) | (simp; omega)) rfl) (Ents.refl _ _) | refine Round.mk (i + 1, o ++ eLt) (by dsimp only; omega) ⟨by dsimp only; omega, escStep60 hst hgd h⟩ (by repeat' first | exact SubE.nil | refine SubE.cons rfl ?_ ?_ | exact VEq.refl _ | refine VEq.int (by omega) | refine VEq.sl rfl (by first | rfl | omega | (rw [List.length_append]; rfl) | (simp; omega)) rfl) (Ents.refl _ _) | refine Round.mk (i + 1, o ++ eGt) (by dsimp only; omega) ⟨by dsimp only; omega, escStep62 hst hgd h⟩ (by repeat' first | exact SubE.nil | refine SubE.cons rfl ?_ ?_ | exact VEq.refl _ | refine VEq.int (by omega) | refine VEq.sl rfl (by first | rfl | omega | (rw [List.length_append]; rfl) | (simp; omega)) rfl) (Ents.refl _ _) | refine Round.mk (i + 1, o ++ eQuot) (by dsimp only; omega) ⟨by dsimp only; omega, escStep34 hst hgd h⟩ (by repeat' first | exact SubE.nil | refine SubE.cons rfl ?_ ?_ | exact VEq.refl _ | refine VEq.int (by omega) | refine VEq.sl rfl (by first | rfl | omega | (rw [List.length_append]; rfl) | (simp; omega)) rfl) (Ents.refl _ _) | rw [h1'] | refine Round.mk (i + 1, o ++ [y]) (by dsimp only; omega) ⟨by dsimp only; omega, escStepN hst hgd (by assumption) (by assumption) (by assumption) (by assumption)⟩ (by repeat' first | exact SubE.nil | refine SubE.cons rfl ?_ ?_ | exact VEq.refl _ | refine VEq.int (by omega) | refine VEq.sl rfl (by first | rfl | omega | (rw [List.length_append]; rfl) | (simp; omega)) rfl) (Ents.refl _ _)
      | fail
  · have hil : i = s.length := by omega
    subst hil
    rw [List.take_length] at ho
    subst ho
    repeat' first
      | refine J_seq ?_ | refine J_region Tryz.tyOK ?_ | refine J_block ?_ | refine J_cond ?_ | refine J_ret ?_ | refine J_skip ?_ | refine J_exit ?_ | refine J_scope ?_
      | refine CondP.yes (by omega) ?_ | refine CondP.no (by omega) ?_ | refine CondP.mk (fun h => ?_) (fun h => ?_) | refine EqP.mk rfl ?_ | refine NewP.mk (fun ad => ?_) | refine ArP.exact (by simp only [inR]; omega) ?_ | refine SideP.mk (by first | omega | (dsimp only; omega) | (simp; omega)) ?_
      | refine FinE.str rfl
      | fail

end Go.Proofs

namespace Go.Proofs
open Go Go.X
set_option maxRecDepth 100000

theorem refValid_ok (sp : Int) (s : List UInt8) (hs : s.length ≤ 1000000) : FnS Tryz.prog 29 [.agg [.i .i64 sp, .s s]] [] [] (Is (.c (.b (validT sp s)))) := by
  have hcn : (colonNo s : Int) = 0 ↔ colonNo s = 0 := by omega
  have hsl := splitOn_length_le 47 s
  have hml := mem_splitOn_le 47 s
  refine fn_of_J Tryz.tyOK 0 Tryz.func29 (by kernel_rfl) (c := Tryz.f29.body.getD .skip) (by kernel_rfl) Tryz.ntmps29 (rs := Tryz.f29.results.toList) rfl (by simp) (fun G => ?_)
  repeat' first
    | refine J_stop (c := .seq (.seq (.region 4 _ _) _) _) ?_
    | refine J_seq ?_ | refine J_region Tryz.tyOK ?_ | refine J_block ?_ | refine J_cond ?_ | refine J_ret ?_ | refine J_skip ?_ | refine J_exit ?_ | refine J_scope ?_
    | refine CondP.yes (by omega) ?_ | refine CondP.no (by omega) ?_ | refine CondP.mk (fun h => ?_) (fun h => ?_) | refine EqP.mk rfl ?_ | refine NewP.mk (fun ad => ?_) | refine ArP.exact (by simp only [inR]; omega) ?_ | refine SideP.mk (by first | omega | (dsimp only; omega) | (simp; omega)) ?_
    | refine FinE.bool ?_
    | fail
  rotate_right
  · refine ⟨?_⟩
    refine J_seq ?_
    repeat' first
      | refine J_seq ?_ | refine J_region Tryz.tyOK ?_ | refine J_block ?_ | refine J_cond ?_ | refine J_ret ?_ | refine J_skip ?_ | refine J_exit ?_ | refine J_scope ?_
      | refine CondP.yes (by omega) ?_ | refine CondP.no (by omega) ?_ | refine CondP.mk (fun h => ?_) (fun h => ?_) | refine EqP.mk rfl ?_ | refine NewP.mk (fun ad => ?_) | refine ArP.exact (by simp only [inR]; omega) ?_ | refine SideP.mk (by first | omega | (dsimp only; omega) | (simp; omega)) ?_
      | fail
      | fail
    refine J_loop (α := Nat) (fun i => [(3, .c (.s s)), (4, .c (.i .i64 i)), (1, .c (.p 0 ad 0))]) (fun _ => [.box 0 ad 23 [.i .i64 sp, .s s]]) (fun _ => []) 1
      (fun i => i ≤ s.length ∧ cleanB false s = cleanB (pv s i) (s.drop i)) (fun i => s.length - i) (InFam.mk 0 ⟨by omega, by simp [pv]⟩ (by repeat' first | exact SubE.nil | refine SubE.cons rfl ?_ ?_ | exact VEq.refl _ | refine VEq.int (by omega) | refine VEq.sl rfl (by first | rfl | omega | (rw [List.length_append]; rfl) | (simp; omega)) rfl) (Ents.refl _ _)) (fun i hi => ?_)
    obtain ⟨hi, hcl⟩ := hi
    by_cases hlt : i < s.length
    · have hst := clean_step hlt
      have hb := (s.getD i 0).toNat_lt
      have h1 := slice_one hlt
      have c1 : FnS Tryz.prog 46 [.c (.s [60, 62, 91, 93, 123, 125, 124, 35, 95]), .c (.s ((s.take (i + 1)).drop i)), .c (.i .i64 (0 : Nat))] [] [] (Is (.c (.i .i64 (Lib.indexByte [60, 62, 91, 93, 123, 125, 124, 35, 95] (s.getD i 0))))) := by
        rw [h1, ← refIdx_byte]
        exact index_ok _ _ 0 (by decide) (by simp) (by simp) (by decide)
      repeat' first
        | refine J_seq ?_ | refine J_region Tryz.tyOK ?_ | refine J_block ?_ | refine J_cond ?_ | refine J_ret ?_ | refine J_skip ?_ | refine J_exit ?_ | refine J_scope ?_
        | refine CondP.yes (by omega) ?_ | refine CondP.no (by omega) ?_ | refine CondP.mk (fun h => ?_) (fun h => ?_) | refine EqP.mk rfl ?_ | refine NewP.mk (fun ad => ?_) | refine ArP.exact (by simp only [inR]; omega) ?_ | refine SideP.mk (by first | omega | (dsimp only; omega) | (simp; omega)) ?_
        | refine CallP.is c1 ?_ | refine FinE.bool ?_ | refine Round.mk (i + 1) (by omega) ⟨by omega, ?_⟩ (by repeat' first | exact SubE.nil | refine SubE.cons rfl ?_ ?_ | exact VEq.refl _ | refine VEq.int (by omega) | refine VEq.sl rfl (by first | rfl | omega | (rw [List.length_append]; rfl) | (simp; omega)) rfl) (Ents.refl _ _)
        | fail
      all_goals simp only [Int.toNat_natCast] at *
      all_goals first | (show validT sp s = false; have hc : cleanB false s = false := by (rw [hcl, hst]; clear hcl hst; (try simp only [Int.toNat_natCast, Int.toNat_zero] at *); simp only [badB, pv, *, decide_true, decide_false, Bool.true_and, Bool.false_and, Bool.and_true, Bool.and_false, Bool.not_true, Bool.not_false, Bool.true_or, Bool.false_or, Bool.or_true, Bool.or_false, not_true, not_false_eq_true, ne_eq, if_true, if_false, Bool.false_eq_true]; try rfl)
                         simp [validT, hc]) | skip
      all_goals (rw [hcl, hst]; clear hcl hst; (try simp only [Int.toNat_natCast, Int.toNat_zero] at *); simp only [badB, pv, *, decide_true, decide_false, Bool.true_and, Bool.false_and, Bool.and_true, Bool.and_false, Bool.not_true, Bool.not_false, Bool.true_or, Bool.false_or, Bool.or_true, Bool.or_false, not_true, not_false_eq_true, ne_eq, if_true, if_false, Bool.false_eq_true]; try rfl)
    · have hil : i = s.length := by omega
      subst hil
      have hcl' : cleanB false s = true := by rw [hcl]; simp [cleanB]
      clear hcl
      repeat' first
        | refine J_seq ?_ | refine J_region Tryz.tyOK ?_ | refine J_block ?_ | refine J_cond ?_ | refine J_ret ?_ | refine J_skip ?_ | refine J_exit ?_ | refine J_scope ?_
        | refine CondP.yes (by omega) ?_ | refine CondP.no (by omega) ?_ | refine CondP.mk (fun h => ?_) (fun h => ?_) | refine EqP.mk rfl ?_ | refine NewP.mk (fun ad => ?_) | refine ArP.exact (by simp only [inR]; omega) ?_ | refine SideP.mk (by first | omega | (dsimp only; omega) | (simp; omega)) ?_
        | refine CallP.mk [] _ _ _ (parts_ok s hs) (List.Perm.refl _) (fun _ h => h) (fun v L' D' hp => ?_); obtain ⟨a, c, rfl, rfl, rfl⟩ := hp
        | fail
      refine J_loop (α := Nat) (fun i => [(6, .c (.i .i64 i)), (5, .c (.sl a (splitOn 47 s).length c)), (3, .c (.s s)), (1, .c (.p 0 ad 0))])
        (fun _ => [.box 0 ad 23 [.i .i64 sp, .s s]]) (fun _ => [slFact 9 1 a (splitOn 47 s).length ((splitOn 47 s).map C.s)]) 1
        (fun i => i ≤ (splitOn 47 s).length ∧ (splitOn 47 s).all pieceOK = ((splitOn 47 s).drop i).all pieceOK) (fun i => (splitOn 47 s).length - i)
        (InFam.mk 0 ⟨by omega, rfl⟩ (by repeat' first | exact SubE.nil | refine SubE.cons rfl ?_ ?_ | exact VEq.refl _ | refine VEq.int (by omega) | refine VEq.sl rfl (by first | rfl | omega | (rw [List.length_append]; rfl) | (simp; omega)) rfl) Ents.toFact) (fun i hi => ?_)
      obtain ⟨hi, hal⟩ := hi
      by_cases hlt : i < (splitOn 47 s).length
      · have hrd : Reads [.box 0 ad 23 [.i .i64 sp, .s s]] [slFact 9 1 a (splitOn 47 s).length ((splitOn 47 s).map C.s)] 9 1 a (splitOn 47 s).length ((splitOn 47 s).map C.s) :=
          .inr fun m h => h.1
        rw [List.drop_eq_getElem_cons hlt, List.all_cons] at hal
        have hpl := hml _ (List.getElem_mem hlt)
        repeat' first
          | refine J_seq ?_ | refine J_region Tryz.tyOK ?_ | refine J_block ?_ | refine J_cond ?_ | refine J_ret ?_ | refine J_skip ?_ | refine J_exit ?_ | refine J_scope ?_
          | refine CondP.yes (by omega) ?_ | refine CondP.no (by omega) ?_ | refine CondP.mk (fun h => ?_) (fun h => ?_) | refine EqP.mk rfl ?_ | refine NewP.mk (fun ad => ?_) | refine ArP.exact (by simp only [inR]; omega) ?_ | refine SideP.mk (by first | omega | (dsimp only; omega) | (simp; omega)) ?_
          | refine J_draw Tryz.tyOK (by kernel_rfl) [0, 1, 2, 3, 4, 5, 6, 7, 8, 9, 10, 11, 12, 13, 14, 15, 16, 17, 18, 19, 20, 21, 22, 23, 24, 25, 26] [] _ _ (by kernel_rfl) (Ents.refl _ _) ?_ | refine IdxE.mk 9 1 _ hrd (by omega) (by omega) ?_ | refine LoadE.mk 9 _ _ [C.s (splitOn 47 s)[i]] hrd (by omega) (by omega) (by omega) (map_take1 hlt) ?_ | refine SideP.mk (by have := pos_of_ne ‹¬ (splitOn 47 s)[i] = []›; omega) ?_ | refine FinE.bool ?_ | refine Round.mk (i + 1) (by omega) ⟨by omega, ?_⟩ (by repeat' first | exact SubE.nil | refine SubE.cons rfl ?_ ?_ | exact VEq.refl _ | refine VEq.int (by omega) | refine VEq.sl rfl (by first | rfl | omega | (rw [List.length_append]; rfl) | (simp; omega)) rfl) (Ents.refl _ _)
          | fail
        all_goals ((try simp only [Int.toNat_natCast, Int.toNat_zero] at *); simp only [validT, pieceOK, *, decide_true, decide_false, Bool.true_and, Bool.false_and, Bool.and_true, Bool.and_false, Bool.not_true, Bool.not_false, Bool.true_or, Bool.false_or, Bool.or_true, Bool.or_false, not_true, not_false_eq_true, ne_eq, if_true, if_false, Bool.false_eq_true]; try rfl)
      · have hil : i = (splitOn 47 s).length := by omega
        subst hil
        simp only [List.drop_length, List.all_nil] at hal
        have e : ∀ b : Bool, b = (headOK s && (!decide (sp = 0) || !decide (colonNo s ≠ 0))) → validT sp s = b := by
          rintro b rfl
          (try simp only [Int.toNat_natCast, Int.toNat_zero] at *); simp only [validT, *, decide_true, decide_false, Bool.true_and, Bool.false_and, Bool.and_true, Bool.and_false, Bool.not_true, Bool.not_false, Bool.true_or, Bool.false_or, Bool.or_true, Bool.or_false, not_true, not_false_eq_true, ne_eq, if_true, if_false, Bool.false_eq_true]
        clear hal hcl'
        repeat' first
          | refine J_seq ?_ | refine J_region Tryz.tyOK ?_ | refine J_block ?_ | refine J_cond ?_ | refine J_ret ?_ | refine J_skip ?_ | refine J_exit ?_ | refine J_scope ?_
          | refine CondP.yes (by omega) ?_ | refine CondP.no (by omega) ?_ | refine CondP.mk (fun h => ?_) (fun h => ?_) | refine EqP.mk rfl ?_ | refine NewP.mk (fun ad => ?_) | refine ArP.exact (by simp only [inR]; omega) ?_ | refine SideP.mk (by first | omega | (dsimp only; omega) | (simp; omega)) ?_
          | refine FinE.bool (e _ ?_) | refine CallP.is (prefixed_ok s hs) ?_
          | fail
        all_goals (clear e; rw [hcn] at *; (try simp only [Int.toNat_natCast, Int.toNat_zero] at *); simp only [headOK, *, decide_true, decide_false, Bool.true_and, Bool.false_and, Bool.and_true, Bool.and_false, Bool.not_true, Bool.not_false, Bool.true_or, Bool.false_or, Bool.or_true, Bool.or_false, not_true, not_false_eq_true, ne_eq, if_true, if_false, Bool.false_eq_true]; try rfl)
  all_goals ((try simp only [Int.toNat_natCast, Int.toNat_zero] at *); simp only [validT, *, decide_true, decide_false, Bool.true_and, Bool.false_and, Bool.and_true, Bool.and_false, Bool.not_true, Bool.not_false, Bool.true_or, Bool.false_or, Bool.or_true, Bool.or_false, not_true, not_false_eq_true, ne_eq, if_true, if_false, Bool.false_eq_true]; try rfl)

end Go.Proofs

namespace Go.X
open Go.Lib

/-- No two blanks side by side. -/
def ND (t : List UInt8) : Prop := ∀ a b, t ≠ a ++ 32 :: 32 :: b

theorem ND.drop {t : List UInt8} (h : ND t) (n : Nat) : ND (t.drop n) := fun a b he => h (t.take n ++ a) b (by
  rw [List.append_assoc, ← he, List.take_append_drop])
theorem ND.take {t : List UInt8} (h : ND t) (n : Nat) : ND (t.take n) := fun a b he => h a (b ++ t.drop n) (by
  have := congrArg (· ++ t.drop n) he
  simpa using this)
theorem ND.trimPrefix {t : List UInt8} (h : ND t) (p : List UInt8) : ND (trimPrefix t p) := by
  unfold Lib.trimPrefix; split
  · exact h.drop _
  · exact h
theorem ND.trimSuffix {t : List UInt8} (h : ND t) (p : List UInt8) : ND (trimSuffix t p) := by
  unfold Lib.trimSuffix; split
  · exact h.take _
  · exact h
theorem ND.nil : ND [] := fun a b h => by simp at h
theorem ND.tail {x : UInt8} {t : List UInt8} (h : ND (x :: t)) : ND t := h.drop 1

theorem ND.snoc {o : List UInt8} {c : UInt8} (h : ND o) (hc : c = 32 → ∀ a, o ≠ a ++ [32]) : ND (o ++ [c]) := fun a b he => by
  rcases List.eq_nil_or_concat b with rfl | ⟨q, y, rfl⟩
  · have e : o ++ [c] = (a ++ [32]) ++ [32] := by rw [he]; simp
    obtain ⟨h1, h2⟩ := List.append_inj' e rfl
    simp only [List.cons.injEq, and_true] at h2
    exact hc h2 a h1
  · have e : o ++ [c] = (a ++ 32 :: 32 :: q) ++ [y] := by rw [he]; simp
    exact h a q (List.append_inj' e rfl).1

theorem ND.step {o : List UInt8} {c : UInt8} (h : ND o) : ND (stepB o c) := by
  by_cases hc : c = 32
  · subst hc
    by_cases h0 : o = []
    · subst h0; rw [stepB_nil]; exact h
    · by_cases hl : ((o.getD ((o.length : Int) - 1).toNat 0).toNat : Int) = 32
      · rw [stepB_blank hl]; exact h
      · rw [stepB_first h0 hl]
        refine h.snoc fun _ a he => hl ?_
        subst he
        have e : (((a ++ [32]).length : Int) - 1).toNat = a.length := by simp
        rw [e]
        simp
  · rw [stepB_other hc]
    exact h.snoc fun hh => absurd hh hc

theorem ND.single (s : List UInt8) : ND (singleB s) := by
  unfold singleB
  refine ND.trimSuffix ?_ _
  have : ∀ (l : List UInt8) (o : List UInt8), ND o → ND (l.foldl stepB o) := by
    intro l
    induction l with
    | nil => exact fun o h => h
    | cons x r ih => exact fun o h => ih _ h.step
  exact this s [] ND.nil

/-- Without each blank next to a slash; p: is there a slash ahead? -/
def dropR : Bool → List UInt8 → List UInt8
  | _, [] => []
  | p, x :: r => if x = 32 then (if p = true ∨ r.head? = some 47 then dropR false r else 32 :: dropR false r) else x :: dropR (x = 47) r

/-- The pieces, trimmed, with slashes between them; b: is the first piece the first one of all? -/
def joinR : Bool → List (List UInt8) → List UInt8
  | _, [] => []
  | b, [p] => if b = true then p else trimLeftB p 32
  | b, p :: q :: r => trimRightB (if b = true then p else trimLeftB p 32) 32 ++ 47 :: joinR false (q :: r)

theorem trimR_cons (x : UInt8) (l : List UInt8) (c : UInt8) : trimRightB (x :: l) c = if trimRightB l c = [] ∧ x = c then [] else x :: trimRightB l c := by
  unfold trimRightB
  rw [List.reverse_cons, List.dropWhile_append]
  by_cases h : (l.reverse.dropWhile (· == c)) = []
  · simp only [h, List.isEmpty_nil, if_true, List.reverse_nil]
    by_cases hx : x = c
    · subst hx; simp
    · simp [hx]
  · have h2 : (l.reverse.dropWhile (· == c)).isEmpty = false := by simpa using h
    simp only [h2, Bool.false_eq_true, if_false]
    rw [if_neg (by simp [h])]
    simp
theorem trimL_cons (x : UInt8) (l : List UInt8) (c : UInt8) : trimLeftB (x :: l) c = if x = c then trimLeftB l c else x :: l := by
  unfold trimLeftB
  simp only [List.dropWhile_cons, beq_iff_eq]
theorem trimL_nil (c : UInt8) : trimLeftB [] c = [] := rfl
theorem trimR_nil (c : UInt8) : trimRightB [] c = [] := rfl

theorem split_head (c : UInt8) (r : List UInt8) : ((splitOn c r).headD []).head? = if r.head? = some c then none else r.head? := by
  cases r with
  | nil => rfl
  | cons x r =>
    by_cases h : x = c
    · subst h; simp [splitOn]
    · simp [splitOn, h]

theorem dropR_eq : ∀ (t : List UInt8) (b : Bool), ND t → dropR (!b) t = joinR b (splitOn 47 t)
  | [], b, _ => by cases b <;> rfl
  | x :: r, b, h => by
    have ih := fun b => dropR_eq r b h.tail
    have ih1 := ih true
    have ih0 := ih false
    have hh := split_head 47 r
    have e := splitOn_eq 47 r
    have h32 : x = 32 → r.head? ≠ some 32 := fun hx hr => by
      cases r with
      | nil => simp at hr
      | cons y q =>
        simp at hr
        subst hx; subst hr
        exact h [] q rfl
    generalize hp : (splitOn 47 r).headD [] = p at *
    generalize hq : (splitOn 47 r).tail = q at *
    rw [e] at ih1 ih0
    simp only [Bool.not_true, Bool.not_false] at ih1 ih0
    by_cases h47 : x = 47
    · subst h47
      have e2 : splitOn 47 (47 :: r) = [] :: p :: q := by simp only [splitOn, if_true]; exact congrArg _ e
      rw [e2]
      simp only [dropR, joinR, decide_true]
      rw [if_neg (by decide), ih0]
      cases b <;> rfl
    · have e2 : splitOn 47 (x :: r) = (x :: p) :: q := by simp only [splitOn, if_neg h47, hp, hq]
      rw [e2]
      by_cases hx : x = 32
      · subst hx
        have hr := h32 rfl
        have hpl : trimLeftB p 32 = p := by
          cases p with
          | nil => rfl
          | cons y p' =>
            rw [trimL_cons, if_neg]
            rintro rfl
            by_cases hc : r.head? = some 47
            · rw [if_pos hc] at hh; simp at hh
            · rw [if_neg hc] at hh; exact hr (by rw [← hh]; rfl)
        have hpr : p ≠ [] → trimRightB p 32 ≠ [] := by
          cases p with
          | nil => exact fun h => absurd rfl h
          | cons y p' =>
            intro _ hc
            rw [trimR_cons] at hc
            split at hc
            · rename_i hy
              have hy' := hy.2
              subst hy'
              by_cases hc : r.head? = some 47
              · rw [if_pos hc] at hh; simp at hh
              · rw [if_neg hc] at hh; exact hr (by rw [← hh]; rfl)
            · cases hc
        have hpe : p = [] → r.head? = some 47 ∨ r = [] := fun hp0 => by
          rw [hp0] at hh
          by_cases hc : r.head? = some 47
          · exact .inl hc
          · rw [if_neg hc] at hh
            right
            cases r with
            | nil => rfl
            | cons y q => simp at hh
        have hpn : p ≠ [] → r.head? ≠ some 47 := fun hp0 hc => by
          rw [if_pos hc] at hh
          cases p with
          | nil => exact hp0 rfl
          | cons y p' => simp at hh
        simp only [dropR, if_true]
        cases b with
        | false =>
          rw [if_pos (.inl rfl), ih1]
          cases q with
          | nil => simp only [joinR, Bool.false_eq_true, if_false, if_true]; rw [trimL_cons, if_pos rfl, hpl]
          | cons y q' => simp only [joinR, Bool.false_eq_true, if_false, if_true]; rw [trimL_cons, if_pos rfl, hpl]
        | true =>
          cases q with
          | nil =>
            have hn : ¬ ((!true) = true ∨ r.head? = some 47) := by
              rintro (hb | hc)
              · simp at hb
              · have : r.head? = some 47 := hc
                cases r with
                | nil => simp at this
                | cons y r' =>
                  simp at this
                  subst this
                  simp [splitOn] at hq
                  exact splitOn_ne _ _ hq
            rw [if_neg hn, ih1]
            rfl
          | cons y q' =>
            simp only [joinR, if_true] at ih1 ⊢
            by_cases hp0 : p = []
            · subst hp0
              rcases hpe rfl with hc | hc
              · rw [if_pos (.inr hc), ih1, trimR_cons, if_pos ⟨rfl, rfl⟩]
                rfl
              · subst hc
                simp [splitOn] at hq
            · have hn : ¬ ((!true) = true ∨ r.head? = some 47) := by
                rintro (hb | hc)
                · simp at hb
                · exact hpn hp0 hc
              rw [if_neg hn, ih1, trimR_cons, if_neg (fun hh => hpr hp0 hh.1)]
              rfl
      · simp only [dropR, if_neg hx, decide_eq_false h47]
        rw [ih1]
        cases q with
        | nil =>
          simp only [joinR, if_true]
          cases b
          · simp only [Bool.false_eq_true, if_false]; rw [trimL_cons, if_neg hx]
          · rfl
        | cons y q' =>
          simp only [joinR, if_true]
          cases b
          · simp only [Bool.false_eq_true, if_false]; rw [trimL_cons, if_neg hx, trimR_cons, if_neg (fun hh => hx hh.2)]; rfl
          · simp only [if_true]; rw [trimR_cons, if_neg (fun hh => hx hh.2)]; rfl

/-- What the pieces of the program are. -/
theorem joinR_pieces : ∀ (ps : List (List UInt8)) (k n : Nat), n = k + ps.length → joinOn 47 (ps.mapIdx fun i p => slP n (k + i) p) = joinR (decide (k = 0)) ps
  | [], _, _, _ => rfl
  | [p], k, n, hn => by
    subst hn
    simp only [List.mapIdx_cons, List.mapIdx_nil, joinOn, joinR, Nat.add_zero, List.length_cons, List.length_nil, Nat.zero_add]
    unfold slP
    rw [if_neg (by omega)]
    by_cases hk : k = 0
    · rw [if_neg (by omega), decide_eq_true hk]; rfl
    · rw [if_pos (by omega), decide_eq_false hk]; rfl
  | p :: q :: r, k, n, hn => by
    have ih := joinR_pieces (q :: r) (k + 1) n (by simp at hn ⊢; omega)
    have e : ((p :: q :: r).mapIdx fun i p => slP n (k + i) p) = slP n k p :: ((q :: r).mapIdx fun i p => slP n (k + 1 + i) p) := by
      rw [List.mapIdx_cons]
      simp only [Nat.add_zero, Nat.add_assoc, Nat.add_comm 1]
    have hne : ((q :: r).mapIdx fun i p => slP n (k + 1 + i) p) ≠ [] := by simp [List.mapIdx_cons]
    rw [e]
    cases hm : (q :: r).mapIdx fun i p => slP n (k + 1 + i) p with
    | nil => exact absurd hm hne
    | cons y t =>
      rw [hm] at ih
      simp only [joinOn, joinR]
      rw [ih, decide_eq_false (by omega : ¬ k + 1 = 0)]
      congr 1
      unfold slP
      simp only [List.length_cons] at hn
      rw [if_pos (by omega)]
      by_cases hk : k = 0
      · rw [if_neg (by omega), decide_eq_true hk]; rfl
      · rw [if_pos (by omega), decide_eq_false hk]; rfl

/-- Is there a slash just ahead of place i? -/
def ps (t : List UInt8) (i : Nat) : Bool := decide (0 < (i : Int)) && decide (((t.getD ((i : Int) - 1).toNat 0).toNat : Int) = 47)

/-- Is the byte at place i left out? -/
def skipB (t : List UInt8) (i : Nat) : Bool := decide (((t.getD i 0).toNat : Int) = 32) && (ps t i || (decide ((i : Int) + 1 < (t.length : Int)) && decide (((t.getD ((i : Int) + 1).toNat 0).toNat : Int) = 47)))

theorem byte_iff {x : UInt8} {n : Nat} (hn : n < 256) : (x.toNat : Int) = (n : Int) ↔ x = UInt8.ofNat n := by
  have e : (UInt8.ofNat n).toNat = n % 256 := by simp
  rw [Nat.mod_eq_of_lt hn] at e
  constructor
  · intro h; exact UInt8.toNat_inj.1 (by rw [e]; omega)
  · rintro rfl; rw [e]

theorem dropR_step {t : List UInt8} {i : Nat} (h : i < t.length) : dropR (ps t i) (t.drop i) = if skipB t i = true then dropR (ps t (i + 1)) (t.drop (i + 1)) else t.getD i 0 :: dropR (ps t (i + 1)) (t.drop (i + 1)) := by
  have hd : t.drop i = t.getD i 0 :: t.drop (i + 1) := by rw [List.drop_eq_getElem_cons h]; simp [h]
  have hp : ps t (i + 1) = decide (t.getD i 0 = 47) := by
    have h1 : (((i + 1 : Nat) : Int) - 1).toNat = i := by omega
    have h2 : (0 : Int) < ((i + 1 : Nat) : Int) := by omega
    unfold ps
    rw [h1, decide_eq_true h2, Bool.true_and]
    exact decide_eq_decide.2 (byte_iff (n := 47) (by decide))
  have hn : (t.drop (i + 1)).head? = some 47 ↔ (decide ((i : Int) + 1 < (t.length : Int)) && decide (((t.getD ((i : Int) + 1).toNat 0).toNat : Int) = 47)) = true := by
    have h1 : ((i : Int) + 1).toNat = i + 1 := by omega
    rw [h1, Bool.and_eq_true, decide_eq_true_eq, decide_eq_true_eq, List.head?_drop]
    have h2 : (((t.getD (i + 1) 0).toNat : Int) = 47) ↔ t.getD (i + 1) 0 = 47 := byte_iff (n := 47) (by decide)
    rw [h2]
    by_cases hl : i + 1 < t.length
    · have h3 : (i : Int) + 1 < (t.length : Int) := by omega
      simp [hl, h3]
    · have h3 : ¬ (i : Int) + 1 < (t.length : Int) := by omega
      simp [hl, h3]
  rw [hd, hp]
  simp only [dropR]
  unfold skipB
  have h32 : (((t.getD i 0).toNat : Int) = 32) ↔ t.getD i 0 = 32 := byte_iff (n := 32) (by decide)
  by_cases hx : t.getD i 0 = 32
  · have h4 : decide (t.getD i 0 = 47) = false := by rw [hx]; decide
    rw [if_pos hx, decide_eq_true (h32.2 hx), Bool.true_and, h4]
    by_cases hc : ps t i = true ∨ (t.drop (i + 1)).head? = some 47
    · rw [if_pos hc, if_pos]
      rw [Bool.or_eq_true, ← hn]; exact hc
    · rw [if_neg hc, if_neg, hx]
      rw [Bool.or_eq_true, ← hn]; exact hc
  · rw [if_neg hx, decide_eq_false (fun hh => hx (h32.1 hh)), Bool.false_and, if_neg (by decide)]

theorem slashes_eq (t : List UInt8) (h : ND t) : slashesB t = dropR false t := by
  have h1 := joinR_pieces (splitOn 47 t) 0 (splitOn 47 t).length (by simp)
  have h2 := dropR_eq t true h
  simp only [Nat.zero_add, decide_true] at h1
  rw [← h1] at h2
  exact h2.symm

end Go.X

namespace Go.Proofs
open Go Go.X
set_option maxRecDepth 100000

theorem nd_colon {t : List UInt8} (h : ND t) : ND (noColon t) := by
  unfold noColon; split
  · exact (h.drop 1).trimPrefix _
  · exact h
theorem nd_behind {t : List UInt8} (h : ND t) : ND (behind t) := by
  unfold behind
  by_cases hc : (cutAt 58 t).2.2 = true
  · rw [← (cutAt_drop 58 t hc).1]; exact h.drop _
  · have : ∀ s : List UInt8, ¬ (cutAt 58 s).2.2 = true → (cutAt 58 s).2.1 = [] := by
      intro s
      induction s with
      | nil => intro _; rfl
      | cons x r ih =>
        intro hn
        simp only [cutAt] at hn ⊢
        split
        · rename_i hx; rw [if_pos hx] at hn; simp at hn
        · rename_i hx; rw [if_neg hx] at hn; exact ih hn
    rw [this t hc]; exact ND.nil
theorem nd_space {t : List UInt8} (h : ND t) : ND (noSpace t) := by
  unfold noSpace; split
  · exact (nd_behind h).trimPrefix _
  · exact h

theorem upB_eq (t : List UInt8) : upB t = if (decide (0 < (t.length : Int)) && decide (97 ≤ ((t.getD 0 0).toNat : Int)) && decide (((t.getD 0 0).toNat : Int) ≤ 122)) = true then [t.getD 0 0 - 32] ++ t.drop 1 else t := by
  have : (!decide (t = [])) = decide (0 < (t.length : Int)) := by
    cases t with
    | nil => rfl
    | cons x r => simp
  unfold upB
  rw [this]

def prefV (n k : Nat) : Bool → V
  | true => .t2 (.c (.i .i64 n)) (.c (.i .i64 k))
  | false => .t2 (.c (.i .i64 0)) (.c (.i .i64 0))

end Go.Proofs

namespace Go.Proofs
open Go Go.X
set_option maxRecDepth 100000


/-- The cells of titles of one namespace. -/
def titlesC (sp : Int) (l : List (List UInt8)) : List C := l.flatMap fun p => [.i .i64 sp, .s p]

end Go.Proofs

namespace Go.Proofs
open Go Go.X
set_option maxRecDepth 100000

theorem refFormat_ok (sp : Int) (s : List UInt8) (hs : s.length ≤ 1000000) : FnS Tryz.prog 45 [.agg [.i .i64 sp, .s s]] [] [] (Is (.c (.s (formatT sp s)))) := by
  have hb := @validT_bounds sp s
  have hn := spName_le sp.toNat
  refine fn_of_J Tryz.tyOK 0 Tryz.func45 (by kernel_rfl) (c := Tryz.f45.body.getD .skip) (by kernel_rfl) Tryz.ntmps45 (rs := Tryz.f45.results.toList) rfl (by simp) (fun G => ?_)
  repeat' first
    | refine J_seq ?_ | refine J_region Tryz.tyOK ?_ | refine J_block ?_ | refine J_cond ?_ | refine J_ret ?_ | refine J_skip ?_ | refine J_exit ?_ | refine J_scope ?_
    | refine CondP.yes (by omega) ?_ | refine CondP.no (by omega) ?_ | refine CondP.mk (fun h => ?_) (fun h => ?_) | refine EqP.mk rfl ?_ | refine NewP.mk (fun ad => ?_) | refine ArP.exact (by simp only [inR]; omega) ?_ | refine SideP.mk (by first | omega | (dsimp only; omega) | (simp; omega)) ?_
    | refine CallP.isB (refValid_ok sp s hs) (fun hv => ?_) (fun hv => ?_) | refine FinE.str ?_ | refine J_draw Tryz.tyOK (by kernel_rfl) [0, 1, 2, 3, 4, 5, 6, 7] [] _ _ (by kernel_rfl) (Ents.refl _ _) ?_ | refine CallQ.mk [] _ (spaceName_ok _) (fun _ _ => trivial) ?_ | refine SideP.mk (by have := hb hv; simp; omega) ?_
    | fail
  all_goals
    unfold formatT
    repeat (first | rw [if_pos (by assumption)] | rw [if_neg (by assumption)] | rw [if_neg (by simp [*])])
    try rfl
end Go.Proofs
