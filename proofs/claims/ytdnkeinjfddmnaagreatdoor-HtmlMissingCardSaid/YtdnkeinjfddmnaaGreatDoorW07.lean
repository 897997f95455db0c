/- This text says in plain Lean what the functions on titles compute. · This text walks through the functions of the package title, and shows what each computes. · This text says in plain Lean what the reference functions of chapter 1 compute, and links it to what the package title computes. · This text walks through the small functions of the reference of chapter 1. · This text walks through the functions prefixed, cut, blanks and Parts of the reference of chapter 1. · This text walks through the functions blanks and Parts of the reference of chapter 1. · This text walks through the function Valid of the reference of chapter 1. · This text proves in plain Lean that, in a text without two blanks side by side, leaving out each blank next to a slash is the same as trimming the pieces between the slashes. · This text walks through the function Valid of the package title. · This text walks through the function Parse of the package title, and what it calls. · This text walks through the functions Parse, Format, Compare and Resolve of the package title. · This text walks through the function Parse of the reference of chapter 1. · This text walks through the functions Format and Compare of the package title. · This text walks through the functions Resolve and Ancestors of the package title. · This text walks through the functions Ancestors and Format of the reference of chapter 1. · This text walks through the tape from which statements make inputs, and the titles that it makes. -/
import Derived.Test.YtdnkeinjfddmnaaGreatDoorW05
import Derived.Lib.SlTrimSet
import Derived.Test.YtdnkeinjfddmnaaGreatDoorW06
set_option linter.all false
namespace Go.X
def lowB (b : UInt8) : UInt8 := if 65 ≤ b ∧ b ≤ 90 then b + 32 else b
theorem lowB_yes {b : UInt8} (h : 65 ≤ (b.toNat : Int)) (h' : (b.toNat : Int) ≤ 90) : ((lowB b).toNat : Int) = b.toNat + 32 := by
  have h1 : (65 : UInt8) ≤ b := by rw [UInt8.le_iff_toNat_le]; simp; omega
  have h2 : b ≤ (90 : UInt8) := by rw [UInt8.le_iff_toNat_le]; simp; omega
  unfold lowB
  rw [if_pos ⟨h1, h2⟩, UInt8.toNat_add]
  simp; omega
theorem lowB_no {b : UInt8} (h : ¬ (65 ≤ (b.toNat : Int) ∧ (b.toNat : Int) ≤ 90)) : lowB b = b := by
  unfold lowB
  rw [if_neg]
  rintro ⟨h1, h2⟩
  rw [UInt8.le_iff_toNat_le] at h1 h2
  simp at h1 h2
  omega
def spName : Nat → List UInt8
  | 1 => [84, 97, 108, 107]
  | 2 => [85, 115, 101, 114]
  | 3 => [84, 101, 109, 112, 108, 97, 116, 101]
  | 4 => [67, 97, 116, 101, 103, 111, 114, 121]
  | 5 => [80, 114, 111, 106, 101, 99, 116]
  | _ => []
def spaceNo (p : List UInt8) : Nat :=
  if p.map lowB = (spName 1).map lowB then 1 else if p.map lowB = (spName 2).map lowB then 2 else if p.map lowB = (spName 3).map lowB then 3
  else if p.map lowB = (spName 4).map lowB then 4 else if p.map lowB = (spName 5).map lowB then 5 else 0
def colonNo (s : List UInt8) : Nat := if (cutAt 58 s).2.2 = true then spaceNo (Lib.trimSuffix (cutAt 58 s).1 [32]) else 0
def behind (s : List UInt8) : List UInt8 := (cutAt 58 s).2.1
def badB (c : UInt8) : Bool := decide ((c.toNat : Int) < 32) || decide ((c.toNat : Int) = 127) || decide (0 ≤ Lib.indexByte [60, 62, 91, 93, 123, 125, 124, 35, 95] c)
def cleanB : Bool → List UInt8 → Bool
  | _, [] => true
  | p, c :: r => !badB c && !(p && c.toNat == 32) && cleanB (c.toNat == 32) r
def pieceOK (p : List UInt8) : Bool := !decide (p = []) && !decide (((p.getD 0 0).toNat : Int) = 32) && !decide (((p.getD ((p.length : Int) - 1).toNat 0).toNat : Int) = 32)
def headOK (s : List UInt8) : Bool := !decide (((s.getD 0 0).toNat : Int) = 58) && !(decide (97 ≤ ((s.getD 0 0).toNat : Int)) && decide (((s.getD 0 0).toNat : Int) ≤ 122))
def validT (sp : Int) (s : List UInt8) : Bool :=
  !decide (sp < 0) && !decide (6 ≤ sp) && !decide ((s.length : Int) < 1) && !decide (100 < (s.length : Int)) && cleanB false s && (splitOn 47 s).all pieceOK && headOK s && (!decide (sp = 0) || !decide (colonNo s ≠ 0))
theorem trimSuffix_le (s p : List UInt8) : (Lib.trimSuffix s p).length ≤ s.length := by
  unfold Lib.trimSuffix; split
  · simp
  · exact Nat.le_refl _
theorem cutAt_len1 (c : UInt8) : ∀ s : List UInt8, (cutAt c s).1.length ≤ s.length
  | [] => by simp [cutAt]
  | x :: r => by
    have := cutAt_len1 c r
    simp only [cutAt]; split <;> simp; omega
theorem validT_bounds {sp : Int} {s : List UInt8} (h : validT sp s = true) : 0 ≤ sp ∧ sp < 6 ∧ 1 ≤ s.length ∧ s.length ≤ 100 := by
  unfold validT at h
  simp only [Bool.and_eq_true, Bool.not_eq_true', decide_eq_false_iff_not] at h
  omega
def formatT (sp : Int) (s : List UInt8) : List UInt8 := if validT sp s = true then (if sp = 0 then s else spName sp.toNat ++ [58] ++ s) else []
theorem spName_le (n : Nat) : (spName n).length ≤ 8 := by unfold spName; split <;> decide
theorem formatT_le (sp : Int) (s : List UInt8) : (formatT sp s).length ≤ 109 := by
  unfold formatT
  split
  · rename_i h
    have h1 := validT_bounds h
    have h2 := spName_le sp.toNat
    split <;> simp <;> omega
  · simp
def compareT (a : Int) (x : List UInt8) (b : Int) (y : List UInt8) : Int := if Lib.compareInt a b ≠ 0 then Lib.compareInt a b else Lib.compareBytes x y
end Go.X
namespace Go.Proofs
open Go Go.X
set_option maxRecDepth 100000
theorem setC_one {l : List C} {i : Nat} {x : C} (h : i < l.length) : setC i [x] l = l.set i x := by
  rw [List.set_eq_take_append_cons_drop, if_pos h]; simp [setC]
def mixed (l : List UInt8) (i : Nat) : List UInt8 := (l.take i).map lowB ++ l.drop i
theorem mixed_get {l : List UInt8} {i : Nat} (h : i < l.length) : ((mixed l i).map byteC).drop i = byteC l[i] :: (l.drop (i + 1)).map byteC := by
  rw [← List.map_drop, mixed, List.drop_left' (by simp; omega), List.drop_eq_getElem_cons h, List.map_cons]
theorem mixed_len {l : List UInt8} {i : Nat} (h : i ≤ l.length) : (mixed l i).length = l.length := by simp [mixed]; omega
theorem mixed_succ {l : List UInt8} {i : Nat} (h : i < l.length) : (mixed l i).set i (lowB l[i]) = mixed l (i + 1) := by
  unfold mixed
  have hlen : ((l.take i).map lowB).length = i := by simp; omega
  rw [List.set_append_right _ _ (by omega), List.take_succ_eq_append_getElem h, hlen, Nat.sub_self, List.drop_eq_getElem_cons h, List.set_cons_zero, List.map_append]
  simp
theorem mixed_same {l : List UInt8} {i : Nat} (h : i < l.length) (h' : lowB l[i] = l[i]) : mixed l i = mixed l (i + 1) := by
  rw [← mixed_succ h, h']
  have := mixed_get h
  have hi : (mixed l i)[i]? = some l[i] := by
    have h2 := congrArg (fun x => x[0]?) this
    simp only [List.getElem?_drop, Nat.add_zero, List.getElem?_cons_zero, List.getElem?_map] at h2
    cases hx : (mixed l i)[i]? with
    | none => rw [hx] at h2; simp at h2
    | some u =>
      rw [hx] at h2
      simp [byteC] at h2
      have : u.toNat = l[i].toNat := by omega
      rw [UInt8.toNat_inj.1 this]
  obtain ⟨hlt, he⟩ := List.getElem?_eq_some_iff.1 hi
  rw [← he, List.set_getElem_self]
theorem fold_ok (l : List UInt8) (hl : l.length ≤ 1100000) : FnS Tryz.prog 159 [.c (.s l)] [] [] (Is (.c (.s (l.map lowB)))) := by
  refine fn_of_J Tryz.tyOK 0 Tryz.func159 (by kernel_rfl) (c := Tryz.f159.body.getD .skip) (by kernel_rfl) Tryz.ntmps159 (rs := Tryz.f159.results.toList) rfl (by simp) (fun G => ?_)
  repeat' first
    | refine J_seq ?_ | refine J_region Tryz.tyOK ?_ | refine J_block ?_ | refine J_cond ?_ | refine J_ret ?_ | refine J_skip ?_ | refine J_exit ?_ | refine J_scope ?_
    | refine CondP.yes (by omega) ?_ | refine CondP.no (by omega) ?_ | refine CondP.mk (fun h => ?_) (fun h => ?_) | refine EqP.mk rfl ?_ | refine NewP.mk (fun ad => ?_) | refine ArP.exact (by simp only [inR]; omega) ?_ | refine SideP.mk (by first | omega | (dsimp only; omega) | (simp; omega)) ?_
    | refine NewB.mk (fun ad c => ?_)
    | fail
  refine J_loop (α := Nat) (fun i => [(10, .c (.i .i64 i)), (9, lenV l.length), (8, .c (.sl (some ⟨ad, 0, none⟩) l.length c)), (3, .c (.sl (some ⟨ad, 0, none⟩) l.length c))])
    (fun i => [.row 5 1 (some ⟨ad, 0, none⟩) l.length c ((mixed l i).map byteC)]) (fun _ => []) 0 (fun i => i ≤ l.length) (fun i => l.length - i) (InFam.mk 0 (by omega) ?_ (Ents.of (by simp [mixed]))) (fun i hi => ?_)
  · repeat' first
      | exact SubE.nil | refine SubE.cons rfl ?_ ?_ | exact VEq.refl _ | refine VEq.int (by omega) | refine VEq.sl rfl (by first | rfl | omega | (rw [List.length_append]; rfl) | (simp; omega)) rfl
      | fail
  have hrd : Reads [.row 5 1 (some ⟨ad, 0, none⟩) l.length c ((mixed l i).map byteC)] [] 5 1 (some ⟨ad, 0, none⟩) l.length ((mixed l i).map byteC) := .inl ⟨c, by simp⟩
  by_cases hlt : i < l.length
  · have hb := (l[i]).toNat_lt
    have hg := mixed_get hlt
    repeat' first
      | refine J_seq ?_ | refine J_region Tryz.tyOK ?_ | refine J_block ?_ | refine J_cond ?_ | refine J_ret ?_ | refine J_skip ?_ | refine J_exit ?_ | refine J_scope ?_
      | refine CondP.yes (by omega) ?_ | refine CondP.no (by omega) ?_ | refine CondP.mk (fun h => ?_) (fun h => ?_) | refine EqP.mk rfl ?_ | refine NewP.mk (fun ad => ?_) | refine ArP.exact (by simp only [inR]; omega) ?_ | refine SideP.mk (by first | omega | (dsimp only; omega) | (simp; omega)) ?_
      | refine IdxE.mk 5 1 _ hrd (by omega) (by omega) ?_ | refine LoadE.mk 5 _ _ [byteC l[i]] hrd (by omega) (by omega) (by omega) (by simp [hg]) ?_ | (exfalso; omega)
      | fail
    · refine StoreE.mk [] [] 5 _ c _ ((mixed l (i + 1)).map byteC) rfl (by omega) (by omega) (by simp) ?_ ?_
      · rw [← mixed_succ hlt, List.map_set, ← setC_one (by simp [mixed_len hi, hlt]), byteC, lowB_yes (by assumption) (by assumption)]
        simp
      · repeat' first
          | refine J_seq ?_ | refine J_region Tryz.tyOK ?_ | refine J_block ?_ | refine J_cond ?_ | refine J_ret ?_ | refine J_skip ?_ | refine J_exit ?_ | refine J_scope ?_
          | refine CondP.yes (by omega) ?_ | refine CondP.no (by omega) ?_ | refine CondP.mk (fun h => ?_) (fun h => ?_) | refine EqP.mk rfl ?_ | refine NewP.mk (fun ad => ?_) | refine ArP.exact (by simp only [inR]; omega) ?_ | refine SideP.mk (by first | omega | (dsimp only; omega) | (simp; omega)) ?_
          | fail
        refine Round.mk (i + 1) (by omega) (by omega) ?_ (Ents.refl _ _)
        repeat' first
          | exact SubE.nil | refine SubE.cons rfl ?_ ?_ | exact VEq.refl _ | refine VEq.int (by omega) | refine VEq.sl rfl (by first | rfl | omega | (rw [List.length_append]; rfl) | (simp; omega)) rfl
          | fail
    all_goals
      refine Round.mk (i + 1) (by omega) (by omega) ?_ (Ents.of (by rw [mixed_same hlt (lowB_no (by omega))]))
      repeat' first
        | exact SubE.nil | refine SubE.cons rfl ?_ ?_ | exact VEq.refl _ | refine VEq.int (by omega) | refine VEq.sl rfl (by first | rfl | omega | (rw [List.length_append]; rfl) | (simp; omega)) rfl
        | fail
  · have hil : i = l.length := by omega
    subst hil
    repeat' first
      | refine J_seq ?_ | refine J_region Tryz.tyOK ?_ | refine J_block ?_ | refine J_cond ?_ | refine J_ret ?_ | refine J_skip ?_ | refine J_exit ?_ | refine J_scope ?_
      | refine CondP.yes (by omega) ?_ | refine CondP.no (by omega) ?_ | refine CondP.mk (fun h => ?_) (fun h => ?_) | refine EqP.mk rfl ?_ | refine NewP.mk (fun ad => ?_) | refine ArP.exact (by simp only [inR]; omega) ?_ | refine SideP.mk (by first | omega | (dsimp only; omega) | (simp; omega)) ?_
      | (exfalso; omega)
      | fail
    refine BytesE.mk 5 (l.map lowB) ?_ ?_
    · have : mixed l l.length = l.map lowB := by simp [mixed]
      rw [← this]; exact hrd
    · repeat' first
        | refine J_seq ?_ | refine J_region Tryz.tyOK ?_ | refine J_block ?_ | refine J_cond ?_ | refine J_ret ?_ | refine J_skip ?_ | refine J_exit ?_ | refine J_scope ?_
        | refine CondP.yes (by omega) ?_ | refine CondP.no (by omega) ?_ | refine CondP.mk (fun h => ?_) (fun h => ?_) | refine EqP.mk rfl ?_ | refine NewP.mk (fun ad => ?_) | refine ArP.exact (by simp only [inR]; omega) ?_ | refine SideP.mk (by first | omega | (dsimp only; omega) | (simp; omega)) ?_
        | exact FinE.is rfl
        | fail
theorem spaces_ok : FnS Tryz.prog 81 [] [] [] (Is (.agg [.s [], .s (spName 1), .s (spName 2), .s (spName 3), .s (spName 4), .s (spName 5)])) := by
  refine fn_of_J Tryz.tyOK 0 Tryz.func81 (by kernel_rfl) (c := Tryz.f81.body.getD .skip) (by kernel_rfl) Tryz.ntmps81 (rs := Tryz.f81.results.toList) rfl (by simp) (fun G => ?_)
  repeat' first
    | refine J_seq ?_ | refine J_region Tryz.tyOK ?_ | refine J_block ?_ | refine J_cond ?_ | refine J_ret ?_ | refine J_skip ?_ | refine J_exit ?_ | refine J_scope ?_
    | refine CondP.yes (by omega) ?_ | refine CondP.no (by omega) ?_ | refine CondP.mk (fun h => ?_) (fun h => ?_) | refine EqP.mk rfl ?_ | refine NewP.mk (fun ad => ?_) | refine ArP.exact (by simp only [inR]; omega) ?_ | refine SideP.mk (by first | omega | (dsimp only; omega) | (simp; omega)) ?_
    | exact FinE.is rfl
    | fail
theorem prefix_ok (s : List UInt8) (hs : s.length ≤ 1100000) : FnS Tryz.prog 119 [.c (.s s)] [] [gInt 0]
    (Is (.t3 (.c (.i .i64 (colonNo s))) (.c (.s (if colonNo s = 0 then [] else behind s))) (.c (.b (decide (colonNo s ≠ 0)))))) := by
  have h1 := cutAt_len1 58 s
  have h2 := trimSuffix_le (cutAt 58 s).1 [32]
  cases hc : (cutAt 58 s).2.2 with
  | false =>
    have e : colonNo s = 0 := by simp [colonNo, hc]
    refine fn_of_J Tryz.tyOK 0 Tryz.func119 (by kernel_rfl) (c := Tryz.f119.body.getD .skip) (by kernel_rfl) Tryz.ntmps119 (rs := Tryz.f119.results.toList) rfl (by simp) (fun G => ?_)
    repeat' first
      | refine J_seq ?_ | refine J_region Tryz.tyOK ?_ | refine J_block ?_ | refine J_cond ?_ | refine J_ret ?_ | refine J_skip ?_ | refine J_exit ?_ | refine J_scope ?_
      | refine CondP.yes (by omega) ?_ | refine CondP.no (by omega) ?_ | refine CondP.mk (fun h => ?_) (fun h => ?_) | refine EqP.mk rfl ?_ | refine NewP.mk (fun ad => ?_) | refine ArP.exact (by simp only [inR]; omega) ?_ | refine SideP.mk (by first | omega | (dsimp only; omega) | (simp; omega)) ?_
      | refine CallP.is (cutOne_ok s 58 (by omega)) ?_ | rw [hc]
      | fail
    refine FinE.is ?_
    simp only [e]; rfl
  | true =>
    have e : colonNo s = spaceNo (Lib.trimSuffix (cutAt 58 s).1 [32]) := by simp [colonNo, hc]
    refine fn_of_J Tryz.tyOK 0 Tryz.func119 (by kernel_rfl) (c := Tryz.f119.body.getD .skip) (by kernel_rfl) Tryz.ntmps119 (rs := Tryz.f119.results.toList) rfl (by simp) (fun G => ?_)
    repeat' first
      | refine J_seq ?_ | refine J_region Tryz.tyOK ?_ | refine J_block ?_ | refine J_cond ?_ | refine J_ret ?_ | refine J_skip ?_ | refine J_exit ?_ | refine J_scope ?_
      | refine CondP.yes (by omega) ?_ | refine CondP.no (by omega) ?_ | refine CondP.mk (fun h => ?_) (fun h => ?_) | refine EqP.mk rfl ?_ | refine NewP.mk (fun ad => ?_) | refine ArP.exact (by simp only [inR]; omega) ?_ | refine SideP.mk (by first | omega | (dsimp only; omega) | (simp; omega)) ?_
      | refine CallP.is (cutOne_ok s 58 (by omega)) ?_ | rw [hc] | refine CallP.is (trimSuffix_ok _ [32] (by omega)) ?_ | refine CallP.is (fold_ok _ (Nat.le_trans h2 (Nat.le_trans h1 hs))) ?_ | refine CallP.is (fold_ok _ (by decide)) ?_ | refine CallP.is spaces_ok ?_ | refine J_rounds 7 ?_ | refine JR_succ ?_ | refine IdxA.mk _ (by omega) (by omega) rfl rfl ?_ | refine FinE.is ?_
      | fail
    all_goals
      have hk := e
      unfold spaceNo at hk
      repeat (first | rw [if_pos (by assumption)] at hk | rw [if_neg (by assumption)] at hk)
      simp only [hk]
      rfl
def pv (s : List UInt8) (i : Nat) : Bool := decide (0 < (i : Int)) && decide (((s.getD ((i : Int) - 1).toNat 0).toNat : Int) = 32)
theorem drop_getD {s : List UInt8} {i : Nat} (h : i < s.length) : s.drop i = s.getD i 0 :: s.drop (i + 1) := by
  rw [List.drop_eq_getElem_cons h]; simp [h]
theorem clean_step {s : List UInt8} {i : Nat} (h : i < s.length) :
    cleanB (pv s i) (s.drop i) = (!badB (s.getD i 0) && !(pv s i && decide (((s.getD i 0).toNat : Int) = 32)) && cleanB (pv s (i + 1)) (s.drop (i + 1))) := by
  have e : pv s (i + 1) = ((s.getD i 0).toNat == 32) := by
    have h1 : (((i + 1 : Nat) : Int) - 1).toNat = i := by omega
    have h2 : (0 : Int) < ((i + 1 : Nat) : Int) := by omega
    unfold pv
    rw [h1, decide_eq_true h2, Bool.true_and]
    rw [Bool.eq_iff_iff]; simp; omega
  have e2 : decide (((s.getD i 0).toNat : Int) = 32) = ((s.getD i 0).toNat == 32) := by rw [Bool.eq_iff_iff]; simp; omega
  rw [drop_getD h, cleanB, e, e2]
theorem clean_ok (s : List UInt8) (hs : s.length ≤ 1100000) : FnS Tryz.prog 117 [.c (.s s)] [] [] (Is (.c (.b (cleanB false s)))) := by
  refine fn_of_J Tryz.tyOK 0 Tryz.func117 (by kernel_rfl) (c := Tryz.f117.body.getD .skip) (by kernel_rfl) Tryz.ntmps117 (rs := Tryz.f117.results.toList) rfl (by simp) (fun G => ?_)
  repeat' first
    | refine J_seq ?_ | refine J_region Tryz.tyOK ?_ | refine J_block ?_ | refine J_cond ?_ | refine J_ret ?_ | refine J_skip ?_ | refine J_exit ?_ | refine J_scope ?_
    | refine CondP.yes (by omega) ?_ | refine CondP.no (by omega) ?_ | refine CondP.mk (fun h => ?_) (fun h => ?_) | refine EqP.mk rfl ?_ | refine NewP.mk (fun ad => ?_) | refine ArP.exact (by simp only [inR]; omega) ?_ | refine SideP.mk (by first | omega | (dsimp only; omega) | (simp; omega)) ?_
    | fail
  refine J_loop (α := Nat) (fun i => [(0, .c (.s s)), (3, .c (.i .i64 i))]) (fun _ => []) (fun _ => []) 0 (fun i => i ≤ s.length ∧ cleanB false s = cleanB (pv s i) (s.drop i)) (fun i => s.length - i)
    (InFam.mk 0 ⟨by omega, by simp [pv]⟩ ?_ (Ents.refl _ _)) (fun i hi => ?_)
  · repeat' first
      | exact SubE.nil | refine SubE.cons rfl ?_ ?_ | exact VEq.refl _ | refine VEq.int (by omega) | refine VEq.sl rfl (by first | rfl | omega | (rw [List.length_append]; rfl) | (simp; omega)) rfl
      | fail
  obtain ⟨hi, hcl⟩ := hi
  by_cases hlt : i < s.length
  · have hst := clean_step hlt
    have hb := (s.getD i 0).toNat_lt
    repeat' first
      | refine J_seq ?_ | refine J_region Tryz.tyOK ?_ | refine J_block ?_ | refine J_cond ?_ | refine J_ret ?_ | refine J_skip ?_ | refine J_exit ?_ | refine J_scope ?_
      | refine CondP.yes (by omega) ?_ | refine CondP.no (by omega) ?_ | refine CondP.mk (fun h => ?_) (fun h => ?_) | refine EqP.mk rfl ?_ | refine NewP.mk (fun ad => ?_) | refine ArP.exact (by simp only [inR]; omega) ?_ | refine SideP.mk (by first | omega | (dsimp only; omega) | (simp; omega)) ?_
      | refine CallP.is (indexByte_ok [60, 62, 91, 93, 123, 125, 124, 35, 95] (s.getD i 0)) ?_ | refine FinE.bool ?_ | refine Round.mk (i + 1) (by omega) ⟨by omega, ?_⟩ (by repeat' first | exact SubE.nil | refine SubE.cons rfl ?_ ?_ | exact VEq.refl _ | refine VEq.int (by omega) | refine VEq.sl rfl (by first | rfl | omega | (rw [List.length_append]; rfl) | (simp; omega)) rfl) (Ents.refl _ _)
      | fail
    all_goals simp only [Int.toNat_natCast] at *
    all_goals rw [hcl, hst]
    all_goals (clear hcl hst; (try simp only [Int.toNat_natCast, Int.toNat_zero] at *); simp only [badB, pv, *, decide_true, decide_false, Bool.true_and, Bool.false_and, Bool.and_true, Bool.and_false, Bool.not_true, Bool.not_false, Bool.true_or, Bool.false_or, Bool.or_true, Bool.or_false, not_true, not_false_eq_true, ne_eq, if_true, if_false, Bool.false_eq_true]; try rfl)
  · have hil : i = s.length := by omega
    subst hil
    repeat' first
      | refine J_seq ?_ | refine J_region Tryz.tyOK ?_ | refine J_block ?_ | refine J_cond ?_ | refine J_ret ?_ | refine J_skip ?_ | refine J_exit ?_ | refine J_scope ?_
      | refine CondP.yes (by omega) ?_ | refine CondP.no (by omega) ?_ | refine CondP.mk (fun h => ?_) (fun h => ?_) | refine EqP.mk rfl ?_ | refine NewP.mk (fun ad => ?_) | refine ArP.exact (by simp only [inR]; omega) ?_ | refine SideP.mk (by first | omega | (dsimp only; omega) | (simp; omega)) ?_
      | refine FinE.bool ?_
      | fail
    rw [hcl]; simp [cleanB]
end Go.Proofs
namespace Go.X
open Go.Lib
end Go.X
namespace Go.Proofs
open Go Go.X
set_option maxRecDepth 100000
end Go.Proofs
namespace Go.Proofs
open Go Go.X
set_option maxRecDepth 100000
end Go.Proofs
namespace Go.Proofs
open Go Go.X
set_option maxRecDepth 100000
end Go.Proofs
namespace Go.Proofs
open Go Go.X
set_option maxRecDepth 100000
end Go.Proofs
namespace Go.X
open Go.Lib
def ND (t : List UInt8) : Prop := ∀ a b, t ≠ a ++ 32 :: 32 :: b
theorem ND.drop {t : List UInt8} (h : ND t) (n : Nat) : ND (t.drop n) := fun a b he => h (t.take n ++ a) b (by
  rw [List.append_assoc, ← he, List.take_append_drop])
theorem ND.take {t : List UInt8} (h : ND t) (n : Nat) : ND (t.take n) := fun a b he => h a (b ++ t.drop n) (by
  have := congrArg (· ++ t.drop n) he
  simpa using this)
theorem ND.trimSuffix {t : List UInt8} (h : ND t) (p : List UInt8) : ND (trimSuffix t p) := by
  unfold Lib.trimSuffix; split
  · exact h.take _
  · exact h
theorem ND.nil : ND [] := fun a b h => by simp at h
theorem ND.tail {x : UInt8} {t : List UInt8} (h : ND (x :: t)) : ND t := h.drop 1
def ps (t : List UInt8) (i : Nat) : Bool := decide (0 < (i : Int)) && decide (((t.getD ((i : Int) - 1).toNat 0).toNat : Int) = 47)
end Go.X
namespace Go.Proofs
open Go Go.X
set_option maxRecDepth 100000
theorem valid_ok (sp : Int) (s : List UInt8) (hs : s.length ≤ 1100000) : FnS Tryz.prog 80 [.agg [.i .i64 sp, .s s]] [] [gInt 0] (Is (.c (.b (validT sp s)))) := by
  refine fn_of_J Tryz.tyOK 0 Tryz.func80 (by kernel_rfl) (c := Tryz.f80.body.getD .skip) (by kernel_rfl) Tryz.ntmps80 (rs := Tryz.f80.results.toList) rfl (by simp) (fun G => ?_)
  cases hcl : cleanB false s
  · repeat' first
      | refine J_seq ?_ | refine J_region Tryz.tyOK ?_ | refine J_block ?_ | refine J_cond ?_ | refine J_ret ?_ | refine J_skip ?_ | refine J_exit ?_ | refine J_scope ?_
      | refine CondP.yes (by omega) ?_ | refine CondP.no (by omega) ?_ | refine CondP.mk (fun h => ?_) (fun h => ?_) | refine EqP.mk rfl ?_ | refine NewP.mk (fun ad => ?_) | refine ArP.exact (by simp only [inR]; omega) ?_ | refine SideP.mk (by first | omega | (dsimp only; omega) | (simp; omega)) ?_
      | refine CallP.is (clean_ok s hs) ?_ | rw [hcl] | refine FinE.bool ?_
      | fail
    all_goals ((try simp only [Int.toNat_natCast, Int.toNat_zero] at *); simp only [validT, *, decide_true, decide_false, Bool.true_and, Bool.false_and, Bool.and_true, Bool.and_false, Bool.not_true, Bool.not_false, Bool.true_or, Bool.false_or, Bool.or_true, Bool.or_false, not_true, not_false_eq_true, ne_eq, if_true, if_false, Bool.false_eq_true]; try rfl)
  · repeat' first
      | refine J_seq ?_ | refine J_region Tryz.tyOK ?_ | refine J_block ?_ | refine J_cond ?_ | refine J_ret ?_ | refine J_skip ?_ | refine J_exit ?_ | refine J_scope ?_
      | refine CondP.yes (by omega) ?_ | refine CondP.no (by omega) ?_ | refine CondP.mk (fun h => ?_) (fun h => ?_) | refine EqP.mk rfl ?_ | refine NewP.mk (fun ad => ?_) | refine ArP.exact (by simp only [inR]; omega) ?_ | refine SideP.mk (by first | omega | (dsimp only; omega) | (simp; omega)) ?_
      | refine CallP.is (clean_ok s hs) ?_ | rw [hcl] | refine FinE.bool ?_ | refine CallP.mk [] _ _ _ (splitOne_ok s 47 (by omega)) (List.Perm.refl _) (fun _ h => h) (fun v L' D' hp => ?_); obtain ⟨g, rfl, rfl, rfl⟩ := hp
      | fail
    rotate_right
    · refine J_loop (α := Nat) (fun i => [(37, .c (.i .i64 i)), (36, lenV (splitOn 47 s).length), (35, .c (.sl (some ⟨g, 0, none⟩) (splitOn 47 s).length (splitOn 47 s).length)), (3, .c (.s s)), (1, .c (.p 0 ad 0))])
        (fun _ => [.box 0 ad 23 [.i .i64 sp, .s s]]) (fun _ => [slFact 9 1 (some ⟨g, 0, none⟩) (splitOn 47 s).length ((splitOn 47 s).map C.s), gInt 0]) 1
        (fun i => i ≤ (splitOn 47 s).length ∧ (splitOn 47 s).all pieceOK = ((splitOn 47 s).drop i).all pieceOK) (fun i => (splitOn 47 s).length - i)
        (InFam.mk 0 ⟨by omega, rfl⟩ (by repeat' first | exact SubE.nil | refine SubE.cons rfl ?_ ?_ | exact VEq.refl _ | refine VEq.int (by omega) | refine VEq.sl rfl (by first | rfl | omega | (rw [List.length_append]; rfl) | (simp; omega)) rfl) Ents.toFact) (fun i hi => ?_)
      obtain ⟨hi, hal⟩ := hi
      have hsl := splitOn_length_le 47 s
      by_cases hlt : i < (splitOn 47 s).length
      · have hrd : Reads [.box 0 ad 23 [.i .i64 sp, .s s]] [slFact 9 1 (some ⟨g, 0, none⟩) (splitOn 47 s).length ((splitOn 47 s).map C.s), gInt 0] 9 1 (some ⟨g, 0, none⟩) (splitOn 47 s).length ((splitOn 47 s).map C.s) :=
          .inr fun m h => h.1
        rw [List.drop_eq_getElem_cons hlt, List.all_cons] at hal
        have hpl := mem_splitOn_le 47 s _ (List.getElem_mem hlt)
        repeat' first
          | refine J_seq ?_ | refine J_region Tryz.tyOK ?_ | refine J_block ?_ | refine J_cond ?_ | refine J_ret ?_ | refine J_skip ?_ | refine J_exit ?_ | refine J_scope ?_
          | refine CondP.yes (by omega) ?_ | refine CondP.no (by omega) ?_ | refine CondP.mk (fun h => ?_) (fun h => ?_) | refine EqP.mk rfl ?_ | refine NewP.mk (fun ad => ?_) | refine ArP.exact (by simp only [inR]; omega) ?_ | refine SideP.mk (by first | omega | (dsimp only; omega) | (simp; omega)) ?_
          | refine IdxE.mk 9 1 _ hrd (by omega) (by omega) ?_ | refine LoadE.mk 9 _ _ [C.s (splitOn 47 s)[i]] hrd (by omega) (by omega) (by omega) (map_take1 hlt) ?_ | refine SideP.mk (by have := pos_of_ne ‹¬ (splitOn 47 s)[i] = []›; omega) ?_ | refine FinE.bool ?_ | refine Round.mk (i + 1) (by omega) ⟨by omega, ?_⟩ (by repeat' first | exact SubE.nil | refine SubE.cons rfl ?_ ?_ | exact VEq.refl _ | refine VEq.int (by omega) | refine VEq.sl rfl (by first | rfl | omega | (rw [List.length_append]; rfl) | (simp; omega)) rfl) (Ents.refl _ _)
          | fail
        all_goals ((try simp only [Int.toNat_natCast, Int.toNat_zero] at *); simp only [validT, pieceOK, *, decide_true, decide_false, Bool.true_and, Bool.false_and, Bool.and_true, Bool.and_false, Bool.not_true, Bool.not_false, Bool.true_or, Bool.false_or, Bool.or_true, Bool.or_false, not_true, not_false_eq_true, ne_eq, if_true, if_false, Bool.false_eq_true]; try rfl)
      · have hil : i = (splitOn 47 s).length := by omega
        subst hil
        simp only [List.drop_length, List.all_nil] at hal
        have e : ∀ b : Bool, b = (headOK s && (!decide (sp = 0) || !decide (colonNo s ≠ 0))) → validT sp s = b := by
          rintro b rfl
          (try simp only [Int.toNat_natCast, Int.toNat_zero] at *); simp only [validT, *, decide_true, decide_false, Bool.true_and, Bool.false_and, Bool.and_true, Bool.and_false, Bool.not_true, Bool.not_false, Bool.true_or, Bool.false_or, Bool.or_true, Bool.or_false, not_true, not_false_eq_true, ne_eq, if_true, if_false, Bool.false_eq_true]
        cases hn : decide (colonNo s ≠ 0) <;>
        (rw [hn] at e
         repeat' first
           | refine J_seq ?_ | refine J_region Tryz.tyOK ?_ | refine J_block ?_ | refine J_cond ?_ | refine J_ret ?_ | refine J_skip ?_ | refine J_exit ?_ | refine J_scope ?_
           | refine CondP.yes (by omega) ?_ | refine CondP.no (by omega) ?_ | refine CondP.mk (fun h => ?_) (fun h => ?_) | refine EqP.mk rfl ?_ | refine NewP.mk (fun ad => ?_) | refine ArP.exact (by simp only [inR]; omega) ?_ | refine SideP.mk (by first | omega | (dsimp only; omega) | (simp; omega)) ?_
           | refine FinE.bool (e _ ?_) | refine CallP.is (prefix_ok s hs) ?_ | rw [hn]
           | fail
         all_goals (clear e; (try simp only [Int.toNat_natCast, Int.toNat_zero] at *); simp only [headOK, *, decide_true, decide_false, Bool.true_and, Bool.false_and, Bool.and_true, Bool.and_false, Bool.not_true, Bool.not_false, Bool.true_or, Bool.false_or, Bool.or_true, Bool.or_false, not_true, not_false_eq_true, ne_eq, if_true, if_false, Bool.false_eq_true]; try rfl))
    all_goals ((try simp only [Int.toNat_natCast, Int.toNat_zero] at *); simp only [validT, *, decide_true, decide_false, Bool.true_and, Bool.false_and, Bool.and_true, Bool.and_false, Bool.not_true, Bool.not_false, Bool.true_or, Bool.false_or, Bool.or_true, Bool.or_false, not_true, not_false_eq_true, ne_eq, if_true, if_false, Bool.false_eq_true]; try rfl)
end Go.Proofs
namespace Go.Proofs
open Go Go.X
set_option maxRecDepth 100000
end Go.Proofs
namespace Go.Proofs
open Go Go.X
set_option maxRecDepth 100000
end Go.Proofs
namespace Go.Proofs
open Go Go.X
set_option maxRecDepth 100000
end Go.Proofs
namespace Go.Proofs
open Go Go.X
set_option maxRecDepth 100000
theorem spName_idx {sp : Int} (h0 : 0 ≤ sp) (h1 : sp < 6) : ([C.s [], .s (spName 1), .s (spName 2), .s (spName 3), .s (spName 4), .s (spName 5)].drop (sp.toNat * 1)).take 1 = [C.s (spName sp.toNat)] := by
  rcases (by omega : sp = 0 ∨ sp = 1 ∨ sp = 2 ∨ sp = 3 ∨ sp = 4 ∨ sp = 5) with rfl | rfl | rfl | rfl | rfl | rfl <;> rfl
theorem format_ok (sp : Int) (s : List UInt8) (hs : s.length ≤ 1100000) : FnS Tryz.prog 40 [.agg [.i .i64 sp, .s s]] [] [gInt 0] (Is (.c (.s (formatT sp s)))) := by
  have hb := @validT_bounds sp s
  have hn := spName_le sp.toNat
  refine fn_of_J Tryz.tyOK 0 Tryz.func40 (by kernel_rfl) (c := Tryz.f40.body.getD .skip) (by kernel_rfl) Tryz.ntmps40 (rs := Tryz.f40.results.toList) rfl (by simp) (fun G => ?_)
  repeat' first
    | refine J_seq ?_ | refine J_region Tryz.tyOK ?_ | refine J_block ?_ | refine J_cond ?_ | refine J_ret ?_ | refine J_skip ?_ | refine J_exit ?_ | refine J_scope ?_
    | refine CondP.yes (by omega) ?_ | refine CondP.no (by omega) ?_ | refine CondP.mk (fun h => ?_) (fun h => ?_) | refine EqP.mk rfl ?_ | refine NewP.mk (fun ad => ?_) | refine ArP.exact (by simp only [inR]; omega) ?_ | refine SideP.mk (by first | omega | (dsimp only; omega) | (simp; omega)) ?_
    | refine CallP.isB (valid_ok sp s hs) (fun hv => ?_) (fun hv => ?_) | refine FinE.str ?_ | refine J_draw Tryz.tyOK (by kernel_rfl) [0, 1, 2, 3, 4, 5, 6, 7, 8] [] _ _ (by kernel_rfl) (Ents.refl _ _) ?_ | refine CallQ.mk [] _ spaces_ok (fun _ _ => trivial) ?_ | refine IdxA.mk [C.s (spName sp.toNat)] (by have := hb hv; omega) (by have := hb hv; omega) (spName_idx (by have := hb hv; omega) (by have := hb hv; omega)) rfl ?_ | refine SideP.mk (by have := hb hv; simp; omega) ?_
    | fail
  all_goals
    unfold formatT
    repeat (first | rw [if_pos (by assumption)] | rw [if_neg (by assumption)] | rw [if_neg (by simp [*])])
    try rfl
theorem or_ok (a : Option Addr) (c : Nat) (x y : Int) : FnS Tryz.prog 107 [.c (.sl a 2 c)] [.row 3 1 a 2 c [.i .i64 x, .i .i64 y]] [] (Is (.c (.i .i64 (if x ≠ 0 then x else y)))) := by
  have hrd : Reads [.row 3 1 a 2 c [.i .i64 x, .i .i64 y]] [] 3 1 a 2 [.i .i64 x, .i .i64 y] := .inl ⟨c, List.Mem.head _⟩
  refine fn_of_J Tryz.tyOK 0 Tryz.func107 (by kernel_rfl) (c := Tryz.f107.body.getD .skip) (by kernel_rfl) Tryz.ntmps107 (rs := Tryz.f107.results.toList) rfl (by simp) (fun G => ?_)
  repeat' first
    | refine J_seq ?_ | refine J_region Tryz.tyOK ?_ | refine J_block ?_ | refine J_cond ?_ | refine J_ret ?_ | refine J_skip ?_ | refine J_exit ?_ | refine J_scope ?_
    | refine CondP.yes (by omega) ?_ | refine CondP.no (by omega) ?_ | refine CondP.mk (fun h => ?_) (fun h => ?_) | refine EqP.mk rfl ?_ | refine NewP.mk (fun ad => ?_) | refine ArP.exact (by simp only [inR]; omega) ?_ | refine SideP.mk (by first | omega | (dsimp only; omega) | (simp; omega)) ?_
    | refine J_rounds 3 ?_ | refine JR_succ ?_ | refine IdxE.mk 3 1 _ hrd (by omega) (by omega) ?_ | refine LoadE.mk 3 _ _ _ hrd (by omega) (by omega) (by omega) rfl ?_ | refine FinE.int ?_
    | fail
  all_goals simp [*]
theorem compare_ok (a : Int) (x : List UInt8) (b : Int) (y : List UInt8) : FnS Tryz.prog 73 [.agg [.i .i64 a, .s x], .agg [.i .i64 b, .s y]] [] [] (Is (.c (.i .i64 (compareT a x b y)))) := by
  refine fn_of_J Tryz.tyOK 0 Tryz.func73 (by kernel_rfl) (c := Tryz.f73.body.getD .skip) (by kernel_rfl) Tryz.ntmps73 (rs := Tryz.f73.results.toList) rfl (by simp) (fun G => ?_)
  repeat' first
    | refine J_seq ?_ | refine J_region Tryz.tyOK ?_ | refine J_block ?_ | refine J_cond ?_ | refine J_ret ?_ | refine J_skip ?_ | refine J_exit ?_ | refine J_scope ?_
    | refine CondP.yes (by omega) ?_ | refine CondP.no (by omega) ?_ | refine CondP.mk (fun h => ?_) (fun h => ?_) | refine EqP.mk rfl ?_ | refine NewP.mk (fun ad => ?_) | refine ArP.exact (by simp only [inR]; omega) ?_ | refine SideP.mk (by first | omega | (dsimp only; omega) | (simp; omega)) ?_
    | refine J_draw Tryz.tyOK (by kernel_rfl) [0, 1, 2, 3, 4, 5, 6, 7, 8, 9, 10, 11, 12] [10, 11] _ _ (by kernel_rfl) (Ents.refl _ _) ?_ | refine CallQ.mk [] _ (compareInt_ok a b) (fun _ _ => trivial) ?_ | refine CallQ.mk [] _ (stringsCompare_ok x y) (fun _ _ => trivial) ?_ | refine CallP.mk [_] _ [] _ (or_ok _ _ _ _) (List.Perm.refl _) (fun _ h => h) (fun v L' D' hp => ?_); obtain ⟨rfl, rfl, rfl⟩ := hp | refine EntP.mk (Ents.refl _ _) ?_ | refine EntP.mk Ents.drop ?_ | refine FinE.int ?_
    | fail
  rfl
end Go.Proofs
namespace Go.Proofs
open Go Go.X
set_option maxRecDepth 100000
end Go.Proofs
namespace Go.Proofs
open Go Go.X
set_option maxRecDepth 100000
end Go.Proofs
namespace Go.Proofs
open Go Go.X
set_option maxRecDepth 100000
def tapeVal (x : Int) : Int := bitsV .and .i64 x 16777215
theorem bitsAnd_range (x : Int) (k : Nat) (hk : k < 2 ^ 62) : 0 ≤ bitsV .and .i64 x k ∧ bitsV .and .i64 x k ≤ k := by
  have h1 : (BitVec.ofInt 64 x &&& BitVec.ofInt 64 (k : Int)).toNat ≤ k := by
    have h2 : (BitVec.ofInt 64 (k : Int)).toNat = k := by
      rw [BitVec.toNat_ofInt]; simp; omega
    rw [BitVec.toNat_and, h2]
    exact Nat.and_le_right
  have e : bitsV .and .i64 x k = IntKind.i64.wrap (BitVec.ofInt 64 x &&& BitVec.ofInt 64 (k : Int)).toNat := rfl
  rw [e, wrap_of_inR (by simp only [inR]; omega)]
  omega
theorem tapeVal_range (x : Int) : 0 ≤ tapeVal x ∧ tapeVal x ≤ 16777215 := bitsAnd_range x 16777215 (by decide)
def tNext (l : List Int) (at_ : Nat) (n : Int) : Int := if at_ < l.length then (tapeVal (l.getD at_ 0)).tmod n else 0
def tAt (l : List Int) (at_ : Nat) : Nat := if at_ < l.length then at_ + 1 else at_
theorem tNext_range (l : List Int) (at_ : Nat) {n : Int} (hn : 0 < n) : 0 ≤ tNext l at_ n ∧ tNext l at_ n < n := by
  unfold tNext
  split
  · have h := tapeVal_range (l.getD at_ 0)
    exact ⟨Int.tmod_nonneg _ h.1, Int.tmod_lt_of_pos _ hn⟩
  · omega
theorem tAt_le {l : List Int} {at_ : Nat} (h : at_ ≤ l.length) : tAt l at_ ≤ l.length := by unfold tAt; split <;> omega
abbrev tapeC (ad : Nat) (a : Option Addr) (n c at_ : Nat) : Chunk := .box 1000 ad 57 [.sl a n c, .i .i64 at_]
theorem new_ok (a : Option Addr) (n c : Nat) : FnS Tryz.prog 12 [.c (.sl a n c)] [] [] (fun v L D => ∃ ad, v = .c (.p 1000 ad 0) ∧ L = [tapeC ad a n c 0] ∧ D = []) := by
  refine fn_of_J Tryz.tyOK 1000 Tryz.func12 (by kernel_rfl) (c := Tryz.f12.body.getD .skip) (by kernel_rfl) Tryz.ntmps12 (rs := Tryz.f12.results.toList) rfl (by simp) (fun G => ?_)
  repeat' first
    | refine J_seq ?_ | refine J_region Tryz.tyOK ?_ | refine J_block ?_ | refine J_cond ?_ | refine J_ret ?_ | refine J_skip ?_ | refine J_exit ?_ | refine J_scope ?_
    | refine CondP.yes (by omega) ?_ | refine CondP.no (by omega) ?_ | refine CondP.mk (fun h => ?_) (fun h => ?_) | refine EqP.mk rfl ?_ | refine NewP.mk (fun ad => ?_) | refine ArP.exact (by simp only [inR]; omega) ?_ | refine SideP.mk (by first | omega | (dsimp only; omega) | (simp; omega)) ?_
    | exact FinE.mk _ [] ⟨_, rfl, rfl, rfl⟩ (Ents.refl _ _)
    | fail
theorem next_ok (e : Nat) (a : Option Addr) (c ad at_ : Nat) (l : List Int) (n : Int) (hn : 0 < n) (hat : at_ ≤ l.length) (hl : l.length ≤ maxLen) : FnS Tryz.prog 35 [.c (.p 1000 ad 0), .c (.i .i64 n)] [tapeC ad a l.length c at_] [slFact e 1 a l.length (l.map (C.i .i64))]
    (fun v L D => v = .c (.i .i64 (tNext l at_ n)) ∧ L = [tapeC ad a l.length c (tAt l at_)] ∧ D = []) := by
  simp only [maxLen] at hl
  have hrd : ∀ L, Reads L [slFact e 1 a l.length (l.map (C.i .i64))] e 1 a l.length (l.map (C.i .i64)) := fun L => .inr fun m h => h.1
  have hx := tapeVal_range (l.getD at_ 0)
  unfold tNext tAt
  by_cases hlt : at_ < l.length
  · have hg : ((l.map (C.i .i64)).drop (at_ * 1 + 0)).take 1 = [C.i .i64 (l.getD at_ 0)] := by rw [map_take1 hlt]; simp [hlt]
    rw [if_pos hlt, if_pos hlt]
    refine fn_of_J Tryz.tyOK 0 Tryz.func35 (by kernel_rfl) (c := Tryz.f35.body.getD .skip) (by kernel_rfl) Tryz.ntmps35 (rs := Tryz.f35.results.toList) rfl (by simp) (fun G => ?_)
    repeat' first
      | refine J_seq ?_ | refine J_region Tryz.tyOK ?_ | refine J_block ?_ | refine J_cond ?_ | refine J_ret ?_ | refine J_skip ?_ | refine J_exit ?_ | refine J_scope ?_
      | refine CondP.yes (by omega) ?_ | refine CondP.no (by omega) ?_ | refine CondP.mk (fun h => ?_) (fun h => ?_) | refine EqP.mk rfl ?_ | refine NewP.mk (fun ad => ?_) | refine ArP.exact (by simp only [inR]; omega) ?_ | refine SideP.mk (by first | omega | (dsimp only; omega) | (simp; omega)) ?_
      | refine J_drawS (id := 1) Tryz.tyOK (by kernel_rfl) [0, 1, 3, 7, 0, 16, 48, 112, 240, 511] [0, 1, 2, 3, 4, 5, 6, 7, 8, 9] [] [0] true (by kernel_rfl) ?_ | refine J_drawS (id := 3) Tryz.tyOK (by kernel_rfl) [0, 1, 3, 7, 0, 16, 48, 112, 255, 511, 1023, 2047] [0, 1, 2, 3, 4, 5, 6, 7, 8, 9, 10, 11] [] [0, 24] true (by kernel_rfl) ?_ | refine EntP.mk (Ents.ofSub (by repeat (first | exact List.Sublist.slnil | refine List.Sublist.cons_cons _ ?_ | refine List.Sublist.cons _ ?_)) (by first | exact fun _ h => h | exact fun _ _ => trivial | exact fun _ h => h.2 | exact fun _ h => h.2.2.2.2 | exact fun _ h => h.2.2 | exact fun _ h => h.2.2.2 | exact fun _ h => h.2.2.2.2.2 | exact fun _ h => h.2.2.2.2.2.2 | exact fun _ h => h.2.2.2.2.2.2.2 | exact fun _ h => h.2.2.2.2.2.2.2.2 | exact fun _ h => h.2.2.2.2.2.2.2.2.2 | exact fun _ h => h.2.2.2.2.2.2.2.2.2.2 | exact fun _ h => ((allD_append _ _).1 h).2)) ?_ | refine IdxE.mk e 1 _ (hrd _) (by omega) (by omega) ?_ | refine LoadE.mk e _ _ _ (hrd _) (by omega) (by omega) (by omega) hg ?_
      | fail
    refine FinE.mk _ [] ⟨rfl, rfl, rfl⟩ ((Ents.of ?_).trans (Ents.facts fun _ _ => trivial))
    rfl
  · rw [if_neg hlt, if_neg hlt]
    refine fn_of_J Tryz.tyOK 0 Tryz.func35 (by kernel_rfl) (c := Tryz.f35.body.getD .skip) (by kernel_rfl) Tryz.ntmps35 (rs := Tryz.f35.results.toList) rfl (by simp) (fun G => ?_)
    repeat' first
      | refine J_seq ?_ | refine J_region Tryz.tyOK ?_ | refine J_block ?_ | refine J_cond ?_ | refine J_ret ?_ | refine J_skip ?_ | refine J_exit ?_ | refine J_scope ?_
      | refine CondP.yes (by omega) ?_ | refine CondP.no (by omega) ?_ | refine CondP.mk (fun h => ?_) (fun h => ?_) | refine EqP.mk rfl ?_ | refine NewP.mk (fun ad => ?_) | refine ArP.exact (by simp only [inR]; omega) ?_ | refine SideP.mk (by first | omega | (dsimp only; omega) | (simp; omega)) ?_
      | refine J_drawS (id := 1) Tryz.tyOK (by kernel_rfl) [0, 1, 3, 7, 0, 16, 48, 112, 240, 511] [0, 1, 2, 3, 4, 5, 6, 7, 8, 9] [] [0] true (by kernel_rfl) ?_ | refine J_drawS (id := 3) Tryz.tyOK (by kernel_rfl) [0, 1, 3, 7, 0, 16, 48, 112, 255, 511, 1023, 2047] [0, 1, 2, 3, 4, 5, 6, 7, 8, 9, 10, 11] [] [0, 24] true (by kernel_rfl) ?_ | refine EntP.mk (Ents.ofSub (by repeat (first | exact List.Sublist.slnil | refine List.Sublist.cons_cons _ ?_ | refine List.Sublist.cons _ ?_)) (by first | exact fun _ h => h | exact fun _ _ => trivial | exact fun _ h => h.2 | exact fun _ h => h.2.2.2.2 | exact fun _ h => h.2.2 | exact fun _ h => h.2.2.2 | exact fun _ h => h.2.2.2.2.2 | exact fun _ h => h.2.2.2.2.2.2 | exact fun _ h => h.2.2.2.2.2.2.2 | exact fun _ h => h.2.2.2.2.2.2.2.2 | exact fun _ h => h.2.2.2.2.2.2.2.2.2 | exact fun _ h => h.2.2.2.2.2.2.2.2.2.2 | exact fun _ h => ((allD_append _ _).1 h).2)) ?_ | exact FinE.mk _ [] ⟨rfl, rfl, rfl⟩ (Ents.facts fun _ _ => trivial)
      | fail
theorem of_ok (e e2 : Nat) (a b : Option Addr) (c d m ad at_ : Nat) (l : List Int) (xs : List (List UInt8)) (hm : m = xs.length) (h0 : 0 < m) (hat : at_ ≤ l.length) (hl : l.length ≤ maxLen) :
    FnS Tryz.prog 36 [.c (.p 1000 ad 0), .c (.sl b m d)] [tapeC ad a l.length c at_] [slFact e 1 a l.length (l.map (C.i .i64)), slFact e2 1 b m (xs.map C.s)]
    (fun v L D => v = .c (.s (xs.getD (tNext l at_ m).toNat [])) ∧ L = [tapeC ad a l.length c (tAt l at_)] ∧ D = []) := by
  subst hm
  have hr := tNext_range l at_ (n := (xs.length : Int)) (by omega)
  have c1 := next_ok e a c ad at_ l xs.length (by omega) hat hl
  generalize tNext l at_ xs.length = k at *
  have hg : ((xs.map C.s).drop (k.toNat * 1 + 0)).take 1 = [C.s (xs.getD k.toNat [])] := by rw [map_take1 (by omega)]; simp [show k.toNat < xs.length by omega]
  have hrd : ∀ L D, Reads L (D ++ [slFact e 1 a l.length (l.map (C.i .i64)), slFact e2 1 b xs.length (xs.map C.s)]) e2 1 b xs.length (xs.map C.s) := fun L D => .inr fun m h => ((allD_append _ _).1 h).2.2.1
  refine fn_of_J Tryz.tyOK 0 Tryz.func36 (by kernel_rfl) (c := Tryz.f36.body.getD .skip) (by kernel_rfl) Tryz.ntmps36 (rs := Tryz.f36.results.toList) rfl (by simp) (fun G => ?_)
  repeat' first
    | refine J_seq ?_ | refine J_region Tryz.tyOK ?_ | refine J_block ?_ | refine J_cond ?_ | refine J_ret ?_ | refine J_skip ?_ | refine J_exit ?_ | refine J_scope ?_
    | refine CondP.yes (by omega) ?_ | refine CondP.no (by omega) ?_ | refine CondP.mk (fun h => ?_) (fun h => ?_) | refine EqP.mk rfl ?_ | refine NewP.mk (fun ad => ?_) | refine ArP.exact (by simp only [inR]; omega) ?_ | refine SideP.mk (by first | omega | (dsimp only; omega) | (simp; omega)) ?_
    | refine CallP.mk [_] [] [_] _ c1 (by simp) (fun _ h => ⟨h.1, trivial⟩) (fun v L' D' hp => ?_); obtain ⟨rfl, rfl, rfl⟩ := hp | refine IdxE.mk e2 1 _ (hrd _ []) (by omega) (by omega) ?_ | refine LoadE.mk e2 _ _ _ (hrd _ []) (by omega) (by omega) (by omega) hg ?_ | exact FinE.mk _ [] ⟨rfl, rfl, rfl⟩ (Ents.facts fun _ _ => trivial)
    | fail
def tapeNames : List (List UInt8) := [[65], [66], [65, 47, 66], [67], [84], [85, 47, 120], [65, 47, 66, 47, 99], [76, 111, 110, 103, 32, 110, 97, 109, 101], [49], [88]]
theorem tapeTitle_ok (e : Nat) (a : Option Addr) (c ad at_ : Nat) (l : List Int) (hat : at_ ≤ l.length) (hl : l.length ≤ maxLen) : FnS Tryz.prog 13 [.c (.p 1000 ad 0)] [tapeC ad a l.length c at_] [slFact e 1 a l.length (l.map (C.i .i64))]
    (fun v L D => v = .agg [.i .i64 (tNext l at_ 6), .s (tapeNames.getD (tNext l (tAt l at_) 10).toNat [])] ∧ L = [tapeC ad a l.length c (tAt l (tAt l at_))] ∧ D = []) := by
  have c1 := next_ok e a c ad at_ l 6 (by omega) hat hl
  have c2 := fun b d => of_ok e 9 a b c d 10 ad (tAt l at_) l tapeNames rfl (by decide) (tAt_le hat) hl
  refine fn_of_J Tryz.tyOK 2000 Tryz.func13 (by kernel_rfl) (c := Tryz.f13.body.getD .skip) (by kernel_rfl) Tryz.ntmps13 (rs := Tryz.f13.results.toList) rfl (by simp) (fun G => ?_)
  repeat' first
    | refine J_seq ?_ | refine J_region Tryz.tyOK ?_ | refine J_block ?_ | refine J_cond ?_ | refine J_ret ?_ | refine J_skip ?_ | refine J_exit ?_ | refine J_scope ?_
    | refine CondP.yes (by omega) ?_ | refine CondP.no (by omega) ?_ | refine CondP.mk (fun h => ?_) (fun h => ?_) | refine EqP.mk rfl ?_ | refine NewP.mk (fun ad => ?_) | refine ArP.exact (by simp only [inR]; omega) ?_ | refine SideP.mk (by first | omega | (dsimp only; omega) | (simp; omega)) ?_
    | refine CallP.mk [_] [_] [_] _ c1 (List.Perm.swap _ _ _) (fun _ h => h) (fun v L' D' hp => ?_); obtain ⟨rfl, rfl, rfl⟩ := hp | refine CallP.mkE [_] [_] _ _ _ (c2 _ _) (Ents.toFact.trans (Ents.refl _ _)) (fun _ h => ⟨h.2.1, h.1, trivial⟩) (fun v L' D' hp => ?_); obtain ⟨rfl, rfl, rfl⟩ := hp | refine FinE.mk _ [] ⟨rfl, rfl, rfl⟩ ((Ents.perm (List.Perm.swap _ _ _)).trans (Ents.drop.trans (Ents.facts fun _ _ => trivial)))
    | fail
end Go.Proofs
