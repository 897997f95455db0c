/- This text walks through the functions of the package parameter, and those of the reference of chapter 10, that trim, number, look up and compare. -/
import Derived.Test.YtggnedoblokenaaDoorPar
set_option linter.all false

namespace Go.X
open Go Go.Lib

theorem ws_dec (b : UInt8) : wsB b = (decide ((b.toNat : Int) = 9) || decide ((b.toNat : Int) = 10) || decide ((b.toNat : Int) = 13) || decide ((b.toNat : Int) = 32)) := by
  have key : ∀ (c : UInt8) (n : Int), (c.toNat : Int) = n → (b == c) = decide ((b.toNat : Int) = n) := fun c n hn => by
    rw [Bool.eq_iff_iff, beq_iff_eq, decide_eq_true_eq, ← hn]
    exact ⟨fun h => by rw [h], fun h => UInt8.toNat_inj.1 (by omega)⟩
  unfold wsB
  rw [key 9 9 rfl, key 10 10 rfl, key 13 13 rfl, key 32 32 rfl]

theorem w_last {x : Bt} (h : 0 < x.length) : x = x.take (x.length - 1) ++ [x.getD (x.length - 1) 0] := by
  conv => lhs; rw [← List.take_append_drop (x.length - 1) x]
  congr 1
  rw [List.drop_eq_getElem_cons (by omega), show x.length - 1 + 1 = x.length by omega, List.drop_length]
  simp [show x.length - 1 < x.length by omega]
theorem w_head {x : Bt} (h : 0 < x.length) : x = x.getD 0 0 :: x.drop 1 := by cases x with
  | nil => simp at h
  | cons a r => rfl
theorem rdrop_snoc (r : Bt) (b : UInt8) : rdrop (r ++ [b]) = if wsB b = true then rdrop r else r ++ [b] := by
  unfold rdrop
  rw [List.reverse_append, List.reverse_singleton, List.singleton_append, List.dropWhile_cons]
  split
  · rfl
  · simp
theorem rdrop_yes {x : Bt} (h : 0 < x.length) (hb : wsB (x.getD (x.length - 1) 0) = true) : rdrop x = rdrop (x.take (x.length - 1)) := by
  conv => lhs; rw [w_last h, rdrop_snoc, if_pos hb]
theorem rdrop_no {x : Bt} (h : 0 < x.length) (hb : wsB (x.getD (x.length - 1) 0) = false) : rdrop x = x := by
  conv => lhs; rw [w_last h, rdrop_snoc, if_neg (by rw [hb]; simp), ← w_last h]
theorem dropW_yes {x : Bt} (h : 0 < x.length) (hb : wsB (x.getD 0 0) = true) : x.dropWhile wsB = (x.drop 1).dropWhile wsB := by
  conv => lhs; rw [w_head h, List.dropWhile_cons, if_pos hb]
theorem dropW_no {x : Bt} (h : 0 < x.length) (hb : wsB (x.getD 0 0) = false) : x.dropWhile wsB = x := by
  conv => lhs; rw [w_head h, List.dropWhile_cons, if_neg (by rw [hb]; simp), ← w_head h]
theorem dropW_len (s : Bt) : (s.dropWhile wsB).length ≤ s.length := (List.dropWhile_sublist _).length_le

/-- Cells of parameters and of arguments. -/
def KT.cells (x : KT) : List C := [.s x.1, .s x.2]
def ktC (l : List KT) : List C := l.flatMap KT.cells
def Vl.cells (v : Vl) : List C := [.b v.1, .s v.2.1, .s v.2.2]
def vlC (l : List Vl) : List C := l.flatMap Vl.cells
theorem ktC_snoc (l : List KT) (x : KT) : ktC (l ++ [x]) = ktC l ++ x.cells := by simp [ktC]
theorem ktC_len (l : List KT) : (ktC l).length = l.length * 2 := by
  induction l with
  | nil => rfl
  | cons x r ih => simp only [ktC, List.flatMap_cons, List.length_append, List.length_cons] at ih ⊢; rw [ih]; simp [KT.cells]; omega
theorem vlC_snoc (l : List Vl) (x : Vl) : vlC (l ++ [x]) = vlC l ++ x.cells := by simp [vlC]
theorem vlC_len (l : List Vl) : (vlC l).length = l.length * 3 := by
  induction l with
  | nil => rfl
  | cons x r ih => simp only [vlC, List.flatMap_cons, List.length_append, List.length_cons] at ih ⊢; rw [ih]; simp [Vl.cells]; omega
theorem kt_get {l : List KT} {i : Nat} (h : i < l.length) : ((ktC l).drop (i * 2 + 0)).take 2 = l[i].cells := by rw [ktC, flat_get (F := KT.cells) (z := 2) (fun _ => rfl) h (by omega)]; rfl
theorem kt_get0 {l : List KT} {i : Nat} (h : i < l.length) : ((ktC l).drop (i * 2 + 0)).take 1 = [C.s l[i].1] := by rw [ktC, flat_get (F := KT.cells) (z := 2) (fun _ => rfl) h (by omega)]; rfl
theorem kt_get1 {l : List KT} {i : Nat} (h : i < l.length) : ((ktC l).drop (i * 2 + (0 + 1))).take 1 = [C.s l[i].2] := by rw [ktC, flat_get (F := KT.cells) (z := 2) (fun _ => rfl) h (by omega)]; rfl
theorem vl_get {l : List Vl} {i : Nat} (h : i < l.length) : ((vlC l).drop (i * 3 + 0)).take 3 = l[i].cells := by rw [vlC, flat_get (F := Vl.cells) (z := 3) (fun _ => rfl) h (by omega)]; rfl
theorem vl_get0 {l : List Vl} {i : Nat} (h : i < l.length) : ((vlC l).drop (i * 3 + 0)).take 1 = [C.b l[i].1] := by rw [vlC, flat_get (F := Vl.cells) (z := 3) (fun _ => rfl) h (by omega)]; rfl
theorem vl_get1 {l : List Vl} {i : Nat} (h : i < l.length) : ((vlC l).drop (i * 3 + (0 + 1))).take 1 = [C.s l[i].2.1] := by rw [vlC, flat_get (F := Vl.cells) (z := 3) (fun _ => rfl) h (by omega)]; rfl
theorem vl_get2 {l : List Vl} {i : Nat} (h : i < l.length) : ((vlC l).drop (i * 3 + (0 + 2))).take 1 = [C.s l[i].2.2] := by rw [vlC, flat_get (F := Vl.cells) (z := 3) (fun _ => rfl) h (by omega)]; rfl

end Go.X

namespace Go.Proofs
open Go Go.X Go.Lib
set_option maxRecDepth 100000
set_option maxHeartbeats 4000000

theorem space_ok (b : UInt8) : FnS Tryd.prog 25 [.c (.i .u8 b.toNat)] [] [] (Is (.c (.b (wsB b)))) := by
  rw [ws_dec]
  have hb := b.toNat_lt
  refine fn_of_J Tryd.tyOK 0 Tryd.func25 (by kernel_rfl) (c := Tryd.f25.body.getD .skip) (by kernel_rfl) Tryd.ntmps25 (rs := Tryd.f25.results.toList) rfl (by simp) (fun G => ?_)
  repeat' first
    | refine J_seq ?_ | refine J_region Tryd.tyOK ?_ | refine J_block ?_ | refine J_cond ?_ | refine J_ret ?_ | refine J_skip ?_ | refine J_exit ?_ | refine J_scope ?_
    | refine CondP.yes (by omega) ?_ | refine CondP.no (by omega) ?_ | refine CondP.mk (fun h => ?_) (fun h => ?_) | refine EqP.mk rfl ?_ | refine NewP.mk (fun ad => ?_) | refine ArP.exact (by simp only [inR]; omega) ?_ | refine SideP.mk (by first | omega | (dsimp only; omega) | (simp; omega)) ?_
    | refine FinE.bool ?_
    | fail
  all_goals ((try simp only [Int.toNat_natCast, Int.toNat_zero] at *); simp only [*, decide_true, decide_false, Bool.true_and, Bool.false_and, Bool.and_true, Bool.and_false, Bool.not_true, Bool.not_false, Bool.true_or, Bool.false_or, Bool.or_true, Bool.or_false, not_true, not_false_eq_true, ne_eq, if_true, if_false, Bool.false_eq_true]; try rfl)

theorem strTrim_ok (s : Bt) (hs : s.length ≤ 9223372036854775807) : FnS Tryd.prog 20 [.c (.s s)] [] [] (Is (.c (.s (trimT s)))) := by
  have c1 := trim_ok s [9, 10, 13, 32] hs (by decide) (fun j b h => by
    have := List.mem_of_getElem? h
    simp at this
    rcases this with rfl | rfl | rfl | rfl <;> decide)
  rw [trimS_ws] at c1
  refine fn_of_J Tryd.tyOK 0 Tryd.func20 (by kernel_rfl) (c := Tryd.f20.body.getD .skip) (by kernel_rfl) Tryd.ntmps20 (rs := Tryd.f20.results.toList) rfl (by simp) (fun G => ?_)
  repeat' first
    | refine J_seq ?_ | refine J_region Tryd.tyOK ?_ | refine J_block ?_ | refine J_cond ?_ | refine J_ret ?_ | refine J_skip ?_ | refine J_exit ?_ | refine J_scope ?_
    | refine CondP.yes (by omega) ?_ | refine CondP.no (by omega) ?_ | refine CondP.mk (fun h => ?_) (fun h => ?_) | refine EqP.mk rfl ?_ | refine NewP.mk (fun ad => ?_) | refine ArP.exact (by simp only [inR]; omega) ?_ | refine SideP.mk (by first | omega | (dsimp only; omega) | (simp; omega)) ?_
    | refine CallP.is c1 ?_ | refine FinE.str rfl
    | fail

theorem refTrim_ok (s : Bt) (hs : s.length ≤ 9223372036854775807) : FnS Tryd.prog 14 [.c (.s s)] [] [] (Is (.c (.s (trimT s)))) := by
  unfold trimT
  generalize hx0 : s.dropWhile wsB = x0
  have hx0l : x0.length ≤ s.length := hx0 ▸ dropW_len s
  refine fn_of_J Tryd.tyOK 0 Tryd.func14 (by kernel_rfl) (c := Tryd.f14.body.getD .skip) (by kernel_rfl) Tryd.ntmps14 (rs := Tryd.f14.results.toList) rfl (by simp) (fun G => ?_)
  repeat' first
    | refine J_cut (x := .block 0 _) (α := Unit) (fun _ => [(0, .c (.s x0))]) (fun _ => []) (fun _ => []) 0 (fun _ => True) ?_ (fun _ _ => ?_)
    | refine J_seq ?_ | refine J_region Tryd.tyOK ?_ | refine J_block ?_ | refine J_cond ?_ | refine J_ret ?_ | refine J_skip ?_ | refine J_exit ?_ | refine J_scope ?_
    | refine CondP.yes (by omega) ?_ | refine CondP.no (by omega) ?_ | refine CondP.mk (fun h => ?_) (fun h => ?_) | refine EqP.mk rfl ?_ | refine NewP.mk (fun ad => ?_) | refine ArP.exact (by simp only [inR]; omega) ?_ | refine SideP.mk (by first | omega | (dsimp only; omega) | (simp; omega)) ?_
    | fail
  · refine J_loop (α := Bt) (fun x => [(0, .c (.s x))]) (fun _ => []) (fun _ => []) 0 (fun x => x.length ≤ s.length ∧ x0 = x.dropWhile wsB) (fun x => x.length) (InFam.mk s ⟨Nat.le_refl _, hx0.symm⟩ (by repeat' first | exact SubE.nil | refine SubE.cons rfl ?_ ?_ | exact VEq.refl _ | refine VEq.int (by omega) | refine VEq.sl rfl (by first | rfl | omega | (rw [List.length_append]; rfl) | (simp; omega)) rfl) (Ents.refl _ _)) (fun x hx => ?_)
    obtain ⟨hl, he⟩ := hx
    repeat' first
      | refine J_seq ?_ | refine J_region Tryd.tyOK ?_ | refine J_block ?_ | refine J_cond ?_ | refine J_ret ?_ | refine J_skip ?_ | refine J_exit ?_ | refine J_scope ?_
      | refine CondP.yes (by omega) ?_ | refine CondP.no (by omega) ?_ | refine CondP.mk (fun h => ?_) (fun h => ?_) | refine EqP.mk rfl ?_ | refine NewP.mk (fun ad => ?_) | refine ArP.exact (by simp only [inR]; omega) ?_ | refine SideP.mk (by first | omega | (dsimp only; omega) | (simp; omega)) ?_
      | refine CallP.isB (space_ok (x.getD 0 0)) (fun hb => ?_) (fun hb => ?_) | refine Round.mk (x.drop 1) (by rw [List.length_drop]; omega) ⟨by rw [List.length_drop]; omega, ?_⟩ (by repeat' first | exact SubE.nil | refine SubE.cons rfl ?_ ?_ | exact VEq.refl _ | refine VEq.int (by omega) | refine VEq.sl rfl (by first | rfl | omega | (rw [List.length_append]; rfl) | (simp; omega)) rfl) (Ents.refl _ _) | refine InFam.mk () trivial (SubE.cons rfl (VEq.str ?_) SubE.nil) (Ents.refl _ _)
      | fail
    all_goals
      (try simp only [Int.toNat_zero] at *)
      first
        | (rw [he]; exact dropW_yes (by omega) (by assumption))
        | (rw [he]; exact (dropW_no (by omega) (by assumption)).symm)
        | (rw [he]; exact dropW_no (by omega) (by assumption))
        | (rw [he, show x = [] from List.eq_nil_of_length_eq_zero (by omega)]; rfl)
  · refine J_loop (α := Bt) (fun x => [(0, .c (.s x))]) (fun _ => []) (fun _ => []) 0 (fun x => x.length ≤ x0.length ∧ rdrop x0 = rdrop x) (fun x => x.length) (InFam.mk x0 ⟨Nat.le_refl _, rfl⟩ (by repeat' first | exact SubE.nil | refine SubE.cons rfl ?_ ?_ | exact VEq.refl _ | refine VEq.int (by omega) | refine VEq.sl rfl (by first | rfl | omega | (rw [List.length_append]; rfl) | (simp; omega)) rfl) (Ents.refl _ _)) (fun x hx => ?_)
    obtain ⟨hl, he⟩ := hx
    have hk : ((x.length : Int) - 1).toNat = x.length - 1 := by omega
    have hsp := space_ok (x.getD ((x.length : Int) - 1).toNat 0)
    repeat' first
      | refine J_seq ?_ | refine J_region Tryd.tyOK ?_ | refine J_block ?_ | refine J_cond ?_ | refine J_ret ?_ | refine J_skip ?_ | refine J_exit ?_ | refine J_scope ?_
      | refine CondP.yes (by omega) ?_ | refine CondP.no (by omega) ?_ | refine CondP.mk (fun h => ?_) (fun h => ?_) | refine EqP.mk rfl ?_ | refine NewP.mk (fun ad => ?_) | refine ArP.exact (by simp only [inR]; omega) ?_ | refine SideP.mk (by first | omega | (dsimp only; omega) | (simp; omega)) ?_
      | refine CallP.isB hsp (fun hb => ?_) (fun hb => ?_) | refine Round.mk (x.take ((x.length : Int) - 1).toNat) (by rw [List.length_take]; omega) ⟨by rw [List.length_take]; omega, ?_⟩ (by repeat' first | exact SubE.nil | refine SubE.cons rfl ?_ ?_ | exact VEq.refl _ | refine VEq.int (by omega) | refine VEq.sl rfl (by first | rfl | omega | (rw [List.length_append]; rfl) | (simp; omega)) rfl) (Ents.refl _ _) | refine FinE.str ?_
      | fail
    all_goals
      (try simp only [hk] at *)
      first
        | (rw [he]; exact rdrop_yes (by omega) (by assumption))
        | (rw [he]; exact rdrop_no (by omega) (by assumption))
        | (rw [he, show x = [] from List.eq_nil_of_length_eq_zero (by omega)]; rfl)

theorem decimal1_ok (n : Nat) (h : n < 10) : FnS Tryd.prog 16 [.c (.i .i64 n)] [] [] (Is (.c (.s (decDigits n)))) := by
  rw [decDigits_one h]
  have hm : (n : Int).tmod 10 = (n : Int) := by rw [Int.tmod_eq_emod_of_nonneg (by omega)]; omega
  have hu : byteC (UInt8.ofNat (48 + n)) = C.i .u8 (48 + (n : Int).tmod 10) := by rw [byteC, show ((UInt8.ofNat (48 + n)).toNat : Int) = 48 + (n : Int).tmod 10 from by rw [UInt8.toNat_ofNat', Nat.mod_eq_of_lt (by omega), hm]; omega]
  refine fn_of_J Tryd.tyOK 0 Tryd.func16 (by kernel_rfl) (c := Tryd.f16.body.getD .skip) (by kernel_rfl) Tryd.ntmps16 (rs := Tryd.f16.results.toList) rfl (by simp) (fun G => ?_)
  repeat' first
    | refine J_seq ?_ | refine J_region Tryd.tyOK ?_ | refine J_block ?_ | refine J_cond ?_ | refine J_ret ?_ | refine J_skip ?_ | refine J_exit ?_ | refine J_scope ?_
    | refine CondP.yes (by omega) ?_ | refine CondP.no (by omega) ?_ | refine CondP.mk (fun h => ?_) (fun h => ?_) | refine EqP.mk rfl ?_ | refine NewP.mk (fun ad => ?_) | refine ArP.exact (by simp only [inR]; omega) ?_ | refine SideP.mk (by first | omega | (dsimp only; omega) | (simp; omega)) ?_
    | refine ArP.exact (by simp only [inR, hm]; omega) ?_ | refine FinE.str rfl
    | fail
  refine BytesE.mk 5 [UInt8.ofNat (48 + n)] (.inl ⟨1, ?_⟩) ?_
  · rw [List.map_cons, List.map_nil, hu]; exact List.Mem.head _
  repeat' first
    | refine J_seq ?_ | refine J_region Tryd.tyOK ?_ | refine J_block ?_ | refine J_cond ?_ | refine J_ret ?_ | refine J_skip ?_ | refine J_exit ?_ | refine J_scope ?_
    | refine CondP.yes (by omega) ?_ | refine CondP.no (by omega) ?_ | refine CondP.mk (fun h => ?_) (fun h => ?_) | refine EqP.mk rfl ?_ | refine NewP.mk (fun ad => ?_) | refine ArP.exact (by simp only [inR]; omega) ?_ | refine SideP.mk (by first | omega | (dsimp only; omega) | (simp; omega)) ?_
    | refine FinE.str rfl
    | fail

theorem decimal_ok (n : Nat) (h : n < 100) : FnS Tryd.prog 16 [.c (.i .i64 n)] [] [] (Is (.c (.s (decDigits n)))) := by
  by_cases h1 : n < 10
  · exact decimal1_ok n h1
  rw [decDigits, dif_neg h1]
  have hm : (n : Int).tmod 10 = ((n % 10 : Nat) : Int) := by rw [Int.tmod_eq_emod_of_nonneg (by omega)]; omega
  have hd : (n : Int).tdiv 10 = ((n / 10 : Nat) : Int) := by rw [Int.tdiv_eq_ediv_of_nonneg (by omega)]; omega
  have hu : byteC (UInt8.ofNat (48 + n % 10)) = C.i .u8 (48 + (n : Int).tmod 10) := by rw [byteC, show ((UInt8.ofNat (48 + n % 10)).toNat : Int) = 48 + (n : Int).tmod 10 from by rw [UInt8.toNat_ofNat', Nat.mod_eq_of_lt (by omega), hm]; omega]
  have c1 : FnS Tryd.prog 16 [.c (.i .i64 ((n : Int).tdiv 10))] [] [] (Is (.c (.s (decDigits (n / 10))))) := by rw [hd]; exact decimal1_ok (n / 10) (by omega)
  have hl : (decDigits (n / 10)).length = 1 := by rw [decDigits_one (by omega)]; rfl
  generalize decDigits (n / 10) = q at *
  refine fn_of_J Tryd.tyOK 0 Tryd.func16 (by kernel_rfl) (c := Tryd.f16.body.getD .skip) (by kernel_rfl) Tryd.ntmps16 (rs := Tryd.f16.results.toList) rfl (by simp) (fun G => ?_)
  repeat' first
    | refine J_seq ?_ | refine J_region Tryd.tyOK ?_ | refine J_block ?_ | refine J_cond ?_ | refine J_ret ?_ | refine J_skip ?_ | refine J_exit ?_ | refine J_scope ?_
    | refine CondP.yes (by omega) ?_ | refine CondP.no (by omega) ?_ | refine CondP.mk (fun h => ?_) (fun h => ?_) | refine EqP.mk rfl ?_ | refine NewP.mk (fun ad => ?_) | refine ArP.exact (by simp only [inR]; omega) ?_ | refine SideP.mk (by first | omega | (dsimp only; omega) | (simp; omega)) ?_
    | refine ArP.exact (by simp only [inR, hm]; omega) ?_ | refine ArP.exact (by simp only [inR, hd]; omega) ?_
    | fail
  refine BytesE.mk 5 [UInt8.ofNat (48 + n % 10)] (.inl ⟨1, ?_⟩) ?_
  · rw [List.map_cons, List.map_nil, hu]; exact List.Mem.head _
  repeat' first
    | refine J_seq ?_ | refine J_region Tryd.tyOK ?_ | refine J_block ?_ | refine J_cond ?_ | refine J_ret ?_ | refine J_skip ?_ | refine J_exit ?_ | refine J_scope ?_
    | refine CondP.yes (by omega) ?_ | refine CondP.no (by omega) ?_ | refine CondP.mk (fun h => ?_) (fun h => ?_) | refine EqP.mk rfl ?_ | refine NewP.mk (fun ad => ?_) | refine ArP.exact (by simp only [inR]; omega) ?_ | refine SideP.mk (by first | omega | (dsimp only; omega) | (simp; omega)) ?_
    | refine ArP.exact (by simp only [inR, hd]; omega) ?_ | refine CallP.is c1 ?_ | refine FinE.str rfl
    | fail

theorem get_ok (e : Nat) (a : Option Addr) (c : Nat) (l : List KT) (s : Bt) (hl : l.length ≤ 9223372036854775807) (hs : s.length ≤ 9223372036854775807) :
    FnS Tryd.prog 15 [.c (.sl a l.length c), .c (.s s)] [] [slFact e 2 a l.length (ktC l)] (Is (.t2 (.c (.s ((getA l (trimT s)).getD []))) (.c (.b (getA l (trimT s)).isSome)))) := by
  have hrd : ∀ L, Reads L [slFact e 2 a l.length (ktC l)] e 2 a l.length (ktC l) := fun L => .inr fun m h => h.1
  have c1 := strTrim_ok s hs
  generalize trimT s = k at *
  generalize hv : getA l k = v
  refine fn_of_J Tryd.tyOK 0 Tryd.func15 (by kernel_rfl) (c := Tryd.f15.body.getD .skip) (by kernel_rfl) Tryd.ntmps15 (rs := Tryd.f15.results.toList) rfl (by simp) (fun G => ?_)
  repeat' first
    | refine J_seq ?_ | refine J_region Tryd.tyOK ?_ | refine J_block ?_ | refine J_cond ?_ | refine J_ret ?_ | refine J_skip ?_ | refine J_exit ?_ | refine J_scope ?_
    | refine CondP.yes (by omega) ?_ | refine CondP.no (by omega) ?_ | refine CondP.mk (fun h => ?_) (fun h => ?_) | refine EqP.mk rfl ?_ | refine NewP.mk (fun ad => ?_) | refine ArP.exact (by simp only [inR]; omega) ?_ | refine SideP.mk (by first | omega | (dsimp only; omega) | (simp; omega)) ?_
    | refine CallP.is c1 ?_
    | fail
  refine J_loop (α := Nat) (fun i => [(1, .c (.s k)), (10, .c (.sl a l.length c)), (11, .c (.i .i64 l.length)), (12, .c (.i .i64 i))]) (fun _ => []) (fun _ => [slFact e 2 a l.length (ktC l)]) 0
    (fun i => i ≤ l.length ∧ v = getA (l.drop i) k) (fun i => l.length - i) (InFam.mk 0 ⟨by omega, hv.symm⟩ (by repeat' first | exact SubE.nil | refine SubE.cons rfl ?_ ?_ | exact VEq.refl _ | refine VEq.int (by omega) | refine VEq.sl rfl (by first | rfl | omega | (rw [List.length_append]; rfl) | (simp; omega)) rfl) (Ents.refl _ _)) (fun i hi => ?_)
  obtain ⟨hi, he⟩ := hi
  by_cases hlt : i < l.length
  · have hg := kt_get hlt
    rw [List.drop_eq_getElem_cons hlt, getA] at he
    generalize l[i] = x at *
    obtain ⟨xn, xt⟩ := x
    repeat' first
      | refine J_seq ?_ | refine J_region Tryd.tyOK ?_ | refine J_block ?_ | refine J_cond ?_ | refine J_ret ?_ | refine J_skip ?_ | refine J_exit ?_ | refine J_scope ?_
      | refine CondP.yes (by omega) ?_ | refine CondP.no (by omega) ?_ | refine CondP.mk (fun h => ?_) (fun h => ?_) | refine EqP.mk rfl ?_ | refine NewP.mk (fun ad => ?_) | refine ArP.exact (by simp only [inR]; omega) ?_ | refine SideP.mk (by first | omega | (dsimp only; omega) | (simp; omega)) ?_
      | refine IdxE.mk e 2 _ (hrd _) (by omega) (by omega) ?_ | refine LoadE.mk e _ _ _ (hrd _) (by omega) (by omega) (by first | omega | decide) hg ?_ | refine FinE.is ?_ | refine Round.mk (i + 1) (by omega) ⟨by omega, ?_⟩ (by repeat' first | exact SubE.nil | refine SubE.cons rfl ?_ ?_ | exact VEq.refl _ | refine VEq.int (by omega) | refine VEq.sl rfl (by first | rfl | omega | (rw [List.length_append]; rfl) | (simp; omega)) rfl) Ents.drop
      | fail
    · rw [if_pos (by assumption)] at he; rw [he]; rfl
    · rw [if_neg (by assumption)] at he; exact he
  · have hil : i = l.length := by omega
    subst hil
    rw [List.drop_length] at he
    subst he
    repeat' first
      | refine J_seq ?_ | refine J_region Tryd.tyOK ?_ | refine J_block ?_ | refine J_cond ?_ | refine J_ret ?_ | refine J_skip ?_ | refine J_exit ?_ | refine J_scope ?_
      | refine CondP.yes (by omega) ?_ | refine CondP.no (by omega) ?_ | refine CondP.mk (fun h => ?_) (fun h => ?_) | refine EqP.mk rfl ?_ | refine NewP.mk (fun ad => ?_) | refine ArP.exact (by simp only [inR]; omega) ?_ | refine SideP.mk (by first | omega | (dsimp only; omega) | (simp; omega)) ?_
      | refine FinE.is rfl
      | fail

theorem refGet_ok (e : Nat) (a : Option Addr) (c : Nat) (l : List KT) (s : Bt) (hl : l.length ≤ 9223372036854775807) (hs : s.length ≤ 9223372036854775807) :
    FnS Tryd.prog 17 [.c (.sl a l.length c), .c (.s s)] [] [slFact e 2 a l.length (ktC l)] (Is (.t2 (.c (.s ((getA l (trimT s)).getD []))) (.c (.b (getA l (trimT s)).isSome)))) := by
  have hrd : ∀ L, Reads L [slFact e 2 a l.length (ktC l)] e 2 a l.length (ktC l) := fun L => .inr fun m h => h.1
  have c1 := refTrim_ok s hs
  generalize trimT s = k at *
  generalize hv : getA l k = v
  refine fn_of_J Tryd.tyOK 0 Tryd.func17 (by kernel_rfl) (c := Tryd.f17.body.getD .skip) (by kernel_rfl) Tryd.ntmps17 (rs := Tryd.f17.results.toList) rfl (by simp) (fun G => ?_)
  repeat' first
    | refine J_seq ?_ | refine J_region Tryd.tyOK ?_ | refine J_block ?_ | refine J_cond ?_ | refine J_ret ?_ | refine J_skip ?_ | refine J_exit ?_ | refine J_scope ?_
    | refine CondP.yes (by omega) ?_ | refine CondP.no (by omega) ?_ | refine CondP.mk (fun h => ?_) (fun h => ?_) | refine EqP.mk rfl ?_ | refine NewP.mk (fun ad => ?_) | refine ArP.exact (by simp only [inR]; omega) ?_ | refine SideP.mk (by first | omega | (dsimp only; omega) | (simp; omega)) ?_
    | fail
  refine J_loop (α := Nat) (fun i => [(0, .c (.sl a l.length c)), (1, .c (.s s)), (6, .c (.i .i64 i))]) (fun _ => []) (fun _ => [slFact e 2 a l.length (ktC l)]) 0
    (fun i => i ≤ l.length ∧ v = getA (l.drop i) k) (fun i => l.length - i) (InFam.mk 0 ⟨by omega, hv.symm⟩ (by repeat' first | exact SubE.nil | refine SubE.cons rfl ?_ ?_ | exact VEq.refl _ | refine VEq.int (by omega) | refine VEq.sl rfl (by first | rfl | omega | (rw [List.length_append]; rfl) | (simp; omega)) rfl) (Ents.refl _ _)) (fun i hi => ?_)
  obtain ⟨hi, he⟩ := hi
  by_cases hlt : i < l.length
  · have hg := kt_get0 hlt
    have hg1 := kt_get1 hlt
    rw [List.drop_eq_getElem_cons hlt, getA] at he
    generalize l[i] = x at *
    obtain ⟨xn, xt⟩ := x
    repeat' first
      | refine J_seq ?_ | refine J_region Tryd.tyOK ?_ | refine J_block ?_ | refine J_cond ?_ | refine J_ret ?_ | refine J_skip ?_ | refine J_exit ?_ | refine J_scope ?_
      | refine CondP.yes (by omega) ?_ | refine CondP.no (by omega) ?_ | refine CondP.mk (fun h => ?_) (fun h => ?_) | refine EqP.mk rfl ?_ | refine NewP.mk (fun ad => ?_) | refine ArP.exact (by simp only [inR]; omega) ?_ | refine SideP.mk (by first | omega | (dsimp only; omega) | (simp; omega)) ?_
      | refine J_drawS (id := 4) Tryd.tyOK (by kernel_rfl) [0, 0, 3, 7, 15, 0, 32, 127] [0, 1, 2, 3, 4, 5, 6, 7] [] [15] true (by kernel_rfl) ?_ | refine EntP.mk (Ents.ofSub (by repeat (first | exact List.Sublist.slnil | refine List.Sublist.cons_cons _ ?_ | refine List.Sublist.cons _ ?_)) (by first | exact fun _ h => h | exact fun _ _ => trivial | exact fun _ h => h.2 | exact fun _ h => h.2.2.2.2 | exact fun _ h => ((allD_append _ _).1 h).2)) ?_ | refine IdxE.mk e 2 _ (hrd _) (by omega) (by omega) ?_ | refine FldE.mk e 2 _ _ (hrd _) (by omega) ?_ | refine LoadE.mk e _ _ _ (hrd _) (by omega) (by omega) (by first | omega | decide) hg ?_ | refine LoadE.mk e _ _ _ (hrd _) (by omega) (by omega) (by first | omega | decide) hg1 ?_ | refine CallP.is c1 ?_ | refine CallQ.mk _ _ c1 (fun _ _ => trivial) ?_ | refine FinE.is ?_ | refine Round.mk (i + 1) (by omega) ⟨by omega, ?_⟩ (by repeat' first | exact SubE.nil | refine SubE.cons rfl ?_ ?_ | exact VEq.refl _ | refine VEq.int (by omega) | refine VEq.sl rfl (by first | rfl | omega | (rw [List.length_append]; rfl) | (simp; omega)) rfl) (Ents.refl _ _)
      | fail
    · rw [if_pos (by assumption)] at he; rw [he]; rfl
    · rw [if_neg (by assumption)] at he; exact he
  · have hil : i = l.length := by omega
    subst hil
    rw [List.drop_length] at he
    subst he
    repeat' first
      | refine J_seq ?_ | refine J_region Tryd.tyOK ?_ | refine J_block ?_ | refine J_cond ?_ | refine J_ret ?_ | refine J_skip ?_ | refine J_exit ?_ | refine J_scope ?_
      | refine CondP.yes (by omega) ?_ | refine CondP.no (by omega) ?_ | refine CondP.mk (fun h => ?_) (fun h => ?_) | refine EqP.mk rfl ?_ | refine NewP.mk (fun ad => ?_) | refine ArP.exact (by simp only [inR]; omega) ?_ | refine SideP.mk (by first | omega | (dsimp only; omega) | (simp; omega)) ?_
      | refine FinE.is rfl
      | fail

end Go.Proofs
