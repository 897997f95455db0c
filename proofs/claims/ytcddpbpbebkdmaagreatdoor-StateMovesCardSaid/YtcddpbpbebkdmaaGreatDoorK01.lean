/- This text holds plain facts on lists of bytes, with no program in sight: what the library's string functions compute when the separator is one byte. -/
import Derived.Lib.Replace
import Derived.Lib.Join
import Derived.Lib.TrimByte
import Derived.Lib.Small
import Derived.Lib.SlTrimSet
import Derived.WalkKit
import Derived.Deep.Quiet
import Derived.KernelRfl
import Derived.Great.BuildSlice
import Derived.Lib.AppendZerosOnto
import Derived.Lib.UnsafeStr
import Derived.Deep.LoopGhost
set_option linter.all false
namespace Go.X
open Go.Lib
def QD (c : UInt8) : List UInt8 → List UInt8 × List UInt8 × Bool
 | [] => ([], [], false)
 | x :: r => if x = c then ([], r, true) else (x :: (QD c r).1, (QD c r).2.1, (QD c r).2.2)
def Qg (c : UInt8) : List UInt8 → List (List UInt8)
 | [] => [[]]
 | x :: r => if x = c then [] :: Qg c r else (x :: (Qg c r).headD []) :: (Qg c r).tail
theorem zz (c : UInt8) (l : List UInt8) : Qg c l ≠ [] := by
 cases l with
 | nil => simp [Qg]
 | cons x r => simp only [Qg]; split <;> simp
theorem Wx (c : UInt8) (l : List UInt8) : Qg c l = (Qg c l).headD [] :: (Qg c l).tail := by
 have := zz c l
 cases h : Qg c l with
 | nil => exact absurd h this
 | cons a b => rfl
theorem YO (c : UInt8) : index [] [c] = -1 := by simp [index]
theorem WK (c : UInt8) (l : List UInt8) : index (c :: l) [c] = 0 := by simp [index, List.isPrefixOf]
theorem XC {b c : UInt8} (h : b ≠ c) (l : List UInt8) : index (b :: l) [c] = if index l [c] = -1 then -1 else index l [c] + 1 := by
 have hp : ([c] : List UInt8).isPrefixOf (b :: l) = false := by simp [List.isPrefixOf, Ne.symm h]
 rw [index, hp]; simp
theorem Pa (c : UInt8) : ∀ l : List UInt8, cut l [c] = QD c l
 | [] => by simp [cut, QD, YO]
 | x :: r => by
  have ih := Pa c r
  by_cases h : x = c
  ·subst h; simp [cut, QD, WK]
  ·have hge := index_ge r [c]
   simp only [QD, if_neg h, ← ih]
   by_cases hm : index r [c] = -1
   ·simp [cut, XC h, hm]
   ·obtain ⟨i, hi⟩ : ∃ i : Nat, index r [c] = i := ⟨(index r [c]).toNat, by omega⟩
    have h1 : index (x :: r) [c] = ((i + 1 : Nat) : Int) := by rw [XC h, if_neg hm, hi]; omega
    have h2 : (0 : Int) ≤ ((i + 1 : Nat) : Int) := by omega
    have h3 : (0 : Int) ≤ ((i : Nat) : Int) := by omega
    simp only [cut, h1, hi, if_pos h2, if_pos h3, Int.toNat_natCast, List.take_succ_cons, List.length_singleton]
    simp [List.drop_succ_cons]
theorem zA (c : UInt8) : ∀ l : List UInt8, splitK [c] 0 (count l [c]) l = Qg c l
 | [] => by rw [count_miss (YO c)]; simp [splitK, Qg]
 | x :: r => by
  have ih := zA c r
  by_cases h : x = c
  ·subst h
   rw [count_cons_eq, Nat.add_comm, splitK, WK]
   simp [Qg, ih]
  ·rw [count_cons_ne _ _ _ h]
   have e := Wx c r
   simp only [Qg, if_neg h]
   cases hk : count r [c] with
   | zero =>
    rw [hk] at ih
    simp only [splitK] at ih ⊢
    rw [← ih]
    rfl
   | succ k =>
    rw [hk] at ih
    have hge := index_ge r [c]
    by_cases hm : index r [c] = -1
    ·rw [splitK, if_pos (by simp [hm])] at ih
     rw [splitK, XC h, hm, ← ih]
     simp
    ·obtain ⟨i, hi⟩ : ∃ i : Nat, index r [c] = i := ⟨(index r [c]).toNat, by omega⟩
     have h1 : index (x :: r) [c] = ((i + 1 : Nat) : Int) := by rw [XC h, if_neg hm, hi]; omega
     rw [splitK, hi, if_neg (by simp)] at ih
     rw [splitK, h1, if_neg (by simp; omega), ← ih]
     simp
theorem wP (a b : UInt8) (hab : a ≠ b) (l : List UInt8) : replaceAll l [a] [b] = l.map fun x => if x = a then b else x := by
 have key : ∀ l : List UInt8, replaceK [a] [b] (count l [a]) l = l.map fun x => if x = a then b else x := by
  intro l
  induction l with
  | nil => rw [count_miss (YO a)]; simp [replaceK]
  | cons x r ih =>
   by_cases h : x = a
   ·subst h
    rw [count_cons_eq, Nat.add_comm, replaceK, WK]
    simp [ih]
   ·rw [count_cons_ne _ _ _ h]
    simp only [List.map_cons, if_neg h]
    cases hk : count r [a] with
    | zero => rw [hk] at ih; simp only [replaceK] at ih ⊢; rw [← ih]
    | succ k =>
     rw [hk] at ih
     have hge := index_ge r [a]
     by_cases hm : index r [a] = -1
     ·rw [replaceK, if_pos (by simp [hm])] at ih
      rw [replaceK, XC h, hm, ← ih]
      simp
     ·obtain ⟨i, hi⟩ : ∃ i : Nat, index r [a] = i := ⟨(index r [a]).toNat, by omega⟩
      have h1 : index (x :: r) [a] = ((i + 1 : Nat) : Int) := by rw [XC h, if_neg hm, hi]; omega
      rw [replaceK, hi, if_neg (by simp)] at ih
      rw [replaceK, h1, if_neg (by simp; omega), ← ih]
      simp
 unfold replaceAll replace
 rw [if_neg (by simp [hab])]
 have : replaceNum l [a] (-1) = count l [a] := by simp [replaceNum]
 rw [this, key]
def Z3 (c : UInt8) : List (List UInt8) → List UInt8
 | [] => []
 | [x] => x
 | x :: y :: r => x ++ c :: Z3 c (y :: r)
theorem Yr (c : UInt8) : ∀ xs : List (List UInt8), join xs [c] = Z3 c xs
 | [] => rfl
 | [x] => by rw [join_one, Z3]
 | x :: y :: r => by
  have ih := Yr c (y :: r)
  rw [join_cons] at ih ⊢
  rw [Z3, ← ih]
  simp [joinTail]
theorem xI (c : UInt8) : ∀ l : List UInt8, Z3 c (Qg c l) = l
 | [] => rfl
 | x :: r => by
  have ih := xI c r
  have e := Wx c r
  by_cases h : x = c
  ·subst h
   simp only [Qg, if_true]
   rw [e] at ih ⊢
   simp only [Z3, ih, List.nil_append]
  ·simp only [Qg, if_neg h]
   rw [e] at ih
   cases ht : (Qg c r).tail with
   | nil => rw [ht] at ih; simp only [Z3] at ih ⊢; rw [ih]
   | cons y t => rw [ht] at ih; simp only [Z3, List.cons_append] at ih ⊢; rw [ih]
theorem Q5 (c : UInt8) : ∀ l : List UInt8, (Qg c l).length ≤ l.length + 1
 | [] => by simp [Qg]
 | x :: r => by
  have ih := Q5 c r
  simp only [Qg]
  split
  ·simp; omega
  ·simp; omega
theorem ZI (c : UInt8) : ∀ (l p : List UInt8), p ∈ Qg c l → p.length ≤ l.length
 | [], p, h => by simp [Qg] at h; simp [h]
 | x :: r, p, h => by
  have ih := ZI c r
  have hh : ((Qg c r).headD []).length ≤ r.length := by
   have := ih ((Qg c r).headD []) (by rw [Wx c r]; simp)
   exact this
  simp only [Qg] at h
  split at h
  ·rcases List.mem_cons.1 h with rfl | h
   ·simp
   ·have := ih p h; simp; omega
  ·rcases List.mem_cons.1 h with rfl | h
   ·simp only [List.length_cons]; omega
   ·have := ih p (List.mem_of_mem_tail h); simp; omega
section
variable {α : Type} {A B : List α} {i : Nat}
theorem L8 (hA : A.length = B.length) : (A.take i ++ B.drop i).length = B.length := by simp; omega
theorem L9 (hA : A.length = B.length) (h : i < B.length) (h' : i < (A.take i ++ B.drop i).length) : (A.take i ++ B.drop i)[i] = B[i] := by
 rw [List.getElem_append_right (by simp; omega)]
 simp [Nat.min_eq_left (by omega : i ≤ A.length)]
theorem L7 (hA : A.length = B.length) (h : i < A.length) : (A.take i ++ B.drop i).set i A[i] = A.take (i + 1) ++ B.drop (i + 1) := by
 have hl : (A.take i).length = i := by simp; omega
 rw [List.set_append_right _ _ (by omega), List.take_succ_eq_append_getElem h, List.append_assoc, hl, Nat.sub_self, List.drop_eq_getElem_cons (l := B) (i := i) (by omega)]
 rfl
theorem Na (hi : i = B.length) (hA : A.length = B.length) : A.take i ++ B.drop i = A := by
 subst hi; simp [← hA]
end
theorem YN (c : UInt8) (m : Nat) : ∀ xs : List (List UInt8), (∀ p ∈ xs, p.length ≤ m) → (Z3 c xs).length ≤ xs.length * (m + 1)
 | [], _ => by simp [Z3]
 | [x], h => by have := h x (by simp); simp [Z3]; omega
 | x :: y :: r, h => by
  have h1 := h x (by simp)
  have h2 := YN c m (y :: r) (fun p hp => h p (by simp [hp]))
  have e : (x :: y :: r).length * (m + 1) = (m + 1) + (y :: r).length * (m + 1) := by rw [List.length_cons (a := x), Nat.add_mul]; omega
  rw [e, Z3, List.length_append, List.length_cons]
  omega
theorem vZ (c : UInt8) : ∀ xs ys : List (List UInt8), xs.length = ys.length → (∀ (i : Nat) (h : i < xs.length) (h' : i < ys.length), xs[i].length ≤ ys[i].length) → (Z3 c xs).length ≤ (Z3 c ys).length
 | [], [], _, _ => Nat.le_refl _
 | [x], [y], _, h => by have := h 0 (by simp) (by simp); simpa [Z3] using this
 | x :: x' :: r, y :: y' :: q, hl, h => by
  have h0 := h 0 (by simp) (by simp)
  have ih := vZ c (x' :: r) (y' :: q) (by simpa using hl) (fun i h1 h2 => h (i + 1) (by simpa using h1) (by simpa using h2))
  simp only [List.getElem_cons_zero] at h0
  simp only [Z3, List.length_append, List.length_cons]
  omega
 | [], _ :: _, hl, _ => by simp at hl
 | _ :: _, [], hl, _ => by simp at hl
 | [_], _ :: _ :: _, hl, _ => by simp at hl
 | _ :: _ :: _, [_], hl, _ => by simp at hl
end Go.X
namespace Go.X
def lowB (b : UInt8) : UInt8 := if 65 ≤ b ∧ b ≤ 90 then b + 32 else b
theorem Hh {b : UInt8} (h : 65 ≤ (b.toNat : Int)) (h' : (b.toNat : Int) ≤ 90) : ((lowB b).toNat : Int) = b.toNat + 32 := by
 have h1 : (65 : UInt8) ≤ b := by rw [UInt8.le_iff_toNat_le]; simp; omega
 have h2 : b ≤ (90 : UInt8) := by rw [UInt8.le_iff_toNat_le]; simp; omega
 unfold lowB
 rw [if_pos ⟨h1, h2⟩, UInt8.toNat_add]
 simp; omega
theorem U7 {b : UInt8} (h : ¬ (65 ≤ (b.toNat : Int) ∧ (b.toNat : Int) ≤ 90)) : lowB b = b := by
 unfold lowB
 rw [if_neg]
 rintro ⟨h1, h2⟩
 rw [UInt8.le_iff_toNat_le] at h1 h2
 simp at h1 h2
 omega
def Q3 : Nat → List UInt8
 | 1 => [84, 97, 108, 107]
 | 2 => [85, 115, 101, 114]
 | 3 => [84, 101, 109, 112, 108, 97, 116, 101]
 | 4 => [67, 97, 116, 101, 103, 111, 114, 121]
 | 5 => [80, 114, 111, 106, 101, 99, 116]
 | _ => []
def qD (p : List UInt8) : Nat :=
 if p.map lowB = (Q3 1).map lowB then 1 else if p.map lowB = (Q3 2).map lowB then 2 else if p.map lowB = (Q3 3).map lowB then 3
 else if p.map lowB = (Q3 4).map lowB then 4 else if p.map lowB = (Q3 5).map lowB then 5 else 0
def QN (s : List UInt8) : Nat := if (QD 58 s).2.2 = true then qD (Lib.trimSuffix (QD 58 s).1 [32]) else 0
def qA (s : List UInt8) : List UInt8 := (QD 58 s).2.1
def Eo (c : UInt8) : Bool := decide ((c.toNat : Int) < 32) || decide ((c.toNat : Int) = 127) || decide (0 ≤ Lib.indexByte [60, 62, 91, 93, 123, 125, 124, 35, 95] c)
def JK : Bool → List UInt8 → Bool
 | _, [] => true
 | p, c :: r => !Eo c && !(p && c.toNat == 32) && JK (c.toNat == 32) r
def Y9 (p : List UInt8) : Bool := !decide (p = []) && !decide (((p.getD 0 0).toNat : Int) = 32) && !decide (((p.getD ((p.length : Int) - 1).toNat 0).toNat : Int) = 32)
def yo (s : List UInt8) : Bool := !decide (((s.getD 0 0).toNat : Int) = 58) && !(decide (97 ≤ ((s.getD 0 0).toNat : Int)) && decide (((s.getD 0 0).toNat : Int) ≤ 122))
def Qw (sp : Int) (s : List UInt8) : Bool :=
 !decide (sp < 0) && !decide (6 ≤ sp) && !decide ((s.length : Int) < 1) && !decide (100 < (s.length : Int)) && JK false s && (Qg 47 s).all Y9 && yo s && (!decide (sp = 0) || !decide (QN s ≠ 0))
def KN (out : List UInt8) (c : UInt8) : List UInt8 :=
 if (!decide ((c.toNat : Int) = 32) || (decide (0 < (out.length : Int)) && !decide (((out.getD ((out.length : Int) - 1).toNat 0).toNat : Int) = 32))) = true then out ++ [c] else out
def KS (s : List UInt8) (i : Nat) : List UInt8 := (s.take i).foldl KN []
theorem jz {s : List UInt8} {i : Nat} (h : i < s.length) : KS s (i + 1) = KN (KS s i) (s.getD i 0) := by
 unfold KS
 rw [List.take_succ_eq_append_getElem h, List.foldl_append]
 simp [h]
theorem w8 (s : List UInt8) : KS s s.length = s.foldl KN [] := by simp [KS]
theorem GF (out : List UInt8) (c : UInt8) : (KN out c).length ≤ out.length + 1 := by unfold KN; split <;> simp
theorem kY {s : List UInt8} : ∀ {i : Nat}, i ≤ s.length → (KS s i).length ≤ i
 | 0, _ => by simp [KS]
 | i + 1, h => by
  have := kY (s := s) (i := i) (by omega)
  rw [jz (by omega)]
  exact Nat.le_trans (GF _ _) (by omega)
def J3 (s : List UInt8) : List UInt8 := Lib.trimSuffix (s.foldl KN []) [32]
def Pz (n i : Nat) (p : List UInt8) : List UInt8 :=
 if (i : Int) < (n : Int) - 1 then Lib.trimRightB (if 0 < (i : Int) then Lib.trimLeftB p 32 else p) 32 else (if 0 < (i : Int) then Lib.trimLeftB p 32 else p)
def Zo (s : List UInt8) : List (List UInt8) := (Qg 47 s).mapIdx fun i p => Pz (Qg 47 s).length i p
def KO (s : List UInt8) : List UInt8 := Z3 47 (Zo s)
theorem Vm {p : UInt8 → Bool} : ∀ l : List UInt8, (l.dropWhile p).length ≤ l.length
 | [] => by simp
 | x :: r => by
  have := Vm (p := p) r
  simp only [List.dropWhile_cons]; split <;> simp; omega
theorem xi (l : List UInt8) (c : UInt8) : (Lib.trimLeftB l c).length ≤ l.length := Vm l
theorem zb (l : List UInt8) (c : UInt8) : (Lib.trimRightB l c).length ≤ l.length := by
 have := Vm (p := (· == c)) l.reverse
 simpa [Lib.trimRightB] using this
theorem RX (n i : Nat) (p : List UInt8) : (Pz n i p).length ≤ p.length := by
 have h1 := xi p 32
 unfold Pz
 split
 ·split
  ·exact Nat.le_trans (zb _ _) h1
  ·exact zb _ _
 ·split
  ·exact h1
  ·exact Nat.le_refl _
theorem Jz (s : List UInt8) : (Zo s).length = (Qg 47 s).length := by simp [Zo]
theorem K6 (s : List UInt8) {i : Nat} (h : i < (Zo s).length) (h' : i < (Qg 47 s).length) : (Zo s)[i] = Pz (Qg 47 s).length i (Qg 47 s)[i] := by simp [Zo]
theorem Vx (s p : List UInt8) (h : p ∈ Zo s) : p.length ≤ s.length := by
 obtain ⟨i, hi, rfl⟩ := List.getElem_of_mem h
 have hi' : i < (Qg 47 s).length := by rw [← Jz]; exact hi
 rw [K6 s hi hi']
 exact Nat.le_trans (RX _ _ _) (ZI 47 s _ (List.getElem_mem hi'))
theorem GG (s : List UInt8) : (KO s).length ≤ (s.length + 1) * (s.length + 1) := by
 refine Nat.le_trans (YN 47 s.length _ (Vx s)) (Nat.mul_le_mul_right _ ?_)
 rw [Jz]; exact Q5 47 s
theorem Wy (s : List UInt8) : (KO s).length ≤ s.length := by
 have h := vZ 47 (Zo s) (Qg 47 s) (Jz s) (fun i h h' => by rw [K6 s h h']; exact RX _ _ _)
 rwa [xI] at h
theorem za (s p : List UInt8) : (Lib.trimSuffix s p).length ≤ s.length := by
 unfold Lib.trimSuffix; split
 ·simp
 ·exact Nat.le_refl _
theorem KA (s p : List UInt8) : (Lib.trimPrefix s p).length ≤ s.length := by
 unfold Lib.trimPrefix; split
 ·simp
 ·exact Nat.le_refl _
theorem JJ (c : UInt8) : ∀ s : List UInt8, (QD c s).1.length ≤ s.length
 | [] => by simp [QD]
 | x :: r => by
  have := JJ c r
  simp only [QD]; split <;> simp; omega
theorem WO (c : UInt8) : ∀ s : List UInt8, (QD c s).2.1.length ≤ s.length
 | [] => by simp [QD]
 | x :: r => by
  have := WO c r
  simp only [QD]; split <;> simp; omega
theorem RB (s : List UInt8) : (qA s).length ≤ s.length := WO 58 s
theorem zC (s : List UInt8) : (J3 s).length ≤ s.length := by
 have h := kY (s := s) (Nat.le_refl _)
 rw [w8] at h
 exact Nat.le_trans (za _ _) h
def jk (s : List UInt8) : List UInt8 := s.map fun x => if x = 95 then 32 else x
def Jk (t : List UInt8) : List UInt8 := if ([58] : List UInt8).isPrefixOf t = true then Lib.trimPrefix (t.drop 1) [32] else t
def JB (t : List UInt8) : List UInt8 := if decide (QN t ≠ 0) = true then Lib.trimPrefix (qA t) [32] else t
def EE (t : List UInt8) : List UInt8 := if (!decide (t = []) && decide (97 ≤ ((t.getD 0 0).toNat : Int)) && decide (((t.getD 0 0).toNat : Int) ≤ 122)) = true then [t.getD 0 0 - 32] ++ t.drop 1 else t
def Y2 (s : List UInt8) : Nat := QN (Jk (J3 (jk s)))
def Vz (s : List UInt8) : List UInt8 := EE (KO (JB (Jk (J3 (jk s)))))
def Zd (s : List UInt8) : Int × List UInt8 × Int :=
 if decide (100 < ((Vz s).length : Int)) = true then (0, [], 3) else if Qw (Y2 s) (Vz s) = true then (Y2 s, Vz s, 0) else (0, [], 1)
theorem Uw (t : List UInt8) : (EE t).length = t.length := by
 unfold EE; split
 ·rename_i h
  cases t with
  | nil => simp at h
  | cons a r => simp
 ·rfl
theorem zJ (t : List UInt8) : (Jk t).length ≤ t.length := by
 unfold Jk; split
 ·exact Nat.le_trans (KA _ _) (by simp)
 ·exact Nat.le_refl _
theorem zI (t : List UInt8) : (JB t).length ≤ t.length := by
 unfold JB; split
 ·exact Nat.le_trans (KA _ _) (RB _)
 ·exact Nat.le_refl _
theorem yf (s : List UInt8) : (Vz s).length ≤ s.length := by
 unfold Vz
 rw [Uw]
 have h : (jk s).length = s.length := by simp [jk]
 exact Nat.le_trans (Wy _) (Nat.le_trans (zI _) (Nat.le_trans (zJ _) (Nat.le_trans (zC _) (by omega))))
theorem XZ {sp : Int} {s : List UInt8} (h : Qw sp s = true) : 0 ≤ sp ∧ sp < 6 ∧ 1 ≤ s.length ∧ s.length ≤ 100 := by
 unfold Qw at h
 simp only [Bool.and_eq_true, Bool.not_eq_true', decide_eq_false_iff_not] at h
 omega
def JC (sp : Int) (s : List UInt8) : List UInt8 := if Qw sp s = true then (if sp = 0 then s else Q3 sp.toNat ++ [58] ++ s) else []
theorem qE (n : Nat) : (Q3 n).length ≤ 8 := by unfold Q3; split <;> decide
theorem zQ (sp : Int) (s : List UInt8) : (JC sp s).length ≤ 109 := by
 unfold JC
 split
 ·rename_i h
  have h1 := XZ h
  have h2 := qE sp.toNat
  split <;> simp <;> omega
 ·simp
def QH (a : Int) (x : List UInt8) (b : Int) (y : List UInt8) : Int := if Lib.compareInt a b ≠ 0 then Lib.compareInt a b else Lib.compareBytes x y
attribute [irreducible] Qw Vz Y2 Zd JC
end Go.X
namespace Go.X
open Go
inductive Jh where
 | loose
 | strict
 deriving Inhabited, DecidableEq
variable [Sm : Inhabited Jh]
inductive C where
 | b (x : Bool)
 | i (k : IntKind) (n : Int)
 | s (l : List UInt8)
 | p (id ad off : Nat)
 | sl (a : Option Addr) (n c : Nat)
 | e (a : Option Addr) (esz : Nat) (ix : Int) (off : Nat)
 | fn (f : Nat) (caps : List (Nat × Nat × Nat))
 | m (id ad : Nat)
 | raw (x : Value)
inductive V where
 | c (x : C)
 | agg (cs : List C)
 | t0
 | t1 (x : V)
 | t2 (x y : V)
 | t3 (x y z : V)
 | t4 (x y z u : V)
def Kb (esz : Nat) (ix : Int) (off : Nat) (a : Addr) : Addr := ⟨a.block, a.off + (ix.toNat * esz + off), none⟩
def C.enc : C → Value
 | .b x => .bool x
 | .i k n => .int k n
 | .s l => .string ⟨⟨l⟩⟩
 | .p _ ad off => .pointer (some ⟨ad, off, none⟩)
 | .sl a n c => .slice a n c
 | .e a esz ix off => .pointer (a.map (Kb esz ix off))
 | .fn f caps => .func (.func f) #[] (caps.map fun x => Value.pointer (some ⟨x.2.1, x.2.2, none⟩)).toArray
 | .m _ ad => .map (some ad)
 | .raw x => x
def C.one : C → Bool
 | .raw x => x.oneCell'
 | _ => true
def V.enc : V → Value
 | .c x => x.enc
 | .agg cs => .agg (cs.map C.enc).toArray
 | .t0 => .tuple #[]
 | .t1 x => .tuple #[x.enc]
 | .t2 x y => .tuple #[x.enc, y.enc]
 | .t3 x y z => .tuple #[x.enc, y.enc, z.enc]
 | .t4 x y z u => .tuple #[x.enc, y.enc, z.enc, u.enc]
def V.cells : V → List C
 | .c x => [x]
 | .agg cs => cs
 | _ => []
theorem C.enc_oneCell (x : C) (h : x.one = true) : x.enc.oneCell' = true := by
 cases x <;> first | rfl | exact h
abbrev Im := Nat → Option Obj
abbrev XR := List (Nat × V)
def look : XR → Nat → Option V
 | [], _ => none
 | (d, v) :: r, n => match Nat.beq d n with
  | true => some v
  | false => look r n
theorem WJ (d : Nat) (v : V) (r : XR) : look ((d, v) :: r) d = some v := by
 have : Nat.beq d d = true := Nat.beq_refl d
 simp [look, this]
theorem Vg {d n : Nat} (v : V) (r : XR) (h : d ≠ n) : look ((d, v) :: r) n = look r n := by
 have : Nat.beq d n = false := by
  cases hb : Nat.beq d n
  ·rfl
  ·exact absurd (Nat.eq_of_beq_eq_true hb) h
 simp [look, this]
inductive Chunk where
 | box (id ad : Nat) (ty : TypeId) (cs : List C)
 | row (ety : TypeId) (esz : Nat) (a : Option Addr) (n c : Nat) (cs : List C)
 | obj (id ad : Nat) (o : Obj)
def Chunk.fp : Chunk → List Nat
 | .box _ ad _ _ => [ad]
 | .row _ _ a _ _ _ => (a.map Addr.block).toList
 | .obj _ ad _ => [ad]
def ZO (cs : List C) : Prop := ∀ x ∈ cs, x.one = true
def H6 (o : Option Obj) (ety : TypeId) (esz n c : Nat) (cs : List C) : Prop :=
 ∃ cur lo hi, o = some (.cells cur ety (lo, hi)) ∧ n ≤ c ∧ c ≤ maxLen ∧ cur.size = c * esz ∧ ((cur.size ≤ lo ∧ esz = 1) ∨ hi ≤ lo) ∧ cs.length = n * esz ∧ cur.toList.take (n * esz) = cs.map C.enc
def Chunk.ok (w : World) : Chunk → Prop
 | .box _ ad ty cs => ZO cs ∧ w.heap[ad]? = some (.cells (cs.map C.enc).toArray ty (0, 0))
 | .row ety esz a n c cs => ZO cs ∧ ((a = none ∧ n = 0 ∧ c = 0 ∧ cs = []) ∨ ∃ g, a = some ⟨g, 0, none⟩ ∧ H6 w.heap[g]? ety esz n c cs)
 | .obj _ ad o => w.heap[ad]? = some o
theorem Chunk.ok_of_same {w w' : World} {ch : Chunk} (h : ch.ok w) (hs : ∀ b ∈ ch.fp, w'.heap[b]? = w.heap[b]?) : ch.ok w' := by
 cases ch with
 | box id ad ty cs => exact ⟨h.1, by rw [hs ad (by simp [Chunk.fp])]; exact h.2⟩
 | row ety esz a n c cs =>
  refine ⟨h.1, ?_⟩
  rcases h.2 with h' | ⟨g, hg, hr⟩
  ·exact .inl h'
  ·exact .inr ⟨g, hg, by rw [hs g (by simp [Chunk.fp, hg])]; exact hr⟩
 | obj id ad o => exact (hs ad (by simp [Chunk.fp])).trans h
theorem Chunk.lt_of_ok {w : World} {ch : Chunk} (h : ch.ok w) : ∀ b ∈ ch.fp, b < w.heap.size := by
 have key : ∀ (b : Nat) (o : Obj), w.heap[b]? = some o → b < w.heap.size := fun b o hb => (Array.getElem?_eq_some_iff.1 hb).1
 cases ch with
 | box id ad ty cs => intro b hb; simp [Chunk.fp] at hb; subst hb; exact key _ _ h.2
 | row ety esz a n c cs =>
  intro b hb
  rcases h.2 with ⟨ha, _⟩ | ⟨g, hg, cur, lo, hi, ho, _⟩
  ·simp [Chunk.fp, ha] at hb
  ·simp [Chunk.fp, hg] at hb; subst hb; exact key _ _ ho
 | obj id ad o => intro b hb; simp [Chunk.fp] at hb; subst hb; exact key _ _ h
structure Fact where
 p : Im → Prop
 mono : ∀ m m' : Im, (∀ b o, m b = some o → m' b = some o) → p m → p m'
def Xy : List Chunk → List Nat
 | [] => []
 | c :: r => c.fp ++ Xy r
def WV (w : World) : List Chunk → Prop
 | [] => True
 | c :: r => c.ok w ∧ WV w r
def QI (m : Im) : List Fact → Prop
 | [] => True
 | f :: r => f.p m ∧ QI m r
structure Wa (w : World) (m : Im) (L : List Chunk) (D : List Fact) : Prop where
 nd : (Xy L).Nodup
 ok : WV w L
 im : ∀ b o, m b = some o → w.heap[b]? = some o ∧ b ∉ Xy L
 d : QI m D
theorem JG {w : World} : ∀ {L : List Chunk}, WV w L → ∀ b ∈ Xy L, b < w.heap.size
 | [], _, b, hb => by simp [Xy] at hb
 | c :: r, h, b, hb => by
  simp only [Xy, List.mem_append] at hb
  rcases hb with hb | hb
  ·exact Chunk.lt_of_ok h.1 b hb
  ·exact JG h.2 b hb
theorem Zk {w w' : World} : ∀ {L : List Chunk}, WV w L → (∀ b ∈ Xy L, w'.heap[b]? = w.heap[b]?) → WV w' L
 | [], _, _ => trivial
 | c :: r, h, hs => ⟨Chunk.ok_of_same h.1 fun b hb => hs b (by simp [Xy, hb]), Zk h.2 fun b hb => hs b (by simp [Xy, hb])⟩
theorem Ze (A B : List Chunk) : Xy (A ++ B) = Xy A ++ Xy B := by
 induction A with
 | nil => simp [Xy]
 | cons c r ih => simp [Xy, ih]
theorem XP {w : World} (A B : List Chunk) : WV w (A ++ B) ↔ WV w A ∧ WV w B := by
 induction A with
 | nil => simp [WV]
 | cons c r ih => simp [WV, ih, and_assoc]
theorem Qs {m : Im} (A B : List Fact) : QI m (A ++ B) ↔ QI m A ∧ QI m B := by
 induction A with
 | nil => simp [QI]
 | cons c r ih => simp [QI, ih, and_assoc]
theorem jN {m m' : Im} (hm : ∀ b o, m b = some o → m' b = some o) : ∀ {D : List Fact}, QI m D → QI m' D
 | [], _ => trivial
 | f :: _, h => ⟨f.mono m m' hm h.1, jN hm h.2⟩
def frO (o : Option Obj) (off : Nat) : Bool :=
 match o with
 | some (.cells _ _ (lo, hi)) => lo ≤ off && off < hi
 | _ => false
structure kQ (w w' : World) : Prop where
 os : w'.os = w.os
 out : w'.output = w.output
 size : w.heap.size ≤ w'.heap.size
 tape : Sm.default = .strict → w'.tape = w.tape
 drawn : Sm.default = .strict → w.drawn ≤ w'.drawn
theorem kQ.refl (w : World) : kQ w w := ⟨rfl, rfl, Nat.le_refl _, fun _ => rfl, fun _ => Nat.le_refl _⟩
theorem kQ.trans {w w1 w2 : World} (h : kQ w w1) (h' : kQ w1 w2) : kQ w w2 := ⟨h'.os.trans h.os, h'.out.trans h.out, Nat.le_trans h.size h'.size, fun e => (h'.tape e).trans (h.tape e), fun e => Nat.le_trans (h.drawn e) (h'.drawn e)⟩
structure Fr (w : World) (L : List Chunk) (m : Im) (w' : World) (L' : List Chunk) (m' : Im) : Prop where
 size : w.heap.size ≤ w'.heap.size
 same : ∀ b, b < w.heap.size → b ∉ Xy L → w'.heap[b]? = w.heap[b]?
 own : ∀ b ∈ Xy L', b ∈ Xy L ∨ w.heap.size ≤ b
 im : ∀ b o, m b = some o → m' b = some o
 new : ∀ b o, m' b = some o → m b = some o ∨ b ∈ Xy L ∨ w.heap.size ≤ b
 kept : kQ w w'
theorem Fr.refl (w : World) (L : List Chunk) (m : Im) : Fr w L m w L m :=
 ⟨Nat.le_refl _, fun _ _ _ => rfl, fun _ h => .inl h, fun _ _ h => h, fun _ _ h => .inl h, kQ.refl _⟩
theorem Fr.trans {w w1 w2 : World} {L L1 L2 : List Chunk} {m m1 m2 : Im} (h : Fr w L m w1 L1 m1) (h' : Fr w1 L1 m1 w2 L2 m2) : Fr w L m w2 L2 m2 := by
 refine ⟨Nat.le_trans h.size h'.size, fun b hb hn => ?_, fun b hb => ?_, fun b o ho => h'.im b o (h.im b o ho), fun b o ho => ?_, h.kept.trans h'.kept⟩
 ·rw [h'.same b (Nat.lt_of_lt_of_le hb h.size) (fun hc => ?_), h.same b hb hn]
  rcases h.own b hc with h1 | h1
  ·exact hn h1
  ·omega
 ·rcases h'.own b hb with h1 | h1
  ·exact h.own b h1
  ·exact .inr (Nat.le_trans h.size h1)
 ·rcases h'.new b o ho with h1 | h1 | h1
  ·exact h.new b o h1
  ·exact .inr (h.own b h1)
  ·exact .inr (.inr (Nat.le_trans h.size h1))
theorem Wa.frame {w w' : World} {m m' : Im} {L L' R : List Chunk} {D' E : List Fact} (h : Wa w m (L ++ R) E) (h' : Wa w' m' L' D') (hf : Fr w L m w' L' m') :
  Wa w' m' (L' ++ R) (D' ++ E) ∧ Fr w (L ++ R) m w' (L' ++ R) m' := by
 have hlt := JG h.ok
 have hnd := h.nd
 rw [Ze] at hnd hlt
 have hdis : ∀ b ∈ Xy R, b ∉ Xy L := fun b hb hc => (List.nodup_append.1 hnd).2.2 b hc b hb rfl
 have hR : ∀ b ∈ Xy R, w'.heap[b]? = w.heap[b]? := fun b hb => hf.same b (hlt b (by simp [hb])) (hdis b hb)
 refine ⟨⟨?_, ?_, ?_, ?_⟩, ⟨hf.size, ?_, ?_, hf.im, ?_, hf.kept⟩⟩
 ·rw [Ze]
  refine List.nodup_append.2 ⟨h'.nd, (List.nodup_append.1 hnd).2.1, fun a ha b hb hab => ?_⟩
  subst hab
  rcases hf.own a ha with h1 | h1
  ·exact hdis a hb h1
  ·have := hlt a (by simp [hb]); omega
 ·exact (XP _ _).2 ⟨h'.ok, Zk ((XP _ _).1 h.ok).2 hR⟩
 ·intro b o ho
  refine ⟨(h'.im b o ho).1, ?_⟩
  rw [Ze]
  intro hc
  rcases List.mem_append.1 hc with hc | hc
  ·exact (h'.im b o ho).2 hc
  ·rcases hf.new b o ho with h1 | h1 | h1
   ·exact (h.im b o h1).2 (by rw [Ze]; simp [hc])
   ·exact hdis b hc h1
   ·have := hlt b (by simp [hc]); omega
 ·exact (Qs _ _).2 ⟨h'.d, jN hf.im h.d⟩
 ·intro b hb hn
  rw [Ze] at hn
  exact hf.same b hb (fun hc => hn (by simp [hc]))
 ·intro b hb
  rw [Ze] at hb ⊢
  rcases List.mem_append.1 hb with hb | hb
  ·rcases hf.own b hb with h1 | h1
   ·exact .inl (by simp [h1])
   ·exact .inr h1
  ·exact .inl (by simp [hb])
 ·intro b o ho
  rw [Ze]
  rcases hf.new b o ho with h1 | h1 | h1
  ·exact .inl h1
  ·exact .inr (.inl (by simp [h1]))
  ·exact .inr (.inr h1)
def zZ (P : Program) (f : FuncId) : Prop := ∃ fn, P.funcs[f]? = some fn ∧ (fn.name == "runtime.NumGoroutine") = false ∧ fn.body.isNone = false
structure FnS (P : Program) (f : FuncId) (args : List V) (L : List Chunk) (D : List Fact) (post : V → List Chunk → List Fact → Prop) : Prop where
 en : zZ P f
 run : ∀ w m, Wa w m L D → Calls P f (args.map V.enc).toArray w fun e w' => ∃ v L' D' m', e = .returned v.enc ∧ post v L' D' ∧ Wa w' m' L' D' ∧ Fr w L m w' L' m'
theorem FnS.mono {P : Program} {f : FuncId} {args : List V} {L : List Chunk} {D : List Fact} {post post' : V → List Chunk → List Fact → Prop} (h : FnS P f args L D post)
  (hp : ∀ v L' D', post v L' D' → post' v L' D') : FnS P f args L D post' :=
 ⟨h.1, fun w m hh => (h.2 w m hh).mono fun _ _ ⟨v, L', D', m', h1, h2, h3, h4⟩ => ⟨v, L', D', m', h1, hp _ _ _ h2, h3, h4⟩⟩
end Go.X
namespace Go.X
open Go
variable [Sm : Inhabited Jh]
inductive YW where
 | bool | int (k : IntKind) | str
 | st (fs : List (Nat × Nat))
 | arr (n elem : Nat)
 | sl (elem : Nat)
 | ptr (elem : Nat)
 | mp (key elem : Nat)
 | oth
structure Zy where
 d : YW
 size : Nat
 bytes : Nat
 zero : V
abbrev Ty := List (Nat × Zy)
def find : Ty → Nat → Option Zy
 | [], _ => none
 | (t, i) :: r, n => match Nat.beq t n with
  | true => some i
  | false => find r n
def YW.ok (P : Program) (t : TypeId) : YW → Prop
 | .bool => P.underlying t = some .bool
 | .int k => P.underlying t = some (.int k)
 | .str => P.underlying t = some .string
 | .st fs => P.underlying t = some (.struct (P.fieldsOf t)) ∧ (P.fieldsOf t).toList.map (fun f => (f.offset, f.type)) = fs ∧
   ((P.fieldsOf t).toList.all fun f => f.name != "_") = true ∧ P.stoodInHeld t = false ∧ P.eqGuardType P.depth t = false
 | .arr n e => P.underlying t = some (.array n e)
 | .sl e => P.underlying t = some (.slice e)
 | .ptr e => P.underlying t = some (.pointer e)
 | .mp k e => P.underlying t = some (.map k e)
 | .oth => True
def XM : YW → Bool
 | .st _ | .arr _ _ => true
 | _ => false
def Zy.ok (P : Program) (t : TypeId) (i : Zy) : Prop :=
 ((P.info? t).map fun x => (x.size, x.bytes)) = some (i.size, i.bytes) ∧ (P.info? t).bind (·.zero) = some i.zero.enc ∧ (XM i.d = true ∨ i.size = 1) ∧ i.d.ok P t
def Z4 (P : Program) (T : Ty) : Prop := ∀ t i, find T t = some i → i.ok P t
def TyAll (P : Program) : Ty → Prop
 | [] => True
 | (t, i) :: r => i.ok P t ∧ TyAll P r
theorem jV {P : Program} : ∀ {T : Ty}, TyAll P T → Z4 P T
 | [], _ => fun t i h => by simp [find] at h
 | (t, i) :: r, h => fun u j hj => by
  simp only [find] at hj
  cases hb : Nat.beq t u with
  | true => rw [hb] at hj; simp at hj; subst hj; rw [← Nat.eq_of_beq_eq_true hb]; exact h.1
  | false => rw [hb] at hj; exact jV h.2 u j hj
structure Qa (p : Prop) (A B : Prop) : Prop where
 t : p → A
 f : ¬p → B
structure Xq (p A : Prop) : Prop where
 h : p
 k : A
def jl : IntKind → Int → Prop
 | .i64, r => -9223372036854775808 ≤ r ∧ r ≤ 9223372036854775807
 | .u8, r => 0 ≤ r ∧ r ≤ 255
 | .i32, r => -2147483648 ≤ r ∧ r ≤ 2147483647
 | .u32, r => 0 ≤ r ∧ r ≤ 4294967295
 | .u64, r => 0 ≤ r ∧ r ≤ 18446744073709551615
 | .u16, r => 0 ≤ r ∧ r ≤ 65535
 | .i8, r => -128 ≤ r ∧ r ≤ 127
 | .i16, r => -32768 ≤ r ∧ r ≤ 32767
inductive Gt (k : IntKind) (r : Int) (K : Int → Prop) : Prop where
 | exact (h : jl k r) (h' : K r)
 | wrap (h' : K (k.wrap r))
structure Qd (K : Nat → Prop) : Prop where
 k : ∀ ad, K ad
theorem jO {k : IntKind} {r : Int} (h : jl k r) : k.wrap r = r := by
 cases k <;> simp only [jl] at h <;> simp [IntKind.wrap, IntKind.bits, IntKind.signed] <;> omega
theorem Gt.run {k : IntKind} {r : Int} {K : Int → Prop} (h : Gt k r K) : K (k.wrap r) := by
 cases h with
 | exact h h' => rw [jO h]; exact h'
 | wrap h' => exact h'
def Ng : IntKind → Nat
 | .i8 => 0 | .i16 => 1 | .i32 => 2 | .i64 => 3 | .u8 => 4 | .u16 => 5 | .u32 => 6 | .u64 => 7
theorem OX {a b : IntKind} (h : Nat.beq (Ng a) (Ng b) = true) : a = b := by cases a <;> cases b <;> first | rfl | (simp [Ng] at h)
def yI : Value → C
 | .bool b => .b b
 | .int k n => .i k n
 | .string s => .s s.data.toList
 | .slice none 0 0 => .sl none 0 0
 | x => .raw x
theorem yH (x : Value) : (yI x).enc = x := by
 unfold yI
 split <;> rfl
def Ol : Value → V
 | .agg cs => .agg (cs.toList.map yI)
 | x => .c (yI x)
theorem Ok (x : Value) : (Ol x).enc = x := by
 unfold Ol
 split
 ·rename_i cs
  simp only [V.enc, List.map_map]
  have : (C.enc ∘ yI) = id := by funext x; exact yH x
  rw [this]; simp
 ·simp only [V.enc]; exact yH _
def ev (env : XR) : Operand → Option V
 | .tmp t => look env t
 | .const v => some (Ol v)
 | .global g => some (.c (.raw (.pointer (some ⟨g, 0, none⟩))))
 | .func f => some (.c (.fn f []))
def QZ (env : XR) (x : Operand) (k : V → Prop) : Prop :=
 match ev env x with
 | some v => k v
 | none => False
def XF (N : Nat) (env : XR) (a : Act) : Prop := a.defers = [] ∧ a.tmps.size = N ∧ ∀ d v, look env d = some v → a.tmps[d]? = some v.enc
theorem XF.ev {N : Nat} {env : XR} {a : Act} (h : XF N env a) {x : Operand} {v : V} (hx : ev env x = some v) : a.eval x = v.enc := by
 cases x with
 | tmp t => simp only [X.ev] at hx; simp [Act.eval, h.2.2 t v hx]
 | const c => simp only [X.ev, Option.some.injEq] at hx; subst hx; simp [Act.eval, Ok]
 | global g => simp only [X.ev, Option.some.injEq] at hx; subst hx; rfl
 | func f => simp only [X.ev, Option.some.injEq] at hx; subst hx; rfl
theorem Ql {env : XR} {x : Operand} {k : V → Prop} (h : QZ env x k) : ∃ v, ev env x = some v ∧ k v := by
 unfold QZ at h
 split at h
 ·rename_i v hv; exact ⟨v, hv, h⟩
 ·exact h.elim
def eqC : C → C → Option Prop
 | .b x, .b y => some (x = y)
 | .i k x, .i k' y => match Nat.beq (Ng k) (Ng k') with | true => some (x = y) | false => none
 | .s x, .s y => some (x = y)
 | _, _ => none
def Ev : YW → C → Bool
 | .bool, .b _ => true
 | .int k, .i k' _ => Nat.beq (Ng k) (Ng k')
 | .str, .s _ => true
 | _, _ => false
def Nn (T : Ty) (g : Nat → List C → List C → Option Prop) (xs ys : List C) : List (Nat × Nat) → Option Prop
 | [] => some True
 | (off, ft) :: rest =>
  match find T ft with
  | none => none
  | some i =>
   match g ft ((xs.drop off).take i.size) ((ys.drop off).take i.size), Nn T g xs ys rest with
   | some p, some q => some (p ∧ q)
   | _, _ => none
def HA (T : Ty) : Nat → Nat → List C → List C → Option Prop
 | 0, _, _, _ => none
 | n + 1, t, xs, ys =>
  match find T t with
  | none => none
  | some i =>
   match i.d with
   | .st fs => Nn T (HA T n) xs ys fs
   | d => match xs, ys with
    | [x], [y] => match Ev d x, Ev d y with
     | true, true => eqC x y
     | _, _ => none
    | _, _ => none
def xf (d : YW) (xs : List C) : Value :=
 match d with
 | .st _ | .arr _ _ => .agg (xs.map C.enc).toArray
 | _ => match xs with
  | [x] => x.enc
  | _ => undef
theorem LF {P : Program} {w : World} {t : TypeId} {dd : YW} {d : Nat} {x y : C} {p : Prop} (h : eqC x y = some p) (hx : Ev dd x = true) (hy : Ev dd y = true) (ht : dd.ok P t) :
  ∃ b, (Op.equalIn (d + 1) t x.enc y.enc).run P w = .ok b w ∧ (b = true ↔ p) := by
 cases x <;> cases y <;> simp only [eqC] at h <;> try (cases h; done)
 ·cases dd <;> simp [Ev] at hx
  simp only [Option.some.injEq] at h; subst h
  exact ⟨_, run_equalIn_bool' w d t _ _ ht, by simp⟩
 ·rename_i k n k' m
  split at h
  ·rename_i hb
   simp only [Option.some.injEq] at h; subst h
   have := OX hb; subst this
   cases dd <;> simp only [Ev] at hx <;> try (cases hx; done)
   exact ⟨_, run_equalIn_int w d t k _ n m ht, by simp⟩
  ·cases h
 ·cases dd <;> simp [Ev] at hx
  simp only [Option.some.injEq] at h; subst h
  exact ⟨_, run_equalIn_string w d t _ _ ht, by simp [ByteArray.toList_eq]⟩
theorem X9 {P : Program} {t : TypeId} {i : Zy} (h : i.ok P t) : ∃ x, P.info? t = some x ∧ x.size = i.size ∧ x.bytes = i.bytes ∧ x.zero = some i.zero.enc := by
 obtain ⟨h1, h2, _⟩ := h
 cases hi : P.info? t with
 | none => simp [hi] at h1
 | some x => simp [hi] at h1 h2; exact ⟨x, rfl, h1.1, h1.2, h2⟩
theorem Zc {P : Program} {t : TypeId} {i : Zy} (h : i.ok P t) (w : World) : (sizeOf t).run P w = .ok i.size w := by
 obtain ⟨x, hx, h1, _⟩ := X9 h
 simp [sizeOf, typeInfo, hx, h1]
theorem KC {P : Program} {t : TypeId} {i : Zy} (h : i.ok P t) (w : World) : (zeroValue t).run P w = .ok i.zero.enc w := by
 obtain ⟨x, hx, _, _, h1⟩ := X9 h
 simp [zeroValue, typeInfo, hx, h1]
theorem vK {P : Program} {t : TypeId} {i : Zy} (h : i.ok P t) (hd : ∀ x, i.d ≠ .oth ∨ x) (w : World) : (isAgg t).run P w = .ok (XM i.d) w := by
 obtain ⟨_, _, _, h4⟩ := h
 have hd' : i.d ≠ .oth := (hd False).resolve_right id
 cases hdd : i.d <;> rw [hdd] at h4 hd' <;> simp only [YW.ok] at h4
 case st fs => simp [isAgg, run_underlying h4.1, XM]
 case oth => exact absurd rfl hd'
 all_goals simp [isAgg, run_underlying h4, XM]
theorem VW {P : Program} {t : TypeId} {i : Zy} (h : i.ok P t) (hd : i.d ≠ .oth) (xs : List C) (off : Nat) (hl : XM i.d = true ∨ off < xs.length) (w : World) :
  (part t (xs.map C.enc).toArray off).run P w = .ok (xf i.d ((xs.drop off).take i.size)) w := by
 unfold part
 simp only [Sem.run_bind, vK h (fun _ => .inl hd), Result.andThen_ok, Sem.run_ite]
 cases ha : XM i.d with
 | true =>
  simp only [if_true, Sem.run_bind, Zc h, Result.andThen_ok, Sem.run_pure]
  congr 1
  cases hdd : i.d <;> rw [hdd] at ha <;> simp [XM] at ha <;> simp [xf, List.map_take, List.map_drop, List.drop_take]
 | false =>
  have hs : i.size = 1 := h.2.2.1.resolve_left (by simp [ha])
  have hlt : off < xs.length := hl.resolve_left (by simp [ha])
  rw [hs]
  simp only [Bool.false_eq_true, if_false]
  have e1 : (xs.map C.enc).toArray[off]? = some (xs[off].enc) := by simp [hlt]
  have e2 : (xs.drop off).take 1 = [xs[off]] := by rw [List.drop_eq_getElem_cons hlt]; rfl
  rw [e1, e2]
  simp only [Sem.run_pure]
  congr 1
  cases hdd : i.d <;> rw [hdd] at ha <;> simp [XM] at ha <;> rfl
theorem GD {xs : List C} {off n : Nat} {x : C} (h : (xs.drop off).take n = [x]) : off < xs.length := by
 have := congrArg List.length h
 simp at this
 omega
theorem Nm {T : Ty} {n t : Nat} {xs ys : List C} {off : Nat} {p : Prop} {i : Zy} (h : HA T n t ((xs.drop off).take i.size) ((ys.drop off).take i.size) = some p) (hi : find T t = some i) :
  (XM i.d = true ∨ off < xs.length) ∧ (XM i.d = true ∨ off < ys.length) ∧ i.d ≠ .oth := by
 cases n with
 | zero => simp [HA] at h
 | succ n =>
  simp only [HA, hi] at h
  split at h
  ·rename_i fs hd; simp [hd, XM]
  ·rename_i dd hnst
   split at h
   ·rename_i x y hx hy
    split at h
    ·rename_i h1 h2
     refine ⟨.inr (GD hx), .inr (GD hy), ?_⟩
     intro hd; rw [hd] at h1; simp [Ev] at h1
    ·cases h
   ·cases h
theorem R2 {P : Program} {T : Ty} (hT : Z4 P T) : ∀ (n d t : Nat) (xs ys : List C) (p : Prop) (w : World) (i : Zy), HA T n t xs ys = some p → find T t = some i →
  ∃ b, (Op.equalIn (d + n) t (xf i.d xs) (xf i.d ys)).run P w = .ok b w ∧ (b = true ↔ p) := by
 intro n
 induction n with
 | zero => intro d t xs ys p w i h; simp [HA] at h
 | succ n ih =>
  intro d t xs ys p w i h hi
  have hok := hT t i hi
  simp only [HA, hi] at h
  split at h
  ·rename_i fs hd
   have hok' := hok.2.2.2
   rw [hd] at hok'
   obtain ⟨hu, hfs, hnb, hst, _⟩ := hok'
   rw [hd]
   simp only [xf]
   rw [show d + (n + 1) = (d + n) + 1 from rfl, run_equalIn_agg w (d + n) t _ _ hu hst]
   rw [← hfs] at h
   clear hfs hd hu
   generalize (P.fieldsOf t).toList = F at h hnb
   induction F generalizing p with
   | nil => simp only [List.map_nil, Nn, Option.some.injEq] at h; rw [← h]; exact ⟨true, by simp [Op.eqFields], by simp⟩
   | cons f F ihF =>
    simp only [List.map_cons, Nn] at h
    simp only [List.all_cons, Bool.and_eq_true] at hnb
    cases hj : find T f.type with
    | none => simp [hj] at h
    | some j =>
     simp only [hj] at h
     split at h
     ·rename_i p1 q1 hp1 hq1
      simp only [Option.some.injEq] at h; rw [← h]
      have hjok := hT _ _ hj
      obtain ⟨hl1, hl2, hoth⟩ := Nm hp1 hj
      obtain ⟨b1, hb1, hb1'⟩ := ih d f.type _ _ p1 w j hp1 hj
      obtain ⟨b2, hb2, hb2'⟩ := ihF q1 hq1 hnb.2
      have hnm : f.name ≠ "_" := by simpa using hnb.1
      simp only [Op.eqFields, hnm, ne_eq, not_false_eq_true, if_true, Sem.run_bind, VW hjok hoth _ _ hl1, VW hjok hoth _ _ hl2, Result.andThen_ok, hb1, Sem.run_ite]
      cases b1 with
      | true => exact ⟨b2, by simpa using hb2, by simp [← hb1', hb2']⟩
      | false => exact ⟨false, by simp, by simp [← hb1']⟩
     ·cases h
  ·rename_i dd hnst
   split at h
   ·rename_i x y
    split at h
    ·rename_i hx hy
     have := LF (w := w) (d := d + n) h hx hy hok.2.2.2
     have hv : ∀ z, Ev i.d z = true → xf i.d [z] = z.enc := by
      intro z hz
      cases hdd : i.d <;> rw [hdd] at hz <;> first | rfl | (cases z <;> simp [Ev] at hz)
     rw [hv x hx, hv y hy]
     exact this
    ·cases h
   ·cases h
end Go.X
namespace Go.X
open Go
variable [Sm : Inhabited Jh]
def Zq (w : World) (g : Nat) (o : Obj) : World := { w with heap := w.heap.setIfInBounds g o }
theorem Jb {w : World} {g : Nat} {o o' : Obj} (h : w.heap[g]? = some o') : (Zq w g o).heap[g]? = some o := by
 have := (Array.getElem?_eq_some_iff.1 h).1
 simp [Zq, this]
theorem Kl {w : World} {g b : Nat} {o : Obj} (h : b ≠ g) : (Zq w g o).heap[b]? = w.heap[b]? := by
 simp [Zq, Array.getElem?_setIfInBounds, Ne.symm h]
theorem VU (w : World) (g : Nat) (o : Obj) : (Zq w g o).heap.size = w.heap.size := by simp [Zq]
theorem XW (b o n : Nat) : (⟨b, o, none⟩ : Addr).add n = ⟨b, o + n, none⟩ := by
 unfold Addr.add; split <;> simp_all
theorem jc {w : World} {g : Nat} {cur : Array Value} {t : TypeId} {fr : Nat × Nat} (h : w.heap[g]? = some (.cells cur t fr)) (o : Nat) : w.cell? ⟨g, o, none⟩ = cur[o]? := by
 simp [World.cell?, h]
theorem J4 {P : Program} {w : World} {g : Nat} {cur : Array Value} {t : TypeId} {fr : Nat × Nat} (h : w.heap[g]? = some (.cells cur t fr)) (o : Nat) (cs : List Value)
  (hcs : (cur.toList.drop o).take cs.length = cs) : (loadCells ⟨g, o, none⟩ cs.length).run P w = .ok cs.toArray w := by
 refine run_loadCells_list w _ cs fun j v hj => ?_
 rw [XW, jc h]
 rw [← hcs, List.getElem?_take] at hj
 split at hj
 ·rw [List.getElem?_drop] at hj; simpa using hj
 ·cases hj
theorem Vy {P : Program} {w : World} {g : Nat} {cur : Array Value} {t ty : TypeId} {fr : Nat × Nat} {i : Zy} (hok : i.ok P ty) (hd : i.d ≠ .oth) (h : w.heap[g]? = some (.cells cur t fr)) (o : Nat) (cs : List C)
  (hl : cs.length = i.size) (hcs : (cur.toList.drop o).take cs.length = cs.map C.enc) : (loadVar ty ⟨g, o, none⟩).run P w = .ok (xf i.d cs) w := by
 unfold loadVar
 simp only [Sem.run_bind, vK hok (fun _ => .inl hd), Result.andThen_ok, Sem.run_ite]
 cases ha : XM i.d with
 | true =>
  simp only [if_true, Sem.run_bind, Zc hok, Result.andThen_ok]
  have := J4 (P := P) h o (cs.map C.enc) (by simpa using hcs)
  rw [List.length_map, hl] at this
  rw [this]
  simp only [Result.andThen_ok, Sem.run_pure]
  cases hdd : i.d <;> rw [hdd] at ha <;> simp [XM] at ha <;> rfl
 | false =>
  simp only [Bool.false_eq_true, if_false]
  have hs : i.size = 1 := hok.2.2.1.resolve_left (by simp [ha])
  rw [hs] at hl
  match cs, hl with
  | [x], _ =>
   have hc : w.cell? ⟨g, o, none⟩ = some x.enc := by
    rw [jc h]
    simp only [List.length_cons, List.length_nil, List.map_cons, List.map_nil] at hcs
    have := congrArg (fun l => l[0]?) hcs
    simp only [Nat.zero_add, List.getElem?_take, Nat.lt_add_one, if_true, List.getElem?_drop, Nat.add_zero, List.getElem?_cons_zero] at this
    simpa using this
   simp only [run_load, hc]
   cases hdd : i.d <;> rw [hdd] at ha <;> simp [XM] at ha <;> rfl
theorem GI {w : World} {g : Nat} {cur : Array Value} {t : TypeId} {fr : Nat × Nat} (h : w.heap[g]? = some (.cells cur t fr)) (o : Nat) (v : Value) :
  w.setCell ⟨g, o, none⟩ v = Zq w g (.cells (cur.setIfInBounds o v) t fr) := by
 simp only [World.setCell, Zq]
 congr 1
 apply Array.ext_getElem?
 intro i
 simp only [Array.getElem?_modify, Array.getElem?_setIfInBounds]
 by_cases hi : g = i
 ·subst hi
  obtain ⟨hlt, he⟩ := Array.getElem?_eq_some_iff.1 h
  simp [hlt, he]
 ·simp [hi]
theorem yY (w : World) (g : Nat) (o o' : Obj) : Zq (Zq w g o) g o' = Zq w g o' := by
 simp only [Zq]
 congr 1
 apply Array.ext_getElem?
 intro i
 simp only [Array.getElem?_setIfInBounds, Array.size_setIfInBounds]
 split <;> rfl
theorem Ob {w : World} {g : Nat} {cur : Array Value} {t : TypeId} {lo hi : Nat} (h : w.heap[g]? = some (.cells cur t (lo, hi))) {o : Nat} (ho : o < cur.size) (hf : cur.size ≤ lo ∨ hi ≤ lo) :
  w.frozen? ⟨g, o, none⟩ = false := by
 simp [World.frozen?, h]
 omega
def KP : Nat → List Value → List Value → List Value
 | o, vs, l => l.take o ++ vs ++ l.drop (o + vs.length)
theorem ZC {P : Program} {g : Nat} {t : TypeId} {lo hi : Nat} : ∀ (vs : List Value) (o k : Nat) (cur : Array Value) (w : World), w.heap[g]? = some (.cells cur t (lo, hi)) → (cur.size ≤ lo ∨ hi ≤ lo) →
  o + k + vs.length ≤ cur.size → (∀ v ∈ vs, v.oneCell' = true) → (storeCells ⟨g, o, none⟩ vs k).run P w = .ok () (Zq w g (.cells (KP (o + k) vs cur.toList).toArray t (lo, hi)))
 | [], o, k, cur, w, h, _, _, _ => by
  simp only [storeCells, Sem.run_pure]
  congr 1
  simp only [KP, List.append_nil, List.length_nil, Nat.add_zero, List.take_append_drop]
  have : Zq w g (.cells cur t (lo, hi)) = w := by
   simp only [Zq]
   have hlt := (Array.getElem?_eq_some_iff.1 h)
   obtain ⟨hlt, he⟩ := hlt
   have : w.heap.setIfInBounds g (.cells cur t (lo, hi)) = w.heap := by
    apply Array.ext_getElem?
    intro i
    simp only [Array.getElem?_setIfInBounds]
    split
    ·rename_i hi; subst hi; simp [hlt, he]
    ·rfl
   rw [this]
  simpa using this.symm
 | v :: vs, o, k, cur, w, h, hf, hl, h1 => by
  simp only [List.length_cons] at hl
  have ho : o + k < cur.size := by omega
  have hv := h1 v (by simp)
  simp only [storeCells, XW, Sem.run_bind, run_store P w _ v _ hv, jc h]
  have e1 : cur[o + k]? = some cur[o + k] := by simp [ho]
  rw [e1]
  simp only [Ob h ho hf]
  simp only [Bool.false_eq_true, if_false, Result.andThen_ok, GI h]
  have h2 := Jb (w := w) (o := .cells (cur.setIfInBounds (o + k) v) t (lo, hi)) h
  rw [ZC vs o (k + 1) _ _ h2 (by simpa using hf) (by simp; omega) (fun x hx => h1 x (by simp [hx])), yY]
  congr 3
  simp only [KP, Array.toList_setIfInBounds]
  congr 1
  have ho' : o + k < cur.toList.length := by simpa using ho
  rw [show o + (k + 1) = (o + k) + 1 from rfl, List.take_succ_eq_append_getElem (by simpa using ho)]
  simp only [List.getElem_set_self, List.take_set_of_le (Nat.le_refl _), List.append_assoc, List.singleton_append, List.length_cons]
  rw [List.drop_set_of_lt (by omega)]
  congr 3
  omega
theorem YD {P : Program} {w : World} {g : Nat} {cur : Array Value} {t ty : TypeId} {lo hi : Nat} {i : Zy} (hok : i.ok P ty) (h : w.heap[g]? = some (.cells cur t (lo, hi))) (hf : cur.size ≤ lo ∨ hi ≤ lo)
  (o : Nat) (cs : List C) (v : Value) (hv : v.cells = (cs.map C.enc).toArray) (hl : cs.length = i.size) (ho : o + cs.length ≤ cur.size) (h1 : ZO cs) :
  (storeVar ty ⟨g, o, none⟩ v).run P w = .ok () (Zq w g (.cells (KP o (cs.map C.enc) cur.toList).toArray t (lo, hi))) := by
 unfold storeVar
 simp only [Sem.run_bind, Zc hok, Result.andThen_ok, Sem.run_ite, hv]
 simp only [List.size_toArray, List.length_map, hl, ne_eq, not_true_eq_false, if_false, Sem.run_pure, Result.andThen_ok]
 have := ZC (P := P) (cs.map C.enc) o 0 cur w h hf (by simpa using ho) (by
  intro v hv
  obtain ⟨x, hx, rfl⟩ := List.mem_map.1 hv
  exact C.enc_oneCell x (h1 x hx))
 simpa using this
end Go.X
namespace Go.X
open Go
variable [Sm : Inhabited Jh]
abbrev tt : V := .c (.b true)
abbrev ff : V := .c (.b false)
def K4 (op : BinOp) (k : IntKind) (x y : Int) : Int :=
 match op with
 | .and => k.wrap (BitVec.ofInt k.bits x &&& BitVec.ofInt k.bits y).toNat
 | .or => k.wrap (BitVec.ofInt k.bits x ||| BitVec.ofInt k.bits y).toNat
 | .xor => k.wrap (BitVec.ofInt k.bits x ^^^ BitVec.ofInt k.bits y).toNat
 | _ => k.wrap (BitVec.ofInt k.bits x &&& ~~~(BitVec.ofInt k.bits y)).toNat
def RK (op : BinOp) (k : IntKind) (a b : Int) (kk : V → Prop) : Prop :=
 match op with
 | .add => Gt k (a + b) fun r => kk (.c (.i k r))
 | .sub => Gt k (a - b) fun r => kk (.c (.i k r))
 | .mul => Gt k (a * b) fun r => kk (.c (.i k r))
 | .quo => Xq (b ≠ 0) (Gt k (a.tdiv b) fun r => kk (.c (.i k r)))
 | .rem => Xq (b ≠ 0) (kk (.c (.i k (a.tmod b))))
 | .and => kk (.c (.i k (K4 .and k a b)))
 | .or => kk (.c (.i k (K4 .or k a b)))
 | .xor => kk (.c (.i k (K4 .xor k a b)))
 | .andNot => kk (.c (.i k (K4 .andNot k a b)))
 | .eql => Qa (a = b) (kk tt) (kk ff)
 | .neq => Qa (a = b) (kk ff) (kk tt)
 | .lss => Qa (a < b) (kk tt) (kk ff)
 | .leq => Qa (a ≤ b) (kk tt) (kk ff)
 | .gtr => Qa (b < a) (kk tt) (kk ff)
 | .geq => Qa (b ≤ a) (kk tt) (kk ff)
 | .shl | .shr => False
def RJ (op : BinOp) (a b : List UInt8) (kk : V → Prop) : Prop :=
 match op with
 | .add => Xq (a.length + b.length ≤ 9223372036854775807) (kk (.c (.s (a ++ b))))
 | .eql => Qa (a = b) (kk tt) (kk ff)
 | .neq => Qa (a = b) (kk ff) (kk tt)
 | .lss => Qa (Op.bytesLess a b = true) (kk tt) (kk ff)
 | .geq => Qa (Op.bytesLess a b = true) (kk ff) (kk tt)
 | .leq => Qa (Op.bytesLess a b = true ∨ a = b) (kk tt) (kk ff)
 | .gtr => Qa (Op.bytesLess a b = true ∨ a = b) (kk ff) (kk tt)
 | _ => False
def Pm (op : BinOp) (p : Prop) (kk : V → Prop) : Prop :=
 match op with
 | .eql => Qa p (kk tt) (kk ff)
 | .neq => Qa p (kk ff) (kk tt)
 | _ => False
def OE (T : Ty) (op : BinOp) (t : Nat) (x y : V) (kk : V → Prop) : Prop :=
 match x, y with
 | .c (.i k a), .c (.i k' b) =>
  match op with
  | .shl => Xq (0 ≤ b) (Gt k (a * 2 ^ (min b.toNat k.bits)) fun r => kk (.c (.i k r)))
  | .shr => Xq (0 ≤ b) (kk (.c (.i k (a.fdiv (2 ^ (min b.toNat k.bits))))))
  | op => match Nat.beq (Ng k) (Ng k') with
   | true => RK op k a b kk
   | false => False
 | .c (.s a), .c (.s b) => RJ op a b kk
 | .c (.b a), .c (.b b) =>
  match find T t with
  | some i => match i.d with
   | .bool => Pm op (a = b) kk
   | _ => False
  | none => False
 | .agg xs, .agg ys =>
  match find T t with
  | some i => match i.d with
   | .st _ => match HA T 20 t xs ys with
    | some p => Pm op p kk
    | none => False
   | _ => False
  | none => False
 | .c (.sl a _ _), .c (.sl none _ _) =>
  match find T t with
  | some i => match i.d with
   | .sl _ => Pm op (a = none) kk
   | _ => False
  | none => False
 | _, _ => False
theorem Qa.run {p : Prop} {kk : V → Prop} {b : Bool} (h : Qa p (kk tt) (kk ff)) (hb : b = true ↔ p) : kk (.c (.b b)) := by
 cases b
 ·exact h.f (fun hp => by simpa using hb.2 hp)
 ·exact h.t (hb.1 rfl)
theorem Qa.run' {p : Prop} {kk : V → Prop} {b : Bool} (h : Qa p (kk ff) (kk tt)) (hb : b = true ↔ p) : kk (.c (.b (!b))) := by
 cases b
 ·exact h.f (fun hp => by simpa using hb.2 hp)
 ·exact h.t (hb.1 rfl)
theorem zl {P : Program} (w : World) (d : Nat) (t e : TypeId) (a : Option Addr) (n c n' c' : Nat) (h : P.underlying t = some (.slice e)) : (Op.equalIn (d + 1) t (.slice a n c) (.slice none n' c')).run P w = .ok a.isNone w := by
 cases a <;> simp [Op.equalIn, run_underlying h]
theorem y1 {P : Program} (w : World) (t e : TypeId) (a : Option Addr) (n c n' c' : Nat) (h : P.underlying t = some (.slice e)) : (binOp .eql t (.slice a n c) (.slice none n' c')).run P w = .ok (.bool a.isNone) w := by
 simp [binOp, Op.equal, Op.maxDepth, zl w 9999 t e a n c n' c' h]
theorem yZ {P : Program} (w : World) (t e : TypeId) (a : Option Addr) (n c n' c' : Nat) (h : P.underlying t = some (.slice e)) : (binOp .neq t (.slice a n c) (.slice none n' c')).run P w = .ok (.bool (!a.isNone)) w := by
 simp [binOp, Op.equal, Op.maxDepth, zl w 9999 t e a n c n' c' h]
theorem xy {P : Program} {w : World} (op : BinOp) (t : TypeId) (x y : Operand) (a b : Value) (h : ∀ xs ys, a = .agg xs → b = .agg ys → False) (h' : a = .nilIface → False) : (eqGuard op t x y a b).run P w = .ok () w := by
 cases op <;> simp only [eqGuard] <;> first | rfl | (cases a <;> cases b <;> first | rfl | exact (h _ _ rfl rfl).elim | exact (h' rfl).elim)
def Pi (P : Program) (op : BinOp) (t : TypeId) (x y : Operand) (a b : Value) (v : V) : Prop :=
 ∀ w, (do eqGuard op t x y a b; binOp op t a b : Sem Value).run P w = .ok v.enc w
theorem Jg {P : Program} {op : BinOp} {t : TypeId} {x y : Operand} {a b : Value} {v : V} (h : ∀ xs ys, a = .agg xs → b = .agg ys → False) (h' : a = .nilIface → False)
  (hr : ∀ w, (binOp op t a b).run P w = .ok v.enc w) : Pi P op t x y a b v := fun w => by
 simp only [Sem.run_bind, xy op t x y a b h h', Result.andThen_ok, hr]
theorem GA {P : Program} {op : BinOp} {k : IntKind} {a b : Int} {kk : V → Prop} {t : TypeId} (h : RK op k a b kk) : ∃ v, kk v ∧ ∀ w, (binOp op t (.int k a) (.int k b)).run P w = .ok v.enc w := by
 cases op <;> simp only [RK] at h
 case add => exact ⟨_, h.run, fun w => by simp [binOp_add, Op.intArith, V.enc, C.enc]⟩
 case sub => exact ⟨_, h.run, fun w => by simp [binOp_sub, Op.intArith, V.enc, C.enc]⟩
 case mul => exact ⟨_, h.run, fun w => by simp [binOp_mul, Op.intArith, V.enc, C.enc]⟩
 case quo => exact ⟨_, h.k.run, fun w => by simp [binOp_quo, Op.intDiv, h.h, V.enc, C.enc]⟩
 case rem => exact ⟨_, h.k, fun w => by simp [binOp_rem, Op.intDiv, h.h, V.enc, C.enc]⟩
 case and => exact ⟨_, h, fun w => by simp [binOp_and, Op.intBits, V.enc, C.enc, K4]⟩
 case or => exact ⟨_, h, fun w => by simp [binOp_or, Op.intBits, V.enc, C.enc, K4]⟩
 case xor => exact ⟨_, h, fun w => by simp [binOp_xor, Op.intBits, V.enc, C.enc, K4]⟩
 case andNot => exact ⟨_, h, fun w => by simp [binOp_andNot, Op.intBits, V.enc, C.enc, K4]⟩
 case eql => exact ⟨_, h.run (b := a == b) (by simp), fun w => by simp [binOp_eql, V.enc, C.enc]⟩
 case neq => exact ⟨_, h.run' (b := a == b) (by simp), fun w => by simp [binOp_neq, V.enc, C.enc]; rfl⟩
 case lss => exact ⟨_, h.run (b := decide (a < b)) (by simp), fun w => by simp [binOp_lss, V.enc, C.enc]⟩
 case leq => exact ⟨_, h.run (b := decide (a ≤ b)) (by simp), fun w => by simp [binOp_leq, V.enc, C.enc]⟩
 case gtr => exact ⟨_, h.run (b := decide (b < a)) (by simp), fun w => by simp [binOp_gtr, V.enc, C.enc]⟩
 case geq => exact ⟨_, h.run (b := decide (b ≤ a)) (by simp), fun w => by simp [binOp_geq, V.enc, C.enc]⟩
theorem Wq (a : List UInt8) : (⟨⟨a⟩⟩ : ByteArray).toList = a := by rw [ByteArray.toList_eq]
theorem P0 (a b : List UInt8) : ((⟨⟨a⟩⟩ : ByteArray) ++ ⟨⟨b⟩⟩) = ⟨⟨a ++ b⟩⟩ := by
 apply ByteArray.ext
 simp
theorem Yc (a : List UInt8) : (⟨⟨a⟩⟩ : ByteArray).size = a.length := rfl
theorem Gy {P : Program} {op : BinOp} {a b : List UInt8} {kk : V → Prop} {t : TypeId} (h : RJ op a b kk) : ∃ v, kk v ∧ ∀ w, (binOp op t (.string ⟨⟨a⟩⟩) (.string ⟨⟨b⟩⟩)).run P w = .ok v.enc w := by
 cases op <;> simp only [RJ] at h
 case add =>
  refine ⟨_, h.k, fun w => ?_⟩
  have h1 := h.h
  have hlt : ¬ (((⟨⟨a⟩⟩ : ByteArray).size + (⟨⟨b⟩⟩ : ByteArray).size : Nat) : Int) > IntKind.i64.max := by
   rw [Yc, Yc]
   simp [IntKind.max, IntKind.signed, IntKind.bits]
   omega
  simp only [binOp_string_add, Op.stringOp, hlt, if_false, Sem.run_pure, P0]
  rfl
 case eql => exact ⟨_, h.run (b := a == b) (by simp), fun w => by simp [binOp_string_eql, V.enc, C.enc, Wq]⟩
 case neq => exact ⟨_, h.run' (b := a == b) (by simp), fun w => by simp [binOp_string_neq, V.enc, C.enc, Wq]⟩
 case lss => exact ⟨_, h.run (b := Op.bytesLess a b) (by simp), fun w => by simp [binOp_string_lss, V.enc, C.enc, Wq]⟩
 case geq => exact ⟨_, h.run' (b := Op.bytesLess a b) (by simp), fun w => by simp [binOp, Op.stringOp, V.enc, C.enc, Wq]⟩
 case leq => exact ⟨_, h.run (b := Op.bytesLess a b || a == b) (by simp), fun w => by simp [binOp, Op.stringOp, V.enc, C.enc, Wq]⟩
 case gtr => exact ⟨_, h.run' (b := Op.bytesLess a b || a == b) (by simp), fun w => by simp [binOp, Op.stringOp, V.enc, C.enc, Wq]⟩
theorem jT {P : Program} {T : Ty} (hT : Z4 P T) {op : BinOp} {t : Nat} {x y : V} {kk : V → Prop} {ox oy : Operand} (h : OE T op t x y kk) : ∃ v, kk v ∧ Pi P op t ox oy x.enc y.enc v := by
 unfold OE at h
 split at h
 ·rename_i k a k' b
  split at h
  ·refine ⟨_, h.k.run, Jg (by intro xs ys h1; cases h1) (by intro h1; cases h1) fun w => ?_⟩
   have := h.h
   simp [V.enc, C.enc, binOp_shl, Op.shift, show ¬ b < 0 by omega]
  ·refine ⟨_, h.k, Jg (by intro xs ys h1; cases h1) (by intro h1; cases h1) fun w => ?_⟩
   have := h.h
   simp [V.enc, C.enc, binOp_shr, Op.shift, show ¬ b < 0 by omega]
  ·split at h
   ·rename_i hk
    have := OX hk
    subst this
    obtain ⟨v, hv, hr⟩ := GA (P := P) (t := t) h
    exact ⟨v, hv, Jg (by intro xs ys h1; cases h1) (by intro h1; cases h1) hr⟩
   ·exact h.elim
 ·obtain ⟨v, hv, hr⟩ := Gy (P := P) (t := t) h
  exact ⟨v, hv, Jg (by intro xs ys h1; cases h1) (by intro h1; cases h1) hr⟩
 ·rename_i a b
  split at h
  ·rename_i i hi
   split at h
   ·rename_i hd
    have hok := (hT t i hi).2.2.2
    rw [hd] at hok
    unfold Pm at h
    split at h
    ·exact ⟨_, h.run (b := a == b) (by simp), Jg (by intro xs ys h1; cases h1) (by intro h1; cases h1) fun w => by simp [V.enc, C.enc, run_eql_bool w t a b hok]⟩
    ·exact ⟨_, h.run' (b := a == b) (by simp), Jg (by intro xs ys h1; cases h1) (by intro h1; cases h1) fun w => by simp [V.enc, C.enc, run_neq_bool w t a b hok]⟩
    ·exact h.elim
   ·exact h.elim
  ·exact h.elim
 ·rename_i xs ys
  split at h
  ·rename_i i hi
   split at h
   ·rename_i fs hd
    split at h
    ·rename_i p hp
     have hok := (hT t i hi).2.2.2
     rw [hd] at hok
     have hrun : ∀ w, ∃ b, (Op.equalIn 10000 t (V.agg xs).enc (V.agg ys).enc).run P w = .ok b w ∧ (b = true ↔ p) := fun w => by
      have := R2 hT 20 9980 t xs ys p w i hp hi
      rw [hd] at this
      exact this
     have hdec : ∃ b : Bool, (b = true ↔ p) := by
      obtain ⟨b, _, hb⟩ := hrun default
      exact ⟨b, hb⟩
     obtain ⟨b, hb⟩ := hdec
     have hrun' : ∀ w, (Op.equalIn 10000 t (V.agg xs).enc (V.agg ys).enc).run P w = .ok b w := fun w => by
      obtain ⟨b', h1, h2⟩ := hrun w
      have : b' = b := by rw [Bool.eq_iff_iff, h2, hb]
      rw [h1, this]
     unfold Pm at h
     split at h
     ·refine ⟨_, h.run hb, fun w => ?_⟩
      have h1 := hrun' w
      simp only [V.enc] at h1 ⊢
      rw [Sem.run_bind, run_eqGuard_agg w _ _ _ _ _ _ hok.2.2.2.2]
      simp only [Result.andThen_ok, run_eql_struct, h1]
      rfl
     ·refine ⟨_, h.run' hb, fun w => ?_⟩
      have h1 := hrun' w
      simp only [V.enc] at h1 ⊢
      rw [Sem.run_bind, run_eqGuard_agg w _ _ _ _ _ _ hok.2.2.2.2]
      simp only [Result.andThen_ok, run_neq_struct, h1]
      rfl
     ·exact h.elim
    ·exact h.elim
   ·exact h.elim
  ·exact h.elim
 ·rename_i a n c n' c'
  split at h
  ·rename_i i hi
   split at h
   ·rename_i e hd
    have hok := (hT t i hi).2.2.2
    rw [hd] at hok
    unfold Pm at h
    have hb : a.isNone = true ↔ a = none := Option.isNone_iff_eq_none
    split at h
    ·exact ⟨_, h.run hb, Jg (by intro xs ys h1; cases h1) (by intro h1; cases h1) fun w => by simp [V.enc, C.enc, y1 w t e a n c n' c' hok]⟩
    ·exact ⟨_, h.run' hb, Jg (by intro xs ys h1; cases h1) (by intro h1; cases h1) fun w => by simp [V.enc, C.enc, yZ w t e a n c n' c' hok]⟩
    ·exact h.elim
   ·exact h.elim
  ·exact h.elim
 ·exact h.elim
end Go.X
namespace Go.X
open Go
variable [Sm : Inhabited Jh]
structure Js where
 w : World
 L : List Chunk
 m : Im
def Qz (G : Js) (w : World) (L : List Chunk) (D : List Fact) : Prop := ∃ m, Wa w m L D ∧ Fr G.w G.L G.m w L m
abbrev KV := V → List Chunk → List Fact → Nat → Prop
def JW (P : Program) (o : Oper) (ρ : Operand → Value) (w : World) (R : Value → World → Prop) : Prop :=
 match (execOp ρ o).run P w with
 | .ok (.value v) w' => R v w'
 | .ok .skip w' => R undef w'
 | .ok (.enter f args) w' => Calls P f args w' fun e w'' => ∃ v, e = .returned v ∧ R v w''
 | _ => False
theorem JW.mono {P : Program} {o : Oper} {ρ : Operand → Value} {w : World} {R R' : Value → World → Prop} (h : JW P o ρ w R) (hr : ∀ v w', R v w' → R' v w') : JW P o ρ w R' := by
 unfold JW at *
 split at h
 ·exact hr _ _ h
 ·exact hr _ _ h
 ·exact h.mono fun e w'' ⟨v, he, hv⟩ => ⟨v, he, hr _ _ hv⟩
 ·exact h.elim
theorem JW.wp {P : Program} {o : Oper} {a : Act} {w : World} {R : Value → World → Prop} {next : Act → World → Prop} {Q : Exit → Act → World → Prop} (h : JW P o a.eval w R) (hn : ∀ v w', R v w' → next (a.put o.dst v) w') : o.wp P a w next Q := by
 unfold JW at h
 unfold Oper.wp
 generalize (execOp a.eval o).run P w = r at *
 split at h
 ·exact hn _ _ h
 ·exact hn _ _ h
 ·rw [Oper.upon_enter]
  refine h.mono ?_
  rintro e w'' ⟨v, rfl, hv⟩
  exact hn _ _ hv
 ·exact h.elim
def OpW (P : Program) (G : Js) (o : Oper) (a : Act) (w : World) (k : KV) : Prop :=
 JW P o a.eval w fun u w' => ∃ v L D n, u = v.enc ∧ k v L D n ∧ Qz G w' L D
theorem Zf {P : Program} {G : Js} {o : Oper} {a : Act} {w w' : World} {k : KV} {v : V} {L : List Chunk} {D : List Fact} {n : Nat} (hr : (execOp a.eval o).run P w = .ok (.value v.enc) w') (hk : k v L D n) (hs : Qz G w' L D) : OpW P G o a w k := by
 unfold OpW JW
 rw [hr]
 exact ⟨v, L, D, n, rfl, hk, hs⟩
theorem Sy {P : Program} {G : Js} {o : Oper} {a : Act} {w w' : World} {k : KV} {L : List Chunk} {D : List Fact} {n : Nat} (hr : (execOp a.eval o).run P w = .ok .skip w') (hk : k .t0 L D n) (hs : Qz G w' L D) : OpW P G o a w k := by
 unfold OpW JW
 rw [hr]
 exact ⟨.t0, L, D, n, rfl, hk, hs⟩
def vC : Nat → List C → (List C → Prop) → Prop
 | 0, _, k => k []
 | n + 1, x :: xs, k => vC n xs fun r => k (x :: r)
 | _ + 1, [], _ => False
theorem W5 : ∀ {n : Nat} {xs : List C} {k : List C → Prop}, vC n xs k → n ≤ xs.length ∧ k (xs.take n)
 | 0, _, _, h => ⟨Nat.zero_le _, by simpa [vC] using h⟩
 | n + 1, x :: xs, k, h => by
  have := W5 (n := n) (xs := xs) h
  exact ⟨by simp; omega, by simpa using this.2⟩
 | n + 1, [], _, h => h.elim
def PE : Nat → List C → List C → (List C → Prop) → Prop
 | 0, [], cs, k => k cs
 | 0, x :: ns, _ :: cs, k => PE 0 ns cs fun r => k (x :: r)
 | 0, _ :: _, [], _ => False
 | o + 1, ns, c :: cs, k => PE o ns cs fun r => k (c :: r)
 | _ + 1, _, [], _ => False
def QP (o : Nat) (vs l : List C) : List C := l.take o ++ vs ++ l.drop (o + vs.length)
theorem Y4 : ∀ {o : Nat} {ns cs : List C} {k : List C → Prop}, PE o ns cs k → o + ns.length ≤ cs.length ∧ k (QP o ns cs)
 | 0, [], cs, k, h => ⟨by simp, by simpa [QP, PE] using h⟩
 | 0, x :: ns, c :: cs, k, h => by
  have := Y4 (o := 0) (ns := ns) (cs := cs) h
  refine ⟨by simpa using this.1, ?_⟩
  have h2 := this.2
  simp only [QP, List.take_zero, List.nil_append, Nat.zero_add, List.length_cons, List.drop_succ_cons, List.cons_append] at h2 ⊢
  exact h2
 | 0, _ :: _, [], _, h => h.elim
 | o + 1, ns, c :: cs, k, h => by
  have := Y4 (o := o) (ns := ns) (cs := cs) h
  refine ⟨by simp; omega, ?_⟩
  have h2 := this.2
  simp only [QP, List.take_succ_cons, List.cons_append] at h2 ⊢
  rw [show o + 1 + ns.length = (o + ns.length) + 1 by omega, List.drop_succ_cons]
  exact h2
 | _ + 1, _, [], _, h => h.elim
theorem xo (o : Nat) (vs l : List C) : KP o (vs.map C.enc) (l.map C.enc) = (QP o vs l).map C.enc := by
 simp [KP, QP, List.map_take, List.map_drop]
theorem W6 {o : Nat} {vs l : List C} (h : o + vs.length ≤ l.length) : (QP o vs l).length = l.length := by
 simp [QP]; omega
theorem KT {o : Nat} {vs l : List C} (h : ZO vs) (h' : ZO l) : ZO (QP o vs l) := by
 intro x hx
 simp only [QP, List.append_assoc, List.mem_append] at hx
 rcases hx with hx | hx | hx
 ·exact h' x (List.mem_of_mem_take hx)
 ·exact h x hx
 ·exact h' x (List.mem_of_mem_drop hx)
def wh : List C → Bool
 | [] => true
 | x :: r => match x.one with
  | true => wh r
  | false => false
theorem zp : ∀ {cs : List C}, wh cs = true → ZO cs
 | [], _ => fun x hx => by cases hx
 | c :: r, h => by
  simp only [wh] at h
  split at h
  ·rename_i h1
   intro x hx
   rcases List.mem_cons.1 hx with rfl | hx
   ·exact h1
   ·exact zp h x hx
  ·cases h
def kO (cs : List C) (A : Prop) : Prop := match wh cs with | true => A | false => False
theorem XL {cs : List C} {A : Prop} (h : kO cs A) : ZO cs ∧ A := by
 unfold kO at h
 split at h
 ·rename_i h1; exact ⟨zp h1, h⟩
 ·exact h.elim
def LN (d : YW) (cs : List C) (k : V → Prop) : Prop :=
 match d with
 | .st _ | .arr _ _ => k (.agg cs)
 | .oth => False
 | _ => match cs with
  | [x] => k (.c x)
  | _ => False
theorem YF {d : YW} {cs : List C} {k : V → Prop} (h : LN d cs k) : ∃ v, k v ∧ v.enc = xf d cs ∧ d ≠ .oth := by
 unfold LN at h
 split at h
 ·exact ⟨_, h, rfl, by simp⟩
 ·exact ⟨_, h, rfl, by simp⟩
 ·exact h.elim
 ·rename_i d h1 h2 h3
  split at h
  ·exact ⟨_, h, by unfold xf; split <;> first | rfl | (exfalso; simp_all), h3⟩
  ·exact h.elim
def Yz (v : V) (k : List C → Prop) : Prop :=
 match v with
 | .c x => k [x]
 | .agg cs => k cs
 | _ => False
theorem XO {v : V} {k : List C → Prop} (h : Yz v k) : ∃ cs, k cs ∧ (ZO cs → v.enc.cells = (cs.map C.enc).toArray) := by
 unfold Yz at h
 split at h
 ·rename_i x
  refine ⟨_, h, fun h1 => ?_⟩
  have h2 := C.enc_oneCell x (h1 x (by simp))
  simp only [V.enc, List.map_cons, List.map_nil]
  cases hx : x.enc <;> rw [hx] at h2 <;> first | rfl | (simp [Value.oneCell'] at h2)
 ·exact ⟨_, h, fun _ => rfl⟩
 ·exact h.elim
def U0 (a b : Nat) (A : Prop) : Prop := match Nat.beq a b with | true => A | false => False
theorem Ks {a b : Nat} {A : Prop} (h : U0 a b A) : a = b ∧ A := by
 unfold U0 at h
 split at h
 ·rename_i h1; exact ⟨Nat.eq_of_beq_eq_true h1, h⟩
 ·exact h.elim
theorem yj {w : World} {o : Obj} : kQ w (w.alloc o) := ⟨rfl, rfl, by simp, fun _ => rfl, fun _ => Nat.le_refl _⟩
theorem j9 {w : World} {g : Nat} {o : Obj} : kQ w (Zq w g o) := ⟨rfl, rfl, by rw [VU]; exact Nat.le_refl _, fun _ => rfl, fun _ => Nat.le_refl _⟩
theorem kg {w : World} {m : Im} {L : List Chunk} {D : List Fact} (h : Wa w m L D) (o : Obj) (ch : Chunk) (hf : ch.fp = [w.heap.size]) (hok : ch.ok (w.alloc o)) :
  Wa (w.alloc o) m (ch :: L) D ∧ Fr w L m (w.alloc o) (ch :: L) m := by
 have hlt := JG h.ok
 have hold : ∀ b, b < w.heap.size → (w.alloc o).heap[b]? = w.heap[b]? := fun b hb => heap_alloc_old w o hb
 refine ⟨⟨?_, ⟨hok, Zk h.ok fun b hb => hold b (hlt b hb)⟩, ?_, h.d⟩, ⟨by simp, fun b hb _ => hold b hb, ?_, fun _ _ h => h, fun _ _ h => .inl h, yj⟩⟩
 ·simp only [Xy, hf, List.cons_append, List.nil_append, List.nodup_cons]
  exact ⟨fun hc => Nat.lt_irrefl _ (hlt _ hc), h.nd⟩
 ·intro b ob hb
  have h1 := h.im b ob hb
  have hlt' : b < w.heap.size := (Array.getElem?_eq_some_iff.1 h1.1).1
  refine ⟨by rw [hold b hlt']; exact h1.1, ?_⟩
  simp only [Xy, hf, List.cons_append, List.nil_append, List.mem_cons, not_or]
  exact ⟨Nat.ne_of_lt hlt', h1.2⟩
 ·intro b hb
  simp only [Xy, hf, List.cons_append, List.nil_append, List.mem_cons] at hb
  rcases hb with rfl | hb
  ·exact .inr (Nat.le_refl _)
  ·exact .inl hb
theorem XG {G : Js} {w : World} {L : List Chunk} {D : List Fact} (h : Qz G w L D) (o : Obj) (ch : Chunk) (hf : ch.fp = [w.heap.size]) (hok : ch.ok (w.alloc o)) : Qz G (w.alloc o) (ch :: L) D := by
 obtain ⟨m, h1, h2⟩ := h
 obtain ⟨h3, h4⟩ := kg h1 o ch hf hok
 exact ⟨m, h3, h2.trans h4⟩
theorem Gl (w : World) (id ty : Nat) (cs : List C) (h1 : ZO cs) : Chunk.ok (w.alloc (.cells (cs.map C.enc).toArray ty)) (.box id w.heap.size ty cs) :=
 ⟨h1, heap_alloc_new w _⟩
theorem wJ (P : Program) (w : World) (t : TypeId) (v : Value) : (newVar t v).run P w = .ok ⟨w.heap.size, 0, none⟩ (w.alloc (.cells v.cells t)) := rfl
def RM (T : Ty) (t : Nat) (v : V) (L : List Chunk) (D : List Fact) (nid : Nat) (k : KV) : Prop :=
 Yz v fun cs => kO cs (Qd fun ad => k (.c (.p nid ad 0)) (.box nid ad t cs :: L) D (nid + 1))
theorem jS {P : Program} {T : Ty} {G : Js} {o : Oper} {a : Act} {w : World} {t : Nat} {v : V} {L : List Chunk} {D : List Fact} {nid : Nat} {k : KV} (h : RM T t v L D nid k) (hs : Qz G w L D)
  (hr : (execOp a.eval o).run P w = .ok (.value (.pointer (some ⟨w.heap.size, 0, none⟩))) (w.alloc (.cells v.enc.cells t))) : OpW P G o a w k := by
 obtain ⟨cs, h, hv⟩ := XO h
 obtain ⟨h1, h⟩ := XL h
 rw [hv h1] at hr
 exact Zf (v := .c (.p nid w.heap.size 0)) hr (h.k _) (XG hs _ (.box nid w.heap.size t cs) rfl (Gl w nid t cs h1))
def KI : List Chunk → Nat → Option (Nat × Nat × List C)
 | [], _ => none
 | .box id ad ty cs :: r, n => match Nat.beq id n with
  | true => some (ad, ty, cs)
  | false => KI r n
 | .row _ _ _ _ _ _ :: r, n => KI r n
 | .obj _ _ _ :: r, n => KI r n
def Wc : List Chunk → Nat → List C → (List Chunk → Prop) → Prop
 | [], _, _, _ => False
 | .box id ad ty cs :: r, n, cs', k => match Nat.beq id n with
  | true => k (.box id ad ty cs' :: r)
  | false => Wc r n cs' fun r' => k (.box id ad ty cs :: r')
 | .row a b c d e f :: r, n, cs', k => Wc r n cs' fun r' => k (.row a b c d e f :: r')
 | .obj a b c :: r, n, cs', k => Wc r n cs' fun r' => k (.obj a b c :: r')
theorem Jy : ∀ {L : List Chunk} {n ad ty : Nat} {cs : List C}, KI L n = some (ad, ty, cs) → ∃ A B id, L = A ++ .box id ad ty cs :: B ∧ ∀ cs' k, Wc L n cs' k → k (A ++ .box id ad ty cs' :: B)
 | .box id ad ty cs :: r, n, ad', ty', cs', h => by
  simp only [KI] at h
  cases hb : Nat.beq id n with
  | true =>
   rw [hb] at h
   simp only [Option.some.injEq, Prod.mk.injEq] at h
   obtain ⟨rfl, rfl, rfl⟩ := h
   exact ⟨[], r, id, rfl, fun cs' k hk => by simpa [Wc, hb] using hk⟩
  | false =>
   rw [hb] at h
   obtain ⟨A, B, id', hL, hk⟩ := Jy h
   refine ⟨.box id ad ty cs :: A, B, id', by rw [hL]; rfl, fun cs' k h' => ?_⟩
   simp only [Wc, hb] at h'
   exact hk _ _ h'
 | .row a b c d e f :: r, n, ad', ty', cs', h => by
  simp only [KI] at h
  obtain ⟨A, B, id', hL, hk⟩ := Jy h
  refine ⟨.row a b c d e f :: A, B, id', by rw [hL]; rfl, fun cs' k h' => ?_⟩
  simp only [Wc] at h'
  exact hk _ _ h'
 | .obj a b c :: r, n, ad', ty', cs', h => by
  simp only [KI] at h
  obtain ⟨A, B, id', hL, hk⟩ := Jy h
  refine ⟨.obj a b c :: A, B, id', by rw [hL]; rfl, fun cs' k h' => ?_⟩
  simp only [Wc] at h'
  exact hk _ _ h'
 | [], _, _, _, _, h => by simp [KI] at h
theorem Jj {G : Js} {w : World} {A B : List Chunk} {ch ch' : Chunk} {D : List Fact} {g : Nat} {o : Obj} (h : Qz G w (A ++ ch :: B) D) (hg : ch.fp = [g]) (hf : ch'.fp = ch.fp) (hok : ch'.ok (Zq w g o)) (hz : ∀ off, frO (some o) off = frO w.heap[g]? off) :
  Qz G (Zq w g o) (A ++ ch' :: B) D := by
 obtain ⟨m, h1, h2⟩ := h
 have hfp : Xy (A ++ ch' :: B) = Xy (A ++ ch :: B) := by simp [Ze, Xy, hf]
 have hnd := h1.nd
 simp only [Ze, Xy, hg] at hnd
 have hmem : g ∈ Xy (A ++ ch :: B) := by simp [Ze, Xy, hg]
 have hA : ∀ b ∈ Xy A, b ≠ g := fun b hb hc => by
  subst hc
  exact (List.nodup_append.1 hnd).2.2 b hb b (by simp) rfl
 have hB : ∀ b ∈ Xy B, b ≠ g := fun b hb hc => by
  subst hc
  have := (List.nodup_append.1 hnd).2.1
  simp at this
  exact this.1 hb
 have hok1 := (XP _ _).1 h1.ok
 refine ⟨m, ⟨by rw [hfp]; exact h1.nd, (XP _ _).2 ⟨Zk hok1.1 fun b hb => Kl (hA b hb), hok, Zk hok1.2.2 fun b hb => Kl (hB b hb)⟩, ?_, h1.d⟩, ?_⟩
 ·intro b ob hb
  have h3 := h1.im b ob hb
  rw [hfp]
  exact ⟨by rw [Kl (by intro hc; subst hc; exact h3.2 hmem)]; exact h3.1, h3.2⟩
 ·refine h2.trans ⟨by rw [VU]; exact Nat.le_refl _, fun b _ hb => Kl (by intro hc; subst hc; exact hb hmem), fun b hb => .inl (by rw [← hfp]; exact hb), fun _ _ h => h, fun _ _ h => .inl h, j9⟩
theorem PI {G : Js} {w : World} {A : List Chunk} {ch : Chunk} {D : List Fact} {g : Nat} {o : Obj} (h : Qz G w (ch :: A) D) (hg : ch.fp = [g]) : Qz G (Zq w g o) A D := by
 obtain ⟨m, h1, h2⟩ := h
 have hnd := h1.nd
 simp only [Xy, hg] at hnd
 have hA : ∀ b ∈ Xy A, b ≠ g := fun b hb hc => by
  subst hc
  simp at hnd
  exact hnd.1 hb
 have hmem : g ∈ Xy (ch :: A) := by simp [Xy, hg]
 refine ⟨m, ⟨(by simp at hnd; exact hnd.2), Zk h1.ok.2 fun b hb => Kl (hA b hb), ?_, h1.d⟩, ?_⟩
 ·intro b ob hb
  have h3 := h1.im b ob hb
  exact ⟨by rw [Kl (by intro hc; subst hc; exact h3.2 hmem)]; exact h3.1, fun hc => h3.2 (by simp only [Xy, List.mem_append]; exact .inr hc)⟩
 ·exact h2.trans ⟨by rw [VU]; exact Nat.le_refl _, fun b _ hb => Kl (by intro hc; subst hc; exact hb hmem), fun b hb => .inl (by simp only [Xy, List.mem_append]; exact .inr hb), fun _ _ h => h, fun _ _ h => .inl h, j9⟩
def KH : List Chunk → Nat → Option (Nat × Obj)
 | [], _ => none
 | .obj id ad o :: r, n => match Nat.beq id n with
  | true => some (ad, o)
  | false => KH r n
 | .box _ _ _ _ :: r, n => KH r n
 | .row _ _ _ _ _ _ :: r, n => KH r n
def Wb : List Chunk → Nat → Obj → (List Chunk → Prop) → Prop
 | [], _, _, _ => False
 | .obj id ad o :: r, n, o', k => match Nat.beq id n with
  | true => k (.obj id ad o' :: r)
  | false => Wb r n o' fun r' => k (.obj id ad o :: r')
 | .box a b c d :: r, n, o', k => Wb r n o' fun r' => k (.box a b c d :: r')
 | .row a b c d e f :: r, n, o', k => Wb r n o' fun r' => k (.row a b c d e f :: r')
theorem Jx : ∀ {L : List Chunk} {n ad : Nat} {o : Obj}, KH L n = some (ad, o) → ∃ A B id, L = A ++ .obj id ad o :: B ∧ ∀ o' k, Wb L n o' k → k (A ++ .obj id ad o' :: B)
 | .obj id ad o :: r, n, ad', o', h => by
  simp only [KH] at h
  cases hb : Nat.beq id n with
  | true =>
   rw [hb] at h
   simp only [Option.some.injEq, Prod.mk.injEq] at h
   obtain ⟨rfl, rfl⟩ := h
   exact ⟨[], r, id, rfl, fun o' k hk => by simpa [Wb, hb] using hk⟩
  | false =>
   rw [hb] at h
   obtain ⟨A, B, id', hL, hk⟩ := Jx h
   refine ⟨.obj id ad o :: A, B, id', by rw [hL]; rfl, fun o' k h' => ?_⟩
   simp only [Wb, hb] at h'
   exact hk _ _ h'
 | .box a b c d :: r, n, ad', o', h => by
  simp only [KH] at h
  obtain ⟨A, B, id', hL, hk⟩ := Jx h
  refine ⟨.box a b c d :: A, B, id', by rw [hL]; rfl, fun o' k h' => ?_⟩
  simp only [Wb] at h'
  exact hk _ _ h'
 | .row a b c d e f :: r, n, ad', o', h => by
  simp only [KH] at h
  obtain ⟨A, B, id', hL, hk⟩ := Jx h
  refine ⟨.row a b c d e f :: A, B, id', by rw [hL]; rfl, fun o' k h' => ?_⟩
  simp only [Wb] at h'
  exact hk _ _ h'
 | [], _, _, _, h => by simp [KH] at h
structure EqP (a b : Nat) (A : Prop) : Prop where
 h : a = b
 k : A
def Z8 (m : Im) (ety esz : Nat) (a : Option Addr) (n : Nat) (cs : List C) : Prop :=
 ZO cs ∧ ((n = 0 ∧ cs = []) ∨ ∃ g off cur ty lo hi, a = some ⟨g, off, none⟩ ∧ m g = some (.cells cur ty (lo, hi)) ∧ cs.length = n * esz ∧ (cur.toList.drop off).take (n * esz) = cs.map C.enc)
def Qf (ety esz : Nat) (a : Option Addr) (n : Nat) (cs : List C) : Fact :=
 ⟨fun m => Z8 m ety esz a n cs, fun m m' hm h => ⟨h.1, h.2.imp id fun ⟨g, off, cur, ty, lo, hi, h1, h2, h3⟩ => ⟨g, off, cur, ty, lo, hi, h1, hm _ _ h2, h3⟩⟩⟩
inductive Qp (L : List Chunk) (D : List Fact) (ety esz : Nat) (a : Option Addr) (n : Nat) (cs : List C) : Prop where
 | inl (h : ∃ c, Chunk.row ety esz a n c cs ∈ L)
 | inr (h : ∀ m, QI m D → Z8 m ety esz a n cs)
 | sub (b : Option Addr) (lo N c : Nat) (cs0 : List C) (h : Chunk.row ety esz b N c cs0 ∈ L) (ha : a = b.map (·.add (lo * esz))) (hn : lo + n ≤ N) (hc : cs = (cs0.drop (lo * esz)).take (n * esz))
theorem ZE {w : World} {ch : Chunk} : ∀ {L : List Chunk}, WV w L → ch ∈ L → ch.ok w
 | c :: r, h, hm => by
  rcases List.mem_cons.1 hm with rfl | hm
  ·exact h.1
  ·exact ZE h.2 hm
 | [], _, hm => by cases hm
theorem qP (g k : Nat) : (⟨g, 0, none⟩ : Addr).add k = ⟨g, k, none⟩ := by
 unfold Addr.add
 split
 ·rename_i h; rw [h]
 ·simp
theorem KQ {G : Js} {w : World} {L : List Chunk} {D : List Fact} {ety esz : Nat} {a : Option Addr} {n : Nat} {cs : List C} (h : Qp L D ety esz a n cs) (hs : Qz G w L D) :
  ZO cs ∧ ((n = 0 ∧ cs = []) ∨ ∃ g off cur ty lo hi, a = some ⟨g, off, none⟩ ∧ w.heap[g]? = some (.cells cur ty (lo, hi)) ∧ cs.length = n * esz ∧ (cur.toList.drop off).take (n * esz) = cs.map C.enc) := by
 obtain ⟨m, h1, _⟩ := hs
 rcases h with ⟨c, hc⟩ | h | ⟨b, lo, N, c, cs0, hm, ha, hn, hcs⟩
 ·have := ZE h1.ok hc
  refine ⟨this.1, ?_⟩
  rcases this.2 with ⟨h3, h4, _, h5⟩ | ⟨g, hg, cur, lo, hi, h4, _, _, _, _, h5, h6⟩
  ·exact .inl ⟨h4, h5⟩
  ·exact .inr ⟨g, 0, cur, ety, lo, hi, hg, h4, h5, by simpa using h6⟩
 ·have := h m h1.d
  exact ⟨this.1, this.2.imp id fun ⟨g, off, cur, ty, lo, hi, h3, h4, h5⟩ => ⟨g, off, cur, ty, lo, hi, h3, (h1.im _ _ h4).1, h5⟩⟩
 ·have := ZE h1.ok hm
  have hone : ZO cs := fun x hx => this.1 x (List.mem_of_mem_drop (List.mem_of_mem_take (hcs ▸ hx)))
  refine ⟨hone, ?_⟩
  rcases this.2 with ⟨h3, h4, _, h5⟩ | ⟨g, hg, cur, lo', hi', h4, _, _, _, _, h5, h6⟩
  ·exact .inl ⟨by omega, by rw [hcs, h5]; simp⟩
  ·have hle : lo * esz + n * esz ≤ N * esz := by rw [← Nat.add_mul]; exact Nat.mul_le_mul_right _ hn
   refine .inr ⟨g, lo * esz, cur, ety, lo', hi', by rw [ha, hg, Option.map_some, qP], h4, by rw [hcs]; simp; omega, ?_⟩
   rw [hcs, List.map_take, List.map_drop, ← h6, List.drop_take, List.take_take, Nat.min_eq_left (by omega)]
inductive Qi (L : List Chunk) (D : List Fact) (a : Option Addr) (esz : Nat) (ix : Int) (off sz : Nat) (K : List C → Prop) : Prop where
 | mk (ety n : Nat) (cs r : List C) (h : Qp L D ety esz a n cs) (h0 : 0 ≤ ix) (h1 : ix < n) (h2 : off + sz ≤ esz) (hr : (cs.drop (ix.toNat * esz + off)).take sz = r) (k : K r)
inductive Xp (L : List Chunk) (a : Option Addr) (esz : Nat) (ix : Int) (off : Nat) (ns : List C) (K : List Chunk → Prop) : Prop where
 | mk (A B : List Chunk) (ety n c : Nat) (cs cs' : List C) (h : L = A ++ .row ety esz a n c cs :: B) (h0 : 0 ≤ ix) (h1 : ix < n) (h2 : off + ns.length ≤ esz) (hr : QP (ix.toNat * esz + off) ns cs = cs') (k : K (A ++ .row ety esz a n c cs' :: B))
inductive Qr (L : List Chunk) (D : List Fact) (a : Option Addr) (n : Nat) (ix : Int) (K : Prop) : Prop where
 | mk (ety esz : Nat) (cs : List C) (h : Qp L D ety esz a n cs) (h0 : 0 ≤ ix) (h1 : ix < n) (k : K)
def jo (T : Ty) (t : Nat) (x : V) (L : List Chunk) (D : List Fact) (k : V → Prop) : Prop :=
 match find T t with
 | none => False
 | some i =>
  match x with
  | .c (.p id ad off) =>
   match KI L id with
   | some (ad', _, cs) => EqP ad ad' (vC i.size (cs.drop off) fun r => LN i.d r k)
   | none => False
  | .c (.e a esz ix off) => Qi L D a esz ix off i.size fun r => LN i.d r k
  | .c (.raw (.pointer (some ⟨g, off, none⟩))) => Qi L D (some ⟨g, off, none⟩) i.size 0 0 i.size fun r => LN i.d r k
  | _ => False
theorem jR {P : Program} {G : Js} {t : Nat} {i : Zy} (hok : i.ok P t) {a : Option Addr} {esz off : Nat} {ix : Int} {L : List Chunk} {D : List Fact} {k : V → Prop} (h : Qi L D a esz ix off i.size fun r => LN i.d r k) :
  ∃ v, k v ∧ ∀ w, Qz G w L D → (Instr.loadAt t (V.c (.e a esz ix off)).enc).run P w = .ok v.enc w := by
 obtain ⟨ety, n, cs, r, hrd, h0, h1, h2, hr, h⟩ := h
 obtain ⟨v, hk, hv, hd⟩ := YF h
 refine ⟨v, hk, fun w hs => ?_⟩
 rcases (KQ hrd hs).2 with ⟨hn, _⟩ | ⟨g, off0, cur, ty, lo, hi, ha, hg, hl, hc⟩
 ·omega
 ·subst ha
  have hp : ix.toNat * esz + esz ≤ n * esz := by
   have : ix.toNat + 1 ≤ n := by omega
   calc ix.toNat * esz + esz = (ix.toNat + 1) * esz := by rw [Nat.add_mul]; simp
    _ ≤ n * esz := Nat.mul_le_mul_right _ this
  have hrl : r.length = i.size := by rw [← hr]; simp; omega
  simp only [Instr.loadAt, V.enc, C.enc, Option.map_some, Kb, Instr.sureAddr, Sem.run_bind, Sem.run_pure, Result.andThen_ok]
  rw [Vy hok hd hg _ r hrl ?_, hv]
  rw [hrl, ← hr, List.map_take, List.map_drop, ← hc, List.drop_take, List.take_take, List.drop_drop]
  congr 1
  omega
theorem wv {P : Program} {T : Ty} (hT : Z4 P T) {G : Js} {t : Nat} {x : V} {L : List Chunk} {D : List Fact} {k : V → Prop} (h : jo T t x L D k) :
  ∃ v, k v ∧ ∀ w, Qz G w L D → (Instr.loadAt t x.enc).run P w = .ok v.enc w := by
 unfold jo at h
 split at h
 ·exact h.elim
 ·rename_i i hi
  have hok := hT t i hi
  split at h
  ·rename_i id ad off
   split at h
   ·rename_i ad' ty cs hb
    obtain ⟨h0, h⟩ := h
    subst h0
    obtain ⟨hlen, h⟩ := W5 h
    obtain ⟨v, hk, hv, hd⟩ := YF h
    obtain ⟨A, B, id', hL, _⟩ := Jy hb
    refine ⟨v, hk, fun w hs => ?_⟩
    obtain ⟨m, h1, _⟩ := hs
    have hbx := ZE h1.ok (ch := .box id' ad ty cs) (by rw [hL]; simp)
    simp only [Instr.loadAt, V.enc, C.enc, Instr.sureAddr, Sem.run_bind, Sem.run_pure, Result.andThen_ok]
    have hlen' : ((cs.drop off).take i.size).length = i.size := by simp at hlen ⊢; omega
    rw [Vy hok hd hbx.2 off ((cs.drop off).take i.size) hlen' (by rw [hlen']; simp [List.map_take, List.map_drop]), hv]
   ·exact h.elim
  ·exact jR hok h
  ·rename_i g o
   have hx : V.enc (.c (.raw (.pointer (some ⟨g, o, none⟩)))) = V.enc (.c (.e (some ⟨g, o, none⟩) i.size 0 0)) := by simp [V.enc, C.enc, Kb]
   rw [hx]
   exact jR hok h
  ·exact h.elim
theorem z7 {P : Program} {T : Ty} (hT : Z4 P T) {G : Js} {w : World} {t : Nat} {x : V} {L : List Chunk} {D : List Fact} {k : V → Prop} (h : jo T t x L D k) (hs : Qz G w L D) :
  ∃ v, k v ∧ (Instr.loadAt t x.enc).run P w = .ok v.enc w := by
 obtain ⟨v, hk, hv⟩ := wv (G := G) hT h
 exact ⟨v, hk, hv w hs⟩
def Us (T : Ty) (t : Nat) (x v : V) (L : List Chunk) (k : List Chunk → Prop) : Prop :=
 match find T t with
 | none => False
 | some i =>
  Yz v fun ns => kO ns (U0 ns.length i.size (
   match x with
   | .c (.p id ad off) =>
    match KI L id with
    | some (ad', _, cs) => EqP ad ad' (PE off ns cs fun r => Wc L id r k)
    | none => False
   | .c (.e a esz ix off) => Xp L a esz ix off ns k
   | _ => False))
theorem yS {P : Program} {T : Ty} (hT : Z4 P T) {G : Js} {w : World} {t : Nat} {x v : V} {L : List Chunk} {D : List Fact} {k : List Chunk → Prop} (h : Us T t x v L k) (hs : Qz G w L D) :
  ∃ L' w', k L' ∧ (Instr.storeAt t x.enc v.enc).run P w = .ok () w' ∧ Qz G w' L' D := by
 unfold Us at h
 split at h
 ·exact h.elim
 ·rename_i i hi
  have hok := hT t i hi
  obtain ⟨ns, hA1, hv⟩ := XO h
  clear h
  obtain ⟨h1, hA2⟩ := XL hA1
  clear hA1
  obtain ⟨hl, h⟩ := Ks hA2
  clear hA2
  have hv' := hv h1
  split at h
  ·rename_i id ad off
   split at h
   ·rename_i ad' ty cs hb
    obtain ⟨h0, h⟩ := h
    subst h0
    obtain ⟨hlen, h⟩ := Y4 h
    obtain ⟨A, B, id', hL, hset⟩ := Jy hb
    have hk := hset _ _ h
    have hs0 := hs
    obtain ⟨m, hh, _⟩ := hs
    have hbx := ZE hh.ok (ch := .box id' ad ty cs) (by rw [hL]; simp)
    refine ⟨_, Zq w ad (.cells (KP off (ns.map C.enc) (cs.map C.enc)).toArray ty (0, 0)), hk, ?_, ?_⟩
    ·simp only [Instr.storeAt, V.enc, C.enc, Instr.sureAddr, Sem.run_bind, Sem.run_pure, Result.andThen_ok]
     exact YD hok hbx.2 (.inr (Nat.le_refl _)) off ns v.enc hv' hl (by simpa using hlen) h1
    ·rw [hL] at hs0
     refine Jj hs0 rfl rfl ⟨KT h1 hbx.1, ?_⟩ (fun off => by rw [hbx.2]; rfl)
     rw [Jb hbx.2, xo]
   ·exact h.elim
  ·rename_i a esz ix off
   obtain ⟨A, B, ety, n, c, cs, cs', hL, h0, h2, h3, hr, hk⟩ := h
   subst hL
   have hs0 := hs
   obtain ⟨m, hh, _⟩ := hs
   have hrow := ZE hh.ok (ch := .row ety esz a n c cs) (by simp)
   rcases hrow.2 with ⟨_, hn, _⟩ | ⟨g, ha, cur, lo, hi, hg, hnc, hcm, hsz, hfz, hcl, htk⟩
   ·omega
   ·subst ha
    have hp : ix.toNat * esz + esz ≤ n * esz := by
     have : ix.toNat + 1 ≤ n := by omega
     calc ix.toNat * esz + esz = (ix.toNat + 1) * esz := by rw [Nat.add_mul]; simp
      _ ≤ n * esz := Nat.mul_le_mul_right _ this
    have hncm : n * esz ≤ c * esz := Nat.mul_le_mul_right _ hnc
    refine ⟨_, Zq w g (.cells (KP (0 + (ix.toNat * esz + off)) (ns.map C.enc) cur.toList).toArray ety (lo, hi)), hk, ?_, ?_⟩
    ·simp only [Instr.storeAt, V.enc, C.enc, Option.map_some, Kb, Instr.sureAddr, Sem.run_bind, Sem.run_pure, Result.andThen_ok]
     exact YD hok hg (hfz.imp_left And.left) _ ns v.enc hv' hl (by omega) h1
    ·refine Jj hs0 (g := g) (by simp [Chunk.fp]) rfl ⟨by rw [← hr]; exact KT h1 hrow.1, .inr ⟨g, rfl, ?_⟩⟩ (fun off => by rw [hg]; rfl)
     refine ⟨_, lo, hi, Jb hg, hnc, hcm, ?_, ?_, ?_, ?_⟩
     ·simp only [List.size_toArray, KP, List.length_append, List.length_take, List.length_map, List.length_drop, Array.length_toList]; omega
     ·simp only [List.size_toArray, KP, List.length_append, List.length_take, List.length_map, List.length_drop, Array.length_toList]; omega
     ·rw [← hr, W6 (by omega)]; exact hcl
     ·rw [← hr, ← xo, ← htk]
      simp only [KP, List.length_map, Nat.zero_add]
      have hcur : cur.toList.length = c * esz := by simpa using hsz
      generalize cur.toList = l at *
      rw [List.append_assoc, List.take_append, List.take_append, List.append_assoc]
      have e1 : List.take (n * esz) (List.take (ix.toNat * esz + off) l) = List.take (ix.toNat * esz + off) (List.take (n * esz) l) := by
       rw [List.take_take, List.take_take, Nat.min_comm]
      have e2 : List.take (n * esz - (List.take (ix.toNat * esz + off) l).length) (ns.map C.enc) = ns.map C.enc := by
       apply List.take_of_length_le; simp; omega
      rw [e1, e2, List.drop_take]
      congr 3
      simp; omega
  ·exact h.elim
end Go.X
namespace Go.X
open Go
variable [Sm : Inhabited Jh]
def w5 (env : XR) : List (Nat × Operand) → (List (Nat × V) → Prop) → Prop
 | [], k => k []
 | (i, x) :: r, k => QZ env x fun v => w5 env r fun l => k ((i, v) :: l)
theorem Wf {N : Nat} {env : XR} {a : Act} (he : XF N env a) : ∀ {ps : List (Nat × Operand)} {k : List (Nat × V) → Prop}, w5 env ps k → ∃ l, k l ∧ ps.map (fun (i, x) => (i, a.eval x)) = l.map fun (i, v) => (i, v.enc)
 | [], k, h => ⟨[], h, rfl⟩
 | (i, x) :: r, k, h => by
  obtain ⟨v, hv, h⟩ := Ql h
  obtain ⟨l, hl, he'⟩ := Wf he h
  exact ⟨(i, v) :: l, hl, by simp only [List.map_cons, he.ev hv, he']⟩
def Uh (pl : Nat → Option (Nat × Nat)) : List (Nat × V) → List C → (List C → Prop) → Prop
 | [], cs, k => k cs
 | (i, v) :: r, cs, k =>
  match pl i with
  | some (off, size) => Yz v fun ns => kO ns (U0 ns.length size (PE off ns cs fun cs' => Uh pl r cs' k))
  | none => False
theorem Uf (off : Nat) : ∀ (ns : List Value) (j : Nat) (cur : Array Value), off + j + ns.length ≤ cur.size →
  (ns.zipIdx j).foldl (fun cs (p : Value × Nat) => cs.setIfInBounds (off + p.2) p.1) cur = (KP (off + j) ns cur.toList).toArray
 | [], j, cur, _ => by simp [KP]
 | x :: ns, j, cur, h => by
  simp only [List.length_cons] at h
  simp only [List.zipIdx_cons, List.foldl_cons]
  rw [Uf off ns (j + 1) _ (by simp; omega)]
  simp only [KP, Array.toList_setIfInBounds]
  congr 1
  have ho' : off + j < cur.toList.length := by simp; omega
  rw [show off + (j + 1) = (off + j) + 1 from rfl, List.take_succ_eq_append_getElem (by simp; omega)]
  simp only [List.getElem_set_self, List.take_set_of_le (Nat.le_refl _), List.append_assoc, List.singleton_append, List.length_cons]
  rw [List.drop_set_of_lt (by omega)]
  congr 3
  omega
theorem Yh {pl : Nat → Option (Nat × Nat)} : ∀ {l : List (Nat × V)} {cs : List C} {k : List C → Prop}, Uh pl l cs k → ZO cs → ∃ cs', k cs' ∧ ZO cs' ∧ cs'.length = cs.length ∧
  Instr.fill pl (cs.map C.enc).toArray (l.map fun (i, v) => (i, v.enc)) = some (cs'.map C.enc).toArray
 | [], cs, k, h, h1 => ⟨cs, h, h1, rfl, rfl⟩
 | (i, v) :: r, cs, k, h, h1 => by
  simp only [Uh] at h
  split at h
  ·rename_i off size hp
   obtain ⟨ns, hA, hv⟩ := XO h
   obtain ⟨h2, hB⟩ := XL hA
   obtain ⟨hl, hC⟩ := Ks hB
   obtain ⟨hlen, hD⟩ := Y4 hC
   obtain ⟨cs', hk, h3, h4, h5⟩ := Yh hD (KT h2 h1)
   refine ⟨cs', hk, h3, by rw [h4, W6 hlen], ?_⟩
   simp only [List.map_cons, Instr.fill, hp, hv h2]
   simp only [List.size_toArray, List.length_map, hl, ne_eq, not_true_eq_false, false_or, gt_iff_lt, show ¬ cs.length < off + size by omega, decide_false, Bool.false_or, Bool.or_false, decide_not, decide_true, Bool.not_true, Bool.false_eq_true, if_false]
   have := Uf off (ns.map C.enc) 0 (cs.map C.enc).toArray (by simpa using hlen)
   simp only [Nat.add_zero] at this
   rw [xo] at this
   have e : (((ns.map C.enc).toArray.zipIdx).foldl (fun cs (p : Value × Nat) => cs.setIfInBounds (off + p.2) p.1) (cs.map C.enc).toArray) = ((QP off ns cs).map C.enc).toArray := by
    rw [← this]
    simp
   rw [← h5]
   congr 1
  ·exact h.elim
def xD (T : Ty) : List (Nat × Nat) → Option (List (Nat × Nat))
 | [] => some []
 | (off, ft) :: r =>
  match find T ft, xD T r with
  | some i, some l => some ((off, i.size) :: l)
  | _, _ => none
theorem zh {P : Program} {T : Ty} (hT : Z4 P T) : ∀ {F : List Field} {l : List (Nat × Nat)}, xD T (F.map fun f => (f.offset, f.type)) = some l → F.mapM (fun f => (P.info? f.type).map fun i => (f.offset, i.size)) = some l
 | [], l, h => by simp [xD] at h; subst h; rfl
 | f :: F, l, h => by
  simp only [List.map_cons, xD] at h
  split at h
  ·rename_i i l' hi hl'
   simp only [Option.some.injEq] at h
   subst h
   obtain ⟨x, hx, h1, _⟩ := X9 (hT _ _ hi)
   have := zh hT hl'
   simp [List.mapM_cons, hx, this, h1]
  ·cases h
def kV (T : Ty) (t : Nat) (l : List (Nat × V)) (k : V → Prop) : Prop :=
 match find T t with
 | none => False
 | some i =>
  match i.d, i.zero with
  | .st fs, .agg z =>
   match xD T fs with
   | some pl => kO z (Uh (fun j => pl[j]?) l z fun cs => k (.agg cs))
   | none => False
  | .arr _ e, .agg z =>
   match find T e with
   | some ei => kO z (Uh (fun j => some (j * ei.size, ei.size)) l z fun cs => k (.agg cs))
   | none => False
  | _, _ => False
theorem qX {P : Program} {T : Ty} (hT : Z4 P T) {t : Nat} {l : List (Nat × V)} {k : V → Prop} (h : kV T t l k) : ∃ v, k v ∧ ∀ w, (Instr.build t (l.map fun (i, v) => (i, v.enc)).toArray).run P w = .ok v.enc w := by
 unfold kV at h
 split at h
 ·exact h.elim
 ·rename_i i hi
  have hok := hT t i hi
  obtain ⟨x, hx, _, _, hz⟩ := X9 hok
  split at h
  ·rename_i fs z hd hzz
   have hd' := hok.2.2.2
   rw [hd] at hd'
   split at h
   ·rename_i pl hpl
    obtain ⟨h1, h⟩ := XL h
    obtain ⟨cs, hk, _, _, hf⟩ := Yh h h1
    refine ⟨_, hk, fun w => run_build w t _ _ ?_⟩
    rw [← hd'.2.1] at hpl
    have hp := zh hT hpl
    simp only [Program.built, hx, hd'.1, hz, hp, hzz]
    simpa [V.enc, Value.cells] using hf
   ·exact h.elim
  ·rename_i n e z hd hzz
   have hd' := hok.2.2.2
   rw [hd] at hd'
   split at h
   ·rename_i ei hei
    obtain ⟨y, hy, hy1, _⟩ := X9 (hT _ _ hei)
    obtain ⟨h1, h⟩ := XL h
    obtain ⟨cs, hk, _, _, hf⟩ := Yh h h1
    refine ⟨_, hk, fun w => run_build w t _ _ ?_⟩
    simp only [YW.ok] at hd'
    simp only [Program.built, hx, hd', hz, hy, hzz, hy1]
    simpa [V.enc, Value.cells] using hf
   ·exact h.elim
  ·exact h.elim
def kU (T : Ty) (t : Nat) (x : V) (f : Nat) (k : V → Prop) : Prop :=
 match find T t with
 | none => False
 | some i =>
  match i.d, x with
  | .st fs, .agg cs =>
   match fs[f]? with
   | some (off, ft) =>
    match find T ft with
    | some fi => vC fi.size (cs.drop off) fun r => LN fi.d r k
    | none => False
   | none => False
  | _, _ => False
theorem xX {P : Program} {t : Nat} {fs : List (Nat × Nat)} {f off ft : Nat} (h : (P.fieldsOf t).toList.map (fun f => (f.offset, f.type)) = fs) (hf : fs[f]? = some (off, ft)) :
  ∃ x, (P.fieldsOf t)[f]? = some x ∧ x.offset = off ∧ x.type = ft := by
 rw [← h, List.getElem?_map] at hf
 cases hx : (P.fieldsOf t).toList[f]? with
 | none => rw [hx] at hf; simp at hf
 | some x =>
  rw [hx] at hf
  simp at hf
  exact ⟨x, by simpa using hx, hf.1, hf.2⟩
theorem LM {P : Program} {w : World} {ft : TypeId} {fi : Zy} (hok : fi.ok P ft) {cs : List C} {off : Nat} {k : V → Prop} (h : vC fi.size (cs.drop off) fun r => LN fi.d r k) :
  ∃ v, k v ∧ (part ft (cs.map C.enc).toArray off).run P w = .ok v.enc w := by
 obtain ⟨hlen, h⟩ := W5 h
 obtain ⟨v, hk, hv, hd⟩ := YF h
 refine ⟨v, hk, ?_⟩
 rw [VW hok hd cs off ?_ w, hv]
 cases ha : XM fi.d with
 | true => exact .inl rfl
 | false =>
  have := hok.2.2.1.resolve_left (by simp [ha])
  right
  simp at hlen
  omega
theorem qW {P : Program} {T : Ty} (hT : Z4 P T) {t : Nat} {x : V} {f : Nat} {k : V → Prop} (h : kU T t x f k) : ∃ v, k v ∧ ∀ w, (Instr.field t x.enc f).run P w = .ok v.enc w := by
 unfold kU at h
 split at h
 ·exact h.elim
 ·rename_i i hi
  split at h
  ·rename_i fs cs hd
   have hd' := (hT t i hi).2.2.2
   rw [hd] at hd'
   split at h
   ·rename_i off ft hf
    split at h
    ·rename_i fi hfi
     obtain ⟨y, hy, h1, h2⟩ := xX hd'.2.1 hf
     have key := fun w => LM (P := P) (w := w) (hT _ _ hfi) h
     obtain ⟨v, hk, _⟩ := key default
     have hrun : ∀ w, (Instr.field t (V.agg cs).enc f).run P w = (part ft (cs.map C.enc).toArray off).run P w := fun w => by
      simp only [Instr.field, Sem.run_bind, run_underlying hd'.1, Result.andThen_ok, hy, V.enc, asAgg, Sem.run_pure, h1, h2]
     -- the cells read are the same in every world
     obtain ⟨hlen, h⟩ := W5 h
     obtain ⟨v, hk, hv, hdd⟩ := YF h
     refine ⟨v, hk, fun w => ?_⟩
     rw [hrun w]
     have hok := hT _ _ hfi
     rw [VW hok hdd cs off ?_ w, hv]
     cases ha : XM fi.d with
     | true => exact .inl rfl
     | false =>
      have := hok.2.2.1.resolve_left (by simp [ha])
      right
      simp at hlen
      omega
    ·exact h.elim
   ·exact h.elim
  ·exact h.elim
def SA (a : Nat) (A : Prop) : Prop := match a with | 0 => False | _ + 1 => A
theorem JT {a : Nat} {A : Prop} (h : SA a A) : a ≠ 0 ∧ A := by cases a with | zero => exact h.elim | succ n => exact ⟨by simp, h⟩
inductive Zv (L : List Chunk) (D : List Fact) (a : Option Addr) (K : Prop) : Prop where
 | mk (ety esz n : Nat) (cs : List C) (h : Qp L D ety esz a n cs) (hn : 0 < n) (k : K)
theorem Ug {G : Js} {L : List Chunk} {D : List Fact} {a : Option Addr} {K : Prop} (h : Zv L D a K) : K ∧ ∀ w, Qz G w L D → ∃ b, a = some b := by
 obtain ⟨ety, esz, n, cs, hr, hn, hk⟩ := h
 refine ⟨hk, fun w hs => ?_⟩
 rcases (KQ hr hs).2 with ⟨h0, _⟩ | ⟨g, off, cur, ty, lo, hi, ha, _⟩
 ·omega
 ·exact ⟨_, ha⟩
def W0 (T : Ty) (t : Nat) (x : V) (f : Nat) (L : List Chunk) (D : List Fact) (k : V → Prop) : Prop :=
 match find T t with
 | none => False
 | some i =>
  match i.d with
  | .st fs =>
   match fs[f]? with
   | some (off, ft) =>
    match find T ft with
    | some fi => SA fi.size (
     match x with
     | .c (.p id ad o) => k (.c (.p id ad (o + off)))
     | .c (.e a esz ix o) => Zv L D a (k (.c (.e a esz ix (o + off))))
     | _ => False)
    | none => False
   | none => False
  | _ => False
theorem j0 {P : Program} {w : World} {t f : Nat} {fs : List (Nat × Nat)} {off ft : Nat} {fi : Zy} (hd : YW.ok P t (.st fs)) (hf : fs[f]? = some (off, ft)) (hok : fi.ok P ft) (hz : fi.size ≠ 0) (a : Addr) (hs : a.spot = none) :
  (Instr.fieldAt t (.pointer (some a)) f).run P w = .ok (.pointer (some ⟨a.block, a.off + off, none⟩)) w := by
 obtain ⟨y, hy, h1, h2⟩ := xX hd.2.1 hf
 have hok' : fi.ok P y.type := by rw [h2]; exact hok
 obtain ⟨b, o, s⟩ := a
 simp only at hs
 subst hs
 simp only [Instr.fieldAt, Sem.run_bind, run_underlying hd.1, Result.andThen_ok, hy, Instr.sureAddr, Sem.run_pure, fieldPlace, Zc hok', Sem.run_ite, hz, if_false, XW, h1]
theorem Vv {P : Program} {T : Ty} (hT : Z4 P T) {G : Js} {t : Nat} {x : V} {f : Nat} {L : List Chunk} {D : List Fact} {k : V → Prop} (h : W0 T t x f L D k) :
  ∃ v, k v ∧ ∀ w, Qz G w L D → (Instr.fieldAt t x.enc f).run P w = .ok v.enc w := by
 unfold W0 at h
 split at h
 ·exact h.elim
 ·rename_i i hi
  split at h
  ·rename_i fs hd
   have hd' := (hT t i hi).2.2.2
   rw [hd] at hd'
   split at h
   ·rename_i off ft hf
    split at h
    ·rename_i fi hfi
     obtain ⟨hz, hA⟩ := JT h
     clear h
     split at hA
     ·exact ⟨_, hA, fun w _ => j0 hd' hf (hT _ _ hfi) hz _ rfl⟩
     ·rename_i a esz ix o
      obtain ⟨hk, ha⟩ := Ug (G := G) hA
      refine ⟨_, hk, fun w hs => ?_⟩
      obtain ⟨b, rfl⟩ := ha w hs
      have := j0 (w := w) hd' hf (hT _ _ hfi) hz (Kb esz ix o b) rfl
      simp only [V.enc, C.enc, Option.map_some, Kb] at this ⊢
      rw [this]
      simp only [Nat.add_assoc]
     ·exact hA.elim
    ·exact h.elim
   ·exact h.elim
  ·exact h.elim
inductive kR (cs : List C) (len esz : Nat) (ix : Int) (K : List C → Prop) : Prop where
 | mk (r : List C) (h0 : 0 ≤ ix) (h1 : ix < len) (hr : (cs.drop (ix.toNat * esz)).take esz = r) (hl : r.length = esz) (k : K r)
def kT (T : Ty) (t : Nat) (x ix : V) (k : V → Prop) : Prop :=
 match find T t with
 | none => False
 | some i =>
  match i.d, x, ix with
  | .str, .c (.s l), .c (.i _ n) => Xq (0 ≤ n ∧ n < l.length) (k (.c (.i .u8 ((l.getD n.toNat 0).toNat : Int))))
  | .arr len e, .agg cs, .c (.i _ j) =>
   match find T e with
   | some ei => kR cs len ei.size j fun r => LN ei.d r k
   | none => False
  | _, _, _ => False
theorem qV {P : Program} {T : Ty} (hT : Z4 P T) {t : Nat} {x ix : V} {k : V → Prop} (h : kT T t x ix k) : ∃ v, k v ∧ ∀ w, (Instr.index t x.enc ix.enc).run P w = .ok v.enc w := by
 unfold kT at h
 split at h
 ·exact h.elim
 ·rename_i i hi
  have hd' := (hT t i hi).2.2.2
  split at h
  ·rename_i l kd n hd
   rw [hd] at hd'
   refine ⟨_, h.k, fun w => ?_⟩
   obtain ⟨h0, h1⟩ := h.h
   have hlt : n.toNat < l.length := by omega
   simp only [V.enc, C.enc]
   rw [run_index_string w t _ kd n hd']
   have hb : 0 ≤ n ∧ n < ((⟨⟨l⟩⟩ : ByteArray).size : Int) := ⟨h0, by rw [Yc]; exact h1⟩
   rw [dif_pos hb]
   have e1 : (⟨⟨l⟩⟩ : ByteArray)[n.toNat]'(by rw [Yc]; exact hlt) = l[n.toNat] := rfl
   have e2 : l.getD n.toNat 0 = l[n.toNat] := by simp [List.getD_eq_getElem?_getD, List.getElem?_eq_getElem hlt]
   rw [e1, e2]
  ·rename_i len e cs kd j hd
   rw [hd] at hd'
   split at h
   ·rename_i ei hei
    obtain ⟨r, h0, h1, hr, hl, h⟩ := h
    obtain ⟨v, hk, hv, hdd⟩ := YF h
    refine ⟨v, hk, fun w => ?_⟩
    have hok := hT _ _ hei
    simp only [YW.ok] at hd'
    have hcond : 0 ≤ j ∧ j < (len : Int) := ⟨h0, h1⟩
    simp only [Instr.index, V.enc, C.enc, asIntOf, Sem.run_bind, Sem.run_pure, Result.andThen_ok, run_underlying hd', Sem.run_ite, Zc hok]
    rw [if_pos hcond, VW hok hdd cs (j.toNat * ei.size) ?_ w, hr, hv]
    cases ha : XM ei.d with
    | true => exact .inl rfl
    | false =>
     have := hok.2.2.1.resolve_left (by simp [ha])
     right
     rw [← hr] at hl
     simp at hl
     omega
   ·exact h.elim
  ·exact h.elim
def KK (T : Ty) (t : Nat) (x ix : V) (L : List Chunk) (D : List Fact) (k : V → Prop) : Prop :=
 match find T t with
 | none => False
 | some i =>
  match i.d, x, ix with
  | .sl e, .c (.sl a n _), .c (.i _ j) =>
   match find T e with
   | some ei => Qr L D a n j (k (.c (.e a ei.size j 0)))
   | none => False
  | .arr len e, .c (.p id ad o), .c (.i _ (.ofNat j)) =>
   match find T e, Nat.ble (j + 1) len with
   | some ei, true => k (.c (.p id ad (o + j * ei.size)))
   | _, _ => False
  | _, _, _ => False
theorem Vu {P : Program} {T : Ty} (hT : Z4 P T) {G : Js} {t : Nat} {x ix : V} {L : List Chunk} {D : List Fact} {k : V → Prop} (h : KK T t x ix L D k) :
  ∃ v, k v ∧ ∀ w, Qz G w L D → (Instr.indexAt t x.enc ix.enc).run P w = .ok v.enc w := by
 unfold KK at h
 split at h
 ·exact h.elim
 ·rename_i i hi
  have hd' := (hT t i hi).2.2.2
  split at h
  ·rename_i e a n c kd j hd
   rw [hd] at hd'
   simp only [YW.ok] at hd'
   split at h
   ·rename_i ei hei
    obtain ⟨ety, esz, cs, hr, h0, h1, hk⟩ := h
    refine ⟨_, hk, fun w hs => ?_⟩
    rcases (KQ hr hs).2 with ⟨hn, _⟩ | ⟨g, off0, cur, ty, lo, hi, ha, _⟩
    ·omega
    ·subst ha
     have hcond : 0 ≤ j ∧ j < (n : Int) := ⟨h0, h1⟩
     simp only [Instr.indexAt, V.enc, C.enc, asIntOf, Sem.run_bind, Sem.run_pure, Result.andThen_ok, run_underlying hd', Sem.run_ite, Zc (hT _ _ hei), if_pos hcond, XW, Option.map_some, Kb, Nat.add_zero]
   ·exact h.elim
  ·rename_i len e id ad o kd j hd
   rw [hd] at hd'
   simp only [YW.ok] at hd'
   split at h
   ·rename_i ei hei hle
    have hj : j < len := Nat.le_of_ble_eq_true hle
    refine ⟨_, h, fun w hs => ?_⟩
    have hcond : 0 ≤ Int.ofNat j ∧ Int.ofNat j < (len : Int) := ⟨Int.natCast_nonneg _, by simpa using hj⟩
    have e1 : (Int.ofNat j).toNat = j := rfl
    simp only [Instr.indexAt, V.enc, C.enc, asIntOf, Sem.run_bind, Sem.run_pure, Result.andThen_ok, run_underlying hd', Instr.sureAddr, Sem.run_ite, Zc (hT _ _ hei), if_pos hcond, XW, e1]
   ·exact h.elim
  ·exact h.elim
theorem z8 {P : Program} {T : Ty} (hT : Z4 P T) {G : Js} {w : World} {t : Nat} {x ix : V} {L : List Chunk} {D : List Fact} {k : V → Prop} (h : KK T t x ix L D k) (hs : Qz G w L D) :
  ∃ v, k v ∧ (Instr.indexAt t x.enc ix.enc).run P w = .ok v.enc w := by
 obtain ⟨v, hk, hv⟩ := Vu (G := G) hT h
 exact ⟨v, hk, hv w hs⟩
end Go.X
namespace Go.X
open Go
variable [Sm : Inhabited Jh]
def XA : Nat → List C → List C
 | 0, _ => []
 | n + 1, z => z ++ XA n z
theorem ZH (n : Nat) (z : List C) : (XA n z).length = n * z.length := by
 induction n with
 | zero => simp [XA]
 | succ n ih => simp [XA, ih, Nat.add_mul, Nat.add_comm]
theorem VY {n : Nat} {z : List C} (h : ZO z) : ZO (XA n z) := by
 induction n with
 | zero => intro x hx; cases hx
 | succ n ih =>
  intro x hx
  simp only [XA, List.mem_append] at hx
  rcases hx with hx | hx
  ·exact h x hx
  ·exact ih x hx
theorem GU (z : List C) (hz : z ≠ []) : ∀ (n j : Nat), j < n * z.length → (XA n z)[j]? = z[j % z.length]?
 | 0, j, h => by simp at h
 | n + 1, j, h => by
  have hpos : 0 < z.length := by cases z with | nil => exact absurd rfl hz | cons _ _ => simp
  simp only [XA]
  by_cases hj : j < z.length
  ·rw [List.getElem?_append_left hj, Nat.mod_eq_of_lt hj]
  ·have hj' : z.length ≤ j := by omega
   rw [List.getElem?_append_right hj', GU z hz n (j - z.length) (by rw [Nat.add_mul] at h; omega)]
   congr 1
   rw [Nat.mod_eq_sub_mod hj']
theorem Yq (z : List C) (n : Nat) (hz : z ≠ []) : (Array.range (n * z.length)).map ((z.map C.enc).toArray[· % (z.map C.enc).toArray.size]!) = ((XA n z).map C.enc).toArray := by
 have hpos : 0 < z.length := by cases z with | nil => exact absurd rfl hz | cons _ _ => simp
 apply Array.ext_getElem?
 intro j
 simp only [List.size_toArray, List.length_map, Array.getElem?_map, Array.getElem?_range, List.getElem?_toArray, List.getElem?_map]
 by_cases hj : j < n * z.length
 ·have hm : j % z.length < z.length := Nat.mod_lt _ hpos
  rw [GU z hz n j hj]
  simp [hj, hm]
 ·have : (XA n z)[j]? = none := List.getElem?_eq_none (by rw [ZH]; omega)
  simp [hj, this]
theorem qT (z : List C) (n : Nat) (hz : z ≠ []) : (Builtin.zeroCells (z.map C.enc).toArray n).toList = (XA n z).map C.enc := by
 have := Yq z n hz
 unfold Builtin.zeroCells
 rw [show (z.map C.enc).toArray.size = z.length by simp]
 rw [show (z.map C.enc).toArray.size = z.length by simp] at this
 rw [this]
theorem VV {G : Js} {w : World} {A B : List Chunk} {D : List Fact} {ety esz n c : Nat} {a : Option Addr} {cs : List C} (hs : Qz G w (A ++ .row ety esz a n c cs :: B) D) (o : Nat) (ns : List C) (h1 : ZO ns) (hle : o + ns.length ≤ n * esz) (hpos : 0 < ns.length) :
  ∃ g cur lo hi, a = some ⟨g, 0, none⟩ ∧ w.heap[g]? = some (.cells cur ety (lo, hi)) ∧ (cur.size ≤ lo ∨ hi ≤ lo) ∧ o + ns.length ≤ cur.size ∧
   Qz G (Zq w g (.cells (KP (0 + o) (ns.map C.enc) cur.toList).toArray ety (lo, hi))) (A ++ .row ety esz a n c (QP o ns cs) :: B) D := by
 have hs0 := hs
 obtain ⟨m, hh, _⟩ := hs
 have hrow := ZE hh.ok (ch := .row ety esz a n c cs) (by simp)
 rcases hrow.2 with ⟨_, hn, _⟩ | ⟨g, ha, cur, lo, hi, hg, hnc, hcm, hsz, hfz, hcl, htk⟩
 ·rw [hn, Nat.zero_mul] at hle; omega
 ·subst ha
  have hncm : n * esz ≤ c * esz := Nat.mul_le_mul_right _ hnc
  refine ⟨g, cur, lo, hi, rfl, hg, hfz.imp_left And.left, by omega, Jj hs0 (g := g) (by simp [Chunk.fp]) rfl ⟨KT h1 hrow.1, .inr ⟨g, rfl, ?_⟩⟩ (fun off => by rw [hg]; rfl)⟩
  refine ⟨_, lo, hi, Jb hg, hnc, hcm, ?_, ?_, ?_, ?_⟩
  ·simp only [List.size_toArray, KP, List.length_append, List.length_take, List.length_map, List.length_drop, Array.length_toList]; omega
  ·simp only [List.size_toArray, KP, List.length_append, List.length_take, List.length_map, List.length_drop, Array.length_toList]; omega
  ·rw [W6 (by omega)]; exact hcl
  ·rw [← xo, ← htk]
   simp only [KP, List.length_map, Nat.zero_add]
   have hcur : cur.toList.length = c * esz := by simpa using hsz
   generalize cur.toList = l at *
   rw [List.append_assoc, List.take_append, List.take_append, List.append_assoc]
   have e1 : List.take (n * esz) (List.take o l) = List.take o (List.take (n * esz) l) := by
    rw [List.take_take, List.take_take, Nat.min_comm]
   have e2 : List.take (n * esz - (List.take o l).length) (ns.map C.enc) = ns.map C.enc := by
    apply List.take_of_length_le; simp; omega
   rw [e1, e2, List.drop_take]
   congr 3
   simp; omega
theorem GM {G : Js} {w : World} {A B : List Chunk} {D : List Fact} {ety esz n c : Nat} {a : Option Addr} {cs : List C} (hs : Qz G w (A ++ .row ety esz a n c cs :: B) D) (lo k : Nat) (ns : List C) (h1 : ZO ns) (hl : ns.length = k * esz) (hlo : lo ≤ n) (hc : lo + k ≤ c) (hpos : 0 < ns.length) :
  ∃ g cur l hi, a = some ⟨g, 0, none⟩ ∧ w.heap[g]? = some (.cells cur ety (l, hi)) ∧ (cur.size ≤ l ∨ hi ≤ l) ∧ lo * esz + ns.length ≤ cur.size ∧
   Qz G (Zq w g (.cells (KP (0 + lo * esz) (ns.map C.enc) cur.toList).toArray ety (l, hi))) (A ++ .row ety esz a (max n (lo + k)) c (QP (lo * esz) ns cs) :: B) D := by
 have hm : lo * esz + k * esz = (lo + k) * esz := by rw [Nat.add_mul]
 by_cases hin : lo + k ≤ n
 ·rw [Nat.max_eq_left hin]
  exact VV hs _ ns h1 (by rw [hl, hm]; exact Nat.mul_le_mul_right _ hin) hpos
 ·rw [Nat.max_eq_right (by omega)]
  have hs0 := hs
  obtain ⟨m, hh, _⟩ := hs
  have hrow := ZE hh.ok (ch := .row ety esz a n c cs) (by simp)
  rcases hrow.2 with ⟨_, hn, hc0, _⟩ | ⟨g, ha, cur, l, hi, hg, hnc, hcm, hsz, hfz, hcl, htk⟩
  ·have h0 : k = 0 := by omega
   rw [hl, h0, Nat.zero_mul] at hpos; omega
  ·subst ha
   have h2 : (lo + k) * esz ≤ c * esz := Nat.mul_le_mul_right _ hc
   have h3 : lo * esz ≤ n * esz := Nat.mul_le_mul_right _ hlo
   have h4 : n * esz ≤ (lo + k) * esz := Nat.mul_le_mul_right _ (by omega)
   refine ⟨g, cur, l, hi, rfl, hg, hfz.imp_left And.left, by omega, Jj hs0 (g := g) (by simp [Chunk.fp]) rfl ⟨KT h1 hrow.1, .inr ⟨g, rfl, ?_⟩⟩ (fun off => by rw [hg]; rfl)⟩
   refine ⟨_, l, hi, Jb hg, hc, hcm, ?_, ?_, ?_, ?_⟩
   ·simp only [List.size_toArray, KP, List.length_append, List.length_take, List.length_map, List.length_drop, Array.length_toList]; omega
   ·simp only [List.size_toArray, KP, List.length_append, List.length_take, List.length_map, List.length_drop, Array.length_toList]; omega
   ·simp only [QP, List.length_append, List.length_take, List.length_drop]; omega
   ·have hcur : cur.toList.length = c * esz := by simpa using hsz
    have e1 : cs.drop (lo * esz + ns.length) = [] := List.drop_eq_nil_of_le (by omega)
    have e2 : (cs.take (lo * esz)).map C.enc = cur.toList.take (lo * esz) := by rw [List.map_take, ← htk, List.take_take, Nat.min_eq_left h3]
    simp only [KP, QP, Nat.zero_add, e1, List.append_nil, List.map_append, e2]
    generalize cur.toList = q at *
    rw [List.take_left' (by simp; omega)]
theorem Xt {P : Program} {w w' : World} {t xt ty e : TypeId} {i : Zy} (ht : P.underlying t = some (.slice e)) (hx : ∃ d, P.underlying xt = some d ∧ ∀ k, d ≠ .int k) (hok : i.ok P e)
  (base : Option Addr) (n c m : Nat) (y : Value) (news : Array Value) (hl : ∀ w, (Builtin.lenOf y).run P w = .ok m w) (hn : (Builtin.firstCells i.size m y).run P w = .ok news w) (hroom : n + m ≤ c)
  (hst : (match base with | some a => storeCells (a.add (n * i.size)) news.toList | none => pure ()).run P w = .ok () w') :
  (Builtin.append_ #[t, xt] ty #[.slice base n c, y]).run P w = .ok (.slice base (n + m) c) w' := by
 obtain ⟨d, hd, hd'⟩ := hx
 have hz : (d matches .int _) = false := by cases d <;> first | rfl | exact absurd rfl (hd' _)
 cases base with
 | none =>
  simp only [Sem.run_pure, Result.ok.injEq, true_and] at hst
  subst hst
  simp [Builtin.append_, run_underlying ht, run_underlying hd, Zc hok, hz, hl, hroom, hn]
 | some a =>
  simp only at hst
  simp [Builtin.append_, run_underlying ht, run_underlying hd, Zc hok, hz, hl, hroom, hn, hst]
theorem Km {P : Program} {w : World} {t xt ty e : TypeId} {i : Zy} (ht : P.underlying t = some (.slice e)) (hx : ∃ d, P.underlying xt = some d ∧ ∀ k, d ≠ .int k) (hok : i.ok P e) (hb0 : i.bytes ≠ 0)
  (base : Option Addr) (n c m : Nat) (y : Value) (olds news : Array Value) (hl : ∀ w, (Builtin.lenOf y).run P w = .ok m w) (hn : ∀ w', w'.heap = w.heap → (Builtin.firstCells i.size m y).run P w' = .ok news w')
  (ho : ∀ w', w'.heap = w.heap → (Builtin.firstCells i.size n (.slice base n c)).run P w' = .ok olds w') (hroom : ¬ n + m ≤ c) (hb : (n + m) * i.bytes ≤ 140737488355328) :
  (Builtin.append_ #[t, xt] ty #[.slice base n c, y]).run P w = .ok (.slice (some ⟨w.heap.size, 0, none⟩) (n + m) (grownCap w (n + m) c e))
   (w.drew.alloc (.cells (olds ++ news ++ Builtin.zeroCells i.zero.enc.cells (grownCap w (n + m) c e - (n + m))) e)) := by
 obtain ⟨d, hd, hd'⟩ := hx
 obtain ⟨x, hxi, hx1, hx2, hx3⟩ := X9 hok
 have hz : (d matches .int _) = false := by cases d <;> first | rfl | exact absurd rfl (hd' _)
 have hfit := growslice_fits (need := n + m) (old := c) (bytes := i.bytes) (by omega) hb
 have hfit' : ¬ Builtin.nextslicecap (n + m) c * i.bytes > 2 ^ 48 := by omega
 have hfit2 : ¬ (281474976710656 < Builtin.nextslicecap (n + m) c * i.bytes) := by omega
 have hn' := hn { w with drawn := w.drawn + 1 } rfl
 have ho' := ho { w with drawn := w.drawn + 1 } rfl
 simp only [Builtin.append_, Sem.run_bind, run_underlying ht, run_underlying hd, Zc hok, hz, hl, Result.andThen_ok, Sem.run_pure, List.getElem?_toArray, List.getElem?_cons_zero, List.getElem?_cons_succ, Sem.run_ite, hroom, if_false, Bool.false_eq_true,
  Sem.run_map, typeInfo, run_program, hxi, hx2, hb0, or_self, and_false, hfit', run_choose, Question.forced, run_askRoom, ho', hn', Bool.not_false, if_true, KC hok, newRow, run_newObj, hx1]
 rfl
theorem xz {P : Program} {w : World} {t xt ty e : TypeId} {i : Zy} {kn kq : IntKind} (ht : P.underlying t = some (.slice e)) (hx : P.underlying xt = some (.int kn)) (hok : i.ok P e) (hs0 : i.size ≠ 0) (hb0 : i.bytes ≠ 0)
  (base : Option Addr) (n c q : Nat) (olds : List Value) (ho : (Builtin.firstCells i.size n (.slice base n c)).run P w.drew = .ok olds.toArray w.drew) (hq : 0 < q) (hroom : ¬ n + q ≤ c) (hb : (n + q) * i.bytes ≤ 140737488355328) :
  (Builtin.append_ #[t, xt] ty #[.slice base n c, .int kq q]).run P w = .ok (.slice (some ⟨w.heap.size, 0, none⟩) (n + q) (grownCap w (n + q) c e))
   (w.drew.alloc (.cells (olds.toArray ++ Builtin.zeroCells i.zero.enc.cells q ++ Builtin.zeroCells i.zero.enc.cells (grownCap w (n + q) c e - (n + q))) e)) := by
 obtain ⟨x, hxi, hx1, hx2, hx3⟩ := X9 hok
 have hfit := growslice_fits (need := n + q) (old := c) (bytes := i.bytes) (by omega) hb
 have h1 : (n + q) * 1 ≤ (n + q) * i.bytes := Nat.mul_le_mul_left _ (by omega)
 have h2 : q * i.bytes ≤ (n + q) * i.bytes := Nat.mul_le_mul_right _ (by omega)
 exact Lib.run_append_grow_zeros w t xt ty e x _ kq kn ht hx hxi hx3 base n c olds (by rw [hx1]; exact ho) q hq (by omega) (by omega) (by omega) (by rw [hx2]; omega) (by rw [hx2]; omega)
inductive QJ (P : Program) (T : Ty) (L : List Chunk) (D : List Fact) (xt esz : Nat) : V → List C → Nat → Prop where
 | sl (ety : Nat) (e : Nat) (i : Zy) (a : Option Addr) (n c : Nat) (cs : List C) (ht : find T xt = some i) (hd : i.d = .sl e) (h : Qp L D ety esz a n cs) (hl : cs.length = n * esz) : QJ P T L D xt esz (.c (.sl a n c)) cs n
 | str (i : Zy) (l : List UInt8) (ht : find T xt = some i) (hd : i.d = .str) (h1 : esz = 1) : QJ P T L D xt esz (.c (.s l)) (l.map fun b => .i .u8 b.toNat) l.length
theorem Jm {P : Program} {G : Js} {w w' : World} {L : List Chunk} {D : List Fact} {ety esz : Nat} {a : Option Addr} {n c : Nat} {cs : List C} (h : Qp L D ety esz a n cs) (hs : Qz G w L D) (hh : w'.heap = w.heap) :
  (Builtin.firstCells esz n (.slice a n c)).run P w' = .ok (cs.map C.enc).toArray w' := by
 rcases (KQ h hs).2 with ⟨hn, hc⟩ | ⟨g, off, cur, ty, lo, hi, ha, hg, hl, hc⟩
 ·subst hn; subst hc
  cases a <;> simp [Builtin.firstCells, loadCells, loadCellsFrom]
 ·subst ha
  simp only [Builtin.firstCells]
  rw [← hl]
  have := J4 (P := P) (w := w') (g := g) (cur := cur) (t := ty) (fr := (lo, hi)) (by rw [hh]; exact hg) off (cs.map C.enc) (by rw [List.length_map, hl]; exact hc)
  simpa using this
theorem wD {P : Program} {T : Ty} (hT : Z4 P T) {G : Js} {w : World} {L : List Chunk} {D : List Fact} {xt esz : Nat} {y : V} {cs : List C} {m : Nat} (h : QJ P T L D xt esz y cs m) (hs : Qz G w L D) :
  ZO cs ∧ cs.length = m * esz ∧ (∃ d, P.underlying xt = some d ∧ ∀ k, d ≠ .int k) ∧ (∀ w', (Builtin.lenOf y.enc).run P w' = .ok m w') ∧ ∀ w', w'.heap = w.heap → (Builtin.firstCells esz m y.enc).run P w' = .ok (cs.map C.enc).toArray w' := by
 cases h with
 | sl ety e i a n c cs ht hd hr hl =>
  have hd' := (hT _ _ ht).2.2.2
  rw [hd] at hd'
  exact ⟨(KQ hr hs).1, hl, ⟨_, hd', by simp⟩, fun _ => rfl, fun w' hw => Jm hr hs hw⟩
 | str i l ht hd h1 =>
  have hd' := (hT _ _ ht).2.2.2
  rw [hd] at hd'
  subst h1
  refine ⟨?_, by simp, ⟨_, hd', by simp⟩, fun _ => rfl, fun w' _ => ?_⟩
  ·intro x hx
   obtain ⟨b, _, rfl⟩ := List.mem_map.1 hx
   rfl
  ·simp only [Builtin.firstCells, V.enc, C.enc, Sem.run_pure]
   congr 1
   have : (⟨⟨l⟩⟩ : ByteArray).extract 0 l.length = ⟨⟨l⟩⟩ := by
    apply ByteArray.ext
    rw [ByteArray.data_extract]
    simp
   rw [this]
   simp [Function.comp_def, C.enc]
def SQ : Option Zy → Bool
 | some i => match i.d with | .int _ => true | _ => false
 | none => false
theorem SO {P : Program} {T : Ty} (hT : Z4 P T) {e : Nat} (h : SQ (find T e) = true) : ∃ k, P.underlying e = some (.int k) := by
 unfold SQ at h
 split at h
 ·rename_i i hi
  have h1 := (hT _ _ hi).2.2.2
  split at h
  ·rename_i k hd
   rw [hd] at h1
   exact ⟨k, h1⟩
  ·cases h
 ·cases h
inductive QK (P : Program) (T : Ty) (L : List Chunk) (D : List Fact) (e : Nat) (i : Zy) (z : List C) (xt : Nat) (a : Option Addr) (n c : Nat) (y : V) (K : Option Addr → Nat → Nat → List Chunk → Prop) : Prop where
 | row (A B : List Chunk) (cs cs2 : List C) (m : Nat) (h : L = A ++ .row e i.size a n c cs :: B) (hs : QJ P T L D xt i.size y cs2 m) (hb : (n + m) * i.bytes ≤ 140737488355328) (k : ∀ a' c', K a' (n + m) c' (A ++ .row e i.size a' (n + m) c' (cs ++ cs2) :: B))
 | nil (cs2 : List C) (m : Nat) (ha : a = none) (hn : n = 0) (hc : c = 0) (hs : QJ P T L D xt i.size y cs2 m) (hb : m * i.bytes ≤ 140737488355328) (k : ∀ a' c', K a' m c' (.row e i.size a' m c' cs2 :: L))
 | pre (A B : List Chunk) (N : Nat) (b : Option Addr) (cs cs2 cs' : List C) (m : Nat) (h : L = A ++ .row e i.size b N c cs :: B) (ha : a = b) (hs : QJ P T L D xt i.size y cs2 m) (hn : n + m ≤ N) (he : QP (n * i.size) cs2 cs = cs') (k : K b (n + m) c (A ++ .row e i.size b N c cs' :: B))
 | zero (cs : List C) (kq : IntKind) (q : Nat) (hy : y = .c (.i kq q)) (hx : SQ (find T xt) = true) (hq : 0 < q) (hroom : ¬ n + q ≤ c) (hb : (n + q) * i.bytes ≤ 140737488355328) (hr : Qp L D e i.size a n cs) (hl : cs.length = n * i.size) (k : ∀ a' c', K a' (n + q) c' (.row e i.size a' (n + q) c' (cs ++ XA q z) :: L))
def wy (P : Program) (T : Ty) (t xt : Nat) (x y : V) (L : List Chunk) (D : List Fact) (nid : Nat) (k : KV) : Prop :=
 match find T t, x with
 | some ti, .c (.sl a n c) =>
  match ti.d with
  | .sl e =>
   match find T e with
   | some i => SA i.size (SA i.bytes (Yz i.zero fun z => kO z (U0 z.length i.size (QK P T L D e i z xt a n c y fun a' n' c' L' => k (.c (.sl a' n' c')) L' D nid))))
   | none => False
  | _ => False
 | _, _ => False
theorem wj (z : Array Value) (n : Nat) : (Builtin.zeroCells z n).size = n * z.size := size_zeroCells z n
theorem P5 (w : World) : kQ w w.drew := ⟨rfl, rfl, Nat.le_refl _, fun _ => rfl, fun _ => Nat.le_add_right _ _⟩
theorem JO {G : Js} {w : World} {L : List Chunk} {D : List Fact} (h : Qz G w L D) : Qz G w.drew L D := by
 obtain ⟨m, h1, h2⟩ := h
 exact ⟨m, ⟨h1.nd, Zk h1.ok fun _ _ => rfl, fun b o hb => h1.im b o hb, h1.d⟩, ⟨h2.size, fun b hb hn => h2.same b hb hn, h2.own, h2.im, h2.new, h2.kept.trans (P5 w)⟩⟩
theorem vJ {G : Js} {w : World} {A B : List Chunk} {ch ch' : Chunk} {D : List Fact} {o : Obj} (h : Qz G w (A ++ ch :: B) D) (hf : ch'.fp = [w.heap.size]) (hok : ch'.ok (w.alloc o)) :
  Qz G (w.alloc o) (A ++ ch' :: B) D := by
 obtain ⟨m, h1, h2⟩ := h
 have hlt := JG h1.ok
 have hold : ∀ b, b < w.heap.size → (w.alloc o).heap[b]? = w.heap[b]? := fun b hb => heap_alloc_old w o hb
 have hnd := h1.nd
 simp only [Ze, Xy] at hnd hlt
 have hok1 := (XP _ _).1 h1.ok
 have hndA := (List.nodup_append.1 hnd).1
 have hndB := (List.nodup_append.1 (List.nodup_append.1 hnd).2.1).2.1
 have hAB : ∀ a ∈ Xy A, ∀ b ∈ Xy B, a ≠ b := fun a ha b hb => (List.nodup_append.1 hnd).2.2 a ha b (by simp [hb])
 refine ⟨m, ⟨?_, (XP _ _).2 ⟨Zk hok1.1 fun b hb => hold b (hlt b (by simp [hb])), hok, Zk hok1.2.2 fun b hb => hold b (hlt b (by simp [hb]))⟩, ?_, h1.d⟩, ?_⟩
 ·simp only [Ze, Xy, hf]
  refine List.nodup_append.2 ⟨hndA, ?_, ?_⟩
  ·simp only [List.cons_append, List.nil_append, List.nodup_cons]
   exact ⟨fun hc => Nat.lt_irrefl _ (hlt _ (by simp [hc])), hndB⟩
  ·intro a ha b hb
   simp only [List.cons_append, List.nil_append, List.mem_cons] at hb
   rcases hb with rfl | hb
   ·exact Nat.ne_of_lt (hlt a (by simp [ha]))
   ·exact hAB a ha b hb
 ·intro b ob hb
  have h3 := h1.im b ob hb
  have hlt' : b < w.heap.size := (Array.getElem?_eq_some_iff.1 h3.1).1
  refine ⟨by rw [hold b hlt']; exact h3.1, ?_⟩
  simp only [Ze, Xy, hf, List.mem_append, List.mem_cons, not_or] at h3 ⊢
  exact ⟨h3.2.1, ⟨Nat.ne_of_lt hlt', by simp⟩, h3.2.2.2⟩
 ·refine h2.trans ⟨by simp, fun b hb _ => hold b hb, fun b hb => ?_, fun _ _ h => h, fun _ _ h => .inl h, yj⟩
  simp only [Ze, Xy, hf, List.mem_append, List.mem_cons] at hb ⊢
  rcases hb with hb | (rfl | hb) | hb
  ·exact .inl (.inl hb)
  ·exact .inr (Nat.le_refl _)
  ·simp at hb
  ·exact .inl (.inr (.inr hb))
theorem W7 {w : World} {e sz bytes n m c : Nat} {z : Array Value} {cs cs2 : List C} (hz : z.size = sz) (hcs : cs.length = n * sz) (hcs2 : cs2.length = m * sz) (hn : n + m ≤ 9223372036854775807) :
  H6 (some (Obj.cells ((cs.map C.enc).toArray ++ (cs2.map C.enc).toArray ++ Builtin.zeroCells z (grownCap w (n + m) c e - (n + m))) e)) e sz (n + m) (grownCap w (n + m) c e) (cs ++ cs2) := by
 have h1 := grownCap_ge w (n + m) c e
 have h2 := grownCap_le_maxLen w (n + m) c e (by simpa [maxLen] using hn)
 refine ⟨_, 0, 0, rfl, h1, h2, ?_, .inr (Nat.le_refl _), ?_, ?_⟩
 ·simp only [Array.size_append, List.size_toArray, List.length_map, hcs, hcs2, wj, hz, ← Nat.add_mul]
  congr 1
  omega
 ·simp [hcs, hcs2, Nat.add_mul]
 ·simp only [Array.toList_append]
  rw [← List.map_append]
  apply List.take_left'
  simp [hcs, hcs2, Nat.add_mul]
theorem wx {P : Program} {T : Ty} (hT : Z4 P T) {G : Js} {w : World} {t xt ty : Nat} {x y : V} {L : List Chunk} {D : List Fact} {nid : Nat} {k : KV} (h : wy P T t xt x y L D nid k) (hs : Qz G w L D) :
  ∃ v L' w', k v L' D nid ∧ (Builtin.append_ #[t, xt] ty #[x.enc, y.enc]).run P w = .ok v.enc w' ∧ Qz G w' L' D := by
 unfold wy at h
 split at h
 ·rename_i ti a n c hti
  split at h
  ·rename_i e hd
   have hd' := (hT _ _ hti).2.2.2
   rw [hd] at hd'
   simp only [YW.ok] at hd'
   split at h
   ·rename_i i hi
    have hok := hT _ _ hi
    obtain ⟨hsz, hA⟩ := JT h
    clear h
    obtain ⟨hbz, hB⟩ := JT hA
    clear hA
    obtain ⟨z, hA, hzv⟩ := XO hB
    clear hB
    obtain ⟨hz1, hB⟩ := XL hA
    clear hA
    obtain ⟨hzl, h⟩ := Ks hB
    clear hB
    have hzs : i.zero.enc.cells.size = i.size := by rw [hzv hz1]; simp [hzl]
    have hle : ∀ q, q * i.bytes ≤ 140737488355328 → q ≤ 9223372036854775807 := fun q hq => by
     have : q * 1 ≤ q * i.bytes := Nat.mul_le_mul_left _ (by omega)
     omega
    cases h with
    | row A B cs cs2 m hL hsrc hb hk =>
     obtain ⟨hone2, hl2, hx, hlen, hfc⟩ := wD hT hsrc hs
     subst hL
     have hs0 := hs
     obtain ⟨mm, hh, _⟩ := hs
     have hrow := ZE hh.ok (ch := .row e i.size a n c cs) (by simp)
     have hone : ZO (cs ++ cs2) := by
      intro q hq
      rcases List.mem_append.1 hq with hq | hq
      ·exact hrow.1 q hq
      ·exact hone2 q hq
     rcases hrow.2 with ⟨ha, hn0, hc0, hcs0⟩ | ⟨g, ha, cur, lo, hi', hg, hnc, hcm, hszc, hfz, hcl, htk⟩
     ·subst ha; subst hn0; subst hc0; subst hcs0
      by_cases hm0 : m = 0
      ·subst hm0
       have hcs2 : cs2 = [] := List.eq_nil_of_length_eq_zero (by simpa using hl2)
       subst hcs2
       refine ⟨_, _, w, hk none 0, ?_, ?_⟩
       ·exact Xt hd' hx hok none 0 0 0 y.enc _ hlen (hfc w rfl) (by simp) rfl
       ·simpa using hs0
      ·refine ⟨_, _, (w.drew.alloc (.cells (#[] ++ (cs2.map C.enc).toArray ++ Builtin.zeroCells i.zero.enc.cells (grownCap w (0 + m) 0 e - (0 + m))) e)), hk (some ⟨w.heap.size, 0, none⟩) (grownCap w (0 + m) 0 e), ?_, ?_⟩
       ·exact Km hd' hx hok hbz none 0 0 m y.enc #[] _ hlen hfc (fun w' _ => by simp [Builtin.firstCells]) (by omega) hb
       ·have := W7 (w := w) (e := e) (bytes := i.bytes) (c := 0) (n := 0) (cs := []) hzs (by simp) hl2 (hle _ hb)
        simp only [List.map_nil, List.nil_append] at this ⊢
        exact vJ (w := w.drew) (JO hs0) rfl ⟨hone2, .inr ⟨w.heap.size, rfl, by rw [show w.heap.size = w.drew.heap.size from rfl, heap_alloc_new w.drew]; exact this⟩⟩
     ·subst ha
      by_cases hroom : n + m ≤ c
      ·refine ⟨_, _, Zq w g (.cells (KP (0 + n * i.size + 0) (cs2.map C.enc) cur.toList).toArray e (lo, hi')), hk (some ⟨g, 0, none⟩) c, ?_, ?_⟩
       ·refine Xt hd' hx hok _ n c m y.enc _ hlen (hfc w rfl) hroom ?_
        simp only [XW]
        have hfit : n * i.size + m * i.size ≤ c * i.size := by rw [← Nat.add_mul]; exact Nat.mul_le_mul_right _ hroom
        exact ZC (cs2.map C.enc) _ 0 cur w hg (hfz.imp_left And.left) (by simp [hl2]; omega) (by
         intro v hv
         obtain ⟨q, hq, rfl⟩ := List.mem_map.1 hv
         exact C.enc_oneCell q (hone2 q hq))
       ·have hfit : n * i.size + m * i.size ≤ c * i.size := by rw [← Nat.add_mul]; exact Nat.mul_le_mul_right _ hroom
        refine Jj hs0 (g := g) (by simp [Chunk.fp]) rfl ⟨hone, .inr ⟨g, rfl, ?_⟩⟩ (fun off => by rw [hg]; rfl)
        refine ⟨_, lo, hi', Jb hg, hroom, hcm, ?_, ?_, ?_, ?_⟩
        ·simp only [List.size_toArray, KP, List.length_append, List.length_take, List.length_map, List.length_drop, Array.length_toList]; omega
        ·simp only [List.size_toArray, KP, List.length_append, List.length_take, List.length_map, List.length_drop, Array.length_toList]; omega
        ·simp [hcl, hl2, Nat.add_mul]
        ·simp only [Nat.zero_add, Nat.add_zero, KP, htk, List.map_append]
         apply List.take_left'
         simp [hcl, hl2, Nat.add_mul]
      ·refine ⟨_, _, (w.drew.alloc (.cells ((cs.map C.enc).toArray ++ (cs2.map C.enc).toArray ++ Builtin.zeroCells i.zero.enc.cells (grownCap w (n + m) c e - (n + m))) e)), hk (some ⟨w.heap.size, 0, none⟩) (grownCap w (n + m) c e), ?_, ?_⟩
       ·refine Km hd' hx hok hbz _ n c m y.enc (cs.map C.enc).toArray _ hlen hfc (fun w' hw => ?_) hroom hb
        have hr : Qp (A ++ .row e i.size (some ⟨g, 0, none⟩) n c cs :: B) D e i.size (some ⟨g, 0, none⟩) n cs := .inl ⟨c, by simp⟩
        exact Jm hr hs0 hw
       ·have := W7 (w := w) (e := e) (bytes := i.bytes) (c := c) (n := n) (cs := cs) hzs hcl hl2 (hle _ hb)
        exact vJ (w := w.drew) (JO hs0) rfl ⟨hone, .inr ⟨w.heap.size, rfl, by rw [show w.heap.size = w.drew.heap.size from rfl, heap_alloc_new w.drew]; exact this⟩⟩
    | nil cs2 m ha hn hc hsrc hb hk =>
     obtain ⟨hone2, hl2, hx, hlen, hfc⟩ := wD hT hsrc hs
     subst ha; subst hn; subst hc
     by_cases hm0 : m = 0
     ·subst hm0
      have hcs2 : cs2 = [] := List.eq_nil_of_length_eq_zero (by simpa using hl2)
      subst hcs2
      refine ⟨_, _, w, hk none 0, ?_, ?_⟩
      ·exact Xt hd' hx hok none 0 0 0 y.enc _ hlen (hfc w rfl) (by simp) rfl
      ·obtain ⟨mm, h1, h2⟩ := hs
       exact ⟨mm, ⟨by simpa [Xy, Chunk.fp] using h1.nd, ⟨⟨hone2, .inl ⟨rfl, rfl, rfl, rfl⟩⟩, h1.ok⟩, fun b o hb => by simpa [Xy, Chunk.fp] using h1.im b o hb, h1.d⟩,
        ⟨h2.size, h2.same, fun b hb => h2.own b (by simpa [Xy, Chunk.fp] using hb), h2.im, h2.new, h2.kept⟩⟩
     ·have hb' : (0 + m) * i.bytes ≤ 140737488355328 := by simpa using hb
      refine ⟨_, _, (w.drew.alloc (.cells (#[] ++ (cs2.map C.enc).toArray ++ Builtin.zeroCells i.zero.enc.cells (grownCap w (0 + m) 0 e - (0 + m))) e)), hk (some ⟨w.heap.size, 0, none⟩) (grownCap w (0 + m) 0 e), ?_, ?_⟩
      ·have := Km (w := w) (ty := ty) hd' hx hok hbz none 0 0 m y.enc #[] _ hlen hfc (fun w' _ => by simp [Builtin.firstCells]) (by omega) hb'
       simp only [Nat.zero_add] at this ⊢
       exact this
      ·have := W7 (w := w) (e := e) (bytes := i.bytes) (c := 0) (n := 0) (cs := []) hzs (by simp) hl2 (hle _ hb')
       simp only [List.map_nil, List.nil_append, Nat.zero_add] at this ⊢
       refine XG (JO hs) _ _ rfl ⟨hone2, .inr ⟨w.heap.size, rfl, ?_⟩⟩
       rw [show w.heap.size = w.drew.heap.size from rfl, heap_alloc_new w.drew]
       simpa using this
    | pre A B N b cs cs2 cs' m hL ha hsrc hn he hk =>
     obtain ⟨hone2, hl2, hx, hlen, hfc⟩ := wD hT hsrc hs
     subst hL; subst he; subst ha
     have hs0 := hs
     obtain ⟨mm, hh, _⟩ := hs
     have hrow := ZE hh.ok (ch := .row e i.size a N c cs) (by simp)
     have hNc : N ≤ c := by
      rcases hrow.2 with ⟨_, h1, h2, _⟩ | ⟨g, _, cur, lo, hi', _, h1, _⟩
      ·omega
      ·exact h1
     by_cases hm0 : m = 0
     ·subst hm0
      have hcs2 : cs2 = [] := List.eq_nil_of_length_eq_zero (by simpa using hl2)
      subst hcs2
      refine ⟨_, _, w, hk, ?_, by simpa [QP] using hs0⟩
      exact Xt hd' hx hok a n c 0 y.enc _ hlen (hfc w rfl) (by omega) (by cases a <;> simp [storeCells])
     ·have hpos : 0 < cs2.length := by rw [hl2]; exact Nat.mul_pos (by omega) (by omega)
      obtain ⟨g, cur, l, h', ha, hg, hfz, hle, hs'⟩ := VV hs0 (n * i.size) cs2 hone2 (by rw [hl2, ← Nat.add_mul]; exact Nat.mul_le_mul_right _ hn) hpos
      subst ha
      refine ⟨_, _, _, hk, ?_, hs'⟩
      refine Xt hd' hx hok _ n c m y.enc _ hlen (hfc w rfl) (by omega) ?_
      simp only [XW]
      have := ZC (P := P) (cs2.map C.enc) (0 + n * i.size) 0 cur w hg hfz (by simp; omega) (by
       intro v hv
       obtain ⟨q, hq, rfl⟩ := List.mem_map.1 hv
       exact C.enc_oneCell q (hone2 q hq))
      simpa using this
    | zero cs kq q hy hx hq hroom hb hr hl hk =>
     subst hy
     obtain ⟨kn, hx⟩ := SO hT hx
     have hone := (KQ hr hs).1
     have hzne : z ≠ [] := by intro hc; subst hc; simp at hzl; exact hsz hzl.symm
     have hzr : Builtin.zeroCells i.zero.enc.cells q = ((XA q z).map C.enc).toArray := by
      rw [hzv hz1, ← qT z q hzne, Array.toArray_toList]
     have hrl : (XA q z).length = q * i.size := by rw [ZH, hzl]
     refine ⟨_, _, (w.drew.alloc (.cells ((cs.map C.enc).toArray ++ Builtin.zeroCells i.zero.enc.cells q ++ Builtin.zeroCells i.zero.enc.cells (grownCap w (n + q) c e - (n + q))) e)), hk (some ⟨w.heap.size, 0, none⟩) (grownCap w (n + q) c e), ?_, ?_⟩
     ·exact xz hd' hx hok hsz hbz a n c q (cs.map C.enc) (Jm hr hs rfl) hq hroom hb
     ·have := W7 (w := w) (e := e) (bytes := i.bytes) (c := c) (n := n) (cs := cs) hzs hl hrl (hle _ hb)
      rw [hzr]
      refine XG (JO hs) _ _ rfl ⟨?_, .inr ⟨w.heap.size, rfl, ?_⟩⟩
      ·intro x hx'
       rcases List.mem_append.1 hx' with h' | h'
       ·exact hone x h'
       ·exact VY hz1 x h'
      ·rw [show w.heap.size = w.drew.heap.size from rfl, heap_alloc_new w.drew]
       exact this
   ·exact h.elim
  ·exact h.elim
 ·exact h.elim
def YZ (T : Ty) (t len : Nat) (l : List (Nat × V)) (L : List Chunk) (D : List Fact) (nid : Nat) (k : KV) : Prop :=
 match find T t with
 | none => False
 | some ti =>
  match ti.d with
  | .sl e =>
   match find T e with
   | some i => match len, l with
    | 0, [] => Qd fun ad => k (.c (.sl (some ⟨ad, 0, none⟩) 0 0)) (.row e i.size (some ⟨ad, 0, none⟩) 0 0 [] :: L) D nid
    | _, _ => SA i.size (SA len (Yz i.zero fun z => kO z (U0 z.length i.size (Xq (len * i.size ≤ 16777216) (Uh (fun j => some (j * i.size, i.size)) l (XA len z) fun cs =>
     Qd fun ad => k (.c (.sl (some ⟨ad, 0, none⟩) len len)) (.row e i.size (some ⟨ad, 0, none⟩) len len cs :: L) D nid)))))
   | none => False
  | _ => False
theorem zu {P : Program} {T : Ty} (hT : Z4 P T) {G : Js} {w : World} {t len : Nat} {l : List (Nat × V)} {L : List Chunk} {D : List Fact} {nid : Nat} {k : KV} (h : YZ T t len l L D nid k) (hs : Qz G w L D) :
  ∃ v L' w', k v L' D nid ∧ (Instr.buildSlice t len (l.map fun (i, v) => (i, v.enc)).toArray).run P w = .ok v.enc w' ∧ Qz G w' L' D := by
 unfold YZ at h
 split at h
 ·exact h.elim
 ·rename_i ti hti
  split at h
  ·rename_i e hd
   have hd' := (hT _ _ hti).2.2.2
   rw [hd] at hd'
   simp only [YW.ok] at hd'
   split at h
   ·rename_i i hi
    have hok := hT _ _ hi
    split at h
    ·obtain ⟨x, hx, hx1, hx2, hx3⟩ := X9 hok
     refine ⟨_, _, w.alloc (.cells #[] e), h.k w.heap.size, ?_, XG hs _ _ rfl ⟨(fun y hy => (by cases hy)), .inr ⟨w.heap.size, rfl, ?_⟩⟩⟩
     ·simp [Instr.buildSlice, run_underlying hd', sizeOf, typeInfo, hx, Instr.fill, newRow, V.enc, C.enc]; rw [show Array.range 0 = #[] from rfl, Array.map_empty]
     ·rw [heap_alloc_new]
      exact ⟨_, 0, 0, rfl, Nat.le_refl _, Nat.zero_le _, by simp, .inr (Nat.le_refl _), by simp, by simp⟩
    ·obtain ⟨hsz, hA⟩ := JT h
     clear h
     obtain ⟨hlen0, hB⟩ := JT hA
     clear hA
     obtain ⟨z, hA, hzv⟩ := XO hB
     clear hB
     obtain ⟨hz1, hB⟩ := XL hA
     clear hA
     obtain ⟨hzl, hA⟩ := Ks hB
     clear hB
     have hsm := hA.h
     obtain ⟨cs, hk, hc1, hcl, hfill⟩ := Yh hA.k (VY hz1)
     obtain ⟨x, hx, hx1, hx2, hx3⟩ := X9 hok
     have hzne : z ≠ [] := by intro hc; subst hc; simp at hzl; exact hsz hzl.symm
     rw [ZH] at hcl
     refine ⟨_, _, w.alloc (.cells (cs.map C.enc).toArray e), hk.k w.heap.size, ?_, XG hs _ _ rfl ⟨hc1, .inr ⟨w.heap.size, rfl, ?_⟩⟩⟩
     ·refine run_buildSlice w t e len _ _ x i.zero.enc hd' hx hx3 (by rw [hx1]; omega) (by rw [hx1]; exact Nat.mul_ne_zero hlen0 hsz) ?_
      have := Yq z len hzne
      rw [hx1, hzv hz1]
      rw [← hzl] at hfill ⊢
      rw [this]
      simpa using hfill
     ·rw [heap_alloc_new]
      have hlen' : len * i.size = cs.length := by rw [hcl, hzl]
      have : len ≤ len * i.size := Nat.le_mul_of_pos_right _ (by omega)
      exact ⟨_, 0, 0, rfl, Nat.le_refl _, by simp only [maxLen]; omega, by simp [hlen'], .inr (Nat.le_refl _), hlen'.symm, by rw [hlen']; exact List.take_of_length_le (by simp)⟩
   ·exact h.elim
  ·exact h.elim
def VM (T : Ty) (t : Nat) (ln cp : V) (L : List Chunk) (D : List Fact) (nid : Nat) (k : KV) : Prop :=
 match find T t, ln, cp with
 | some ti, .c (.i _ n), .c (.i _ c) =>
  match ti.d with
  | .sl e =>
   match find T e with
   | some i => SA i.size (Yz i.zero fun z => kO z (U0 z.length i.size (Xq (0 ≤ n ∧ n ≤ c ∧ (i.bytes : Int) * c ≤ 281474976710656 ∧ c ≤ 9223372036854775807) (
     Qd fun ad => k (.c (.sl (some ⟨ad, 0, none⟩) n.toNat c.toNat)) (.row e i.size (some ⟨ad, 0, none⟩) n.toNat c.toNat (XA n.toNat z) :: L) D nid))))
   | none => False
  | _ => False
 | _, _, _ => False
theorem vN (z : List C) : ∀ (n c : Nat), n ≤ c → (XA c z).take (n * z.length) = XA n z
 | 0, c, _ => by simp [XA]
 | n + 1, 0, h => by omega
 | n + 1, c + 1, h => by
  simp only [XA]
  rw [List.take_append]
  have e1 : (n + 1) * z.length - z.length = n * z.length := by rw [Nat.add_mul]; omega
  rw [e1, vN z n c (by omega), List.take_of_length_le (by rw [Nat.add_mul]; omega)]
theorem z6 {P : Program} {T : Ty} (hT : Z4 P T) {G : Js} {w : World} {t : Nat} {ln cp : V} {L : List Chunk} {D : List Fact} {nid : Nat} {k : KV} (h : VM T t ln cp L D nid k) (hs : Qz G w L D) :
  ∃ v L' w', k v L' D nid ∧ (Instr.makeSlice t ln.enc cp.enc).run P w = .ok v.enc w' ∧ Qz G w' L' D := by
 unfold VM at h
 split at h
 ·rename_i ti kl n kc c hti
  split at h
  ·rename_i e hd
   have hd' := (hT _ _ hti).2.2.2
   rw [hd] at hd'
   simp only [YW.ok] at hd'
   split at h
   ·rename_i i hi
    have hok := hT _ _ hi
    obtain ⟨hsz, hA⟩ := JT h
    clear h
    obtain ⟨z, hB, hzv⟩ := XO hA
    clear hA
    obtain ⟨hz1, hA⟩ := XL hB
    clear hB
    obtain ⟨hzl, hB⟩ := Ks hA
    clear hA
    obtain ⟨h0, hnc, hb, h63⟩ := hB.h
    obtain ⟨x, hx, hx1, hx2, hx3⟩ := X9 hok
    have hzne : z ≠ [] := by intro hc; subst hc; simp at hzl; exact hsz hzl.symm
    have hcells : madeCells i.zero.enc.cells (c.toNat * x.size) = ((XA c.toNat z).map C.enc).toArray := by
     have := Yq z c.toNat hzne
     rw [hx1, hzv hz1, ← hzl]
     simpa [madeCells] using this
    refine ⟨_, _, w.alloc (.cells ((XA c.toNat z).map C.enc).toArray e), hB.k.k w.heap.size, ?_, XG hs _ _ rfl ⟨VY hz1, .inr ⟨w.heap.size, rfl, ?_⟩⟩⟩
    ·have := run_make (P := P) w t e x i.zero.enc hd' hx hx3 kl kc n c h0 hnc (by rw [hx2]; exact hb) h63
     rw [hcells] at this
     exact this
    ·rw [heap_alloc_new]
     refine ⟨_, 0, 0, rfl, by omega, by simp only [maxLen]; omega, ?_, .inr (Nat.le_refl _), ?_, ?_⟩
     ·simp [ZH, hzl]
     ·rw [ZH, hzl]
     ·simp only [← List.map_take]
      rw [← hzl, vN z _ _ (by omega)]
   ·exact h.elim
  ·exact h.elim
 ·exact h.elim
def zr (l : List UInt8) (lo hi : Option V) (k : V → Prop) : Prop :=
 match lo, hi with
 | none, none => k (.c (.s l))
 | some (.c (.i _ a)), none => Xq (0 ≤ a ∧ a ≤ l.length) (k (.c (.s (l.drop a.toNat))))
 | none, some (.c (.i _ b)) => Xq (0 ≤ b ∧ b ≤ l.length) (k (.c (.s (l.take b.toNat))))
 | some (.c (.i _ a)), some (.c (.i _ b)) => Xq (0 ≤ a ∧ a ≤ b ∧ b ≤ l.length) (k (.c (.s ((l.take b.toNat).drop a.toNat))))
 | _, _ => False
theorem Vf (l : List UInt8) (a b : Nat) : (⟨⟨l⟩⟩ : ByteArray).extract a b = ⟨⟨(l.take b).drop a⟩⟩ := by
 apply ByteArray.ext
 rw [ByteArray.data_extract]
 simp [List.drop_take]
theorem jm {P : Program} {t : TypeId} (ht : P.underlying t = some .string) {l : List UInt8} {lo hi : Option V} {k : V → Prop} (h : zr l lo hi k) :
  ∃ v, k v ∧ ∀ w, (Instr.slice t (V.c (.s l)).enc (lo.map V.enc) (hi.map V.enc) none).run P w = .ok v.enc w := by
 unfold zr at h
 split at h
 ·refine ⟨_, h, fun w => ?_⟩
  simp only [V.enc, C.enc, Option.map_none, Instr.slice, Instr.sliceBounds, Sem.run_bind, run_underlying ht, Result.andThen_ok, Option.isSome_none, Bool.false_eq_true, if_false, Sem.run_pure, Yc, Vf]
  simp
 ·rename_i kk a
  obtain ⟨h0, h1⟩ := h.h
  refine ⟨_, h.k, fun w => ?_⟩
  simp only [V.enc, C.enc, Option.map_some, Option.map_none, Instr.slice, Instr.sliceBounds, Instr.sliceBound, asIntOf, Sem.run_bind, run_underlying ht, Result.andThen_ok, Option.isSome_none, Bool.false_eq_true, if_false, Sem.run_pure, Sem.run_ite, Yc, Vf, h0, h1, and_self, if_true]
  simp
 ·rename_i kk b
  obtain ⟨h0, h1⟩ := h.h
  refine ⟨_, h.k, fun w => ?_⟩
  simp only [V.enc, C.enc, Option.map_some, Option.map_none, Instr.slice, Instr.sliceBounds, Instr.sliceBound, asIntOf, Sem.run_bind, run_underlying ht, Result.andThen_ok, Option.isSome_none, Bool.false_eq_true, if_false, Sem.run_pure, Sem.run_ite, Yc, Vf, h0, h1, and_self, if_true]
  simp
 ·rename_i kk a kk' b
  obtain ⟨h0, h1, h2⟩ := h.h
  have hb : 0 ≤ b := by omega
  have hab : a ≤ (b.toNat : Int) := by omega
  refine ⟨_, h.k, fun w => ?_⟩
  simp only [V.enc, C.enc, Option.map_some, Option.map_none, Instr.slice, Instr.sliceBounds, Instr.sliceBound, asIntOf, Sem.run_bind, run_underlying ht, Result.andThen_ok, Option.isSome_none, Bool.false_eq_true, if_false, Sem.run_pure, Sem.run_ite, Yc, Vf, h0, h2, hb, hab, and_self, if_true]
 ·exact h.elim
def byteC (b : UInt8) : C := .i .u8 b.toNat
structure NewB (n : Nat) (K : Nat → Nat → Prop) : Prop where
 k : ∀ ad c, K ad c
def vx (e : Nat) (l : List UInt8) (L : List Chunk) (D : List Fact) (nid : Nat) (k : KV) : Prop :=
 Xq (l.length ≤ 9223372036854775807) (NewB l.length fun ad c => k (.c (.sl (some ⟨ad, 0, none⟩) l.length c)) (.row e 1 (some ⟨ad, 0, none⟩) l.length c (l.map byteC) :: L) D nid)
inductive yR (L : List Chunk) (D : List Fact) (a : Option Addr) (n : Nat) (K : List UInt8 → Prop) : Prop where
 | mk (ety : Nat) (l : List UInt8) (h : Qp L D ety 1 a n (l.map byteC)) (k : K l)
theorem Ge (w : World) (c : Array Value) (e : TypeId) (h : 0 < 1) : (w.alloc (.cells c e)).freeze { block := w.heap.size, off := c.size } 1 = w.alloc (.cells c e (c.size, c.size + 1)) := by
 simp only [World.freeze, World.alloc, Nat.one_ne_zero, if_false]
 congr 1
 apply Array.ext_getElem?
 intro i
 simp only [Array.getElem?_modify, Array.getElem?_push]
 by_cases hi : w.heap.size = i
 ·subst hi; simp
 ·simp [hi, Ne.symm hi]
def WU (l : List UInt8) : Array Value := (⟨⟨l⟩⟩ : ByteArray).data.map fun b => .int .u8 b.toNat
theorem kC (l : List UInt8) : WU l = ((l.map byteC).map C.enc).toArray := by
 simp [WU, byteC, C.enc, Function.comp_def]
theorem xx (P : Program) (w : World) (e : TypeId) (l : List UInt8) :
  (Conv.stringToBytes e ⟨⟨l⟩⟩).run P w = .ok (.slice (some ⟨w.heap.size, 0, none⟩) l.length (grownCap w l.length 0 e))
   (w.drew.alloc (.cells (WU l ++ Array.replicate (grownCap w l.length 0 e - l.length) (Value.int .u8 0)) e
    ((WU l ++ Array.replicate (grownCap w l.length 0 e - l.length) (Value.int .u8 0)).size, (WU l ++ Array.replicate (grownCap w l.length 0 e - l.length) (Value.int .u8 0)).size + 1))) := by
 have hsh : ∀ (w : World) (c : Array Value) (e : TypeId), (w.alloc (.cells c e)).shape? w.heap.size = some (e, c.size) := fun w c e => by
  unfold World.shape?
  rw [heap_alloc_new]
 have key : ∀ (w : World) (c : Array Value), (markStringish ⟨w.heap.size, 0, none⟩).run P (w.alloc (.cells c e)) = .ok () (w.alloc (.cells c e (c.size, c.size + 1))) := fun w c => by
  simp only [markStringish, Sem.run_bind, run_shape, Result.andThen_ok, hsh, run_freeze]
  rw [Ge w c e (by omega)]
 have key' := key w.drew (WU l ++ Array.replicate (grownCap w l.length 0 e - l.length) (Value.int .u8 0))
 have e1 : (Conv.stringToBytes e ⟨⟨l⟩⟩).run P w =
   ((markStringish ⟨w.drew.heap.size, 0, none⟩).run P (w.drew.alloc (.cells (WU l ++ Array.replicate (grownCap w l.length 0 e - l.length) (Value.int .u8 0)) e))).andThen fun _ w' =>
    .ok (.slice (some ⟨w.heap.size, 0, none⟩) l.length (grownCap w l.length 0 e)) w' := by
  simp only [Conv.stringToBytes, Sem.run_bind, run_choose, Question.forced, Bool.false_eq_true, if_false, Result.andThen_ok, newRow, run_newObj, Sem.run_pure]
  rfl
 rw [e1, key']
 rfl
theorem kE {P : Program} {T : Ty} {G : Js} {w : World} {e : Nat} {l : List UInt8} {L : List Chunk} {D : List Fact} {nid : Nat} {k : KV} (h : vx e l L D nid k) (hs : Qz G w L D) :
  ∃ v L' w', k v L' D nid ∧ (Conv.stringToBytes e ⟨⟨l⟩⟩).run P w = .ok v.enc w' ∧ Qz G w' L' D := by
 have hlen := h.h
 have h1 := grownCap_ge w l.length 0 e
 have h2 := grownCap_le_maxLen w l.length 0 e (by simpa [maxLen] using hlen)
 refine ⟨_, _, _, h.k.k w.heap.size (grownCap w l.length 0 e), xx P w e l, ?_⟩
 refine XG (JO hs) _ _ rfl ⟨?_, .inr ⟨w.heap.size, rfl, ?_⟩⟩
 ·intro x hx
  obtain ⟨b, _, rfl⟩ := List.mem_map.1 hx
  rfl
 ·rw [show w.heap.size = w.drew.heap.size from rfl, heap_alloc_new w.drew]
  refine ⟨_, _, _, rfl, h1, h2, ?_, .inl ⟨Nat.le_refl _, rfl⟩, by simp, ?_⟩
  ·simp [kC]; omega
  ·simp only [Array.toList_append, Nat.mul_one, kC]
   exact List.take_left' (by simp)
theorem Ry {P : Program} {G : Js} {w : World} {L : List Chunk} {D : List Fact} {ety : Nat} {a : Option Addr} {n c : Nat} {l : List UInt8} (h : Qp L D ety 1 a n (l.map byteC)) (hs : Qz G w L D) :
  (Conv.bytesToString (.slice a n c)).run P w = .ok (.string ⟨⟨l⟩⟩) w := by
 have hof : ∀ b : UInt8, UInt8.ofNat ((b.toNat : Int)).toNat = b := fun b => by simp
 rcases (KQ h hs).2 with ⟨hn, hc⟩ | ⟨g, off, cur, ty, lo, hi, ha, hg, hl, hc⟩
 ·subst hn
  have hl : l = [] := by simpa using hc
  subst hl
  cases a with
  | none => rfl
  | some a =>
   have := run_bytesToString (P := P) w a 0 c [] (by simp [loadCells, loadCellsFrom])
   rw [this]
   rfl
 ·subst ha
  simp only [List.length_map, Nat.mul_one] at hl
  subst hl
  have hload : (loadCells ⟨g, off, none⟩ l.length).run P w = .ok ((l.map fun b => (b.toNat : Int)).map (Value.int .u8)).toArray w := by
   have := J4 (P := P) hg off ((l.map byteC).map C.enc) (by simpa using hc)
   simp only [List.length_map] at this
   rw [this]
   simp [byteC, C.enc, Function.comp_def]
  rw [run_bytesToString (P := P) w ⟨g, off, none⟩ l.length c _ hload, foldl_push_bytes]
  congr 2
  apply ByteArray.ext
  simp [Function.comp_def]
end Go.X
namespace Go.X
open Go
variable [Sm : Inhabited Jh]
def yM (env : XR) : List Operand → (List V → Prop) → Prop
 | [], k => k []
 | x :: r, k => QZ env x fun v => yM env r fun l => k (v :: l)
theorem JZ {N : Nat} {env : XR} {a : Act} (he : XF N env a) : ∀ {xs : List Operand} {k : List V → Prop}, yM env xs k → ∃ l, k l ∧ xs.map a.eval = l.map V.enc
 | [], k, h => ⟨[], h, rfl⟩
 | x :: r, k, h => by
  obtain ⟨v, hv, h⟩ := Ql h
  obtain ⟨l, hl, he'⟩ := JZ he h
  exact ⟨v :: l, hl, by simp only [List.map_cons, he.ev hv, he']⟩
def Qb (L : List Chunk) (D : List Fact) (L' : List Chunk) (D' : List Fact) : Prop := ∀ (G : Js) (w : World), Qz G w L D → Qz G w L' D'
inductive Qc (P : Program) (f : FuncId) (args : List V) (L : List Chunk) (D : List Fact) (K : V → List Chunk → List Fact → Prop) : Prop where
 | mkE (L0 R : List Chunk) (D0 D1 : List Fact) (post : V → List Chunk → List Fact → Prop) (h : FnS P f args L0 D0 post) (hE : Qb L D (L0 ++ R) D1) (hd : ∀ m, QI m D1 → QI m D0)
   (k : ∀ v L' D', post v L' D' → K v (L' ++ R) (D' ++ D1))
 | mkO (L0 R : List Chunk) (D0 D1 : List Fact) (post : V → List Chunk → List Fact → Prop) (h : FnS P f args L0 D0 post) (hE : Qb L D (L0 ++ R) D1) (hd : ∀ m, QI m D1 → QI m D0)
   (k : ∀ v L' D', post v L' D' → ∃ L2 D2, Qb (L' ++ R) (D' ++ D1) L2 D2 ∧ K v L2 D2)
 | ext (v : V) (h : ∀ G w, Qz G w L D → (callFunc f (args.map V.enc).toArray).run P w = .ok (.value v.enc) w) (k : K v L D)
theorem S4 {A B : List Chunk} (h : A.Perm B) : (Xy A).Perm (Xy B) := by
 induction h with
 | nil => exact .refl _
 | cons x _ ih => exact List.Perm.append_left _ ih
 | swap x y l => simp only [Xy, ← List.append_assoc]; exact List.Perm.append_right _ List.perm_append_comm
 | trans _ _ ih1 ih2 => exact ih1.trans ih2
theorem Ow {w : World} {A B : List Chunk} (h : A.Perm B) : WV w A → WV w B := by
 induction h with
 | nil => exact id
 | cons x _ ih => exact fun h => ⟨h.1, ih h.2⟩
 | swap x y l => exact fun h => ⟨h.2.1, h.1, h.2.2⟩
 | trans _ _ ih1 ih2 => exact fun h => ih2 (ih1 h)
theorem JN {G : Js} {w : World} {A B : List Chunk} {D : List Fact} (h : A.Perm B) (hs : Qz G w A D) : Qz G w B D := by
 obtain ⟨m, h1, h2⟩ := hs
 have hp := S4 h
 refine ⟨m, ⟨hp.nodup_iff.1 h1.nd, Ow h h1.ok, fun b o hb => ?_, h1.d⟩, ⟨h2.size, h2.same, fun b hb => h2.own b (hp.mem_iff.2 hb), h2.im, h2.new, h2.kept⟩⟩
 have h3 := h1.im b o hb
 exact ⟨h3.1, fun hc => h3.2 (hp.mem_iff.2 hc)⟩
theorem Qc.mk {P : Program} {f : FuncId} {args : List V} {L : List Chunk} {D : List Fact} {K : V → List Chunk → List Fact → Prop} (L0 R : List Chunk) (D0 : List Fact) (post : V → List Chunk → List Fact → Prop) (h : FnS P f args L0 D0 post)
  (hp : L.Perm (L0 ++ R)) (hd : ∀ m, QI m D → QI m D0) (k : ∀ v L' D', post v L' D' → K v (L' ++ R) (D' ++ D)) : Qc P f args L D K :=
 .mkE L0 R D0 D post h (fun _ _ hs => JN hp hs) hd k
theorem qy {P : Program} {G : Js} {w : World} {f : FuncId} {vs : List V} {L L0 R : List Chunk} {D D0 D1 : List Fact} {post K : V → List Chunk → List Fact → Prop} (hf : FnS P f vs L0 D0 post) (hE : Qb L D (L0 ++ R) D1) (hd : ∀ m, QI m D1 → QI m D0)
  (hk : ∀ v L' D', post v L' D' → ∃ L2 D2, Qb (L' ++ R) (D' ++ D1) L2 D2 ∧ K v L2 D2) (hs : Qz G w L D) :
  zZ P f ∧ Calls P f (vs.map V.enc).toArray w fun e w' => ∃ v L' D', e = .returned v.enc ∧ K v L' D' ∧ Qz G w' L' D' := by
 obtain ⟨m, h1, h2⟩ := hE G w hs
 refine ⟨hf.1, ?_⟩
 have h0 : Wa w m L0 D0 := by
  refine ⟨?_, ((XP _ _).1 h1.ok).1, fun b o hb => ?_, hd m h1.d⟩
  ·have := h1.nd
   rw [Ze] at this
   exact (List.nodup_append.1 this).1
  ·have h3 := h1.im b o hb
   exact ⟨h3.1, fun hc => h3.2 (by rw [Ze]; simp [hc])⟩
 refine (hf.2 w m h0).mono ?_
 rintro e w' ⟨v, L', D', m', he, hpost, hh, hfr⟩
 obtain ⟨h3, h4⟩ := h1.frame hh hfr
 obtain ⟨L2, D2, hE2, hK2⟩ := hk v L' D' hpost
 exact ⟨v, L2, D2, he, hK2, hE2 G w' ⟨m', h3, h2.trans h4⟩⟩
theorem HP {P : Program} {G : Js} {w : World} {f : FuncId} {vs : List V} {L L0 R : List Chunk} {D D0 D1 : List Fact} {post K : V → List Chunk → List Fact → Prop} (hf : FnS P f vs L0 D0 post) (hE : Qb L D (L0 ++ R) D1) (hd : ∀ m, QI m D1 → QI m D0)
  (hk : ∀ v L' D', post v L' D' → K v (L' ++ R) (D' ++ D1)) (hs : Qz G w L D) :
  zZ P f ∧ Calls P f (vs.map V.enc).toArray w fun e w' => ∃ v L' D', e = .returned v.enc ∧ K v L' D' ∧ Qz G w' L' D' :=
 qy hf hE hd (fun v L' D' hp => ⟨_, _, fun _ _ h => h, hk v L' D' hp⟩) hs
theorem kB {P : Program} {G : Js} {w : World} {f : FuncId} {vs : List V} {L : List Chunk} {D : List Fact} {K : V → List Chunk → List Fact → Prop} (h : Qc P f vs L D K) (hs : Qz G w L D) :
  (zZ P f ∧ Calls P f (vs.map V.enc).toArray w fun e w' => ∃ v L' D', e = .returned v.enc ∧ K v L' D' ∧ Qz G w' L' D') ∨ ∃ v, K v L D ∧ (callFunc f (vs.map V.enc).toArray).run P w = .ok (.value v.enc) w := by
 rcases h with ⟨L0, R, D0, D1, post, hf, hE, hd, hk⟩ | ⟨L0, R, D0, D1, post, hf, hE, hd, hk⟩ | ⟨v, he, hk⟩
 ·exact .inl (HP hf hE hd hk hs)
 ·exact .inl (qy hf hE hd hk hs)
 ·exact .inr ⟨v, hk, he G w hs⟩
theorem Y6 {P : Program} {w : World} {f : FuncId} (h : zZ P f) (args : Array Value) : (callFunc f args).run P w = .ok (.enter f args) w := by
 obtain ⟨fn, h1, h2, h3⟩ := h
 simp only [callFunc, Sem.run_bind, run_program, Result.andThen_ok, h1, h2, h3, Bool.false_eq_true, if_false, Sem.run_pure]
def qQ (n : Nat) : V := .c (.i .i64 n)
inductive Nx (a : Option Addr) (c : Nat) (K : V → Prop) : Prop where
 | nil (h : a = none) (k : K (.c (.raw (.pointer none))))
 | row (g o : Nat) (h : a = some ⟨g, o, none⟩) (hc : c ≠ 0) (k : K (.c (.e a 1 0 0)))
def ptrTo (e : Nat) : Option Zy → Bool
 | some i => match i.d with | .ptr x => Nat.beq x e | _ => false
 | none => false
inductive H5 (P : Program) (T : Ty) (pt : Nat) (p : V) (n : Int) (L : List Chunk) (K : List UInt8 → List Chunk → Prop) : Prop where
 | nil (hp : p = .c (.raw (.pointer none))) (hn : n = 0) (k : K [] L)
 | row (A : List Chunk) (ety g m c : Nat) (l : List UInt8) (hL : L.Perm (.row ety 1 (some ⟨g, 0, none⟩) m c (l.map fun b => C.i .u8 b.toNat) :: A)) (hp : p = .c (.e (some ⟨g, 0, none⟩) 1 0 0)) (hn : n = m) (hl : l ≠ [])
  (hpt : ptrTo ety (find T pt) = true) (hc : P.cellsOf ety = 1) (k : K l A)
theorem GE {P : Program} {T : Ty} (hT : Z4 P T) {G : Js} {w : World} {pt it ty : Nat} {p : V} {n : Int} {L : List Chunk} {D : List Fact} {K : List UInt8 → List Chunk → Prop} (h : H5 P T pt p n L K) (hs : Qz G w L D) :
  ∃ l L' w', K l L' ∧ (Builtin.unsafeString_ #[pt, it] ty #[p.enc, .int .i64 n]).run P w = .ok (.string ⟨⟨l⟩⟩) w' ∧ Qz G w' L' D := by
 cases h with
 | nil hp hn k =>
  subst hp hn
  exact ⟨[], L, w, k, Lib.run_unsafeString_none w pt it ty none, hs⟩
 | row A ety g m c l hL hp hn hl hpt hc k =>
  subst hp hn
  have hs := JN hL hs
  have hs' := hs
  obtain ⟨mm, hh, _⟩ := hs
  obtain ⟨hone, hr⟩ := hh.ok.1
  rcases hr with ⟨h0, _⟩ | ⟨g', hg', cur, lo, hi, ho, hnc, hcm, hsz, hfz, hlen, htk⟩
  ·cases h0
  ·cases hg'
   have hd' : P.underlying pt = some (.pointer ety) := by
    unfold ptrTo at hpt
    split at hpt
    ·rename_i i hi
     have h1 := (hT _ _ hi).2.2.2
     split at hpt
     ·rename_i x hd
      rw [hd] at h1
      rw [Nat.eq_of_beq_eq_true hpt] at h1
      exact h1
     ·cases hpt
    ·cases hpt
   have hlm : l.length = m := by simpa using hlen
   have hm : maxLen = 9223372036854775807 := rfl
   have hcell : ∀ (j : Nat) (x : UInt8), l[j]? = some x → w.cell? ((⟨g, 0, none⟩ : Addr).add j) = some (.int .u8 x.toNat) := by
    intro j x hx
    rw [XW, jc ho, Nat.zero_add]
    have h2 := congrArg (fun z => z[j]?) htk
    have hj := (List.getElem?_eq_some_iff.1 hx).1
    simp only [Nat.mul_one] at h2
    rw [List.getElem?_take_of_lt (by omega)] at h2
    simp only [List.getElem?_map, hx, Option.map_some] at h2
    simpa [C.enc] using h2
   refine ⟨l, A, Zq w g (.cells cur ety (if (lo == hi) = true then (0, 0 + l.length) else (min lo 0, max hi (0 + l.length)))), k, ?_, PI hs' (by simp [Chunk.fp])⟩
   have := Lib.run_unsafeString_row (P := P) w pt it ty ety hd' hc g cur.size (by simp [World.shape?, ho]) l hl (by omega) (by omega) hcell
   rw [← hlm]
   simp only [V.enc, C.enc, Kb, Option.map_some]
   simp only [Int.toNat_zero, Nat.zero_mul, Nat.add_zero]
   rw [this]
   have hl0 : l.length ≠ 0 := fun hc => hl (List.eq_nil_of_length_eq_zero hc)
   refine congrArg (Result.ok _) ?_
   simp only [World.freeze, if_neg hl0, Zq]
   congr 1
   apply Array.ext
   ·simp
   ·intro i h1 h2
    simp only [Array.getElem_modify, Array.getElem_setIfInBounds]
    by_cases hig : g = i
    ·subst hig
     have := (Array.getElem?_eq_some_iff.1 ho).2
     simp [this]
    ·rw [if_neg hig]; exact (Array.getElem_setIfInBounds_ne (by simpa using h1) hig).symm
inductive z1 (esz : Nat) (z : List C) (L : List Chunk) (a : Option Addr) (n : Nat) (K : List Chunk → Prop) : Prop where
 | zero (hn : n = 0) (k : K L)
 | mk (A B : List Chunk) (ety N c lo : Nat) (b : Option Addr) (cs : List C) (h : L = A ++ .row ety esz b N c cs :: B) (ha : a = b.map (·.add (lo * esz))) (hn : lo + n ≤ N) (k : K (A ++ .row ety esz b N c (QP (lo * esz) (XA n z) cs) :: B))
theorem Rt {P : Program} {T : Ty} (hT : Z4 P T) {G : Js} {w : World} {t e : Nat} {ti ei : Zy} (hti : find T t = some ti) (hd : ti.d = .sl e) (hei : find T e = some ei) {a : Option Addr} {n c : Nat} {L : List Chunk} {D : List Fact} {K : List Chunk → Prop} {ty : TypeId}
  (h : Yz ei.zero fun z => kO z (U0 z.length ei.size (SA ei.size (z1 ei.size z L a n K)))) (hs : Qz G w L D) :
  ∃ L' w', K L' ∧ (Builtin.clear_ #[t] ty #[.slice a n c]).run P w = .ok (.tuple #[]) w' ∧ Qz G w' L' D := by
 have hd' := (hT _ _ hti).2.2.2
 rw [hd] at hd'
 simp only [YW.ok] at hd'
 have hok := hT _ _ hei
 obtain ⟨z, hB, hzv⟩ := XO h
 obtain ⟨hz1, hA⟩ := XL hB
 obtain ⟨hzl, hC⟩ := Ks hA
 obtain ⟨hsz, hC⟩ := JT hC
 have hzne : z ≠ [] := by intro hc; subst hc; simp at hzl; exact hsz hzl.symm
 cases hC with
 | zero hn k =>
  subst hn
  refine ⟨L, w, k, ?_, hs⟩
  cases a <;> simp [Builtin.clear_, run_underlying hd']
 | mk A B ety N c' lo b cs hL ha hn k =>
  subst hL
  by_cases hn0 : n = 0
  ·subst hn0
   refine ⟨_, w, k, ?_, ?_⟩
   ·cases a <;> simp [Builtin.clear_, run_underlying hd']
   ·have : QP (lo * ei.size) (XA 0 z) cs = cs := by simp [XA, QP]
    rw [this]; exact hs
  ·have hle : lo * ei.size + (XA n z).length ≤ N * ei.size := by
    rw [ZH, hzl, ← Nat.add_mul]; exact Nat.mul_le_mul_right _ hn
   have hpos : 0 < (XA n z).length := by
    rw [ZH, hzl]
    exact Nat.mul_pos (by omega) (by omega)
   obtain ⟨g, cur, l, hi, hb, hg, hfz, hcur, hs'⟩ := VV hs (lo * ei.size) (XA n z) (VY hz1) hle hpos
   subst hb
   rw [Option.map_some, qP] at ha
   subst ha
   refine ⟨_, _, k, ?_, hs'⟩
   obtain ⟨n', rfl⟩ : ∃ n', n = n' + 1 := ⟨n - 1, by omega⟩
   have hst := ZC (P := P) ((XA (n' + 1) z).map C.enc) (lo * ei.size) 0 cur w hg hfz (by simpa using hcur) (by
    intro v hv
    obtain ⟨x, hx, rfl⟩ := List.mem_map.1 hv
    exact C.enc_oneCell x (VY hz1 x hx))
   simp [Builtin.clear_, run_underlying hd', KC hok, hzv hz1, qT z (n' + 1) hzne, hst]
def Z9 (a : Option Addr) (lo c esz : Nat) : Option Addr := if c = lo then a else a.map (·.add (lo * esz))
inductive Yl (L : List Chunk) (D : List Fact) (e esz : Nat) (a : Option Addr) (n : Nat) (y : V) (K : Nat → List Chunk → Prop) : Prop where
 | mk (A B : List Chunk) (ety N c lo k : Nat) (b : Option Addr) (cs cs2 cs' : List C) (a2 : Option Addr) (m c2 : Nat) (h : L = A ++ .row e esz b N c cs :: B) (hy : y = .c (.sl a2 m c2)) (hk : k = Nat.min m n) (hp : 0 < k) (ha : a = Z9 b lo c esz)
   (hr : Qp L D ety esz a2 k cs2) (hl : cs2.length = k * esz) (hlo : lo ≤ N) (hc : lo + k ≤ N ∨ lo + k ≤ c) (he : QP (lo * esz) cs2 cs = cs') (k : K k (A ++ .row e esz b (max N (lo + k)) c cs' :: B))
theorem Ei {P : Program} {T : Ty} (hT : Z4 P T) {G : Js} {w : World} {t st e : Nat} {ti ei : Zy} (hti : find T t = some ti) (hd : ti.d = .sl e) (hei : find T e = some ei) {a : Option Addr} {n c : Nat} {y : V} {L : List Chunk} {D : List Fact} {K : Nat → List Chunk → Prop} {ty : TypeId}
  (h : SA ei.size (Yl L D e ei.size a n y K)) (hs : Qz G w L D) :
  ∃ q L' w', K q L' ∧ (Builtin.copy_ #[t, st] ty #[.slice a n c, y.enc]).run P w = .ok (goInt q) w' ∧ Qz G w' L' D := by
 have hd' := (hT _ _ hti).2.2.2
 rw [hd] at hd'
 simp only [YW.ok] at hd'
 have hok := hT _ _ hei
 obtain ⟨hsz, hC⟩ := JT h
 obtain ⟨A, B, ety, N, c', lo, k, b, cs, cs2, cs', a2, m, c2, hL, hy, hk, hp, ha, hr, hl, hlo, hc, he, hK⟩ := hC
 have hone := (KQ hr hs).1
 have hfc := Jm (P := P) (c := c2) hr hs (w' := w) rfl
 subst hL; subst hy; subst he
 have hNc : N ≤ c' := by
  obtain ⟨mm, hh, _⟩ := id hs
  have hrow := ZE hh.ok (ch := .row e ei.size b N c' cs) (by simp)
  rcases hrow.2 with ⟨_, h1, h2, _⟩ | ⟨g, _, cur, lo, hi', _, h1, _⟩
  ·omega
  ·exact h1
 have hc : lo + k ≤ c' := by omega
 obtain ⟨g, cur, l, hi, hb, hg, hfz, hle, hs'⟩ := GM hs lo k cs2 hone hl hlo hc (by rw [hl]; exact Nat.mul_pos hp (by omega))
 subst hb
 rw [Z9, if_neg (by omega)] at ha
 rw [Option.map_some, qP] at ha
 subst ha
 refine ⟨_, _, _, hK, ?_, hs'⟩
 have hst := ZC (P := P) (cs2.map C.enc) (lo * ei.size) 0 cur w hg hfz (by simpa using hle) (by
  intro v hv
  obtain ⟨x, hx, rfl⟩ := List.mem_map.1 hv
  exact C.enc_oneCell x (hone x hx))
 have hfc' : (Builtin.firstCells ei.size k (.slice a2 m c2)).run P w = .ok (cs2.map C.enc).toArray w := by
  cases a2 <;> exact hfc
 simp only [V.enc, C.enc]
 simp [Builtin.copy_, run_underlying hd', Builtin.lenOf, Zc hok, ← hk, hfc', hst]
def jr (P : Program) (T : Ty) (b : Builtin) (ts : List TypeId) (vs : List V) (L : List Chunk) (D : List Fact) (nid : Nat) (k : KV) : Prop :=
 match b, ts, vs with
 | .len, [t], [x] =>
  match find T t with
  | some i =>
   match i.d, x with
   | .str, .c (.s l) => k (qQ l.length) L D nid
   | .sl _, .c (.sl _ n _) => k (qQ n) L D nid
   | .arr n _, _ => k (qQ n) L D nid
   | _, _ => False
  | none => False
 | .append, [t, xt], [x, y] => wy P T t xt x y L D nid k
 | .max, _, [.c (.i ka a), .c (.i _ b)] => Qa (a < b) (k (.c (.i ka b)) L D nid) (k (.c (.i ka a)) L D nid)
 | .min, _, [.c (.i ka a), .c (.i _ b)] => Qa (b < a) (k (.c (.i ka b)) L D nid) (k (.c (.i ka a)) L D nid)
 | .clear, [t], [.c (.sl a n _)] =>
  match find T t with
  | some ti =>
   match ti.d with
   | .sl e =>
    match find T e with
    | some ei => Yz ei.zero fun z => kO z (U0 z.length ei.size (SA ei.size (z1 ei.size z L a n fun L' => k .t0 L' D nid)))
    | none => False
   | _ => False
  | none => False
 | .cap, [t], [.c (.sl _ _ c)] =>
  match find T t with
  | some ti =>
   match ti.d with
   | .sl _ => k (qQ c) L D nid
   | _ => False
  | none => False
 | .copy, [t, _], [.c (.sl a n _), y] =>
  match find T t with
  | some ti =>
   match ti.d with
   | .sl e =>
    match find T e with
    | some ei => SA ei.size (Yl L D e ei.size a n y fun q L' => k (qQ q) L' D nid)
    | none => False
   | _ => False
  | none => False
 | .unsafeSliceData, _, [.c (.sl a _ c)] => Nx a c fun v => k v L D nid
 | .unsafeString, [pt, _], [p, .c (.i .i64 n)] => H5 P T pt p n L fun l L' => k (.c (.s l)) L' D nid
 | _, _, _ => False
theorem kI {P : Program} {T : Ty} (hT : Z4 P T) {G : Js} {w : World} {b : Builtin} {ts : List TypeId} {vs : List V} {L : List Chunk} {D : List Fact} {nid : Nat} {k : KV} {ty : TypeId}
  (h : jr P T b ts vs L D nid k) (hs : Qz G w L D) :
  ∃ v L' D' n' w', k v L' D' n' ∧ (∀ consts : Array Bool, (builtin b ts.toArray ty consts (vs.map V.enc).toArray).run P w = .ok (.value v.enc) w') ∧ Qz G w' L' D' := by
 unfold jr at h
 split at h
 ·rename_i t x
  split at h
  ·rename_i i hi
   have hd' := (hT _ _ hi).2.2.2
   split at h
   ·rename_i l hd
    rw [hd] at hd'
    refine ⟨_, _, _, _, w, h, fun consts => ?_, hs⟩
    simp only [builtin, List.map_cons, List.map_nil, V.enc, C.enc, Sem.run_bind]
    rw [run_len_string w t ty _ hd']
    rfl
   ·rename_i e a n c hd
    rw [hd] at hd'
    refine ⟨_, _, _, _, w, h, fun consts => ?_, hs⟩
    simp only [YW.ok] at hd'
    simp [builtin, V.enc, C.enc, qQ, Builtin.len_, run_underlying hd', goInt]
   ·rename_i n e hd
    rw [hd] at hd'
    refine ⟨_, _, _, _, w, h, fun consts => ?_, hs⟩
    simp only [YW.ok] at hd'
    simp [builtin, V.enc, C.enc, qQ, Builtin.len_, run_underlying hd', goInt]
   ·exact h.elim
  ·exact h.elim
 ·rename_i t xt x y
  obtain ⟨v, L', w', hk, hr, hs'⟩ := wx (ty := ty) hT h hs
  refine ⟨v, L', D, nid, w', hk, fun consts => ?_, hs'⟩
  simp only [builtin, List.map_cons, List.map_nil, Sem.run_bind, hr, Result.andThen_ok, Sem.run_pure]
 ·rename_i ts ka a kb b
  by_cases hab : a < b
  ·refine ⟨_, _, _, _, w, h.t hab, fun consts => ?_, hs⟩
   simp only [builtin, List.map_cons, List.map_nil, V.enc, C.enc, Sem.run_bind, run_max_int2, Result.andThen_ok, Sem.run_pure, gt_iff_lt, hab, if_true]
  ·refine ⟨_, _, _, _, w, h.f hab, fun consts => ?_, hs⟩
   simp only [builtin, List.map_cons, List.map_nil, V.enc, C.enc, Sem.run_bind, run_max_int2, Result.andThen_ok, Sem.run_pure, gt_iff_lt, hab, if_false]
 ·rename_i ts ka a kb b
  by_cases hab : b < a
  ·refine ⟨_, _, _, _, w, h.t hab, fun consts => ?_, hs⟩
   simp only [builtin, List.map_cons, List.map_nil, V.enc, C.enc, Sem.run_bind, run_min_int2, Result.andThen_ok, Sem.run_pure, hab, if_true]
  ·refine ⟨_, _, _, _, w, h.f hab, fun consts => ?_, hs⟩
   simp only [builtin, List.map_cons, List.map_nil, V.enc, C.enc, Sem.run_bind, run_min_int2, Result.andThen_ok, Sem.run_pure, hab, if_false]
 ·rename_i t a n c
  split at h
  ·rename_i ti hti
   split at h
   ·rename_i e hd
    split at h
    ·rename_i ei hei
     obtain ⟨L', w', hk, hr, hs'⟩ := Rt (c := c) (ty := ty) hT hti hd hei h hs
     refine ⟨.t0, L', D, nid, w', hk, fun consts => ?_, hs'⟩
     simp only [builtin, List.map_cons, List.map_nil, V.enc, C.enc, Sem.run_bind]
     rw [show (#[t] : Array Nat) = [t].toArray from rfl] at hr
     rw [show (#[Value.slice a n c] : Array Value) = [Value.slice a n c].toArray from rfl] at hr
     rw [hr]
     rfl
    ·exact h.elim
   ·exact h.elim
  ·exact h.elim
 ·rename_i t a n c
  split at h
  ·rename_i ti hti
   have hd' := (hT _ _ hti).2.2.2
   split at h
   ·rename_i e hd
    rw [hd] at hd'
    refine ⟨_, _, _, _, w, h, fun consts => ?_, hs⟩
    simp only [YW.ok] at hd'
    simp [builtin, V.enc, C.enc, qQ, Builtin.cap_, run_underlying hd', goInt]
   ·exact h.elim
  ·exact h.elim
 ·rename_i t st a n c y
  split at h
  ·rename_i ti hti
   split at h
   ·rename_i e hd
    split at h
    ·rename_i ei hei
     obtain ⟨q, L', w', hk, hr, hs'⟩ := Ei (c := c) (st := st) (ty := ty) hT hti hd hei h hs
     refine ⟨_, L', D, nid, w', hk, fun consts => ?_, hs'⟩
     simp only [builtin, List.map_cons, List.map_nil, V.enc, C.enc, Sem.run_bind]
     rw [show (#[t, st] : Array Nat) = [t, st].toArray from rfl] at hr
     rw [show (#[Value.slice a n c, y.enc] : Array Value) = [Value.slice a n c, y.enc].toArray from rfl] at hr
     rw [hr]
     rfl
    ·exact h.elim
   ·exact h.elim
  ·exact h.elim
 ·rename_i ts a n c
  cases h with
  | nil ha k =>
   subst ha
   refine ⟨_, _, _, _, w, k, fun consts => ?_, hs⟩
   simp only [builtin, List.map_cons, List.map_nil, V.enc, C.enc, Sem.run_bind]
   rw [Lib.run_unsafeSliceData_nil]
   rfl
  | row g o ha hc k =>
   subst ha
   refine ⟨_, _, _, _, w, k, fun consts => ?_, hs⟩
   simp only [builtin, List.map_cons, List.map_nil, V.enc, C.enc, Sem.run_bind]
   rw [Lib.run_unsafeSliceData_row _ _ _ _ _ _ hc]
   simp [Kb]
 ·rename_i pt it p n
  obtain ⟨l, L', w', hk, hr, hs'⟩ := GE (it := it) (ty := ty) hT h hs
  refine ⟨_, _, _, _, w', hk, fun consts => ?_, hs'⟩
  simp only [builtin, List.map_cons, List.map_nil, V.enc, C.enc, Sem.run_bind]
  rw [show (#[pt, it] : Array Nat) = [pt, it].toArray from rfl] at hr
  rw [hr]
  rfl
 ·exact h.elim
def U8 : Option Zy → Bool
 | some i => match i.d with | .int .u8 => true | _ => false
 | none => false
structure EncE (n : Int) (K : List UInt8 → Prop) : Prop where
 k : ∀ l, l = (Utf8.encode n).data.toList → K l
def jp (T : Ty) (s d : Nat) (v : V) (L : List Chunk) (D : List Fact) (nid : Nat) (k : KV) : Prop :=
 match find T s, find T d with
 | some si, some di =>
  match si.d, di.d, v with
  | .int _, .int kd, .c (.i _ n) => Gt kd n fun r => k (.c (.i kd r)) L D nid
  | .str, .str, .c (.s l) => k (.c (.s l)) L D nid
  | .int _, .str, .c (.i _ n) => EncE n fun l => k (.c (.s l)) L D nid
  | .str, .sl e, .c (.s l) => match U8 (find T e) with
   | true => vx e l L D nid k
   | false => False
  | .sl e, .str, .c (.sl a n _) => match U8 (find T e) with
   | true => yR L D a n fun l => k (.c (.s l)) L D nid
   | false => False
  | _, _, _ => False
 | _, _ => False
theorem v7 {P : Program} {T : Ty} (hT : Z4 P T) {e : Nat} (h : U8 (find T e) = true) : P.underlying e = some (.int .u8) := by
 unfold U8 at h
 split at h
 ·rename_i i hi
  have hd' := (hT _ _ hi).2.2.2
  split at h
  ·rename_i hd; rw [hd] at hd'; exact hd'
  ·cases h
 ·cases h
theorem kH {P : Program} {T : Ty} (hT : Z4 P T) {G : Js} {w : World} {s d : Nat} {v : V} {L : List Chunk} {D : List Fact} {nid : Nat} {k : KV} (h : jp T s d v L D nid k) (hs : Qz G w L D) :
  ∃ r L' w', k r L' D nid ∧ (convert s d v.enc).run P w = .ok r.enc w' ∧ Qz G w' L' D := by
 unfold jp at h
 split at h
 ·rename_i si di hsi hdi
  have h1 := (hT _ _ hsi).2.2.2
  have h2 := (hT _ _ hdi).2.2.2
  split at h
  ·rename_i ks kd kv n hd1 hd2
   rw [hd1] at h1
   rw [hd2] at h2
   simp only [YW.ok] at h1 h2
   refine ⟨_, _, w, h.run, ?_, hs⟩
   simp [convert, run_underlying h1, run_underlying h2, V.enc, C.enc, Conv.intToInt]
  ·rename_i l hd1 hd2
   rw [hd1] at h1
   rw [hd2] at h2
   simp only [YW.ok] at h1 h2
   refine ⟨_, _, w, h, ?_, hs⟩
   simp [convert, run_underlying h1, run_underlying h2, V.enc, C.enc]
  ·rename_i ks kv n hd1 hd2
   rw [hd1] at h1
   rw [hd2] at h2
   simp only [YW.ok] at h1 h2
   refine ⟨_, _, w, h.k _ rfl, ?_, hs⟩
   simp [convert, run_underlying h1, run_underlying h2, V.enc, C.enc, Conv.intToString]
  ·rename_i e l hd1 hd2
   rw [hd1] at h1
   rw [hd2] at h2
   simp only [YW.ok] at h1 h2
   split at h
   ·rename_i hb
    have h3 := v7 hT hb
    obtain ⟨r, L', w', hk, hr, hs'⟩ := kE (P := P) (T := T) h hs
    refine ⟨r, L', w', hk, ?_, hs'⟩
    simp only [convert, Sem.run_bind, run_underlying h1, run_underlying h2, V.enc, C.enc, Result.andThen_ok, run_underlying h3]
    exact hr
   ·exact h.elim
  ·rename_i e a n c hd1 hd2
   rw [hd1] at h1
   rw [hd2] at h2
   simp only [YW.ok] at h1 h2
   split at h
   ·rename_i hb
    have h3 := v7 hT hb
    obtain ⟨ety, l, hr, hk⟩ := h
    refine ⟨_, _, w, hk, ?_, hs⟩
    simp only [convert, Sem.run_bind, run_underlying h1, run_underlying h2, V.enc, C.enc, Result.andThen_ok, run_underlying h3]
    exact Ry hr hs
   ·exact h.elim
  ·exact h.elim
 ·exact h.elim
def jn (esz : Nat) (a : Option Addr) (n c : Nat) (lo hi : Option V) (k : V → Prop) : Prop :=
 match lo, hi with
 | none, none => k (.c (.sl (Z9 a 0 c esz) n c))
 | some (.c (.i _ x)), none => Xq (0 ≤ x ∧ x ≤ n) (k (.c (.sl (Z9 a x.toNat c esz) (n - x.toNat) (c - x.toNat))))
 | none, some (.c (.i _ y)) => Xq (0 ≤ y ∧ y ≤ c) (k (.c (.sl (Z9 a 0 c esz) y.toNat c)))
 | some (.c (.i _ x)), some (.c (.i _ y)) => Xq (0 ≤ x ∧ x ≤ y ∧ y ≤ c) (k (.c (.sl (Z9 a x.toNat c esz) (y.toNat - x.toNat) (c - x.toNat))))
 | _, _ => False
theorem kF {P : Program} {T : Ty} (hT : Z4 P T) {t e : TypeId} {i : Zy} (ht : P.underlying t = some (.slice e)) (hi : find T e = some i) {a : Option Addr} {n c : Nat} {lo hi' : Option V} {k : V → Prop} (h : jn i.size a n c lo hi' k) :
  ∃ v, k v ∧ ∀ w, (Instr.slice t (V.c (.sl a n c)).enc (lo.map V.enc) (hi'.map V.enc) none).run P w = .ok v.enc w := by
 have hok := hT _ _ hi
 unfold jn at h
 split at h
 ·refine ⟨_, h, fun w => ?_⟩
  simp only [V.enc, C.enc, Option.map_none, Instr.slice, Instr.sliceBounds, Sem.run_bind, run_underlying ht, Result.andThen_ok, Option.isSome_none, Bool.false_eq_true, if_false, Sem.run_pure, Zc hok, Z9, Nat.sub_zero]
 ·rename_i kk x
  obtain ⟨h0, h1⟩ := h.h
  refine ⟨_, h.k, fun w => ?_⟩
  simp only [V.enc, C.enc, Option.map_some, Option.map_none, Instr.slice, Instr.sliceBounds, Instr.sliceBound, asIntOf, Sem.run_bind, run_underlying ht, Result.andThen_ok, Option.isSome_none, Bool.false_eq_true, if_false, Sem.run_pure, Sem.run_ite, h0, h1, and_self, if_true, Zc hok, Z9]
 ·rename_i kk y
  obtain ⟨h0, h1⟩ := h.h
  refine ⟨_, h.k, fun w => ?_⟩
  simp only [V.enc, C.enc, Option.map_some, Option.map_none, Instr.slice, Instr.sliceBounds, Instr.sliceBound, asIntOf, Sem.run_bind, run_underlying ht, Result.andThen_ok, Option.isSome_none, Bool.false_eq_true, if_false, Sem.run_pure, Sem.run_ite, h0, h1, and_self, if_true, Zc hok, Z9, Nat.sub_zero]
 ·rename_i kk x kk' y
  obtain ⟨h0, h1, h2⟩ := h.h
  have hb : 0 ≤ y := by omega
  have hab : x ≤ (y.toNat : Int) := by omega
  refine ⟨_, h.k, fun w => ?_⟩
  simp only [V.enc, C.enc, Option.map_some, Option.map_none, Instr.slice, Instr.sliceBounds, Instr.sliceBound, asIntOf, Sem.run_bind, run_underlying ht, Result.andThen_ok, Option.isSome_none, Bool.false_eq_true, if_false, Sem.run_pure, Sem.run_ite, h0, h2, hb, hab, and_self, if_true, Zc hok, Z9]
 ·exact h.elim
def wr (T : Ty) (t : Nat) (x lo hi mx : V) (k : V → Prop) : Prop :=
 match find T t with
 | none => False
 | some i =>
  match i.d, x, lo, hi, mx with
  | .sl e, .c (.sl a _ c), .c (.i _ l), .c (.i _ h), .c (.i _ m) =>
   match find T e with
   | some ei => Xq (0 ≤ l ∧ l ≤ h ∧ h ≤ m ∧ m ≤ c) (k (.c (.sl (Z9 a l.toNat m.toNat ei.size) (h.toNat - l.toNat) (m.toNat - l.toNat))))
   | none => False
  | _, _, _, _, _ => False
theorem wq {P : Program} {T : Ty} (hT : Z4 P T) {t : Nat} {x lo hi mx : V} {k : V → Prop} (h : wr T t x lo hi mx k) :
  ∃ v, k v ∧ ∀ w, (Instr.sliceAt t x.enc (some lo.enc) (some hi.enc) (some mx.enc)).run P w = .ok v.enc w := by
 unfold wr at h
 split at h
 ·exact h.elim
 ·rename_i i hi'
  have hd' := (hT _ _ hi').2.2.2
  split at h
  ·rename_i e a n c k1 l k2 h1 k3 m hd
   rw [hd] at hd'
   simp only [YW.ok] at hd'
   split at h
   ·rename_i ei hei
    have hok := hT _ _ hei
    obtain ⟨h2, h3, h4, h5⟩ := h.h
    have g1 : 0 ≤ m := by omega
    have g2 : 0 ≤ h1 := by omega
    have g3 : h1 ≤ (m.toNat : Int) := by omega
    have g4 : l ≤ (h1.toNat : Int) := by omega
    refine ⟨_, h.k, fun w => ?_⟩
    simp only [Instr.sliceAt, V.enc, C.enc, Instr.slice, Instr.sliceBounds, Instr.sliceBound, asIntOf, Sem.run_bind, run_underlying hd', Result.andThen_ok, Option.isSome_some, Sem.run_pure, Sem.run_ite, h2, h5, g1, g2, g3, g4, and_self, if_true, Zc hok, Z9]
   ·exact h.elim
  ·exact h.elim
def PX (env : XR) (x : Option Operand) (k : Option V → Prop) : Prop :=
 match x with
 | none => k none
 | some x => QZ env x fun v => k (some v)
theorem Ve {N : Nat} {env : XR} {a : Act} (he : XF N env a) {x : Option Operand} {k : Option V → Prop} (h : PX env x k) : ∃ v, k v ∧ x.map a.eval = v.map V.enc := by
 unfold PX at h
 split at h
 ·exact ⟨none, h, rfl⟩
 ·obtain ⟨v, hv, h⟩ := Ql h
  exact ⟨some v, h, by simp [he.ev hv]⟩
def kS (T : Ty) (t : Nat) (x : V) (lo hi : Option V) (k : V → Prop) : Prop :=
 match find T t with
 | none => False
 | some i =>
  match i.d, x with
  | .str, .c (.s l) => zr l lo hi k
  | .sl e, .c (.sl a n c) =>
   match find T e with
   | some ei => jn ei.size a n c lo hi k
   | none => False
  | _, _ => False
theorem qU {P : Program} {T : Ty} (hT : Z4 P T) {t : Nat} {x : V} {lo hi : Option V} {k : V → Prop} (h : kS T t x lo hi k) :
  ∃ v, k v ∧ ∀ w, (Instr.sliceAt t x.enc (lo.map V.enc) (hi.map V.enc) none).run P w = .ok v.enc w := by
 unfold kS at h
 split at h
 ·exact h.elim
 ·rename_i i hi'
  have hd' := (hT _ _ hi').2.2.2
  split at h
  ·rename_i l hd
   rw [hd] at hd'
   simp only [YW.ok] at hd'
   obtain ⟨v, hk, hr⟩ := jm hd' h
   refine ⟨v, hk, fun w => ?_⟩
   simp only [Instr.sliceAt, Sem.run_bind, run_underlying hd', Result.andThen_ok]
   exact hr w
  ·rename_i e a n c hd
   rw [hd] at hd'
   simp only [YW.ok] at hd'
   split at h
   ·rename_i ei hei
    obtain ⟨v, hk, hr⟩ := kF hT hd' hei h
    refine ⟨v, hk, fun w => ?_⟩
    simp only [Instr.sliceAt, Sem.run_bind, run_underlying hd', Result.andThen_ok]
    exact hr w
   ·exact h.elim
  ·exact h.elim
def xY (v : V) (i : Nat) (k : V → Prop) : Prop :=
 match v, i with
 | .t1 x, 0 => k x
 | .t2 x _, 0 => k x
 | .t2 _ y, 1 => k y
 | .t3 x _ _, 0 => k x
 | .t3 _ y _, 1 => k y
 | .t3 _ _ z, 2 => k z
 | .t4 x _ _ _, 0 => k x
 | .t4 _ y _ _, 1 => k y
 | .t4 _ _ z _, 2 => k z
 | .t4 _ _ _ u, 3 => k u
 | _, _ => False
theorem qr {P : Program} {v : V} {i : Nat} {k : V → Prop} (h : xY v i k) : ∃ r, k r ∧ ∀ w, (Instr.extract v.enc i).run P w = .ok r.enc w := by
 unfold xY at h
 split at h <;> first | exact ⟨_, h, fun w => rfl⟩ | exact h.elim
def EA (op : UnOp) (a : V) (k : V → Prop) : Prop :=
 match op, a with
 | .not, .c (.b true) => k ff
 | .not, .c (.b false) => k tt
 | .neg, .c (.i kd n) => Gt kd (0 - n) fun r => k (.c (.i kd r))
 | .xor, .c (.i kd n) => k (.c (.i kd (K4 .xor kd (if kd.signed = true then -1 else kd.max) n)))
 | _, _ => False
theorem wo {P : Program} {op : UnOp} {a : V} {k : V → Prop} (h : EA op a k) : ∃ r, k r ∧ ∀ w, (Op.unary op a.enc).run P w = .ok r.enc w := by
 unfold EA at h
 split at h
 ·exact ⟨_, h, fun w => rfl⟩
 ·exact ⟨_, h, fun w => rfl⟩
 ·exact ⟨_, h.run, fun w => by simp [Op.unary, Op.intArith, V.enc, C.enc]⟩
 ·exact ⟨_, h, fun w => by simp [Op.unary, Op.intBits, V.enc, C.enc, K4]⟩
 ·exact h.elim
def L4 (v : V) (L : List Chunk) (D : List Fact) (k : V → Prop) : Prop :=
 match v with
 | .c (.p id ad off) => k (.c (.p id ad off))
 | .c (.e a esz ix off) => Zv L D a (k (.c (.e a esz ix off)))
 | _ => False
theorem ye {G : Js} {v : V} {L : List Chunk} {D : List Fact} {k : V → Prop} (h : L4 v L D k) : k v ∧ ∀ w, Qz G w L D → ∃ a, v.enc = .pointer (some a) := by
 unfold L4 at h
 split at h
 ·exact ⟨h, fun _ _ => ⟨_, rfl⟩⟩
 ·rename_i a esz ix off
  obtain ⟨hk, ha⟩ := Ug (G := G) h
  exact ⟨hk, fun w hs => by obtain ⟨b, rfl⟩ := ha w hs; exact ⟨_, rfl⟩⟩
 ·exact h.elim
def pickK (env : XR) (c a b : Operand) (k : V → Prop) : Prop :=
 QZ env c fun cv =>
  match cv with
  | .c (.b true) => QZ env a k
  | .c (.b false) => QZ env b k
  | _ => False
def qu (l : List UInt8) (pos : Nat) : Nat × Nat := Utf8.decode ⟨⟨l⟩⟩ pos
def Ut (T : Ty) (t : Nat) (x : V) (L : List Chunk) (D : List Fact) (nid : Nat) (k : KV) : Prop :=
 match find T t with
 | some i => match i.d, x with
  | .str, .c (.s l) => Qd fun ad => k (.c (.p nid ad 0)) (.obj nid ad (.stringIter ⟨⟨l⟩⟩ 0) :: L) D (nid + 1)
  | .mp _ _, .c (.m id m) => match KH L id with
   | some (m', .map _ c) => EqP m m' (Qd fun ad => k (.c (.p nid ad 0)) (.obj nid ad (.mapIter (some m) c #[] c) :: L) D (nid + 1))
   | _ => False
  | _, _ => False
 | none => False
theorem yT {P : Program} {T : Ty} (hT : Z4 P T) {G : Js} {w : World} {t : Nat} {x : V} {L : List Chunk} {D : List Fact} {nid : Nat} {k : KV} (h : Ut T t x L D nid k) (hs : Qz G w L D) :
  ∃ v L' n' w', k v L' D n' ∧ (Instr.range t x.enc).run P w = .ok v.enc w' ∧ Qz G w' L' D := by
 unfold Ut at h
 split at h
 ·rename_i i hi
  have hd' := (hT _ _ hi).2.2.2
  split at h
  ·rename_i l hd
   rw [hd] at hd'
   simp only [YW.ok] at hd'
   refine ⟨_, _, _, w.alloc (.stringIter ⟨⟨l⟩⟩ 0), h.k w.heap.size, ?_, XG hs _ _ rfl (heap_alloc_new w _)⟩
   simp only [Instr.range, Sem.run_bind, run_underlying hd', Result.andThen_ok, V.enc, C.enc, Sem.run_pure]
   rfl
  ·rename_i kt et id m hd
   rw [hd] at hd'
   simp only [YW.ok] at hd'
   split at h
   ·rename_i m' es c ho
    obtain ⟨h0, h⟩ := h
    subst h0
    obtain ⟨A, B, id', hL, _⟩ := Jx ho
    have hob : w.heap[m]? = some (.map es c) := by
     obtain ⟨_, hh, _⟩ := hs
     exact ZE hh.ok (ch := .obj id' m _) (by rw [hL]; simp)
    have hget : (getObj m).run P w = .ok (.map es c) w := by simp [getObj, Sem.run, hob]
    refine ⟨_, _, _, w.alloc (.mapIter (some m) c #[] c), h.k w.heap.size, ?_, XG hs _ _ rfl (heap_alloc_new w _)⟩
    simp only [Instr.range, Sem.run_bind, run_underlying hd', Result.andThen_ok, V.enc, C.enc, hget, Sem.run_pure]
    rfl
   ·exact h.elim
  ·exact h.elim
 ·exact h.elim
structure yQ (l : List UInt8) (pos : Nat) (K : Nat → Nat → Prop) : Prop where
 k : ∀ r n, qu l pos = (r, n) → K r n
theorem yQ.of {l : List UInt8} {pos r n : Nat} {K : Nat → Nat → Prop} (h : qu l pos = (r, n)) (k : K r n) : yQ l pos K :=
 ⟨fun r' n' h' => by rw [h] at h'; cases h'; exact k⟩
def Th (x : V) (str : Bool) (L : List Chunk) (D : List Fact) (nid : Nat) (k : KV) : Prop :=
 match x, str with
 | .c (.p id ad 0), true =>
  match KH L id with
  | some (ad', .stringIter ⟨⟨l⟩⟩ pos) => EqP ad ad' (Qa (pos < l.length)
    (yQ l pos fun r n => Wb L id (.stringIter ⟨⟨l⟩⟩ (pos + n)) fun L' => k (.t3 tt (.c (.i .i64 pos)) (.c (.i .i32 r))) L' D nid)
    (k (.t1 ff) L D nid))
  | _ => False
 | _, _ => False
theorem Uu {P : Program} {G : Js} {w : World} {x : V} {str : Bool} {ty : TypeId} {L : List Chunk} {D : List Fact} {nid : Nat} {k : KV} (h : Th x str L D nid k) (hs : Qz G w L D) :
  ∃ v L' w', k v L' D nid ∧ (Instr.next x.enc str ty).run P w = .ok v.enc w' ∧ Qz G w' L' D := by
 unfold Th at h
 split at h
 ·rename_i id ad
  split at h
  ·rename_i ad' l pos ho
   obtain ⟨h0, h⟩ := h
   subst h0
   obtain ⟨A, B, id', hL, hset⟩ := Jx ho
   have hs0 := hs
   obtain ⟨m, hh, _⟩ := hs
   have hob : w.heap[ad]? = some (.stringIter ⟨⟨l⟩⟩ pos) := ZE hh.ok (ch := .obj id' ad _) (by rw [hL]; simp)
   have hget : (getObj ad).run P w = .ok (.stringIter ⟨⟨l⟩⟩ pos) w := by simp [getObj, Sem.run, hob]
   by_cases hlt : pos < l.length
   ·have hk := hset _ _ ((h.t hlt).k (qu l pos).1 (qu l pos).2 rfl)
    refine ⟨_, _, Zq w ad (.stringIter ⟨⟨l⟩⟩ (pos + (qu l pos).2)), hk, ?_, ?_⟩
    ·have hset' : (setObj ad (.stringIter ⟨⟨l⟩⟩ (pos + (qu l pos).2))).run P w = .ok () (Zq w ad (.stringIter ⟨⟨l⟩⟩ (pos + (qu l pos).2))) := by simp [setObj, Sem.run, hob, Zq]
     have hlt' : pos < (⟨⟨l⟩⟩ : ByteArray).size := hlt
     simp only [Instr.next, Sem.run_bind, V.enc, C.enc, hget, Result.andThen_ok, Sem.run_ite, if_pos hlt']
     unfold qu at hset' ⊢
     simp only [hset', Result.andThen_ok, Sem.run_pure]
     rfl
    ·rw [hL] at hs0
     exact Jj hs0 rfl rfl (Jb hob) (fun off => by rw [hob]; rfl)
   ·refine ⟨_, _, w, h.f hlt, ?_, hs0⟩
    have hlt' : ¬ pos < (⟨⟨l⟩⟩ : ByteArray).size := hlt
    simp only [Instr.next, Sem.run_bind, V.enc, C.enc, hget, Result.andThen_ok, Sem.run_ite, if_neg hlt', Sem.run_pure]
  ·exact h.elim
 ·exact h.elim
def capV (x : Nat × Nat × Nat) : V := .c (.p x.1 x.2.1 x.2.2)
def En (env : XR) : List Operand → (List (Nat × Nat × Nat) → Prop) → Prop
 | [], k => k []
 | x :: r, k => QZ env x fun v => match v with
  | .c (.p id ad off) => En env r fun l => k ((id, ad, off) :: l)
  | _ => False
theorem kA {N : Nat} {env : XR} {a : Act} (he : XF N env a) : ∀ {xs : List Operand} {k : List (Nat × Nat × Nat) → Prop}, En env xs k → ∃ l, k l ∧ xs.map a.eval = l.map fun x => Value.pointer (some ⟨x.2.1, x.2.2, none⟩)
 | [], k, h => ⟨[], h, rfl⟩
 | x :: r, k, h => by
  obtain ⟨v, hv, h⟩ := Ql h
  split at h
  ·rename_i id ad off
   obtain ⟨l, hl, he'⟩ := kA he h
   exact ⟨_, hl, by simp only [List.map_cons, he.ev hv, he', V.enc, C.enc]⟩
  ·exact h.elim
def wu (fn : Fn) (first caps : List Operand) (env : XR) (k : V → Prop) : Prop :=
 match fn, first with
 | .func f, [] => En env caps fun l => k (.c (.fn f l))
 | _, _ => False
def OC (P : Program) (v : V) (vs : List V) (L : List Chunk) (D : List Fact) (K : V → List Chunk → List Fact → Prop) : Prop :=
 match v with
 | .c (.fn f caps) => Qc P f (vs ++ caps.map capV) L D K
 | _ => False
def RL (P : Program) (T : Ty) (c : Call) (env : XR) (L : List Chunk) (D : List Fact) (nid : Nat) (k : KV) : Prop :=
 match c.callee with
 | .value (.func f) => yM env c.args.toList fun vs => Qc P f vs L D fun v L' D' => k v L' D' nid
 | .builtin b => yM env c.args.toList fun vs => jr P T b c.argTypes.toList vs L D nid k
 | .value x => QZ env x fun v => yM env c.args.toList fun vs => OC P v vs L D fun v L' D' => k v L' D' nid
 | _ => False
def EB (P : Program) (T : Ty) (op : Op) (env : XR) (L : List Chunk) (D : List Fact) (nid : Nat) (k : KV) : Prop :=
 match op with
 | .move x => QZ env x fun v => k v L D nid
 | .assign x => QZ env x fun v => k v L D nid
 | .pick c a b => pickK env c a b fun v => k v L D nid
 | .alloc t =>
  match find T t with
  | some i => RM T t i.zero L D nid k
  | none => False
 | .box t x => QZ env x fun v => RM T t v L D nid k
 | .build t ps => w5 env ps.toList fun l => kV T t l fun v => k v L D nid
 | .buildSlice t n ps => w5 env ps.toList fun l => YZ T t n l L D nid k
 | .load t x => QZ env x fun a => jo T t a L D fun v => k v L D nid
 | .store t x y => QZ env x fun a => QZ env y fun v => Us T t a v L fun L' => k .t0 L' D nid
 | .binOp op t x y _ => QZ env x fun a => QZ env y fun b => OE T op t a b fun v => k v L D nid
 | .unOp op _ x => QZ env x fun a => EA op a fun v => k v L D nid
 | .convert s d x => QZ env x fun a => jp T s d a L D nid k
 | .makeSlice t l c => QZ env l fun l => QZ env c fun c => VM T t l c L D nid k
 | .slice t x lo hi none => QZ env x fun a => PX env lo fun lo => PX env hi fun hi => kS T t a lo hi fun v => k v L D nid
 | .slice t x (some lo) (some hi) (some mx) => QZ env x fun a => QZ env lo fun lo => QZ env hi fun hi => QZ env mx fun mx => wr T t a lo hi mx fun v => k v L D nid
 | .fieldAddr s x f => QZ env x fun a => W0 T s a f L D fun v => k v L D nid
 | .field t x f => QZ env x fun a => kU T t a f fun v => k v L D nid
 | .indexAddr t x i => QZ env x fun a => QZ env i fun i => KK T t a i L D fun v => k v L D nid
 | .index t x i => QZ env x fun a => QZ env i fun i => kT T t a i fun v => k v L D nid
 | .extract x i => QZ env x fun v => xY v i fun v => k v L D nid
 | .call c => RL P T c env L D nid k
 | .nilCheck x => QZ env x fun v => L4 v L D fun v => k v L D nid
 | .range t x => QZ env x fun v => Ut T t v L D nid k
 | .next x str => QZ env x fun v => Th v str L D nid k
 | .makeFunc fn first caps => wu fn first.toList caps.toList env fun v => k v L D nid
 | _ => False
theorem wt {P : Program} {T : Ty} (hT : Z4 P T) {G : Js} {N : Nat} {o : Oper} {env : XR} {a : Act} {w : World} {L : List Chunk} {D : List Fact} {nid : Nat} {k : KV} (h : EB P T o.op env L D nid k) (he : XF N env a) (hs : Qz G w L D) :
  OpW P G o a w k := by
 unfold EB at h
 split at h
 ·rename_i x ho
  obtain ⟨v, hv, h⟩ := Ql h
  exact Zf (by simp only [execOp, ho, he.ev hv, Sem.run_pure]) h hs
 ·rename_i x ho
  obtain ⟨v, hv, h⟩ := Ql h
  exact Zf (by simp only [execOp, ho, he.ev hv, Sem.run_pure]) h hs
 ·rename_i c x y ho
  obtain ⟨cv, hc, h⟩ := Ql h
  split at h
  ·obtain ⟨v, hv, h⟩ := Ql h
   exact Zf (v := v) (by simp only [execOp, ho, he.ev hc, he.ev hv, V.enc, C.enc, asBool, Sem.run_bind, Sem.run_pure, Result.andThen_ok, if_true]) h hs
  ·obtain ⟨v, hv, h⟩ := Ql h
   exact Zf (v := v) (by simp only [execOp, ho, he.ev hc, he.ev hv, V.enc, C.enc, asBool, Sem.run_bind, Sem.run_pure, Result.andThen_ok, Bool.false_eq_true, if_false]) h hs
  ·exact h.elim
 ·rename_i t ho
  split at h
  ·rename_i i hi
   refine jS h hs ?_
   simp only [execOp, ho, Instr.alloc, Sem.run_bind, KC (hT _ _ hi), Result.andThen_ok, wJ, Sem.run_pure]
  ·exact h.elim
 ·rename_i t x ho
  obtain ⟨v, hv, h⟩ := Ql h
  refine jS h hs ?_
  simp only [execOp, ho, Instr.box, Sem.run_bind, Result.andThen_ok, wJ, Sem.run_pure, he.ev hv]
 ·rename_i t ps ho
  obtain ⟨l, h, hl⟩ := Wf he h
  obtain ⟨v, hk, hr⟩ := qX hT h
  refine Zf (v := v) (w' := w) ?_ hk hs
  have e : (ps.map fun (i, x) => (i, a.eval x)) = (l.map fun (i, v) => (i, v.enc)).toArray := by
   rw [← hl, ← Array.toList_map, Array.toArray_toList]
  simp only [execOp, ho, e, Sem.run_bind, hr w, Result.andThen_ok, Sem.run_pure]
 ·rename_i t n ps ho
  obtain ⟨l, h, hl⟩ := Wf he h
  obtain ⟨v, L', w', hk, hr, hs'⟩ := zu hT h hs
  refine Zf (v := v) (w' := w') ?_ hk hs'
  have e : (ps.map fun (i, x) => (i, a.eval x)) = (l.map fun (i, v) => (i, v.enc)).toArray := by
   rw [← hl, ← Array.toList_map, Array.toArray_toList]
  simp only [execOp, ho, e, Sem.run_bind, hr, Result.andThen_ok, Sem.run_pure]
 ·rename_i t x ho
  obtain ⟨v, hv, h⟩ := Ql h
  obtain ⟨r, hk, hr⟩ := z7 hT h hs
  exact Zf (v := r) (by simp only [execOp, ho, he.ev hv, Sem.run_bind, hr, Result.andThen_ok, Sem.run_pure]) hk hs
 ·rename_i t x y ho
  obtain ⟨v, hv, h⟩ := Ql h
  obtain ⟨u, hu, h⟩ := Ql h
  obtain ⟨L', w', hk, hr, hs'⟩ := yS hT h hs
  exact Sy (by simp only [execOp, ho, he.ev hv, he.ev hu, Sem.run_bind, hr, Result.andThen_ok, Sem.run_pure]) hk hs'
 ·rename_i op t x y yt ho
  obtain ⟨v, hv, h⟩ := Ql h
  obtain ⟨u, hu, h⟩ := Ql h
  obtain ⟨r, hk, hr⟩ := jT hT (ox := x) (oy := y) h
  refine Zf (v := r) (w' := w) ?_ hk hs
  have := hr w
  simp only [execOp, ho, he.ev hv, he.ev hu]
  rw [Sem.run_bind, this]
  rfl
 ·rename_i op t x ho
  obtain ⟨v, hv, h⟩ := Ql h
  obtain ⟨r, hk, hr⟩ := wo (P := P) h
  exact Zf (v := r) (by simp only [execOp, ho, he.ev hv, Sem.run_bind, hr w, Result.andThen_ok, Sem.run_pure]) hk hs
 ·rename_i s d x ho
  obtain ⟨v, hv, h⟩ := Ql h
  obtain ⟨r, L', w', hk, hr, hs'⟩ := kH hT h hs
  exact Zf (v := r) (by simp only [execOp, ho, he.ev hv, Sem.run_bind, hr, Result.andThen_ok, Sem.run_pure]) hk hs'
 ·rename_i t l c ho
  obtain ⟨v, hv, h⟩ := Ql h
  obtain ⟨u, hu, h⟩ := Ql h
  obtain ⟨r, L', w', hk, hr, hs'⟩ := z6 hT h hs
  exact Zf (v := r) (by simp only [execOp, ho, he.ev hv, he.ev hu, Sem.run_bind, hr, Result.andThen_ok, Sem.run_pure]) hk hs'
 ·rename_i t x lo hi ho
  obtain ⟨v, hv, h⟩ := Ql h
  obtain ⟨l, h, hl⟩ := Ve he h
  obtain ⟨u, h, hu⟩ := Ve he h
  obtain ⟨r, hk, hr⟩ := qU hT h
  exact Zf (v := r) (by simp only [execOp, ho, he.ev hv, hl, hu, Option.map_none, Sem.run_bind, hr w, Result.andThen_ok, Sem.run_pure]) hk hs
 ·rename_i t x lo hi mx ho
  obtain ⟨v, hv, h⟩ := Ql h
  obtain ⟨l, hl, h⟩ := Ql h
  obtain ⟨u, hu, h⟩ := Ql h
  obtain ⟨m, hm, h⟩ := Ql h
  obtain ⟨r, hk, hr⟩ := wq hT h
  exact Zf (v := r) (by simp only [execOp, ho, he.ev hv, he.ev hl, he.ev hu, he.ev hm, Option.map_some, Sem.run_bind, hr w, Result.andThen_ok, Sem.run_pure]) hk hs
 ·rename_i s x f ho
  obtain ⟨v, hv, h⟩ := Ql h
  obtain ⟨r, hk, hr⟩ := Vv (G := G) hT h
  exact Zf (v := r) (by simp only [execOp, ho, he.ev hv, Sem.run_bind, hr w hs, Result.andThen_ok, Sem.run_pure]) hk hs
 ·rename_i t x f ho
  obtain ⟨v, hv, h⟩ := Ql h
  obtain ⟨r, hk, hr⟩ := qW hT h
  exact Zf (v := r) (by simp only [execOp, ho, he.ev hv, Sem.run_bind, hr w, Result.andThen_ok, Sem.run_pure]) hk hs
 ·rename_i t x i ho
  obtain ⟨v, hv, h⟩ := Ql h
  obtain ⟨u, hu, h⟩ := Ql h
  obtain ⟨r, hk, hr⟩ := z8 hT h hs
  exact Zf (v := r) (by simp only [execOp, ho, he.ev hv, he.ev hu, Sem.run_bind, hr, Result.andThen_ok, Sem.run_pure]) hk hs
 ·rename_i t x i ho
  obtain ⟨v, hv, h⟩ := Ql h
  obtain ⟨u, hu, h⟩ := Ql h
  obtain ⟨r, hk, hr⟩ := qV hT h
  exact Zf (v := r) (by simp only [execOp, ho, he.ev hv, he.ev hu, Sem.run_bind, hr w, Result.andThen_ok, Sem.run_pure]) hk hs
 ·rename_i x i ho
  obtain ⟨v, hv, h⟩ := Ql h
  obtain ⟨r, hk, hr⟩ := qr (P := P) h
  exact Zf (v := r) (by simp only [execOp, ho, he.ev hv, Sem.run_bind, hr w, Result.andThen_ok, Sem.run_pure]) hk hs
 ·rename_i c ho
  unfold RL at h
  split at h
  ·rename_i f hc
   obtain ⟨vs, h, hvs⟩ := JZ he h
   have hargs : c.args.map a.eval = (vs.map V.enc).toArray := by rw [← hvs, ← Array.toList_map, Array.toArray_toList]
   rcases kB h hs with ⟨hen, hcall⟩ | ⟨v, hk, hr⟩
   rotate_left
   ·refine Zf (v := v) (w' := w) ?_ hk hs
    simp only [execOp, ho, resolve, hc, Act.eval, Deferred.ofValue, Sem.run_bind, Sem.run_pure, Result.andThen_ok, invoke, hargs]
    simp [hr]
   unfold OpW JW
   have hrun : (execOp a.eval o).run P w = .ok (.enter f (vs.map V.enc).toArray) w := by
    simp only [execOp, ho, resolve, hc, Act.eval, Deferred.ofValue, Sem.run_bind, Sem.run_pure, Result.andThen_ok, invoke, hargs]
    simp [Y6 hen]
   rw [hrun]
   refine hcall.mono ?_
   rintro e w' ⟨v, L', D', rfl, hk, hs'⟩
   exact ⟨_, rfl, v, L', D', _, rfl, hk, hs'⟩
  ·rename_i b hc
   obtain ⟨vs, h, hvs⟩ := JZ he h
   have hargs : c.args.map a.eval = (vs.map V.enc).toArray := by rw [← hvs, ← Array.toList_map, Array.toArray_toList]
   obtain ⟨v, L', D', n', w', hk, hr, hs'⟩ := kI (ty := o.type) hT h hs
   refine Zf (v := v) (w' := w') ?_ hk hs'
   simp only [execOp, ho, resolve, hc, Sem.run_bind, Sem.run_pure, Result.andThen_ok, invoke, hargs]
   exact hr _
  ·rename_i x hx0 hc
   obtain ⟨v, hv, h⟩ := Ql h
   obtain ⟨vs, hcv, hvs⟩ := JZ he h
   clear h
   unfold OC at hcv
   split at hcv
   ·rename_i f caps
    have hargs : c.args.map a.eval = (vs.map V.enc).toArray := by rw [← hvs, ← Array.toList_map, Array.toArray_toList]
    have hcap : (caps.map fun x => Value.pointer (some ⟨x.2.1, x.2.2, none⟩)) = (caps.map capV).map V.enc := by rw [List.map_map]; rfl
    rcases kB hcv hs with ⟨hen, hcall⟩ | ⟨v', hk, hr⟩
    rotate_left
    ·refine Zf (v := v') (w' := w) ?_ hk hs
     simp only [execOp, ho, resolve, hc, he.ev hv, V.enc, C.enc, Deferred.ofValue, Sem.run_bind, Sem.run_pure, Result.andThen_ok, invoke, hargs, hcap]
     rw [List.map_append, List.map_map] at hr
     simp [hr]
    unfold OpW JW
    have hrun : (execOp a.eval o).run P w = .ok (.enter f ((vs ++ caps.map capV).map V.enc).toArray) w := by
     simp only [execOp, ho, resolve, hc, he.ev hv, V.enc, C.enc, Deferred.ofValue, Sem.run_bind, Sem.run_pure, Result.andThen_ok, invoke, hargs, hcap]
     simp [Y6 hen]
    rw [hrun]
    refine hcall.mono ?_
    rintro e w' ⟨v, L', D', rfl, hk, hs'⟩
    exact ⟨_, rfl, v, L', D', _, rfl, hk, hs'⟩
   ·exact hcv.elim
  ·exact h.elim
 ·rename_i x ho
  obtain ⟨v, hv, h⟩ := Ql h
  obtain ⟨hk, ha⟩ := ye (G := G) h
  obtain ⟨a', ha⟩ := ha w hs
  exact Zf (v := v) (by simp only [execOp, ho, he.ev hv, ha, Sem.run_pure]) hk hs
 ·rename_i t x ho
  obtain ⟨v, hv, h⟩ := Ql h
  obtain ⟨r, L', n', w', hk, hr, hs'⟩ := yT hT h hs
  exact Zf (v := r) (by simp only [execOp, ho, he.ev hv, Sem.run_bind, hr, Result.andThen_ok, Sem.run_pure]) hk hs'
 ·rename_i x str ho
  obtain ⟨v, hv, h⟩ := Ql h
  obtain ⟨r, L', w', hk, hr, hs'⟩ := Uu (P := P) (ty := o.type) h hs
  exact Zf (v := r) (by simp only [execOp, ho, he.ev hv, Sem.run_bind, hr, Result.andThen_ok, Sem.run_pure]) hk hs'
 ·rename_i fn first caps ho
  unfold wu at h
  split at h
  ·rename_i f hfirst
   obtain ⟨l, hk, hl⟩ := kA he h
   have hf0 : first = #[] := by cases first; simp_all
   refine Zf (v := .c (.fn f l)) (w' := w) ?_ hk hs
   have hl' : caps.map a.eval = (l.map fun x => Value.pointer (some ⟨x.2.1, x.2.2, none⟩)).toArray := by rw [← hl, ← Array.toList_map, Array.toArray_toList]
   simp only [execOp, ho, Instr.makeFunc, hf0, hl', V.enc, C.enc, Sem.run_bind, Sem.run_pure, Result.andThen_ok, List.map_toArray, List.map_nil, Array.map_empty]
  ·exact h.elim
 ·exact h.elim
end Go.X
namespace Go.X
open Go
variable [Sm : Inhabited Jh]
abbrev RD := XR → List Chunk → List Fact → Nat → Prop
abbrev Kt := Exit → XR → List Chunk → List Fact → Nat → Prop
def yP (G : Js) (N : Nat) (K : Kt) (e : Exit) (a : Act) (w : World) : Prop := ∃ env L D n, K e env L D n ∧ XF N env a ∧ Qz G w L D
structure J (P : Program) (G : Js) (N : Nat) (c : Code) (env : XR) (L : List Chunk) (D : List Fact) (nid : Nat) (K : Kt) : Prop where
 run : ∀ a w, XF N env a → Qz G w L D → c.wp P (yP G N K) a w
section
variable {P : Program} {G : Js} {N : Nat} {env : XR} {L : List Chunk} {D : List Fact} {nid : Nat} {K : Kt}
def Kt.seq (P : Program) (G : Js) (N : Nat) (y : Code) (K : Kt) : Kt := fun e env L D n =>
 match e with
 | .normal => J P G N y env L D n K
 | e => K e env L D n
theorem Yk {x y : Code} (h : J P G N x env L D nid (Kt.seq P G N y K)) : J P G N (.seq x y) env L D nid K :=
 ⟨fun a w he hs => wp_seq (wp_mono (h.run a w he hs) fun e a' w' hq => by
  obtain ⟨env', L', D', n', hk, he', hs'⟩ := hq
  cases e with
  | normal => exact hk.run a' w' he' hs'
  | exit id => exact ⟨env', L', D', n', hk, he', hs'⟩
  | goto l => exact ⟨env', L', D', n', hk, he', hs'⟩
  | ret => exact ⟨env', L', D', n', hk, he', hs'⟩
  | panic ch => exact ⟨env', L', D', n', hk, he', hs'⟩
  | outgrown => exact ⟨env', L', D', n', hk, he', hs'⟩)⟩
def Kt.block (id : Nat) (K : Kt) : Kt := fun e env L D n =>
 match e with
 | .exit i => match Nat.beq i id with
  | true => K .normal env L D n
  | false => K (.exit i) env L D n
 | e => K e env L D n
theorem NC {id : Nat} {c : Code} (h : J P G N c env L D nid (Kt.block id K)) : J P G N (.block id c) env L D nid K :=
 ⟨fun a w he hs => wp_block (wp_mono (h.run a w he hs) fun e a' w' hq => by
  obtain ⟨env', L', D', n', hk, he', hs'⟩ := hq
  cases e with
  | exit i =>
   simp only [Exit.inBlock]
   simp only [Kt.block] at hk
   cases hb : Nat.beq i id with
   | true =>
    rw [hb] at hk
    rw [if_pos (Nat.eq_of_beq_eq_true hb)]
    exact ⟨env', L', D', n', hk, he', hs'⟩
   | false =>
    rw [hb] at hk
    rw [if_neg (fun hc => by subst hc; rw [Nat.beq_refl] at hb; cases hb)]
    exact ⟨env', L', D', n', hk, he', hs'⟩
  | normal => exact ⟨env', L', D', n', hk, he', hs'⟩
  | goto l => exact ⟨env', L', D', n', hk, he', hs'⟩
  | ret => exact ⟨env', L', D', n', hk, he', hs'⟩
  | panic ch => exact ⟨env', L', D', n', hk, he', hs'⟩
  | outgrown => exact ⟨env', L', D', n', hk, he', hs'⟩)⟩
def Kt.noGoto (K : Kt) : Kt := fun e env L D n =>
 match e with
 | .goto _ => False
 | e => K e env L D n
theorem Ny {c : Code} (h : J P G N c env L D nid (Kt.noGoto K)) : J P G N (.scope c) env L D nid K :=
 ⟨fun a w he hs => wp_scope_straight (wp_mono (h.run a w he hs) fun e a' w' hq => by
  obtain ⟨env', L', D', n', hk, he', hs'⟩ := hq
  cases e with
  | goto l => exact hk
  | normal => exact ⟨env', L', D', n', hk, he', hs'⟩
  | exit i => exact ⟨env', L', D', n', hk, he', hs'⟩
  | ret => exact ⟨env', L', D', n', hk, he', hs'⟩
  | panic ch => exact ⟨env', L', D', n', hk, he', hs'⟩
  | outgrown => exact ⟨env', L', D', n', hk, he', hs'⟩)⟩
theorem J_skip (h : K .normal env L D nid) : J P G N .skip env L D nid K := ⟨fun a w he hs => wp_skip ⟨env, L, D, nid, h, he, hs⟩⟩
theorem J_ret (h : K .ret env L D nid) : J P G N .ret env L D nid K := ⟨fun a w he hs => wp_ret ⟨env, L, D, nid, h, he, hs⟩⟩
theorem J_exit {id : Nat} (h : K (.exit id) env L D nid) : J P G N (.exit id) env L D nid K := ⟨fun a w he hs => wp_exit ⟨env, L, D, nid, h, he, hs⟩⟩
def condK (P : Program) (G : Js) (N : Nat) (x y : Code) (env : XR) (L : List Chunk) (D : List Fact) (nid : Nat) (K : Kt) (v : V) : Prop :=
 match v with
 | .c (.b true) => J P G N x env L D nid K
 | .c (.b false) => J P G N y env L D nid K
 | _ => False
theorem J_cond {c : Operand} {x y : Code} (h : QZ env c (condK P G N x y env L D nid K)) : J P G N (.cond c x y) env L D nid K :=
 ⟨fun a w he hs => by
  obtain ⟨v, hv, h⟩ := Ql h
  unfold condK at h
  split at h
  ·exact wp_cond_true (by rw [he.ev hv]; rfl) (h.run a w he hs)
  ·exact wp_cond_false (by rw [he.ev hv]; rfl) (h.run a w he hs)
  ·exact h.elim⟩
def GZ (N : Nat) (dst : Option Tmp) (v : V) (env : XR) (k : XR → Prop) : Prop :=
 match dst with
 | some d => match Nat.ble (d + 1) N with
  | true => k ((d, v) :: env)
  | false => False
 | none => k env
theorem Kp {dst : Option Tmp} {v : V} {k : XR → Prop} (h : GZ N dst v env k) {a : Act} (he : XF N env a) : ∃ env', k env' ∧ XF N env' (a.put dst v.enc) := by
 unfold GZ at h
 split at h
 ·rename_i d
  split at h
  ·rename_i hle
   have hd : d < N := Nat.le_of_ble_eq_true hle
   refine ⟨_, h, ?_, ?_, ?_⟩
   ·exact he.1
   ·simp [Act.put, he.2.1]
   ·intro j u hj
    simp only [Act.put]
    by_cases hjd : d = j
    ·subst hjd
     rw [WJ] at hj
     simp only [Option.some.injEq] at hj
     subst hj
     simp [he.2.1, hd]
    ·rw [Vg _ _ hjd] at hj
     rw [Array.getElem?_setIfInBounds_ne hjd]
     exact he.2.2 j u hj
  ·exact h.elim
 ·exact ⟨env, h, he⟩
def T7 (ops : List Oper) (env : XR) (g : Nat) : Option Bool :=
 match ops[g]? with
 | some o =>
  match o.dst with
  | some d =>
   match look env d with
   | some (.c (.b b)) => some b
   | _ => none
  | none => none
 | none => none
def T8 (ops : List Oper) (env : XR) (g : Nat) : Bool :=
 match ops[g]? with
 | some o =>
  match o.dst with
  | some d =>
   match look env d with
   | some .t0 => true
   | _ => false
  | none => false
 | none => false
def OB (ops : List Oper) (env : XR) (gd : Option (Nat × Bool)) (yes no : Prop) : Prop :=
 match gd with
 | none => yes
 | some (g, want) =>
  match T7 ops env g with
  | some true => match want with
   | true => yes
   | false => no
  | some false => match want with
   | true => no
   | false => yes
  | none => match T8 ops env g with
   | true => no
   | false => False
theorem jQ {ops : List Oper} {o : Oper} {yes no : Prop} {a : Act} (he : XF N env a) (h : OB ops env o.guard yes no) :
  (Region.wanted o (yielded ops.toArray a.tmps) = true ∧ yes) ∨ (Region.wanted o (yielded ops.toArray a.tmps) = false ∧ no) := by
 unfold OB at h
 split at h
 ·rename_i hg
  exact .inl ⟨by simp [Region.wanted, hg], h⟩
 ·rename_i g want hg
  have hy : ∀ b, T7 ops env g = some b → yielded ops.toArray a.tmps g = some b := by
   intro b hb
   unfold T7 at hb
   split at hb
   ·rename_i o' ho'
    split at hb
    ·rename_i d hd
     split at hb
     ·rename_i b' hl
      simp only [Option.some.injEq] at hb
      subst hb
      have := he.2.2 _ _ hl
      simp [yielded, ho', hd, this, V.enc, C.enc]
     ·cases hb
    ·cases hb
   ·cases hb
  have hu : T8 ops env g = true → yielded ops.toArray a.tmps g = none := by
   intro hb
   unfold T8 at hb
   split at hb
   ·rename_i o' ho'
    split at hb
    ·rename_i d hd
     split at hb
     ·rename_i hl
      have := he.2.2 _ _ hl
      simp [yielded, ho', hd, this, V.enc]
     ·cases hb
    ·cases hb
   ·cases hb
  split at h
  ·rename_i hb
   have := hy _ hb
   cases want
   ·exact .inr ⟨by simp [Region.wanted, hg, this], h⟩
   ·exact .inl ⟨by simp [Region.wanted, hg, this], h⟩
  ·rename_i hb
   have := hy _ hb
   cases want
   ·exact .inl ⟨by simp [Region.wanted, hg, this], h⟩
   ·exact .inr ⟨by simp [Region.wanted, hg, this], h⟩
  ·split at h
   ·rename_i hb
    have := hu hb
    exact .inr ⟨by simp [Region.wanted, hg, this], h⟩
   ·exact h.elim
def Gz (P : Program) (T : Ty) (N : Nat) (ops : List Oper) : List Oper → XR → List Chunk → List Fact → Nat → RD → Prop
 | [], env, L, D, nid, k => k env L D nid
 | o :: rest, env, L, D, nid, k =>
  OB ops env o.guard
   (EB P T o.op env L D nid fun v L' D' n' => GZ N o.dst v env fun env' => Gz P T N ops rest env' L' D' n' k)
   (GZ N o.dst .t0 env fun env' => Gz P T N ops rest env' L D nid k)
theorem VL {T : Ty} (hT : Z4 P T) (ops : List Oper) : ∀ (l : List Oper) (env : XR) (L : List Chunk) (D : List Fact) (nid : Nat) (k : RD), Gz P T N ops l env L D nid k →
  ∀ (Q : Exit → Act → World → Prop), (∀ env' L' D' n' a' w', k env' L' D' n' → XF N env' a' → Qz G w' L' D' → Q .normal a' w') →
  ∀ a w, XF N env a → Qz G w L D → wpList P ops.toArray Q l a w
 | [], env, L, D, nid, k, h, Q, hQ, a, w, he, hs => hQ _ _ _ _ _ _ h he hs
 | o :: rest, env, L, D, nid, k, h, Q, hQ, a, w, he, hs => by
  refine wpList_step fun Kn hKn => ?_
  simp only [Gz] at h
  rcases jQ he h with ⟨hw, h⟩ | ⟨hw, h⟩
  ·rw [if_pos hw]
   refine (wt hT h he hs).wp ?_
   rintro u w' ⟨v, L', D', n', rfl, hk, hs'⟩
   refine hKn _ _ ?_
   obtain ⟨env', hk', he'⟩ := Kp hk he
   exact VL hT ops rest env' L' D' n' k hk' Q hQ _ _ he' hs'
  ·rw [if_neg (by simp [hw])]
   refine hKn _ _ ?_
   obtain ⟨env', hk', he'⟩ := Kp h he
   exact VL hT ops rest env' L D nid k hk' Q hQ _ _ he' hs
theorem Es {T : Ty} (hT : Z4 P T) {id : Nat} {ops : List Oper} (h : Gz P T N ops ops env L D nid (K .normal)) : J P G N (.region id ops.toArray false) env L D nid K :=
 ⟨fun a w he hs => wp_region_lit (VL hT ops ops env L D nid _ h _ (fun env' L' D' n' a' w' hk he' hs' => ⟨env', L', D', n', hk, he', hs'⟩) a w he hs)⟩
theorem Qb.refl (L : List Chunk) (D : List Fact) : Qb L D L D := fun _ _ h => h
theorem Qb.of {L L' : List Chunk} {D : List Fact} (h : L = L') : Qb L D L' D := h ▸ Qb.refl L D
theorem Qb.trans {L L1 L2 : List Chunk} {D D1 D2 : List Fact} (h : Qb L D L1 D1) (h' : Qb L1 D1 L2 D2) : Qb L D L2 D2 := fun G w hs => h' G w (h G w hs)
theorem Qb.perm {L L' : List Chunk} {D : List Fact} (h : L.Perm L') : Qb L D L' D := fun _ _ hs => JN h hs
theorem Qb.drop {c : Chunk} {L : List Chunk} {D : List Fact} : Qb (c :: L) D L D := fun G w hs => by
 obtain ⟨m, h1, h2⟩ := hs
 refine ⟨m, ⟨?_, h1.ok.2, fun b o hb => ?_, h1.d⟩, ⟨h2.size, h2.same, fun b hb => h2.own b (by simp [Xy, hb]), h2.im, h2.new, h2.kept⟩⟩
 ·have := h1.nd
  simp only [Xy] at this
  exact (List.nodup_append.1 this).2.1
 ·have h3 := h1.im b o hb
  exact ⟨h3.1, fun hc => h3.2 (by simp [Xy, hc])⟩
theorem Qb.cons {c : Chunk} {L L' : List Chunk} {D : List Fact} (h : ∀ G w, Qz G w (L ++ [c]) D → Qz G w (L' ++ [c]) D) : Qb (c :: L) D (c :: L') D := fun G w hs =>
 JN (List.perm_append_comm (l₁ := L') (l₂ := [c])) (h G w (JN (List.perm_append_comm (l₁ := [c]) (l₂ := L)) hs))
theorem Qb.sub {L L' : List Chunk} {D : List Fact} (h : ∃ R, L.Perm (R ++ L')) : Qb L D L' D := by
 obtain ⟨R, h⟩ := h
 refine (Qb.perm h).trans ?_
 clear h
 induction R with
 | nil => exact Qb.refl _ _
 | cons c R ih => exact Qb.drop.trans ih
theorem Qb.dropAll {L : List Chunk} {D : List Fact} : Qb L D [] D := Qb.sub ⟨L, by simp⟩
theorem Qb.facts {L : List Chunk} {D D' : List Fact} (h : ∀ m, QI m D → QI m D') : Qb L D L D' := fun _ _ ⟨m, h1, h2⟩ => ⟨m, ⟨h1.nd, h1.ok, h1.im, h m h1.d⟩, h2⟩
theorem Qb.nilRow {ety esz : Nat} {L : List Chunk} {D : List Fact} : Qb L D (.row ety esz none 0 0 [] :: L) D := fun _ _ ⟨m, h1, h2⟩ =>
 ⟨m, ⟨by simpa [Xy, Chunk.fp] using h1.nd, ⟨⟨(fun x hx => by cases hx), .inl ⟨rfl, rfl, rfl, rfl⟩⟩, h1.ok⟩, fun b o hb => by simpa [Xy, Chunk.fp] using h1.im b o hb, h1.d⟩,
  ⟨h2.size, h2.same, fun b hb => h2.own b (by simpa [Xy, Chunk.fp] using hb), h2.im, h2.new, h2.kept⟩⟩
theorem Qb.toFact {ety esz : Nat} {a : Option Addr} {n c : Nat} {cs : List C} {L : List Chunk} {D : List Fact} : Qb (.row ety esz a n c cs :: L) D L (Qf ety esz a n cs :: D) := fun G w hs => by
 have hs0 := Qb.drop G w hs
 obtain ⟨m, h1, h2⟩ := hs
 have hrow := h1.ok.1
 rcases hrow.2 with ⟨ha, hn, hc, hcs⟩ | ⟨g, ha, cur, lo, hi, hg, _, _, _, _, hcl, htk⟩
 ·obtain ⟨m', h3, h4⟩ := hs0
  exact ⟨m', ⟨h3.nd, h3.ok, h3.im, ⟨⟨hrow.1, .inl ⟨hn, hcs⟩⟩, h3.d⟩⟩, h4⟩
 ·subst ha
  have hnd := h1.nd
  simp only [Xy, Chunk.fp, Option.map_some, Option.toList_some, List.cons_append, List.nil_append, List.nodup_cons] at hnd
  have hgm : ∀ o, m g ≠ some o := fun o ho => (h1.im g o ho).2 (by simp [Xy, Chunk.fp])
  refine ⟨fun b => if b = g then some (.cells cur ety (lo, hi)) else m b, ⟨hnd.2, h1.ok.2, ?_, ?_⟩, ?_⟩
  ·intro b o hb
   by_cases hbg : b = g
   ·subst hbg
    simp only [if_true, Option.some.injEq] at hb
    exact ⟨by rw [hg, hb], hnd.1⟩
   ·simp only [if_neg hbg] at hb
    have h3 := h1.im b o hb
    exact ⟨h3.1, fun hc => h3.2 (by simp [Xy, hc])⟩
  ·refine ⟨⟨hrow.1, .inr ⟨g, 0, cur, ety, lo, hi, rfl, by simp, hcl, by simpa using htk⟩⟩, jN (fun b o hb => ?_) h1.d⟩
   by_cases hbg : b = g
   ·subst hbg; exact absurd hb (hgm o)
   ·simpa [hbg] using hb
  ·refine ⟨h2.size, h2.same, fun b hb => h2.own b (by simp [Xy, hb]), fun b o hb => ?_, fun b o hb => ?_, h2.kept⟩
   ·have h3 := h2.im b o hb
    by_cases hbg : b = g
    ·subst hbg; exact absurd h3 (hgm o)
    ·simpa [hbg] using h3
   ·by_cases hbg : b = g
    ·subst hbg
     rcases h2.own b (by simp [Xy, Chunk.fp]) with h3 | h3
     ·exact .inr (.inl h3)
     ·exact .inr (.inr h3)
    ·simp only [if_neg hbg] at hb
     exact h2.new b o hb
def CEq : C → C → Prop
 | .b x, .b y => x = y
 | .i k x, .i k' y => k = k' ∧ x = y
 | .s x, .s y => x = y
 | .sl a n c, .sl a' n' c' => a = a' ∧ n = n' ∧ c = c'
 | .p i a o, .p i' a' o' => i = i' ∧ a = a' ∧ o = o'
 | x, y => x = y
theorem CEq.eq {x y : C} (h : CEq x y) : x = y := by
 unfold CEq at h
 split at h
 ·rw [h]
 ·rw [h.1, h.2]
 ·rw [h]
 ·rw [h.1, h.2.1, h.2.2]
 ·rw [h.1, h.2.1, h.2.2]
 ·exact h
def ZB : V → V → Prop
 | .c x, .c y => CEq x y
 | x, y => x = y
theorem ZB.eq {x y : V} (h : ZB x y) : x = y := by
 unfold ZB at h
 split at h
 ·rw [h.eq]
 ·exact h
def Qh (env : XR) : XR → Prop
 | [] => True
 | (d, v) :: r => (match look env d with | some v' => ZB v' v | none => False) ∧ Qh env r
theorem Qh.nil {env : XR} : Qh env [] := trivial
theorem Qh.cons {env : XR} {d : Nat} {v v' : V} {r : XR} (h : look env d = some v') (hv : ZB v' v) (hr : Qh env r) : Qh env ((d, v) :: r) := by
 refine ⟨?_, hr⟩
 rw [h]
 exact hv
theorem ZB.refl (v : V) : ZB v v := by
 cases v with
 | c x => cases x <;> simp [ZB, CEq]
 | _ => rfl
theorem ZB.of {v v' : V} (h : v = v') : ZB v v' := h ▸ ZB.refl v
theorem ZB.int {k : IntKind} {n m : Int} (h : n = m) : ZB (.c (.i k n)) (.c (.i k m)) := ZB.of (by rw [h])
theorem ZB.str {l m : List UInt8} (h : l = m) : ZB (.c (.s l)) (.c (.s m)) := ZB.of (by rw [h])
theorem ZB.sl {a a' : Option Addr} {n n' c c' : Nat} (h : a = a') (h1 : n = n') (h2 : c = c') : ZB (.c (.sl a n c)) (.c (.sl a' n' c')) := ZB.of (by rw [h, h1, h2])
theorem ZB.agg {l m : List C} (h : l = m) : ZB (.agg l) (.agg m) := ZB.of (by rw [h])
theorem Qh.look {env : XR} : ∀ {env' : XR}, Qh env env' → ∀ d v, look env' d = some v → look env d = some v
 | (d', v') :: r, h, d, v, hl => by
  obtain ⟨h1, h2⟩ := h
  by_cases hd : d' = d
  ·subst hd
   rw [WJ] at hl
   simp only [Option.some.injEq] at hl
   subst hl
   split at h1
   ·rename_i u hu
    rw [hu, h1.eq]
   ·exact h1.elim
  ·rw [Vg _ _ hd] at hl
   exact Qh.look h2 d v hl
 | [], _, d, v, hl => by simp [X.look] at hl
theorem Qh.ok {env env' : XR} (h : Qh env env') {a : Act} (he : XF N env a) : XF N env' a := ⟨he.1, he.2.1, fun d v hl => he.2.2 d v (h.look d v hl)⟩
theorem J_ent {c : Code} {env' : XR} {L' : List Chunk} {D' : List Fact} {n' : Nat} (he : Qh env env') (hE : Qb L D L' D') (h : J P G N c env' L' D' n' K) : J P G N c env L D nid K :=
 ⟨fun a w he' hs => h.run a w (he.ok he') (hE G w hs)⟩
theorem VE {c : Code} {L' : List Chunk} {D' : List Fact} {n' : Nat} (hE : Qb L D L' D') (h : J P G N c env L' D' n' K) : J P G N c env L D nid K :=
 ⟨fun a w he' hs => h.run a w he' (hE G w hs)⟩
inductive Qq {α : Type} (E : α → XR) (LL : α → List Chunk) (DD : α → List Fact) (φ : α → Prop) (env : XR) (L : List Chunk) (D : List Fact) : Prop where
 | mk (x : α) (hφ : φ x) (he : Qh env (E x)) (hE : Qb L D (LL x) (DD x))
inductive Qo {α : Type} (E : α → XR) (LL : α → List Chunk) (DD : α → List Fact) (φ : α → Prop) (μ : α → Nat) (x : α) (env : XR) (L : List Chunk) (D : List Fact) : Prop where
 | mk (y : α) (hμ : μ y < μ x) (hφ : φ y) (he : Qh env (E y)) (hE : Qb L D (LL y) (DD y))
def Kt.loop {α : Type} (E : α → XR) (LL : α → List Chunk) (DD : α → List Fact) (φ : α → Prop) (μ : α → Nat) (x : α) (K : Kt) : Kt := fun e env L D n =>
 match e with
 | .normal => Qo E LL DD φ μ x env L D
 | e => K e env L D n
theorem Qn {body : Code} {α : Type} (E : α → XR) (LL : α → List Chunk) (DD : α → List Fact) (n : Nat) (φ : α → Prop) (μ : α → Nat) (h0 : Qq E LL DD φ env L D)
  (hr : ∀ x, φ x → J P G N body (E x) (LL x) (DD x) n (Kt.loop E LL DD φ μ x K)) : J P G N (.loop body) env L D nid K :=
 ⟨fun a w he hs => by
  obtain ⟨x0, hφ, he0, hE0⟩ := h0
  refine wp_loop_ghost (fun k a w => ∃ x, φ x ∧ μ x = k ∧ XF N (E x) a ∧ Qz G w (LL x) (DD x)) (μ x0) ⟨x0, hφ, rfl, he0.ok he, hE0 G w hs⟩ ?_
  rintro k a w ⟨x, hx, rfl, he, hs⟩
  refine wp_mono ((hr x hx).run a w he hs) ?_
  rintro e a' w' ⟨env', L', D', n', hk, he', hs'⟩
  cases e with
  | normal =>
   obtain ⟨y, hμ, hφ', hey, hEy⟩ := hk
   exact ⟨μ y, hμ, y, hφ', rfl, hey.ok he', hEy G w' hs'⟩
  | exit id => exact ⟨env', L', D', n', hk, he', hs'⟩
  | goto l => exact ⟨env', L', D', n', hk, he', hs'⟩
  | ret => exact ⟨env', L', D', n', hk, he', hs'⟩
  | panic ch => exact ⟨env', L', D', n', hk, he', hs'⟩
  | outgrown => exact ⟨env', L', D', n', hk, he', hs'⟩⟩
def Kt.cut {α : Type} (E : α → XR) (LL : α → List Chunk) (DD : α → List Fact) (φ : α → Prop) (K : Kt) : Kt := fun e env L D n =>
 match e with
 | .normal => Qq E LL DD φ env L D
 | e => K e env L D n
theorem Kj {x y : Code} {α : Type} (E : α → XR) (LL : α → List Chunk) (DD : α → List Fact) (n : Nat) (φ : α → Prop) (h : J P G N x env L D nid (Kt.cut E LL DD φ K))
  (hy : ∀ z, φ z → J P G N y (E z) (LL z) (DD z) n K) : J P G N (.seq x y) env L D nid K :=
 Yk ⟨fun a w he hs => wp_mono (h.run a w he hs) (by
  rintro e a' w' ⟨env', L', D', n', hk, he', hs'⟩
  cases e with
  | normal =>
   obtain ⟨z, hφ, hez, hEz⟩ := hk
   exact ⟨_, _, _, n, hy z hφ, hez.ok he', hEz G w' hs'⟩
  | exit id => exact ⟨env', L', D', n', hk, he', hs'⟩
  | goto l => exact ⟨env', L', D', n', hk, he', hs'⟩
  | ret => exact ⟨env', L', D', n', hk, he', hs'⟩
  | panic ch => exact ⟨env', L', D', n', hk, he', hs'⟩
  | outgrown => exact ⟨env', L', D', n', hk, he', hs'⟩)⟩
def UL (T : Ty) (env : XR) (L : List Chunk) (D : List Fact) : List ResultVar → (List V → Prop) → Prop
 | [], k => k []
 | .tmp t :: r, k => match look env t with
  | some v => UL T env L D r fun l => k (v :: l)
  | none => False
 | .cell a ty :: r, k => match look env a with
  | some (.c (.p id ad off)) => jo T ty (.c (.p id ad off)) L D fun v => UL T env L D r fun l => k (v :: l)
  | _ => False
def Po (l : List V) (k : V → Prop) : Prop :=
 match l with
 | [] => k .t0
 | [x] => k x
 | [x, y] => k (.t2 x y)
 | [x, y, z] => k (.t3 x y z)
 | [x, y, z, u] => k (.t4 x y z u)
 | _ => False
inductive Qe (post : V → List Chunk → List Fact → Prop) (L : List Chunk) (D : List Fact) (v : V) : Prop where
 | mk (L' : List Chunk) (D' : List Fact) (h : post v L' D') (hE : Qb L D L' D')
def Kt.fin (T : Ty) (rs : List ResultVar) (post : V → List Chunk → List Fact → Prop) : Kt := fun e env L D _ =>
 match e with
 | .ret => UL T env L D rs fun l => Po l (Qe post L D)
 | .normal => UL T env L D rs fun l => Po l (Qe post L D)
 | _ => False
def LK (a : Act) : ResultVar → Sem Value
 | .tmp t => pure (a.tmps.getD t undef)
 | .cell x t => do loadVar t (← asAddr (a.tmps.getD x undef))
theorem zF {T : Ty} (hT : Z4 P T) {a : Act} {w : World} (he : XF N env a) (hs : Qz G w L D) : ∀ {rs : List ResultVar} {k : List V → Prop}, UL T env L D rs k →
  ∃ l, k l ∧ (rs.mapM (LK a)).run P w = .ok (l.map V.enc) w
 | [], k, h => ⟨[], h, by simp⟩
 | .tmp t :: r, k, h => by
  simp only [UL] at h
  split at h
  ·rename_i v hv
   obtain ⟨l, hk, hr⟩ := zF hT he hs h
   refine ⟨_, hk, ?_⟩
   have := he.2.2 _ _ hv
   simp [List.mapM_cons, LK, this, hr]
  ·exact h.elim
 | .cell x ty :: r, k, h => by
  simp only [UL] at h
  split at h
  ·rename_i id ad off hv
   obtain ⟨v, h, hl⟩ := z7 hT h hs
   obtain ⟨l, hk, hr⟩ := zF hT he hs h
   refine ⟨_, hk, ?_⟩
   have := he.2.2 _ _ hv
   simp only [Instr.loadAt, V.enc, C.enc, Instr.sureAddr, Sem.run_bind, Sem.run_pure, Result.andThen_ok] at hl
   simp [List.mapM_cons, LK, this, V.enc, C.enc, asAddr, hl, hr]
  ·exact h.elim
theorem Tk {l : List V} {k : V → Prop} (h : Po l k) : ∃ v, k v ∧ (if h : (l.map V.enc).toArray.size = 1 then (l.map V.enc).toArray[0] else .tuple (l.map V.enc).toArray) = v.enc := by
 unfold Po at h
 split at h <;> first | exact ⟨_, h, rfl⟩ | exact h.elim
theorem GQ {T : Ty} (hT : Z4 P T) {fn : Func} {a : Act} {w : World} (he : XF N env a) (hs : Qz G w L D) {k : V → Prop} (h : UL T env L D fn.results.toList fun l => Po l k) :
  ∃ v, k v ∧ (results fn a.tmps).run P w = .ok v.enc w := by
 obtain ⟨l, h, hr⟩ := zF hT he hs h
 obtain ⟨v, hk, hv⟩ := Tk h
 refine ⟨v, hk, ?_⟩
 have e : results fn a.tmps = (do
   let vs ← fn.results.mapM (LK a)
   pure (if h : vs.size = 1 then vs[0] else .tuple vs)) := by
  unfold results
  congr 1
 rw [e]
 simp only [Sem.run_bind, Array.mapM_eq_mapM_toList, Sem.run_map]
 rw [hr]
 simp only [Result.andThen_ok, Sem.run_pure]
 rw [hv]
end
def zW : Nat → List V → XR
 | _, [] => []
 | i, v :: r => (i, v) :: zW (i + 1) r
theorem j7 : ∀ (l : List V) (i j : Nat) (v : V), look (zW i l) j = some v → i ≤ j ∧ l[j - i]? = some v
 | [], i, j, v, h => by simp [zW, look] at h
 | x :: r, i, j, v, h => by
  simp only [zW] at h
  by_cases hij : i = j
  ·subst hij
   rw [WJ] at h
   simpa using h
  ·rw [Vg _ _ hij] at h
   obtain ⟨h1, h2⟩ := j7 r (i + 1) j v h
   refine ⟨by omega, ?_⟩
   rw [show j - i = (j - (i + 1)) + 1 by omega]
   simpa using h2
theorem Nl {P : Program} {T : Ty} (hT : Z4 P T) {f : FuncId} {fn : Func} {c : Code} {args : List V} {L : List Chunk} {D : List Fact} {post : V → List Chunk → List Fact → Prop} {N : Nat} {rs : List ResultVar} (nid : Nat)
  (hf : P.funcs[f]? = some fn) (hnm : (fn.name == "runtime.NumGoroutine") = false) (hb : fn.body = some c) (hN : fn.ntmps = N) (hr : fn.results.toList = rs) (hlen : args.length ≤ N)
  (h : ∀ G, J P G N c (zW 0 args) L D nid (Kt.fin T rs post)) : FnS P f args L D post := by
 refine ⟨⟨fn, hf, hnm, by simp [hb]⟩, fun w m hh => ?_⟩
 refine calls_of_wp hf hb ?_
 have he : XF N (zW 0 args) { tmps := (args.map V.enc).toArray ++ Array.replicate (fn.ntmps - (args.map V.enc).toArray.size) undef, defers := [] } := by
  refine ⟨rfl, by simp; omega, fun d v hl => ?_⟩
  obtain ⟨_, h2⟩ := j7 _ _ _ _ hl
  simp only [Nat.sub_zero] at h2
  have hlt : d < args.length := (List.getElem?_eq_some_iff.1 h2).1
  rw [Array.getElem?_append_left (by simpa using hlt)]
  simp [h2]
 have hs : Qz ⟨w, L, m⟩ w L D := ⟨m, hh, Fr.refl _ _ _⟩
 refine wp_mono ((h ⟨w, L, m⟩).run _ _ he hs) ?_
 rintro e a' w' ⟨env', L', D', n', hk, he', hs'⟩
 subst hr
 have fin : (UL T env' L' D' fn.results.toList fun l => Po l (Qe post L' D')) → a'.defers = [] ∧ ∃ v, (results fn a'.tmps).run P w' = .ok v w' ∧
   ∃ v' L' D' m', Ending.returned v = .returned v'.enc ∧ post v' L' D' ∧ Wa w' m' L' D' ∧ Fr w L m w' L' m' := fun hk => by
  obtain ⟨v, ⟨L2, D2, hp, hE⟩, hv⟩ := GQ (fn := fn) hT he' hs' hk
  obtain ⟨m2, h1, h2⟩ := hE ⟨w, L, m⟩ w' hs'
  exact ⟨he'.1, v.enc, hv, v, L2, D2, m2, rfl, hp, h1, h2⟩
 cases e with
 | normal => exact fin hk
 | ret => exact fin hk
 | exit id => exact hk.elim
 | goto l => exact hk.elim
 | panic ch => exact hk.elim
 | outgrown => exact hk.elim
end Go.X
