/- This text walks through the statements TitleAncestors and TitleBelow: each answers true. -/
import Derived.Test.YtimekkilmffpiaaDoorLawsB
set_option linter.all false

namespace Go.Proofs
open Go Go.X
set_option maxRecDepth 100000

theorem sameSelf_ok (e1 e2 : Nat) (a b : Option Addr) (n m c d : Nat) (la : List (Int × List UInt8)) (hn : n = la.length) (hm : m = la.length) (hs : n ≤ 1000000) :
    FnS Tryd.prog 22 [.c (.sl a n c), .c (.sl b m d)] [] [slFact e1 2 a n (tC la), slFact e2 2 b m (tC la)] (Is (.c (.b true))) := by
  have := sameTitles_ok e1 e2 a b n m c d la la hn hm hs
  rwa [decide_eq_true rfl] at this

theorem ancT_le (sp : Int) (s : List UInt8) : (ancT sp s).length ≤ s.length := by
  unfold ancT
  split
  · exact ancL_le s _
  · simp

theorem tC_get1 : ∀ {l : List (Int × List UInt8)} {i : Nat} (h : i < l.length), ((tC l).drop (i * 2 + (0 + 1))).take 1 = [.s l[i].2]
  | x :: r, 0, _ => rfl
  | x :: r, i + 1, h => by
    have ih := tC_get1 (l := r) (i := i) (by simpa using h)
    have e : (i + 1) * 2 + (0 + 1) = (i * 2 + (0 + 1)) + 1 + 1 := by omega
    rw [e]
    exact ih

/-- The titles ahead of a title. -/
def ancP (sp : Int) (s : List UInt8) : List (Int × List UInt8) := (ancT sp s).map fun p => (sp, p)
theorem ancP_len (sp : Int) (s : List UInt8) : (ancP sp s).length = (ancT sp s).length := by simp [ancP]

theorem tC_take (l : List (Int × List UInt8)) (i : Nat) (h : i ≤ l.length) : (tC l).take (i * 2) = tC (l.take i) := by
  induction l generalizing i with
  | nil => have : i = 0 := by simpa using h
           subst this; rfl
  | cons x r ih =>
    cases i with
    | zero => rfl
    | succ i =>
      have := ih i (by simpa using h)
      rw [show (i + 1) * 2 = i * 2 + 1 + 1 by omega]
      simp only [tC, List.flatMap_cons, List.cons_append, List.nil_append, List.take_succ_cons] at this ⊢
      rw [this]

theorem titleAncestors_law (sp : Int) (s : List UInt8) (hs : s.length ≤ maxLen) : FnS Tryd.prog 9 [.agg [.i .i64 sp, .s s]] [] [gInt 0] (Is tt) := by
  simp only [maxLen] at hs
  by_cases hlen : s.length ≤ 400
  rotate_left
  · refine fn_of_J Tryd.tyOK 0 Tryd.func9 (by kernel_rfl) (c := Tryd.f9.body.getD .skip) (by kernel_rfl) Tryd.ntmps9 (rs := Tryd.f9.results.toList) rfl (by simp) (fun G => ?_)
    repeat' first
      | refine J_seq ?_ | refine J_region Tryd.tyOK ?_ | refine J_block ?_ | refine J_cond ?_ | refine J_ret ?_ | refine J_skip ?_ | refine J_exit ?_
      | refine CondP.yes (by omega) ?_ | refine CondP.no (by omega) ?_ | refine CondP.mk (fun h => ?_) (fun h => ?_) | refine EqP.mk rfl ?_ | refine NewP.mk (fun ad => ?_) | refine ArP.exact (by simp only [inR]; omega) ?_ | refine SideP.mk (by first | omega | (dsimp only; omega) | (simp; omega)) ?_
      | refine CallP.is known_ok ?_ | refine FinE.is ?_
      | fail
    rfl
  have c1 := ancestors_ok sp s (by omega)
  have c2 := refAncestors_ok sp s (by omega)
  simp only [titlesC_eq] at c1 c2
  have hle := ancT_le sp s
  have hlp := ancP_len sp s
  rw [← hlp] at hle
  simp only [← hlp] at c1 c2
  have hel : ∀ i, i < (ancT sp s).length → _ := fun i h => anc_elem (sp := sp) (s := s) (i := i) h
  have hgt : ∀ i, i < (ancP sp s).length → (ancP sp s).getD i (0, []) = (sp, (ancT sp s).getD i []) := fun i h => by
    have h' : i < (ancT sp s).length := by omega
    simp [ancP, h']
  have htk : ∀ i, i < (ancP sp s).length → ancP sp ((ancT sp s).getD i []) = (ancP sp s).take i := fun i h => by
    unfold ancP
    rw [(anc_elem (sp := sp) (s := s) (i := i) (by omega)).2.2, List.map_take]
  change FnS _ _ _ _ _ (fun v L D => ∃ a c, v = .c (.sl a (ancP sp s).length c) ∧ L = [.row 24 2 a (ancP sp s).length c (tC (ancP sp s))] ∧ D = []) at c1 c2
  refine fn_of_J Tryd.tyOK 0 Tryd.func9 (by kernel_rfl) (c := Tryd.f9.body.getD .skip) (by kernel_rfl) Tryd.ntmps9 (rs := Tryd.f9.results.toList) rfl (by simp) (fun G => ?_)
  repeat' first
    | refine J_stop (c := .seq (.seq (.region 4 _ _) _) _) ?_
    | refine J_seq ?_ | refine J_region Tryd.tyOK ?_ | refine J_block ?_ | refine J_cond ?_ | refine J_ret ?_ | refine J_skip ?_ | refine J_exit ?_
    | refine CondP.yes (by omega) ?_ | refine CondP.no (by omega) ?_ | refine CondP.mk (fun h => ?_) (fun h => ?_) | refine EqP.mk rfl ?_ | refine NewP.mk (fun ad => ?_) | refine ArP.exact (by simp only [inR]; omega) ?_ | refine SideP.mk (by first | omega | (dsimp only; omega) | (simp; omega)) ?_
    | refine CallP.mk [] _ _ _ c1 (List.Perm.refl _) (fun _ h => h) (fun v L' D' hp => ?_); obtain ⟨a, c, rfl, rfl, rfl⟩ := hp
    | fail
  refine ⟨?_⟩
  refine J_cap (List.Mem.head _) (fun hnc _ _ => ?_)
  refine J_mem (n' := 1) Ents.toFact ?_
  have hD : ∀ L, Reads L [slFact 24 2 a (ancP sp s).length (tC (ancP sp s)), gInt 0] 24 2 a (ancP sp s).length (tC (ancP sp s)) := fun L => .inr fun m h => h.1
  have c3 := fun (e1 e2 : Nat) (a b : Option Addr) (c d : Nat) => sameSelf_ok e1 e2 a b _ _ c d (ancP sp s) rfl rfl (by omega)
  refine J_seq ?_
  repeat' first
    | refine J_stop (c := .seq (.seq (.region 6 _ _) _) _) ?_
    | refine J_seq ?_ | refine J_region Tryd.tyOK ?_ | refine J_block ?_ | refine J_cond ?_ | refine J_ret ?_ | refine J_skip ?_ | refine J_exit ?_
    | refine CondP.yes (by omega) ?_ | refine CondP.no (by omega) ?_ | refine CondP.mk (fun h => ?_) (fun h => ?_) | refine EqP.mk rfl ?_ | refine NewP.mk (fun ad => ?_) | refine ArP.exact (by simp only [inR]; omega) ?_ | refine SideP.mk (by first | omega | (dsimp only; omega) | (simp; omega)) ?_
    | refine CallP.mk [] _ _ _ c2 (List.Perm.refl _) (fun _ h => h.2) (fun v L' D' hp => ?_); obtain ⟨b, d, rfl, rfl, rfl⟩ := hp | refine CallP.isE (c3 24 24 _ _ _ _) Ents.toFact (fun _ h => ⟨h.2.1, h.1, trivial⟩) ?_
    | fail
  refine ⟨?_⟩
  refine J_seq ?_
  repeat' first
    | refine J_seq ?_ | refine J_region Tryd.tyOK ?_ | refine J_block ?_ | refine J_cond ?_ | refine J_ret ?_ | refine J_skip ?_ | refine J_exit ?_
    | refine CondP.yes (by omega) ?_ | refine CondP.no (by omega) ?_ | refine CondP.mk (fun h => ?_) (fun h => ?_) | refine EqP.mk rfl ?_ | refine NewP.mk (fun ad => ?_) | refine ArP.exact (by simp only [inR]; omega) ?_ | refine SideP.mk (by first | omega | (dsimp only; omega) | (simp; omega)) ?_
    | fail
    | fail
  refine J_loop (α := Nat) (fun i => [(1, .c (.p 0 ad 0)), (3, .c (.sl a (ancP sp s).length c)), (4, .c (.i .i64 i))]) (fun _ => [.box 0 ad 24 [.i .i64 sp, .s s]])
    (fun _ => [slFact 24 2 a (ancP sp s).length (tC (ancP sp s)), gInt 0]) 1 (fun i => i ≤ (ancP sp s).length) (fun i => (ancP sp s).length - i)
    (InFam.mk 0 (by omega) (by repeat' first | exact SubE.nil | refine SubE.cons rfl ?_ ?_ | exact VEq.refl _ | refine VEq.int (by omega) | refine VEq.sl rfl (by first | rfl | omega | (rw [List.length_append]; rfl) | (simp; omega)) rfl) (Ents.facts fun _ h => h.2)) (fun i hi => ?_)
  by_cases hlt : i < (ancP sp s).length
  · have hel := anc_elem (sp := sp) (s := s) (i := i) (by omega)
    have hgt := hgt i hlt
    have htk := htk i hlt
    have hg := tC_get hlt
    have hg1 := tC_get1 hlt
    have hgd : (ancP sp s)[i] = (sp, (ancT sp s).getD i []) := by rw [← hgt]; simp [hlt]
    rw [hgd] at hg hg1
    dsimp only at hg hg1
    generalize (ancT sp s).getD i [] = p at *
    obtain ⟨hv, hpl, hta⟩ := hel
    have d1 := valid_ok sp p (by omega)
    rw [hv] at d1
    have d2 := ancestors_ok sp p (by omega)
    simp only [titlesC_eq] at d2
    change FnS _ _ _ _ _ (fun v L D => ∃ a c, v = .c (.sl a (ancT sp p).length c) ∧ L = [.row 24 2 a (ancT sp p).length c (tC (ancP sp p))] ∧ D = []) at d2
    rw [← ancP_len, htk] at d2
    have hti : ((ancP sp s).take i).length = i := by simp; omega
    rw [hti] at d2
    have d3 := fun (e1 e2 : Nat) (a b : Option Addr) (c d : Nat) => sameSelf_ok e1 e2 a b i i c d ((ancP sp s).take i) hti.symm hti.symm (by omega)
    repeat' first
      | refine J_seq ?_ | refine J_region Tryd.tyOK ?_ | refine J_block ?_ | refine J_cond ?_ | refine J_ret ?_ | refine J_skip ?_ | refine J_exit ?_
      | refine CondP.yes (by omega) ?_ | refine CondP.no (by omega) ?_ | refine CondP.mk (fun h => ?_) (fun h => ?_) | refine EqP.mk rfl ?_ | refine NewP.mk (fun ad => ?_) | refine ArP.exact (by simp only [inR]; omega) ?_ | refine SideP.mk (by first | omega | (dsimp only; omega) | (simp; omega)) ?_
      | refine J_drawS (id := 9) Tryd.tyOK (by kernel_rfl) [0, 0, 3, 7, 15, 31, 63, 127, 127, 511, 1023, 2047, 4095, 127, 8319, 24703, 65535, 131071, 262143, 524287, 524287, 2097151, 4194303, 8388607, 524287, 524287, 50855935, 134217727, 268435455, 536870911] [0, 1, 2, 3, 4, 5, 6, 7, 8, 9, 10, 11, 12, 13, 14, 15, 16, 17, 18, 19, 20, 21, 22, 24, 25, 26, 23, 27, 28, 29] [23, 27] [1, 25, 32, 44] true (by kernel_rfl) ?_ | refine EntP.mk (Ents.ofSub (by repeat (first | exact List.Sublist.slnil | refine List.Sublist.cons_cons _ ?_ | refine List.Sublist.cons _ ?_)) (by first | exact fun _ h => h | exact fun _ _ => trivial | exact fun _ h => h.2)) ?_ | refine IdxE.mk 24 2 _ (hD _) (by omega) (by omega) ?_ | refine LoadE.mk 24 _ _ _ (hD _) (by omega) (by omega) (by omega) hg ?_ | refine LoadE.mk 24 _ _ _ (hD _) (by omega) (by omega) (by decide) hg1 ?_ | refine FldE.mk 24 2 _ _ (hD _) (by omega) ?_ | refine CallQ.mk [gInt 0] _ d1 (fun _ h => h.2) ?_ | refine CallP.mk [] _ _ _ d2 (List.Perm.refl _) (fun _ h => h.2) (fun v L' D' hp => ?_); obtain ⟨b, d, rfl, rfl, rfl⟩ := hp | refine CallP.isE (d3 24 24 _ _ _ _) Ents.toFact (fun _ h => ⟨h.1, by have := slFact_pre c h.2.1 (show i ≤ _ by omega); rw [tC_take _ _ (by omega)] at this; exact this, trivial⟩) ?_ | refine FinE.is ?_ | refine Round.mk (i + 1) (by omega) (by omega) (by repeat' first | exact SubE.nil | refine SubE.cons rfl ?_ ?_ | exact VEq.refl _ | refine VEq.int (by omega) | refine VEq.sl rfl (by first | rfl | omega | (rw [List.length_append]; rfl) | (simp; omega)) rfl) (Ents.facts fun _ h => h.2)
      | fail
  · have hil : i = (ancP sp s).length := by omega
    subst hil
    repeat' first
      | refine J_seq ?_ | refine J_region Tryd.tyOK ?_ | refine J_block ?_ | refine J_cond ?_ | refine J_ret ?_ | refine J_skip ?_ | refine J_exit ?_
      | refine CondP.yes (by omega) ?_ | refine CondP.no (by omega) ?_ | refine CondP.mk (fun h => ?_) (fun h => ?_) | refine EqP.mk rfl ?_ | refine NewP.mk (fun ad => ?_) | refine ArP.exact (by simp only [inR]; omega) ?_ | refine SideP.mk (by first | omega | (dsimp only; omega) | (simp; omega)) ?_
      | refine CallP.is known_ok ?_ (fun _ h => h.2) | refine FinE.is ?_
      | fail
    rfl

def belowB : Bool := (List.range 6).all fun sp => tapeNames.all fun n => tapeNames.all fun m =>
  decide (resolveT (sp : Int) n ([32, 47] ++ m) = ((sp : Int), (n ++ [47]) ++ m, 0)) && (decide ((ancT (sp : Int) n).length < (ancT (sp : Int) ((n ++ [47]) ++ m)).length) &&
  decide ((ancT (sp : Int) ((n ++ [47]) ++ m)).getD (ancT (sp : Int) n).length [] = n))
theorem belowB_true : belowB = true := by decide +kernel

theorem below_all {sp : Int} {n m : List UInt8} (h0 : 0 ≤ sp) (h1 : sp < 6) (hn : n ∈ tapeNames) (hm : m ∈ tapeNames) :
    resolveT sp n ([32, 47] ++ m) = (sp, (n ++ [47]) ++ m, 0) ∧ (ancT sp n).length < (ancT sp ((n ++ [47]) ++ m)).length ∧ (ancT sp ((n ++ [47]) ++ m)).getD (ancT sp n).length [] = n := by
  obtain ⟨k, rfl⟩ : ∃ k : Nat, sp = k := ⟨sp.toNat, by omega⟩
  have h := belowB_true
  unfold belowB at h
  have h2 := List.all_eq_true.1 (List.all_eq_true.1 (List.all_eq_true.1 h k (by simp; omega)) n hn) m hm
  simp only [Bool.and_eq_true, decide_eq_true_eq] at h2
  exact ⟨h2.1, h2.2.1, h2.2.2⟩

theorem tapeNames_mem (k : Nat) (hk : k < 10) : tapeNames.getD k [] ∈ tapeNames := by
  rw [List.getD_eq_getElem?_getD, List.getElem?_eq_getElem (show k < tapeNames.length from hk)]
  exact List.getElem_mem _

theorem names_short : ∀ n ∈ tapeNames, n.length ≤ 10 := by decide

theorem titleBelow_law (e : Nat) (a : Option Addr) (c : Nat) (l : List Int) (hl : l.length ≤ maxLen) : FnS Tryd.prog 10 [.c (.sl a l.length c)] [] [slFact e 1 a l.length (l.map (C.i .i64)), gInt 0] (Is tt) := by
  have k1 := tapeTitle_ok e a c (l := l) (hl := hl)
  obtain ⟨p1, hp1⟩ : ∃ p, tAt l (tAt l 0) = p := ⟨_, rfl⟩
  have hp1l : p1 ≤ l.length := by rw [← hp1]; exact tAt_le (tAt_le (Nat.zero_le _))
  have n1 := tNext_range l 0 (n := 6) (by omega)
  have n2 := tNext_range l (tAt l 0) (n := 10) (by omega)
  have n4 := tNext_range l (tAt l p1) (n := 10) (by omega)
  have m1 := tapeNames_mem (tNext l (tAt l 0) 10).toNat (by omega)
  have m2 := tapeNames_mem (tNext l (tAt l p1) 10).toNat (by omega)
  have t1 := fun ad => k1 ad 0 (Nat.zero_le _)
  have t2 := fun ad => k1 ad p1 hp1l
  rw [hp1] at t1
  clear k1
  generalize tNext l 0 6 = sp at *
  generalize tapeNames.getD (tNext l (tAt l 0) 10).toNat [] = n at *
  generalize tNext l p1 6 = sp2 at *
  generalize tapeNames.getD (tNext l (tAt l p1) 10).toNat [] = m at *
  have ln := names_short n m1
  have lm := names_short m m2
  obtain ⟨h1, h2, h3⟩ := below_all n1.1 n1.2 m1 m2
  have c1 := resolve_ok sp n ([32, 47] ++ m) (by omega) (by simp; omega)
  rw [h1] at c1
  have c2 := ancestors_ok sp ((n ++ [47]) ++ m) (by simp; omega)
  have c3 := ancestors_ok sp n (by omega)
  simp only [titlesC_eq] at c2 c3
  rw [← ancP_len, ← ancP_len] at h2
  rw [← ancP_len] at h3
  have hg := tC_get h2
  have hgd : (ancP sp ((n ++ [47]) ++ m))[(ancP sp n).length] = (sp, n) := by
    have : (ancP sp ((n ++ [47]) ++ m))[(ancP sp n).length] = (sp, (ancT sp ((n ++ [47]) ++ m)).getD (ancP sp n).length []) := by
      have h' : (ancP sp n).length < (ancT sp ((n ++ [47]) ++ m)).length := by rw [← ancP_len]; exact h2
      simp [ancP] at h' ⊢
      simp [h']
    rw [this, h3]
  rw [hgd] at hg
  dsimp only at hg
  clear hgd h3 h1
  simp only [← ancP_len] at c2 c3
  change FnS _ _ _ _ _ (fun v L D => ∃ a c, v = .c (.sl a (ancP sp ((n ++ [47]) ++ m)).length c) ∧ L = [.row 24 2 a (ancP sp ((n ++ [47]) ++ m)).length c (tC (ancP sp ((n ++ [47]) ++ m)))] ∧ D = []) at c2
  change FnS _ _ _ _ _ (fun v L D => ∃ a c, v = .c (.sl a (ancP sp n).length c) ∧ L = [.row 24 2 a (ancP sp n).length c (tC (ancP sp n))] ∧ D = []) at c3
  generalize hA : ancP sp ((n ++ [47]) ++ m) = A at *
  generalize hB : (ancP sp n).length = k at *
  refine fn_of_J Tryd.tyOK 0 Tryd.func10 (by kernel_rfl) (c := Tryd.f10.body.getD .skip) (by kernel_rfl) Tryd.ntmps10 (rs := Tryd.f10.results.toList) rfl (by simp) (fun G => ?_)
  repeat' first
    | refine J_stop (c := .seq (.region 2 _ _) _) ?_
    | refine J_seq ?_ | refine J_region Tryd.tyOK ?_ | refine J_block ?_ | refine J_cond ?_ | refine J_ret ?_ | refine J_skip ?_ | refine J_exit ?_
    | refine CondP.yes (by omega) ?_ | refine CondP.no (by omega) ?_ | refine CondP.mk (fun h => ?_) (fun h => ?_) | refine EqP.mk rfl ?_ | refine NewP.mk (fun ad => ?_) | refine ArP.exact (by simp only [inR]; omega) ?_ | refine SideP.mk (by first | omega | (dsimp only; omega) | (simp; omega)) ?_
    | refine CallP.mk [] _ [] _ (new_ok _ _ _) (List.Perm.refl _) (fun _ _ => trivial) (fun v L' D' hp => ?_); obtain ⟨ad, rfl, rfl, rfl⟩ := hp
    | fail
  refine ⟨?_⟩
  refine J_seq ?_
  repeat' first
    | refine J_stop (c := .seq (.region 4 _ _) _) ?_
    | refine J_seq ?_ | refine J_region Tryd.tyOK ?_ | refine J_block ?_ | refine J_cond ?_ | refine J_ret ?_ | refine J_skip ?_ | refine J_exit ?_
    | refine CondP.yes (by omega) ?_ | refine CondP.no (by omega) ?_ | refine CondP.mk (fun h => ?_) (fun h => ?_) | refine EqP.mk rfl ?_ | refine NewP.mk (fun ad => ?_) | refine ArP.exact (by simp only [inR]; omega) ?_ | refine SideP.mk (by first | omega | (dsimp only; omega) | (simp; omega)) ?_
    | refine CallP.mk [_] _ [slFact e 1 a l.length (l.map (C.i .i64))] _ (t1 _) (List.Perm.refl _) (fun _ h => ⟨h.1, trivial⟩) (fun v L' D' hp => ?_); obtain ⟨rfl, rfl, rfl⟩ := hp | refine CallP.mk [_] _ [slFact e 1 a l.length (l.map (C.i .i64))] _ (t2 _) (List.Perm.refl _) (fun _ h => ⟨h.1, trivial⟩) (fun v L' D' hp => ?_); obtain ⟨rfl, rfl, rfl⟩ := hp | refine CallP.is c1 ?_ (fun _ h => h.2)
    | fail
  refine ⟨?_⟩
  refine J_seq ?_
  repeat' first
    | refine J_stop (c := .seq (.region 5 _ _) _) ?_
    | refine J_seq ?_ | refine J_region Tryd.tyOK ?_ | refine J_block ?_ | refine J_cond ?_ | refine J_ret ?_ | refine J_skip ?_ | refine J_exit ?_
    | refine CondP.yes (by omega) ?_ | refine CondP.no (by omega) ?_ | refine CondP.mk (fun h => ?_) (fun h => ?_) | refine EqP.mk rfl ?_ | refine NewP.mk (fun ad => ?_) | refine ArP.exact (by simp only [inR]; omega) ?_ | refine SideP.mk (by first | omega | (dsimp only; omega) | (simp; omega)) ?_
    | refine CallP.mk [] _ [gInt 0] _ c2 (List.Perm.refl _) (fun _ h => h.2) (fun v L' D' hp => ?_); obtain ⟨b, d, rfl, rfl, rfl⟩ := hp
    | fail
  refine ⟨?_⟩
  refine J_mem (n' := 3) Ents.toFact ?_
  have hD : ∀ L D, Reads L (slFact 24 2 b A.length (tC A) :: D) 24 2 b A.length (tC A) := fun L D => .inr fun m h => h.1
  refine J_seq ?_
  repeat' first
    | refine J_seq ?_ | refine J_region Tryd.tyOK ?_ | refine J_block ?_ | refine J_cond ?_ | refine J_ret ?_ | refine J_skip ?_ | refine J_exit ?_
    | refine CondP.yes (by omega) ?_ | refine CondP.no (by omega) ?_ | refine CondP.mk (fun h => ?_) (fun h => ?_) | refine EqP.mk rfl ?_ | refine NewP.mk (fun ad => ?_) | refine ArP.exact (by simp only [inR]; omega) ?_ | refine SideP.mk (by first | omega | (dsimp only; omega) | (simp; omega)) ?_
    | refine J_drawS (id := 5) Tryd.tyOK (by kernel_rfl) [0, 1, 3, 7, 15, 7, 39, 127, 255, 511, 1023, 2047, 1023, 5119, 13311, 1023, 33791, 127999, 262143, 524287, 1048575, 2097151, 4194303, 2097151, 10485759, 27262975, 67108863, 134217727, 268435455, 536870911, 536870911, 1610612735, 3758096383, 8589934591, 17179869183, 536870911, 68719476735, 137438953471, 274877906943, 549755813887, 1099511627775, 2199023255551] [0, 1, 2, 3, 4, 5, 6, 7, 8, 9, 10, 11, 12, 13, 14, 15, 16, 17, 18, 19, 20, 21, 22, 23, 24, 25, 26, 27, 28, 29, 30, 35, 31, 32, 33, 34, 36, 37, 38, 39, 40, 41] [24, 31] [4, 5, 6, 58] true (by kernel_rfl) ?_ | refine EntP.mk (Ents.ofSub (by repeat (first | exact List.Sublist.slnil | refine List.Sublist.cons_cons _ ?_ | refine List.Sublist.cons _ ?_)) (by first | exact fun _ h => h | exact fun _ _ => trivial | exact fun _ h => h.2)) ?_ | refine IdxE.mk 24 2 _ (hD _ _) (by omega) (by omega) ?_ | refine LoadE.mk 24 _ _ _ (hD _ _) (by omega) (by omega) (by omega) hg ?_ | refine CallP.mk [] _ [gInt 0] _ c3 (List.Perm.refl _) (fun _ h => h.2.2) (fun v L' D' hp => ?_); obtain ⟨b2, d2, rfl, rfl, rfl⟩ := hp | refine CallQ.mk [gInt 0] _ known_ok (fun _ h => h.2.2) ?_ | refine FinE.is ?_ | refine SideP.mk (by simp; omega) ?_
    | fail
  all_goals first | rfl | (exfalso; simp at *)

end Go.Proofs
