/- This text proves the statement HtmlReferences for every input: the call returns true, and leaves its argument alone. -/
import Derived.Test.YtdnkeinjfddmnaaGreatDoorW15
import Derived.Test.YtdnkeinjfddmnaaGreatDoorW14
import Derived.Test.YtdnkeinjfddmnaaGreatDoorW05
set_option linter.all false
namespace Go.Proofs
open Go Go.X Go.Lib
set_option maxRecDepth 100000
def notePat (j : Nat) : List UInt8 := [108, 105, 32, 105, 100, 61, 34, 110, 111, 116, 101, 45] ++ itoa ((j : Int) + 1) ++ [34]
theorem itoa_succ (j : Nat) : itoa ((j : Int) + 1) = decDigits (j + 1) := by
  unfold itoa
  rw [if_neg (by omega), show ((j : Int) + 1).toNat = j + 1 by omega]
theorem notePat_inj {i j : Nat} (h : notePat i = notePat j) : i = j := by
  unfold notePat at h
  have h1 := List.append_cancel_right h
  have h2 := List.append_cancel_left h1
  rw [itoa_succ, itoa_succ] at h2
  have := decDigits_inj h2
  omega
def nlt (l : List UInt8) : Prop := 60 ∉ l ∧ 62 ∉ l
theorem nlt_app {a b : List UInt8} (h1 : nlt a) (h2 : nlt b) : nlt (a ++ b) := ⟨by simp [h1.1, h2.1], by simp [h1.2, h2.2]⟩
theorem nlt_of {l : List UInt8} (h : clean l) : nlt l := ⟨h.2.1, h.2.2⟩
theorem nlt_lit {l : List UInt8} (h : l.all (fun c => c != 60 && c != 62) = true) : nlt l := by
  rw [List.all_eq_true] at h
  refine ⟨fun hc => ?_, fun hc => ?_⟩ <;> exact absurd (h _ hc) (by decide)
theorem nlt_pat (j : Nat) : nlt (notePat j) := nlt_app (nlt_app (nlt_lit (by decide)) (nlt_of (clean_itoa _))) (nlt_lit (by decide))
section
variable {j : Nat}
theorem cn_ne {i : List UInt8} (hi : nlt i) (hne : i ≠ notePat j) : Cn (notePat j) 0 (60 :: i ++ [62]) := by
  have := cn_tg (p := notePat j) (i := i) (nlt_pat j).2 hi.1 hi.2
  rwa [if_neg hne] at this
theorem cn0 {c : UInt8} {r : List UInt8} (hc : c ≠ 108) (hi : nlt (c :: r)) : Cn (notePat j) 0 (60 :: (c :: r) ++ [62]) := cn_ne hi fun e => hc (by have := congrArg List.head? e; simpa [notePat] using this)
theorem cn00 {a b : List UInt8} (h1 : Cn (notePat j) 0 a) (h2 : Cn (notePat j) 0 b) : Cn (notePat j) 0 (a ++ b) := cn_app h1 h2
theorem cnN {i : List UInt8} (h : Cn (notePat j) 0 (60 :: i ++ [62])) : Cn (notePat j) 0 (60 :: i ++ [62, 10]) := by
  have e : (60 :: i ++ [62, 10] : List UInt8) = (60 :: i ++ [62]) ++ [10] := by simp
  rw [e]
  exact cn00 h (cn_txt (by decide))
theorem cnT {l : List UInt8} (h : clean l) : Cn (notePat j) 0 l := cn_txt h.2.1
theorem cn_lnk (p : Bool) {path : List UInt8} (h : clean path) : Cn (notePat j) 0 (lnkOpen p path) := by
  have e : lnkOpen p path = 60 :: (97 :: ((if p then [32, 99, 108, 97, 115, 115, 61, 34, 109, 105, 115, 115, 105, 110, 103, 34] else []) ++ [32, 104, 114, 101, 102, 61, 34] ++ path ++ [34])) ++ [62] := by cases p <;> simp [lnkOpen]
  rw [e]
  exact cn0 (by decide) (nlt_app (a := [97]) (nlt_lit (by decide)) (nlt_app (nlt_app (nlt_app (by cases p <;> exact nlt_lit (by decide)) (nlt_lit (by decide))) (nlt_of h)) (nlt_lit (by decide))))
theorem cn_sup (k i : Int) : Cn (notePat j) 0 (supT k i) := by
  have e : supT k i = (60 :: (115 :: ([117, 112, 32, 105, 100, 61, 34, 109, 97, 114, 107, 45] ++ itoa k ++ [34])) ++ [62]) ++ (60 :: (97 :: ([32, 104, 114, 101, 102, 61, 34, 35, 110, 111, 116, 101, 45] ++ itoa i ++ [34])) ++ [62]) ++ ([91] ++ itoa i ++ [93]) ++ (60 :: [47, 97] ++ [62]) ++ (60 :: [47, 115, 117, 112] ++ [62]) := by simp [supT]
  rw [e]
  have a1 : Cn (notePat j) 0 (60 :: (115 :: ([117, 112, 32, 105, 100, 61, 34, 109, 97, 114, 107, 45] ++ itoa k ++ [34])) ++ [62]) := cn0 (by decide) (nlt_app (a := [115]) (b := [117, 112, 32, 105, 100, 61, 34, 109, 97, 114, 107, 45] ++ itoa k ++ [34]) (nlt_lit (by decide)) (nlt_app (nlt_app (nlt_lit (by decide)) (nlt_of (clean_itoa k))) (nlt_lit (by decide))))
  have a2 : Cn (notePat j) 0 (60 :: (97 :: ([32, 104, 114, 101, 102, 61, 34, 35, 110, 111, 116, 101, 45] ++ itoa i ++ [34])) ++ [62]) := cn0 (by decide) (nlt_app (a := [97]) (b := [32, 104, 114, 101, 102, 61, 34, 35, 110, 111, 116, 101, 45] ++ itoa i ++ [34]) (nlt_lit (by decide)) (nlt_app (nlt_app (nlt_lit (by decide)) (nlt_of (clean_itoa i))) (nlt_lit (by decide))))
  have a3 : Cn (notePat j) 0 ([91] ++ itoa i ++ [93]) := cnT (clean_app (clean_app (clean_lit (by decide)) (clean_itoa i)) (clean_lit (by decide)))
  have a4 : Cn (notePat j) 0 (60 :: [47, 97] ++ [62]) := cn0 (by decide) (nlt_lit (by decide))
  have a5 : Cn (notePat j) 0 (60 :: [47, 115, 117, 112] ++ [62]) := cn0 (by decide) (nlt_lit (by decide))
  exact cn00 (cn00 (cn00 (cn00 a1 a2) a3) a4) a5
theorem cnS {c : UInt8} {r : List UInt8} (hc : c ≠ 108) (hi : (c :: r).all (fun c => c != 60 && c != 62) = true) : Cn (notePat j) 0 (60 :: (c :: r) ++ [62]) := cn0 hc (nlt_lit hi)
theorem cnSN {c : UInt8} {r : List UInt8} (hc : c ≠ 108) (hi : (c :: r).all (fun c => c != 60 && c != 62) = true) : Cn (notePat j) 0 (60 :: (c :: r) ++ [62, 10]) := cnN (cnS hc hi)
end
mutual
theorem Inl.cn {j : Nat} (W : RenW) (b : Bool) : ∀ (m : Nat) (x : Inl), Cn (notePat j) 0 (x.ren W b m)
  | m, .mk k t s n a ka kc kids => by
    have ih := inlCn (j := j) W b m kids
    rw [Inl.ren]
    split
    · exact cnT (clean_esc t)
    split
    · exact cn00 (cn00 (cnS (c := 98) (r := []) (by decide) (by decide)) ih) (cnS (c := 47) (r := [98]) (by decide) (by decide))
    split
    · exact cn00 (cn00 (cnS (c := 105) (r := []) (by decide) (by decide)) ih) (cnS (c := 47) (r := [105]) (by decide) (by decide))
    split
    · exact cn00 (cn00 (cn_lnk _ (clean_lnk s n a)) ih) (cnS (c := 47) (r := [97]) (by decide) (by decide))
    split
    · cases b with
      | true => exact cn_sup _ _
      | false => exact cn_nil
    split
    · exact cnS (c := 98) (r := [114]) (by decide) (by decide)
    · exact cn_nil
theorem inlCn {j : Nat} (W : RenW) (b : Bool) : ∀ (m : Nat) (l : List Inl), Cn (notePat j) 0 (inlRen W b m l)
  | m, [] => cn_nil
  | m, x :: r => by rw [inlRen]; exact cn00 (Inl.cn W b m x) (inlCn W b _ r)
end
theorem cn_head {j : Nat} (W : RenW) (lv : Int) (top : Bool) (hd : Nat) : Cn (notePat j) 0 ([60, 104] ++ itoa lv ++ hId W top hd ++ [62]) := by
  have e : [60, 104] ++ itoa lv ++ hId W top hd ++ [62] = 60 :: (104 :: (itoa lv ++ hId W top hd)) ++ [62] := by simp
  rw [e]
  refine cn0 (by decide) (nlt_app (a := [104]) (nlt_lit (by decide)) (nlt_app (nlt_of (clean_itoa lv)) ?_))
  unfold hId
  split
  · exact nlt_app (nlt_app (nlt_lit (by decide)) (nlt_of (clean_esc _))) (nlt_lit (by decide))
  · exact nlt_of clean_nil
theorem cn_li {j : Nat} : Cn (notePat j) 0 [60, 108, 105, 62] := cn_ne (i := [108, 105]) (nlt_lit (by decide)) (by intro e; simp [notePat] at e)
mutual
theorem Blk.cn {j : Nat} (W : RenW) : ∀ (top : Bool) (m hd : Nat) (x : Blk), Cn (notePat j) 0 (x.ren W top m hd)
  | top, m, hd, .mk k v t ia ic inl ka kc kids => by
    have i1 := inlCn (j := j) W true m inl
    have i2 := blksCn (j := j) W false (m + (inlMarks inl).length) hd kids
    rw [Blk.ren]
    generalize blksRen W false (m + (inlMarks inl).length) hd kids = K1 at *
    by_cases k1 : k = 1
    · rw [if_pos k1]
      have e : [60, 104] ++ itoa (hLvl v) ++ hId W top hd ++ [62] ++ inlRen W true m inl ++ [60, 47, 104] ++ itoa (hLvl v) ++ [62, 10] = ([60, 104] ++ itoa (hLvl v) ++ hId W top hd ++ [62]) ++ inlRen W true m inl ++ (60 :: (47 :: (104 :: itoa (hLvl v))) ++ [62, 10]) := by simp
      rw [e]
      exact cn00 (cn00 (cn_head W _ _ _) i1) (cnN (cn0 (by decide) (nlt_app (a := [47, 104]) (nlt_lit (by decide)) (nlt_of (clean_itoa _)))))
    rw [if_neg k1]
    by_cases k2 : k = 2
    · rw [if_pos k2]; exact cn00 (cn00 (cnS (c := 112) (r := []) (by decide) (by decide)) i1) (cnSN (c := 47) (r := [112]) (by decide) (by decide))
    rw [if_neg k2]
    by_cases k5 : k = 5
    · rw [if_pos k5]; exact cnSN (c := 104) (r := [114]) (by decide) (by decide)
    rw [if_neg k5]
    by_cases k6 : k = 6
    · rw [if_pos k6]; exact cn00 (cn00 (cnS (c := 112) (r := [114, 101]) (by decide) (by decide)) (cnT (clean_esc t))) (cnSN (c := 47) (r := [112, 114, 101]) (by decide) (by decide))
    rw [if_neg k6]
    by_cases k3 : k = 3
    · rw [if_pos k3]
      by_cases hv : v = 1
      · simp only [if_pos hv]; exact cn00 (cn00 (cnSN (c := 111) (r := [108]) (by decide) (by decide)) i2) (cnSN (c := 47) (r := [111, 108]) (by decide) (by decide))
      · simp only [if_neg hv]; exact cn00 (cn00 (cnSN (c := 117) (r := [108]) (by decide) (by decide)) i2) (cnSN (c := 47) (r := [117, 108]) (by decide) (by decide))
    rw [if_neg k3]
    by_cases k4 : k = 4
    · rw [if_pos k4]
      refine cn00 (cn00 (cn00 cn_li i1) ?_) (cnSN (c := 47) (r := [108, 105]) (by decide) (by decide))
      split
      · exact cn_nil
      · exact cn00 (a := [10]) (cn_txt (by decide)) i2
    rw [if_neg k4]
    by_cases k7 : k = 7
    · rw [if_pos k7]; exact cn00 (cn00 (cnSN (c := 116) (r := [97, 98, 108, 101]) (by decide) (by decide)) i2) (cnSN (c := 47) (r := [116, 97, 98, 108, 101]) (by decide) (by decide))
    rw [if_neg k7]
    by_cases k8 : k = 8
    · rw [if_pos k8]; exact cn00 (cn00 (cnS (c := 116) (r := [114]) (by decide) (by decide)) i2) (cnSN (c := 47) (r := [116, 114]) (by decide) (by decide))
    rw [if_neg k8]
    by_cases k9 : k = 9
    · rw [if_pos k9]
      by_cases hv : v = 1
      · simp only [if_pos hv]; exact cn00 (cn00 (cnS (c := 116) (r := [104]) (by decide) (by decide)) i1) (cnS (c := 47) (r := [116, 104]) (by decide) (by decide))
      · simp only [if_neg hv]; exact cn00 (cn00 (cnS (c := 116) (r := [100]) (by decide) (by decide)) i1) (cnS (c := 47) (r := [116, 100]) (by decide) (by decide))
    rw [if_neg k9]
    exact cn_nil
theorem blksCn {j : Nat} (W : RenW) : ∀ (top : Bool) (m hd : Nat) (l : List Blk), Cn (notePat j) 0 (blksRen W top m hd l)
  | _, _, _, [] => cn_nil
  | top, m, hd, x :: r => by rw [blksRen]; exact cn00 (Blk.cn W top m hd x) (blksCn W top _ _ r)
end
theorem cn_ent {j : Nat} {e : EntT} (hn : clean e.number) : Cn (notePat j) 0 (entT e) := by
  rw [entT_eq]
  refine cn00 (cn00 (cn00 (cn00 (cn_ne ?_ ?_) (cn0 (c := 97) (by decide) ?_)) ?_) (cnS (c := 47) (r := [97]) (by decide) (by decide))) (cnSN (c := 47) (r := [108, 105]) (by decide) (by decide))
  · exact nlt_app (nlt_app (nlt_lit (by decide)) (nlt_app (a := [34]) (nlt_lit (by decide)) (nlt_of (clean_app (clean_lit (l := [108, 101, 118, 101, 108, 45]) (by decide)) (clean_itoa _))))) (nlt_lit (by decide))
  · intro h; simp [notePat] at h
  · exact nlt_app (a := [97, 32, 104, 114, 101, 102, 61] ++ 34 :: ([35] ++ escT e.anchor)) (nlt_app (a := [97, 32, 104, 114, 101, 102, 61]) (nlt_lit (by decide)) (nlt_app (a := [34]) (nlt_lit (by decide)) (nlt_app (nlt_lit (by decide)) (nlt_of (clean_esc _))))) (nlt_lit (by decide))
  · exact cnT (clean_app (clean_app hn (clean_lit (l := [32]) (by decide))) (clean_esc _))
theorem cn_ents {j : Nat} : ∀ {es : List EntT}, (∀ e ∈ es, clean e.number) → Cn (notePat j) 0 (entsT es)
  | [], _ => cn_nil
  | e :: r, h => by
    show Cn (notePat j) 0 (entT e ++ entsT r)
    exact cn00 (cn_ent (h e (by simp))) (cn_ents fun x hx => h x (by simp [hx]))
theorem cn_conts {j : Nat} {es : List EntT} (h : ∀ e ∈ es, clean e.number) : Cn (notePat j) 0 (contsT es) := by
  unfold contsT
  split
  · exact cn_nil
  · exact cn00 (cn00 (cnSN (c := 117) (r := [108, 32, 99, 108, 97, 115, 115, 61, 34, 99, 111, 110, 116, 101, 110, 116, 115, 34]) (by decide) (by decide)) (cn_ents h)) (cnSN (c := 47) (r := [117, 108]) (by decide) (by decide))
theorem cn_uses {j : Nat} : ∀ ks : List Int, Cn (notePat j) 0 (usesT ks)
  | [] => cn_nil
  | k :: r => by
    show Cn (notePat j) 0 (useT k ++ usesT r)
    refine cn00 ?_ (cn_uses r)
    rw [useT_eq]
    refine cn00 (cn00 (cn00 (cn_txt (by decide)) (cn0 (c := 97) (by decide) ?_)) (cn_txt (by decide))) (cnS (c := 47) (r := [97]) (by decide) (by decide))
    exact nlt_app (a := [97, 32, 104, 114, 101, 102, 61] ++ 34 :: ([35, 109, 97, 114, 107, 45] ++ itoa k)) (nlt_app (a := [97, 32, 104, 114, 101, 102, 61]) (nlt_lit (by decide)) (nlt_app (a := [34]) (nlt_lit (by decide)) (nlt_app (nlt_lit (by decide)) (nlt_of (clean_itoa k))))) (nlt_lit (by decide))
theorem cn_note {j : Nat} (W : RenW) (i : Nat) (p : NoP) : Cn (notePat j) (if i = j then 1 else 0) (noteT W i p) := by
  have e : noteT W i p = (60 :: notePat i ++ [62]) ++ inlRen W false 0 p.inl ++ usesT p.uses ++ (60 :: [47, 108, 105] ++ [62, 10]) := by simp [noteT, notePat]
  rw [e]
  have h1 := cn_tg (p := notePat j) (i := notePat i) (nlt_pat j).2 (nlt_pat i).1 (nlt_pat i).2
  have h2 : (if notePat i = notePat j then 1 else 0) = (if i = j then 1 else 0) := by
    by_cases h : i = j
    · rw [if_pos h, if_pos (by rw [h])]
    · rw [if_neg h, if_neg fun e => h (notePat_inj e)]
  rw [h2] at h1
  exact cn_app (m := 0) (cn_app (m := 0) (cn_app (m := 0) h1 (inlCn W false 0 p.inl)) (cn_uses p.uses)) (cnSN (c := 47) (r := [108, 105]) (by decide) (by decide))
theorem cn_notes {j : Nat} (W : RenW) : ∀ (i : Nat) (ps : List NoP), Cn (notePat j) (if i ≤ j ∧ j < i + ps.length then 1 else 0) (notesT W i ps)
  | i, [] => by rw [if_neg (by simp)]; exact cn_nil
  | i, p :: r => by
    rw [notesT]
    have h := cn_app (cn_note (j := j) W i p) (cn_notes (j := j) W (i + 1) r)
    have e : (if i ≤ j ∧ j < i + (p :: r).length then 1 else 0) = (if i = j then 1 else 0) + (if i + 1 ≤ j ∧ j < i + 1 + r.length then 1 else 0) := by
      rw [List.length_cons]
      by_cases h1 : i = j
      · rw [if_pos h1, if_pos (by omega), if_neg (by omega)]
      · rw [if_neg h1]
        by_cases h2 : i + 1 ≤ j ∧ j < i + 1 + r.length
        · rw [if_pos h2, if_pos (by omega)]
        · rw [if_neg h2, if_neg (by omega)]
    rw [e]
    exact h
theorem cn_list {j : Nat} (W : RenW) (ps : List NoP) (h : j < ps.length) : Cn (notePat j) 1 (listT W ps) := by
  unfold listT
  rw [if_neg (fun e => by rw [e] at h; simp at h)]
  have h1 := cn_notes (j := j) W 0 ps
  rw [if_pos (by omega)] at h1
  exact cn_app (n := 1) (m := 0) (cn_app (n := 0) (m := 1) (cnSN (c := 111) (r := [108, 32, 99, 108, 97, 115, 115, 61, 34, 110, 111, 116, 101, 115, 34]) (by decide) (by decide)) h1) (cnSN (c := 47) (r := [111, 108]) (by decide) (by decide))
theorem note_once (P : Int × List UInt8 → Bool) (bs : List Blk) {j : Nat} (h : j < (notesP (inlEra (blkMarks bs))).length) : count (renT P bs) ([60, 108, 105, 32, 105, 100, 61, 34, 110, 111, 116, 101, 45] ++ itoa ((j : Int) + 1) ++ [34, 62]) = 1 := by
  have e : [60, 108, 105, 32, 105, 100, 61, 34, 110, 111, 116, 101, 45] ++ itoa ((j : Int) + 1) ++ [34, 62] = 60 :: notePat j ++ [62] := by simp [notePat]
  rw [e]
  exact cn_end (cn_app (n := 0) (m := 1) (cn00 (cn_conts (contT_clean bs)) (blksCn _ true 0 0 bs)) (cn_list _ _ h))
theorem contains_mid (a s b : List UInt8) : contains (a ++ s ++ b) s = true := by
  unfold contains
  refine decide_eq_true ?_
  rcases index_spec (a ++ s ++ b) s with ⟨_, h2⟩ | ⟨i, h1, _⟩
  · have h3 := h2 a.length (by simp only [List.length_append]; omega)
    unfold occAt at h3
    rw [List.append_assoc, List.drop_left, List.isPrefixOf_iff_prefix.2 (List.prefix_append s b)] at h3
    cases h3
  · rw [h1]; omega
theorem head_in (W : RenW) : ∀ (bs : List Blk) (m h i : Nat), i < hdsN bs → ∃ a b, blksRen W true m h bs = a ++ (hId W true (h + i) ++ [62]) ++ b
  | [], m, h, i, hi => by simp [hdsN] at hi
  | x :: r, m, h, i, hi => by
    rw [hdsN] at hi
    rw [blksRen]
    by_cases hk : x.kind = 1
    · rw [if_pos hk] at hi
      rw [if_pos ⟨rfl, hk⟩]
      cases i with
      | zero =>
        refine ⟨[60, 104] ++ itoa (hLvl x.level), inlRen W true m x.inl ++ [60, 47, 104] ++ itoa (hLvl x.level) ++ [62, 10] ++ blksRen W true (m + x.marks.length) (h + 1) r, ?_⟩
        rw [Blk.ren_eq, if_pos hk]
        simp
      | succ i =>
        obtain ⟨a, b, e⟩ := head_in W r (m + x.marks.length) (h + 1) i (by omega)
        refine ⟨x.ren W true m h ++ a, b, ?_⟩
        rw [e, show h + 1 + i = h + (i + 1) by omega]
        simp only [List.append_assoc]
    · rw [if_neg hk, Nat.zero_add] at hi
      rw [if_neg (fun hc => hk hc.2)]
      obtain ⟨a, b, e⟩ := head_in W r (m + x.marks.length) h i hi
      refine ⟨x.ren W true m h ++ a, b, ?_⟩
      rw [e]
      simp only [List.append_assoc]
theorem ent_in : ∀ {es : List EntT} {i : Nat} (h : i < es.length), ∃ a b, entsT es = a ++ entT es[i] ++ b
  | x :: r, 0, _ => ⟨[], entsT r, rfl⟩
  | x :: r, i + 1, h => by
    obtain ⟨a, b, e⟩ := ent_in (es := r) (i := i) (by simpa using h)
    refine ⟨entT x ++ a, b, ?_⟩
    show entT x ++ entsT r = _
    rw [e]
    simp only [List.append_assoc, List.getElem_cons_succ]
theorem anchor_in (P : Int × List UInt8 → Bool) (bs : List Blk) {i : Nat} (h : i < (contT bs).length) : contains (renT P bs) ([32, 105, 100, 61, 34] ++ escT (contT bs)[i].anchor ++ [34, 62]) = true := by
  obtain ⟨a, b, e⟩ := head_in (docW P bs) bs 0 0 i (by rw [← contT_hds]; exact h)
  have e2 : hId (docW P bs) true (0 + i) ++ [62] = [32, 105, 100, 61, 34] ++ escT (contT bs)[i].anchor ++ [34, 62] := by
    have : (docW P bs).an.getD (0 + i) [] = (contT bs)[i].anchor := by
      show (ancs (contT bs)).getD (0 + i) [] = _
      simp [ancs, h]
    unfold hId
    rw [if_pos rfl, this]
    simp
  rw [e2] at e
  unfold renT
  rw [e]
  have e3 : contsT (contT bs) ++ (a ++ ([32, 105, 100, 61, 34] ++ escT (contT bs)[i].anchor ++ [34, 62]) ++ b) ++ listT (docW P bs) (notesP (inlEra (blkMarks bs))) = (contsT (contT bs) ++ a) ++ ([32, 105, 100, 61, 34] ++ escT (contT bs)[i].anchor ++ [34, 62]) ++ (b ++ listT (docW P bs) (notesP (inlEra (blkMarks bs)))) := by simp only [List.append_assoc]
  rw [e3]
  exact contains_mid _ _ _
theorem entry_in (P : Int × List UInt8 → Bool) (bs : List Blk) {i : Nat} (h : i < (contT bs).length) (h2 : 1 < (contT bs).length) : contains (renT P bs) ([60, 97, 32, 104, 114, 101, 102, 61, 34, 35] ++ escT (contT bs)[i].anchor ++ [34, 62] ++ (contT bs)[i].number ++ [32]) = true := by
  obtain ⟨a, b, e⟩ := ent_in h
  have e2 : renT P bs = ([60, 117, 108, 32, 99, 108, 97, 115, 115, 61, 34, 99, 111, 110, 116, 101, 110, 116, 115, 34, 62, 10] ++ a ++ [60, 108, 105, 32, 99, 108, 97, 115, 115, 61, 34, 108, 101, 118, 101, 108, 45] ++ itoa (contT bs)[i].level ++ [34, 62]) ++ ([60, 97, 32, 104, 114, 101, 102, 61, 34, 35] ++ escT (contT bs)[i].anchor ++ [34, 62] ++ (contT bs)[i].number ++ [32]) ++ (escT (contT bs)[i].text ++ [60, 47, 97, 62, 60, 47, 108, 105, 62, 10] ++ b ++ [60, 47, 117, 108, 62, 10] ++ blksRen (docW P bs) true 0 0 bs ++ listT (docW P bs) (notesP (inlEra (blkMarks bs)))) := by
    unfold renT contsT
    rw [if_neg (by omega), e]
    unfold entT
    simp only [List.append_assoc, List.cons_append, List.nil_append]
  rw [e2]
  exact contains_mid _ _ _
end Go.Proofs
namespace Go.Proofs
open Go Go.X
set_option maxRecDepth 100000
theorem containsF_ok (s t : List UInt8) (hs : s.length < 4294967281) : FnS Tryz.prog 23 [.c (.s s), .c (.s t)] [] [gInt 0] (Is (.c (.b (Lib.contains s t)))) :=
  fn_below ⟨_, Tryz.func23, by kernel_rfl, by kernel_rfl⟩ (fun w m hd hw => by
    obtain ⟨n, hn⟩ := gInt_cell hd hw
    refine (Tryz.strings_Contains ⟨⟨s⟩⟩ ⟨⟨t⟩⟩ n w hs hn).mono ?_
    rintro e w' ⟨rfl, rfl⟩
    exact ⟨rfl, rfl, rfl, rfl, Nat.le_refl _, fun _ _ => rfl⟩)
theorem countF_ok (s t : List UInt8) (hs : s.length < 4294967281) (ht : 2 ≤ t.length) : FnS Tryz.prog 25 [.c (.s s), .c (.s t)] [] [gInt 0] (Is (.c (.i .i64 (Lib.count s t)))) :=
  fn_below ⟨_, Tryz.func25, by kernel_rfl, by kernel_rfl⟩ (fun w m hd hw => by
    obtain ⟨n, hn⟩ := gInt_cell hd hw
    refine (Tryz.strings_Count ⟨⟨s⟩⟩ ⟨⟨t⟩⟩ n w hs hn ht).mono ?_
    rintro e w' ⟨rfl, rfl⟩
    exact ⟨rfl, rfl, rfl, rfl, Nat.le_refl _, fun _ _ => rfl⟩)
theorem genQF {n b : Nat} (h1 : n ≤ b) (h2 : b ≤ 21672) : n * b ≤ 1000000000 := Nat.le_trans (Nat.mul_le_mul (Nat.le_trans h1 h2) h2) (by decide)
theorem misF_noneF {m : Im} : (misF none []).p m := ⟨fun x hx => (by cases hx), .inl ⟨rfl, rfl⟩⟩
set_option maxHeartbeats 4000000 in
theorem htmlReferences_law (e : Nat) (a : Option Addr) (c : Nat) (l : List Int) (hl : l.length ≤ maxLen) :
    FnS Tryz.prog 6 [.c (.sl a l.length c)] [] [slFact e 1 a l.length (l.map (C.i .i64)), tabF, gInt 0] (Is (.c (.b true))) := by
  have g1 := fun tb => gen4_ok e a c tb l hl 0 (Nat.zero_le _)
  refine fn_of_J Tryz.tyOK 0 Tryz.func6 (by kernel_rfl) (c := Tryz.f6.body.getD .skip) (by kernel_rfl) Tryz.ntmps6 (rs := Tryz.f6.results.toList) rfl (by simp) (fun G => ?_)
  repeat' first
    | refine J_stop (c := .seq (.seq (.region 2 _ _) _) _) ?_ | refine J_stop (c := .seq (.region 2 _ _) _) ?_
    | refine J_seq ?_ | refine J_region Tryz.tyOK ?_ | refine J_block ?_ | refine J_cond ?_ | refine J_ret ?_ | refine J_skip ?_ | refine J_exit ?_ | refine J_scope ?_
    | refine CondP.yes (by omega) ?_ | refine CondP.no (by omega) ?_ | refine CondP.mk (fun h => ?_) (fun h => ?_) | refine EqP.mk rfl ?_ | refine NewP.mk (fun ad => ?_) | refine ArP.exact (by simp only [inR]; omega) ?_ | refine SideP.mk (by first | omega | (dsimp only; omega) | (simp; omega)) ?_
    | (refine CallP.mk [] _ [] _ (new_ok a l.length c) (List.Perm.refl _) (fun _ _ => trivial) (fun v L' D' hp => ?_); obtain ⟨ab, rfl, rfl, rfl⟩ := hp) | (refine CallP.mk [_] _ [_] _ (g1 _) (List.Perm.refl _) (fun _ h => ⟨h.1, trivial⟩) (fun v L' D' hp => ?_); obtain ⟨ga, gc, gs, q, hq, hgb, hgf, hg4, rfl, rfl, rfl⟩ := hp)
    | fail
  refine ⟨?_⟩
  have hgn := blkNodes_bulk gs
  have r1 := render_ok gs (by omega) (genQF hgn hgb) hgf [] (by simp) ga none gc 0
  have c1 := contents_ok gs (by omega) ga gc
  have c2 := notes_ok gs (by omega) ga gc
  have z1 := gen_le (misP []) gs hgb hg4 hgf
  have n1 := fun j (h : j < (notesP (inlEra (blkMarks gs))).length) => note_once (misP []) gs h
  have n2 := fun i (h : i < (contT gs).length) => anchor_in (misP []) gs h
  have n3 := fun i (h : i < (contT gs).length) (h2 : 1 < (contT gs).length) => entry_in (misP []) gs h h2
  have hdc := docConts gs hgf (by omega)
  have hdn := docNotes gs
  have hmb := blkMarks_bulk gs
  have hml := inl_len_bulk (blkMarks gs)
  refine J_ent (env' := [(3, .c (.sl ga gs.length gc))]) (L' := []) (D' := [blkF ga gs, tabF, gInt 0, misF none []]) (n' := 0) (by repeat' first | exact SubE.nil | refine SubE.cons rfl ?_ ?_ | exact VEq.refl _ | refine VEq.int (by omega) | refine VEq.sl rfl (by first | rfl | omega | (rw [List.length_append]; rfl) | (simp; omega)) rfl) (Ents.dropAll.trans (Ents.facts fun m h => ⟨h.1, h.2.2.1, h.2.2.2.1, misF_noneF, trivial⟩)) ?_
  generalize renT (misP []) gs = R1 at *
  clear g1
  repeat' first
    | refine J_seq ?_ | refine J_region Tryz.tyOK ?_ | refine J_block ?_ | refine J_cond ?_ | refine J_ret ?_ | refine J_skip ?_ | refine J_exit ?_ | refine J_scope ?_
    | refine CondP.yes (by omega) ?_ | refine CondP.no (by omega) ?_ | refine CondP.mk (fun h => ?_) (fun h => ?_) | refine EqP.mk rfl ?_ | refine NewP.mk (fun ad => ?_) | refine ArP.exact (by simp only [inR]; omega) ?_ | refine SideP.mk (by first | omega | (dsimp only; omega) | (simp; omega)) ?_
    | refine CallP.is r1 ?_ (fun _ h => ⟨h.1, h.2.2.2.1, h.2.1, h.2.2.1, trivial⟩) | (refine CallP.mk [] _ [blkF ga gs, tabF] _ c1 (List.Perm.refl _) (fun _ h => ⟨h.1, h.2.1, trivial⟩) (fun v L' D' hp => ?_); obtain ⟨ea, ec, rfl, rfl, rfl⟩ := hp)
    | fail
  refine J_loop (α := Nat) (fun x => [(3, .c (.sl ga gs.length gc)), (4, .c (.s R1)), (5, .c (.sl ea (contT gs).length ec)), (6, .c (.i .i64 x))]) (fun _ => []) (fun _ => [entF ea (contT gs), blkF ga gs, gInt 0]) 0 (fun x => x ≤ (contT gs).length) (fun x => (contT gs).length - x)
    (InFam.mk 0 (Nat.zero_le _) (by repeat' first | exact SubE.nil | refine SubE.cons rfl ?_ ?_ | exact VEq.refl _ | refine VEq.int (by omega) | refine VEq.sl rfl (by first | rfl | omega | (rw [List.length_append]; rfl) | (simp; omega)) rfl) (Ents.facts fun _ h => ⟨h.1, h.2.1, h.2.2.2.1, trivial⟩)) (fun i hi => ?_)
  by_cases hlt : i < (contT gs).length
  · have hrd : ∀ L, Reads L [entF ea (contT gs), blkF ga gs, gInt 0] 42 4 ea (contT gs).length (entC (contT gs)) := fun _ => .inr fun m hm => hm.1
    have hg3 : ((entC (contT gs)).drop (i * 4 + 3)).take 1 = [.s (contT gs)[i].anchor] := entC_get (o := 3) (k := 1) hlt (by omega)
    have hg1 : ((entC (contT gs)).drop (i * 4 + 1)).take 1 = [.s (contT gs)[i].number] := entC_get (o := 1) (k := 1) hlt (by omega)
    have hev := hdc.2 (contT gs)[i] (List.getElem_mem hlt)
    have x1 := containsF_ok R1 ([32, 105, 100, 61, 34] ++ escT (contT gs)[i].anchor ++ [34, 62]) (by omega)
    rw [n2 i hlt] at x1
    have x2 := fun (h2 : 1 < (contT gs).length) => by
      have x := containsF_ok R1 ([60, 97, 32, 104, 114, 101, 102, 61, 34, 35] ++ escT (contT gs)[i].anchor ++ [34, 62] ++ (contT gs)[i].number ++ [32]) (by omega)
      rw [n3 i hlt h2] at x
      exact x
    have hc1 := hdc.1
    clear n1 n2 n3 hdc hdn
    generalize (contT gs)[i] = en at *
    have hes := escape_ok en.anchor (by omega)
    have hel := escT_le en.anchor
    have hev2 := hev.2.1
    have hev3 := hev.2.2.2
    by_cases h2 : 1 < (contT gs).length
    · have x3 := x2 h2
      repeat' first
        | refine J_seq ?_ | refine J_region Tryz.tyOK ?_ | refine J_block ?_ | refine J_cond ?_ | refine J_ret ?_ | refine J_skip ?_ | refine J_exit ?_ | refine J_scope ?_
        | refine CondP.yes (by omega) ?_ | refine CondP.no (by omega) ?_ | refine CondP.mk (fun h => ?_) (fun h => ?_) | refine EqP.mk rfl ?_ | refine NewP.mk (fun ad => ?_) | refine ArP.exact (by simp only [inR]; omega) ?_ | refine SideP.mk (by first | omega | (dsimp only; omega) | (simp; omega)) ?_
        | refine IdxE.mk 42 4 _ (hrd _) (by omega) (by omega) ?_ | refine FldE.mk 42 4 _ _ (hrd _) (by omega) ?_ | refine LoadE.mk 42 (contT gs).length _ _ (hrd _) (by omega) (by omega) (by decide) (by exact hg3) ?_ | refine LoadE.mk 42 (contT gs).length _ _ (hrd _) (by omega) (by omega) (by decide) (by exact hg1) ?_ | refine CallP.is hes ?_ (fun _ _ => trivial) | refine CallP.is x1 ?_ (fun _ h => ⟨h.2.2.1, trivial⟩) | refine CallP.is x3 ?_ (fun _ h => ⟨h.2.2.1, trivial⟩)
        | fail
      exact Round.mk (i + 1) (by omega) (by omega) (by repeat' first | exact SubE.nil | refine SubE.cons rfl ?_ ?_ | exact VEq.refl _ | refine VEq.int (by omega)) (Ents.refl _ _)
    · clear x2
      repeat' first
        | refine J_seq ?_ | refine J_region Tryz.tyOK ?_ | refine J_block ?_ | refine J_cond ?_ | refine J_ret ?_ | refine J_skip ?_ | refine J_exit ?_ | refine J_scope ?_
        | refine CondP.yes (by omega) ?_ | refine CondP.no (by omega) ?_ | refine CondP.mk (fun h => ?_) (fun h => ?_) | refine EqP.mk rfl ?_ | refine NewP.mk (fun ad => ?_) | refine ArP.exact (by simp only [inR]; omega) ?_ | refine SideP.mk (by first | omega | (dsimp only; omega) | (simp; omega)) ?_
        | refine IdxE.mk 42 4 _ (hrd _) (by omega) (by omega) ?_ | refine FldE.mk 42 4 _ _ (hrd _) (by omega) ?_ | refine LoadE.mk 42 (contT gs).length _ _ (hrd _) (by omega) (by omega) (by decide) (by exact hg3) ?_ | refine CallP.is hes ?_ (fun _ _ => trivial) | refine CallP.is x1 ?_ (fun _ h => ⟨h.2.2.1, trivial⟩)
        | fail
      exact Round.mk (i + 1) (by omega) (by omega) (by repeat' first | exact SubE.nil | refine SubE.cons rfl ?_ ?_ | exact VEq.refl _ | refine VEq.int (by omega)) (Ents.refl _ _)
  clear n2 n3 hdc
  repeat' first
    | refine J_seq ?_ | refine J_region Tryz.tyOK ?_ | refine J_block ?_ | refine J_cond ?_ | refine J_ret ?_ | refine J_skip ?_ | refine J_exit ?_ | refine J_scope ?_
    | refine CondP.yes (by omega) ?_ | refine CondP.no (by omega) ?_ | refine CondP.mk (fun h => ?_) (fun h => ?_) | refine EqP.mk rfl ?_ | refine NewP.mk (fun ad => ?_) | refine ArP.exact (by simp only [inR]; omega) ?_ | refine SideP.mk (by first | omega | (dsimp only; omega) | (simp; omega)) ?_
    | (refine CallP.mk [] _ [blkF ga gs] _ c2 (List.Perm.refl _) (fun _ h => ⟨h.2.1, trivial⟩) (fun v L' D' hp => ?_); obtain ⟨na, nc, ns, hps, rfl, rfl, rfl⟩ := hp)
    | fail
  have hnsl : ns.length = (notesP (inlEra (blkMarks gs))).length := by rw [← hps]; simp
  rw [← hnsl] at n1 hdn
  refine J_loop (α := Nat) (fun x => [(4, .c (.s R1)), (8, .c (.sl na ns.length nc)), (9, .c (.i .i64 x))]) (fun _ => []) (fun _ => [gInt 0]) 0 (fun x => x ≤ ns.length) (fun x => ns.length - x)
    (InFam.mk 0 (Nat.zero_le _) (by repeat' first | exact SubE.nil | refine SubE.cons rfl ?_ ?_ | exact VEq.refl _ | refine VEq.int (by omega) | refine VEq.sl rfl (by first | rfl | omega | (rw [List.length_append]; rfl) | (simp; omega)) rfl) (Ents.facts fun _ h => ⟨h.2.2.2.1, trivial⟩)) (fun j hj => ?_)
  by_cases hlt : j < ns.length
  · have hnm := hdn.1
    have y1 := countF_ok R1 ([60, 108, 105, 32, 105, 100, 61, 34, 110, 111, 116, 101, 45] ++ Lib.itoa ((j : Int) + 1) ++ [34, 62]) (by omega) (by simp)
    rw [n1 j hlt] at y1
    have hi3 := dec_ok ((j : Int) + 1) (by omega) (by omega)
    have hil := itoa_le (n := (j : Int) + 1) (by omega) (by omega)
    clear n1 hdn
    repeat' first
      | refine J_seq ?_ | refine J_region Tryz.tyOK ?_ | refine J_block ?_ | refine J_cond ?_ | refine J_ret ?_ | refine J_skip ?_ | refine J_exit ?_ | refine J_scope ?_
      | refine CondP.yes (by omega) ?_ | refine CondP.no (by omega) ?_ | refine CondP.mk (fun h => ?_) (fun h => ?_) | refine EqP.mk rfl ?_ | refine NewP.mk (fun ad => ?_) | refine ArP.exact (by simp only [inR]; omega) ?_ | refine SideP.mk (by first | omega | (dsimp only; omega) | (simp; omega)) ?_
      | refine CallP.is hi3 ?_ (fun _ _ => trivial) | refine CallP.is y1 ?_ (fun _ h => ⟨h.1, trivial⟩)
      | fail
    exact Round.mk (j + 1) (by omega) (by omega) (by repeat' first | exact SubE.nil | refine SubE.cons rfl ?_ ?_ | exact VEq.refl _ | refine VEq.int (by omega)) (Ents.refl _ _)
  · repeat' first
      | refine J_seq ?_ | refine J_region Tryz.tyOK ?_ | refine J_block ?_ | refine J_cond ?_ | refine J_ret ?_ | refine J_skip ?_ | refine J_exit ?_ | refine J_scope ?_
      | refine CondP.yes (by omega) ?_ | refine CondP.no (by omega) ?_ | refine CondP.mk (fun h => ?_) (fun h => ?_) | refine EqP.mk rfl ?_ | refine NewP.mk (fun ad => ?_) | refine ArP.exact (by simp only [inR]; omega) ?_ | refine SideP.mk (by first | omega | (dsimp only; omega) | (simp; omega)) ?_
      | refine CallP.is known_ok ?_ (fun _ h => ⟨h.1, trivial⟩) | refine FinE.bool rfl
      | fail
    all_goals trace_state
end Go.Proofs
namespace Go.Proofs.YtdnkeinjfddmnaaGreatDoor
open Go Go.X Go.ChangeShapes Go.WideShapes Go.ChangeAt Go.RowKit
set_option maxRecDepth 100000
namespace htmlReferences
theorem reads (os : Os) {H : Type} (enc : TypeId × Value → H) : ∃ places, DataW.whole enc Tryz.prog ((laidWorld os).forCall (fun _ _ => 0) ⟨#[], #[.slice none 0 0], []⟩).memory Tryz.f6.params.toList Rows.htmlReferencesSpec.vars false (#[.slice none 0 0] : Array Value).toList 8 = some ([.nil], [], places) :=
  ⟨[], by kernel_rfl⟩
theorem contract (H : Type) (enc : TypeId × Value → H) (W : World) (base : Nat) (args : Array Value) (ds gs : List (DataW H)) (before : List MemPlace) (hlm : laidMetH Tryz.prog Rows.htmlReferencesRow.laid W)
    (hval : ∀ (j : Nat) t v, Tryz.f6.params[j]? = some t → args[j]? = some v → Value.okWide Tryz.prog W .any base t v)
    (hW : DataW.Whole enc Tryz.prog Tryz.f6.params.toList Rows.htmlReferencesSpec.vars false W args.toList ds gs before) (hsh : W.ShapedOpen Tryz.prog) :
    Calls Tryz.prog 6 args W fun e W' => ∃ v, e = .returned v ∧ Rows.htmlReferencesSpec.post enc Tryz.prog Tryz.f6 false true false false W args v W' := by
  have hW' := hW
  obtain ⟨p, q, hA0, hV, rfl, hfz, hnd⟩ := hW
  have hA : DataW.TrodAll enc Tryz.prog W 0 (fun _ => true) true Tryz.f6.params.toList args.toList ds p := hA0
  rw [Tryz.params6] at hA hval
  obtain ⟨v0, vs0, d0, ds0, p0, q0, hargs0, rfl, rfl, h0, r0⟩ := trodAll_cons hA
  obtain ⟨rfl, rfl, rfl⟩ := trodAll_nil r0
  obtain rfl : args = #[v0] := by cases args; simp_all
  obtain ⟨a, hqa, rfl⟩ := open_arg (okTy (t := 24) rfl).2.2.2 (by simp) (hval 0 _ v0 rfl rfl) h0 (openS_slice (z := 1) Tryz.underlying24 (cellsOf_ty (okTy (t := 3) rfl)) (by decide) (fun g x hx => by simp at hx; subst hx; rfl) (openS_int Tryz.underlying3))
  obtain ⟨ad, n, c, l⟩ := a
  obtain ⟨hn, hs, _⟩ := hqa
  dsimp only at hn hs
  subst hn
  obtain ⟨e, hf⟩ := hs.f
  have hf2 : (slFact e 1 ad l.length (l.map (C.i .i64))).p (fun b => W.heap[b]?) := by rw [List.map_eq_flatMap]; exact hf
  exact law_calls laidOut (by rw [Tryz.params6]; decide +kernel) rfl (by kernel_rfl) Tryz.underlying4 hW' rfl rfl (show allD _ [slFact e 1 ad l.length (l.map (C.i .i64)), tabF, gInt 0] from ⟨hf2, tab_fact hlm rfl, maxLen_fact hsh⟩) (htmlReferences_law e ad c l (Nat.le_trans hs.le hs.max))
theorem lifted (os : Os) (started : os.Started) (H : Type) (enc : TypeId × Value → H) (F : Stop.Interp) :
    ReturnsInHanded {} Tryz.checked os 6 .any ((OpenSpec.ofChange Rows.htmlReferencesSpec).preRow enc Tryz.prog Tryz.f6 Rows.htmlReferencesRow.domain false Rows.htmlReferencesRow.laid) (((OpenSpec.ofChange Rows.htmlReferencesSpec).at F).post enc Tryz.prog Tryz.f6 false true false false) := by
  obtain ⟨places, hx⟩ := reads os enc
  refine returnsInHanded_of_row (C := Tryz.checked) (s := (OpenSpec.ofChange Rows.htmlReferencesSpec)) own started (by kernel_rfl) Tryz.func6
    (witness_row_at (enc := enc) (C := Tryz.checked) false (laidWorld os) #[.slice none 0 0] rfl (world_vars os _) (world_rest os _) (by kernel_rfl)
      (OpenSpec.preRow_of_cond 8 hx (by kernel_rfl) (fun k hk => by cases hk) (by kernel_rfl) (laid_met os _))) ?_
  intro W base args ds gs before hval hW _ _ _ hlm hsh _
  exact contract H enc W base args ds gs before hlm hval hW hsh
theorem said : Rows.HtmlReferencesSaid :=
  OpenClaim.holds_of_cond 6 Tryz.f6 rfl rfl rfl rfl rfl rfl rfl ⟨rfl, rfl, rfl, rfl, rfl⟩ rfl rfl rfl rfl rfl (by kernel_rfl) Tryz.func6 (by kernel_rfl)
    (of_decide_eq_true (by kernel_rfl)) (by unfold Func.isWrapper; first | (rw [if_pos (by decide +kernel)]; kernel_rfl) | (rw [if_neg (by decide +kernel)]; exact ⟨rfl, rfl⟩))
    (fun os started H enc _ F => by rw [OpenClaim.pre_eq_preRow]; exact lifted os started H enc F)
theorem plain (f : FuncId) (fn : Func) (hf : Tryz.pinned.checked.prog.funcNamed Rows.htmlReferencesRow.func = some f) (hfn : Tryz.pinned.checked.prog.funcs[f]? = some fn) :
    true = Tryz.pinned.checked.prog.looks [] ∧ ∀ (j : Nat) t, fn.params[j]? = some t → Tryz.pinned.checked.prog.wantsStandIn t = false := by
  obtain rfl : f = 6 := Option.some.inj ((show Tryz.prog.funcNamed Rows.htmlReferencesRow.func = some 6 by kernel_rfl).symm.trans hf) |>.symm
  obtain rfl : fn = Tryz.f6 := (Option.some.inj (Tryz.func6.symm.trans hfn)).symm
  refine ⟨no_looks, fun j t ht => ?_⟩
  rw [Tryz.params6] at ht
  have hm := Array.mem_of_getElem? ht
  have hall : ∀ t ∈ (#[24] : Array Nat), Tryz.prog.wantsStandIn t = false := by decide +kernel
  exact hall t hm
theorem card : Rows.HtmlReferencesCardSaid :=
  Claim7.holds_tied_plain_at .later [] _ _ _ _ said (fun _ h => by cases h) (by kernel_rfl) (fun _ h => by cases h) htmlReferences_row_tie rfl ⟨rfl, rfl⟩ (by kernel_rfl) rfl plain (by kernel_rfl)
end htmlReferences
end Go.Proofs.YtdnkeinjfddmnaaGreatDoor
