/- This text proves plain laws of the HTML of documents: missing titles only add a class; what it contains; how long it is. · This text says that the tape makes at most four blocks at the top. -/
import Derived.Test.YtdnkeinjfddmnaaGreatDoorW14
import Derived.Test.YtdnkeinjfddmnaaGreatDoorW08
set_option linter.all false
namespace Go.Proofs
open Go Go.X Go.Lib
set_option maxRecDepth 100000
def clean (l : List UInt8) : Prop := 34 ∉ l ∧ 60 ∉ l ∧ 62 ∉ l
theorem clean_nil : clean [] := ⟨by simp, by simp, by simp⟩
theorem clean_app {a b : List UInt8} (h1 : clean a) (h2 : clean b) : clean (a ++ b) := ⟨by simp [h1.1, h2.1], by simp [h1.2.1, h2.2.1], by simp [h1.2.2, h2.2.2]⟩
theorem clean_flat {α : Type} {f : α → List UInt8} (h : ∀ x, clean (f x)) : ∀ l : List α, clean (l.flatMap f)
  | [] => clean_nil
  | x :: r => by rw [List.flatMap_cons]; exact clean_app (h x) (clean_flat h r)
theorem clean_esc (s : List UInt8) : clean (escT s) := ⟨(escT_safe s).2.2, (escT_safe s).1, (escT_safe s).2.1⟩
theorem ancB_all : ∀ n : Fin 256, (ancB (UInt8.ofNat n.val)).all (fun c => c != 34 && c != 60 && c != 62) = true := by decide +kernel
theorem clean_all {l : List UInt8} (h : l.all (fun c => c != 34 && c != 60 && c != 62) = true) : clean l := by
  rw [List.all_eq_true] at h
  refine ⟨fun hc => ?_, fun hc => ?_, fun hc => ?_⟩ <;> exact absurd (h _ hc) (by decide)
theorem clean_anc (s : List UInt8) : clean (ancT19 s) := by
  unfold ancT19
  split
  · exact clean_all (by decide)
  · refine clean_flat (fun b => clean_all ?_) s
    have h := ancB_all ⟨b.toNat, b.toNat_lt⟩
    have e : UInt8.ofNat b.toNat = b := by simp
    rwa [e] at h
theorem clean_path (sp : Int) (n : List UInt8) : clean (pathT sp n) := by
  have h := List.all_eq_true.1 (pathT_ok sp n)
  refine ⟨fun hc => ?_, fun hc => ?_, fun hc => ?_⟩ <;> exact absurd (h _ hc) (by decide)
theorem clean_lnk (sp : Int) (n a : List UInt8) : clean (lnkPath sp n a) := by
  have h35 : clean [35] := clean_all (by decide)
  unfold lnkPath
  split
  · exact clean_app h35 (clean_anc a)
  split
  · exact clean_path sp n
  · exact clean_app (clean_path sp n) (clean_app h35 (clean_anc a))
theorem dig_clean : ∀ d : Fin 10, clean [UInt8.ofNat (48 + d.val)] := fun d => clean_all (by revert d; decide)
theorem clean_dec (n : Nat) : clean (decDigits n) := by
  induction n using Nat.strongRecOn with | _ n ih
  rw [decDigits]
  split
  · exact dig_clean ⟨n, by omega⟩
  · exact clean_app (ih _ (by omega)) (dig_clean ⟨n % 10, by omega⟩)
theorem clean_itoa (n : Int) : clean (itoa n) := by
  unfold itoa
  split
  · exact clean_app (clean_all (l := [45]) (by decide)) (clean_dec _)
  · exact clean_dec _
theorem clean_lit {l : List UInt8} (h : l.all (fun c => c != 34 && c != 60 && c != 62) = true) : clean l := clean_all h
theorem rpC_ne {b : UInt8} (h : b ≠ 99) (l : List UInt8) : rpC (b :: l) = b :: rpC l :=
  rp_miss cls0 cls0 (pre_no fun t ht => h (by have := congrArg List.head? ht; simpa [clsS] using this))
theorem gs_lnk (p : Bool) {path : List UInt8} (h : 34 ∉ path) : Gs (lnkOpen p path) (lnkOpen false path) := by
  have e0 : lnkOpen false path = 60 :: ([97, 32, 104, 114, 101, 102, 61] ++ 34 :: path ++ [34]) ++ [62] := by simp [lnkOpen]
  have r0 := rpC_attr [104, 114, 101, 102, 61] path (by decide) h
  cases p with
  | false => rw [e0]; exact gs_attr _ _ (by decide) h
  | true =>
    have e1 : lnkOpen true path = 60 :: (97 :: 32 :: (clsS ++ ([104, 114, 101, 102, 61] ++ 34 :: path ++ [34]))) ++ [62] := by simp [lnkOpen, clsS]
    have e2 : lnkOpen false path = 60 :: (97 :: 32 :: ([104, 114, 101, 102, 61] ++ 34 :: path ++ [34])) ++ [62] := by simp [lnkOpen]
    rw [e1, e2]
    exact gs_tag (by rw [rpC_ne (by decide), rpC_ne (by decide), rpC_hit, r0])
theorem gs_sup (k j : Int) : Gs (supT k j) (supT k j) := by
  have e : supT k j = (60 :: ([115, 117, 112, 32, 105, 100, 61] ++ 34 :: ([109, 97, 114, 107, 45] ++ itoa k) ++ [34]) ++ [62]) ++ (60 :: ([97, 32, 104, 114, 101, 102, 61] ++ 34 :: ([35, 110, 111, 116, 101, 45] ++ itoa j) ++ [34]) ++ [62]) ++ ([91] ++ itoa j ++ [93]) ++ (60 :: [47, 97] ++ [62]) ++ (60 :: [47, 115, 117, 112] ++ [62]) := by simp [supT]
  rw [e]
  exact gs_app (gs_app (gs_app (gs_app (gs_attr _ _ (by decide) (clean_app (clean_lit (by decide)) (clean_itoa k)).1) (gs_attr _ _ (by decide) (clean_app (clean_lit (by decide)) (clean_itoa j)).1)) (gs_text (clean_app (clean_app (clean_lit (by decide)) (clean_itoa j)) (clean_lit (by decide))).1)) (gs_tag0 (by decide))) (gs_tag0 (by decide))
structure RenO (W W' : RenW) : Prop where
  P : ∀ t, W'.P t = false
  ns : W.ns = W'.ns
  an : W.an = W'.an
theorem gs_lit {l : List UInt8} (h : l.all (fun c => c != 34 && c != 60 && c != 62) = true) : Gs l l := gs_text (clean_lit h).1
mutual
theorem Inl.gs {W W' : RenW} (h : RenO W W') (b : Bool) : ∀ (m : Nat) (x : Inl), Gs (x.ren W b m) (x.ren W' b m)
  | m, .mk k t s n a ka kc kids => by
    have ih := inlGs h b m kids
    rw [Inl.ren, Inl.ren]
    split
    · exact gs_text (clean_esc t).1
    split
    · exact gs_app (gs_app (gs_tag0 (i := [98]) (by decide)) ih) (gs_tag0 (i := [47, 98]) (by decide))
    split
    · exact gs_app (gs_app (gs_tag0 (i := [105]) (by decide)) ih) (gs_tag0 (i := [47, 105]) (by decide))
    split
    · rw [h.P]; exact gs_app (gs_app (gs_lnk _ (clean_lnk s n a).1) ih) (gs_tag0 (i := [47, 97]) (by decide))
    split
    · rw [h.ns]
      cases b with
      | true => exact gs_sup _ _
      | false => exact gs_nil
    split
    · exact gs_tag0 (i := [98, 114]) (by decide)
    · exact gs_nil
theorem inlGs {W W' : RenW} (h : RenO W W') (b : Bool) : ∀ (m : Nat) (l : List Inl), Gs (inlRen W b m l) (inlRen W' b m l)
  | m, [] => gs_nil
  | m, x :: r => by rw [inlRen, inlRen]; exact gs_app (Inl.gs h b m x) (inlGs h b _ r)
end
theorem gs_head {W W' : RenW} (h : RenO W W') (lv : Int) (top : Bool) (hd : Nat) : Gs ([60, 104] ++ itoa lv ++ hId W top hd ++ [62]) ([60, 104] ++ itoa lv ++ hId W' top hd ++ [62]) := by
  cases top with
  | false =>
    have e : ∀ V : RenW, [60, 104] ++ itoa lv ++ hId V false hd ++ [62] = 60 :: ([104] ++ itoa lv) ++ [62] := fun V => by simp [hId]
    rw [e, e]
    exact gs_tag0 (clean_app (clean_lit (by decide)) (clean_itoa lv)).1
  | true =>
    have e : ∀ V : RenW, [60, 104] ++ itoa lv ++ hId V true hd ++ [62] = 60 :: (([104] ++ itoa lv ++ [32, 105, 100, 61]) ++ 34 :: escT (V.an.getD hd []) ++ [34]) ++ [62] := fun V => by simp [hId]
    rw [e, e, h.an]
    exact gs_attr _ _ (clean_app (clean_app (clean_lit (by decide)) (clean_itoa lv)) (clean_lit (by decide))).1 (clean_esc _).1
theorem gs_tagN {i : List UInt8} (h : 34 ∉ i) : Gs (60 :: i ++ [62, 10]) (60 :: i ++ [62, 10]) := by
  have e : (60 :: i ++ [62, 10] : List UInt8) = (60 :: i ++ [62]) ++ [10] := by simp
  rw [e]
  exact gs_app (gs_tag0 h) (gs_text (by decide))
mutual
theorem Blk.gs {W W' : RenW} (h : RenO W W') : ∀ (top : Bool) (m hd : Nat) (x : Blk), Gs (x.ren W top m hd) (x.ren W' top m hd)
  | top, m, hd, .mk k v t ia ic inl ka kc kids => by
    have i1 := inlGs h true m inl
    have i2 := blksGs h false (m + (inlMarks inl).length) hd kids
    rw [Blk.ren, Blk.ren]
    generalize blksRen W false (m + (inlMarks inl).length) hd kids = K1 at *
    generalize blksRen W' false (m + (inlMarks inl).length) hd kids = K2 at *
    by_cases k1 : k = 1
    · rw [if_pos k1, if_pos k1]
      have e : ∀ (V : RenW), [60, 104] ++ itoa (hLvl v) ++ hId V top hd ++ [62] ++ inlRen V true m inl ++ [60, 47, 104] ++ itoa (hLvl v) ++ [62, 10] = ([60, 104] ++ itoa (hLvl v) ++ hId V top hd ++ [62]) ++ inlRen V true m inl ++ (60 :: ([47, 104] ++ itoa (hLvl v)) ++ [62, 10]) := fun V => by simp
      rw [e, e]
      exact gs_app (gs_app (gs_head h _ _ _) i1) (gs_tagN (clean_app (clean_lit (by decide)) (clean_itoa _)).1)
    rw [if_neg k1, if_neg k1]
    by_cases k2 : k = 2
    · rw [if_pos k2, if_pos k2]
      exact gs_app (gs_app (gs_tag0 (i := [112]) (by decide)) i1) (gs_tagN (i := [47, 112]) (by decide))
    rw [if_neg k2, if_neg k2]
    by_cases k5 : k = 5
    · rw [if_pos k5, if_pos k5]
      exact gs_tagN (i := [104, 114]) (by decide)
    rw [if_neg k5, if_neg k5]
    by_cases k6 : k = 6
    · rw [if_pos k6, if_pos k6]
      exact gs_app (gs_app (gs_tag0 (i := [112, 114, 101]) (by decide)) (gs_text (clean_esc t).1)) (gs_tagN (i := [47, 112, 114, 101]) (by decide))
    rw [if_neg k6, if_neg k6]
    by_cases k3 : k = 3
    · rw [if_pos k3, if_pos k3]
      by_cases hv : v = 1
      · simp only [if_pos hv]; exact gs_app (gs_app (gs_tagN (i := [111, 108]) (by decide)) i2) (gs_tagN (i := [47, 111, 108]) (by decide))
      · simp only [if_neg hv]; exact gs_app (gs_app (gs_tagN (i := [117, 108]) (by decide)) i2) (gs_tagN (i := [47, 117, 108]) (by decide))
    rw [if_neg k3, if_neg k3]
    by_cases k4 : k = 4
    · rw [if_pos k4, if_pos k4]
      refine gs_app (gs_app (gs_app (gs_tag0 (i := [108, 105]) (by decide)) i1) ?_) (gs_tagN (i := [47, 108, 105]) (by decide))
      split
      · exact gs_nil
      · exact gs_app (a := [10]) (b := [10]) (gs_text (by decide)) i2
    rw [if_neg k4, if_neg k4]
    by_cases k7 : k = 7
    · rw [if_pos k7, if_pos k7]
      exact gs_app (gs_app (gs_tagN (i := [116, 97, 98, 108, 101]) (by decide)) i2) (gs_tagN (i := [47, 116, 97, 98, 108, 101]) (by decide))
    rw [if_neg k7, if_neg k7]
    by_cases k8 : k = 8
    · rw [if_pos k8, if_pos k8]
      exact gs_app (gs_app (gs_tag0 (i := [116, 114]) (by decide)) i2) (gs_tagN (i := [47, 116, 114]) (by decide))
    rw [if_neg k8, if_neg k8]
    by_cases k9 : k = 9
    · rw [if_pos k9, if_pos k9]
      by_cases hv : v = 1
      · simp only [if_pos hv]; exact gs_app (gs_app (gs_tag0 (i := [116, 104]) (by decide)) i1) (gs_tag0 (i := [47, 116, 104]) (by decide))
      · simp only [if_neg hv]; exact gs_app (gs_app (gs_tag0 (i := [116, 100]) (by decide)) i1) (gs_tag0 (i := [47, 116, 100]) (by decide))
    rw [if_neg k9, if_neg k9]
    exact gs_nil
theorem blksGs {W W' : RenW} (h : RenO W W') : ∀ (top : Bool) (m hd : Nat) (l : List Blk), Gs (blksRen W top m hd l) (blksRen W' top m hd l)
  | _, _, _, [] => gs_nil
  | top, m, hd, x :: r => by rw [blksRen, blksRen]; exact gs_app (Blk.gs h top m hd x) (blksGs h top _ _ r)
end
theorem numT_clean {es : List EntT} (h : ∀ e ∈ es, clean e.number) (p : Option Nat) (n : Nat) : clean (numT es p n) := by
  cases p with
  | none => exact clean_dec n
  | some k =>
    refine clean_app (clean_app ?_ (clean_lit (by decide))) (clean_dec n)
    by_cases hk : k < es.length
    · have := h es[k] (List.getElem_mem hk)
      simpa [hk] using this
    · rw [List.getD_eq_getElem?_getD, List.getElem?_eq_none (by simp; omega)]; exact clean_nil
theorem contT_clean (bs : List Blk) : ∀ e ∈ contT bs, clean e.number := by
  have key : ∀ i, i ≤ bs.length → ∀ e ∈ contT (bs.take i), clean e.number := fun i => by
    induction i with
    | zero => intro _ e he; simp [contT] at he
    | succ i ih =>
      intro h e he
      rw [contT_succ (by omega)] at he
      unfold addE at he
      split at he
      · rcases List.mem_append.1 he with he | he
        · exact ih (by omega) e he
        · rw [List.mem_singleton.1 he]; exact numT_clean (ih (by omega)) _ _
      · exact ih (by omega) e he
  have := key bs.length (Nat.le_refl _)
  rwa [List.take_length] at this
theorem entT_eq (e : EntT) : entT e = (60 :: ([108, 105, 32, 99, 108, 97, 115, 115, 61] ++ 34 :: ([108, 101, 118, 101, 108, 45] ++ itoa e.level) ++ [34]) ++ [62]) ++ (60 :: ([97, 32, 104, 114, 101, 102, 61] ++ 34 :: ([35] ++ escT e.anchor) ++ [34]) ++ [62]) ++ (e.number ++ [32] ++ escT e.text) ++ (60 :: [47, 97] ++ [62]) ++ (60 :: [47, 108, 105] ++ [62, 10]) := by simp [entT]
theorem gs_ent {e : EntT} (hn : clean e.number) : Gs (entT e) (entT e) := by
  rw [entT_eq]
  exact gs_app (gs_app (gs_app (gs_app (gs_attr _ _ (by decide) (clean_app (clean_lit (by decide)) (clean_itoa _)).1) (gs_attr _ _ (by decide) (clean_app (clean_lit (by decide)) (clean_esc _)).1)) (gs_text (clean_app (clean_app hn (clean_lit (by decide))) (clean_esc _)).1)) (gs_tag0 (by decide))) (gs_tagN (by decide))
theorem gs_ents : ∀ {es : List EntT}, (∀ e ∈ es, clean e.number) → Gs (entsT es) (entsT es)
  | [], _ => gs_nil
  | e :: r, h => by
    show Gs (entT e ++ entsT r) (entT e ++ entsT r)
    exact gs_app (gs_ent (h e (by simp))) (gs_ents fun x hx => h x (by simp [hx]))
theorem gs_attrN (u v : List UInt8) (hu : 34 ∉ u) (hv : 34 ∉ v) : Gs (60 :: (u ++ 34 :: v ++ [34]) ++ [62, 10]) (60 :: (u ++ 34 :: v ++ [34]) ++ [62, 10]) := by
  have e : (60 :: (u ++ 34 :: v ++ [34]) ++ [62, 10] : List UInt8) = (60 :: (u ++ 34 :: v ++ [34]) ++ [62]) ++ [10] := by simp
  rw [e]
  exact gs_app (gs_attr u v hu hv) (gs_text (by decide))
theorem gs_conts {es : List EntT} (h : ∀ e ∈ es, clean e.number) : Gs (contsT es) (contsT es) := by
  unfold contsT
  split
  · exact gs_nil
  · exact gs_app (gs_app (gs_attrN [117, 108, 32, 99, 108, 97, 115, 115, 61] [99, 111, 110, 116, 101, 110, 116, 115] (by decide) (by decide)) (gs_ents h)) (gs_tagN (i := [47, 117, 108]) (by decide))
theorem useT_eq (k : Int) : useT k = [32] ++ (60 :: ([97, 32, 104, 114, 101, 102, 61] ++ 34 :: ([35, 109, 97, 114, 107, 45] ++ itoa k) ++ [34]) ++ [62]) ++ [94] ++ (60 :: [47, 97] ++ [62]) := by simp [useT]
theorem gs_uses : ∀ ks : List Int, Gs (usesT ks) (usesT ks)
  | [] => gs_nil
  | k :: r => by
    show Gs (useT k ++ usesT r) (useT k ++ usesT r)
    refine gs_app ?_ (gs_uses r)
    rw [useT_eq]
    exact gs_app (gs_app (gs_app (gs_lit (by decide)) (gs_attr _ _ (by decide) (clean_app (clean_lit (by decide)) (clean_itoa k)).1)) (gs_lit (by decide))) (gs_tag0 (by decide))
theorem noteT_eq (W : RenW) (i : Nat) (p : NoP) : noteT W i p = (60 :: ([108, 105, 32, 105, 100, 61] ++ 34 :: ([110, 111, 116, 101, 45] ++ itoa ((i : Int) + 1)) ++ [34]) ++ [62]) ++ inlRen W false 0 p.inl ++ usesT p.uses ++ (60 :: [47, 108, 105] ++ [62, 10]) := by simp [noteT]
theorem gs_notes {W W' : RenW} (h : RenO W W') : ∀ (i : Nat) (ps : List NoP), Gs (notesT W i ps) (notesT W' i ps)
  | _, [] => gs_nil
  | i, p :: r => by
    rw [notesT, notesT]
    refine gs_app ?_ (gs_notes h (i + 1) r)
    rw [noteT_eq, noteT_eq]
    exact gs_app (gs_app (gs_app (gs_attr _ _ (by decide) (clean_app (clean_lit (by decide)) (clean_itoa _)).1) (inlGs h false 0 p.inl)) (gs_uses p.uses)) (gs_tagN (by decide))
theorem gs_list {W W' : RenW} (h : RenO W W') (ps : List NoP) : Gs (listT W ps) (listT W' ps) := by
  unfold listT
  split
  · exact gs_nil
  · exact gs_app (gs_app (gs_attrN [111, 108, 32, 99, 108, 97, 115, 115, 61] [110, 111, 116, 101, 115] (by decide) (by decide)) (gs_notes h 0 ps)) (gs_tagN (i := [47, 111, 108]) (by decide))
theorem ren_o (P : Int × List UInt8 → Bool) (bs : List Blk) : RenO (docW P bs) (docW (misP []) bs) := ⟨fun t => by show misP [] t = false; unfold misP; simp, rfl, rfl⟩
theorem rp_doc (P : Int × List UInt8 → Bool) (bs : List Blk) : rpC (renT P bs) = renT (misP []) bs :=
  gs_end (gs_app (gs_app (gs_conts (contT_clean bs)) (blksGs (ren_o P bs) true 0 0 bs)) (gs_list (ren_o P bs) _))
theorem rpK_len {p : List UInt8} : ∀ (k : Nat) (s : List UInt8), (replaceK p [] k s).length ≤ s.length
  | 0, s => Nat.le_refl _
  | k + 1, s => by
    rw [replaceK]
    split
    · exact Nat.le_refl _
    · have h := rpK_len (p := p) k (s.drop ((index s p).toNat + p.length))
      simp only [List.length_append, List.length_nil, List.length_take, List.length_drop] at h ⊢
      omega
theorem no_cls {s : List UInt8} (h : rpC s = s) : contains s clsS = false := by
  unfold contains
  refine decide_eq_false fun hi => ?_
  have hr := index_room s clsS hi
  obtain ⟨i, e⟩ : ∃ i : Nat, index s clsS = i := ⟨(index s clsS).toNat, by omega⟩
  have hl : clsS.length = 16 := rfl
  unfold rpC at h
  rw [rpA cls0, count_hit cls0 e, Nat.add_comm, replaceK_hit clsS [] _ s i e] at h
  have h2 := congrArg List.length h
  have h3 := rpK_len (p := clsS) (count (s.drop (i + clsS.length)) clsS) (s.drop (i + clsS.length))
  simp only [List.length_append, List.length_nil, List.length_take, List.length_drop] at h2 h3
  omega
def fN (p : NoP) : Nat := 600 * inlBulk p.inl + 60 * p.uses.length + 60
def sumN (ps : List NoP) : Nat := (ps.map fN).sum
theorem sum_set : ∀ {l : List Nat} {k : Nat} (h : k < l.length) (y : Nat), (l.set k y).sum + l[k] = l.sum + y
  | x :: r, 0, _, y => by simp; omega
  | x :: r, k + 1, h, y => by
    have := sum_set (l := r) (k := k) (by simpa using h) y
    simp only [List.set_cons_succ, List.sum_cons, List.getElem_cons_succ]; omega
theorem addP_sum (ps : List NoP) (i : Nat) (m : Inl) : sumN (Go.X.addP ps i m) ≤ sumN ps + 600 * inlBulk m.kids + 120 := by
  by_cases hc : m.text = [] ∨ findL (namesP ps) m.text ps.length = none
  · rw [(addP_new hc).1]
    simp only [sumN, List.map_append, List.sum_append, List.map_cons, List.map_nil, List.sum_cons, List.sum_nil, fN, List.length_singleton]
    omega
  · rw [not_or] at hc
    obtain ⟨k, hk⟩ := Option.ne_none_iff_exists'.1 hc.2
    have hkl := findL_lt hk
    rw [(addP_old hc.1 hk hkl).1]
    unfold sumN
    rw [List.map_set]
    have h1 := sum_set (l := ps.map fN) (k := k) (by simpa using hkl) (fN (touchP ps[k] ((i : Int) + 1) m.kids))
    have h2 : (ps.map fN)[k]'(by simpa using hkl) = fN ps[k] := by simp
    have h3 : fN (touchP ps[k] ((i : Int) + 1) m.kids) ≤ fN ps[k] + 600 * inlBulk m.kids + 60 := by
      unfold fN touchP
      simp only [List.length_append, List.length_singleton]
      by_cases h0 : ps[k].inl = []
      · rw [if_pos h0, h0]; simp only [inlBulk]; omega
      · rw [if_neg h0]; omega
    rw [h2] at h1
    omega
theorem notesP_sum (ms : List Inl) : ∀ i, i ≤ ms.length → sumN (notesP (ms.take i)) ≤ 720 * inlBulk (ms.take i)
  | 0, _ => by simp [notesP, notesFrom, sumN]
  | i + 1, h => by
    have h1 := notesP_sum ms i (by omega)
    rw [notesP_take_succ (by omega), inlBulk_succ (by omega)]
    have h2 := addP_sum (notesP (ms.take i)) i ms[i]
    have h3 := Inl.bulk_eq ms[i]
    omega
theorem notesT_le (W : RenW) (hn : ∀ j ∈ W.ns, 0 ≤ j ∧ j ≤ 100000000) : ∀ (ps : List NoP) (i : Nat), i + ps.length ≤ 100000000 → (∀ p ∈ ps, inlBulk p.inl ≤ 100000000 ∧ ∀ k ∈ p.uses, 0 ≤ k ∧ k ≤ 1000000000) → (notesT W i ps).length ≤ sumN ps
  | [], i, _, _ => by simp [notesT]
  | p :: r, i, hi, h => by
    rw [List.length_cons] at hi
    have h1 := noteT_le W hn (i := i) (p := p) (by omega) (h p (by simp)).1 (h p (by simp)).2
    have h2 := notesT_le W hn r (i + 1) (by omega) fun q hq => h q (by simp [hq])
    rw [notesT, List.length_append]
    simp only [sumN, List.map_cons, List.sum_cons, fN] at h2 ⊢
    omega
theorem gen_le (P : Int × List UInt8 → Bool) (bs : List Blk) (hb : blkBulk bs ≤ 21672) (hl : bs.length ≤ 4) (hf : blkFit bs) : (renT P bs).length ≤ 100000000 := by
  have hdc := docConts bs hf (by omega)
  have hdn := docNotes bs
  have hmb := blkMarks_bulk bs
  have hml := inl_len_bulk (blkMarks bs)
  obtain ⟨W, hW⟩ : ∃ W, W = docW P bs := ⟨_, rfl⟩
  have hWa : W.an = ancs (contT bs) := by rw [hW]; rfl
  have hWb : ∀ j ∈ W.ns, 0 ≤ j ∧ j ≤ 100000000 := by rw [hW]; exact numsT_b _ _ (by omega)
  have h1 := contsT_le (es := contT bs) (T := 2000000) fun e he => by
    obtain ⟨e1, e2, e3, e4⟩ := hdc.2 e he
    have := entT_le e1 e2 e3 e4
    omega
  have hA := hId_le W (contT bs) hWa 70000 (fun e he => by have := (hdc.2 e he).2.2.2; omega)
  have h2 := blksRen_le W hWb _ hA true 0 0 bs (by omega)
  rw [if_pos rfl] at h2
  have hd := hdsN_le bs
  have hd2 : hdsN bs * (6 * 70000 + 20) ≤ 4 * (6 * 70000 + 20) := Nat.mul_le_mul_right _ (by omega)
  have hc2 : (contT bs).length * 2000000 ≤ 4 * 2000000 := Nat.mul_le_mul_right _ (by omega)
  have h3 := notesT_le W hWb (notesP (inlEra (blkMarks bs))) 0 (by omega) (fun p hp => by
    have := hdn.2 p hp
    exact ⟨by omega, fun k hk => by have := this.2.2 k hk; omega⟩)
  have h4 := notesP_sum (inlEra (blkMarks bs)) _ (Nat.le_refl _)
  rw [List.take_length, inlEra_bulk] at h4
  have h5 : (listT W (notesP (inlEra (blkMarks bs)))).length ≤ (notesT W 0 (notesP (inlEra (blkMarks bs)))).length + 40 := by
    unfold listT
    split
    · exact Nat.zero_le _
    · simp only [List.length_append, List.length_cons, List.length_nil]; omega
  unfold renT
  rw [← hW]
  simp only [List.length_append]
  omega
end Go.Proofs
namespace Go.Proofs
open Go Go.X
set_option maxRecDepth 100000
set_option maxHeartbeats 2000000 in
theorem gen4_step (e : Nat) (a : Option Addr) (c tb : Nat) (l : List Int) (hl : l.length ≤ maxLen) (d : Nat) (hd : d ≤ 3)
    (ih : 0 < d → ∀ (q : Nat), q ≤ l.length → FnS Tryz.prog 19 [.c (.p 1000 tb 0), .c (.i .i64 ((d : Int) - 1))] [tapeC tb a l.length c q] [tapeF e a l] (fun v L D => ∃ ba bc bs q, q ≤ l.length ∧ blkBulk bs ≤ hB d ∧ blkFit bs ∧ v = .c (.sl ba bs.length bc) ∧ L = [tapeC tb a l.length c q] ∧ D = [blkF ba bs]))
    (q : Nat) (hq : q ≤ l.length) :
    FnS Tryz.prog 19 [.c (.p 1000 tb 0), .c (.i .i64 d)] [tapeC tb a l.length c q] [tapeF e a l] (fun v L D => ∃ ba bc bs q, q ≤ l.length ∧ blkBulk bs ≤ hB (d + 1) ∧ blkFit bs ∧ bs.length ≤ 4 ∧ v = .c (.sl ba bs.length bc) ∧ L = [tapeC tb a l.length c q] ∧ D = [blkF ba bs]) := by
  have hgB : hB (d + 1) = 4 * (6 + gB 3 + hB d) := rfl
  have hge : 0 < d → 0 ≤ hB d := fun _ => Nat.zero_le _
  have hin := genInline_ok e a c tb l hl 2 (by omega)
  generalize hB (d + 1) = B1 at *
  generalize hB d = B0 at *
  change ∀ q : Nat, q ≤ l.length → FnS _ _ [_, .c (.i .i64 2)] _ _ (fun v L D => ∃ ia ic els q, q ≤ l.length ∧ inlBulk els ≤ gB 3 ∧ v = .c (.sl ia els.length ic) ∧ L = [tapeC tb a l.length c q] ∧ D = [inlF ia els]) at hin
  generalize gB 3 = B3 at *
  refine fn_of_J Tryz.tyOK 2000 Tryz.func19 (by kernel_rfl) (c := Tryz.f19.body.getD .skip) (by kernel_rfl) Tryz.ntmps19 (rs := Tryz.f19.results.toList) rfl (by simp) (fun G => ?_)
  repeat' first
    | refine J_seq ?_ | refine J_region Tryz.tyOK ?_ | refine J_block ?_ | refine J_cond ?_ | refine J_ret ?_ | refine J_skip ?_ | refine J_exit ?_ | refine J_scope ?_
    | refine CondP.yes (by omega) ?_ | refine CondP.no (by omega) ?_ | refine CondP.mk (fun h => ?_) (fun h => ?_) | refine EqP.mk rfl ?_ | refine NewP.mk (fun ad => ?_) | refine ArP.exact (by simp only [inR]; omega) ?_ | refine SideP.mk (by first | omega | (dsimp only; omega) | (simp; omega)) ?_
    | fail
  refine J_loop (α := List Blk × Option Addr × Nat × Nat) (fun x => [(0, .c (.p 1000 tb 0)), (1, .c (.i .i64 d)), (5, .c (.sl x.2.1 x.1.length x.2.2.1)), (6, .c (.i .i64 x.1.length))])
    (fun x => [tapeC tb a l.length c x.2.2.2, .row 81 5 x.2.1 x.1.length x.2.2.1 (blkC x.1)]) (fun x => [blksF x.1, tapeF e a l]) 2000
    (fun x => x.1.length ≤ 4 ∧ blkBulk x.1 ≤ x.1.length * (6 + B3 + B0) ∧ blkFit x.1 ∧ x.2.2.2 ≤ l.length) (fun x => 5 - x.1.length)
    (InFam.mk ([], none, 0, q) ⟨Nat.zero_le _, by simp [blkBulk], by unfold blkFit; trivial, hq⟩ (by repeat' first | exact SubE.nil | refine SubE.cons rfl ?_ ?_ | exact VEq.refl _ | refine VEq.int (by omega) | refine VEq.sl rfl (by first | rfl | omega | (rw [List.length_append]; rfl) | (simp; omega)) rfl) ((Ents.nilRow (ety := 81) (esz := 5)).trans ((Ents.perm (List.Perm.swap _ _ _)).trans (Ents.facts fun m h => ⟨(by show blksLie m []; unfold blksLie; trivial), h.1, trivial⟩)))) (fun x hx => ?_)
  obtain ⟨bs, ba, bc, q⟩ := x
  obtain ⟨hle, hbu, hft, hq⟩ := hx
  dsimp only at hle hbu hft hq ⊢
  have hbb : bs.length * (6 + B3 + B0) ≤ 4 * (6 + B3 + B0) := Nat.mul_le_mul_right _ hle
  have n3 := nextE e a c tb q l 5 (by omega) hq hl
  repeat' first
    | refine J_stop (c := .seq (.seq (.region 6 _ _) _) _) ?_
    | refine J_seq ?_ | refine J_region Tryz.tyOK ?_ | refine J_block ?_ | refine J_cond ?_ | refine J_ret ?_ | refine J_skip ?_ | refine J_exit ?_ | refine J_scope ?_
    | refine CondP.yes (by omega) ?_ | refine CondP.no (by omega) ?_ | refine CondP.mk (fun h => ?_) (fun h => ?_) | refine EqP.mk rfl ?_ | refine NewP.mk (fun ad => ?_) | refine ArP.exact (by simp only [inR]; omega) ?_ | refine SideP.mk (by first | omega | (dsimp only; omega) | (simp; omega)) ?_
    | (refine CallP.mk [_] _ [_] _ n3 (List.Perm.refl _) (fun _ h => ⟨h.2.1, trivial⟩) (fun v L' D' hp => ?_); obtain ⟨k3, q3, h30, h31, h32, rfl, rfl, rfl⟩ := hp) | (refine CallP.mk [_] _ [_] _ (nextE e a c tb q3 l 9 (by omega) h32 hl) (List.Perm.refl _) (fun _ h => ⟨h.2.1, trivial⟩) (fun v L' D' hp => ?_); obtain ⟨k6, q6, h60, h61, h62, rfl, rfl, rfl⟩ := hp) | (refine CallP.mk [_] _ [_] _ (nextE e a c tb q6 l 4 (by omega) h62 hl) (List.Perm.refl _) (fun _ h => ⟨h.2.1, trivial⟩) (fun v L' D' hp => ?_); obtain ⟨k4, q4, h40, h41, h42, rfl, rfl, rfl⟩ := hp) | (refine CallP.mk [_] _ [_] _ (hin q4 h42) (List.Perm.refl _) (fun _ h => ⟨h.2.1, trivial⟩) (fun v L' D' hp => ?_); obtain ⟨ia, ic, els, q5, h50, h51, rfl, rfl, rfl⟩ := hp) | refine FinE.mk [_] [blkF ba bs] ⟨ba, bc, bs, q3, h32, by omega, hft, hle, rfl, rfl, rfl⟩ ((Ents.perm (List.Perm.swap _ _ _)).trans (Ents.toFact.trans (Ents.facts fun _ h => ⟨⟨h.1, h.2.1⟩, trivial⟩)))
    | fail
  have hle1 : bs.length ≤ 3 := by omega
  refine ⟨?_⟩
  refine J_cut (α := List UInt8 × Nat) (fun y => [(0, .c (.p 1000 tb 0)), (1, .c (.i .i64 d)), (5, .c (.sl ba bs.length bc)), (6, .c (.i .i64 bs.length)), (7, .c (.p 2000 ad 0))]) (fun y => [.box 2000 ad 81 [.i .i64 (1 + k6), .i .i64 k4, .s y.1, .sl ia els.length ic, .sl none 0 0], tapeC tb a l.length c y.2, .row 81 5 ba bs.length bc (blkC bs)]) (fun _ => [inlF ia els, blksF bs, tapeF e a l]) 2002 (fun y => y.1.length ≤ 5 ∧ y.2 ≤ l.length) ?_ (fun z hz => ?_)
  · repeat' first
      | refine J_seq ?_ | refine J_region Tryz.tyOK ?_ | refine J_block ?_ | refine J_cond ?_ | refine J_ret ?_ | refine J_skip ?_ | refine J_exit ?_ | refine J_scope ?_
      | refine CondP.yes (by omega) ?_ | refine CondP.no (by omega) ?_ | refine CondP.mk (fun h => ?_) (fun h => ?_) | refine EqP.mk rfl ?_ | refine NewP.mk (fun ad => ?_) | refine ArP.exact (by simp only [inR]; omega) ?_ | refine SideP.mk (by first | omega | (dsimp only; omega) | (simp; omega)) ?_
      | (refine CallP.mkE [_] _ _ _ _ (ofE e 9 a _ c _ 3 tb _ l lit4 rfl (by decide) (by assumption) hl 5 (by decide)) (Ents.toFact.trans (Ents.perm (List.Perm.swap _ _ _))) (fun _ h => ⟨h.2.2.2.1, h.1, trivial⟩) (fun v L' D' hp => ?_); obtain ⟨s1, q8, h80, h81, rfl, rfl, rfl⟩ := hp)
      | fail
    · exact InFam.mk (s1, q8) ⟨h80, h81⟩ (by repeat' first | exact SubE.nil | refine SubE.cons rfl ?_ ?_ | exact VEq.refl _ | refine VEq.int (by omega) | refine VEq.sl rfl (by first | rfl | omega | (rw [List.length_append]; rfl) | (simp; omega)) rfl) ((Ents.perm (List.Perm.swap _ _ _)).trans (Ents.ofSub (List.Sublist.cons_cons _ (List.Sublist.cons_cons _ (List.Sublist.cons_cons _ List.Sublist.slnil))) (fun _ h => h.2)))
    · exact InFam.mk ([], q5) ⟨by dsimp only [List.length_nil]; omega, h50⟩ (by repeat' first | exact SubE.nil | refine SubE.cons rfl ?_ ?_ | exact VEq.refl _ | refine VEq.int (by omega) | refine VEq.sl rfl (by first | rfl | omega | (rw [List.length_append]; rfl) | (simp; omega)) rfl) (Ents.ofSub (List.Sublist.cons_cons _ (List.Sublist.cons_cons _ (List.Sublist.cons_cons _ List.Sublist.slnil))) (fun _ h => h))
  obtain ⟨tx, q7⟩ := z
  obtain ⟨hz, hq7⟩ := hz
  dsimp only at hz hq7 ⊢
  have hx0 : ∃ x : Blk, x = .mk (1 + k6) k4 tx ia ic els none 0 [] := ⟨_, rfl⟩
  obtain ⟨x0, hx0⟩ := hx0
  have hxb0 : x0.bulk ≤ 6 + B3 + B0 := by subst hx0; simp only [Blk.bulk, blkBulk]; omega
  have hap0 : blkC bs ++ [.i .i64 (1 + k6), .i .i64 k4, .s tx, .sl ia els.length ic, .sl none 0 0] = blkC (bs ++ [x0]) := by subst hx0; exact blkC_snoc bs (.mk (1 + k6) k4 tx ia ic els none 0 [])
  have hla0 : bs.length + 1 = (bs ++ [x0]).length := by simp
  have hli0 : ∀ m, (inlF ia els).p m → x0.lies m := fun m h => by subst hx0; exact blk_lies h blkF_none
  have hfx0 : x0.fit := by subst hx0; unfold Blk.fit; exact ⟨by simp only [inR]; omega, by unfold blkFit; trivial⟩
  clear hx0
  by_cases hkid : 0 < d ∧ 3 ≤ 1 + k6 ∧ ¬ (1 + k6 = 6) ∧ ¬ (1 + k6 = 5)
  · obtain ⟨hd0, hk3, hk6, hk5⟩ := hkid
    have ihh := ih hd0 q7 hq7
    repeat' first
      | refine CondP.yes hk5 ?_ | refine CondP.yes hk6 ?_
      | refine J_seq ?_ | refine J_region Tryz.tyOK ?_ | refine J_block ?_ | refine J_cond ?_ | refine J_ret ?_ | refine J_skip ?_ | refine J_exit ?_ | refine J_scope ?_
      | refine CondP.yes (by omega) ?_ | refine CondP.no (by omega) ?_ | refine CondP.mk (fun h => ?_) (fun h => ?_) | refine EqP.mk rfl ?_ | refine NewP.mk (fun ad => ?_) | refine ArP.exact (by simp only [inR]; omega) ?_ | refine SideP.mk (by first | omega | (dsimp only; omega) | (simp; omega)) ?_
      | refine J_stop (c := .region 10 _ _) ?_ | (refine CallP.mk [_] [_, _] [_] _ ihh (List.Perm.swap _ _ _) (fun _ h => ⟨h.2.2.1, trivial⟩) (fun v L' D' hp => ?_); obtain ⟨ka, kc, kids, q9, h90, h91, h92, rfl, rfl, rfl⟩ := hp)
      | fail
    all_goals
      obtain ⟨x1, hx1⟩ : ∃ x : Blk, x = .mk (1 + k6) k4 tx ia ic els ka kc kids := ⟨_, rfl⟩
      have hxb1 : x1.bulk ≤ 6 + B3 + B0 := by subst hx1; simp only [Blk.bulk]; omega
      have hap1 : blkC bs ++ [.i .i64 (1 + k6), .i .i64 k4, .s tx, .sl ia els.length ic, .sl ka kids.length kc] = blkC (bs ++ [x1]) := by subst hx1; exact blkC_snoc bs (.mk (1 + k6) k4 tx ia ic els ka kc kids)
      have hla1 : bs.length + 1 = (bs ++ [x1]).length := by simp
      have hli1 : ∀ m, (inlF ia els).p m → (blkF ka kids).p m → x1.lies m := fun m h h' => by subst hx1; exact blk_lies h h'
      have hfx1 : x1.fit := by subst hx1; unfold Blk.fit; exact ⟨by simp only [inR]; omega, h92⟩
      clear hx1
      refine AppE.row [_, _, _] _ (blkC bs) [.i .i64 (1 + k6), .i .i64 k4, .s tx, .sl ia els.length ic, .sl ka kids.length kc] 1 rfl (SrcE.sl 81 81 _ _ 1 _ _ rfl rfl (.inl ⟨_, List.Mem.head _⟩) rfl) (by dsimp only; omega) (fun a' c' => ?_)
      rw [hap1, hla1]
      repeat' first
        | refine J_seq ?_ | refine J_region Tryz.tyOK ?_ | refine J_block ?_ | refine J_cond ?_ | refine J_ret ?_ | refine J_skip ?_ | refine J_exit ?_ | refine J_scope ?_
        | refine CondP.yes (by omega) ?_ | refine CondP.no (by omega) ?_ | refine CondP.mk (fun h => ?_) (fun h => ?_) | refine EqP.mk rfl ?_ | refine NewP.mk (fun ad => ?_) | refine ArP.exact (by simp only [inR]; omega) ?_ | refine SideP.mk (by first | omega | (dsimp only; omega) | (simp; omega)) ?_
        | refine Round.mk (bs ++ [x1], a', c', q9) (by dsimp only; omega) ⟨by dsimp only; omega, blk_more hbu hxb1, fit_snoc hft hfx1, h90⟩ (by repeat' first | exact SubE.nil | refine SubE.cons rfl ?_ ?_ | exact VEq.refl _ | exact VEq.int (by dsimp only; rw [← hla1]; omega)) (Ents.ofSub (List.Sublist.cons _ (List.Sublist.cons_cons _ (List.Sublist.cons _ (List.Sublist.cons_cons _ List.Sublist.slnil)))) (fun _ h => ⟨blks_snoc h.2.2.1 (hli1 _ h.2.1 h.1), h.2.2.2.1, trivial⟩))
        | fail
  · have hno : 0 < (d : Int) → 3 ≤ 1 + k6 → ¬ (1 + k6 = 6) → 1 + k6 = 5 := fun h1 h2 h3 => Classical.byContradiction fun h4 => hkid ⟨by omega, h2, h3, h4⟩
    repeat' first
      | refine J_seq ?_ | refine J_region Tryz.tyOK ?_ | refine J_block ?_ | refine J_cond ?_ | refine J_ret ?_ | refine J_skip ?_ | refine J_exit ?_ | refine J_scope ?_
      | refine CondP.yes (by omega) ?_ | refine CondP.no (by omega) ?_ | refine CondP.mk (fun h => ?_) (fun h => ?_) | refine EqP.mk rfl ?_ | refine NewP.mk (fun ad => ?_) | refine ArP.exact (by simp only [inR]; omega) ?_ | refine SideP.mk (by first | omega | (dsimp only; omega) | (simp; omega)) ?_
      | (refine AppE.row [_, _, _] _ (blkC bs) [.i .i64 (1 + k6), .i .i64 k4, .s tx, .sl ia els.length ic, .sl none 0 0] 1 rfl (SrcE.sl 81 81 _ _ 1 _ _ rfl rfl (.inl ⟨_, List.Mem.head _⟩) rfl) (by dsimp only; omega) (fun a' c' => ?_); rw [hap0, hla0]) | refine Round.mk (bs ++ [x0], a', c', q7) (by dsimp only; omega) ⟨by dsimp only; omega, blk_more hbu hxb0, fit_snoc hft hfx0, hq7⟩ (by repeat' first | exact SubE.nil | refine SubE.cons rfl ?_ ?_ | exact VEq.refl _ | exact VEq.int (by dsimp only; rw [← hla0]; omega)) (Ents.ofSub (List.Sublist.cons _ (List.Sublist.cons _ (List.Sublist.cons_cons _ (List.Sublist.cons_cons _ List.Sublist.slnil)))) (fun _ h => ⟨blks_snoc h.2.1 (hli0 _ h.1), h.2.2.1, trivial⟩)) | exact absurd (hno (by assumption) (by assumption) (by assumption)) (by assumption)
      | fail
    all_goals trace_state
theorem gen4_ok (e : Nat) (a : Option Addr) (c tb : Nat) (l : List Int) (hl : l.length ≤ maxLen) (q : Nat) (hq : q ≤ l.length) :
    FnS Tryz.prog 19 [.c (.p 1000 tb 0), .c (.i .i64 2)] [tapeC tb a l.length c q] [tapeF e a l] (fun v L D => ∃ ba bc bs q, q ≤ l.length ∧ blkBulk bs ≤ 21672 ∧ blkFit bs ∧ bs.length ≤ 4 ∧ v = .c (.sl ba bs.length bc) ∧ L = [tapeC tb a l.length c q] ∧ D = [blkF ba bs]) := by
  have h := gen4_step e a c tb l hl 2 (by omega) (fun _ q hq => by
    have := genBlocks_ok e a c tb l hl 1 (by omega) q hq
    exact this) q hq
  exact h
end Go.Proofs
