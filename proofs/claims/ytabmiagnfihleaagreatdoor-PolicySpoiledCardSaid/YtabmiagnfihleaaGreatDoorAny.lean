/- This text gives the contracts of strings.IndexAny and strings.ContainsAny at two ASCII characters and any string, and of decoding steps. -/
import Derived.Test.YtabmiagnfihleaaGreatDoorLibc
set_option linter.all false

namespace Go.X
open Go

theorem decodeN_hi {n b0 b1 b2 b3 r w : Nat} (h : 128 ≤ b0) (hn : 1 ≤ n) (hb0 : b0 < 256) (hd : Lib.decodeN n b0 b1 b2 b3 = (r, w)) : 128 ≤ r ∧ r ≤ 1114111 ∧ 1 ≤ w ∧ w ≤ n ∧ w ≤ 4 ∧ (2 ≤ w → 128 ≤ b1) ∧ (3 ≤ w → 128 ≤ b2) ∧ (4 ≤ w → 128 ≤ b3) := by
  unfold Lib.decodeN at hd
  rw [if_neg (by omega)] at hd
  split at hd
  · split at hd <;> (simp only [Prod.mk.injEq] at hd; omega)
  · split at hd
    · split at hd <;> (simp only [Prod.mk.injEq] at hd; omega)
    · split at hd
      · split at hd <;> (simp only [Prod.mk.injEq] at hd; omega)
      · simp only [Prod.mk.injEq] at hd; omega

theorem get_list (l : List UInt8) (i : Nat) : (⟨⟨l⟩⟩ : ByteArray).get! i = l.getD i 0 := by
  simp [ByteArray.get!, List.getD_eq_getElem?_getD, getElem!_def]
  cases l[i]? <;> rfl

/-- A byte of ASCII stands for itself. -/
theorem dec_lo {l : List UInt8} {pos : Nat} (h : pos < l.length) (hb : (l.getD pos 0).toNat < 128) : decL l pos = ((l.getD pos 0).toNat, 1) := by
  unfold decL
  rw [Lib.decode_at, get_list, Lib.decodeN, if_pos hb]
/-- Other bytes: a rune beyond ASCII, and only bytes beyond ASCII are passed. -/
theorem dec_hi {l : List UInt8} {pos r n : Nat} (h : pos < l.length) (hb : 128 ≤ (l.getD pos 0).toNat) (hd : decL l pos = (r, n)) :
    128 ≤ r ∧ r ≤ 1114111 ∧ 1 ≤ n ∧ pos + n ≤ l.length ∧ ∀ j, pos ≤ j → j < pos + n → 128 ≤ (l.getD j 0).toNat := by
  unfold decL at hd
  rw [Lib.decode_at, get_list, get_list, get_list, get_list] at hd
  have hsz : (⟨⟨l⟩⟩ : ByteArray).size = l.length := rfl
  rw [hsz] at hd
  obtain ⟨h1, h2, h3, h4, h5, h6, h7, h8⟩ := decodeN_hi hb (by omega) (by have := (l.getD pos 0).toNat_lt; omega) hd
  refine ⟨h1, h2, h3, by omega, fun j hj hj2 => ?_⟩
  rcases (by omega : j = pos ∨ j = pos + 1 ∨ j = pos + 2 ∨ j = pos + 3) with rfl | rfl | rfl | rfl
  · exact hb
  · exact h6 (by omega)
  · exact h7 (by omega)
  · exact h8 (by omega)

/-- The bytes of a rune beyond ASCII. -/
theorem enc_two {r : Int} {l : List UInt8} (hv : Utf8.valid r = true) (hr : 128 ≤ r) (hl : l = (Utf8.encode r).data.toList) : 2 ≤ l.length ∧ l.length ≤ 4 ∧ 128 ≤ (l.getD ((l.length : Int) - 1).toNat 0).toNat := by
  subst hl
  obtain ⟨h1, h2, h3⟩ := encode_facts r hv hr
  have h0 : (Utf8.encode r).size - 1 < (Utf8.encode r).size := by omega
  have h4 := h3 h0
  have hsz : (Utf8.encode r).data.toList.length = (Utf8.encode r).size := rfl
  rw [hsz]
  refine ⟨h1, h2, ?_⟩
  have h5 : (((Utf8.encode r).size : Int) - 1).toNat = (Utf8.encode r).size - 1 := by omega
  have h6 : (Utf8.encode r).data.toList.getD (((Utf8.encode r).size : Int) - 1).toNat 0 = (Utf8.encode r)[(Utf8.encode r).size - 1]'h0 := by
    rw [h5, List.getD_eq_getElem?_getD, Array.getElem?_toList]
    have : (Utf8.encode r).data[(Utf8.encode r).size - 1]? = some ((Utf8.encode r)[(Utf8.encode r).size - 1]'h0) := Array.getElem?_eq_some_iff.2 ⟨h0, rfl⟩
    rw [this]; rfl
  rw [h6]; exact h4

end Go.X

namespace Go.Proofs
open Go Go.X Go.RowKit Go.Shelf
set_option maxRecDepth 100000

theorem validRune_ok (r : Int) : FnS Tryz.prog 93 [.c (.i .i32 r)] [] [] (Is (.c (.b (Utf8.valid r)))) := by
  refine fn_of_J Tryz.tyOK 0 Tryz.func93 (by kernel_rfl) (c := Tryz.f93.body.getD .skip) (by kernel_rfl) Tryz.ntmps93 (rs := Tryz.f93.results.toList) rfl (by simp) (fun G => ?_)
  repeat' first
    | refine J_seq ?_ | refine J_region Tryz.tyOK ?_ | refine J_block ?_ | refine J_cond ?_ | refine J_ret ?_ | refine J_skip ?_ | refine J_exit ?_ | refine J_scope ?_
    | refine CondP.yes (by omega) ?_ | refine CondP.no (by omega) ?_ | refine CondP.mk (fun h => ?_) (fun h => ?_) | refine EqP.mk rfl ?_ | refine NewP.mk (fun ad => ?_) | refine ArP.exact (by simp only [inR]; omega) ?_ | refine SideP.mk (by first | omega | (dsimp only; omega) | (simp; omega)) ?_
    | refine FinE.bool ?_
    | fail
  all_goals (unfold Utf8.valid; simp; omega)

theorem runeLo_ok (a b : UInt8) (ha : a.toNat < 128) (hb : b.toNat < 128) (x : UInt8) (hx : x.toNat < 128) : FnS Tryz.prog 75 [.c (.s [a, b]), .c (.i .i32 x.toNat)] [] [] (fun v L D => ∃ k : Int, v = .c (.i .i64 k) ∧ decide (0 ≤ k) = [a, b].contains x ∧ L = [] ∧ D = []) := by
  have h := fn_pure (D := []) (args := [.c (.s [a, b]), .c (.i .i32 x.toNat)]) (v := .c (.i .i64 (Lib.indexByte [a, b] x))) ⟨_, Tryz.func75, by kernel_rfl, by kernel_rfl⟩ (fun w => by
    have := Tryz.strings_IndexRune_ascii ⟨⟨[a, b]⟩⟩ x.toNat w (by omega) (by omega)
    simpa [V.enc, C.enc] using this)
  refine h.mono ?_
  rintro v L D ⟨rfl, rfl, rfl⟩
  refine ⟨_, rfl, ?_, rfl, rfl⟩
  simp only [Lib.indexByte]
  by_cases h1 : a = x
  · subst h1; simp
  · by_cases h2 : b = x
    · subst h2; simp [h1]
    · simp [h1, h2, Ne.symm h1, Ne.symm h2]

theorem runeHi_ok (a b : UInt8) (ha : a.toNat < 128) (hb : b.toNat < 128) (r : Int) (hr : 128 ≤ r) : FnS Tryz.prog 75 [.c (.s [a, b]), .c (.i .i32 r)] [] [] (fun v L D => v = .c (.i .i64 (-1)) ∧ L = [] ∧ D = []) := by
  have d0 : decL [a, b] 0 = (a.toNat, 1) := dec_lo (by simp) ha
  have d1 : decL [a, b] 1 = (b.toNat, 1) := dec_lo (by simp) hb
  have hi0 : ∀ y : UInt8, Lib.indexByte [] y = -1 := fun y => rfl
  refine fn_of_J Tryz.tyOK 3000 Tryz.func75 (by kernel_rfl) (c := Tryz.f75.body.getD .skip) (by kernel_rfl) Tryz.ntmps75 (rs := Tryz.f75.results.toList) rfl (by simp) (fun G => ?_)
  repeat' first
    | refine J_stop (c := .seq (.region 37 _ _) _) ?_ | refine J_stop (c := .scope _) ?_
    | refine J_seq ?_ | refine J_region Tryz.tyOK ?_ | refine J_block ?_ | refine J_cond ?_ | refine J_ret ?_ | refine J_skip ?_ | refine J_exit ?_ | refine J_scope ?_
    | refine CondP.yes (by omega) ?_ | refine CondP.no (by omega) ?_ | refine CondP.mk (fun h => ?_) (fun h => ?_) | refine EqP.mk rfl ?_ | refine NewP.mk (fun ad => ?_) | refine ArP.exact (by simp only [inR]; omega) ?_ | refine SideP.mk (by first | omega | (dsimp only; omega) | (simp; omega)) ?_
    | exact FinE.mk _ [] ⟨rfl, rfl, rfl⟩ Ents.dropAll | refine CallP.isB (validRune_ok r) (fun hv => ?_) (fun hv => ?_)
    | fail
  · refine ⟨?_⟩
    repeat' first
      | refine J_seq ?_ | refine J_region Tryz.tyOK ?_ | refine J_block ?_ | refine J_cond ?_ | refine J_ret ?_ | refine J_skip ?_ | refine J_exit ?_ | refine J_scope ?_
      | refine CondP.yes (by omega) ?_ | refine CondP.no (by omega) ?_ | refine CondP.mk (fun h => ?_) (fun h => ?_) | refine EqP.mk rfl ?_ | refine NewP.mk (fun ad => ?_) | refine ArP.exact (by simp only [inR]; omega) ?_ | refine SideP.mk (by first | omega | (dsimp only; omega) | (simp; omega)) ?_
      | refine DecE.of d0 ?_ | refine DecE.of d1 ?_ | refine J_rounds 3 ?_ | refine JR_succ ?_ | exact FinE.mk _ [] ⟨rfl, rfl, rfl⟩ Ents.dropAll
      | fail
    exact absurd h (by simp)
  · refine ⟨?_⟩
    have hab : [a, b].length = 2 := rfl
    have hlo : ∀ i, ([a, b].getD i 0).toNat < 128 := fun i => by
      rcases i with _ | _ | i
      · exact ha
      · exact hb
      · simp
    have hz : ∀ m c, 2 ≤ m → Lib.indexByte (List.drop m [a, b]) c < 0 := fun m c hm => by
      rw [List.drop_eq_nil_of_le (by simp; omega)]; show (-1 : Int) < 0; decide
    repeat' first
      | refine J_seq ?_ | refine J_region Tryz.tyOK ?_ | refine J_block ?_ | refine J_cond ?_ | refine J_ret ?_ | refine J_skip ?_ | refine J_exit ?_ | refine J_scope ?_
      | refine CondP.yes (by omega) ?_ | refine CondP.no (by omega) ?_ | refine CondP.mk (fun h => ?_) (fun h => ?_) | refine EqP.mk rfl ?_ | refine NewP.mk (fun ad => ?_) | refine ArP.exact (by simp only [inR]; omega) ?_ | refine SideP.mk (by first | omega | (dsimp only; omega) | (simp; omega)) ?_
      | refine EncE.mk (fun rs hrs => ?_); obtain ⟨h2, h4, hy⟩ := enc_two hv hr hrs; have hx := hlo ((rs.length : Int) - 1).toNat | refine J_rounds 1 ?_ | refine JR_succ ?_ | refine J_drawS (id := 6) Tryz.tyOK (by kernel_rfl) [0, 0, 3, 0, 0, 24, 63] [0, 1, 2, 3, 4, 5, 6] [] [] true (by kernel_rfl) ?_ | refine J_drawS (id := 7) Tryz.tyOK (by kernel_rfl) [0, 0, 2, 7, 0, 0, 48, 127, 255] [0, 1, 2, 3, 4, 5, 6, 7, 8] [] [] true (by kernel_rfl) ?_ | refine J_drawS (id := 14) Tryz.tyOK (by kernel_rfl) [0, 0, 0, 6, 15, 0, 0, 0, 192, 480, 1023] [0, 1, 2, 3, 4, 5, 6, 7, 8, 9, 10] [] [] true (by kernel_rfl) ?_ | refine J_drawS (id := 31) Tryz.tyOK (by kernel_rfl) [0, 0, 0, 6, 15, 0, 0, 0, 192, 480, 1023] [0, 1, 2, 3, 4, 5, 6, 7, 8, 9, 10] [] [] true (by kernel_rfl) ?_ | refine EntP.mk (Ents.ofSub (by repeat (first | exact List.Sublist.slnil | refine List.Sublist.cons_cons _ ?_ | refine List.Sublist.cons _ ?_)) (by first | exact fun _ h => h | exact fun _ _ => trivial | exact fun _ h => h.2 | exact fun _ h => h.2.2.2.2 | exact fun _ h => ((allD_append _ _).1 h).2)) ?_ | refine CallQ.mk [] _ (indexByte_ok _ _) (fun _ _ => trivial) ?_ | refine CondP.yes (hz _ _ (by omega)) ?_ | exact FinE.mk _ [] ⟨rfl, rfl, rfl⟩ Ents.dropAll
      | fail
    exact absurd (hz _ _ (by omega)) h

theorem shouldUse_ok (n : Int) : FnS Tryz.prog 76 [.c (.i .i64 n)] [] [] (Is (.c (.b (decide (8 < n))))) := by
  refine fn_of_J Tryz.tyOK 0 Tryz.func76 (by kernel_rfl) (c := Tryz.f76.body.getD .skip) (by kernel_rfl) Tryz.ntmps76 (rs := Tryz.f76.results.toList) rfl (by simp) (fun G => ?_)
  repeat' first
    | refine J_seq ?_ | refine J_region Tryz.tyOK ?_ | refine J_block ?_ | refine J_cond ?_ | refine J_ret ?_ | refine J_skip ?_ | refine J_exit ?_ | refine J_scope ?_
    | refine CondP.yes (by omega) ?_ | refine CondP.no (by omega) ?_ | refine CondP.mk (fun h => ?_) (fun h => ?_) | refine EqP.mk rfl ?_ | refine NewP.mk (fun ad => ?_) | refine ArP.exact (by simp only [inR]; omega) ?_ | refine SideP.mk (by first | omega | (dsimp only; omega) | (simp; omega)) ?_
    | refine FinE.bool ?_
    | fail
  all_goals (first | exact decide_eq_true (by omega) | exact decide_eq_false (by omega))

theorem zero256 : ∀ w, (zeroValue 91).run Tryz.prog w = .ok (.agg (Array.replicate 256 (.bool false))) w :=
  fun w => (run_zeroValue (i := ⟨.arr 256 4, 256, 256, .agg (List.replicate 256 (.b false))⟩) ⟨by kernel_rfl, by kernel_rfl, .inl rfl, by show Tryz.prog.underlying _ = some (.array 256 4); kernel_rfl⟩ w).trans
    (congrArg (fun v => Result.ok v w) (by kernel_rfl))

theorem indexAnyShort (s : List UInt8) (a b : UInt8) (ha : a.toNat < 128) (hb : b.toNat < 128) (hs : s.length ≤ 8) : FnS Tryz.prog 49 [.c (.s s), .c (.s [a, b])] [] [] (Is (.c (.i .i64 (Lib.indexAny s [a, b])))) := by
  have hab : [a, b].length = 2 := rfl
  have hnil : ¬ [a, b] = [] := by simp
  refine fn_of_J Tryz.tyOK 2000 Tryz.func49 (by kernel_rfl) (c := Tryz.f49.body.getD .skip) (by kernel_rfl) Tryz.ntmps49 (rs := Tryz.f49.results.toList) rfl (by simp) (fun G => ?_)
  repeat' first
    | refine J_stop (c := .seq (.block 2 _) _) ?_
    | refine J_seq ?_ | refine J_region Tryz.tyOK ?_ | refine J_block ?_ | refine J_cond ?_ | refine J_ret ?_ | refine J_skip ?_ | refine J_exit ?_ | refine J_scope ?_
    | refine CondP.yes (by omega) ?_ | refine CondP.no (by omega) ?_ | refine CondP.mk (fun h => ?_) (fun h => ?_) | refine EqP.mk rfl ?_ | refine NewP.mk (fun ad => ?_) | refine ArP.exact (by simp only [inR]; omega) ?_ | refine SideP.mk (by first | omega | (dsimp only; omega) | (simp; omega)) ?_
    | refine CondP.no hnil ?_ | refine CallP.isB (shouldUse_ok _) (fun hu => absurd (of_decide_eq_true hu) (by omega)) (fun hu => ?_)
    | fail
  refine J_loop (α := Nat) (fun _ => [(1, .c (.s [a, b])), (45, .c (.p 2000 ad 0))]) (fun i => [.obj 2000 ad (.stringIter ⟨⟨s⟩⟩ i)]) (fun _ => []) 2001 (fun i => i ≤ s.length ∧ Lib.NoAny s [a, b] i) (fun i => s.length - i)
    (InFam.mk 0 ⟨by omega, fun j b h => absurd h (by omega)⟩ (by repeat' first | exact SubE.nil | refine SubE.cons rfl ?_ ?_ | exact VEq.refl _ | refine VEq.int (by omega) | refine VEq.sl rfl (by first | rfl | omega | (rw [List.length_append]; rfl) | (simp; omega)) rfl) (Ents.refl _ _)) (fun i hi => ?_)
  obtain ⟨hi, hno⟩ := hi
  by_cases hlt : i < s.length
  · have hg : s[i]? = some (s.getD i 0) := by simp [hlt]
    by_cases hc : (s.getD i 0).toNat < 128
    · have hcall := runeLo_ok a b ha hb (s.getD i 0) hc
      have hn : [a, b].contains (s.getD i 0) = false → Lib.NoAny s [a, b] (i + 1) := fun h j x hj hx => by
        by_cases hji : j = i
        · subst hji; rw [hg] at hx; cases hx; exact h
        · exact hno j x (by omega) hx
      have hh : [a, b].contains (s.getD i 0) = true → Lib.indexAny s [a, b] = i := fun h => Lib.indexAny_hit hno hg h
      generalize [a, b].contains (s.getD i 0) = z at hcall hn hh
      have hd := dec_lo hlt hc
      generalize (s.getD i 0).toNat = x at *
      repeat' first
        | refine J_seq ?_ | refine J_region Tryz.tyOK ?_ | refine J_block ?_ | refine J_cond ?_ | refine J_ret ?_ | refine J_skip ?_ | refine J_exit ?_ | refine J_scope ?_
        | refine CondP.yes (by omega) ?_ | refine CondP.no (by omega) ?_ | refine CondP.mk (fun h => ?_) (fun h => ?_) | refine EqP.mk rfl ?_ | refine NewP.mk (fun ad => ?_) | refine ArP.exact (by simp only [inR]; omega) ?_ | refine SideP.mk (by first | omega | (dsimp only; omega) | (simp; omega)) ?_
        | refine DecE.of hd ?_ | refine CallP.mk [] [_] [] _ hcall (List.Perm.refl _) (fun _ _ => trivial) (fun v L' D' hp => ?_); obtain ⟨k, rfl, hk, rfl, rfl⟩ := hp | refine FinE.int ?_ | refine Round.mk (i + 1) (by omega) ⟨by omega, ?_⟩ (by repeat' first | exact SubE.nil | refine SubE.cons rfl ?_ ?_ | exact VEq.refl _ | refine VEq.int (by omega) | refine VEq.sl rfl (by first | rfl | omega | (rw [List.length_append]; rfl) | (simp; omega)) rfl) (Ents.refl _ _)
        | fail
      · rw [decide_eq_true (by assumption)] at hk
        exact hh hk.symm
      · rw [decide_eq_false (by assumption)] at hk
        exact hn hk.symm
    · repeat' first
        | refine J_seq ?_ | refine J_region Tryz.tyOK ?_ | refine J_block ?_ | refine J_cond ?_ | refine J_ret ?_ | refine J_skip ?_ | refine J_exit ?_ | refine J_scope ?_
        | refine CondP.yes (by omega) ?_ | refine CondP.no (by omega) ?_ | refine CondP.mk (fun h => ?_) (fun h => ?_) | refine EqP.mk rfl ?_ | refine NewP.mk (fun ad => ?_) | refine ArP.exact (by simp only [inR]; omega) ?_ | refine SideP.mk (by first | omega | (dsimp only; omega) | (simp; omega)) ?_
        | refine DecE.mk (fun r n hd => ?_); obtain ⟨h1, h2, h3, h4, h5⟩ := dec_hi hlt (by omega) hd | refine CallP.mk [] [_] [] _ (runeHi_ok a b ha hb _ (by omega)) (List.Perm.refl _) (fun _ _ => trivial) (fun v L' D' hp => ?_); obtain ⟨rfl, rfl, rfl⟩ := hp | refine FinE.int ?_ | refine Round.mk (i + n) (by omega) ⟨by omega, ?_⟩ (by repeat' first | exact SubE.nil | refine SubE.cons rfl ?_ ?_ | exact VEq.refl _ | refine VEq.int (by omega) | refine VEq.sl rfl (by first | rfl | omega | (rw [List.length_append]; rfl) | (simp; omega)) rfl) (Ents.refl _ _)
        | fail
      intro j x hj hx
      by_cases hji : j < i
      · exact hno j x hji hx
      · have h6 := h5 j (by omega) (by omega)
        have h7 : s.getD j 0 = x := by simp [hx]
        rw [h7] at h6
        have h8 : x ≠ a := fun h => by subst h; omega
        have h9 : x ≠ b := fun h => by subst h; omega
        simp [h8, h9]
  · have hil : i = s.length := by omega
    subst hil
    repeat' first
      | refine J_seq ?_ | refine J_region Tryz.tyOK ?_ | refine J_block ?_ | refine J_cond ?_ | refine J_ret ?_ | refine J_skip ?_ | refine J_exit ?_ | refine J_scope ?_
      | refine CondP.yes (by omega) ?_ | refine CondP.no (by omega) ?_ | refine CondP.mk (fun h => ?_) (fun h => ?_) | refine EqP.mk rfl ?_ | refine NewP.mk (fun ad => ?_) | refine ArP.exact (by simp only [inR]; omega) ?_ | refine SideP.mk (by first | omega | (dsimp only; omega) | (simp; omega)) ?_
      | refine FinE.int ?_
      | fail
    exact Lib.indexAny_none hno

theorem indexAny_ok (s : List UInt8) (a b : UInt8) (ha : a.toNat < 128) (hb : b.toNat < 128) (hs : s.length < 4294967281) : FnS Tryz.prog 49 [.c (.s s), .c (.s [a, b])] [] [] (Is (.c (.i .i64 (Lib.indexAny s [a, b])))) := by
  by_cases h8 : s.length ≤ 8
  · exact indexAnyShort s a b ha hb h8
  · refine fn_below ⟨_, Tryz.func49, by kernel_rfl, by kernel_rfl⟩ (fun w _ _ _ => ?_)
    refine (Tryz.strings_IndexAny_long zero256 ⟨⟨s⟩⟩ ⟨⟨[a, b]⟩⟩ w (Nat.le_refl 2) (by show 8 < s.length; omega) hs (by show 2 < _; decide) (fun j x hx => ?_)).mono ?_
    · have hm := List.mem_of_getElem? hx
      simp only [List.mem_cons, List.not_mem_nil, or_false] at hm
      rcases hm with rfl | rfl <;> assumption
    · rintro e w' ⟨rfl, rfl⟩
      refine ⟨rfl, rfl, rfl, rfl, by simp <;> omega, fun k hk => ?_⟩
      rw [heap_alloc_old _ _ (by simp; omega), heap_alloc_old _ _ hk]

theorem containsAny_ok (s : List UInt8) (a b : UInt8) (ha : a.toNat < 128) (hb : b.toNat < 128) (hs : s.length < 4294967281) : FnS Tryz.prog 31 [.c (.s s), .c (.s [a, b])] [] [] (Is (.c (.b (decide (0 ≤ Lib.indexAny s [a, b]))))) := by
  refine fn_of_J Tryz.tyOK 0 Tryz.func31 (by kernel_rfl) (c := Tryz.f31.body.getD .skip) (by kernel_rfl) Tryz.ntmps31 (rs := Tryz.f31.results.toList) rfl (by simp) (fun G => ?_)
  repeat' first
    | refine J_seq ?_ | refine J_region Tryz.tyOK ?_ | refine J_block ?_ | refine J_cond ?_ | refine J_ret ?_ | refine J_skip ?_ | refine J_exit ?_ | refine J_scope ?_
    | refine CondP.yes (by omega) ?_ | refine CondP.no (by omega) ?_ | refine CondP.mk (fun h => ?_) (fun h => ?_) | refine EqP.mk rfl ?_ | refine NewP.mk (fun ad => ?_) | refine ArP.exact (by simp only [inR]; omega) ?_ | refine SideP.mk (by first | omega | (dsimp only; omega) | (simp; omega)) ?_
    | refine CallP.is (indexAny_ok s a b ha hb hs) ?_ | refine FinE.bool ?_
    | fail
  · exact decide_eq_true (by assumption)
  · exact decide_eq_false (by assumption)

end Go.Proofs
