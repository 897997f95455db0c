/- This text proves the statement HtmlSafe for every input: the call returns true, and leaves its arguments alone. -/
import Derived.Test.YtdnkeinjfddmnaaGreatDoorQ06
import Derived.Lib.DecodeN
import Derived.Test.YtdnkeinjfddmnaaGreatDoorQ09
import Derived.Test.YtdnkeinjfddmnaaGreatDoorQ05
set_option linter.all false

namespace Go.X
open Go

theorem decodeN_hi {n b0 b1 b2 b3 r w : Nat} (h : 128 ≤ b0) (hn : 1 ≤ n) (hb0 : b0 < 256) (hd : Lib.decodeN n b0 b1 b2 b3 = (r, w)) : 128 ≤ r ∧ r ≤ 1114111 ∧ 1 ≤ w ∧ w ≤ n ∧ w ≤ 4 ∧ (2 ≤ w → 128 ≤ b1) ∧ (3 ≤ w → 128 ≤ b2) ∧ (4 ≤ w → 128 ≤ b3) := by
  unfold Lib.decodeN at hd
  rw [if_neg (by omega)] at hd
  split at hd
  · split at hd <;> (simp only [Prod.mk.injEq] at hd; omega)
  · split at hd
    · split at hd <;> (simp only [Prod.mk.injEq] at hd; omega)
    · split at hd
      · split at hd <;> (simp only [Prod.mk.injEq] at hd; omega)
      · simp only [Prod.mk.injEq] at hd; omega

theorem get_list (l : List UInt8) (i : Nat) : (⟨⟨l⟩⟩ : ByteArray).get! i = l.getD i 0 := by
  simp [ByteArray.get!, List.getD_eq_getElem?_getD, getElem!_def]
  cases l[i]? <;> rfl

/-- A byte of ASCII stands for itself. -/
theorem dec_lo {l : List UInt8} {pos : Nat} (h : pos < l.length) (hb : (l.getD pos 0).toNat < 128) : decL l pos = ((l.getD pos 0).toNat, 1) := by
  unfold decL
  rw [Lib.decode_at, get_list, Lib.decodeN, if_pos hb]
/-- Other bytes: a rune beyond ASCII, and only bytes beyond ASCII are passed. -/
theorem dec_hi {l : List UInt8} {pos r n : Nat} (h : pos < l.length) (hb : 128 ≤ (l.getD pos 0).toNat) (hd : decL l pos = (r, n)) :
    128 ≤ r ∧ r ≤ 1114111 ∧ 1 ≤ n ∧ pos + n ≤ l.length ∧ ∀ j, pos ≤ j → j < pos + n → 128 ≤ (l.getD j 0).toNat := by
  unfold decL at hd
  rw [Lib.decode_at, get_list, get_list, get_list, get_list] at hd
  have hsz : (⟨⟨l⟩⟩ : ByteArray).size = l.length := rfl
  rw [hsz] at hd
  obtain ⟨h1, h2, h3, h4, h5, h6, h7, h8⟩ := decodeN_hi hb (by omega) (by have := (l.getD pos 0).toNat_lt; omega) hd
  refine ⟨h1, h2, h3, by omega, fun j hj hj2 => ?_⟩
  rcases (by omega : j = pos ∨ j = pos + 1 ∨ j = pos + 2 ∨ j = pos + 3) with rfl | rfl | rfl | rfl
  · exact hb
  · exact h6 (by omega)
  · exact h7 (by omega)
  · exact h8 (by omega)

/-- The bytes of a rune beyond ASCII. -/
theorem enc_two {r : Int} {l : List UInt8} (hv : Utf8.valid r = true) (hr : 128 ≤ r) (hl : l = (Utf8.encode r).data.toList) : 2 ≤ l.length ∧ l.length ≤ 4 ∧ 128 ≤ (l.getD ((l.length : Int) - 1).toNat 0).toNat := by
  subst hl
  obtain ⟨h1, h2, h3⟩ := encode_facts r hv hr
  have h0 : (Utf8.encode r).size - 1 < (Utf8.encode r).size := by omega
  have h4 := h3 h0
  have hsz : (Utf8.encode r).data.toList.length = (Utf8.encode r).size := rfl
  rw [hsz]
  refine ⟨h1, h2, ?_⟩
  have h5 : (((Utf8.encode r).size : Int) - 1).toNat = (Utf8.encode r).size - 1 := by omega
  have h6 : (Utf8.encode r).data.toList.getD (((Utf8.encode r).size : Int) - 1).toNat 0 = (Utf8.encode r)[(Utf8.encode r).size - 1]'h0 := by
    rw [h5, List.getD_eq_getElem?_getD, Array.getElem?_toList]
    have : (Utf8.encode r).data[(Utf8.encode r).size - 1]? = some ((Utf8.encode r)[(Utf8.encode r).size - 1]'h0) := Array.getElem?_eq_some_iff.2 ⟨h0, rfl⟩
    rw [this]; rfl
  rw [h6]; exact h4

end Go.X

namespace Go.Proofs
open Go Go.X Go.RowKit Go.Shelf
set_option maxRecDepth 100000

theorem validRune_ok (r : Int) : FnS Tryz.prog 134 [.c (.i .i32 r)] [] [] (Is (.c (.b (Utf8.valid r)))) := by
  refine fn_of_J Tryz.tyOK 0 Tryz.func134 (by kernel_rfl) (c := Tryz.f134.body.getD .skip) (by kernel_rfl) Tryz.ntmps134 (rs := Tryz.f134.results.toList) rfl (by simp) (fun G => ?_)
  repeat' first
    | refine J_seq ?_ | refine J_region Tryz.tyOK ?_ | refine J_block ?_ | refine J_cond ?_ | refine J_ret ?_ | refine J_skip ?_ | refine J_exit ?_ | refine J_scope ?_
    | refine CondP.yes (by omega) ?_ | refine CondP.no (by omega) ?_ | refine CondP.mk (fun h => ?_) (fun h => ?_) | refine EqP.mk rfl ?_ | refine NewP.mk (fun ad => ?_) | refine ArP.exact (by simp only [inR]; omega) ?_ | refine SideP.mk (by first | omega | (dsimp only; omega) | (simp; omega)) ?_
    | refine FinE.bool ?_
    | fail
  all_goals (unfold Utf8.valid; simp; omega)

theorem runeLo3_ok (a b d : UInt8) (ha : a.toNat < 128) (hb : b.toNat < 128) (hd3 : d.toNat < 128) (x : UInt8) (hx : x.toNat < 128) : FnS Tryz.prog 99 [.c (.s [a, b, d]), .c (.i .i32 x.toNat)] [] [] (fun v L D => ∃ k : Int, v = .c (.i .i64 k) ∧ decide (0 ≤ k) = [a, b, d].contains x ∧ L = [] ∧ D = []) := by
  have h := fn_pure (D := []) (args := [.c (.s [a, b, d]), .c (.i .i32 x.toNat)]) (v := .c (.i .i64 (Lib.indexByte [a, b, d] x))) ⟨_, Tryz.func99, by kernel_rfl, by kernel_rfl⟩ (fun w => by
    have := Tryz.strings_IndexRune_ascii ⟨⟨[a, b, d]⟩⟩ x.toNat w (by omega) (by omega)
    simpa [V.enc, C.enc] using this)
  refine h.mono ?_
  rintro v L D ⟨rfl, rfl, rfl⟩
  refine ⟨_, rfl, ?_, rfl, rfl⟩
  simp only [Lib.indexByte]
  by_cases h1 : a = x
  · subst h1; simp
  · by_cases h2 : b = x
    · subst h2; simp [h1]
    · by_cases h3 : d = x
      · subst h3; simp [h1, h2]
      · simp [h1, h2, h3, Ne.symm h1, Ne.symm h2, Ne.symm h3]

theorem runeHi3_ok (a b d : UInt8) (ha : a.toNat < 128) (hb : b.toNat < 128) (hd3 : d.toNat < 128) (r : Int) (hr : 128 ≤ r) : FnS Tryz.prog 99 [.c (.s [a, b, d]), .c (.i .i32 r)] [] [] (fun v L D => v = .c (.i .i64 (-1)) ∧ L = [] ∧ D = []) := by
  have d0 : decL [a, b, d] 0 = (a.toNat, 1) := dec_lo (by simp) ha
  have d1 : decL [a, b, d] 1 = (b.toNat, 1) := dec_lo (by simp) hb
  have d2 : decL [a, b, d] 2 = (d.toNat, 1) := dec_lo (by simp) hd3
  have hi0 : ∀ y : UInt8, Lib.indexByte [] y = -1 := fun y => rfl
  refine fn_of_J Tryz.tyOK 3000 Tryz.func99 (by kernel_rfl) (c := Tryz.f99.body.getD .skip) (by kernel_rfl) Tryz.ntmps99 (rs := Tryz.f99.results.toList) rfl (by simp) (fun G => ?_)
  repeat' first
    | refine J_stop (c := .seq (.region 37 _ _) _) ?_ | refine J_stop (c := .scope _) ?_
    | refine J_seq ?_ | refine J_region Tryz.tyOK ?_ | refine J_block ?_ | refine J_cond ?_ | refine J_ret ?_ | refine J_skip ?_ | refine J_exit ?_ | refine J_scope ?_
    | refine CondP.yes (by omega) ?_ | refine CondP.no (by omega) ?_ | refine CondP.mk (fun h => ?_) (fun h => ?_) | refine EqP.mk rfl ?_ | refine NewP.mk (fun ad => ?_) | refine ArP.exact (by simp only [inR]; omega) ?_ | refine SideP.mk (by first | omega | (dsimp only; omega) | (simp; omega)) ?_
    | exact FinE.mk _ [] ⟨rfl, rfl, rfl⟩ Ents.dropAll | refine CallP.isB (validRune_ok r) (fun hv => ?_) (fun hv => ?_)
    | fail
  · refine ⟨?_⟩
    repeat' first
      | refine J_seq ?_ | refine J_region Tryz.tyOK ?_ | refine J_block ?_ | refine J_cond ?_ | refine J_ret ?_ | refine J_skip ?_ | refine J_exit ?_ | refine J_scope ?_
      | refine CondP.yes (by omega) ?_ | refine CondP.no (by omega) ?_ | refine CondP.mk (fun h => ?_) (fun h => ?_) | refine EqP.mk rfl ?_ | refine NewP.mk (fun ad => ?_) | refine ArP.exact (by simp only [inR]; omega) ?_ | refine SideP.mk (by first | omega | (dsimp only; omega) | (simp; omega)) ?_
      | refine DecE.of d0 ?_ | refine DecE.of d1 ?_ | refine DecE.of d2 ?_ | refine J_rounds 4 ?_ | refine JR_succ ?_ | exact FinE.mk _ [] ⟨rfl, rfl, rfl⟩ Ents.dropAll
      | fail
    exact absurd h (by simp)
  · refine ⟨?_⟩
    have hab : [a, b, d].length = 3 := rfl
    have hlo : ∀ i, ([a, b, d].getD i 0).toNat < 128 := fun i => by
      rcases i with _ | _ | _ | i
      · exact ha
      · exact hb
      · exact hd3
      · simp
    have hz : ∀ (m : Nat) (c : UInt8), 128 ≤ c.toNat → Lib.indexByte (List.drop m [a, b, d]) c < 0 := fun m c hm => by
      have h1 : a ≠ c := fun e => by subst e; omega
      have h2 : b ≠ c := fun e => by subst e; omega
      have h3 : d ≠ c := fun e => by subst e; omega
      rcases m with _ | _ | _ | m
      · simp [Lib.indexByte, h1, h2, h3]
      · simp [Lib.indexByte, h2, h3]
      · simp [Lib.indexByte, h3]
      · rw [List.drop_eq_nil_of_le (by simp)]; show (-1 : Int) < 0; decide
    repeat' first
      | refine J_seq ?_ | refine J_region Tryz.tyOK ?_ | refine J_block ?_ | refine J_cond ?_ | refine J_ret ?_ | refine J_skip ?_ | refine J_exit ?_ | refine J_scope ?_
      | refine CondP.yes (by omega) ?_ | refine CondP.no (by omega) ?_ | refine CondP.mk (fun h => ?_) (fun h => ?_) | refine EqP.mk rfl ?_ | refine NewP.mk (fun ad => ?_) | refine ArP.exact (by simp only [inR]; omega) ?_ | refine SideP.mk (by first | omega | (dsimp only; omega) | (simp; omega)) ?_
      | refine EncE.mk (fun rs hrs => ?_); obtain ⟨h2, h4, hy⟩ := enc_two hv hr hrs; have hx := hlo ((rs.length : Int) - 1).toNat | refine J_rounds 1 ?_ | refine JR_succ ?_ | refine J_drawS (id := 6) Tryz.tyOK (by kernel_rfl) [0, 0, 3, 0, 0, 24, 63] [0, 1, 2, 3, 4, 5, 6] [] [] true (by kernel_rfl) ?_ | refine J_drawS (id := 7) Tryz.tyOK (by kernel_rfl) [0, 0, 2, 7, 0, 0, 48, 127, 255] [0, 1, 2, 3, 4, 5, 6, 7, 8] [] [] true (by kernel_rfl) ?_ | refine J_drawS (id := 14) Tryz.tyOK (by kernel_rfl) [0, 0, 0, 6, 15, 0, 0, 0, 192, 480, 1023] [0, 1, 2, 3, 4, 5, 6, 7, 8, 9, 10] [] [] true (by kernel_rfl) ?_ | refine J_drawS (id := 31) Tryz.tyOK (by kernel_rfl) [0, 0, 0, 6, 15, 0, 0, 0, 192, 480, 1023] [0, 1, 2, 3, 4, 5, 6, 7, 8, 9, 10] [] [] true (by kernel_rfl) ?_ | refine EntP.mk (Ents.ofSub (by repeat (first | exact List.Sublist.slnil | refine List.Sublist.cons_cons _ ?_ | refine List.Sublist.cons _ ?_)) (by first | exact fun _ h => h | exact fun _ _ => trivial | exact fun _ h => h.2 | exact fun _ h => h.2.2.2.2 | exact fun _ h => h.2.2 | exact fun _ h => h.2.2.2 | exact fun _ h => h.2.2.2.2.2 | exact fun _ h => h.2.2.2.2.2.2 | exact fun _ h => h.2.2.2.2.2.2.2 | exact fun _ h => h.2.2.2.2.2.2.2.2 | exact fun _ h => h.2.2.2.2.2.2.2.2.2 | exact fun _ h => h.2.2.2.2.2.2.2.2.2.2 | exact fun _ h => ((allD_append _ _).1 h).2)) ?_ | refine CallQ.mk [] _ (indexByte_ok _ _) (fun _ _ => trivial) ?_ | refine CondP.yes (hz _ _ (by omega)) ?_ | exact FinE.mk _ [] ⟨rfl, rfl, rfl⟩ Ents.dropAll
      | fail
    exact absurd (hz _ _ (by omega)) h

theorem shouldUse_ok (n : Int) : FnS Tryz.prog 100 [.c (.i .i64 n)] [] [] (Is (.c (.b (decide (8 < n))))) := by
  refine fn_of_J Tryz.tyOK 0 Tryz.func100 (by kernel_rfl) (c := Tryz.f100.body.getD .skip) (by kernel_rfl) Tryz.ntmps100 (rs := Tryz.f100.results.toList) rfl (by simp) (fun G => ?_)
  repeat' first
    | refine J_seq ?_ | refine J_region Tryz.tyOK ?_ | refine J_block ?_ | refine J_cond ?_ | refine J_ret ?_ | refine J_skip ?_ | refine J_exit ?_ | refine J_scope ?_
    | refine CondP.yes (by omega) ?_ | refine CondP.no (by omega) ?_ | refine CondP.mk (fun h => ?_) (fun h => ?_) | refine EqP.mk rfl ?_ | refine NewP.mk (fun ad => ?_) | refine ArP.exact (by simp only [inR]; omega) ?_ | refine SideP.mk (by first | omega | (dsimp only; omega) | (simp; omega)) ?_
    | refine FinE.bool ?_
    | fail
  all_goals (first | exact decide_eq_true (by omega) | exact decide_eq_false (by omega))

theorem zero256 : ∀ w, (zeroValue 147).run Tryz.prog w = .ok (.agg (Array.replicate 256 (.bool false))) w :=
  fun w => (run_zeroValue (i := ⟨.arr 256 4, 256, 256, .agg (List.replicate 256 (.b false))⟩) ⟨by kernel_rfl, by kernel_rfl, .inl rfl, by show Tryz.prog.underlying _ = some (.array 256 4); kernel_rfl⟩ w).trans
    (congrArg (fun v => Result.ok v w) (by kernel_rfl))

theorem indexAnyShort3 (s : List UInt8) (a b d : UInt8) (ha : a.toNat < 128) (hb : b.toNat < 128) (hd3 : d.toNat < 128) (hs : s.length ≤ 8) : FnS Tryz.prog 67 [.c (.s s), .c (.s [a, b, d])] [] [] (Is (.c (.i .i64 (Lib.indexAny s [a, b, d])))) := by
  have hab : [a, b, d].length = 3 := rfl
  have hnil : ¬ [a, b, d] = [] := by simp
  refine fn_of_J Tryz.tyOK 2000 Tryz.func67 (by kernel_rfl) (c := Tryz.f67.body.getD .skip) (by kernel_rfl) Tryz.ntmps67 (rs := Tryz.f67.results.toList) rfl (by simp) (fun G => ?_)
  repeat' first
    | refine J_stop (c := .seq (.block 2 _) _) ?_
    | refine J_seq ?_ | refine J_region Tryz.tyOK ?_ | refine J_block ?_ | refine J_cond ?_ | refine J_ret ?_ | refine J_skip ?_ | refine J_exit ?_ | refine J_scope ?_
    | refine CondP.yes (by omega) ?_ | refine CondP.no (by omega) ?_ | refine CondP.mk (fun h => ?_) (fun h => ?_) | refine EqP.mk rfl ?_ | refine NewP.mk (fun ad => ?_) | refine ArP.exact (by simp only [inR]; omega) ?_ | refine SideP.mk (by first | omega | (dsimp only; omega) | (simp; omega)) ?_
    | refine CondP.no hnil ?_ | refine CallP.isB (shouldUse_ok _) (fun hu => absurd (of_decide_eq_true hu) (by omega)) (fun hu => ?_)
    | fail
  refine J_loop (α := Nat) (fun _ => [(1, .c (.s [a, b, d])), (45, .c (.p 2000 ad 0))]) (fun i => [.obj 2000 ad (.stringIter ⟨⟨s⟩⟩ i)]) (fun _ => []) 2001 (fun i => i ≤ s.length ∧ Lib.NoAny s [a, b, d] i) (fun i => s.length - i)
    (InFam.mk 0 ⟨by omega, fun j b h => absurd h (by omega)⟩ (by repeat' first | exact SubE.nil | refine SubE.cons rfl ?_ ?_ | exact VEq.refl _ | refine VEq.int (by omega) | refine VEq.sl rfl (by first | rfl | omega | (rw [List.length_append]; rfl) | (simp; omega)) rfl) (Ents.refl _ _)) (fun i hi => ?_)
  obtain ⟨hi, hno⟩ := hi
  by_cases hlt : i < s.length
  · have hg : s[i]? = some (s.getD i 0) := by simp [hlt]
    by_cases hc : (s.getD i 0).toNat < 128
    · have hcall := runeLo3_ok a b d ha hb hd3 (s.getD i 0) hc
      have hn : [a, b, d].contains (s.getD i 0) = false → Lib.NoAny s [a, b, d] (i + 1) := fun h j x hj hx => by
        by_cases hji : j = i
        · subst hji; rw [hg] at hx; cases hx; exact h
        · exact hno j x (by omega) hx
      have hh : [a, b, d].contains (s.getD i 0) = true → Lib.indexAny s [a, b, d] = i := fun h => Lib.indexAny_hit hno hg h
      generalize [a, b, d].contains (s.getD i 0) = z at hcall hn hh
      have hd := dec_lo hlt hc
      generalize (s.getD i 0).toNat = x at *
      repeat' first
        | refine J_seq ?_ | refine J_region Tryz.tyOK ?_ | refine J_block ?_ | refine J_cond ?_ | refine J_ret ?_ | refine J_skip ?_ | refine J_exit ?_ | refine J_scope ?_
        | refine CondP.yes (by omega) ?_ | refine CondP.no (by omega) ?_ | refine CondP.mk (fun h => ?_) (fun h => ?_) | refine EqP.mk rfl ?_ | refine NewP.mk (fun ad => ?_) | refine ArP.exact (by simp only [inR]; omega) ?_ | refine SideP.mk (by first | omega | (dsimp only; omega) | (simp; omega)) ?_
        | refine DecE.of hd ?_ | refine CallP.mk [] [_] [] _ hcall (List.Perm.refl _) (fun _ _ => trivial) (fun v L' D' hp => ?_); obtain ⟨k, rfl, hk, rfl, rfl⟩ := hp | refine FinE.int ?_ | refine Round.mk (i + 1) (by omega) ⟨by omega, ?_⟩ (by repeat' first | exact SubE.nil | refine SubE.cons rfl ?_ ?_ | exact VEq.refl _ | refine VEq.int (by omega) | refine VEq.sl rfl (by first | rfl | omega | (rw [List.length_append]; rfl) | (simp; omega)) rfl) (Ents.refl _ _)
        | fail
      · rw [decide_eq_true (by assumption)] at hk
        exact hh hk.symm
      · rw [decide_eq_false (by assumption)] at hk
        exact hn hk.symm
    · repeat' first
        | refine J_seq ?_ | refine J_region Tryz.tyOK ?_ | refine J_block ?_ | refine J_cond ?_ | refine J_ret ?_ | refine J_skip ?_ | refine J_exit ?_ | refine J_scope ?_
        | refine CondP.yes (by omega) ?_ | refine CondP.no (by omega) ?_ | refine CondP.mk (fun h => ?_) (fun h => ?_) | refine EqP.mk rfl ?_ | refine NewP.mk (fun ad => ?_) | refine ArP.exact (by simp only [inR]; omega) ?_ | refine SideP.mk (by first | omega | (dsimp only; omega) | (simp; omega)) ?_
        | refine DecE.mk (fun r n hd => ?_); obtain ⟨h1, h2, h3, h4, h5⟩ := dec_hi hlt (by omega) hd | refine CallP.mk [] [_] [] _ (runeHi3_ok a b d ha hb hd3 _ (by omega)) (List.Perm.refl _) (fun _ _ => trivial) (fun v L' D' hp => ?_); obtain ⟨rfl, rfl, rfl⟩ := hp | refine FinE.int ?_ | refine Round.mk (i + n) (by omega) ⟨by omega, ?_⟩ (by repeat' first | exact SubE.nil | refine SubE.cons rfl ?_ ?_ | exact VEq.refl _ | refine VEq.int (by omega) | refine VEq.sl rfl (by first | rfl | omega | (rw [List.length_append]; rfl) | (simp; omega)) rfl) (Ents.refl _ _)
        | fail
      intro j x hj hx
      by_cases hji : j < i
      · exact hno j x hji hx
      · have h6 := h5 j (by omega) (by omega)
        have h7 : s.getD j 0 = x := by simp [hx]
        rw [h7] at h6
        have h8 : x ≠ a := fun h => by subst h; omega
        have h9 : x ≠ b := fun h => by subst h; omega
        have h10 : x ≠ d := fun h => by subst h; omega
        simp [h8, h9, h10]
  · have hil : i = s.length := by omega
    subst hil
    repeat' first
      | refine J_seq ?_ | refine J_region Tryz.tyOK ?_ | refine J_block ?_ | refine J_cond ?_ | refine J_ret ?_ | refine J_skip ?_ | refine J_exit ?_ | refine J_scope ?_
      | refine CondP.yes (by omega) ?_ | refine CondP.no (by omega) ?_ | refine CondP.mk (fun h => ?_) (fun h => ?_) | refine EqP.mk rfl ?_ | refine NewP.mk (fun ad => ?_) | refine ArP.exact (by simp only [inR]; omega) ?_ | refine SideP.mk (by first | omega | (dsimp only; omega) | (simp; omega)) ?_
      | refine FinE.int ?_
      | fail
    exact Lib.indexAny_none hno

theorem indexAny3_ok (s : List UInt8) (a b d : UInt8) (ha : a.toNat < 128) (hb : b.toNat < 128) (hd3 : d.toNat < 128) (hs : s.length < 4294967281) : FnS Tryz.prog 67 [.c (.s s), .c (.s [a, b, d])] [] [] (Is (.c (.i .i64 (Lib.indexAny s [a, b, d])))) := by
  by_cases h8 : s.length ≤ 8
  · exact indexAnyShort3 s a b d ha hb hd3 h8
  · refine fn_below ⟨_, Tryz.func67, by kernel_rfl, by kernel_rfl⟩ (fun w _ _ _ => ?_)
    refine (Tryz.strings_IndexAny_long zero256 ⟨⟨s⟩⟩ ⟨⟨[a, b, d]⟩⟩ w (by show 2 ≤ 3; omega) (by show 8 < s.length; omega) hs (by show 3 < 4294967281; decide) (fun j x hx => ?_)).mono ?_
    · have hm := List.mem_of_getElem? hx
      simp only [List.mem_cons, List.not_mem_nil, or_false] at hm
      rcases hm with rfl | rfl | rfl <;> assumption
    · rintro e w' ⟨rfl, rfl⟩
      refine ⟨rfl, rfl, rfl, rfl, by simp <;> omega, fun k hk => ?_⟩
      rw [heap_alloc_old _ _ (by simp; omega), heap_alloc_old _ _ hk]

theorem containsAny3_ok (s : List UInt8) (a b d : UInt8) (ha : a.toNat < 128) (hb : b.toNat < 128) (hd3 : d.toNat < 128) (hs : s.length < 4294967281) : FnS Tryz.prog 27 [.c (.s s), .c (.s [a, b, d])] [] [] (Is (.c (.b (decide (0 ≤ Lib.indexAny s [a, b, d]))))) := by
  refine fn_of_J Tryz.tyOK 0 Tryz.func27 (by kernel_rfl) (c := Tryz.f27.body.getD .skip) (by kernel_rfl) Tryz.ntmps27 (rs := Tryz.f27.results.toList) rfl (by simp) (fun G => ?_)
  repeat' first
    | refine J_seq ?_ | refine J_region Tryz.tyOK ?_ | refine J_block ?_ | refine J_cond ?_ | refine J_ret ?_ | refine J_skip ?_ | refine J_exit ?_ | refine J_scope ?_
    | refine CondP.yes (by omega) ?_ | refine CondP.no (by omega) ?_ | refine CondP.mk (fun h => ?_) (fun h => ?_) | refine EqP.mk rfl ?_ | refine NewP.mk (fun ad => ?_) | refine ArP.exact (by simp only [inR]; omega) ?_ | refine SideP.mk (by first | omega | (dsimp only; omega) | (simp; omega)) ?_
    | refine CallP.is (indexAny3_ok s a b d ha hb hd3 hs) ?_ | refine FinE.bool ?_
    | fail
  · exact decide_eq_true (by assumption)
  · exact decide_eq_false (by assumption)

end Go.Proofs

namespace Go.Proofs
open Go Go.X
set_option maxRecDepth 100000

theorem escAny_ok (s : List UInt8) (hs : s.length ≤ 1000) : FnS Tryz.prog 27 [.c (.s (escT s)), .c (.s [60, 62, 34])] [] [] (Is (.c (.b false))) := by
  have hle := escT_le s
  have h := containsAny3_ok (escT s) 60 62 34 (by decide) (by decide) (by decide) (by omega)
  obtain ⟨h1, h2, h3⟩ := escT_safe s
  have hn : Lib.NoAny (escT s) [60, 62, 34] (escT s).length := fun j b _ hb => by
    have hm := List.mem_of_getElem? hb
    have n1 : b ≠ 60 := fun e => h1 (e ▸ hm)
    have n2 : b ≠ 62 := fun e => h2 (e ▸ hm)
    have n3 : b ≠ 34 := fun e => h3 (e ▸ hm)
    simp [n1, n2, n3]
  rw [Lib.indexAny_none hn] at h
  exact h

theorem htmlSafe_law (s : List UInt8) (hs : s.length ≤ 9223372036854775807) : FnS Tryz.prog 7 [.c (.s s)] [] [gInt 0] (Is (.c (.b true))) := by
  by_cases h1 : s.length ≤ 400
  rotate_left
  · refine fn_of_J Tryz.tyOK 0 Tryz.func7 (by kernel_rfl) (c := Tryz.f7.body.getD .skip) (by kernel_rfl) Tryz.ntmps7 (rs := Tryz.f7.results.toList) rfl (by simp) (fun G => ?_)
    repeat' first
      | refine J_seq ?_ | refine J_region Tryz.tyOK ?_ | refine J_block ?_ | refine J_cond ?_ | refine J_ret ?_ | refine J_skip ?_ | refine J_exit ?_ | refine J_scope ?_
      | refine CondP.yes (by omega) ?_ | refine CondP.no (by omega) ?_ | refine CondP.mk (fun h => ?_) (fun h => ?_) | refine EqP.mk rfl ?_ | refine NewP.mk (fun ad => ?_) | refine ArP.exact (by simp only [inR]; omega) ?_ | refine SideP.mk (by first | omega | (dsimp only; omega) | (simp; omega)) ?_
      | refine CallP.is known_ok ?_ | refine FinE.bool rfl
      | fail
  have hle := escT_le s
  have e1 := escape_ok s (by omega)
  have a1 := escAny_ok s (by omega)
  have hp := paragraph_ok s
  have hr : pOpen ++ escT s ++ pEnd = pOpen ++ escT s ++ pEnd := rfl
  refine fn_of_J Tryz.tyOK 0 Tryz.func7 (by kernel_rfl) (c := Tryz.f7.body.getD .skip) (by kernel_rfl) Tryz.ntmps7 (rs := Tryz.f7.results.toList) rfl (by simp) (fun G => ?_)
  repeat' first
    | refine CondP.yes hr ?_ | refine CondP.yes rfl ?_
    | refine J_seq ?_ | refine J_region Tryz.tyOK ?_ | refine J_block ?_ | refine J_cond ?_ | refine J_ret ?_ | refine J_skip ?_ | refine J_exit ?_ | refine J_scope ?_
    | refine CondP.yes (by omega) ?_ | refine CondP.no (by omega) ?_ | refine CondP.mk (fun h => ?_) (fun h => ?_) | refine EqP.mk rfl ?_ | refine NewP.mk (fun ad => ?_) | refine ArP.exact (by simp only [inR]; omega) ?_ | refine SideP.mk (by first | omega | (dsimp only; omega) | (simp; omega)) ?_
    | refine CallP.is e1 ?_ | refine CallP.is a1 ?_ | (refine CallP.mk [] _ _ _ hp (List.Perm.refl _) (fun _ _ => trivial) (fun v L' D' hq => ?_); obtain ⟨ba, ia, bc, ic, rfl, rfl, rfl⟩ := hq) | refine CallP.is (renderPara ba ia bc ic s (by omega)) ?_ (fun _ h => ⟨h.1, h.2.1, trivial⟩) | refine CallP.is known_ok ?_ (fun _ h => ⟨h.2.2.1, trivial⟩) | refine FinE.bool rfl
    | fail
  all_goals trace_state

end Go.Proofs

namespace Go.Proofs.YtdnkeinjfddmnaaGreatDoor
open Go Go.X Go.ChangeShapes Go.WideShapes Go.ChangeAt Go.RowKit
set_option maxRecDepth 100000

namespace htmlSafe
theorem reads (os : Os) {H : Type} (enc : TypeId × Value → H) : ∃ places, DataW.whole enc Tryz.prog ((laidWorld os).forCall (fun _ _ => 0) ⟨#[], #[.string ⟨#[]⟩], []⟩).memory Tryz.f7.params.toList Rows.htmlSafeSpec.vars false (#[.string ⟨#[]⟩] : Array Value).toList 8 = some ([.lit (.string [])], [], places) :=
  ⟨[], by kernel_rfl⟩
theorem contract (H : Type) (enc : TypeId × Value → H) (W : World) (base : Nat) (args : Array Value) (ds gs : List (DataW H)) (before : List MemPlace)
    (hval : ∀ (j : Nat) t v, Tryz.f7.params[j]? = some t → args[j]? = some v → Value.okWide Tryz.prog W .any base t v)
    (hW : DataW.Whole enc Tryz.prog Tryz.f7.params.toList Rows.htmlSafeSpec.vars false W args.toList ds gs before) (hsh : W.ShapedOpen Tryz.prog) :
    Calls Tryz.prog 7 args W fun e W' => ∃ v, e = .returned v ∧ Rows.htmlSafeSpec.post enc Tryz.prog Tryz.f7 false true false false W args v W' := by
  have hW' := hW
  obtain ⟨p, q, hA0, hV, rfl, hfz, hnd⟩ := hW
  have hA : DataW.TrodAll enc Tryz.prog W 0 (fun _ => true) true Tryz.f7.params.toList args.toList ds p := hA0
  rw [Tryz.params7] at hA hval
  obtain ⟨v0, vs0, d0, ds0, p0, q0, hargs0, rfl, rfl, h0, r0⟩ := trodAll_cons hA
  obtain ⟨rfl, rfl, rfl⟩ := trodAll_nil r0
  obtain rfl : args = #[v0] := by cases args; simp_all
  obtain ⟨s, hqs, rfl⟩ := open_arg (okTy (t := 9) rfl).2.2.2 (by simp) (hval 0 _ v0 rfl rfl) h0 (openS_str Tryz.underlying9)
  exact law_calls laidOut (by rw [Tryz.params7]; decide +kernel) rfl (by kernel_rfl) Tryz.underlying4 hW' rfl rfl (maxLen_fact hsh) (htmlSafe_law s (by have := hqs; simp only [maxLen] at this; omega))

theorem lifted (os : Os) (started : os.Started) (H : Type) (enc : TypeId × Value → H) (F : Stop.Interp) :
    ReturnsInHanded {} Tryz.checked os 7 .any ((OpenSpec.ofChange Rows.htmlSafeSpec).preRow enc Tryz.prog Tryz.f7 Rows.htmlSafeRow.domain false Rows.htmlSafeRow.laid) (((OpenSpec.ofChange Rows.htmlSafeSpec).at F).post enc Tryz.prog Tryz.f7 false true false false) := by
  obtain ⟨places, hx⟩ := reads os enc
  refine returnsInHanded_of_row (C := Tryz.checked) (s := (OpenSpec.ofChange Rows.htmlSafeSpec)) own started (by kernel_rfl) Tryz.func7
    (witness_row_at (enc := enc) (C := Tryz.checked) false (laidWorld os) #[.string ⟨#[]⟩] rfl (world_vars os _) (world_rest os _) (by kernel_rfl)
      (OpenSpec.preRow_of_cond 8 hx (by kernel_rfl) (fun k hk => by cases hk) (by kernel_rfl) (laid_met os _))) ?_
  intro W base args ds gs before hval hW _ _ _ _ hsh _
  exact contract H enc W base args ds gs before hval hW hsh

theorem said : Rows.HtmlSafeSaid :=
  OpenClaim.holds_of_cond 7 Tryz.f7 rfl rfl rfl rfl rfl rfl rfl ⟨rfl, rfl, rfl, rfl, rfl⟩ rfl rfl rfl rfl rfl (by kernel_rfl) Tryz.func7 (by kernel_rfl)
    (of_decide_eq_true (by kernel_rfl)) (by unfold Func.isWrapper; first | (rw [if_pos (by decide +kernel)]; kernel_rfl) | (rw [if_neg (by decide +kernel)]; exact ⟨rfl, rfl⟩))
    (fun os started H enc _ F => by rw [OpenClaim.pre_eq_preRow]; exact lifted os started H enc F)

theorem plain (f : FuncId) (fn : Func) (hf : Tryz.pinned.checked.prog.funcNamed Rows.htmlSafeRow.func = some f) (hfn : Tryz.pinned.checked.prog.funcs[f]? = some fn) :
    true = Tryz.pinned.checked.prog.looks [] ∧ ∀ (j : Nat) t, fn.params[j]? = some t → Tryz.pinned.checked.prog.wantsStandIn t = false := by
  obtain rfl : f = 7 := Option.some.inj ((show Tryz.prog.funcNamed Rows.htmlSafeRow.func = some 7 by kernel_rfl).symm.trans hf) |>.symm
  obtain rfl : fn = Tryz.f7 := (Option.some.inj (Tryz.func7.symm.trans hfn)).symm
  refine ⟨no_looks, fun j t ht => ?_⟩
  rw [Tryz.params7] at ht
  have hm := Array.mem_of_getElem? ht
  have hall : ∀ t ∈ (#[9] : Array Nat), Tryz.prog.wantsStandIn t = false := by decide +kernel
  exact hall t hm

theorem card : Rows.HtmlSafeCardSaid :=
  Claim7.holds_tied_plain_at .later [] _ _ _ _ said (fun _ h => by cases h) (by kernel_rfl) (fun _ h => by cases h) htmlSafe_row_tie rfl ⟨rfl, rfl⟩ (by kernel_rfl) rfl plain (by kernel_rfl)
end htmlSafe
end Go.Proofs.YtdnkeinjfddmnaaGreatDoor
