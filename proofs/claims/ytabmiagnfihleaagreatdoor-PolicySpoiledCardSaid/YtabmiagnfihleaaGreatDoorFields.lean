/- This text gives the contract of strings.FieldsFunc at the test for a blank, and the words of a string. -/
import Derived.Test.YtabmiagnfihleaaGreatDoorAny
set_option linter.all false

namespace Go.X
open Go

theorem notI {n : Int} (h0 : 0 ≤ n) (h1 : n ≤ 9223372036854775807) : bitsV .xor .i64 (if IntKind.i64.signed = true then -1 else IntKind.i64.max) n = -1 - n := by
  have e : (if IntKind.i64.signed = true then (-1 : Int) else IntKind.i64.max) = -1 := rfl
  rw [e]
  have hn : (BitVec.ofInt 64 (-1) ^^^ BitVec.ofInt 64 n).toNat = 18446744073709551615 - n.toNat := by
    have h2 : BitVec.ofInt 64 (-1) = BitVec.allOnes 64 := rfl
    rw [h2, BitVec.allOnes_xor, BitVec.toNat_not, BitVec.toNat_ofInt]
    simp
    omega
  have : bitsV .xor .i64 (-1) n = IntKind.i64.wrap (BitVec.ofInt 64 (-1) ^^^ BitVec.ofInt 64 n).toNat := rfl
  rw [this, hn]
  have hw : ∀ m : Int, IntKind.i64.wrap m = if m % 18446744073709551616 ≥ 9223372036854775808 then m % 18446744073709551616 - 18446744073709551616 else m % 18446744073709551616 := fun m => by
    unfold IntKind.wrap
    simp [IntKind.signed, IntKind.bits]
  rw [hw]
  split <;> omega

/-- The words of a string: what lies between bytes of the kind p. -/
def wordsGo (p : UInt8 → Bool) : List UInt8 → List UInt8 → List (List UInt8)
  | cur, [] => if cur = [] then [] else [cur]
  | cur, b :: r => match p b with
    | true => if cur = [] then wordsGo p [] r else cur :: wordsGo p [] r
    | false => wordsGo p (cur ++ [b]) r
def wordsT (p : UInt8 → Bool) (s : List UInt8) : List (List UInt8) := wordsGo p [] s

theorem wordsGo_run {p : UInt8 → Bool} (b : List UInt8) : ∀ (cur r : List UInt8), (∀ x ∈ b, p x = false) → wordsGo p cur (b ++ r) = wordsGo p (cur ++ b) r := by
  induction b with
  | nil => intro cur r _; simp
  | cons x b ih =>
    intro cur r h
    rw [List.cons_append, wordsGo, h x (by simp)]
    show wordsGo p (cur ++ [x]) (b ++ r) = _
    rw [ih _ _ fun y hy => h y (by simp [hy]), List.append_assoc]; rfl

/-- The part of s from i to j. -/
def part (s : List UInt8) (i j : Nat) : List UInt8 := (s.take j).drop i

theorem part_nil (s : List UInt8) (i : Nat) : part s i i = [] := by
  unfold part; rw [List.drop_eq_nil_of_le]; simp; omega
theorem part_add {s : List UInt8} {i j k : Nat} (h1 : i ≤ j) (h2 : j ≤ k) (h3 : k ≤ s.length) : part s i k = part s i j ++ part s j k := by
  unfold part
  have e : s.take k = s.take j ++ (s.take k).drop j := by
    conv => lhs; rw [← List.take_append_drop j (s.take k)]
    rw [List.take_take, Nat.min_eq_left h2]
  conv => lhs; rw [e]
  exact List.drop_append_of_le_length (by simp; omega)
theorem drop_part {s : List UInt8} {i j : Nat} (h1 : i ≤ j) (h2 : j ≤ s.length) : s.drop i = part s i j ++ s.drop j := by
  unfold part
  conv => lhs; rw [← List.take_append_drop j s]
  exact List.drop_append_of_le_length (by simp; omega)
theorem part_len {s : List UInt8} {i j : Nat} (h1 : i ≤ j) (h2 : j ≤ s.length) : (part s i j).length = j - i := by
  unfold part; simp; omega
theorem mem_part {s : List UInt8} {i j : Nat} {x : UInt8} (h : x ∈ part s i j) : ∃ k, i ≤ k ∧ k < j ∧ k < s.length ∧ s.getD k 0 = x := by
  unfold part at h
  obtain ⟨k, hk, rfl⟩ := List.mem_iff_getElem.1 h
  simp at hk
  exact ⟨i + k, by omega, by omega, by omega, by simp [show i + k < s.length by omega]⟩

/-- Whole pieces that are found and the words that are still to come. -/
structure FInv (p : UInt8 → Bool) (s : List UInt8) (pos : Nat) (sp : List (Nat × Nat)) (st : Int) : Prop where
  ple : pos ≤ s.length
  spl : ∀ x ∈ sp, x.1 ≤ x.2 ∧ x.2 ≤ s.length
  len : sp.length ≤ pos
  lo : -1 - (s.length : Int) ≤ st
  hi : st < pos ∨ st < 0
  w : sp.map (fun x => part s x.1 x.2) ++ wordsGo p (if 0 ≤ st then part s st.toNat pos else []) (s.drop pos) = wordsT p s

theorem FInv.start (p : UInt8 → Bool) (s : List UInt8) : FInv p s 0 [] (-1) :=
  ⟨Nat.zero_le _, (fun x hx => by cases hx), Nat.le_refl _, by omega, .inr (by omega), by simp [wordsT]⟩

theorem FInv.plain {p : UInt8 → Bool} {s : List UInt8} {pos : Nat} {sp : List (Nat × Nat)} {st : Int} (h : FInv p s pos sp st) {n : Nat} (hn : 1 ≤ n) (hl : pos + n ≤ s.length) (hb : ∀ j, pos ≤ j → j < pos + n → p (s.getD j 0) = false) :
    FInv p s (pos + n) sp (if 0 ≤ st then st else pos) := by
  have hw := h.w
  have hall : ∀ x ∈ part s pos (pos + n), p x = false := fun x hx => by
    obtain ⟨k, h1, h2, _, rfl⟩ := mem_part hx
    exact hb k h1 h2
  rw [drop_part (show pos ≤ pos + n by omega) hl, wordsGo_run _ _ _ hall] at hw
  refine ⟨hl, h.spl, by have := h.len; omega, by have := h.lo; split <;> omega, ?_, ?_⟩
  · rcases h.hi with h1 | h1 <;> (split <;> omega)
  · by_cases hs : 0 ≤ st
    · rw [if_pos hs] at hw ⊢
      have h1 : st < pos := by rcases h.hi with h1 | h1 <;> omega
      rw [if_pos hs, part_add (show st.toNat ≤ pos by omega) (show pos ≤ pos + n by omega) hl]
      exact hw
    · rw [if_neg hs] at hw ⊢
      rw [if_pos (by omega)]
      simpa using hw

theorem FInv.sep {p : UInt8 → Bool} {s : List UInt8} {pos : Nat} {sp : List (Nat × Nat)} {st : Int} (h : FInv p s pos sp st) (hl : pos < s.length) (hb : p (s.getD pos 0) = true) (hs : 0 ≤ st) : FInv p s (pos + 1) (sp ++ [(st.toNat, pos)]) (-1 - st) := by
  have hw := h.w
  have h1 : st < pos := by rcases h.hi with h1 | h1 <;> omega
  have hd : s.drop pos = s.getD pos 0 :: s.drop (pos + 1) := by rw [List.drop_eq_getElem_cons hl]; simp [hl]
  rw [if_pos hs, hd, wordsGo, hb] at hw
  have hne : part s st.toNat pos ≠ [] := fun hc => by
    have := part_len (s := s) (show st.toNat ≤ pos by omega) h.ple
    rw [hc] at this
    simp at this; omega
  simp only [hne, if_false] at hw
  refine ⟨by omega, fun x hx => ?_, by have := h.len; simp; omega, by have := h.lo; omega, .inr (by omega), ?_⟩
  · simp only [List.mem_append, List.mem_singleton] at hx
    rcases hx with hx | rfl
    · exact h.spl x hx
    · exact ⟨by simp only; omega, h.ple⟩
  · rw [if_neg (by omega), List.map_append, List.append_assoc]
    exact hw
theorem FInv.skip {p : UInt8 → Bool} {s : List UInt8} {pos : Nat} {sp : List (Nat × Nat)} {st : Int} (h : FInv p s pos sp st) (hl : pos < s.length) (hb : p (s.getD pos 0) = true) (hs : ¬ 0 ≤ st) : FInv p s (pos + 1) sp st := by
  have hw := h.w
  have hd : s.drop pos = s.getD pos 0 :: s.drop (pos + 1) := by rw [List.drop_eq_getElem_cons hl]; simp [hl]
  rw [if_neg hs, hd, wordsGo, hb] at hw
  refine ⟨by omega, h.spl, by have := h.len; omega, h.lo, .inr (by omega), ?_⟩
  rw [if_neg hs]
  simpa using hw

theorem FInv.done {p : UInt8 → Bool} {s : List UInt8} {sp : List (Nat × Nat)} {st : Int} (h : FInv p s s.length sp st) :
    if 0 ≤ st then (sp ++ [(st.toNat, s.length)]).map (fun x => part s x.1 x.2) = wordsT p s else sp.map (fun x => part s x.1 x.2) = wordsT p s := by
  have hw := h.w
  split
  · rename_i hs
    have h1 : st < s.length := by rcases h.hi with h1 | h1 <;> omega
    have hne : part s st.toNat s.length ≠ [] := fun hc => by
      have := part_len (s := s) (show st.toNat ≤ s.length by omega) (Nat.le_refl _)
      rw [hc] at this
      simp at this; omega
    rw [if_pos hs, List.drop_length, wordsGo, if_neg hne] at hw
    rw [List.map_append]
    exact hw
  · rename_i hs
    rw [if_neg hs, List.drop_length, wordsGo, if_pos rfl, List.append_nil] at hw
    exact hw

def blankB (c : UInt8) : Bool := c == 32 || c == 9

/-- A byte that is no blank: a rune that is none. -/
theorem dec_plain {l : List UInt8} {pos : Nat} (h : pos < l.length) (hb : blankB (l.getD pos 0) = false) : ∃ r n, decL l pos = (r, n) ∧ r ≠ 32 ∧ r ≠ 9 ∧ r ≤ 1114111 ∧ 1 ≤ n ∧ pos + n ≤ l.length ∧ ∀ j, pos ≤ j → j < pos + n → blankB (l.getD j 0) = false := by
  by_cases hc : (l.getD pos 0).toNat < 128
  · refine ⟨_, _, dec_lo h hc, ?_, ?_, by omega, Nat.le_refl _, by omega, fun j h1 h2 => ?_⟩
    · intro he
      have : l.getD pos 0 = 32 := UInt8.toNat_inj.1 he
      rw [this] at hb; cases hb
    · intro he
      have : l.getD pos 0 = 9 := UInt8.toNat_inj.1 he
      rw [this] at hb; cases hb
    · have : j = pos := by omega
      subst this; exact hb
  · rcases hd : decL l pos with ⟨r, n⟩
    obtain ⟨h1, h2, h3, h4, h5⟩ := dec_hi h (by omega) hd
    refine ⟨r, n, rfl, by omega, by omega, h2, h3, h4, fun j h6 h7 => ?_⟩
    have h8 := h5 j h6 h7
    have h9 : l.getD j 0 ≠ 32 := fun hc => by rw [hc] at h8; exact absurd h8 (by decide)
    have h10 : l.getD j 0 ≠ 9 := fun hc => by rw [hc] at h8; exact absurd h8 (by decide)
    simp only [blankB, Bool.or_eq_false_iff, beq_eq_false_iff_ne]
    exact ⟨h9, h10⟩
theorem dec_blank {l : List UInt8} {pos : Nat} (h : pos < l.length) (hb : blankB (l.getD pos 0) = true) : ∃ r : Nat, decL l pos = (r, 1) ∧ (r = 32 ∨ r = 9) := by
  have h1 : l.getD pos 0 = 32 ∨ l.getD pos 0 = 9 := by simpa [blankB] using hb
  have hc : (l.getD pos 0).toNat < 128 := by rcases h1 with h1 | h1 <;> (rw [h1]; decide)
  refine ⟨_, dec_lo h hc, ?_⟩
  rcases h1 with h1 | h1 <;> rw [h1]
  · exact .inl rfl
  · exact .inr rfl

end Go.X

namespace Go.Proofs
open Go Go.X Go.RowKit Go.Shelf
set_option maxRecDepth 100000

theorem fill_set {ws : List (List UInt8)} {i : Nat} (h : i < ws.length) : ((ws.take i ++ List.replicate (ws.length - i) []).set i ws[i]) = ws.take (i + 1) ++ List.replicate (ws.length - (i + 1)) [] := by
  rw [List.set_append_right _ _ (by simp; omega), List.length_take, Nat.min_eq_left (by omega), Nat.sub_self, show ws.length - i = (ws.length - (i + 1)) + 1 by omega, List.replicate_succ, List.set_cons_zero, List.take_succ_eq_append_getElem h, List.append_assoc]
  rfl
theorem fill_len {ws : List (List UInt8)} {i : Nat} (h : i ≤ ws.length) : (ws.take i ++ List.replicate (ws.length - i) []).length = ws.length := by simp; omega

def spC (sp : List (Nat × Nat)) : List C := sp.flatMap fun x => [.i .i64 x.1, .i .i64 x.2]

theorem fieldsFunc_ok (f : Nat) (s : List UInt8) (hs : s.length ≤ 4294967296) (hf : ∀ r : Nat, r ≤ 1114111 → FnS Tryz.prog f [.c (.i .i32 r)] [] [] (Is (.c (.b (decide (r = 32) || decide (r = 9)))))) :
    FnS Tryz.prog 63 [.c (.s s), .c (.fn f [])] [] [] (fun v L D => ∃ a, v = .c (.sl a (wordsT blankB s).length (wordsT blankB s).length) ∧
      L = [.row 9 1 a (wordsT blankB s).length (wordsT blankB s).length ((wordsT blankB s).map C.s)] ∧ D = []) := by
  refine fn_of_J Tryz.tyOK 4000 Tryz.func63 (by kernel_rfl) (c := Tryz.f63.body.getD .skip) (by kernel_rfl) Tryz.ntmps63 (rs := Tryz.f63.results.toList) rfl (by simp) (fun G => ?_)
  repeat' first
    | refine J_seq ?_ | refine J_region Tryz.tyOK ?_ | refine J_block ?_ | refine J_cond ?_ | refine J_ret ?_ | refine J_skip ?_ | refine J_exit ?_ | refine J_scope ?_
    | refine CondP.yes (by omega) ?_ | refine CondP.no (by omega) ?_ | refine CondP.mk (fun h => ?_) (fun h => ?_) | refine EqP.mk rfl ?_ | refine NewP.mk (fun ad => ?_) | refine ArP.exact (by simp only [inR]; omega) ?_ | refine SideP.mk (by first | omega | (dsimp only; omega) | (simp; omega)) ?_
    | fail
  rename_i ad0
  refine J_loop (α := Nat × List (Nat × Nat) × Int × Option Addr × Nat) (fun x => [(0, .c (.s s)), (1, .c (.fn f [])), (5, .c (.sl x.2.2.2.1 x.2.1.length x.2.2.2.2)), (6, .c (.i .i64 x.2.2.1)), (14, .c (.p 4000 ad 0))])
    (fun x => [.obj 4000 ad (.stringIter ⟨⟨s⟩⟩ x.1), .row 119 2 x.2.2.2.1 x.2.1.length x.2.2.2.2 (spC x.2.1)]) (fun _ => []) 4001 (fun x => FInv blankB s x.1 x.2.1 x.2.2.1) (fun x => s.length - x.1)
    (InFam.mk (0, [], -1, some ⟨ad0, 0, none⟩, 32) (FInv.start _ _) (by repeat' first | exact SubE.nil | refine SubE.cons rfl ?_ ?_ | exact VEq.refl _ | refine VEq.int (by omega) | refine VEq.sl rfl (by first | rfl | omega | (rw [List.length_append]; rfl) | (simp; omega)) rfl) (Ents.refl _ _)) (fun x hi => ?_)
  obtain ⟨pos, sp, st, a, c⟩ := x
  simp only at hi ⊢
  have hple := hi.ple
  have hlo := hi.lo
  have hhi := hi.hi
  have hlen := hi.len
  by_cases hlt : pos < s.length
  · cases hb : blankB (s.getD pos 0) with
    | true =>
      obtain ⟨r, hd, hr⟩ := dec_blank hlt hb
      have hc := hf r (by omega)
      have hz : (decide (r = 32) || decide (r = 9)) = true := by simpa using hr
      rw [hz] at hc
      by_cases h0 : 0 ≤ st
      · have hn := notI h0 (by omega)
        have hi2 := hi.sep hlt hb h0
        repeat' first
          | refine J_seq ?_ | refine J_region Tryz.tyOK ?_ | refine J_block ?_ | refine J_cond ?_ | refine J_ret ?_ | refine J_skip ?_ | refine J_exit ?_ | refine J_scope ?_
          | refine CondP.yes (by omega) ?_ | refine CondP.no (by omega) ?_ | refine CondP.mk (fun h => ?_) (fun h => ?_) | refine EqP.mk rfl ?_ | refine NewP.mk (fun ad => ?_) | refine ArP.exact (by simp only [inR]; omega) ?_ | refine SideP.mk (by first | omega | (dsimp only; omega) | (simp; omega)) ?_
          | refine DecE.of hd ?_ | refine CallP.is hc ?_ | refine AppE.row [_, _] [] (spC sp) [.i .i64 st, .i .i64 pos] 1 rfl (SrcE.sl 119 119 _ _ 1 1 _ rfl rfl (.inl ⟨1, List.Mem.head _⟩) rfl) (by show (sp.length + 1) * 16 ≤ _; omega) (fun a' c' => ?_) | refine Round.mk (pos + 1, sp ++ [(st.toNat, pos)], -1 - st, a', c') (by show s.length - (pos + 1) < s.length - pos; omega) hi2 (by repeat' first | exact SubE.nil | refine SubE.cons rfl ?_ ?_ | exact VEq.refl _ | refine VEq.int (by omega) | refine VEq.sl rfl (by first | rfl | omega | (rw [List.length_append]; rfl) | (simp; omega)) rfl) (Ents.drop.trans (Ents.of (by simp [spC, Int.toNat_of_nonneg h0])))
          | fail
      · have hi2 := hi.skip hlt hb h0
        repeat' first
          | refine J_seq ?_ | refine J_region Tryz.tyOK ?_ | refine J_block ?_ | refine J_cond ?_ | refine J_ret ?_ | refine J_skip ?_ | refine J_exit ?_ | refine J_scope ?_
          | refine CondP.yes (by omega) ?_ | refine CondP.no (by omega) ?_ | refine CondP.mk (fun h => ?_) (fun h => ?_) | refine EqP.mk rfl ?_ | refine NewP.mk (fun ad => ?_) | refine ArP.exact (by simp only [inR]; omega) ?_ | refine SideP.mk (by first | omega | (dsimp only; omega) | (simp; omega)) ?_
          | refine DecE.of hd ?_ | refine CallP.is hc ?_ | refine Round.mk (pos + 1, sp, st, a, c) (by show s.length - (pos + 1) < s.length - pos; omega) hi2 (by repeat' first | exact SubE.nil | refine SubE.cons rfl ?_ ?_ | exact VEq.refl _ | refine VEq.int (by omega) | refine VEq.sl rfl (by first | rfl | omega | (rw [List.length_append]; rfl) | (simp; omega)) rfl) (Ents.refl _ _)
          | fail
    | false =>
      obtain ⟨r, n, hd, h32, h9, hr, hn, hpn, hall⟩ := dec_plain hlt hb
      have hc := hf r hr
      have hz : (decide (r = 32) || decide (r = 9)) = false := by simp [h32, h9]
      rw [hz] at hc
      have hi2 := hi.plain hn hpn hall
      by_cases h0 : 0 ≤ st
      · rw [if_pos h0] at hi2
        repeat' first
          | refine J_seq ?_ | refine J_region Tryz.tyOK ?_ | refine J_block ?_ | refine J_cond ?_ | refine J_ret ?_ | refine J_skip ?_ | refine J_exit ?_ | refine J_scope ?_
          | refine CondP.yes (by omega) ?_ | refine CondP.no (by omega) ?_ | refine CondP.mk (fun h => ?_) (fun h => ?_) | refine EqP.mk rfl ?_ | refine NewP.mk (fun ad => ?_) | refine ArP.exact (by simp only [inR]; omega) ?_ | refine SideP.mk (by first | omega | (dsimp only; omega) | (simp; omega)) ?_
          | refine DecE.of hd ?_ | refine CallP.is hc ?_ | refine Round.mk (pos + n, sp, st, a, c) (by show s.length - (pos + n) < s.length - pos; omega) hi2 (by repeat' first | exact SubE.nil | refine SubE.cons rfl ?_ ?_ | exact VEq.refl _ | refine VEq.int (by omega) | refine VEq.sl rfl (by first | rfl | omega | (rw [List.length_append]; rfl) | (simp; omega)) rfl) (Ents.refl _ _)
          | fail
      · rw [if_neg h0] at hi2
        repeat' first
          | refine J_seq ?_ | refine J_region Tryz.tyOK ?_ | refine J_block ?_ | refine J_cond ?_ | refine J_ret ?_ | refine J_skip ?_ | refine J_exit ?_ | refine J_scope ?_
          | refine CondP.yes (by omega) ?_ | refine CondP.no (by omega) ?_ | refine CondP.mk (fun h => ?_) (fun h => ?_) | refine EqP.mk rfl ?_ | refine NewP.mk (fun ad => ?_) | refine ArP.exact (by simp only [inR]; omega) ?_ | refine SideP.mk (by first | omega | (dsimp only; omega) | (simp; omega)) ?_
          | refine DecE.of hd ?_ | refine CallP.is hc ?_ | refine Round.mk (pos + n, sp, (pos : Int), a, c) (by show s.length - (pos + n) < s.length - pos; omega) hi2 (by repeat' first | exact SubE.nil | refine SubE.cons rfl ?_ ?_ | exact VEq.refl _ | refine VEq.int (by omega) | refine VEq.sl rfl (by first | rfl | omega | (rw [List.length_append]; rfl) | (simp; omega)) rfl) (Ents.refl _ _)
          | fail
  · have hil : pos = s.length := by omega
    subst hil
    have hdone := hi.done
    have hspl := hi.spl
    repeat' first
      | refine J_cut (x := .seq (.region 12 _ _) _) (α := List (Nat × Nat) × Option Addr × Nat) (fun y => [(0, .c (.s s)), (5, .c (.sl y.2.1 y.1.length y.2.2))]) (fun y => [.row 119 2 y.2.1 y.1.length y.2.2 (spC y.1)]) (fun _ => []) 4001 (fun y => y.1.map (fun x => X.part s x.1 x.2) = wordsT blankB s ∧ (∀ x ∈ y.1, x.1 ≤ x.2 ∧ x.2 ≤ s.length) ∧ y.1.length ≤ s.length + 1) ?_ (fun y hy => ?_) | refine J_stop (c := .seq (.region 14 _ _) _) ?_
      | refine J_seq ?_ | refine J_region Tryz.tyOK ?_ | refine J_block ?_ | refine J_cond ?_ | refine J_ret ?_ | refine J_skip ?_ | refine J_exit ?_ | refine J_scope ?_
      | refine CondP.yes (by omega) ?_ | refine CondP.no (by omega) ?_ | refine CondP.mk (fun h => ?_) (fun h => ?_) | refine EqP.mk rfl ?_ | refine NewP.mk (fun ad => ?_) | refine ArP.exact (by simp only [inR]; omega) ?_ | refine SideP.mk (by first | omega | (dsimp only; omega) | (simp; omega)) ?_
      | refine AppE.row [_, _] [] (spC sp) [.i .i64 st, .i .i64 s.length] 1 rfl (SrcE.sl 119 119 _ _ 1 1 _ rfl rfl (.inl ⟨1, List.Mem.head _⟩) rfl) (by show (sp.length + 1) * 16 ≤ _; omega) (fun a' c' => ?_) | refine InFam.mk (sp, a, c) ⟨?_, hspl, ?_⟩ (by repeat' first | exact SubE.nil | refine SubE.cons rfl ?_ ?_ | exact VEq.refl _ | refine VEq.int (by omega) | refine VEq.sl rfl (by first | rfl | omega | (rw [List.length_append]; rfl) | (simp; omega)) rfl) Ents.drop | refine InFam.mk (sp ++ [(st.toNat, s.length)], a', c') ⟨?_, ?_, ?_⟩ (by repeat' first | exact SubE.nil | refine SubE.cons rfl ?_ ?_ | exact VEq.refl _ | refine VEq.int (by omega) | refine VEq.sl rfl (by first | rfl | omega | (rw [List.length_append]; rfl) | (simp; omega)) rfl) (Ents.drop.trans (Ents.drop.trans (Ents.of (by simp [spC, Int.toNat_of_nonneg ‹0 ≤ st›]))))
      | fail
    · rw [if_pos (by assumption)] at hdone; exact hdone
    · intro x hx
      simp only [List.mem_append, List.mem_singleton] at hx
      rcases hx with hx | rfl
      · exact hspl x hx
      · exact ⟨by simp only; omega, Nat.le_refl _⟩
    · simp; omega
    · rw [if_neg (by assumption)] at hdone; exact hdone
    · simp only; omega
    · refine ⟨?_⟩
      clear hi hspl hdone
      obtain ⟨sp, a, c⟩ := y
      obtain ⟨hw, hsp, hl⟩ := hy
      simp only at hw hsp hl ⊢
      have hwl : (wordsT blankB s).length = sp.length := by rw [← hw]; simp
      have hrep : ∀ n, repC n [C.s []] = (List.replicate n []).map C.s := fun n => by
        induction n with
        | zero => rfl
        | succ n ih => rw [repC, ih, List.replicate_succ]; rfl
      rw [hwl]
      generalize hws : wordsT blankB s = ws at *
      repeat' first
        | refine J_seq ?_ | refine J_region Tryz.tyOK ?_ | refine J_block ?_ | refine J_cond ?_ | refine J_ret ?_ | refine J_skip ?_ | refine J_exit ?_ | refine J_scope ?_
        | refine CondP.yes (by omega) ?_ | refine CondP.no (by omega) ?_ | refine CondP.mk (fun h => ?_) (fun h => ?_) | refine EqP.mk rfl ?_ | refine NewP.mk (fun ad => ?_) | refine ArP.exact (by simp only [inR]; omega) ?_ | refine SideP.mk (by first | omega | (dsimp only; omega) | (simp; omega)) ?_
        | fail
      refine J_loop (α := Nat) (fun i => [(0, .c (.s s)), (9, .c (.sl (some ⟨ad, 0, none⟩) sp.length sp.length)), (47, .c (.sl a sp.length c)), (48, .c (.i .i64 sp.length)), (49, .c (.i .i64 i))])
        (fun i => [.row 9 1 (some ⟨ad, 0, none⟩) sp.length sp.length ((ws.take i ++ List.replicate (ws.length - i) []).map C.s), .row 119 2 a sp.length c (spC sp)]) (fun _ => []) 4001 (fun i => i ≤ sp.length) (fun i => sp.length - i)
        (InFam.mk 0 (Nat.zero_le _) (by repeat' first | exact SubE.nil | refine SubE.cons rfl ?_ ?_ | exact VEq.refl _ | refine VEq.int (by omega) | refine VEq.sl rfl (by first | rfl | omega | (rw [List.length_append]; rfl) | (simp; omega)) rfl) (Ents.of (by rw [hrep]; simp [hwl]))) (fun i hi => ?_)
      by_cases hlt : i < sp.length
      · have hx := hsp sp[i] (List.getElem_mem hlt)
        have hcell : ((spC sp).drop (i * 2 + 0)).take 2 = [.i .i64 sp[i].1, .i .i64 sp[i].2] := by rw [spC, flat_get (F := fun x : Nat × Nat => [C.i .i64 (x.1 : Int), .i .i64 (x.2 : Int)]) (z := 2) (fun _ => rfl) hlt (by omega)]; rfl
        have hwi : ws[i]'(by omega) = X.part s sp[i].1 sp[i].2 := by simp [← hw]
        have hfs := fill_set (ws := ws) (i := i) (by omega)
        have hfl := fill_len (ws := ws) (i := i) (by omega)
        rw [hwi] at hfs
        generalize sp[i] = x at *
        repeat' first
          | refine J_seq ?_ | refine J_region Tryz.tyOK ?_ | refine J_block ?_ | refine J_cond ?_ | refine J_ret ?_ | refine J_skip ?_ | refine J_exit ?_ | refine J_scope ?_
          | refine CondP.yes (by omega) ?_ | refine CondP.no (by omega) ?_ | refine CondP.mk (fun h => ?_) (fun h => ?_) | refine EqP.mk rfl ?_ | refine NewP.mk (fun ad => ?_) | refine ArP.exact (by simp only [inR]; omega) ?_ | refine SideP.mk (by first | omega | (dsimp only; omega) | (simp; omega)) ?_
          | refine IdxE.mk 119 2 _ (.inl ⟨c, List.Mem.tail _ (List.Mem.head _)⟩) (by omega) (by omega) ?_ | refine LoadE.mk 119 _ _ _ (.inl ⟨c, List.Mem.tail _ (List.Mem.head _)⟩) (by omega) (by omega) (by omega) hcell ?_ | refine IdxE.mk 9 1 _ (.inl ⟨sp.length, List.Mem.tail _ (List.Mem.head _)⟩) (by omega) (by omega) ?_ | refine StoreE.mk [_] [_] 9 _ _ ((ws.take i ++ List.replicate (ws.length - i) []).map C.s) _ rfl (by omega) (by omega) (by simp) (setC_map (f := C.s) (by omega)) ?_ | refine Round.mk (i + 1) (by omega) (by omega) (by repeat' first | exact SubE.nil | refine SubE.cons rfl ?_ ?_ | exact VEq.refl _ | refine VEq.int (by omega) | refine VEq.sl rfl (by first | rfl | omega | (rw [List.length_append]; rfl) | (simp; omega)) rfl) (Ents.drop.trans (Ents.of ?_))
          | fail
        rw [← hfs]; rfl
      · have hil : i = sp.length := by omega
        subst hil
        repeat' first
          | refine J_seq ?_ | refine J_region Tryz.tyOK ?_ | refine J_block ?_ | refine J_cond ?_ | refine J_ret ?_ | refine J_skip ?_ | refine J_exit ?_ | refine J_scope ?_
          | refine CondP.yes (by omega) ?_ | refine CondP.no (by omega) ?_ | refine CondP.mk (fun h => ?_) (fun h => ?_) | refine EqP.mk rfl ?_ | refine NewP.mk (fun ad => ?_) | refine ArP.exact (by simp only [inR]; omega) ?_ | refine SideP.mk (by first | omega | (dsimp only; omega) | (simp; omega)) ?_
          | refine FinE.mk _ [] ⟨_, rfl, ?_, rfl⟩ ((Ents.perm (List.Perm.swap _ _ _)).trans Ents.drop)
          | fail
        rw [← hwl]; simp

end Go.Proofs
