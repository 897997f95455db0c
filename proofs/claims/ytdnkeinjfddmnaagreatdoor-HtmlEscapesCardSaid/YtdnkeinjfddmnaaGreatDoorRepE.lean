/- This text walks through Replace of the byte replacer: it computes the escaped string. -/
import Derived.Test.YtdnkeinjfddmnaaGreatDoorRepD
set_option linter.all false

namespace Go.Proofs
open Go Go.X
set_option maxRecDepth 100000

theorem count_ok (s : List UInt8) (c : UInt8) : FnS Tryz.prog 25 [.c (.s s), .c (.s [c])] [] [] (Is (.c (.i .i64 (s.count c)))) :=
  fn_pure ⟨_, Tryz.func25, by kernel_rfl, by kernel_rfl⟩ (Tryz.strings_Count_one ⟨⟨s⟩⟩ c)

/-- The counts of the first k keys, in what the new string is longer. -/
def szA (s : List UInt8) : Nat → Nat
  | 0 => s.length
  | 1 => s.length + s.count 34 * 5
  | 2 => s.length + s.count 34 * 5 + s.count 62 * 3
  | 3 => s.length + s.count 34 * 5 + s.count 62 * 3 + s.count 60 * 3
  | _ => (escT s).length

/-- Nothing was found among the first k keys. -/
def noA (s : List UInt8) (k : Nat) : Prop := (0 < k → s.count 34 = 0) ∧ (1 < k → s.count 62 = 0) ∧ (2 < k → s.count 60 = 0) ∧ (3 < k → s.count 38 = 0)

theorem nzR {L : List Chunk} {D : List Fact} {x : Int} (_ : ¬ x = 0) : Ents L D L D := Ents.refl _ _
theorem zrR {L : List Chunk} {D : List Fact} {x : Int} (_ : x = 0) : Ents L D L D := Ents.refl _ _

/-- Bytes are laid behind those that are there. -/
theorem setC_ext (P xs : List C) (m j : Nat) (z : C) (hj : j = P.length) (h : xs.length ≤ m) : setC j xs (P ++ repC m [z]) = (P ++ xs) ++ repC (m - xs.length) [z] := by
  subst hj
  have h2 : ∀ (k m : Nat), k ≤ m → (repC m [z]).drop k = repC (m - k) [z] := by
    intro k
    induction k with
    | zero => intro m _; rfl
    | succ k ih =>
      intro m hm
      obtain ⟨m', rfl⟩ : ∃ m', m = m' + 1 := ⟨m - 1, by omega⟩
      rw [Nat.add_sub_add_right]
      exact ih m' (by omega)
  unfold setC
  rw [List.take_left, List.drop_append, List.drop_of_length_le (by omega), List.nil_append, Nat.add_sub_cancel_left, h2 _ _ h]

theorem escRow (s : List UInt8) (i N : Nat) (x : List UInt8) (hts : escT (s.take (i + 1)) = escT (s.take i) ++ x) (hle : (escT (s.take i)).length + x.length ≤ N) (j : Nat) (hj : j = (escT (s.take i)).length) :
    setC j (x.map byteC) ((escT (s.take i)).map byteC ++ repC (N - (escT (s.take i)).length) [.i .u8 0]) = (escT (s.take (i + 1))).map byteC ++ repC (N - (escT (s.take (i + 1))).length) [.i .u8 0] := by
  rw [setC_ext _ _ _ _ _ (by simpa using hj) (by simp; omega), hts, List.map_append, List.length_append, List.length_map]
  congr 2
  omega

def repR (t : RT) : V := .c (.e (some ⟨t.g, 0, none⟩) 257 0 0)

set_option maxHeartbeats 1000000 in
theorem repReplace_ok (t : RT) (s : List UInt8) (hs : s.length ≤ 1000000000) : FnS Tryz.prog 235 [repR t, .c (.s s)] [] t.facts (Is (.c (.s (escT s)))) := by
  have hcnt : ∀ b, s.count b ≤ s.length := fun b => List.count_le_length
  have hlen := escT_len s
  have hle := escT_le s
  have hkr : ∀ L, Reads L t.facts 9 1 t.a 4 keys4 := fun _ => .inr fun _ h => h.1
  have hbig : ∀ L, Reads L t.facts 0 257 (some ⟨t.g, 0, none⟩) 1 t.tab := fun _ => .inr fun _ h => h.2.1
  have htab : ∀ L, Reads L t.facts 0 1 (some ⟨t.g, 0, none⟩) 257 t.tab := fun _ => .inr fun _ h => h.2.2.1
  unfold repR
  refine fn_of_J Tryz.tyOK 7000 Tryz.func235 (by kernel_rfl) (c := Tryz.f235.body.getD .skip) (by kernel_rfl) Tryz.ntmps235 (rs := Tryz.f235.results.toList) rfl (by simp) (fun G => ?_)
  repeat' first
    | refine J_cut (x := .seq (.region 3 _ _) _) (α := Bool) (fun b => [(0, repR t), (1, .c (.s s)), (5, .c (.i .i64 (escT s).length)), (6, .c (.b b))]) (fun _ => []) (fun _ => t.facts) 7000 (fun b => b = false → escT s = s) ?_ (fun b hb => ?_)
    | refine J_seq ?_ | refine J_region Tryz.tyOK ?_ | refine J_block ?_ | refine J_cond ?_ | refine J_ret ?_ | refine J_skip ?_ | refine J_exit ?_ | refine J_scope ?_
    | refine CondP.yes (by omega) ?_ | refine CondP.no (by omega) ?_ | refine CondP.mk (fun h => ?_) (fun h => ?_) | refine EqP.mk rfl ?_ | refine NewP.mk (fun ad => ?_) | refine ArP.exact (by simp only [inR]; omega) ?_ | refine SideP.mk (by first | omega | (dsimp only; omega) | (simp; omega)) ?_
    | refine FldE.mk 0 257 1 _ (hbig _) (by decide) ?_ | refine LoadE.mk 0 1 _ _ (hbig _) (by decide) (by decide) (by decide) (by exact RT.tab_last t) ?_
    | fail
  · have c34 := hcnt 34
    have c62 := hcnt 62
    have c60 := hcnt 60
    have c38 := hcnt 38
    refine J_loop (α := Nat × Bool × Nat) (fun x => [(0, repR t), (1, .c (.s s)), (5, .c (.i .i64 x.2.2)), (6, .c (.b x.2.1)), (30, .c (.sl t.a 4 t.c)), (31, lenV 4), (32, .c (.i .i64 x.1))]) (fun _ => []) (fun _ => t.facts) 7000
      (fun x => x.1 ≤ 4 ∧ x.2.2 = szA s x.1 ∧ (x.2.1 = false → noA s x.1)) (fun x => 4 - x.1) (InFam.mk (0, false, s.length) ⟨Nat.zero_le _, rfl, fun _ => ⟨fun h => absurd h (Nat.not_lt_zero _), fun h => absurd h (Nat.not_lt_zero _), fun h => absurd h (Nat.not_lt_zero _), fun h => absurd h (Nat.not_lt_zero _)⟩⟩ (by repeat' first | exact SubE.nil | refine SubE.cons rfl ?_ ?_ | exact VEq.refl _ | refine VEq.int (by omega) | refine VEq.sl rfl (by omega) rfl) (Ents.refl _ _)) (fun x hx => ?_)
    obtain ⟨k, b, n⟩ := x
    obtain ⟨hk, hn, hb⟩ := hx
    dsimp only at hk hn hb
    have hk5 : k = 0 ∨ k = 1 ∨ k = 2 ∨ k = 3 ∨ k = 4 := by omega
    unfold repR
    rcases hk5 with rfl | rfl | rfl | rfl | rfl <;> simp only [szA] at hn <;> subst hn <;> dsimp only
    · repeat' first
        | refine J_seq ?_ | refine J_region Tryz.tyOK ?_ | refine J_block ?_ | refine J_cond ?_ | refine J_ret ?_ | refine J_skip ?_ | refine J_exit ?_ | refine J_scope ?_
        | refine CondP.yes (by omega) ?_ | refine CondP.no (by omega) ?_ | refine CondP.mk (fun h => ?_) (fun h => ?_) | refine EqP.mk rfl ?_ | refine NewP.mk (fun ad => ?_) | refine ArP.exact (by simp only [inR]; omega) ?_ | refine SideP.mk (by first | omega | (dsimp only; omega) | (simp; omega)) ?_
        | refine J_drawU (id := 9) Tryz.tyOK (by kernel_rfl) [0, 0, 0, 0, 8, 4, 36, 124, 252, 508, 1020, 2046, 4095, 8191] (.leaf [0, 1, 2, 3, 4, 5, 6, 7, 8, 9, 10, 11, 12, 13]) [] [48] 14 true (by kernel_rfl) ?_ | refine TwoP.mk ?_ ?_ | refine GoP.mk (by repeat (first | exact List.Sublist.slnil | refine List.Sublist.cons_cons _ ?_ | refine List.Sublist.cons _ ?_)) (by first | exact fun _ h => h | exact fun _ h => h.2 | exact fun _ h => ((allD_append _ _).1 h).2) ?_ | exact trivial | refine J_drawU (id := 28) Tryz.tyOK (by kernel_rfl) [0, 0, 0, 6, 0, 0, 16, 80, 240, 496, 1022, 2047, 4095] (.fork [0, 1, 2, 3, 4, 5, 6, 7, 8, 9] (.alt 10 (.leaf [11, 12]) (.stop))) [10] [110] 13 false (by kernel_rfl) ?_ | refine TwoP.mk ?_ ?_ | refine GoP.mk (by repeat (first | exact List.Sublist.slnil | refine List.Sublist.cons_cons _ ?_ | refine List.Sublist.cons _ ?_)) (by first | exact fun _ h => h | exact fun _ h => h.2 | exact fun _ h => ((allD_append _ _).1 h).2) ?_ | exact trivial | refine EntP.mk (Ents.ofSub (by repeat (first | exact List.Sublist.slnil | refine List.Sublist.cons_cons _ ?_ | refine List.Sublist.cons _ ?_)) (by first | exact fun _ h => h | exact fun _ _ => trivial | exact fun _ h => h.2 | exact fun _ h => h.2.2.2.2 | exact fun _ h => h.2.2 | exact fun _ h => h.2.2.2 | exact fun _ h => h.2.2.2.2.2 | exact fun _ h => h.2.2.2.2.2.2 | exact fun _ h => h.2.2.2.2.2.2.2 | exact fun _ h => h.2.2.2.2.2.2.2.2 | exact fun _ h => h.2.2.2.2.2.2.2.2.2 | exact fun _ h => h.2.2.2.2.2.2.2.2.2.2 | exact fun _ h => ((allD_append _ _).1 h).2)) ?_ | refine IdxE.mk 9 1 keys4 (hkr _) (by decide) (by decide) ?_ | refine LoadE.mk 9 4 keys4 [.s [34]] (hkr _) (by decide) (by decide) (by decide) rfl ?_ | refine CallP.is (count_ok s 34) ?_ | refine FldE.mk 0 257 1 _ (hbig _) (by decide) ?_ | refine SideP.mk (by decide) ?_ | refine LoadE.mk 0 257 _ _ (htab _) (by decide) (by decide) (by decide) (by exact t.tab34) ?_ | refine Round.mk (0 + 1, true, szA s (0 + 1)) (by dsimp only; decide) ⟨by dsimp only; decide, rfl, fun h => by cases h⟩ (by repeat' first | exact SubE.nil | refine SubE.cons rfl ?_ ?_ | exact VEq.refl _ | refine VEq.int (by simp only [szA]; omega)) (nzR h) | refine Round.mk (0 + 1, b, szA s (0 + 1)) (by dsimp only; decide) ⟨by dsimp only; decide, rfl, fun hz => ?_⟩ (by repeat' first | exact SubE.nil | refine SubE.cons rfl ?_ ?_ | exact VEq.refl _ | refine VEq.int (by simp only [szA]; omega)) (zrR h)
        | fail
      have hz2 := hb hz
      simp only [noA] at hz2 ⊢
      omega
    · repeat' first
        | refine J_seq ?_ | refine J_region Tryz.tyOK ?_ | refine J_block ?_ | refine J_cond ?_ | refine J_ret ?_ | refine J_skip ?_ | refine J_exit ?_ | refine J_scope ?_
        | refine CondP.yes (by omega) ?_ | refine CondP.no (by omega) ?_ | refine CondP.mk (fun h => ?_) (fun h => ?_) | refine EqP.mk rfl ?_ | refine NewP.mk (fun ad => ?_) | refine ArP.exact (by simp only [inR]; omega) ?_ | refine SideP.mk (by first | omega | (dsimp only; omega) | (simp; omega)) ?_
        | refine J_drawU (id := 9) Tryz.tyOK (by kernel_rfl) [0, 0, 0, 0, 8, 4, 36, 124, 252, 508, 1020, 2046, 4095, 8191] (.leaf [0, 1, 2, 3, 4, 5, 6, 7, 8, 9, 10, 11, 12, 13]) [] [48] 14 true (by kernel_rfl) ?_ | refine TwoP.mk ?_ ?_ | refine GoP.mk (by repeat (first | exact List.Sublist.slnil | refine List.Sublist.cons_cons _ ?_ | refine List.Sublist.cons _ ?_)) (by first | exact fun _ h => h | exact fun _ h => h.2 | exact fun _ h => ((allD_append _ _).1 h).2) ?_ | exact trivial | refine J_drawU (id := 28) Tryz.tyOK (by kernel_rfl) [0, 0, 0, 6, 0, 0, 16, 80, 240, 496, 1022, 2047, 4095] (.fork [0, 1, 2, 3, 4, 5, 6, 7, 8, 9] (.alt 10 (.leaf [11, 12]) (.stop))) [10] [110] 13 false (by kernel_rfl) ?_ | refine TwoP.mk ?_ ?_ | refine GoP.mk (by repeat (first | exact List.Sublist.slnil | refine List.Sublist.cons_cons _ ?_ | refine List.Sublist.cons _ ?_)) (by first | exact fun _ h => h | exact fun _ h => h.2 | exact fun _ h => ((allD_append _ _).1 h).2) ?_ | exact trivial | refine EntP.mk (Ents.ofSub (by repeat (first | exact List.Sublist.slnil | refine List.Sublist.cons_cons _ ?_ | refine List.Sublist.cons _ ?_)) (by first | exact fun _ h => h | exact fun _ _ => trivial | exact fun _ h => h.2 | exact fun _ h => h.2.2.2.2 | exact fun _ h => h.2.2 | exact fun _ h => h.2.2.2 | exact fun _ h => h.2.2.2.2.2 | exact fun _ h => h.2.2.2.2.2.2 | exact fun _ h => h.2.2.2.2.2.2.2 | exact fun _ h => h.2.2.2.2.2.2.2.2 | exact fun _ h => h.2.2.2.2.2.2.2.2.2 | exact fun _ h => h.2.2.2.2.2.2.2.2.2.2 | exact fun _ h => ((allD_append _ _).1 h).2)) ?_ | refine IdxE.mk 9 1 keys4 (hkr _) (by decide) (by decide) ?_ | refine LoadE.mk 9 4 keys4 [.s [62]] (hkr _) (by decide) (by decide) (by decide) rfl ?_ | refine CallP.is (count_ok s 62) ?_ | refine FldE.mk 0 257 1 _ (hbig _) (by decide) ?_ | refine SideP.mk (by decide) ?_ | refine LoadE.mk 0 257 _ _ (htab _) (by decide) (by decide) (by decide) (by exact t.tab62) ?_ | refine Round.mk (1 + 1, true, szA s (1 + 1)) (by dsimp only; decide) ⟨by dsimp only; decide, rfl, fun h => by cases h⟩ (by repeat' first | exact SubE.nil | refine SubE.cons rfl ?_ ?_ | exact VEq.refl _ | refine VEq.int (by simp only [szA]; omega)) (nzR h) | refine Round.mk (1 + 1, b, szA s (1 + 1)) (by dsimp only; decide) ⟨by dsimp only; decide, rfl, fun hz => ?_⟩ (by repeat' first | exact SubE.nil | refine SubE.cons rfl ?_ ?_ | exact VEq.refl _ | refine VEq.int (by simp only [szA]; omega)) (zrR h)
        | fail
      have hz2 := hb hz
      simp only [noA] at hz2 ⊢
      omega
    · repeat' first
        | refine J_seq ?_ | refine J_region Tryz.tyOK ?_ | refine J_block ?_ | refine J_cond ?_ | refine J_ret ?_ | refine J_skip ?_ | refine J_exit ?_ | refine J_scope ?_
        | refine CondP.yes (by omega) ?_ | refine CondP.no (by omega) ?_ | refine CondP.mk (fun h => ?_) (fun h => ?_) | refine EqP.mk rfl ?_ | refine NewP.mk (fun ad => ?_) | refine ArP.exact (by simp only [inR]; omega) ?_ | refine SideP.mk (by first | omega | (dsimp only; omega) | (simp; omega)) ?_
        | refine J_drawU (id := 9) Tryz.tyOK (by kernel_rfl) [0, 0, 0, 0, 8, 4, 36, 124, 252, 508, 1020, 2046, 4095, 8191] (.leaf [0, 1, 2, 3, 4, 5, 6, 7, 8, 9, 10, 11, 12, 13]) [] [48] 14 true (by kernel_rfl) ?_ | refine TwoP.mk ?_ ?_ | refine GoP.mk (by repeat (first | exact List.Sublist.slnil | refine List.Sublist.cons_cons _ ?_ | refine List.Sublist.cons _ ?_)) (by first | exact fun _ h => h | exact fun _ h => h.2 | exact fun _ h => ((allD_append _ _).1 h).2) ?_ | exact trivial | refine J_drawU (id := 28) Tryz.tyOK (by kernel_rfl) [0, 0, 0, 6, 0, 0, 16, 80, 240, 496, 1022, 2047, 4095] (.fork [0, 1, 2, 3, 4, 5, 6, 7, 8, 9] (.alt 10 (.leaf [11, 12]) (.stop))) [10] [110] 13 false (by kernel_rfl) ?_ | refine TwoP.mk ?_ ?_ | refine GoP.mk (by repeat (first | exact List.Sublist.slnil | refine List.Sublist.cons_cons _ ?_ | refine List.Sublist.cons _ ?_)) (by first | exact fun _ h => h | exact fun _ h => h.2 | exact fun _ h => ((allD_append _ _).1 h).2) ?_ | exact trivial | refine EntP.mk (Ents.ofSub (by repeat (first | exact List.Sublist.slnil | refine List.Sublist.cons_cons _ ?_ | refine List.Sublist.cons _ ?_)) (by first | exact fun _ h => h | exact fun _ _ => trivial | exact fun _ h => h.2 | exact fun _ h => h.2.2.2.2 | exact fun _ h => h.2.2 | exact fun _ h => h.2.2.2 | exact fun _ h => h.2.2.2.2.2 | exact fun _ h => h.2.2.2.2.2.2 | exact fun _ h => h.2.2.2.2.2.2.2 | exact fun _ h => h.2.2.2.2.2.2.2.2 | exact fun _ h => h.2.2.2.2.2.2.2.2.2 | exact fun _ h => h.2.2.2.2.2.2.2.2.2.2 | exact fun _ h => ((allD_append _ _).1 h).2)) ?_ | refine IdxE.mk 9 1 keys4 (hkr _) (by decide) (by decide) ?_ | refine LoadE.mk 9 4 keys4 [.s [60]] (hkr _) (by decide) (by decide) (by decide) rfl ?_ | refine CallP.is (count_ok s 60) ?_ | refine FldE.mk 0 257 1 _ (hbig _) (by decide) ?_ | refine SideP.mk (by decide) ?_ | refine LoadE.mk 0 257 _ _ (htab _) (by decide) (by decide) (by decide) (by exact t.tab60) ?_ | refine Round.mk (2 + 1, true, szA s (2 + 1)) (by dsimp only; decide) ⟨by dsimp only; decide, rfl, fun h => by cases h⟩ (by repeat' first | exact SubE.nil | refine SubE.cons rfl ?_ ?_ | exact VEq.refl _ | refine VEq.int (by simp only [szA]; omega)) (nzR h) | refine Round.mk (2 + 1, b, szA s (2 + 1)) (by dsimp only; decide) ⟨by dsimp only; decide, rfl, fun hz => ?_⟩ (by repeat' first | exact SubE.nil | refine SubE.cons rfl ?_ ?_ | exact VEq.refl _ | refine VEq.int (by simp only [szA]; omega)) (zrR h)
        | fail
      have hz2 := hb hz
      simp only [noA] at hz2 ⊢
      omega
    · repeat' first
        | refine J_seq ?_ | refine J_region Tryz.tyOK ?_ | refine J_block ?_ | refine J_cond ?_ | refine J_ret ?_ | refine J_skip ?_ | refine J_exit ?_ | refine J_scope ?_
        | refine CondP.yes (by omega) ?_ | refine CondP.no (by omega) ?_ | refine CondP.mk (fun h => ?_) (fun h => ?_) | refine EqP.mk rfl ?_ | refine NewP.mk (fun ad => ?_) | refine ArP.exact (by simp only [inR]; omega) ?_ | refine SideP.mk (by first | omega | (dsimp only; omega) | (simp; omega)) ?_
        | refine J_drawU (id := 9) Tryz.tyOK (by kernel_rfl) [0, 0, 0, 0, 8, 4, 36, 124, 252, 508, 1020, 2046, 4095, 8191] (.leaf [0, 1, 2, 3, 4, 5, 6, 7, 8, 9, 10, 11, 12, 13]) [] [48] 14 true (by kernel_rfl) ?_ | refine TwoP.mk ?_ ?_ | refine GoP.mk (by repeat (first | exact List.Sublist.slnil | refine List.Sublist.cons_cons _ ?_ | refine List.Sublist.cons _ ?_)) (by first | exact fun _ h => h | exact fun _ h => h.2 | exact fun _ h => ((allD_append _ _).1 h).2) ?_ | exact trivial | refine J_drawU (id := 28) Tryz.tyOK (by kernel_rfl) [0, 0, 0, 6, 0, 0, 16, 80, 240, 496, 1022, 2047, 4095] (.fork [0, 1, 2, 3, 4, 5, 6, 7, 8, 9] (.alt 10 (.leaf [11, 12]) (.stop))) [10] [110] 13 false (by kernel_rfl) ?_ | refine TwoP.mk ?_ ?_ | refine GoP.mk (by repeat (first | exact List.Sublist.slnil | refine List.Sublist.cons_cons _ ?_ | refine List.Sublist.cons _ ?_)) (by first | exact fun _ h => h | exact fun _ h => h.2 | exact fun _ h => ((allD_append _ _).1 h).2) ?_ | exact trivial | refine EntP.mk (Ents.ofSub (by repeat (first | exact List.Sublist.slnil | refine List.Sublist.cons_cons _ ?_ | refine List.Sublist.cons _ ?_)) (by first | exact fun _ h => h | exact fun _ _ => trivial | exact fun _ h => h.2 | exact fun _ h => h.2.2.2.2 | exact fun _ h => h.2.2 | exact fun _ h => h.2.2.2 | exact fun _ h => h.2.2.2.2.2 | exact fun _ h => h.2.2.2.2.2.2 | exact fun _ h => h.2.2.2.2.2.2.2 | exact fun _ h => h.2.2.2.2.2.2.2.2 | exact fun _ h => h.2.2.2.2.2.2.2.2.2 | exact fun _ h => h.2.2.2.2.2.2.2.2.2.2 | exact fun _ h => ((allD_append _ _).1 h).2)) ?_ | refine IdxE.mk 9 1 keys4 (hkr _) (by decide) (by decide) ?_ | refine LoadE.mk 9 4 keys4 [.s [38]] (hkr _) (by decide) (by decide) (by decide) rfl ?_ | refine CallP.is (count_ok s 38) ?_ | refine FldE.mk 0 257 1 _ (hbig _) (by decide) ?_ | refine SideP.mk (by decide) ?_ | refine LoadE.mk 0 257 _ _ (htab _) (by decide) (by decide) (by decide) (by exact t.tab38) ?_ | refine Round.mk (3 + 1, true, szA s (3 + 1)) (by dsimp only; decide) ⟨by dsimp only; decide, rfl, fun h => by cases h⟩ (by repeat' first | exact SubE.nil | refine SubE.cons rfl ?_ ?_ | exact VEq.refl _ | refine VEq.int (by simp only [szA]; omega)) (nzR h) | refine Round.mk (3 + 1, b, szA s (3 + 1)) (by dsimp only; decide) ⟨by dsimp only; decide, rfl, fun hz => ?_⟩ (by repeat' first | exact SubE.nil | refine SubE.cons rfl ?_ ?_ | exact VEq.refl _ | refine VEq.int (by simp only [szA]; omega)) (zrR h)
        | fail
      have hz2 := hb hz
      simp only [noA] at hz2 ⊢
      omega
    · repeat' first
        | refine J_seq ?_ | refine J_region Tryz.tyOK ?_ | refine J_block ?_ | refine J_cond ?_ | refine J_ret ?_ | refine J_skip ?_ | refine J_exit ?_ | refine J_scope ?_
        | refine CondP.yes (by omega) ?_ | refine CondP.no (by omega) ?_ | refine CondP.mk (fun h => ?_) (fun h => ?_) | refine EqP.mk rfl ?_ | refine NewP.mk (fun ad => ?_) | refine ArP.exact (by simp only [inR]; omega) ?_ | refine SideP.mk (by first | omega | (dsimp only; omega) | (simp; omega)) ?_
        | refine InFam.mk b (fun h => ?_) (by repeat' first | exact SubE.nil | refine SubE.cons rfl ?_ ?_ | exact VEq.refl _ | refine VEq.int (by omega) | refine VEq.sl rfl (by omega) rfl) (Ents.refl _ _)
        | fail
      have hz := hb h
      exact escT_id (hz.1 (by decide)) (hz.2.1 (by decide)) (hz.2.2.1 (by decide)) (hz.2.2.2 (by decide))
  · refine J_loop (α := Nat × Bool × Nat) (fun x => [(0, repR t), (1, .c (.s s)), (5, .c (.i .i64 x.2.2)), (6, .c (.b x.2.1)), (10, .c (.i .i64 x.1))]) (fun _ => []) (fun _ => t.facts) 7000
      (fun x => x.1 ≤ s.length ∧ x.2.2 + x.1 = s.length + (escT (s.take x.1)).length ∧ (x.2.1 = false → (s.take x.1).any spB = false)) (fun x => s.length - x.1) (InFam.mk (0, false, s.length) ⟨Nat.zero_le _, rfl, fun _ => rfl⟩ (by repeat' first | exact SubE.nil | refine SubE.cons rfl ?_ ?_ | exact VEq.refl _ | refine VEq.int (by omega) | refine VEq.sl rfl (by omega) rfl) (Ents.refl _ _)) (fun x hx => ?_)
    obtain ⟨i, b, n⟩ := x
    obtain ⟨hi, hn, hb⟩ := hx
    unfold repR
    dsimp only at hi hn hb ⊢
    have htl := escT_take_le s i
    by_cases hlt : i < s.length
    · have hgd : (s.getD (Int.toNat (i : Int)) 0) = s[i] := by simp [hlt]
      obtain ⟨ta, tn, tc, hr, hcase⟩ := t.tab_byte s[i]
      have hts := escT_take_succ hlt
      have htl2 := escT_take_le s (i + 1)
      have hany : (s.take (i + 1)).any spB = ((s.take i).any spB || spB s[i]) := by rw [List.take_succ_eq_append_getElem hlt, List.any_append]; simp
      rw [hts, List.length_append] at htl2
      have hbl := escB_len s[i]
      have hb256 : (s[i]).toNat < 256 := s[i].toNat_lt
      rcases hcase with ⟨rfl, hsp⟩ | ⟨hta, hsp, htn, _⟩
      · rw [escB_plain hsp] at hts
        have hl1 := congrArg List.length hts
        simp only [List.length_append, List.length_cons, List.length_nil] at hl1
        repeat' first
          | refine CondP.yes rfl ?_
          | refine J_seq ?_ | refine J_region Tryz.tyOK ?_ | refine J_block ?_ | refine J_cond ?_ | refine J_ret ?_ | refine J_skip ?_ | refine J_exit ?_ | refine J_scope ?_
          | refine CondP.yes (by omega) ?_ | refine CondP.no (by omega) ?_ | refine CondP.mk (fun h => ?_) (fun h => ?_) | refine EqP.mk rfl ?_ | refine NewP.mk (fun ad => ?_) | refine ArP.exact (by simp only [inR]; omega) ?_ | refine SideP.mk (by first | omega | (dsimp only; omega) | (simp; omega)) ?_
          | refine FldE.mk 0 257 1 _ (hbig _) (by decide) ?_ | rw [hgd] | refine SideP.mk ⟨by omega, by omega⟩ ?_ | refine LoadE.mk 0 257 _ _ (htab _) (by omega) (by omega) (by decide) (by exact hr) ?_ | refine Round.mk (i + 1, b, n) (by dsimp only; omega) ⟨by dsimp only; omega, by dsimp only; omega, fun hz => ?_⟩ (by repeat' first | exact SubE.nil | refine SubE.cons rfl ?_ ?_ | exact VEq.refl _ | refine VEq.int (by dsimp only; omega)) (Ents.refl _ _)
          | fail
        show (s.take (i + 1)).any spB = false
        rw [hany, hb hz, hsp]; rfl
      · have hl1 := congrArg List.length hts
        simp only [List.length_append] at hl1
        subst htn
        repeat' first
          | refine CondP.no hta ?_
          | refine J_seq ?_ | refine J_region Tryz.tyOK ?_ | refine J_block ?_ | refine J_cond ?_ | refine J_ret ?_ | refine J_skip ?_ | refine J_exit ?_ | refine J_scope ?_
          | refine CondP.yes (by omega) ?_ | refine CondP.no (by omega) ?_ | refine CondP.mk (fun h => ?_) (fun h => ?_) | refine EqP.mk rfl ?_ | refine NewP.mk (fun ad => ?_) | refine ArP.exact (by simp only [inR]; omega) ?_ | refine SideP.mk (by first | omega | (dsimp only; omega) | (simp; omega)) ?_
          | refine FldE.mk 0 257 1 _ (hbig _) (by decide) ?_ | rw [hgd] | refine SideP.mk ⟨by omega, by omega⟩ ?_ | refine LoadE.mk 0 257 _ _ (htab _) (by omega) (by omega) (by decide) (by exact hr) ?_ | refine Round.mk (i + 1, true, n + ((escB s[i]).length - 1)) (by dsimp only; omega) ⟨by dsimp only; omega, by dsimp only; omega, fun hz => by cases hz⟩ (by repeat' first | exact SubE.nil | refine SubE.cons rfl ?_ ?_ | exact VEq.refl _ | refine VEq.int (by dsimp only; omega)) (Ents.refl _ _)
          | fail
    · have : i = s.length := by omega
      subst this
      rw [List.take_length] at hb hn
      repeat' first
        | refine J_seq ?_ | refine J_region Tryz.tyOK ?_ | refine J_block ?_ | refine J_cond ?_ | refine J_ret ?_ | refine J_skip ?_ | refine J_exit ?_ | refine J_scope ?_
        | refine CondP.yes (by omega) ?_ | refine CondP.no (by omega) ?_ | refine CondP.mk (fun h => ?_) (fun h => ?_) | refine EqP.mk rfl ?_ | refine NewP.mk (fun ad => ?_) | refine ArP.exact (by simp only [inR]; omega) ?_ | refine SideP.mk (by first | omega | (dsimp only; omega) | (simp; omega)) ?_
        | refine InFam.mk b (fun h => escT_plain (hb h)) (by repeat' first | exact SubE.nil | refine SubE.cons rfl ?_ ?_ | exact VEq.refl _ | refine VEq.int (by omega)) (Ents.refl _ _)
        | fail
  · cases b
    · repeat' first
        | refine J_seq ?_ | refine J_region Tryz.tyOK ?_ | refine J_block ?_ | refine J_cond ?_ | refine J_ret ?_ | refine J_skip ?_ | refine J_exit ?_ | refine J_scope ?_
        | refine CondP.yes (by omega) ?_ | refine CondP.no (by omega) ?_ | refine CondP.mk (fun h => ?_) (fun h => ?_) | refine EqP.mk rfl ?_ | refine NewP.mk (fun ad => ?_) | refine ArP.exact (by simp only [inR]; omega) ?_ | refine SideP.mk (by first | omega | (dsimp only; omega) | (simp; omega)) ?_
        | refine FinE.str ?_
        | fail
      first | exact hb rfl | exact (hb rfl).symm
    · repeat' first
        | refine J_seq ?_ | refine J_region Tryz.tyOK ?_ | refine J_block ?_ | refine J_cond ?_ | refine J_ret ?_ | refine J_skip ?_ | refine J_exit ?_ | refine J_scope ?_
        | refine CondP.yes (by omega) ?_ | refine CondP.no (by omega) ?_ | refine CondP.mk (fun h => ?_) (fun h => ?_) | refine EqP.mk rfl ?_ | refine NewP.mk (fun ad => ?_) | refine ArP.exact (by simp only [inR]; omega) ?_ | refine SideP.mk (by first | omega | (dsimp only; omega) | (simp; omega)) ?_
        | fail
      refine J_loop (α := Nat) (fun i => [(0, repR t), (1, .c (.s s)), (12, .c (.sl (some ⟨ad, 0, none⟩) (escT s).length (escT s).length)), (13, .c (.i .i64 (escT (s.take i)).length)), (14, .c (.i .i64 i))])
        (fun i => [.row 5 1 (some ⟨ad, 0, none⟩) (escT s).length (escT s).length ((escT (s.take i)).map byteC ++ repC ((escT s).length - (escT (s.take i)).length) [.i .u8 0])]) (fun _ => t.facts) 7000
        (fun i => i ≤ s.length) (fun i => s.length - i) (InFam.mk 0 (Nat.zero_le _) (by repeat' first | exact SubE.nil | refine SubE.cons rfl ?_ ?_ | exact VEq.refl _ | refine VEq.sl rfl (by simp) (by simp)) (Ents.of (by simp [escT]))) (fun i hi => ?_)
      unfold repR
      by_cases hlt : i < s.length
      · have hgd : (s.getD (Int.toNat (i : Int)) 0) = s[i] := by simp [hlt]
        obtain ⟨ta, tn, tc, hr, hcase⟩ := t.tab_byte s[i]
        have hts := escT_take_succ hlt
        have htl2 := escT_take_le s (i + 1)
        rw [hts, List.length_append] at htl2
        have hbl := escB_len s[i]
        have hb256 : (s[i]).toNat < 256 := s[i].toNat_lt
        rcases hcase with ⟨rfl, hsp⟩ | ⟨hta, hsp, htn, hfa⟩
        · rw [escB_plain hsp] at hts htl2
          have hl1 := congrArg List.length hts
          simp only [List.length_append, List.length_cons, List.length_nil] at hl1 htl2
          repeat' first
            | refine CondP.yes rfl ?_
            | refine J_seq ?_ | refine J_region Tryz.tyOK ?_ | refine J_block ?_ | refine J_cond ?_ | refine J_ret ?_ | refine J_skip ?_ | refine J_exit ?_ | refine J_scope ?_
            | refine CondP.yes (by omega) ?_ | refine CondP.no (by omega) ?_ | refine CondP.mk (fun h => ?_) (fun h => ?_) | refine EqP.mk rfl ?_ | refine NewP.mk (fun ad => ?_) | refine ArP.exact (by simp only [inR]; omega) ?_ | refine SideP.mk (by first | omega | (dsimp only; omega) | (simp; omega)) ?_
            | refine FldE.mk 0 257 1 _ (hbig _) (by decide) ?_ | rw [hgd] | refine SideP.mk ⟨by omega, by omega⟩ ?_ | refine LoadE.mk 0 257 _ _ (htab _) (by omega) (by omega) (by decide) (by exact hr) ?_ | refine IdxE.mk 5 1 _ (.inl ⟨_, List.Mem.head _⟩) (by omega) (by omega) ?_ | refine StoreE.mk [] [] 5 _ _ _ _ rfl (by omega) (by omega) (Nat.le_refl 1) (by exact escRow s i _ [s[i]] hts (by simp only [List.length_cons, List.length_nil]; omega) _ (by simp)) ?_ | refine Round.mk (i + 1) (by omega) (by omega) (by repeat' first | exact SubE.nil | refine SubE.cons rfl ?_ ?_ | exact VEq.refl _ | refine VEq.int (by omega)) (Ents.refl _ _)
            | fail
        · subst htn
          have hl1 := congrArg List.length hts
          simp only [List.length_append] at hl1
          repeat' first
            | refine CondP.no hta ?_
            | refine J_seq ?_ | refine J_region Tryz.tyOK ?_ | refine J_block ?_ | refine J_cond ?_ | refine J_ret ?_ | refine J_skip ?_ | refine J_exit ?_ | refine J_scope ?_
            | refine CondP.yes (by omega) ?_ | refine CondP.no (by omega) ?_ | refine CondP.mk (fun h => ?_) (fun h => ?_) | refine EqP.mk rfl ?_ | refine NewP.mk (fun ad => ?_) | refine ArP.exact (by simp only [inR]; omega) ?_ | refine SideP.mk (by first | omega | (dsimp only; omega) | (simp; omega)) ?_
            | refine J_drawU (id := 9) Tryz.tyOK (by kernel_rfl) [0, 0, 0, 0, 8, 4, 36, 124, 252, 508, 1020, 2046, 4095, 8191] (.leaf [0, 1, 2, 3, 4, 5, 6, 7, 8, 9, 10, 11, 12, 13]) [] [48] 14 true (by kernel_rfl) ?_ | refine TwoP.mk ?_ ?_ | refine GoP.mk (by repeat (first | exact List.Sublist.slnil | refine List.Sublist.cons_cons _ ?_ | refine List.Sublist.cons _ ?_)) (by first | exact fun _ h => h | exact fun _ h => h.2 | exact fun _ h => ((allD_append _ _).1 h).2) ?_ | exact trivial | refine J_drawU (id := 28) Tryz.tyOK (by kernel_rfl) [0, 0, 0, 6, 0, 0, 16, 80, 240, 496, 1022, 2047, 4095] (.fork [0, 1, 2, 3, 4, 5, 6, 7, 8, 9] (.alt 10 (.leaf [11, 12]) (.stop))) [10] [110] 13 false (by kernel_rfl) ?_ | refine TwoP.mk ?_ ?_ | refine GoP.mk (by repeat (first | exact List.Sublist.slnil | refine List.Sublist.cons_cons _ ?_ | refine List.Sublist.cons _ ?_)) (by first | exact fun _ h => h | exact fun _ h => h.2 | exact fun _ h => ((allD_append _ _).1 h).2) ?_ | exact trivial | refine EntP.mk (Ents.ofSub (by repeat (first | exact List.Sublist.slnil | refine List.Sublist.cons_cons _ ?_ | refine List.Sublist.cons _ ?_)) (by first | exact fun _ h => h | exact fun _ _ => trivial | exact fun _ h => h.2 | exact fun _ h => h.2.2.2.2 | exact fun _ h => h.2.2 | exact fun _ h => h.2.2.2 | exact fun _ h => h.2.2.2.2.2 | exact fun _ h => h.2.2.2.2.2.2 | exact fun _ h => h.2.2.2.2.2.2.2 | exact fun _ h => h.2.2.2.2.2.2.2.2 | exact fun _ h => h.2.2.2.2.2.2.2.2.2 | exact fun _ h => h.2.2.2.2.2.2.2.2.2.2 | exact fun _ h => ((allD_append _ _).1 h).2)) ?_ | refine FldE.mk 0 257 1 _ (hbig _) (by decide) ?_ | rw [hgd] | refine SideP.mk ⟨by omega, by omega⟩ ?_ | refine LoadE.mk 0 257 _ _ (htab _) (by omega) (by omega) (by decide) (by exact hr) ?_ | refine CopyE.mk [] [] 5 _ _ (escT (s.take i)).length (escB s[i]).length (some ⟨ad, 0, none⟩) _ ((escB s[i]).map byteC) _ _ _ _ rfl rfl (by show _ = min _ _; omega) (by omega) (by first | rfl | simp) (.inr hfa) (by simp) (by omega) (.inl (by omega)) (by exact escRow s i _ _ hts (by omega) _ (by simp)) ?_ | refine Round.mk (i + 1) (by omega) (by omega) (by repeat' first | exact SubE.nil | refine SubE.cons rfl ?_ ?_ | exact VEq.refl _ | refine VEq.int (by omega)) (Ents.of (by rw [Nat.max_eq_left (by omega)]; rfl))
            | fail
          all_goals trace_state
      · have : i = s.length := by omega
        subst this
        rw [List.take_length, Nat.sub_self, show repC 0 [C.i .u8 0] = [] from rfl, List.append_nil]
        repeat' first
          | refine J_seq ?_ | refine J_region Tryz.tyOK ?_ | refine J_block ?_ | refine J_cond ?_ | refine J_ret ?_ | refine J_skip ?_ | refine J_exit ?_ | refine J_scope ?_
          | refine CondP.yes (by omega) ?_ | refine CondP.no (by omega) ?_ | refine CondP.mk (fun h => ?_) (fun h => ?_) | refine EqP.mk rfl ?_ | refine NewP.mk (fun ad => ?_) | refine ArP.exact (by simp only [inR]; omega) ?_ | refine SideP.mk (by first | omega | (dsimp only; omega) | (simp; omega)) ?_
          | refine BytesE.mk 5 (escT s) (.inl ⟨_, List.Mem.head _⟩) ?_ | refine FinE.str rfl
          | fail

end Go.Proofs
