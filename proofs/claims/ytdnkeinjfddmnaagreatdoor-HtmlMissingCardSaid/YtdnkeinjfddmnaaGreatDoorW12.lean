/- This text says what the escaping of HTML computes, and what it does to lengths, with no program in sight. · This text gives the contracts of strings.NewReplacer at the eight strings of the escaping, and of build. · This text gives the contract of buildOnce: the replacer's algorithm is built. · This text walks through Replace of the byte replacer: it computes the escaped string. · This text gives the contract of html.Escape. · This text walks through the reference's Escape: it computes the escaped string too. · This text says what the HTML of a document is, on documents as trees. · This text walks through the program's writer of HTML: links and elements. · This text bounds the size of rendered elements, and walks through the program's writer on elements. -/
import Derived.Test.YtdnkeinjfddmnaaGreatDoorW01
import Derived.Test.YtdnkeinjfddmnaaGreatDoorW11
import Derived.Test.YtdnkeinjfddmnaaGreatDoorW07
import Derived.Test.YtdnkeinjfddmnaaGreatDoorW10
set_option linter.all false
namespace Go.X
def eAmp : List UInt8 := [38, 97, 109, 112, 59]
def eLt : List UInt8 := [38, 108, 116, 59]
def eGt : List UInt8 := [38, 103, 116, 59]
def eQuot : List UInt8 := [38, 113, 117, 111, 116, 59]
def escB (b : UInt8) : List UInt8 := if b = 38 then eAmp else if b = 60 then eLt else if b = 62 then eGt else if b = 34 then eQuot else [b]
def spB (b : UInt8) : Bool := b == 38 || b == 60 || b == 62 || b == 34
def escT (s : List UInt8) : List UInt8 := s.flatMap escB
theorem escT_nil : escT [] = [] := rfl
theorem escT_cons (b : UInt8) (s : List UInt8) : escT (b :: s) = escB b ++ escT s := by simp [escT]
theorem escT_append (a b : List UInt8) : escT (a ++ b) = escT a ++ escT b := by simp [escT]
theorem escT_len : ∀ s : List UInt8, (escT s).length = s.length + s.count 34 * 5 + s.count 62 * 3 + s.count 60 * 3 + s.count 38 * 4
  | [] => rfl
  | b :: s => by
    have ih := escT_len s
    rw [escT_cons, List.length_append, ih]
    simp only [List.count_cons, List.length_cons]
    by_cases h1 : b = 38
    · subst h1; simp [escB, eAmp]; omega
    by_cases h2 : b = 60
    · subst h2; simp [escB, eLt]; omega
    by_cases h3 : b = 62
    · subst h3; simp [escB, eGt]; omega
    by_cases h4 : b = 34
    · subst h4; simp [escB, eQuot]; omega
    · simp [escB, h1, h2, h3, h4]; omega
theorem escT_id : ∀ {s : List UInt8}, s.count 34 = 0 → s.count 62 = 0 → s.count 60 = 0 → s.count 38 = 0 → escT s = s
  | [], _, _, _, _ => rfl
  | b :: s, h1, h2, h3, h4 => by
    simp only [List.count_cons, Nat.add_eq_zero_iff] at h1 h2 h3 h4
    rw [escT_cons, escT_id h1.1 h2.1 h3.1 h4.1]
    have n1 : b ≠ 34 := fun h => by simp [h] at h1
    have n2 : b ≠ 62 := fun h => by simp [h] at h2
    have n3 : b ≠ 60 := fun h => by simp [h] at h3
    have n4 : b ≠ 38 := fun h => by simp [h] at h4
    simp [escB, n1, n2, n3, n4]
theorem escB_plain {b : UInt8} (h : spB b = false) : escB b = [b] := by
  simp only [spB, Bool.or_eq_false_iff, beq_eq_false_iff_ne] at h
  simp [escB, h.1.1.1, h.1.1.2, h.1.2, h.2]
theorem escT_plain : ∀ {s : List UInt8}, s.any spB = false → escT s = s
  | [], _ => rfl
  | b :: s, h => by
    simp only [List.any_cons, Bool.or_eq_false_iff] at h
    rw [escT_cons, escT_plain h.2, escB_plain h.1]; rfl
theorem escB_len (b : UInt8) : 1 ≤ (escB b).length ∧ (escB b).length ≤ 6 := by
  unfold escB
  repeat (split; decide)
  exact ⟨Nat.le_refl 1, by show 1 ≤ 6; decide⟩
theorem escT_le (s : List UInt8) : s.length ≤ (escT s).length ∧ (escT s).length ≤ 6 * s.length := by
  induction s with
  | nil => exact ⟨Nat.le_refl _, Nat.le_refl _⟩
  | cons b s ih =>
    have := escB_len b
    rw [escT_cons, List.length_append, List.length_cons]
    omega
theorem escT_take_succ {s : List UInt8} {i : Nat} (h : i < s.length) : escT (s.take (i + 1)) = escT (s.take i) ++ escB s[i] := by
  rw [List.take_succ_eq_append_getElem h, escT_append, escT_cons, escT_nil, List.append_nil]
theorem escT_take_le (s : List UInt8) (i : Nat) : (escT (s.take i)).length ≤ (escT s).length := by
  have := congrArg List.length (congrArg escT (List.take_append_drop i s))
  rw [escT_append, List.length_append] at this
  omega
end Go.X
namespace Go.Proofs
open Go Go.X
set_option maxRecDepth 100000
def strs8 : List C := [.s [38], .s eAmp, .s [60], .s eLt, .s [62], .s eGt, .s [34], .s eQuot]
theorem newReplacer_ok (a : Option Addr) (c : Nat) : FnS Tryz.prog 37 [.c (.sl a 8 c)] [] [slFact 9 1 a 8 strs8]
    (fun v L D => ∃ ab a' c', v = .c (.p 0 ab 0) ∧ L = [rb ab 0 0 (.raw .nilIface) (.sl a' 8 c'), .row 9 1 a' 8 c' strs8] ∧ D = []) := by
  refine fn_of_J Tryz.tyOK 0 Tryz.func37 (by kernel_rfl) (c := Tryz.f37.body.getD .skip) (by kernel_rfl) Tryz.ntmps37 (rs := Tryz.f37.results.toList) rfl (by simp) (fun G => ?_)
  repeat' first
    | refine CondP.no (by decide) ?_
    | refine J_seq ?_ | refine J_region Tryz.tyOK ?_ | refine J_block ?_ | refine J_cond ?_ | refine J_ret ?_ | refine J_skip ?_ | refine J_exit ?_ | refine J_scope ?_
    | refine CondP.yes (by omega) ?_ | refine CondP.no (by omega) ?_ | refine CondP.mk (fun h => ?_) (fun h => ?_) | refine EqP.mk rfl ?_ | refine NewP.mk (fun ad => ?_) | refine ArP.exact (by simp only [inR]; omega) ?_ | refine SideP.mk (by first | omega | (dsimp only; omega) | (simp; omega)) ?_
    | refine SideP.mk (by decide) ?_ | refine AppE.nil strs8 8 rfl rfl rfl (SrcE.sl 9 9 _ _ _ _ strs8 rfl rfl (.inr fun _ h => h.1) rfl) (by decide) (fun a' c' => ?_) | refine FinE.mk [rb ad 0 0 (.raw .nilIface) (.sl a' 8 c'), .row 9 1 a' 8 c' strs8] [] ⟨ad, a', c', rfl, rfl, rfl⟩ (Ents.facts fun _ _ => trivial)
    | fail
structure RT where
  g : Nat
  g38 : Nat
  c38 : Nat
  g60 : Nat
  c60 : Nat
  g62 : Nat
  c62 : Nat
  g34 : Nat
  c34 : Nat
  a : Option Addr
  c : Nat
def RT.at (t : RT) (i : Nat) : C :=
  if i = 38 then .sl (some ⟨t.g38, 0, none⟩) 5 t.c38 else if i = 60 then .sl (some ⟨t.g60, 0, none⟩) 4 t.c60 else if i = 62 then .sl (some ⟨t.g62, 0, none⟩) 4 t.c62
  else if i = 34 then .sl (some ⟨t.g34, 0, none⟩) 6 t.c34 else .sl none 0 0
def RT.tab (t : RT) : List C := (List.range 256).map t.at ++ [.sl t.a 4 t.c]
def keys4 : List C := [.s [34], .s [62], .s [60], .s [38]]
def RT.facts (t : RT) : List Fact := [slFact 9 1 t.a 4 keys4, slFact 0 257 (some ⟨t.g, 0, none⟩) 1 t.tab, slFact 0 1 (some ⟨t.g, 0, none⟩) 257 t.tab,
  slFact 5 1 (some ⟨t.g34, 0, none⟩) 6 (eQuot.map byteC), slFact 5 1 (some ⟨t.g62, 0, none⟩) 4 (eGt.map byteC), slFact 5 1 (some ⟨t.g60, 0, none⟩) 4 (eLt.map byteC), slFact 5 1 (some ⟨t.g38, 0, none⟩) 5 (eAmp.map byteC)]
set_option maxHeartbeats 4000000 in
theorem build_ok (ab : Nat) (a0 : Option Addr) (c0 : Nat) : FnS Tryz.prog 115 [.c (.p 0 ab 0)] [rb ab 0 1 (.raw .nilIface) (.sl a0 8 c0)] [slFact 9 1 a0 8 strs8]
    (fun v L D => ∃ t : RT, v = .c (.raw (.iface 200 (.pointer (some ⟨t.g, 0, none⟩)))) ∧ L = [rb ab 0 1 (.raw .nilIface) (.sl a0 8 c0)] ∧ D = t.facts) := by
  have hrd : ∀ (L : List Chunk) (D : List Fact), Reads L (slFact 9 1 a0 8 strs8 :: D) 9 1 a0 8 strs8 := fun _ _ => .inr fun _ h => h.1
  refine fn_of_J Tryz.tyOK 0 Tryz.func115 (by kernel_rfl) (c := Tryz.f115.body.getD .skip) (by kernel_rfl) Tryz.ntmps115 (rs := Tryz.f115.results.toList) rfl (by simp) (fun G => ?_)
  repeat' first
    | refine CondP.yes (by decide) ?_ | refine CondP.no (by decide) ?_
    | refine J_seq ?_ | refine J_region Tryz.tyOK ?_ | refine J_block ?_ | refine J_cond ?_ | refine J_ret ?_ | refine J_skip ?_ | refine J_exit ?_ | refine J_scope ?_
    | refine CondP.yes (by omega) ?_ | refine CondP.no (by omega) ?_ | refine CondP.mk (fun h => ?_) (fun h => ?_) | refine EqP.mk rfl ?_ | refine NewP.mk (fun ad => ?_) | refine ArP.exact (by simp only [inR]; omega) ?_ | refine SideP.mk (by first | omega | (dsimp only; omega) | (simp; omega)) ?_
    | refine J_rounds 5 ?_ | refine JR_succ ?_ | refine IdxE.mk 9 1 strs8 (hrd _ _) (by decide) (by decide) ?_ | refine LoadE.mk 9 8 strs8 _ (hrd _ _) (by decide) (by decide) (by decide) rfl ?_ | refine ArP.exact (by simp only [inR]; decide) ?_ | refine SideP.mk (by decide) ?_ | refine NewB.mk (fun ad c => ?_) | refine BytesE.mk 5 [_] (.inl ⟨1, List.Mem.head _⟩) ?_ | refine AppE.row [_, _, _] _ _ _ 1 rfl (SrcE.sl 9 9 _ _ _ _ _ rfl rfl (.inl ⟨1, List.Mem.head _⟩) rfl) (by decide) (fun a' c' => ?_) | refine AppE.row [_, _, _, _, _, _] _ _ _ 1 rfl (SrcE.sl 9 9 _ _ _ _ _ rfl rfl (.inl ⟨1, List.Mem.head _⟩) rfl) (by decide) (fun a' c' => ?_) | refine AppE.row [_, _, _, _, _, _, _, _, _] _ _ _ 1 rfl (SrcE.sl 9 9 _ _ _ _ _ rfl rfl (.inl ⟨1, List.Mem.head _⟩) rfl) (by decide) (fun a' c' => ?_) | refine AppE.row [_, _, _, _, _, _, _, _, _, _, _, _] _ _ _ 1 rfl (SrcE.sl 9 9 _ _ _ _ _ rfl rfl (.inl ⟨1, List.Mem.head _⟩) rfl) (by decide) (fun a' c' => ?_)
    | fail
  rename_i ad12 ad11 ad10 ad9 a2 c2 g34 c34 ad7 ad6 a1 c1 g62 c62 ad4 ad3 a3 c3 g60 c60 ad1 ad0
  refine FinE.mk [rb ab 0 1 (.raw .nilIface) (.sl a0 8 c0)] (RT.facts ⟨ad11, ad, c, g60, c60, g62, c62, g34, c34, a', c'⟩) ⟨⟨ad11, ad, c, g60, c60, g62, c62, g34, c34, a', c'⟩, rfl, rfl, rfl⟩ ?_
  refine Ents.toFact.trans (Ents.drop.trans (Ents.drop.trans ?_))
  refine Ents.toFact.trans (Ents.drop.trans (Ents.drop.trans ?_))
  refine Ents.toFact.trans (Ents.drop.trans (Ents.drop.trans ?_))
  refine Ents.toFact.trans (Ents.drop.trans (Ents.drop.trans ?_))
  refine (Ents.boxFact 0 1 257 rfl).trans (Ents.toFact.trans (Ents.facts fun m h => ?_))
  have hb : SlF m 0 1 (some ⟨ad11, 0, none⟩) 257 (RT.tab ⟨ad11, ad, c, g60, c60, g62, c62, g34, c34, a', c'⟩) := h.2.1
  exact ⟨h.1, slF_re (e' := 0) hb (by decide) (by decide), hb, h.2.2.1, h.2.2.2.1, h.2.2.2.2.1, h.2.2.2.2.2.1, trivial⟩
theorem RT.tab_len (t : RT) : t.tab.length = 257 := by simp [RT.tab]
theorem RT.tab_at (t : RT) {i : Nat} (h : i < 256) : (t.tab.drop (i * 1 + 0)).take 1 = [t.at i] := by
  have hl : i * 1 + 0 < t.tab.length := by rw [RT.tab_len]; omega
  rw [List.drop_eq_getElem_cons hl, List.take_succ_cons, List.take_zero]
  congr 1
  simp only [RT.tab, Nat.mul_one, Nat.add_zero]
  rw [List.getElem_append_left (by simpa using h)]
  simp
theorem RT.tab_last (t : RT) : (t.tab.drop (0 * 257 + (0 + 256))).take 1 = [.sl t.a 4 t.c] := by
  have h : ((List.range 256).map t.at).length = 0 * 257 + (0 + 256) := by simp
  unfold RT.tab
  rw [List.drop_left' h]
  rfl
theorem RT.tab34 (t : RT) : (t.tab.drop (34 * 1 + 0)).take 1 = [.sl (some ⟨t.g34, 0, none⟩) 6 t.c34] := t.tab_at (by decide)
theorem RT.tab62 (t : RT) : (t.tab.drop (62 * 1 + 0)).take 1 = [.sl (some ⟨t.g62, 0, none⟩) 4 t.c62] := t.tab_at (by decide)
theorem RT.tab60 (t : RT) : (t.tab.drop (60 * 1 + 0)).take 1 = [.sl (some ⟨t.g60, 0, none⟩) 4 t.c60] := t.tab_at (by decide)
theorem RT.tab38 (t : RT) : (t.tab.drop (38 * 1 + 0)).take 1 = [.sl (some ⟨t.g38, 0, none⟩) 5 t.c38] := t.tab_at (by decide)
theorem RT.tab_byte (t : RT) (b : UInt8) : ∃ a n c, (t.tab.drop (b.toNat * 1 + 0)).take 1 = [.sl a n c] ∧ ((a = none ∧ spB b = false) ∨ (a ≠ none ∧ spB b = true ∧ n = (escB b).length ∧ ∀ m, allD m t.facts → SlF m 5 1 a n ((escB b).map byteC))) := by
  by_cases h1 : b = 38
  · subst h1; exact ⟨_, _, _, t.tab38, .inr ⟨by simp, rfl, rfl, fun m h => h.2.2.2.2.2.2.1⟩⟩
  by_cases h2 : b = 60
  · subst h2; exact ⟨_, _, _, t.tab60, .inr ⟨by simp, rfl, rfl, fun m h => h.2.2.2.2.2.1⟩⟩
  by_cases h3 : b = 62
  · subst h3; exact ⟨_, _, _, t.tab62, .inr ⟨by simp, rfl, rfl, fun m h => h.2.2.2.2.1⟩⟩
  by_cases h4 : b = 34
  · subst h4; exact ⟨_, _, _, t.tab34, .inr ⟨by simp, rfl, rfl, fun m h => h.2.2.2.1⟩⟩
  · refine ⟨none, 0, 0, ?_, .inl ⟨rfl, by simp [spB, h1, h2, h3, h4]⟩⟩
    have hb : b.toNat < 256 := b.toNat_lt
    rw [t.tab_at hb]
    have n1 : b.toNat ≠ 38 := fun h => h1 (UInt8.toNat_inj.1 h)
    have n2 : b.toNat ≠ 60 := fun h => h2 (UInt8.toNat_inj.1 h)
    have n3 : b.toNat ≠ 62 := fun h => h3 (UInt8.toNat_inj.1 h)
    have n4 : b.toNat ≠ 34 := fun h => h4 (UInt8.toNat_inj.1 h)
    simp [RT.at, n1, n2, n3, n4]
attribute [irreducible] RT.tab RT.at
end Go.Proofs
namespace Go.Proofs
open Go Go.X
set_option maxRecDepth 100000
def RT.val (t : RT) : C := .raw (.iface 200 (.pointer (some ⟨t.g, 0, none⟩)))
def BuiltQ : C → C → List Chunk → List Fact → Prop := fun r z R D => R = [] ∧ z = .sl none 0 0 ∧ ∃ t : RT, r = t.val ∧ ∃ D', D = t.facts ++ D'
theorem buildOnce_ok (ab : Nat) (a0 : Option Addr) (c0 : Nat) : FnS Tryz.prog 78 [.c (.p 0 ab 0)] [rb ab 0 1 (.raw .nilIface) (.sl a0 8 c0)] [slFact 9 1 a0 8 strs8] (BuiltP ab 0 1 BuiltQ) := by
  have c1 := build_ok ab a0 c0
  refine fn_of_J Tryz.tyOK 7000 Tryz.func78 (by kernel_rfl) (c := Tryz.f78.body.getD .skip) (by kernel_rfl) Tryz.ntmps78 (rs := Tryz.f78.results.toList) rfl (by simp) (fun G => ?_)
  repeat' first
    | refine J_seq ?_ | refine J_region Tryz.tyOK ?_ | refine J_block ?_ | refine J_cond ?_ | refine J_ret ?_ | refine J_skip ?_ | refine J_exit ?_ | refine J_scope ?_
    | refine CondP.yes (by omega) ?_ | refine CondP.no (by omega) ?_ | refine CondP.mk (fun h => ?_) (fun h => ?_) | refine EqP.mk rfl ?_ | refine NewP.mk (fun ad => ?_) | refine ArP.exact (by simp only [inR]; omega) ?_ | refine SideP.mk (by first | omega | (dsimp only; omega) | (simp; omega)) ?_
    | refine CallP.mk [_] [] _ _ c1 (List.Perm.refl _) (fun _ h => h) (fun v L' D' hp => ?_); obtain ⟨t, rfl, rfl, rfl⟩ := hp | refine FinE.mk [rb ab 0 1 t.val (.sl none 0 0)] _ ⟨_, _, [], rfl, rfl, rfl, rfl, t, rfl, _, rfl⟩ (Ents.refl _ _)
    | fail
theorem onceDone_ok (ab : Nat) (a0 : Option Addr) (c0 : Nat) : FnS Tryz.prog 77 [.c (.p 0 ab 0), onceF ab] [rb ab 0 0 (.raw .nilIface) (.sl a0 8 c0)] [slFact 9 1 a0 8 strs8] (BuiltP ab 1 0 BuiltQ) :=
  onceDo_ok ab _ _ [] _ BuiltQ (buildOnce_ok ab a0 c0) fun r z R D1 ⟨h1, h2, t, h3, D', h4⟩ => ⟨h1, h2, t, h3, D' ++ [slFact 9 1 a0 8 strs8], by subst h4; exact List.append_assoc _ _ _⟩
end Go.Proofs
namespace Go.Proofs
open Go Go.X
set_option maxRecDepth 100000
theorem count_ok (s : List UInt8) (c : UInt8) : FnS Tryz.prog 25 [.c (.s s), .c (.s [c])] [] [] (Is (.c (.i .i64 (s.count c)))) :=
  fn_pure ⟨_, Tryz.func25, by kernel_rfl, by kernel_rfl⟩ (Tryz.strings_Count_one ⟨⟨s⟩⟩ c)
def szA (s : List UInt8) : Nat → Nat
  | 0 => s.length
  | 1 => s.length + s.count 34 * 5
  | 2 => s.length + s.count 34 * 5 + s.count 62 * 3
  | 3 => s.length + s.count 34 * 5 + s.count 62 * 3 + s.count 60 * 3
  | _ => (escT s).length
def noA (s : List UInt8) (k : Nat) : Prop := (0 < k → s.count 34 = 0) ∧ (1 < k → s.count 62 = 0) ∧ (2 < k → s.count 60 = 0) ∧ (3 < k → s.count 38 = 0)
theorem nzR {L : List Chunk} {D : List Fact} {x : Int} (_ : ¬ x = 0) : Ents L D L D := Ents.refl _ _
theorem zrR {L : List Chunk} {D : List Fact} {x : Int} (_ : x = 0) : Ents L D L D := Ents.refl _ _
theorem setC_ext (P xs : List C) (m j : Nat) (z : C) (hj : j = P.length) (h : xs.length ≤ m) : setC j xs (P ++ repC m [z]) = (P ++ xs) ++ repC (m - xs.length) [z] := by
  subst hj
  have h2 : ∀ (k m : Nat), k ≤ m → (repC m [z]).drop k = repC (m - k) [z] := by
    intro k
    induction k with
    | zero => intro m _; rfl
    | succ k ih =>
      intro m hm
      obtain ⟨m', rfl⟩ : ∃ m', m = m' + 1 := ⟨m - 1, by omega⟩
      rw [Nat.add_sub_add_right]
      exact ih m' (by omega)
  unfold setC
  rw [List.take_left, List.drop_append, List.drop_of_length_le (by omega), List.nil_append, Nat.add_sub_cancel_left, h2 _ _ h]
theorem escRow (s : List UInt8) (i N : Nat) (x : List UInt8) (hts : escT (s.take (i + 1)) = escT (s.take i) ++ x) (hle : (escT (s.take i)).length + x.length ≤ N) (j : Nat) (hj : j = (escT (s.take i)).length) :
    setC j (x.map byteC) ((escT (s.take i)).map byteC ++ repC (N - (escT (s.take i)).length) [.i .u8 0]) = (escT (s.take (i + 1))).map byteC ++ repC (N - (escT (s.take (i + 1))).length) [.i .u8 0] := by
  rw [setC_ext _ _ _ _ _ (by simpa using hj) (by simp; omega), hts, List.map_append, List.length_append, List.length_map]
  congr 2
  omega
def repR (t : RT) : V := .c (.e (some ⟨t.g, 0, none⟩) 257 0 0)
set_option maxHeartbeats 1000000 in
theorem repReplace_ok (t : RT) (s : List UInt8) (hs : s.length ≤ 1000000000) : FnS Tryz.prog 235 [repR t, .c (.s s)] [] t.facts (Is (.c (.s (escT s)))) := by
  have hcnt : ∀ b, s.count b ≤ s.length := fun b => List.count_le_length
  have hlen := escT_len s
  have hle := escT_le s
  have hkr : ∀ L, Reads L t.facts 9 1 t.a 4 keys4 := fun _ => .inr fun _ h => h.1
  have hbig : ∀ L, Reads L t.facts 0 257 (some ⟨t.g, 0, none⟩) 1 t.tab := fun _ => .inr fun _ h => h.2.1
  have htab : ∀ L, Reads L t.facts 0 1 (some ⟨t.g, 0, none⟩) 257 t.tab := fun _ => .inr fun _ h => h.2.2.1
  unfold repR
  refine fn_of_J Tryz.tyOK 7000 Tryz.func235 (by kernel_rfl) (c := Tryz.f235.body.getD .skip) (by kernel_rfl) Tryz.ntmps235 (rs := Tryz.f235.results.toList) rfl (by simp) (fun G => ?_)
  repeat' first
    | refine J_cut (x := .seq (.region 3 _ _) _) (α := Bool) (fun b => [(0, repR t), (1, .c (.s s)), (5, .c (.i .i64 (escT s).length)), (6, .c (.b b))]) (fun _ => []) (fun _ => t.facts) 7000 (fun b => b = false → escT s = s) ?_ (fun b hb => ?_)
    | refine J_seq ?_ | refine J_region Tryz.tyOK ?_ | refine J_block ?_ | refine J_cond ?_ | refine J_ret ?_ | refine J_skip ?_ | refine J_exit ?_ | refine J_scope ?_
    | refine CondP.yes (by omega) ?_ | refine CondP.no (by omega) ?_ | refine CondP.mk (fun h => ?_) (fun h => ?_) | refine EqP.mk rfl ?_ | refine NewP.mk (fun ad => ?_) | refine ArP.exact (by simp only [inR]; omega) ?_ | refine SideP.mk (by first | omega | (dsimp only; omega) | (simp; omega)) ?_
    | refine FldE.mk 0 257 1 _ (hbig _) (by decide) ?_ | refine LoadE.mk 0 1 _ _ (hbig _) (by decide) (by decide) (by decide) (by exact RT.tab_last t) ?_
    | fail
  · have c34 := hcnt 34
    have c62 := hcnt 62
    have c60 := hcnt 60
    have c38 := hcnt 38
    refine J_loop (α := Nat × Bool × Nat) (fun x => [(0, repR t), (1, .c (.s s)), (5, .c (.i .i64 x.2.2)), (6, .c (.b x.2.1)), (30, .c (.sl t.a 4 t.c)), (31, lenV 4), (32, .c (.i .i64 x.1))]) (fun _ => []) (fun _ => t.facts) 7000
      (fun x => x.1 ≤ 4 ∧ x.2.2 = szA s x.1 ∧ (x.2.1 = false → noA s x.1)) (fun x => 4 - x.1) (InFam.mk (0, false, s.length) ⟨Nat.zero_le _, rfl, fun _ => ⟨fun h => absurd h (Nat.not_lt_zero _), fun h => absurd h (Nat.not_lt_zero _), fun h => absurd h (Nat.not_lt_zero _), fun h => absurd h (Nat.not_lt_zero _)⟩⟩ (by repeat' first | exact SubE.nil | refine SubE.cons rfl ?_ ?_ | exact VEq.refl _ | refine VEq.int (by omega) | refine VEq.sl rfl (by omega) rfl) (Ents.refl _ _)) (fun x hx => ?_)
    obtain ⟨k, b, n⟩ := x
    obtain ⟨hk, hn, hb⟩ := hx
    dsimp only at hk hn hb
    have hk5 : k = 0 ∨ k = 1 ∨ k = 2 ∨ k = 3 ∨ k = 4 := by omega
    unfold repR
    rcases hk5 with rfl | rfl | rfl | rfl | rfl <;> simp only [szA] at hn <;> subst hn <;> dsimp only
    · repeat' first
        | refine J_seq ?_ | refine J_region Tryz.tyOK ?_ | refine J_block ?_ | refine J_cond ?_ | refine J_ret ?_ | refine J_skip ?_ | refine J_exit ?_ | refine J_scope ?_
        | refine CondP.yes (by omega) ?_ | refine CondP.no (by omega) ?_ | refine CondP.mk (fun h => ?_) (fun h => ?_) | refine EqP.mk rfl ?_ | refine NewP.mk (fun ad => ?_) | refine ArP.exact (by simp only [inR]; omega) ?_ | refine SideP.mk (by first | omega | (dsimp only; omega) | (simp; omega)) ?_
        | refine J_drawU (id := 9) Tryz.tyOK (by kernel_rfl) [0, 0, 0, 0, 8, 4, 36, 124, 252, 508, 1020, 2046, 4095, 8191] (.leaf [0, 1, 2, 3, 4, 5, 6, 7, 8, 9, 10, 11, 12, 13]) [] [48] 14 true (by kernel_rfl) ?_ | refine TwoP.mk ?_ ?_ | refine GoP.mk (by repeat (first | exact List.Sublist.slnil | refine List.Sublist.cons_cons _ ?_ | refine List.Sublist.cons _ ?_)) (by first | exact fun _ h => h | exact fun _ h => h.2 | exact fun _ h => ((allD_append _ _).1 h).2) ?_ | exact trivial | refine J_drawU (id := 28) Tryz.tyOK (by kernel_rfl) [0, 0, 0, 6, 0, 0, 16, 80, 240, 496, 1022, 2047, 4095] (.fork [0, 1, 2, 3, 4, 5, 6, 7, 8, 9] (.alt 10 (.leaf [11, 12]) (.stop))) [10] [110] 13 false (by kernel_rfl) ?_ | refine TwoP.mk ?_ ?_ | refine GoP.mk (by repeat (first | exact List.Sublist.slnil | refine List.Sublist.cons_cons _ ?_ | refine List.Sublist.cons _ ?_)) (by first | exact fun _ h => h | exact fun _ h => h.2 | exact fun _ h => ((allD_append _ _).1 h).2) ?_ | exact trivial | refine EntP.mk (Ents.ofSub (by repeat (first | exact List.Sublist.slnil | refine List.Sublist.cons_cons _ ?_ | refine List.Sublist.cons _ ?_)) (by first | exact fun _ h => h | exact fun _ _ => trivial | exact fun _ h => h.2 | exact fun _ h => h.2.2.2.2 | exact fun _ h => h.2.2 | exact fun _ h => h.2.2.2 | exact fun _ h => h.2.2.2.2.2 | exact fun _ h => h.2.2.2.2.2.2 | exact fun _ h => h.2.2.2.2.2.2.2 | exact fun _ h => h.2.2.2.2.2.2.2.2 | exact fun _ h => h.2.2.2.2.2.2.2.2.2 | exact fun _ h => h.2.2.2.2.2.2.2.2.2.2 | exact fun _ h => ((allD_append _ _).1 h).2)) ?_ | refine IdxE.mk 9 1 keys4 (hkr _) (by decide) (by decide) ?_ | refine LoadE.mk 9 4 keys4 [.s [34]] (hkr _) (by decide) (by decide) (by decide) rfl ?_ | refine CallP.is (count_ok s 34) ?_ | refine FldE.mk 0 257 1 _ (hbig _) (by decide) ?_ | refine SideP.mk (by decide) ?_ | refine LoadE.mk 0 257 _ _ (htab _) (by decide) (by decide) (by decide) (by exact t.tab34) ?_ | refine Round.mk (0 + 1, true, szA s (0 + 1)) (by dsimp only; decide) ⟨by dsimp only; decide, rfl, fun h => by cases h⟩ (by repeat' first | exact SubE.nil | refine SubE.cons rfl ?_ ?_ | exact VEq.refl _ | refine VEq.int (by simp only [szA]; omega)) (nzR h) | refine Round.mk (0 + 1, b, szA s (0 + 1)) (by dsimp only; decide) ⟨by dsimp only; decide, rfl, fun hz => ?_⟩ (by repeat' first | exact SubE.nil | refine SubE.cons rfl ?_ ?_ | exact VEq.refl _ | refine VEq.int (by simp only [szA]; omega)) (zrR h)
        | fail
      have hz2 := hb hz
      simp only [noA] at hz2 ⊢
      omega
    · repeat' first
        | refine J_seq ?_ | refine J_region Tryz.tyOK ?_ | refine J_block ?_ | refine J_cond ?_ | refine J_ret ?_ | refine J_skip ?_ | refine J_exit ?_ | refine J_scope ?_
        | refine CondP.yes (by omega) ?_ | refine CondP.no (by omega) ?_ | refine CondP.mk (fun h => ?_) (fun h => ?_) | refine EqP.mk rfl ?_ | refine NewP.mk (fun ad => ?_) | refine ArP.exact (by simp only [inR]; omega) ?_ | refine SideP.mk (by first | omega | (dsimp only; omega) | (simp; omega)) ?_
        | refine J_drawU (id := 9) Tryz.tyOK (by kernel_rfl) [0, 0, 0, 0, 8, 4, 36, 124, 252, 508, 1020, 2046, 4095, 8191] (.leaf [0, 1, 2, 3, 4, 5, 6, 7, 8, 9, 10, 11, 12, 13]) [] [48] 14 true (by kernel_rfl) ?_ | refine TwoP.mk ?_ ?_ | refine GoP.mk (by repeat (first | exact List.Sublist.slnil | refine List.Sublist.cons_cons _ ?_ | refine List.Sublist.cons _ ?_)) (by first | exact fun _ h => h | exact fun _ h => h.2 | exact fun _ h => ((allD_append _ _).1 h).2) ?_ | exact trivial | refine J_drawU (id := 28) Tryz.tyOK (by kernel_rfl) [0, 0, 0, 6, 0, 0, 16, 80, 240, 496, 1022, 2047, 4095] (.fork [0, 1, 2, 3, 4, 5, 6, 7, 8, 9] (.alt 10 (.leaf [11, 12]) (.stop))) [10] [110] 13 false (by kernel_rfl) ?_ | refine TwoP.mk ?_ ?_ | refine GoP.mk (by repeat (first | exact List.Sublist.slnil | refine List.Sublist.cons_cons _ ?_ | refine List.Sublist.cons _ ?_)) (by first | exact fun _ h => h | exact fun _ h => h.2 | exact fun _ h => ((allD_append _ _).1 h).2) ?_ | exact trivial | refine EntP.mk (Ents.ofSub (by repeat (first | exact List.Sublist.slnil | refine List.Sublist.cons_cons _ ?_ | refine List.Sublist.cons _ ?_)) (by first | exact fun _ h => h | exact fun _ _ => trivial | exact fun _ h => h.2 | exact fun _ h => h.2.2.2.2 | exact fun _ h => h.2.2 | exact fun _ h => h.2.2.2 | exact fun _ h => h.2.2.2.2.2 | exact fun _ h => h.2.2.2.2.2.2 | exact fun _ h => h.2.2.2.2.2.2.2 | exact fun _ h => h.2.2.2.2.2.2.2.2 | exact fun _ h => h.2.2.2.2.2.2.2.2.2 | exact fun _ h => h.2.2.2.2.2.2.2.2.2.2 | exact fun _ h => ((allD_append _ _).1 h).2)) ?_ | refine IdxE.mk 9 1 keys4 (hkr _) (by decide) (by decide) ?_ | refine LoadE.mk 9 4 keys4 [.s [62]] (hkr _) (by decide) (by decide) (by decide) rfl ?_ | refine CallP.is (count_ok s 62) ?_ | refine FldE.mk 0 257 1 _ (hbig _) (by decide) ?_ | refine SideP.mk (by decide) ?_ | refine LoadE.mk 0 257 _ _ (htab _) (by decide) (by decide) (by decide) (by exact t.tab62) ?_ | refine Round.mk (1 + 1, true, szA s (1 + 1)) (by dsimp only; decide) ⟨by dsimp only; decide, rfl, fun h => by cases h⟩ (by repeat' first | exact SubE.nil | refine SubE.cons rfl ?_ ?_ | exact VEq.refl _ | refine VEq.int (by simp only [szA]; omega)) (nzR h) | refine Round.mk (1 + 1, b, szA s (1 + 1)) (by dsimp only; decide) ⟨by dsimp only; decide, rfl, fun hz => ?_⟩ (by repeat' first | exact SubE.nil | refine SubE.cons rfl ?_ ?_ | exact VEq.refl _ | refine VEq.int (by simp only [szA]; omega)) (zrR h)
        | fail
      have hz2 := hb hz
      simp only [noA] at hz2 ⊢
      omega
    · repeat' first
        | refine J_seq ?_ | refine J_region Tryz.tyOK ?_ | refine J_block ?_ | refine J_cond ?_ | refine J_ret ?_ | refine J_skip ?_ | refine J_exit ?_ | refine J_scope ?_
        | refine CondP.yes (by omega) ?_ | refine CondP.no (by omega) ?_ | refine CondP.mk (fun h => ?_) (fun h => ?_) | refine EqP.mk rfl ?_ | refine NewP.mk (fun ad => ?_) | refine ArP.exact (by simp only [inR]; omega) ?_ | refine SideP.mk (by first | omega | (dsimp only; omega) | (simp; omega)) ?_
        | refine J_drawU (id := 9) Tryz.tyOK (by kernel_rfl) [0, 0, 0, 0, 8, 4, 36, 124, 252, 508, 1020, 2046, 4095, 8191] (.leaf [0, 1, 2, 3, 4, 5, 6, 7, 8, 9, 10, 11, 12, 13]) [] [48] 14 true (by kernel_rfl) ?_ | refine TwoP.mk ?_ ?_ | refine GoP.mk (by repeat (first | exact List.Sublist.slnil | refine List.Sublist.cons_cons _ ?_ | refine List.Sublist.cons _ ?_)) (by first | exact fun _ h => h | exact fun _ h => h.2 | exact fun _ h => ((allD_append _ _).1 h).2) ?_ | exact trivial | refine J_drawU (id := 28) Tryz.tyOK (by kernel_rfl) [0, 0, 0, 6, 0, 0, 16, 80, 240, 496, 1022, 2047, 4095] (.fork [0, 1, 2, 3, 4, 5, 6, 7, 8, 9] (.alt 10 (.leaf [11, 12]) (.stop))) [10] [110] 13 false (by kernel_rfl) ?_ | refine TwoP.mk ?_ ?_ | refine GoP.mk (by repeat (first | exact List.Sublist.slnil | refine List.Sublist.cons_cons _ ?_ | refine List.Sublist.cons _ ?_)) (by first | exact fun _ h => h | exact fun _ h => h.2 | exact fun _ h => ((allD_append _ _).1 h).2) ?_ | exact trivial | refine EntP.mk (Ents.ofSub (by repeat (first | exact List.Sublist.slnil | refine List.Sublist.cons_cons _ ?_ | refine List.Sublist.cons _ ?_)) (by first | exact fun _ h => h | exact fun _ _ => trivial | exact fun _ h => h.2 | exact fun _ h => h.2.2.2.2 | exact fun _ h => h.2.2 | exact fun _ h => h.2.2.2 | exact fun _ h => h.2.2.2.2.2 | exact fun _ h => h.2.2.2.2.2.2 | exact fun _ h => h.2.2.2.2.2.2.2 | exact fun _ h => h.2.2.2.2.2.2.2.2 | exact fun _ h => h.2.2.2.2.2.2.2.2.2 | exact fun _ h => h.2.2.2.2.2.2.2.2.2.2 | exact fun _ h => ((allD_append _ _).1 h).2)) ?_ | refine IdxE.mk 9 1 keys4 (hkr _) (by decide) (by decide) ?_ | refine LoadE.mk 9 4 keys4 [.s [60]] (hkr _) (by decide) (by decide) (by decide) rfl ?_ | refine CallP.is (count_ok s 60) ?_ | refine FldE.mk 0 257 1 _ (hbig _) (by decide) ?_ | refine SideP.mk (by decide) ?_ | refine LoadE.mk 0 257 _ _ (htab _) (by decide) (by decide) (by decide) (by exact t.tab60) ?_ | refine Round.mk (2 + 1, true, szA s (2 + 1)) (by dsimp only; decide) ⟨by dsimp only; decide, rfl, fun h => by cases h⟩ (by repeat' first | exact SubE.nil | refine SubE.cons rfl ?_ ?_ | exact VEq.refl _ | refine VEq.int (by simp only [szA]; omega)) (nzR h) | refine Round.mk (2 + 1, b, szA s (2 + 1)) (by dsimp only; decide) ⟨by dsimp only; decide, rfl, fun hz => ?_⟩ (by repeat' first | exact SubE.nil | refine SubE.cons rfl ?_ ?_ | exact VEq.refl _ | refine VEq.int (by simp only [szA]; omega)) (zrR h)
        | fail
      have hz2 := hb hz
      simp only [noA] at hz2 ⊢
      omega
    · repeat' first
        | refine J_seq ?_ | refine J_region Tryz.tyOK ?_ | refine J_block ?_ | refine J_cond ?_ | refine J_ret ?_ | refine J_skip ?_ | refine J_exit ?_ | refine J_scope ?_
        | refine CondP.yes (by omega) ?_ | refine CondP.no (by omega) ?_ | refine CondP.mk (fun h => ?_) (fun h => ?_) | refine EqP.mk rfl ?_ | refine NewP.mk (fun ad => ?_) | refine ArP.exact (by simp only [inR]; omega) ?_ | refine SideP.mk (by first | omega | (dsimp only; omega) | (simp; omega)) ?_
        | refine J_drawU (id := 9) Tryz.tyOK (by kernel_rfl) [0, 0, 0, 0, 8, 4, 36, 124, 252, 508, 1020, 2046, 4095, 8191] (.leaf [0, 1, 2, 3, 4, 5, 6, 7, 8, 9, 10, 11, 12, 13]) [] [48] 14 true (by kernel_rfl) ?_ | refine TwoP.mk ?_ ?_ | refine GoP.mk (by repeat (first | exact List.Sublist.slnil | refine List.Sublist.cons_cons _ ?_ | refine List.Sublist.cons _ ?_)) (by first | exact fun _ h => h | exact fun _ h => h.2 | exact fun _ h => ((allD_append _ _).1 h).2) ?_ | exact trivial | refine J_drawU (id := 28) Tryz.tyOK (by kernel_rfl) [0, 0, 0, 6, 0, 0, 16, 80, 240, 496, 1022, 2047, 4095] (.fork [0, 1, 2, 3, 4, 5, 6, 7, 8, 9] (.alt 10 (.leaf [11, 12]) (.stop))) [10] [110] 13 false (by kernel_rfl) ?_ | refine TwoP.mk ?_ ?_ | refine GoP.mk (by repeat (first | exact List.Sublist.slnil | refine List.Sublist.cons_cons _ ?_ | refine List.Sublist.cons _ ?_)) (by first | exact fun _ h => h | exact fun _ h => h.2 | exact fun _ h => ((allD_append _ _).1 h).2) ?_ | exact trivial | refine EntP.mk (Ents.ofSub (by repeat (first | exact List.Sublist.slnil | refine List.Sublist.cons_cons _ ?_ | refine List.Sublist.cons _ ?_)) (by first | exact fun _ h => h | exact fun _ _ => trivial | exact fun _ h => h.2 | exact fun _ h => h.2.2.2.2 | exact fun _ h => h.2.2 | exact fun _ h => h.2.2.2 | exact fun _ h => h.2.2.2.2.2 | exact fun _ h => h.2.2.2.2.2.2 | exact fun _ h => h.2.2.2.2.2.2.2 | exact fun _ h => h.2.2.2.2.2.2.2.2 | exact fun _ h => h.2.2.2.2.2.2.2.2.2 | exact fun _ h => h.2.2.2.2.2.2.2.2.2.2 | exact fun _ h => ((allD_append _ _).1 h).2)) ?_ | refine IdxE.mk 9 1 keys4 (hkr _) (by decide) (by decide) ?_ | refine LoadE.mk 9 4 keys4 [.s [38]] (hkr _) (by decide) (by decide) (by decide) rfl ?_ | refine CallP.is (count_ok s 38) ?_ | refine FldE.mk 0 257 1 _ (hbig _) (by decide) ?_ | refine SideP.mk (by decide) ?_ | refine LoadE.mk 0 257 _ _ (htab _) (by decide) (by decide) (by decide) (by exact t.tab38) ?_ | refine Round.mk (3 + 1, true, szA s (3 + 1)) (by dsimp only; decide) ⟨by dsimp only; decide, rfl, fun h => by cases h⟩ (by repeat' first | exact SubE.nil | refine SubE.cons rfl ?_ ?_ | exact VEq.refl _ | refine VEq.int (by simp only [szA]; omega)) (nzR h) | refine Round.mk (3 + 1, b, szA s (3 + 1)) (by dsimp only; decide) ⟨by dsimp only; decide, rfl, fun hz => ?_⟩ (by repeat' first | exact SubE.nil | refine SubE.cons rfl ?_ ?_ | exact VEq.refl _ | refine VEq.int (by simp only [szA]; omega)) (zrR h)
        | fail
      have hz2 := hb hz
      simp only [noA] at hz2 ⊢
      omega
    · repeat' first
        | refine J_seq ?_ | refine J_region Tryz.tyOK ?_ | refine J_block ?_ | refine J_cond ?_ | refine J_ret ?_ | refine J_skip ?_ | refine J_exit ?_ | refine J_scope ?_
        | refine CondP.yes (by omega) ?_ | refine CondP.no (by omega) ?_ | refine CondP.mk (fun h => ?_) (fun h => ?_) | refine EqP.mk rfl ?_ | refine NewP.mk (fun ad => ?_) | refine ArP.exact (by simp only [inR]; omega) ?_ | refine SideP.mk (by first | omega | (dsimp only; omega) | (simp; omega)) ?_
        | refine InFam.mk b (fun h => ?_) (by repeat' first | exact SubE.nil | refine SubE.cons rfl ?_ ?_ | exact VEq.refl _ | refine VEq.int (by omega) | refine VEq.sl rfl (by omega) rfl) (Ents.refl _ _)
        | fail
      have hz := hb h
      exact escT_id (hz.1 (by decide)) (hz.2.1 (by decide)) (hz.2.2.1 (by decide)) (hz.2.2.2 (by decide))
  · refine J_loop (α := Nat × Bool × Nat) (fun x => [(0, repR t), (1, .c (.s s)), (5, .c (.i .i64 x.2.2)), (6, .c (.b x.2.1)), (10, .c (.i .i64 x.1))]) (fun _ => []) (fun _ => t.facts) 7000
      (fun x => x.1 ≤ s.length ∧ x.2.2 + x.1 = s.length + (escT (s.take x.1)).length ∧ (x.2.1 = false → (s.take x.1).any spB = false)) (fun x => s.length - x.1) (InFam.mk (0, false, s.length) ⟨Nat.zero_le _, rfl, fun _ => rfl⟩ (by repeat' first | exact SubE.nil | refine SubE.cons rfl ?_ ?_ | exact VEq.refl _ | refine VEq.int (by omega) | refine VEq.sl rfl (by omega) rfl) (Ents.refl _ _)) (fun x hx => ?_)
    obtain ⟨i, b, n⟩ := x
    obtain ⟨hi, hn, hb⟩ := hx
    unfold repR
    dsimp only at hi hn hb ⊢
    have htl := escT_take_le s i
    by_cases hlt : i < s.length
    · have hgd : (s.getD (Int.toNat (i : Int)) 0) = s[i] := by simp [hlt]
      obtain ⟨ta, tn, tc, hr, hcase⟩ := t.tab_byte s[i]
      have hts := escT_take_succ hlt
      have htl2 := escT_take_le s (i + 1)
      have hany : (s.take (i + 1)).any spB = ((s.take i).any spB || spB s[i]) := by rw [List.take_succ_eq_append_getElem hlt, List.any_append]; simp
      rw [hts, List.length_append] at htl2
      have hbl := escB_len s[i]
      have hb256 : (s[i]).toNat < 256 := s[i].toNat_lt
      rcases hcase with ⟨rfl, hsp⟩ | ⟨hta, hsp, htn, _⟩
      · rw [escB_plain hsp] at hts
        have hl1 := congrArg List.length hts
        simp only [List.length_append, List.length_cons, List.length_nil] at hl1
        repeat' first
          | refine CondP.yes rfl ?_
          | refine J_seq ?_ | refine J_region Tryz.tyOK ?_ | refine J_block ?_ | refine J_cond ?_ | refine J_ret ?_ | refine J_skip ?_ | refine J_exit ?_ | refine J_scope ?_
          | refine CondP.yes (by omega) ?_ | refine CondP.no (by omega) ?_ | refine CondP.mk (fun h => ?_) (fun h => ?_) | refine EqP.mk rfl ?_ | refine NewP.mk (fun ad => ?_) | refine ArP.exact (by simp only [inR]; omega) ?_ | refine SideP.mk (by first | omega | (dsimp only; omega) | (simp; omega)) ?_
          | refine FldE.mk 0 257 1 _ (hbig _) (by decide) ?_ | rw [hgd] | refine SideP.mk ⟨by omega, by omega⟩ ?_ | refine LoadE.mk 0 257 _ _ (htab _) (by omega) (by omega) (by decide) (by exact hr) ?_ | refine Round.mk (i + 1, b, n) (by dsimp only; omega) ⟨by dsimp only; omega, by dsimp only; omega, fun hz => ?_⟩ (by repeat' first | exact SubE.nil | refine SubE.cons rfl ?_ ?_ | exact VEq.refl _ | refine VEq.int (by dsimp only; omega)) (Ents.refl _ _)
          | fail
        show (s.take (i + 1)).any spB = false
        rw [hany, hb hz, hsp]; rfl
      · have hl1 := congrArg List.length hts
        simp only [List.length_append] at hl1
        subst htn
        repeat' first
          | refine CondP.no hta ?_
          | refine J_seq ?_ | refine J_region Tryz.tyOK ?_ | refine J_block ?_ | refine J_cond ?_ | refine J_ret ?_ | refine J_skip ?_ | refine J_exit ?_ | refine J_scope ?_
          | refine CondP.yes (by omega) ?_ | refine CondP.no (by omega) ?_ | refine CondP.mk (fun h => ?_) (fun h => ?_) | refine EqP.mk rfl ?_ | refine NewP.mk (fun ad => ?_) | refine ArP.exact (by simp only [inR]; omega) ?_ | refine SideP.mk (by first | omega | (dsimp only; omega) | (simp; omega)) ?_
          | refine FldE.mk 0 257 1 _ (hbig _) (by decide) ?_ | rw [hgd] | refine SideP.mk ⟨by omega, by omega⟩ ?_ | refine LoadE.mk 0 257 _ _ (htab _) (by omega) (by omega) (by decide) (by exact hr) ?_ | refine Round.mk (i + 1, true, n + ((escB s[i]).length - 1)) (by dsimp only; omega) ⟨by dsimp only; omega, by dsimp only; omega, fun hz => by cases hz⟩ (by repeat' first | exact SubE.nil | refine SubE.cons rfl ?_ ?_ | exact VEq.refl _ | refine VEq.int (by dsimp only; omega)) (Ents.refl _ _)
          | fail
    · have : i = s.length := by omega
      subst this
      rw [List.take_length] at hb hn
      repeat' first
        | refine J_seq ?_ | refine J_region Tryz.tyOK ?_ | refine J_block ?_ | refine J_cond ?_ | refine J_ret ?_ | refine J_skip ?_ | refine J_exit ?_ | refine J_scope ?_
        | refine CondP.yes (by omega) ?_ | refine CondP.no (by omega) ?_ | refine CondP.mk (fun h => ?_) (fun h => ?_) | refine EqP.mk rfl ?_ | refine NewP.mk (fun ad => ?_) | refine ArP.exact (by simp only [inR]; omega) ?_ | refine SideP.mk (by first | omega | (dsimp only; omega) | (simp; omega)) ?_
        | refine InFam.mk b (fun h => escT_plain (hb h)) (by repeat' first | exact SubE.nil | refine SubE.cons rfl ?_ ?_ | exact VEq.refl _ | refine VEq.int (by omega)) (Ents.refl _ _)
        | fail
  · cases b
    · repeat' first
        | refine J_seq ?_ | refine J_region Tryz.tyOK ?_ | refine J_block ?_ | refine J_cond ?_ | refine J_ret ?_ | refine J_skip ?_ | refine J_exit ?_ | refine J_scope ?_
        | refine CondP.yes (by omega) ?_ | refine CondP.no (by omega) ?_ | refine CondP.mk (fun h => ?_) (fun h => ?_) | refine EqP.mk rfl ?_ | refine NewP.mk (fun ad => ?_) | refine ArP.exact (by simp only [inR]; omega) ?_ | refine SideP.mk (by first | omega | (dsimp only; omega) | (simp; omega)) ?_
        | refine FinE.str ?_
        | fail
      first | exact hb rfl | exact (hb rfl).symm
    · repeat' first
        | refine J_seq ?_ | refine J_region Tryz.tyOK ?_ | refine J_block ?_ | refine J_cond ?_ | refine J_ret ?_ | refine J_skip ?_ | refine J_exit ?_ | refine J_scope ?_
        | refine CondP.yes (by omega) ?_ | refine CondP.no (by omega) ?_ | refine CondP.mk (fun h => ?_) (fun h => ?_) | refine EqP.mk rfl ?_ | refine NewP.mk (fun ad => ?_) | refine ArP.exact (by simp only [inR]; omega) ?_ | refine SideP.mk (by first | omega | (dsimp only; omega) | (simp; omega)) ?_
        | fail
      refine J_loop (α := Nat) (fun i => [(0, repR t), (1, .c (.s s)), (12, .c (.sl (some ⟨ad, 0, none⟩) (escT s).length (escT s).length)), (13, .c (.i .i64 (escT (s.take i)).length)), (14, .c (.i .i64 i))])
        (fun i => [.row 5 1 (some ⟨ad, 0, none⟩) (escT s).length (escT s).length ((escT (s.take i)).map byteC ++ repC ((escT s).length - (escT (s.take i)).length) [.i .u8 0])]) (fun _ => t.facts) 7000
        (fun i => i ≤ s.length) (fun i => s.length - i) (InFam.mk 0 (Nat.zero_le _) (by repeat' first | exact SubE.nil | refine SubE.cons rfl ?_ ?_ | exact VEq.refl _ | refine VEq.sl rfl (by simp) (by simp)) (Ents.of (by simp [escT]))) (fun i hi => ?_)
      unfold repR
      by_cases hlt : i < s.length
      · have hgd : (s.getD (Int.toNat (i : Int)) 0) = s[i] := by simp [hlt]
        obtain ⟨ta, tn, tc, hr, hcase⟩ := t.tab_byte s[i]
        have hts := escT_take_succ hlt
        have htl2 := escT_take_le s (i + 1)
        rw [hts, List.length_append] at htl2
        have hbl := escB_len s[i]
        have hb256 : (s[i]).toNat < 256 := s[i].toNat_lt
        rcases hcase with ⟨rfl, hsp⟩ | ⟨hta, hsp, htn, hfa⟩
        · rw [escB_plain hsp] at hts htl2
          have hl1 := congrArg List.length hts
          simp only [List.length_append, List.length_cons, List.length_nil] at hl1 htl2
          repeat' first
            | refine CondP.yes rfl ?_
            | refine J_seq ?_ | refine J_region Tryz.tyOK ?_ | refine J_block ?_ | refine J_cond ?_ | refine J_ret ?_ | refine J_skip ?_ | refine J_exit ?_ | refine J_scope ?_
            | refine CondP.yes (by omega) ?_ | refine CondP.no (by omega) ?_ | refine CondP.mk (fun h => ?_) (fun h => ?_) | refine EqP.mk rfl ?_ | refine NewP.mk (fun ad => ?_) | refine ArP.exact (by simp only [inR]; omega) ?_ | refine SideP.mk (by first | omega | (dsimp only; omega) | (simp; omega)) ?_
            | refine FldE.mk 0 257 1 _ (hbig _) (by decide) ?_ | rw [hgd] | refine SideP.mk ⟨by omega, by omega⟩ ?_ | refine LoadE.mk 0 257 _ _ (htab _) (by omega) (by omega) (by decide) (by exact hr) ?_ | refine IdxE.mk 5 1 _ (.inl ⟨_, List.Mem.head _⟩) (by omega) (by omega) ?_ | refine StoreE.mk [] [] 5 _ _ _ _ rfl (by omega) (by omega) (Nat.le_refl 1) (by exact escRow s i _ [s[i]] hts (by simp only [List.length_cons, List.length_nil]; omega) _ (by simp)) ?_ | refine Round.mk (i + 1) (by omega) (by omega) (by repeat' first | exact SubE.nil | refine SubE.cons rfl ?_ ?_ | exact VEq.refl _ | refine VEq.int (by omega)) (Ents.refl _ _)
            | fail
        · subst htn
          have hl1 := congrArg List.length hts
          simp only [List.length_append] at hl1
          repeat' first
            | refine CondP.no hta ?_
            | refine J_seq ?_ | refine J_region Tryz.tyOK ?_ | refine J_block ?_ | refine J_cond ?_ | refine J_ret ?_ | refine J_skip ?_ | refine J_exit ?_ | refine J_scope ?_
            | refine CondP.yes (by omega) ?_ | refine CondP.no (by omega) ?_ | refine CondP.mk (fun h => ?_) (fun h => ?_) | refine EqP.mk rfl ?_ | refine NewP.mk (fun ad => ?_) | refine ArP.exact (by simp only [inR]; omega) ?_ | refine SideP.mk (by first | omega | (dsimp only; omega) | (simp; omega)) ?_
            | refine J_drawU (id := 9) Tryz.tyOK (by kernel_rfl) [0, 0, 0, 0, 8, 4, 36, 124, 252, 508, 1020, 2046, 4095, 8191] (.leaf [0, 1, 2, 3, 4, 5, 6, 7, 8, 9, 10, 11, 12, 13]) [] [48] 14 true (by kernel_rfl) ?_ | refine TwoP.mk ?_ ?_ | refine GoP.mk (by repeat (first | exact List.Sublist.slnil | refine List.Sublist.cons_cons _ ?_ | refine List.Sublist.cons _ ?_)) (by first | exact fun _ h => h | exact fun _ h => h.2 | exact fun _ h => ((allD_append _ _).1 h).2) ?_ | exact trivial | refine J_drawU (id := 28) Tryz.tyOK (by kernel_rfl) [0, 0, 0, 6, 0, 0, 16, 80, 240, 496, 1022, 2047, 4095] (.fork [0, 1, 2, 3, 4, 5, 6, 7, 8, 9] (.alt 10 (.leaf [11, 12]) (.stop))) [10] [110] 13 false (by kernel_rfl) ?_ | refine TwoP.mk ?_ ?_ | refine GoP.mk (by repeat (first | exact List.Sublist.slnil | refine List.Sublist.cons_cons _ ?_ | refine List.Sublist.cons _ ?_)) (by first | exact fun _ h => h | exact fun _ h => h.2 | exact fun _ h => ((allD_append _ _).1 h).2) ?_ | exact trivial | refine EntP.mk (Ents.ofSub (by repeat (first | exact List.Sublist.slnil | refine List.Sublist.cons_cons _ ?_ | refine List.Sublist.cons _ ?_)) (by first | exact fun _ h => h | exact fun _ _ => trivial | exact fun _ h => h.2 | exact fun _ h => h.2.2.2.2 | exact fun _ h => h.2.2 | exact fun _ h => h.2.2.2 | exact fun _ h => h.2.2.2.2.2 | exact fun _ h => h.2.2.2.2.2.2 | exact fun _ h => h.2.2.2.2.2.2.2 | exact fun _ h => h.2.2.2.2.2.2.2.2 | exact fun _ h => h.2.2.2.2.2.2.2.2.2 | exact fun _ h => h.2.2.2.2.2.2.2.2.2.2 | exact fun _ h => ((allD_append _ _).1 h).2)) ?_ | refine FldE.mk 0 257 1 _ (hbig _) (by decide) ?_ | rw [hgd] | refine SideP.mk ⟨by omega, by omega⟩ ?_ | refine LoadE.mk 0 257 _ _ (htab _) (by omega) (by omega) (by decide) (by exact hr) ?_ | refine CopyE.mk [] [] 5 _ _ (escT (s.take i)).length (escB s[i]).length (some ⟨ad, 0, none⟩) _ ((escB s[i]).map byteC) _ _ _ _ rfl rfl (by show _ = min _ _; omega) (by omega) (by first | rfl | simp) (.inr hfa) (by simp) (by omega) (.inl (by omega)) (by exact escRow s i _ _ hts (by omega) _ (by simp)) ?_ | refine Round.mk (i + 1) (by omega) (by omega) (by repeat' first | exact SubE.nil | refine SubE.cons rfl ?_ ?_ | exact VEq.refl _ | refine VEq.int (by omega)) (Ents.of (by rw [Nat.max_eq_left (by omega)]; rfl))
            | fail
          all_goals trace_state
      · have : i = s.length := by omega
        subst this
        rw [List.take_length, Nat.sub_self, show repC 0 [C.i .u8 0] = [] from rfl, List.append_nil]
        repeat' first
          | refine J_seq ?_ | refine J_region Tryz.tyOK ?_ | refine J_block ?_ | refine J_cond ?_ | refine J_ret ?_ | refine J_skip ?_ | refine J_exit ?_ | refine J_scope ?_
          | refine CondP.yes (by omega) ?_ | refine CondP.no (by omega) ?_ | refine CondP.mk (fun h => ?_) (fun h => ?_) | refine EqP.mk rfl ?_ | refine NewP.mk (fun ad => ?_) | refine ArP.exact (by simp only [inR]; omega) ?_ | refine SideP.mk (by first | omega | (dsimp only; omega) | (simp; omega)) ?_
          | refine BytesE.mk 5 (escT s) (.inl ⟨_, List.Mem.head _⟩) ?_ | refine FinE.str rfl
          | fail
end Go.Proofs
namespace Go.X
open Go
theorem MethOK.of {P : Program} {t e : TypeId} {name : String} {f : FuncId} (h : ((P.info? t).bind fun i => (i.methods.find? (·.name == name)).map fun m => (m.path.toList.length, m.func)) = some (0, some (f, true))) (hu : P.underlying t = some (.pointer e)) : MethOK P t name f := by
  cases hi : P.info? t with
  | none => rw [hi] at h; cases h
  | some i =>
    rw [hi] at h
    cases hm : i.methods.find? (·.name == name) with
    | none => simp [hm] at h
    | some m =>
      simp only [Option.bind_some, hm, Option.map_some, Option.some.injEq, Prod.mk.injEq] at h
      exact MethOK.ptr hi hm (List.eq_nil_of_length_eq_zero h.1) h.2 hu
end Go.X
namespace Go.Proofs
open Go Go.X
set_option maxRecDepth 100000
theorem repMeth : MethOK Tryz.prog 200 "Replace" 235 :=
  MethOK.of (e := 199) (by kernel_rfl) (by kernel_rfl)
theorem RT.val_enc (t : RT) : (V.c t.val).enc = .iface 200 (repR t).enc := by
  simp [RT.val, repR, V.enc, C.enc, elemAddr]
theorem allD_app {m : Im} : ∀ {A B : List Fact}, allD m (A ++ B) → allD m A
  | [], _, _ => trivial
  | _ :: _, _, h => ⟨h.1, allD_app h.2⟩
theorem replacer_ok (ab : Nat) (a0 : Option Addr) (c0 : Nat) (s : List UInt8) (hs : s.length ≤ 1000000000) : FnS Tryz.prog 38 [.c (.p 0 ab 0), .c (.s s)] [rb ab 0 0 (.raw .nilIface) (.sl a0 8 c0)] [slFact 9 1 a0 8 strs8] (Is (.c (.s (escT s)))) := by
  have c1 := onceDone_ok ab a0 c0
  unfold rb
  refine fn_of_J Tryz.tyOK 7000 Tryz.func38 (by kernel_rfl) (c := Tryz.f38.body.getD .skip) (by kernel_rfl) Tryz.ntmps38 (rs := Tryz.f38.results.toList) rfl (by simp) (fun G => ?_)
  repeat' first
    | refine J_seq ?_ | refine J_region Tryz.tyOK ?_ | refine J_block ?_ | refine J_cond ?_ | refine J_ret ?_ | refine J_skip ?_ | refine J_exit ?_ | refine J_scope ?_
    | refine CondP.yes (by omega) ?_ | refine CondP.no (by omega) ?_ | refine CondP.mk (fun h => ?_) (fun h => ?_) | refine EqP.mk rfl ?_ | refine NewP.mk (fun ad => ?_) | refine ArP.exact (by simp only [inR]; omega) ?_ | refine SideP.mk (by first | omega | (dsimp only; omega) | (simp; omega)) ?_
    | refine CallP.mk [_] [] [_] _ c1 (List.Perm.refl _) (fun _ h => h) (fun v L' D' hp => ?_); obtain ⟨r, z, R, rfl, rfl, rfl, rfl, t, rfl, D1, rfl⟩ := hp | refine InvP.mk 200 (repR t) 235 t.val_enc repMeth ?_ | refine CallP.is (repReplace_ok t s hs) ?_ (fun _ h => allD_app (allD_app h)) | refine FinE.str rfl
    | fail
theorem escape_ok (s : List UInt8) (hs : s.length ≤ 1000000000) : FnS Tryz.prog 14 [.c (.s s)] [] [] (Is (.c (.s (escT s)))) := by
  refine fn_of_J Tryz.tyOK 7000 Tryz.func14 (by kernel_rfl) (c := Tryz.f14.body.getD .skip) (by kernel_rfl) Tryz.ntmps14 (rs := Tryz.f14.results.toList) rfl (by simp) (fun G => ?_)
  repeat' first
    | refine J_seq ?_ | refine J_region Tryz.tyOK ?_ | refine J_block ?_ | refine J_cond ?_ | refine J_ret ?_ | refine J_skip ?_ | refine J_exit ?_ | refine J_scope ?_
    | refine CondP.yes (by omega) ?_ | refine CondP.no (by omega) ?_ | refine CondP.mk (fun h => ?_) (fun h => ?_) | refine EqP.mk rfl ?_ | refine NewP.mk (fun ad => ?_) | refine ArP.exact (by simp only [inR]; omega) ?_ | refine SideP.mk (by first | omega | (dsimp only; omega) | (simp; omega)) ?_
    | (refine CallP.mkE [] _ [_] _ _ (newReplacer_ok _ _) Ents.toFact (fun _ h => ⟨h.1, trivial⟩) (fun v L' D' hp => ?_); obtain ⟨ab, a', c', rfl, rfl, rfl⟩ := hp) | (refine CallP.mkE [_] [] [_] _ _ (replacer_ok _ _ _ s hs) ((Ents.perm (List.Perm.swap _ _ _)).trans Ents.toFact) (fun _ h => ⟨h.1, trivial⟩) (fun v L' D' hp => ?_); obtain ⟨rfl, rfl, rfl⟩ := hp) | refine FinE.str rfl
    | fail
end Go.Proofs
namespace Go.Proofs
open Go Go.X
set_option maxRecDepth 100000
end Go.Proofs
namespace Go.Proofs
open Go Go.X Go.Lib
set_option maxRecDepth 100000
structure RenW where
  P : Int × List UInt8 → Bool
  ns : List Int
  an : List (List UInt8)
def lnkPath (sp : Int) (n a : List UInt8) : List UInt8 :=
  if sp = 0 ∧ n = [] then 35 :: ancT19 a else if a = [] then pathT sp n else pathT sp n ++ 35 :: ancT19 a
def lnkOpen (p : Bool) (path : List UInt8) : List UInt8 := [60, 97] ++ (if p then [32, 99, 108, 97, 115, 115, 61, 34, 109, 105, 115, 115, 105, 110, 103, 34] else []) ++ [32, 104, 114, 101, 102, 61, 34] ++ path ++ [34, 62]
def supT (k j : Int) : List UInt8 := [60, 115, 117, 112, 32, 105, 100, 61, 34, 109, 97, 114, 107, 45] ++ itoa k ++ [34, 62, 60, 97, 32, 104, 114, 101, 102, 61, 34, 35, 110, 111, 116, 101, 45] ++ itoa j ++ [34, 62, 91] ++ itoa j ++ [93, 60, 47, 97, 62, 60, 47, 115, 117, 112, 62]
mutual
def Inl.ren (W : RenW) (b : Bool) (m : Nat) : Inl → List UInt8
  | .mk k t s n a _ _ kids =>
    if k = 1 then escT t else if k = 2 then [60, 98, 62] ++ inlRen W b m kids ++ [60, 47, 98, 62] else if k = 3 then [60, 105, 62] ++ inlRen W b m kids ++ [60, 47, 105, 62]
    else if k = 4 then lnkOpen (W.P (s, n)) (lnkPath s n a) ++ inlRen W b m kids ++ [60, 47, 97, 62]
    else if k = 5 then (if b then supT (m + 1) (W.ns.getD m 0) else []) else if k = 6 then [60, 98, 114, 62] else []
def inlRen (W : RenW) (b : Bool) (m : Nat) : List Inl → List UInt8
  | [] => []
  | x :: r => x.ren W b m ++ inlRen W b (m + x.marks.length) r
end
def hLvl (v : Int) : Int := max 1 (min v 6)
def hId (W : RenW) (top : Bool) (h : Nat) : List UInt8 := if top then [32, 105, 100, 61, 34] ++ escT (W.an.getD h []) ++ [34] else []
mutual
def Blk.ren (W : RenW) (top : Bool) (m h : Nat) : Blk → List UInt8
  | .mk k v t _ _ inl _ _ kids =>
    if k = 1 then [60, 104] ++ itoa (hLvl v) ++ hId W top h ++ [62] ++ inlRen W true m inl ++ [60, 47, 104] ++ itoa (hLvl v) ++ [62, 10]
    else if k = 2 then [60, 112, 62] ++ inlRen W true m inl ++ [60, 47, 112, 62, 10]
    else if k = 5 then [60, 104, 114, 62, 10]
    else if k = 6 then [60, 112, 114, 101, 62] ++ escT t ++ [60, 47, 112, 114, 101, 62, 10]
    else if k = 3 then (if v = 1 then [60, 111, 108, 62, 10] else [60, 117, 108, 62, 10]) ++ blksRen W false (m + (inlMarks inl).length) h kids ++ (if v = 1 then [60, 47, 111, 108, 62, 10] else [60, 47, 117, 108, 62, 10])
    else if k = 4 then [60, 108, 105, 62] ++ inlRen W true m inl ++ (if kids = [] then [] else 10 :: blksRen W false (m + (inlMarks inl).length) h kids) ++ [60, 47, 108, 105, 62, 10]
    else if k = 7 then [60, 116, 97, 98, 108, 101, 62, 10] ++ blksRen W false (m + (inlMarks inl).length) h kids ++ [60, 47, 116, 97, 98, 108, 101, 62, 10]
    else if k = 8 then [60, 116, 114, 62] ++ blksRen W false (m + (inlMarks inl).length) h kids ++ [60, 47, 116, 114, 62, 10]
    else if k = 9 then (if v = 1 then [60, 116, 104, 62] else [60, 116, 100, 62]) ++ inlRen W true m inl ++ (if v = 1 then [60, 47, 116, 104, 62] else [60, 47, 116, 100, 62])
    else []
def blksRen (W : RenW) (top : Bool) (m h : Nat) : List Blk → List UInt8
  | [] => []
  | x :: r => x.ren W top m h ++ blksRen W top (m + x.marks.length) (if top = true ∧ x.kind = 1 then h + 1 else h) r
end
theorem Inl.ren_eq (W : RenW) (b : Bool) (m : Nat) (x : Inl) : x.ren W b m =
    (if x.kind = 1 then escT x.text else if x.kind = 2 then [60, 98, 62] ++ inlRen W b m x.kids ++ [60, 47, 98, 62] else if x.kind = 3 then [60, 105, 62] ++ inlRen W b m x.kids ++ [60, 47, 105, 62]
    else if x.kind = 4 then lnkOpen (W.P (x.sp, x.name)) (lnkPath x.sp x.name x.anchor) ++ inlRen W b m x.kids ++ [60, 47, 97, 62]
    else if x.kind = 5 then (if b then supT (m + 1) (W.ns.getD m 0) else []) else if x.kind = 6 then [60, 98, 114, 62] else []) := by
  cases x; rw [Inl.ren]; rfl
theorem inlRen_append (W : RenW) (b : Bool) : ∀ (m : Nat) (l k : List Inl), inlRen W b m (l ++ k) = inlRen W b m l ++ inlRen W b (m + (inlMarks l).length) k
  | m, [], k => by simp [inlRen, inlMarks]
  | m, x :: r, k => by simp only [List.cons_append, inlRen, inlRen_append W b _ r k, List.append_assoc, inlMarks, List.length_append, Nat.add_assoc]
theorem inlRen_succ (W : RenW) (b : Bool) (m : Nat) {l : List Inl} {i : Nat} (h : i < l.length) : inlRen W b m (l.take (i + 1)) = inlRen W b m (l.take i) ++ l[i].ren W b (m + (inlMarks (l.take i)).length) := by
  rw [List.take_succ_eq_append_getElem h, inlRen_append]
  simp only [inlRen, List.append_nil]
theorem blksRen_append (W : RenW) : ∀ (m h : Nat) (l k : List Blk), blksRen W false m h (l ++ k) = blksRen W false m h l ++ blksRen W false (m + (blkMarks l).length) h k
  | m, h, [], k => by simp [blksRen, blkMarks]
  | m, h, x :: r, k => by simp [blksRen, blksRen_append W _ _ r k, blkMarks, Nat.add_assoc]
def hdsN : List Blk → Nat
  | [] => 0
  | x :: r => (if x.kind = 1 then 1 else 0) + hdsN r
theorem blksRen_append_top (W : RenW) : ∀ (m h : Nat) (l k : List Blk), blksRen W true m h (l ++ k) = blksRen W true m h l ++ blksRen W true (m + (blkMarks l).length) (h + hdsN l) k
  | m, h, [], k => by simp [blksRen, blkMarks, hdsN]
  | m, h, x :: r, k => by
    simp only [List.cons_append, blksRen, blksRen_append_top W _ _ r k, blkMarks, hdsN, List.length_append, List.append_assoc, Nat.add_assoc, true_and]
    by_cases hk : x.kind = 1
    · simp only [if_pos hk, Nat.add_assoc]
    · simp only [if_neg hk, Nat.zero_add]
mutual
theorem Inl.ren_off (W : RenW) : ∀ (m m' : Nat) (x : Inl), x.ren W false m = x.ren W false m'
  | m, m', .mk k t s n a ka kc kids => by rw [Inl.ren, Inl.ren, inlRen_off W m m' kids]; simp
theorem inlRen_off (W : RenW) : ∀ (m m' : Nat) (l : List Inl), inlRen W false m l = inlRen W false m' l
  | m, m', [] => by simp [inlRen]
  | m, m', x :: r => by rw [inlRen, inlRen, Inl.ren_off W m m' x, inlRen_off W _ (m' + x.marks.length) r]
end
mutual
theorem Inl.ren_era (W : RenW) : ∀ (x : Inl), x.era.ren W false 0 = x.ren W false 0
  | .mk k t s n a ka kc kids => by rw [Inl.era, Inl.ren, Inl.ren, inlRen_era W kids]
theorem inlRen_era (W : RenW) : ∀ (l : List Inl), inlRen W false 0 (inlEra l) = inlRen W false 0 l
  | [] => by simp [inlEra]
  | x :: r => by rw [inlEra, inlRen, inlRen, Inl.ren_era W x, inlRen_off W _ 0 (inlEra r), inlRen_era W r, inlRen_off W (0 + x.marks.length) 0 r]
end
theorem ren_era {W : RenW} {l k : List Inl} (h : inlEra l = inlEra k) : inlRen W false 0 l = inlRen W false 0 k := by rw [← inlRen_era W l, h, inlRen_era]
theorem lnkPath_le (sp : Int) (n a : List UInt8) : (lnkPath sp n a).length ≤ 3 * a.length + 400 := by
  have h1 := ancT19_le a
  have h2 := pathS_le (formatT sp n)
  have h0 := formatT_le sp n
  have h3 : (pathT sp n).length ≤ 333 := by unfold pathT; rw [List.length_append]; have : wikiS.length = 6 := rfl; omega
  unfold lnkPath
  split
  · simp only [List.length_cons]; omega
  split
  · omega
  · simp only [List.length_append, List.length_cons]; omega
end Go.Proofs
namespace Go.Proofs
open Go Go.X Go.Lib
set_option maxRecDepth 100000
def ttW (t : Int × List UInt8) : List C := [.i .i64 t.1, .s t.2]
theorem ttKey : KeyP Tryz.tyT 23 ttW := by
  refine ⟨⟨5, by omega, fun a b => ⟨_, rfl, ?_⟩⟩, fun a c hc => ?_⟩
  · obtain ⟨a1, a2⟩ := a
    obtain ⟨b1, b2⟩ := b
    simp
  · simp only [ttW, List.mem_cons, List.not_mem_nil, or_false] at hc
    rcases hc with rfl | rfl <;> rfl
structure WrK where
  ab : Nat
  am : Nat
  na : Option Addr
  nc : Nat
  ea : Option Addr
  ec : Nat
  en : Nat
  kv : List ((Int × List UInt8) × V)
def wrR (K : WrK) (W : RenW) (m h : Nat) : List C := [.m 1 K.am, .sl K.na W.ns.length K.nc, .i .i64 m, .sl K.ea K.en K.ec, .i .i64 h]
def wrM (K : WrK) (W : RenW) (u : Bool) (a : Option Addr) (c : Nat) (o : List UInt8) (m h : Nat) : List Chunk := bx 0 K.ab 87 u a c o (wrR K W m h) ++ [.obj 1 K.am (gO (aggV ttW) K.kv)]
def WrP (K : WrK) (W : RenW) (o : List UInt8) (m h : Nat) : V → List Chunk → List Fact → Prop := fun v L D => ∃ u a c, BxI u a c o ∧ v = .t0 ∧ L = wrM K W u a c o m h ∧ D = []
def noteF (K : WrK) (W : RenW) : Fact := slFact 3 1 K.na W.ns.length (W.ns.map (C.i .i64))
structure WrOk (K : WrK) (W : RenW) : Prop where
  mis : ∀ t, gGet K.kv t = if W.P t then some (constV (Value.bool true)) else none
  ns : ∀ j ∈ W.ns, 0 ≤ j ∧ j ≤ 100000000
  nl : W.ns.length ≤ 100000000
set_option maxHeartbeats 4000000 in
theorem link_ok (K : WrK) (W : RenW) (hK : WrOk K W) (b : Bool) (x : Inl) (m h m' : Nat) (hb : x.bulk ≤ 1100000) (D : List Fact) (hD : ∀ mm, allD mm D → allD mm [inlF x.ka x.kids, noteF K W, tabF, gInt 0])
    (B : Nat) (hB : B ≤ 60000000000000)
    (hca : ∀ u a c o, BxI u a c o → o.length ≤ B → FnS Tryz.prog 86 [.c (.p 0 K.ab 0), .c (.sl x.ka x.kids.length x.kc), .c (.b b)] (wrM K W u a c o m h) [inlF x.ka x.kids, noteF K W, tabF, gInt 0] (WrP K W (o ++ inlRen W b m x.kids) m' h))
    (hl : (inlRen W b m x.kids).length ≤ 60000000000000) (u : Bool) (a : Option Addr) (c : Nat) (o : List UInt8) (hi : BxI u a c o) (ho : o.length + 3 * x.anchor.length + 600 ≤ B) :
    FnS Tryz.prog 126 [.c (.p 0 K.ab 0), .agg x.cells, .c (.b b)] (wrM K W u a c o m h) D (WrP K W (o ++ lnkOpen (W.P (x.sp, x.name)) (lnkPath x.sp x.name x.anchor) ++ inlRen W b m x.kids ++ [60, 47, 97, 62]) m' h) := by
  have hxb := Inl.bulk_eq x
  have hpa := path_ok x.sp x.name (by omega)
  have han := anchor_ok x.anchor (by omega)
  have hal := ancT19_le x.anchor
  have hlp := lnkPath_le x.sp x.name x.anchor
  have hmi := hK.mis (x.sp, x.name)
  have hwp : pathT x.sp x.name ≠ [] := by unfold pathT wikiS; simp
  have hpl : (pathT x.sp x.name).length ≤ 333 := by
    have h0 := formatT_le x.sp x.name
    have h2 := pathS_le (formatT x.sp x.name)
    unfold pathT; rw [List.length_append]; have : wikiS.length = 6 := rfl; omega
  unfold wrM wrR Inl.cells
  refine fn_of_J Tryz.tyOK 7000 Tryz.func126 (by kernel_rfl) (c := Tryz.f126.body.getD .skip) (by kernel_rfl) Tryz.ntmps126 (rs := Tryz.f126.results.toList) rfl (by simp) (fun G => ?_)
  repeat' first
    | refine J_stop (c := .seq (.seq (.region 2 _ _) _) _) ?_
    | refine J_seq ?_ | refine J_region Tryz.tyOK ?_ | refine J_block ?_ | refine J_cond ?_ | refine J_ret ?_ | refine J_skip ?_ | refine J_exit ?_ | refine J_scope ?_
    | refine CondP.yes (by omega) ?_ | refine CondP.no (by omega) ?_ | refine CondP.mk (fun h => ?_) (fun h => ?_) | refine EqP.mk rfl ?_ | refine NewP.mk (fun ad => ?_) | refine ArP.exact (by simp only [inR]; omega) ?_ | refine SideP.mk (by first | omega | (dsimp only; omega) | (simp; omega)) ?_
    | fail
  refine ⟨?_⟩
  obtain ⟨p0, hp0⟩ : ∃ p0, p0 = (if x.sp = 0 ∧ x.name = [] then [] else pathT x.sp x.name) := ⟨_, rfl⟩
  refine J_cut (α := Unit) (fun _ => [(0, .c (.p 0 K.ab 0)), (2, .c (.b b)), (4, .c (.p 7000 ad 0)), (6, .c (.s p0))])
    (fun _ => .box 7000 ad 102 [.i .i64 x.kind, .s x.text, .i .i64 x.sp, .s x.name, .s x.anchor, .sl x.ka x.kids.length x.kc] :: (bx 0 K.ab 87 u a c o [.m 1 K.am, .sl K.na W.ns.length K.nc, .i .i64 m, .sl K.ea K.en K.ec, .i .i64 h] ++ [.obj 1 K.am (gO (aggV ttW) K.kv)])) (fun _ => D) 7001 (fun _ => True) ?_ (fun _ _ => ?_)
  · repeat' first
      | refine J_seq ?_ | refine J_region Tryz.tyOK ?_ | refine J_block ?_ | refine J_cond ?_ | refine J_ret ?_ | refine J_skip ?_ | refine J_exit ?_ | refine J_scope ?_
      | refine CondP.yes (by omega) ?_ | refine CondP.no (by omega) ?_ | refine CondP.mk (fun h => ?_) (fun h => ?_) | refine EqP.mk rfl ?_ | refine NewP.mk (fun ad => ?_) | refine ArP.exact (by simp only [inR]; omega) ?_ | refine SideP.mk (by first | omega | (dsimp only; omega) | (simp; omega)) ?_
      | refine CallP.is hpa ?_ (fun _ h => ⟨(hD _ h).2.2.2.1, trivial⟩)
      | fail
    all_goals first
      | (have e : p0 = [] := by rw [hp0, if_pos ⟨h.1, h.2.1⟩]
         subst e
         exact InFam.mk () trivial (by repeat' first | exact SubE.nil | refine SubE.cons rfl ?_ ?_ | exact VEq.refl _ | refine VEq.int (by omega) | refine VEq.sl rfl (by first | rfl | omega | (rw [List.length_append]; rfl) | (simp; omega)) rfl) (Ents.refl _ _))
      | (have e : p0 = pathT x.sp x.name := by rw [hp0, if_neg (fun hc => h ⟨hc.1, hc.2, trivial⟩)]
         subst e
         exact InFam.mk () trivial (by repeat' first | exact SubE.nil | refine SubE.cons rfl ?_ ?_ | exact VEq.refl _ | refine VEq.int (by omega) | refine VEq.sl rfl (by first | rfl | omega | (rw [List.length_append]; rfl) | (simp; omega)) rfl) (Ents.refl _ _))
  have hpl0 : p0.length ≤ 333 := by rw [hp0]; split; exact Nat.zero_le _; exact hpl
  have hlk : lnkPath x.sp x.name x.anchor = if p0 = [] ∨ ¬ x.anchor = [] then p0 ++ ([35] ++ ancT19 x.anchor) else p0 := by
    unfold lnkPath
    by_cases hT : x.sp = 0 ∧ x.name = []
    · rw [if_pos hT] at hp0; subst hp0; rw [if_pos hT, if_pos (.inl rfl)]; rfl
    · rw [if_neg hT] at hp0; subst hp0; rw [if_neg hT]
      by_cases hA : x.anchor = []
      · rw [if_pos hA, if_neg (by simp [hA, hwp])]
      · rw [if_neg hA, if_pos (.inr hA)]; rfl
  clear hp0 hpa hwp hpl
  generalize lnkPath x.sp x.name x.anchor = p1 at *
  repeat' first
    | refine J_stop (c := .seq (.seq (.region 4 _ _) _) _) ?_
    | refine J_seq ?_ | refine J_region Tryz.tyOK ?_ | refine J_block ?_ | refine J_cond ?_ | refine J_ret ?_ | refine J_skip ?_ | refine J_exit ?_ | refine J_scope ?_
    | refine CondP.yes (by omega) ?_ | refine CondP.no (by omega) ?_ | refine CondP.mk (fun h => ?_) (fun h => ?_) | refine EqP.mk rfl ?_ | refine NewP.mk (fun ad => ?_) | refine ArP.exact (by simp only [inR]; omega) ?_ | refine SideP.mk (by first | omega | (dsimp only; omega) | (simp; omega)) ?_
    | fail
  refine ⟨?_⟩
  refine J_cut (α := Unit) (fun _ => [(0, .c (.p 0 K.ab 0)), (2, .c (.b b)), (4, .c (.p 7000 ad 0)), (6, .c (.s p1))])
    (fun _ => .box 7000 ad 102 [.i .i64 x.kind, .s x.text, .i .i64 x.sp, .s x.name, .s x.anchor, .sl x.ka x.kids.length x.kc] :: (bx 0 K.ab 87 u a c o [.m 1 K.am, .sl K.na W.ns.length K.nc, .i .i64 m, .sl K.ea K.en K.ec, .i .i64 h] ++ [.obj 1 K.am (gO (aggV ttW) K.kv)])) (fun _ => D) 7001 (fun _ => True) ?_ (fun _ _ => ?_)
  · repeat' first
      | refine J_seq ?_ | refine J_region Tryz.tyOK ?_ | refine J_block ?_ | refine J_cond ?_ | refine J_ret ?_ | refine J_skip ?_ | refine J_exit ?_ | refine J_scope ?_
      | refine CondP.yes (by omega) ?_ | refine CondP.no (by omega) ?_ | refine CondP.mk (fun h => ?_) (fun h => ?_) | refine EqP.mk rfl ?_ | refine NewP.mk (fun ad => ?_) | refine ArP.exact (by simp only [inR]; omega) ?_ | refine SideP.mk (by first | omega | (dsimp only; omega) | (simp; omega)) ?_
      | refine CallP.is han ?_ (fun _ _ => trivial)
      | fail
    all_goals first
      | (have e : p1 = p0 ++ ([35] ++ ancT19 x.anchor) := by rw [hlk]; exact if_pos (by first | exact .inl (by assumption) | exact .inr (by assumption))
         subst e
         exact InFam.mk () trivial (by repeat' first | exact SubE.nil | refine SubE.cons rfl ?_ ?_ | exact VEq.refl _ | refine VEq.int (by omega) | refine VEq.sl rfl (by first | rfl | omega | (rw [List.length_append]; rfl) | (simp; omega)) rfl) (Ents.refl _ _))
      | (have e : p1 = p0 := by rw [hlk]; exact if_neg (fun hc => hc.elim (by assumption) (fun hc => hc (by assumption)))
         subst e
         exact InFam.mk () trivial (by repeat' first | exact SubE.nil | refine SubE.cons rfl ?_ ?_ | exact VEq.refl _ | refine VEq.int (by omega) | refine VEq.sl rfl (by first | rfl | omega | (rw [List.length_append]; rfl) | (simp; omega)) rfl) (Ents.refl _ _))
  clear hlk han hpl0 p0
  obtain ⟨cl, hcl⟩ : ∃ cl, cl = (if W.P (x.sp, x.name) then [32, 99, 108, 97, 115, 115, 61, 34, 109, 105, 115, 115, 105, 110, 103, 34] else ([] : List UInt8)) := ⟨_, rfl⟩
  unfold lnkOpen
  rw [← hcl]
  have hcll : cl.length ≤ 20 := by rw [hcl]; split <;> simp
  repeat' first
    | refine J_stop (c := .seq (.seq (.region 7 _ _) _) _) ?_
    | refine J_seq ?_ | refine J_region Tryz.tyOK ?_ | refine J_block ?_ | refine J_cond ?_ | refine J_ret ?_ | refine J_skip ?_ | refine J_exit ?_ | refine J_scope ?_
    | refine CondP.yes (by omega) ?_ | refine CondP.no (by omega) ?_ | refine CondP.mk (fun h => ?_) (fun h => ?_) | refine EqP.mk rfl ?_ | refine NewP.mk (fun ad => ?_) | refine ArP.exact (by simp only [inR]; omega) ?_ | refine SideP.mk (by first | omega | (dsimp only; omega) | (simp; omega)) ?_
    | fail
  refine ⟨?_⟩
  refine J_cut (α := Unit) (fun _ => [(0, .c (.p 0 K.ab 0)), (2, .c (.b b)), (4, .c (.p 7000 ad 0)), (6, .c (.s p1)), (7, .c (.s cl))])
    (fun _ => .box 7000 ad 102 [.i .i64 x.kind, .s x.text, .i .i64 x.sp, .s x.name, .s x.anchor, .sl x.ka x.kids.length x.kc] :: (bx 0 K.ab 87 u a c o [.m 1 K.am, .sl K.na W.ns.length K.nc, .i .i64 m, .sl K.ea K.en K.ec, .i .i64 h] ++ [.obj 1 K.am (gO (aggV ttW) K.kv)])) (fun _ => D) 7001 (fun _ => True) ?_ (fun _ _ => ?_)
  · cases hPv : W.P (x.sp, x.name) with
    | false =>
      rw [hPv, if_neg (by decide)] at hmi hcl
      subst hcl
      repeat' first
        | refine J_seq ?_ | refine J_region Tryz.tyOK ?_ | refine J_block ?_ | refine J_cond ?_ | refine J_ret ?_ | refine J_skip ?_ | refine J_exit ?_ | refine J_scope ?_
        | refine CondP.yes (by omega) ?_ | refine CondP.no (by omega) ?_ | refine CondP.mk (fun h => ?_) (fun h => ?_) | refine EqP.mk rfl ?_ | refine NewP.mk (fun ad => ?_) | refine ArP.exact (by simp only [inR]; omega) ?_ | refine SideP.mk (by first | omega | (dsimp only; omega) | (simp; omega)) ?_
        | refine J_drawS (id := 7) Tryz.tyOK (by kernel_rfl) [0, 1, 3, 7, 0, 16, 63] [0, 1, 2, 3, 4, 5, 6] [6] [0, 4] true (by kernel_rfl) ?_ | refine EntP.mk (Ents.ofSub (by repeat (first | exact List.Sublist.slnil | refine List.Sublist.cons_cons _ ?_ | refine List.Sublist.cons _ ?_)) (by first | exact fun _ h => h | exact fun _ _ => trivial | exact fun _ h => h.2 | exact fun _ h => h.2.2.2.2 | exact fun _ h => h.2.2 | exact fun _ h => h.2.2.2 | exact fun _ h => h.2.2.2.2.2 | exact fun _ h => h.2.2.2.2.2.2 | exact fun _ h => h.2.2.2.2.2.2.2 | exact fun _ h => h.2.2.2.2.2.2.2.2 | exact fun _ h => h.2.2.2.2.2.2.2.2.2 | exact fun _ h => h.2.2.2.2.2.2.2.2.2.2 | exact fun _ h => ((allD_append _ _).1 h).2)) ?_ | refine LookG.mk _ inferInstance ttW K.kv (x.sp, x.name) rfl rfl rfl ttKey (fun v hv => absurd (hmi.symm.trans hv) (by simp)) (fun _ => ?_) | exact InFam.mk () trivial (by repeat' first | exact SubE.nil | refine SubE.cons rfl ?_ ?_ | exact VEq.refl _ | refine VEq.int (by omega) | refine VEq.sl rfl (by first | rfl | omega | (rw [List.length_append]; rfl) | (simp; omega)) rfl) (Ents.refl _ _)
        | fail
      all_goals trace_state
    | true =>
      rw [hPv, if_pos rfl] at hmi hcl
      subst hcl
      repeat' first
        | refine J_seq ?_ | refine J_region Tryz.tyOK ?_ | refine J_block ?_ | refine J_cond ?_ | refine J_ret ?_ | refine J_skip ?_ | refine J_exit ?_ | refine J_scope ?_
        | refine CondP.yes (by omega) ?_ | refine CondP.no (by omega) ?_ | refine CondP.mk (fun h => ?_) (fun h => ?_) | refine EqP.mk rfl ?_ | refine NewP.mk (fun ad => ?_) | refine ArP.exact (by simp only [inR]; omega) ?_ | refine SideP.mk (by first | omega | (dsimp only; omega) | (simp; omega)) ?_
        | refine J_drawS (id := 7) Tryz.tyOK (by kernel_rfl) [0, 1, 3, 7, 0, 16, 63] [0, 1, 2, 3, 4, 5, 6] [6] [0, 4] true (by kernel_rfl) ?_ | refine EntP.mk (Ents.ofSub (by repeat (first | exact List.Sublist.slnil | refine List.Sublist.cons_cons _ ?_ | refine List.Sublist.cons _ ?_)) (by first | exact fun _ h => h | exact fun _ _ => trivial | exact fun _ h => h.2 | exact fun _ h => h.2.2.2.2 | exact fun _ h => h.2.2 | exact fun _ h => h.2.2.2 | exact fun _ h => h.2.2.2.2.2 | exact fun _ h => h.2.2.2.2.2.2 | exact fun _ h => h.2.2.2.2.2.2.2 | exact fun _ h => h.2.2.2.2.2.2.2.2 | exact fun _ h => h.2.2.2.2.2.2.2.2.2 | exact fun _ h => h.2.2.2.2.2.2.2.2.2.2 | exact fun _ h => ((allD_append _ _).1 h).2)) ?_ | (refine LookG.mk _ inferInstance ttW K.kv (x.sp, x.name) rfl rfl rfl ttKey (fun v hv => ?_) (fun hv => absurd (hmi.symm.trans hv) (by simp)); cases hmi.symm.trans hv) | exact InFam.mk () trivial (by repeat' first | exact SubE.nil | refine SubE.cons rfl ?_ ?_ | exact VEq.refl _ | refine VEq.int (by omega) | refine VEq.sl rfl (by first | rfl | omega | (rw [List.length_append]; rfl) | (simp; omega)) rfl) (Ents.refl _ _)
        | fail
      all_goals trace_state
  clear hcl hmi
  have s1 := bxString_ok 0 K.ab 87 u a c o ([60, 97] ++ cl ++ [32, 104, 114, 101, 102, 61, 34] ++ p1 ++ [34, 62]) [.m 1 K.am, .sl K.na W.ns.length K.nc, .i .i64 m, .sl K.ea K.en K.ec, .i .i64 h] btyW hi (by simp; omega)
  repeat' first
    | refine J_stop (c := .seq (.region 10 _ _) _) ?_
    | refine J_seq ?_ | refine J_region Tryz.tyOK ?_ | refine J_block ?_ | refine J_cond ?_ | refine J_ret ?_ | refine J_skip ?_ | refine J_exit ?_ | refine J_scope ?_
    | refine CondP.yes (by omega) ?_ | refine CondP.no (by omega) ?_ | refine CondP.mk (fun h => ?_) (fun h => ?_) | refine EqP.mk rfl ?_ | refine NewP.mk (fun ad => ?_) | refine ArP.exact (by simp only [inR]; omega) ?_ | refine SideP.mk (by first | omega | (dsimp only; omega) | (simp; omega)) ?_
    | (refine CallP.mk _ [_, _] [] _ s1 ((List.perm_append_comm (l₁ := [_]) (l₂ := [_, _])).append_right [_]) (fun _ _ => trivial) (fun v L' D' hp => ?_); obtain ⟨u1, a1, c1, hi1, rfl, rfl, rfl⟩ := hp)
    | fail
  refine ⟨?_⟩
  have s2 := hca u1 a1 c1 (o ++ ([60, 97] ++ cl ++ [32, 104, 114, 101, 102, 61, 34] ++ p1 ++ [34, 62])) hi1 (by simp; omega)
  repeat' first
    | refine J_stop (c := .region 11 _ _) ?_
    | refine J_seq ?_ | refine J_region Tryz.tyOK ?_ | refine J_block ?_ | refine J_cond ?_ | refine J_ret ?_ | refine J_skip ?_ | refine J_exit ?_ | refine J_scope ?_
    | refine CondP.yes (by omega) ?_ | refine CondP.no (by omega) ?_ | refine CondP.mk (fun h => ?_) (fun h => ?_) | refine EqP.mk rfl ?_ | refine NewP.mk (fun ad => ?_) | refine ArP.exact (by simp only [inR]; omega) ?_ | refine SideP.mk (by first | omega | (dsimp only; omega) | (simp; omega)) ?_
    | (refine CallP.mk _ [_] [inlF x.ka x.kids, noteF K W, tabF, gInt 0] _ s2 ((List.Perm.swap _ _ _).append_left [_, _]) hD (fun v L' D' hp => ?_); obtain ⟨u2, a2, c2, hi2, rfl, rfl, rfl⟩ := hp)
    | fail
  refine ⟨?_⟩
  unfold wrM wrR
  have s3 := bxString_ok 0 K.ab 87 u2 a2 c2 (o ++ ([60, 97] ++ cl ++ [32, 104, 114, 101, 102, 61, 34] ++ p1 ++ [34, 62]) ++ inlRen W b m x.kids) [60, 47, 97, 62] [.m 1 K.am, .sl K.na W.ns.length K.nc, .i .i64 m', .sl K.ea K.en K.ec, .i .i64 h] btyW hi2 (by simp; omega)
  repeat' first
    | refine J_seq ?_ | refine J_region Tryz.tyOK ?_ | refine J_block ?_ | refine J_cond ?_ | refine J_ret ?_ | refine J_skip ?_ | refine J_exit ?_ | refine J_scope ?_
    | refine CondP.yes (by omega) ?_ | refine CondP.no (by omega) ?_ | refine CondP.mk (fun h => ?_) (fun h => ?_) | refine EqP.mk rfl ?_ | refine NewP.mk (fun ad => ?_) | refine ArP.exact (by simp only [inR]; omega) ?_ | refine SideP.mk (by first | omega | (dsimp only; omega) | (simp; omega)) ?_
    | (refine CallP.mk _ [_, _] [] _ s3 (List.Perm.refl _) (fun _ _ => trivial) (fun v L' D' hp => ?_); obtain ⟨u3, a3, c3, hi3, rfl, rfl, rfl⟩ := hp)
    | fail
  exact FinE.mk (wrM K W u3 a3 c3 (o ++ ([60, 97] ++ cl ++ [32, 104, 114, 101, 102, 61, 34] ++ p1 ++ [34, 62]) ++ inlRen W b m x.kids ++ [60, 47, 97, 62]) m' h) [] ⟨u3, a3, c3, hi3, rfl, rfl, rfl⟩ ((Ents.sub ⟨[_], List.perm_append_comm (l₁ := [_, _, _]) (l₂ := [_])⟩).trans (Ents.facts fun _ _ => trivial))
end Go.Proofs
namespace Go.Proofs
open Go Go.X Go.Lib
set_option maxRecDepth 100000
theorem getD_b {l : List Int} (h : ∀ j ∈ l, 0 ≤ j ∧ j ≤ 100000000) (m : Nat) : 0 ≤ l.getD m 0 ∧ l.getD m 0 ≤ 100000000 := by
  by_cases hm : m < l.length
  · rw [List.getD_eq_getElem?_getD, List.getElem?_eq_getElem hm]; exact h _ (List.getElem_mem hm)
  · rw [List.getD_eq_getElem?_getD, List.getElem?_eq_none (by omega)]; exact ⟨by decide, by decide⟩
theorem supT_le {k j : Int} (h1 : 0 ≤ k) (h2 : k ≤ 1000000000) (h3 : 0 ≤ j) (h4 : j ≤ 1000000000) : (supT k j).length ≤ 150 := by
  have a := itoa_le (n := k) (by omega) (by omega)
  have b := itoa_le (n := j) (by omega) (by omega)
  unfold supT
  simp only [List.length_append, List.length_cons, List.length_nil]; omega
theorem lnkOpen_le (p : Bool) (s : List UInt8) : (lnkOpen p s).length ≤ s.length + 50 := by
  unfold lnkOpen
  split <;> simp only [List.length_append, List.length_cons, List.length_nil] <;> omega
mutual
theorem Inl.ren_le (W : RenW) (hn : ∀ j ∈ W.ns, 0 ≤ j ∧ j ≤ 100000000) (b : Bool) : ∀ (m : Nat) (x : Inl), m + x.bulk ≤ 900000000 → (x.ren W b m).length ≤ 600 * x.bulk
  | m, .mk k t s n a ka kc kids, h => by
    rw [Inl.bulk] at h ⊢
    have h1 := inlRen_le W hn b m kids (by omega)
    have h2 := escT_le t
    have h3 := lnkPath_le s n a
    have h4 := lnkOpen_le (W.P (s, n)) (lnkPath s n a)
    have h5 := getD_b hn m
    have h6 := supT_le (k := (m : Int) + 1) (j := W.ns.getD m 0) (by omega) (by omega) h5.1 (by omega)
    rw [Inl.ren]
    split
    · omega
    split
    · simp only [List.length_append, List.length_cons, List.length_nil]; omega
    split
    · simp only [List.length_append, List.length_cons, List.length_nil]; omega
    split
    · simp only [List.length_append, List.length_cons, List.length_nil]; omega
    split
    · split
      · omega
      · simp
    split
    · simp only [List.length_cons, List.length_nil]; omega
    · simp
theorem inlRen_le (W : RenW) (hn : ∀ j ∈ W.ns, 0 ≤ j ∧ j ≤ 100000000) (b : Bool) : ∀ (m : Nat) (l : List Inl), m + inlBulk l ≤ 900000000 → (inlRen W b m l).length ≤ 600 * inlBulk l
  | m, [], _ => by simp [inlRen]
  | m, x :: r, h => by
    rw [inlBulk] at h ⊢
    have h0 := Inl.marks_bulk x; have h00 := inl_len_bulk x.marks
    have h1 := Inl.ren_le W hn b m x (by omega)
    have h2 := inlRen_le W hn b (m + x.marks.length) r (by omega)
    rw [inlRen, List.length_append]; omega
end
end Go.Proofs
