/- This text gives the contracts of strings.NewReplacer at the eight strings of the escaping, and of build. -/
import Derived.Test.YtdnkeinjfddmnaaGreatDoorRepB
import Derived.Test.YtdnkeinjfddmnaaGreatDoorEsc
set_option linter.all false

namespace Go.Proofs
open Go Go.X
set_option maxRecDepth 100000

/-- The strings that are handed to NewReplacer. -/
def strs8 : List C := [.s [38], .s eAmp, .s [60], .s eLt, .s [62], .s eGt, .s [34], .s eQuot]

theorem newReplacer_ok (a : Option Addr) (c : Nat) : FnS Tryz.prog 37 [.c (.sl a 8 c)] [] [slFact 9 1 a 8 strs8]
    (fun v L D => ∃ ab a' c', v = .c (.p 0 ab 0) ∧ L = [rb ab 0 0 (.raw .nilIface) (.sl a' 8 c'), .row 9 1 a' 8 c' strs8] ∧ D = []) := by
  refine fn_of_J Tryz.tyOK 0 Tryz.func37 (by kernel_rfl) (c := Tryz.f37.body.getD .skip) (by kernel_rfl) Tryz.ntmps37 (rs := Tryz.f37.results.toList) rfl (by simp) (fun G => ?_)
  repeat' first
    | refine CondP.no (by decide) ?_
    | refine J_seq ?_ | refine J_region Tryz.tyOK ?_ | refine J_block ?_ | refine J_cond ?_ | refine J_ret ?_ | refine J_skip ?_ | refine J_exit ?_ | refine J_scope ?_
    | refine CondP.yes (by omega) ?_ | refine CondP.no (by omega) ?_ | refine CondP.mk (fun h => ?_) (fun h => ?_) | refine EqP.mk rfl ?_ | refine NewP.mk (fun ad => ?_) | refine ArP.exact (by simp only [inR]; omega) ?_ | refine SideP.mk (by first | omega | (dsimp only; omega) | (simp; omega)) ?_
    | refine SideP.mk (by decide) ?_ | refine AppE.nil strs8 8 rfl rfl rfl (SrcE.sl 9 9 _ _ _ _ strs8 rfl rfl (.inr fun _ h => h.1) rfl) (by decide) (fun a' c' => ?_) | refine FinE.mk [rb ad 0 0 (.raw .nilIface) (.sl a' 8 c'), .row 9 1 a' 8 c' strs8] [] ⟨ad, a', c', rfl, rfl, rfl⟩ (Ents.facts fun _ _ => trivial)
    | fail

/-- Where the replacer's parts lie. -/
structure RT where
  g : Nat
  g38 : Nat
  c38 : Nat
  g60 : Nat
  c60 : Nat
  g62 : Nat
  c62 : Nat
  g34 : Nat
  c34 : Nat
  a : Option Addr
  c : Nat

/-- The replacement of each byte. -/
def RT.at (t : RT) (i : Nat) : C :=
  if i = 38 then .sl (some ⟨t.g38, 0, none⟩) 5 t.c38 else if i = 60 then .sl (some ⟨t.g60, 0, none⟩) 4 t.c60 else if i = 62 then .sl (some ⟨t.g62, 0, none⟩) 4 t.c62
  else if i = 34 then .sl (some ⟨t.g34, 0, none⟩) 6 t.c34 else .sl none 0 0
def RT.tab (t : RT) : List C := (List.range 256).map t.at ++ [.sl t.a 4 t.c]
/-- The bytes that are replaced. -/
def keys4 : List C := [.s [34], .s [62], .s [60], .s [38]]

/-- What is known of the replacer's memory. -/
def RT.facts (t : RT) : List Fact := [slFact 9 1 t.a 4 keys4, slFact 0 257 (some ⟨t.g, 0, none⟩) 1 t.tab, slFact 0 1 (some ⟨t.g, 0, none⟩) 257 t.tab,
  slFact 5 1 (some ⟨t.g34, 0, none⟩) 6 (eQuot.map byteC), slFact 5 1 (some ⟨t.g62, 0, none⟩) 4 (eGt.map byteC), slFact 5 1 (some ⟨t.g60, 0, none⟩) 4 (eLt.map byteC), slFact 5 1 (some ⟨t.g38, 0, none⟩) 5 (eAmp.map byteC)]

set_option maxHeartbeats 4000000 in
theorem build_ok (ab : Nat) (a0 : Option Addr) (c0 : Nat) : FnS Tryz.prog 115 [.c (.p 0 ab 0)] [rb ab 0 1 (.raw .nilIface) (.sl a0 8 c0)] [slFact 9 1 a0 8 strs8]
    (fun v L D => ∃ t : RT, v = .c (.raw (.iface 200 (.pointer (some ⟨t.g, 0, none⟩)))) ∧ L = [rb ab 0 1 (.raw .nilIface) (.sl a0 8 c0)] ∧ D = t.facts) := by
  have hrd : ∀ (L : List Chunk) (D : List Fact), Reads L (slFact 9 1 a0 8 strs8 :: D) 9 1 a0 8 strs8 := fun _ _ => .inr fun _ h => h.1
  refine fn_of_J Tryz.tyOK 0 Tryz.func115 (by kernel_rfl) (c := Tryz.f115.body.getD .skip) (by kernel_rfl) Tryz.ntmps115 (rs := Tryz.f115.results.toList) rfl (by simp) (fun G => ?_)
  repeat' first
    | refine CondP.yes (by decide) ?_ | refine CondP.no (by decide) ?_
    | refine J_seq ?_ | refine J_region Tryz.tyOK ?_ | refine J_block ?_ | refine J_cond ?_ | refine J_ret ?_ | refine J_skip ?_ | refine J_exit ?_ | refine J_scope ?_
    | refine CondP.yes (by omega) ?_ | refine CondP.no (by omega) ?_ | refine CondP.mk (fun h => ?_) (fun h => ?_) | refine EqP.mk rfl ?_ | refine NewP.mk (fun ad => ?_) | refine ArP.exact (by simp only [inR]; omega) ?_ | refine SideP.mk (by first | omega | (dsimp only; omega) | (simp; omega)) ?_
    | refine J_rounds 5 ?_ | refine JR_succ ?_ | refine IdxE.mk 9 1 strs8 (hrd _ _) (by decide) (by decide) ?_ | refine LoadE.mk 9 8 strs8 _ (hrd _ _) (by decide) (by decide) (by decide) rfl ?_ | refine ArP.exact (by simp only [inR]; decide) ?_ | refine SideP.mk (by decide) ?_ | refine NewB.mk (fun ad c => ?_) | refine BytesE.mk 5 [_] (.inl ⟨1, List.Mem.head _⟩) ?_ | refine AppE.row [_, _, _] _ _ _ 1 rfl (SrcE.sl 9 9 _ _ _ _ _ rfl rfl (.inl ⟨1, List.Mem.head _⟩) rfl) (by decide) (fun a' c' => ?_) | refine AppE.row [_, _, _, _, _, _] _ _ _ 1 rfl (SrcE.sl 9 9 _ _ _ _ _ rfl rfl (.inl ⟨1, List.Mem.head _⟩) rfl) (by decide) (fun a' c' => ?_) | refine AppE.row [_, _, _, _, _, _, _, _, _] _ _ _ 1 rfl (SrcE.sl 9 9 _ _ _ _ _ rfl rfl (.inl ⟨1, List.Mem.head _⟩) rfl) (by decide) (fun a' c' => ?_) | refine AppE.row [_, _, _, _, _, _, _, _, _, _, _, _] _ _ _ 1 rfl (SrcE.sl 9 9 _ _ _ _ _ rfl rfl (.inl ⟨1, List.Mem.head _⟩) rfl) (by decide) (fun a' c' => ?_)
    | fail
  rename_i ad12 ad11 ad10 ad9 a2 c2 g34 c34 ad7 ad6 a1 c1 g62 c62 ad4 ad3 a3 c3 g60 c60 ad1 ad0
  refine FinE.mk [rb ab 0 1 (.raw .nilIface) (.sl a0 8 c0)] (RT.facts ⟨ad11, ad, c, g60, c60, g62, c62, g34, c34, a', c'⟩) ⟨⟨ad11, ad, c, g60, c60, g62, c62, g34, c34, a', c'⟩, rfl, rfl, rfl⟩ ?_
  refine Ents.toFact.trans (Ents.drop.trans (Ents.drop.trans ?_))
  refine Ents.toFact.trans (Ents.drop.trans (Ents.drop.trans ?_))
  refine Ents.toFact.trans (Ents.drop.trans (Ents.drop.trans ?_))
  refine Ents.toFact.trans (Ents.drop.trans (Ents.drop.trans ?_))
  refine (Ents.boxFact 0 1 257 rfl).trans (Ents.toFact.trans (Ents.facts fun m h => ?_))
  have hb : SlF m 0 1 (some ⟨ad11, 0, none⟩) 257 (RT.tab ⟨ad11, ad, c, g60, c60, g62, c62, g34, c34, a', c'⟩) := h.2.1
  exact ⟨h.1, slF_re (e' := 0) hb (by decide) (by decide), hb, h.2.2.1, h.2.2.2.1, h.2.2.2.2.1, h.2.2.2.2.2.1, trivial⟩

theorem RT.tab_len (t : RT) : t.tab.length = 257 := by simp [RT.tab]
theorem RT.tab_at (t : RT) {i : Nat} (h : i < 256) : (t.tab.drop (i * 1 + 0)).take 1 = [t.at i] := by
  have hl : i * 1 + 0 < t.tab.length := by rw [RT.tab_len]; omega
  rw [List.drop_eq_getElem_cons hl, List.take_succ_cons, List.take_zero]
  congr 1
  simp only [RT.tab, Nat.mul_one, Nat.add_zero]
  rw [List.getElem_append_left (by simpa using h)]
  simp
theorem RT.tab_last (t : RT) : (t.tab.drop (0 * 257 + (0 + 256))).take 1 = [.sl t.a 4 t.c] := by
  have h : ((List.range 256).map t.at).length = 0 * 257 + (0 + 256) := by simp
  unfold RT.tab
  rw [List.drop_left' h]
  rfl

theorem RT.tab34 (t : RT) : (t.tab.drop (34 * 1 + 0)).take 1 = [.sl (some ⟨t.g34, 0, none⟩) 6 t.c34] := t.tab_at (by decide)
theorem RT.tab62 (t : RT) : (t.tab.drop (62 * 1 + 0)).take 1 = [.sl (some ⟨t.g62, 0, none⟩) 4 t.c62] := t.tab_at (by decide)
theorem RT.tab60 (t : RT) : (t.tab.drop (60 * 1 + 0)).take 1 = [.sl (some ⟨t.g60, 0, none⟩) 4 t.c60] := t.tab_at (by decide)
theorem RT.tab38 (t : RT) : (t.tab.drop (38 * 1 + 0)).take 1 = [.sl (some ⟨t.g38, 0, none⟩) 5 t.c38] := t.tab_at (by decide)

/-- What stands in the table for a byte. -/
theorem RT.tab_byte (t : RT) (b : UInt8) : ∃ a n c, (t.tab.drop (b.toNat * 1 + 0)).take 1 = [.sl a n c] ∧ ((a = none ∧ spB b = false) ∨ (a ≠ none ∧ spB b = true ∧ n = (escB b).length ∧ ∀ m, allD m t.facts → SlF m 5 1 a n ((escB b).map byteC))) := by
  by_cases h1 : b = 38
  · subst h1; exact ⟨_, _, _, t.tab38, .inr ⟨by simp, rfl, rfl, fun m h => h.2.2.2.2.2.2.1⟩⟩
  by_cases h2 : b = 60
  · subst h2; exact ⟨_, _, _, t.tab60, .inr ⟨by simp, rfl, rfl, fun m h => h.2.2.2.2.2.1⟩⟩
  by_cases h3 : b = 62
  · subst h3; exact ⟨_, _, _, t.tab62, .inr ⟨by simp, rfl, rfl, fun m h => h.2.2.2.2.1⟩⟩
  by_cases h4 : b = 34
  · subst h4; exact ⟨_, _, _, t.tab34, .inr ⟨by simp, rfl, rfl, fun m h => h.2.2.2.1⟩⟩
  · refine ⟨none, 0, 0, ?_, .inl ⟨rfl, by simp [spB, h1, h2, h3, h4]⟩⟩
    have hb : b.toNat < 256 := b.toNat_lt
    rw [t.tab_at hb]
    have n1 : b.toNat ≠ 38 := fun h => h1 (UInt8.toNat_inj.1 h)
    have n2 : b.toNat ≠ 60 := fun h => h2 (UInt8.toNat_inj.1 h)
    have n3 : b.toNat ≠ 62 := fun h => h3 (UInt8.toNat_inj.1 h)
    have n4 : b.toNat ≠ 34 := fun h => h4 (UInt8.toNat_inj.1 h)
    simp [RT.at, n1, n2, n3, n4]

attribute [irreducible] RT.tab RT.at

end Go.Proofs
