/- This text says what the plain text of elements is, and walks through Plain of the package inline and of the reference of chapter 17. · This text says what the path of a title is, with no program in sight. · This text walks through html.Path. · This text walks through Hex and Path of the references. · This text says what the anchor of a text is, and walks through Anchor of the package outline and of the reference of chapter 19. · This text says what the table of contents of a document is, with no program in sight. · This text holds rules on parts of rows and on what known facts imply. · This text walks through the functions that Contents of the package outline and of the reference of chapter 19 call. · This text walks through free and number of the reference of chapter 19. -/
import Derived.Test.YtdnkeinjfddmnaaGreatDoorW06
import Derived.Test.YtdnkeinjfddmnaaGreatDoorW08
import Derived.Test.YtdnkeinjfddmnaaGreatDoorW07
import Derived.Lib.IndexAny
import Derived.Test.YtdnkeinjfddmnaaGreatDoorW04
set_option linter.all false
namespace Go.Proofs
open Go Go.X
set_option maxRecDepth 100000
mutual
def Inl.plain : Inl → List UInt8
  | .mk k t _ _ _ _ _ kids => if k = 1 then t else if k = 2 ∨ k = 3 ∨ k = 4 then inlPlain kids else if k = 6 then [32] else []
def inlPlain : List Inl → List UInt8
  | [] => []
  | x :: r => x.plain ++ inlPlain r
end
theorem Inl.plain_eq (x : Inl) : x.plain = if x.kind = 1 then x.text else if x.kind = 2 ∨ x.kind = 3 ∨ x.kind = 4 then inlPlain x.kids else if x.kind = 6 then [32] else [] := by cases x; rw [Inl.plain]; rfl
theorem inlPlain_append : ∀ (l k : List Inl), inlPlain (l ++ k) = inlPlain l ++ inlPlain k
  | [], k => by simp [inlPlain]
  | x :: r, k => by simp only [List.cons_append, inlPlain, inlPlain_append r k, List.append_assoc]
theorem inlPlain_succ {l : List Inl} {i : Nat} (h : i < l.length) : inlPlain (l.take (i + 1)) = inlPlain (l.take i) ++ l[i].plain := by
  rw [List.take_succ_eq_append_getElem h, inlPlain_append]
  simp only [inlPlain, List.append_nil]
mutual
theorem Inl.plain_le : ∀ x : Inl, x.plain.length ≤ x.bulk
  | .mk k t s n a ka kc kids => by
    have := inlPlain_le kids
    rw [Inl.plain, Inl.bulk]
    split
    · omega
    split
    · omega
    split
    · simp only [List.length_singleton]; omega
    · simp
theorem inlPlain_le : ∀ l : List Inl, (inlPlain l).length ≤ inlBulk l
  | [] => Nat.le_refl _
  | x :: r => by
    have h1 := Inl.plain_le x
    have h2 := inlPlain_le r
    rw [inlPlain, inlBulk, List.length_append]; omega
end
theorem inlBulk_succ {l : List Inl} {i : Nat} (h : i < l.length) : inlBulk (l.take (i + 1)) = inlBulk (l.take i) + l[i].bulk := by
  rw [List.take_succ_eq_append_getElem h, inlBulk_append]
  simp [inlBulk]
theorem inlBulk_take_le (l : List Inl) (i : Nat) : inlBulk (l.take i) ≤ inlBulk l := by
  have := inlBulk_append (l.take i) (l.drop i)
  rw [List.take_append_drop] at this; omega
theorem Inl.bulk_eq (x : Inl) : x.bulk = 1 + x.text.length + x.name.length + x.anchor.length + inlBulk x.kids := by cases x; rw [Inl.bulk]; rfl
theorem blkBulk_succ {l : List Blk} {i : Nat} (h : i < l.length) : blkBulk (l.take (i + 1)) = blkBulk (l.take i) + l[i].bulk := by
  rw [List.take_succ_eq_append_getElem h, blkBulk_append]
  simp [blkBulk]
theorem blkBulk_take_le (l : List Blk) (i : Nat) : blkBulk (l.take i) ≤ blkBulk l := by
  have := blkBulk_append (l.take i) (l.drop i)
  rw [List.take_append_drop] at this; omega
theorem Blk.bulk_eq (x : Blk) : x.bulk = 1 + x.text.length + inlBulk x.inl + blkBulk x.kids := by cases x; rw [Blk.bulk]; rfl
theorem plain_ok (n : Nat) : ∀ (els : List Inl), inlBulk els = n → ∀ (ia : Option Addr) (ic ab : Nat) (u : Bool) (a : Option Addr) (c : Nat) (o : List UInt8), BxI u a c o → o.length + n ≤ 20000000 →
    FnS Tryz.prog 95 [.c (.p 0 ab 0), .c (.sl ia els.length ic)] (bx 0 ab 66 u a c o []) [inlF ia els] (BxP .t0 0 ab 66 (o ++ inlPlain els) []) := by
  induction n using Nat.strongRecOn with | _ n ih
  intro els hn ia ic ab u a c o hi ho
  have hel := inlNodes_len els
  have hnb := inlNodes_bulk els
  refine fn_of_J Tryz.tyOK 7000 Tryz.func95 (by kernel_rfl) (c := Tryz.f95.body.getD .skip) (by kernel_rfl) Tryz.ntmps95 (rs := Tryz.f95.results.toList) rfl (by simp) (fun G => ?_)
  repeat' first
    | refine J_seq ?_ | refine J_region Tryz.tyOK ?_ | refine J_block ?_ | refine J_cond ?_ | refine J_ret ?_ | refine J_skip ?_ | refine J_exit ?_ | refine J_scope ?_
    | refine CondP.yes (by omega) ?_ | refine CondP.no (by omega) ?_ | refine CondP.mk (fun h => ?_) (fun h => ?_) | refine EqP.mk rfl ?_ | refine NewP.mk (fun ad => ?_) | refine ArP.exact (by simp only [inR]; omega) ?_ | refine SideP.mk (by first | omega | (dsimp only; omega) | (simp; omega)) ?_
    | fail
  refine J_loop (α := Nat × List UInt8 × Bool × Option Addr × Nat) (fun x => [(0, .c (.p 0 ab 0)), (6, .c (.sl ia els.length ic)), (7, lenV els.length), (8, .c (.i .i64 x.1))])
    (fun x => bx 0 ab 66 x.2.2.1 x.2.2.2.1 x.2.2.2.2 x.2.1 []) (fun _ => [inlF ia els]) 7000 (fun x => x.1 ≤ els.length ∧ x.2.1 = o ++ inlPlain (els.take x.1) ∧ BxI x.2.2.1 x.2.2.2.1 x.2.2.2.2 x.2.1) (fun x => els.length - x.1)
    (InFam.mk (0, o, u, a, c) ⟨Nat.zero_le _, by simp [inlPlain], hi⟩ (by repeat' first | exact SubE.nil | refine SubE.cons rfl ?_ ?_ | exact VEq.refl _ | refine VEq.int (by omega) | refine VEq.sl rfl (by first | rfl | omega | (rw [List.length_append]; rfl) | (simp; omega)) rfl) (Ents.refl _ _)) (fun x hx => ?_)
  obtain ⟨i, w, u, a, c⟩ := x
  obtain ⟨hi, hw, hbi⟩ := hx
  dsimp only at hi hw hbi ⊢
  by_cases hlt : i < els.length
  · have hst := inlPlain_succ hlt
    have hbs := inlBulk_succ hlt
    have hbt := inlBulk_take_le els (i + 1)
    have hbe := Inl.bulk_eq els[i]
    have hpl := inlPlain_le (els.take i)
    have hwl : w.length ≤ o.length + inlBulk (els.take i) := by rw [hw, List.length_append]; omega
    have hstep : o ++ inlPlain (els.take (i + 1)) = w ++ els[i].plain := by rw [hst, hw, List.append_assoc]
    have hpe := Inl.plain_eq els[i]
    have hfk := inl_kids (a := ia) hlt
    have hcg : ((inlC els).drop (i * 6 + 0)).take 6 = els[i].cells := inlC_get (o := 0) (k := 6) hlt (by omega)
    have hrd : ∀ L, Reads L [inlF ia els] 102 6 ia els.length (inlC els) := fun _ => inl_reads (fun _ h => h)
    have hca := ih (inlBulk els[i].kids) (by omega) els[i].kids rfl els[i].ka els[i].kc ab u a c w hbi (by omega)
    clear ih hst hw
    generalize els[i] = x at *
    unfold Inl.cells at hcg
    have h1 : x.kind = 1 → x.plain = x.text := fun h => by rw [hpe, if_pos h]
    have h2 : ¬ x.kind = 1 → (x.kind = 2 ∨ x.kind = 3 ∨ x.kind = 4) → x.plain = inlPlain x.kids := fun h h' => by rw [hpe, if_neg h, if_pos h']
    have h3 : ¬ x.kind = 1 → ¬ (x.kind = 2 ∨ x.kind = 3 ∨ x.kind = 4) → x.kind = 6 → x.plain = [32] := fun h h' h'' => by rw [hpe, if_neg h, if_neg h', if_pos h'']
    have h4 : ¬ x.kind = 1 → ¬ (x.kind = 2 ∨ x.kind = 3 ∨ x.kind = 4) → ¬ x.kind = 6 → x.plain = [] := fun h h' h'' => by rw [hpe, if_neg h, if_neg h', if_neg h'']
    clear hpe
    have s1 := bxString_ok 0 ab 66 u a c w x.text [] bty0 hbi (by omega)
    have s2 := bxByte_ok 0 ab 66 u a c w 32 [] bty0 hbi (by omega)
    repeat' first
      | refine J_seq ?_ | refine J_region Tryz.tyOK ?_ | refine J_block ?_ | refine J_cond ?_ | refine J_ret ?_ | refine J_skip ?_ | refine J_exit ?_ | refine J_scope ?_
      | refine CondP.yes (by omega) ?_ | refine CondP.no (by omega) ?_ | refine CondP.mk (fun h => ?_) (fun h => ?_) | refine EqP.mk rfl ?_ | refine NewP.mk (fun ad => ?_) | refine ArP.exact (by simp only [inR]; omega) ?_ | refine SideP.mk (by first | omega | (dsimp only; omega) | (simp; omega)) ?_
      | refine IdxE.mk 102 6 _ (hrd _) (by omega) (by omega) ?_ | refine LoadE.mk 102 els.length _ _ (hrd _) (by omega) (by omega) (by decide) (by exact hcg) ?_ | (refine CallP.mk _ [_] [] _ s1 (List.perm_append_comm (l₁ := [_])) (fun _ _ => trivial) (fun v L' D' hp => ?_); obtain ⟨u', a', c', hi', rfl, rfl, rfl⟩ := hp) | (refine CallP.mk _ [_] [] _ s2 (List.perm_append_comm (l₁ := [_])) (fun _ _ => trivial) (fun v L' D' hp => ?_); obtain ⟨u', a', c', hi', rfl, rfl, rfl⟩ := hp) | (refine CallP.mk _ [_] [inlF x.ka x.kids] _ hca (List.perm_append_comm (l₁ := [_])) hfk (fun v L' D' hp => ?_); obtain ⟨u', a', c', hi', rfl, rfl, rfl⟩ := hp)
      | fail
    all_goals first
      | (have hxx := h1 (by assumption)
         refine Round.mk (i + 1, w ++ x.text, u', a', c') (by dsimp only; omega) ⟨by dsimp only; omega, by dsimp only; rw [hstep, hxx], hi'⟩ (by repeat' first | exact SubE.nil | refine SubE.cons rfl ?_ ?_ | exact VEq.refl _ | refine VEq.int (by omega)) (Ents.sub ⟨_, List.perm_append_comm⟩))
      | (have hxx := h2 (by assumption) (by omega)
         refine Round.mk (i + 1, w ++ inlPlain x.kids, u', a', c') (by dsimp only; omega) ⟨by dsimp only; omega, by dsimp only; rw [hstep, hxx], hi'⟩ (by repeat' first | exact SubE.nil | refine SubE.cons rfl ?_ ?_ | exact VEq.refl _ | refine VEq.int (by omega)) (Ents.sub ⟨_, List.perm_append_comm⟩))
      | (have hxx := h3 (by assumption) (by omega) (by assumption)
         refine Round.mk (i + 1, w ++ [32], u', a', c') (by dsimp only; omega) ⟨by dsimp only; omega, by dsimp only; rw [hstep, hxx], hi'⟩ (by repeat' first | exact SubE.nil | refine SubE.cons rfl ?_ ?_ | exact VEq.refl _ | refine VEq.int (by omega)) (Ents.sub ⟨_, List.perm_append_comm⟩))
      | (have hxx := h4 (by assumption) (by omega) (by assumption)
         refine Round.mk (i + 1, w, u, a, c) (by dsimp only; omega) ⟨by dsimp only; omega, by dsimp only; rw [hstep, hxx, List.append_nil], hbi⟩ (by repeat' first | exact SubE.nil | refine SubE.cons rfl ?_ ?_ | exact VEq.refl _ | refine VEq.int (by omega)) Ents.drop)
  · have hil : i = els.length := by omega
    subst hil
    rw [List.take_length] at hw
    subst hw
    repeat' first
      | refine J_seq ?_ | refine J_region Tryz.tyOK ?_ | refine J_block ?_ | refine J_cond ?_ | refine J_ret ?_ | refine J_skip ?_ | refine J_exit ?_ | refine J_scope ?_
      | refine CondP.yes (by omega) ?_ | refine CondP.no (by omega) ?_ | refine CondP.mk (fun h => ?_) (fun h => ?_) | refine EqP.mk rfl ?_ | refine NewP.mk (fun ad => ?_) | refine ArP.exact (by simp only [inR]; omega) ?_ | refine SideP.mk (by first | omega | (dsimp only; omega) | (simp; omega)) ?_
      | refine FinE.mk _ [] ⟨u, a, c, hbi, rfl, rfl, rfl⟩ (Ents.facts fun _ _ => trivial)
      | fail
theorem inlinePlain_ok (els : List Inl) (hb : inlBulk els ≤ 20000000) (ia : Option Addr) (ic : Nat) : FnS Tryz.prog 60 [.c (.sl ia els.length ic)] [] [inlF ia els] (Is (.c (.s (inlPlain els)))) := by
  have c1 := fun ab => plain_ok _ els rfl ia ic ab false none 0 [] bxI0 (by simpa using hb)
  simp only [List.nil_append] at c1
  generalize inlPlain els = o at *
  refine fn_of_J Tryz.tyOK 0 Tryz.func60 (by kernel_rfl) (c := Tryz.f60.body.getD .skip) (by kernel_rfl) Tryz.ntmps60 (rs := Tryz.f60.results.toList) rfl (by simp) (fun G => ?_)
  repeat' first
    | refine J_seq ?_ | refine J_region Tryz.tyOK ?_ | refine J_block ?_ | refine J_cond ?_ | refine J_ret ?_ | refine J_skip ?_ | refine J_exit ?_ | refine J_scope ?_
    | refine CondP.yes (by omega) ?_ | refine CondP.no (by omega) ?_ | refine CondP.mk (fun h => ?_) (fun h => ?_) | refine EqP.mk rfl ?_ | refine NewP.mk (fun ad => ?_) | refine ArP.exact (by simp only [inR]; omega) ?_ | refine SideP.mk (by first | omega | (dsimp only; omega) | (simp; omega)) ?_
    | (refine CallP.mkE _ [] [_] _ _ (c1 _) ((bx_toFresh 0 _ _ []).trans (Ents.of (List.append_nil _).symm)) (fun _ h => h) (fun v L' D' hp => ?_); obtain ⟨u, a, c, hi, rfl, rfl, rfl⟩ := hp) | (refine CallP.mk _ [] [] _ (bxText_ok 0 _ 66 u a c o [] hi) (by simp) (fun _ _ => trivial) (fun v L' D' hp => ?_); obtain ⟨rfl, rfl, rfl⟩ := hp) | refine FinE.str rfl
    | fail
  all_goals trace_state
end Go.Proofs
namespace Go.X
def hexS : List UInt8 := [48, 49, 50, 51, 52, 53, 54, 55, 56, 57, 65, 66, 67, 68, 69, 70]
def punctS : List UInt8 := [45, 95, 46, 58, 47]
def wikiS : List UInt8 := [47, 119, 105, 107, 105, 47]
def keepP (b : UInt8) : Prop := (97 ≤ (b.toNat : Int) ∧ (b.toNat : Int) ≤ 122) ∨ (65 ≤ (b.toNat : Int) ∧ (b.toNat : Int) ≤ 90) ∨ (48 ≤ (b.toNat : Int) ∧ (b.toNat : Int) ≤ 57) ∨ 0 ≤ Lib.indexByte punctS b
instance (b : UInt8) : Decidable (keepP b) := by unfold keepP; exact inferInstance
def hexB (b : UInt8) : List UInt8 := [hexS.getD (b.toNat / 16) 0, hexS.getD (b.toNat % 16) 0]
def pathB (b : UInt8) : List UInt8 := if b = 32 then [95] else if keepP b then [b] else 37 :: hexB b
def pathS (s : List UInt8) : List UInt8 := s.flatMap pathB
def pathT (sp : Int) (n : List UInt8) : List UInt8 := wikiS ++ pathS (formatT sp n)
theorem pathS_take_succ {s : List UInt8} {i : Nat} (h : i < s.length) : pathS (s.take (i + 1)) = pathS (s.take i) ++ pathB s[i] := by
  unfold pathS
  rw [List.take_succ_eq_append_getElem h, List.flatMap_append]
  simp only [List.flatMap_cons, List.flatMap_nil, List.append_nil]
theorem pathB_len (b : UInt8) : 1 ≤ (pathB b).length ∧ (pathB b).length ≤ 3 := by
  unfold pathB
  split
  · decide
  split
  · exact ⟨Nat.le_refl 1, by show 1 ≤ 3; decide⟩
  · exact ⟨by show 1 ≤ 3; decide, Nat.le_refl 3⟩
theorem pathS_le (s : List UInt8) : (pathS s).length ≤ 3 * s.length := by
  induction s with
  | nil => exact Nat.le_refl _
  | cons b s ih =>
    have := pathB_len b
    simp only [pathS, List.flatMap_cons, List.length_append, List.length_cons] at ih ⊢
    omega
theorem pathStep32 {o r : List UInt8} {y : UInt8} (hst : r = o ++ pathB y) (h : (y.toNat : Int) = 32) : o ++ [95] = r := by
  have hy : y = 32 := UInt8.toNat_inj.1 (by have : (32 : UInt8).toNat = 32 := rfl
                                            omega)
  subst hy; rw [hst]; rfl
theorem pathStepK {o r : List UInt8} {y : UInt8} (hst : r = o ++ pathB y) (h : ¬ (y.toNat : Int) = 32) (hk : keepP y) : o ++ [y] = r := by
  have hy : ¬ y = 32 := fun hh => by subst hh; exact h rfl
  rw [hst]; simp [pathB, hy, hk]
theorem pathStepH {o r : List UInt8} {y : UInt8} (hst : r = o ++ pathB y) (h : ¬ (y.toNat : Int) = 32) (hk : ¬ keepP y) : o ++ 37 :: hexB y = r := by
  have hy : ¬ y = 32 := fun hh => by subst hh; exact h rfl
  rw [hst]; simp [pathB, hy, hk]
end Go.X
namespace Go.Proofs
open Go Go.X
set_option maxRecDepth 100000
theorem shr4 (y : UInt8) : ((y.toNat : Int).fdiv (2 ^ min (Int.toNat 4) IntKind.u8.bits)) = ((y.toNat / 16 : Nat) : Int) := by
  show (y.toNat : Int).fdiv 16 = _
  rw [Int.fdiv_eq_ediv_of_nonneg _ (by decide)]
  omega
theorem and15_all : ∀ n : Fin 256, bitsV .and .u8 ((n.val : Nat) : Int) 15 = ((n.val % 16 : Nat) : Int) := by decide
theorem and15 (y : UInt8) : bitsV .and .u8 (y.toNat : Int) 15 = ((y.toNat % 16 : Nat) : Int) := and15_all ⟨y.toNat, y.toNat_lt⟩
set_option maxHeartbeats 1000000 in
theorem path_ok (sp : Int) (nm : List UInt8) (hn : nm.length ≤ 1100000) : FnS Tryz.prog 16 [.agg [.i .i64 sp, .s nm]] [] [gInt 0] (Is (.c (.s (pathT sp nm)))) := by
  have hfl := formatT_le sp nm
  have hf := format_ok sp nm hn
  unfold pathT
  generalize formatT sp nm = s at *
  refine fn_of_J Tryz.tyOK 0 Tryz.func16 (by kernel_rfl) (c := Tryz.f16.body.getD .skip) (by kernel_rfl) Tryz.ntmps16 (rs := Tryz.f16.results.toList) rfl (by simp) (fun G => ?_)
  repeat' first
    | refine J_seq ?_ | refine J_region Tryz.tyOK ?_ | refine J_block ?_ | refine J_cond ?_ | refine J_ret ?_ | refine J_skip ?_ | refine J_exit ?_ | refine J_scope ?_
    | refine CondP.yes (by omega) ?_ | refine CondP.no (by omega) ?_ | refine CondP.mk (fun h => ?_) (fun h => ?_) | refine EqP.mk rfl ?_ | refine NewP.mk (fun ad => ?_) | refine ArP.exact (by simp only [inR]; omega) ?_ | refine SideP.mk (by first | omega | (dsimp only; omega) | (simp; omega)) ?_
    | refine CallP.is hf ?_ | (refine CallP.mk [_] [_] [] _ (bwString_ok 1 _ _ none 0 [] wikiS [] bty0 (by decide) (by decide)) (List.Perm.refl _) (fun _ _ => trivial) (fun v L' D' hp => ?_); obtain ⟨a0, c0, rfl, rfl, rfl⟩ := hp) | refine NewB.mk (fun ad2 c2 => ?_)
    | fail
  refine J_loop (α := Nat × List UInt8 × Option Addr × Nat) (fun x => [(3, .c (.p 1 ad 0)), (9, .c (.sl (some ⟨ad2, 0, none⟩) s.length c2)), (10, lenV s.length), (11, .c (.i .i64 x.1))])
    (fun x => bw 1 ad 66 x.2.2.1 x.2.2.2 x.2.1 []) (fun _ => [slFact 5 1 (some ⟨ad2, 0, none⟩) s.length (s.map byteC)]) 7000 (fun x => x.1 ≤ s.length ∧ x.2.1 = wikiS ++ pathS (s.take x.1)) (fun x => s.length - x.1)
    (InFam.mk (0, wikiS, a0, c0) ⟨Nat.zero_le _, rfl⟩ (by repeat' first | exact SubE.nil | refine SubE.cons rfl ?_ ?_ | exact VEq.refl _ | refine VEq.int (by omega) | refine VEq.sl rfl (by first | rfl | omega | (rw [List.length_append]; rfl) | (simp; omega)) rfl) (Ents.toFact.trans ((Ents.sub ⟨_, List.perm_append_comm⟩).trans (Ents.facts fun _ h => ⟨h.1, trivial⟩)))) (fun x hx => ?_)
  obtain ⟨i, o, a, c⟩ := x
  obtain ⟨hi, ho⟩ := hx
  dsimp only at hi ho ⊢
  by_cases hlt : i < s.length
  · have hst : wikiS ++ pathS (s.take (i + 1)) = o ++ pathB s[i] := by rw [pathS_take_succ hlt, ho, List.append_assoc]
    have hol : o.length ≤ 6 + 3 * 109 := by
      have := pathS_le (s.take i)
      rw [ho, List.length_append]
      simp only [List.length_take] at this
      have : wikiS.length = 6 := rfl
      omega
    have hrd : ∀ L, Reads L [slFact 5 1 (some ⟨ad2, 0, none⟩) s.length (s.map byteC)] 5 1 (some ⟨ad2, 0, none⟩) s.length (s.map byteC) := fun _ => .inr fun _ h => h.1
    have hld : ((s.map byteC).drop (Int.toNat (i : Int) * 1 + 0)).take 1 = [byteC s[i]] := by
      simp only [Int.toNat_natCast, Nat.mul_one, Nat.add_zero]
      rw [List.drop_eq_getElem_cons (by simpa using hlt)]
      simp
    generalize s[i] = y at *
    have hy := y.toNat_lt
    repeat' first
      | refine J_seq ?_ | refine J_region Tryz.tyOK ?_ | refine J_block ?_ | refine J_cond ?_ | refine J_ret ?_ | refine J_skip ?_ | refine J_exit ?_ | refine J_scope ?_
      | refine CondP.yes (by omega) ?_ | refine CondP.no (by omega) ?_ | refine CondP.mk (fun h => ?_) (fun h => ?_) | refine EqP.mk rfl ?_ | refine NewP.mk (fun ad => ?_) | refine ArP.exact (by simp only [inR]; omega) ?_ | refine SideP.mk (by first | omega | (dsimp only; omega) | (simp; omega)) ?_
      | refine IdxE.mk 5 1 _ (hrd _) (by omega) (by omega) ?_ | refine LoadE.mk 5 s.length _ [byteC y] (hrd _) (by omega) (by omega) (by decide) (by exact hld) ?_ | refine CallP.is (indexByte_ok punctS y) ?_ | refine J_drawU (id := 6) Tryz.tyOK (by kernel_rfl) [0, 1, 3, 0, 8, 24, 63, 127] (.fork [0, 1, 2, 3, 4, 5] (.alt 6 (.leaf [7]) (.stop))) [6, 7] [] 7 false (by kernel_rfl) ?_ | refine TwoP.mk ?_ ?_ | refine GoP.mk (by repeat (first | exact keepC_sub _ _ _ | exact List.Sublist.slnil | refine List.Sublist.cons_cons _ ?_ | refine List.Sublist.cons _ ?_)) (by first | exact fun _ h => h | exact fun _ h => h.2 | exact fun _ h => ((allD_append _ _).1 h).2) ?_ | exact trivial | refine EntP.mk (Ents.ofSub (by repeat (first | exact keepC_sub _ _ _ | exact List.Sublist.slnil | refine List.Sublist.cons_cons _ ?_ | refine List.Sublist.cons _ ?_)) (by first | exact fun _ h => h | exact fun _ _ => trivial | exact fun _ h => h.2 | exact fun _ h => h.2.2.2.2 | exact fun _ h => h.2.2 | exact fun _ h => h.2.2.2 | exact fun _ h => h.2.2.2.2.2 | exact fun _ h => h.2.2.2.2.2.2 | exact fun _ h => h.2.2.2.2.2.2.2 | exact fun _ h => h.2.2.2.2.2.2.2.2 | exact fun _ h => h.2.2.2.2.2.2.2.2.2 | exact fun _ h => h.2.2.2.2.2.2.2.2.2.2 | exact fun _ h => ((allD_append _ _).1 h).2)) ?_ | (refine CallP.mk _ [] [] _ (bwByte_ok 1 _ _ a c o 95 [] bty0 (by omega)) (by simp) (fun _ _ => trivial) (fun v L' D' hp => ?_); obtain ⟨a', c', rfl, rfl, rfl⟩ := hp) | (refine CallP.mk _ [] [] _ (bwByte_ok 1 _ _ a c o y [] bty0 (by omega)) (by simp) (fun _ _ => trivial) (fun v L' D' hp => ?_); obtain ⟨a', c', rfl, rfl, rfl⟩ := hp) | rw [shr4] | rw [and15] | refine SideP.mk (by show _ ∧ _ < (16 : Int); omega) ?_ | refine SideP.mk (by rw [and15]; show _ ∧ _ < (16 : Int); omega) ?_ | (refine CallP.mkE _ [] [_] _ _ (bwWrite_ok 1 _ _ a c o (37 :: hexB y) _ _ [] bty0 (by simp) (by show _ + 3 ≤ _; omega)) (Ents.toFact.trans (Ents.of (List.append_nil _).symm)) (fun _ h => ⟨h.1, trivial⟩) (fun v L' D' hp => ?_); obtain ⟨a', c', rfl, rfl, rfl⟩ := hp) | refine Round.mk (i + 1, o ++ [95], a', c') (by dsimp only; omega) ⟨by dsimp only; omega, pathStep32 hst (by omega)⟩ (by repeat' first | exact SubE.nil | refine SubE.cons rfl ?_ ?_ | exact VEq.refl _ | refine VEq.int (by omega) | refine VEq.sl rfl (by first | rfl | omega | (rw [List.length_append]; rfl) | (simp; omega)) rfl) (Ents.of (List.append_nil _)) | refine Round.mk (i + 1, o ++ [y], a', c') (by dsimp only; omega) ⟨by dsimp only; omega, pathStepK hst (by omega) (by unfold keepP; omega)⟩ (by repeat' first | exact SubE.nil | refine SubE.cons rfl ?_ ?_ | exact VEq.refl _ | refine VEq.int (by omega) | refine VEq.sl rfl (by first | rfl | omega | (rw [List.length_append]; rfl) | (simp; omega)) rfl) (Ents.of (List.append_nil _)) | refine Round.mk (i + 1, o ++ 37 :: hexB y, a', c') (by dsimp only; omega) ⟨by dsimp only; omega, pathStepH hst (by omega) (by unfold keepP; omega)⟩ (by repeat' first | exact SubE.nil | refine SubE.cons rfl ?_ ?_ | exact VEq.refl _ | refine VEq.int (by omega) | refine VEq.sl rfl (by first | rfl | omega | (rw [List.length_append]; rfl) | (simp; omega)) rfl) ((Ents.of (List.append_nil _)).trans (Ents.facts fun _ h => ⟨h.2.1, trivial⟩))
      | fail
  · have hil : i = s.length := by omega
    subst hil
    rw [List.take_length] at ho
    subst ho
    repeat' first
      | refine J_seq ?_ | refine J_region Tryz.tyOK ?_ | refine J_block ?_ | refine J_cond ?_ | refine J_ret ?_ | refine J_skip ?_ | refine J_exit ?_ | refine J_scope ?_
      | refine CondP.yes (by omega) ?_ | refine CondP.no (by omega) ?_ | refine CondP.mk (fun h => ?_) (fun h => ?_) | refine EqP.mk rfl ?_ | refine NewP.mk (fun ad => ?_) | refine ArP.exact (by simp only [inR]; omega) ?_ | refine SideP.mk (by first | omega | (dsimp only; omega) | (simp; omega)) ?_
      | refine CallP.mk _ [] [] _ (bwText_ok 1 _ 66 a c (wikiS ++ pathS s) []) (by simp) (fun _ _ => trivial) (fun v L' D' hp => ?_); obtain ⟨rfl, rfl, rfl⟩ := hp | refine FinE.str rfl
      | fail
end Go.Proofs
namespace Go.Proofs
open Go Go.X
set_option maxRecDepth 100000
end Go.Proofs
namespace Go.X
def keepA (b : UInt8) : Prop := (97 ≤ (b.toNat : Int) ∧ (b.toNat : Int) ≤ 122) ∨ (65 ≤ (b.toNat : Int) ∧ (b.toNat : Int) ≤ 90) ∨ (48 ≤ (b.toNat : Int) ∧ (b.toNat : Int) ≤ 57) ∨ (b.toNat : Int) = 45 ∨ (b.toNat : Int) = 95 ∨ (b.toNat : Int) = 46 ∨ 127 < (b.toNat : Int)
instance (b : UInt8) : Decidable (keepA b) := by unfold keepA; exact inferInstance
def ancB (b : UInt8) : List UInt8 := if b = 32 then [95] else if keepA b then [b] else 46 :: hexB b
def ancS (s : List UInt8) : List UInt8 := s.flatMap ancB
def ancT19 (s : List UInt8) : List UInt8 := if s = [] then [95] else ancS s
theorem ancS_take_succ {s : List UInt8} {i : Nat} (h : i < s.length) : ancS (s.take (i + 1)) = ancS (s.take i) ++ ancB s[i] := by
  unfold ancS
  rw [List.take_succ_eq_append_getElem h, List.flatMap_append]
  simp only [List.flatMap_cons, List.flatMap_nil, List.append_nil]
theorem ancB_len (b : UInt8) : 1 ≤ (ancB b).length ∧ (ancB b).length ≤ 3 := by
  unfold ancB
  split
  · decide
  split
  · exact ⟨Nat.le_refl 1, by show 1 ≤ 3; decide⟩
  · exact ⟨by show 1 ≤ 3; decide, Nat.le_refl 3⟩
theorem ancS_le (s : List UInt8) : (ancS s).length ≤ 3 * s.length ∧ s.length ≤ (ancS s).length := by
  induction s with
  | nil => exact ⟨Nat.le_refl _, Nat.le_refl _⟩
  | cons b s ih =>
    have := ancB_len b
    simp only [ancS, List.flatMap_cons, List.length_append, List.length_cons] at ih ⊢
    omega
theorem ancT19_le (s : List UInt8) : (ancT19 s).length ≤ 3 * s.length + 1 := by
  unfold ancT19
  split
  · simp
  · have := (ancS_le s).1; omega
theorem ancS_pos {s : List UInt8} (h : s ≠ []) : ¬ ((ancS s).length : Int) = 0 := by
  have := (ancS_le s).2
  have : 0 < s.length := List.length_pos_iff.2 h
  omega
theorem ancStep32 {o r : List UInt8} {y : UInt8} (hst : r = o ++ ancB y) (h : (y.toNat : Int) = 32) : o ++ [95] = r := by
  have hy : y = 32 := UInt8.toNat_inj.1 (by have : (32 : UInt8).toNat = 32 := rfl
                                            omega)
  subst hy; rw [hst]; rfl
theorem ancStepK {o r : List UInt8} {y : UInt8} (hst : r = o ++ ancB y) (h : ¬ (y.toNat : Int) = 32) (hk : keepA y) : o ++ [y] = r := by
  have hy : ¬ y = 32 := fun hh => by subst hh; exact h rfl
  rw [hst]; simp [ancB, hy, hk]
theorem ancStepH {o r : List UInt8} {y : UInt8} (hst : r = o ++ ancB y) (h : ¬ (y.toNat : Int) = 32) (hk : ¬ keepA y) : o ++ 46 :: hexB y = r := by
  have hy : ¬ y = 32 := fun hh => by subst hh; exact h rfl
  rw [hst]; simp [ancB, hy, hk]
end Go.X
namespace Go.Proofs
open Go Go.X
set_option maxRecDepth 100000
set_option maxHeartbeats 1000000 in
theorem anchor_ok (s : List UInt8) (hs : s.length ≤ 10000000) : FnS Tryz.prog 63 [.c (.s s)] [] [] (Is (.c (.s (ancT19 s)))) := by
  refine fn_of_J Tryz.tyOK 0 Tryz.func63 (by kernel_rfl) (c := Tryz.f63.body.getD .skip) (by kernel_rfl) Tryz.ntmps63 (rs := Tryz.f63.results.toList) rfl (by simp) (fun G => ?_)
  repeat' first
    | refine J_seq ?_ | refine J_region Tryz.tyOK ?_ | refine J_block ?_ | refine J_cond ?_ | refine J_ret ?_ | refine J_skip ?_ | refine J_exit ?_ | refine J_scope ?_
    | refine CondP.yes (by omega) ?_ | refine CondP.no (by omega) ?_ | refine CondP.mk (fun h => ?_) (fun h => ?_) | refine EqP.mk rfl ?_ | refine NewP.mk (fun ad => ?_) | refine ArP.exact (by simp only [inR]; omega) ?_ | refine SideP.mk (by first | omega | (dsimp only; omega) | (simp; omega)) ?_
    | fail
  refine J_loop (α := Nat × List UInt8 × Option Addr × Nat) (fun x => [(0, .c (.s s)), (3, .c (.p 0 ad 0)), (7, lenV s.length), (8, .c (.i .i64 x.1))])
    (fun x => bw 0 ad 66 x.2.2.1 x.2.2.2 x.2.1 []) (fun _ => []) 7000 (fun x => x.1 ≤ s.length ∧ x.2.1 = ancS (s.take x.1)) (fun x => s.length - x.1)
    (InFam.mk (0, [], none, 0) ⟨Nat.zero_le _, rfl⟩ (by repeat' first | exact SubE.nil | refine SubE.cons rfl ?_ ?_ | exact VEq.refl _ | refine VEq.int (by omega) | refine VEq.sl rfl (by first | rfl | omega | (rw [List.length_append]; rfl) | (simp; omega)) rfl) (Ents.of (bw_nil _ _ _ _ _ _).symm)) (fun x hx => ?_)
  obtain ⟨i, o, a, c⟩ := x
  obtain ⟨hi, ho⟩ := hx
  dsimp only at hi ho ⊢
  by_cases hlt : i < s.length
  · have hst : ancS (s.take (i + 1)) = o ++ ancB s[i] := by rw [ancS_take_succ hlt, ho]
    have hol : o.length ≤ 30000000 := by
      have := (ancS_le (s.take i)).1
      rw [ho]
      simp only [List.length_take] at this
      omega
    have hgd : (s.getD (Int.toNat (i : Int)) 0) = s[i] := by simp [hlt]
    generalize s[i] = y at *
    have hy := y.toNat_lt
    have hgn : (s.getD (Int.toNat (i : Int)) 0).toNat = y.toNat := by rw [hgd]
    repeat' first
      | rw [hgd]
      | refine J_seq ?_ | refine J_region Tryz.tyOK ?_ | refine J_block ?_ | refine J_cond ?_ | refine J_ret ?_ | refine J_skip ?_ | refine J_exit ?_ | refine J_scope ?_
      | refine CondP.yes (by omega) ?_ | refine CondP.no (by omega) ?_ | refine CondP.mk (fun h => ?_) (fun h => ?_) | refine EqP.mk rfl ?_ | refine NewP.mk (fun ad => ?_) | refine ArP.exact (by simp only [inR]; omega) ?_ | refine SideP.mk (by first | omega | (dsimp only; omega) | (simp; omega)) ?_
      | refine J_drawU (id := 6) Tryz.tyOK (by kernel_rfl) [0, 1, 3, 0, 8, 24, 63, 127] (.fork [0, 1, 2, 3, 4, 5] (.alt 6 (.leaf [7]) (.stop))) [6, 7] [] 7 false (by kernel_rfl) ?_ | refine TwoP.mk ?_ ?_ | refine GoP.mk (by repeat (first | exact keepC_sub _ _ _ | exact List.Sublist.slnil | refine List.Sublist.cons_cons _ ?_ | refine List.Sublist.cons _ ?_)) (by first | exact fun _ h => h | exact fun _ h => h.2 | exact fun _ h => ((allD_append _ _).1 h).2) ?_ | exact trivial | refine EntP.mk (Ents.ofSub (by repeat (first | exact keepC_sub _ _ _ | exact List.Sublist.slnil | refine List.Sublist.cons_cons _ ?_ | refine List.Sublist.cons _ ?_)) (by first | exact fun _ h => h | exact fun _ _ => trivial | exact fun _ h => h.2 | exact fun _ h => h.2.2.2.2 | exact fun _ h => h.2.2 | exact fun _ h => h.2.2.2 | exact fun _ h => h.2.2.2.2.2 | exact fun _ h => h.2.2.2.2.2.2 | exact fun _ h => h.2.2.2.2.2.2.2 | exact fun _ h => h.2.2.2.2.2.2.2.2 | exact fun _ h => h.2.2.2.2.2.2.2.2.2 | exact fun _ h => h.2.2.2.2.2.2.2.2.2.2 | exact fun _ h => ((allD_append _ _).1 h).2)) ?_ | (refine CallP.mk _ [] [] _ (bwByte_ok 0 _ _ a c o 95 [] bty0 (by omega)) (by simp) (fun _ _ => trivial) (fun v L' D' hp => ?_); obtain ⟨a', c', rfl, rfl, rfl⟩ := hp) | (refine CallP.mk _ [] [] _ (bwByte_ok 0 _ _ a c o y [] bty0 (by omega)) (by simp) (fun _ _ => trivial) (fun v L' D' hp => ?_); obtain ⟨a', c', rfl, rfl, rfl⟩ := hp) | rw [shr4] | rw [and15] | refine SideP.mk (by show _ ∧ _ < (16 : Int); omega) ?_ | refine SideP.mk (by rw [and15]; show _ ∧ _ < (16 : Int); omega) ?_ | (refine CallP.mkE _ [] [_] _ _ (bwWrite_ok 0 _ _ a c o (46 :: hexB y) _ _ [] bty0 (by simp) (by show _ + 3 ≤ _; omega)) (Ents.toFact.trans (Ents.of (List.append_nil _).symm)) (fun _ h => ⟨h.1, trivial⟩) (fun v L' D' hp => ?_); obtain ⟨a', c', rfl, rfl, rfl⟩ := hp) | refine Round.mk (i + 1, o ++ [95], a', c') (by dsimp only; omega) ⟨by dsimp only; omega, ancStep32 hst (by omega)⟩ (by repeat' first | exact SubE.nil | refine SubE.cons rfl ?_ ?_ | exact VEq.refl _ | refine VEq.int (by omega) | refine VEq.sl rfl (by first | rfl | omega | (rw [List.length_append]; rfl) | (simp; omega)) rfl) (Ents.of (List.append_nil _)) | refine Round.mk (i + 1, o ++ [y], a', c') (by dsimp only; omega) ⟨by dsimp only; omega, ancStepK hst (by omega) (by unfold keepA; omega)⟩ (by repeat' first | exact SubE.nil | refine SubE.cons rfl ?_ ?_ | exact VEq.refl _ | refine VEq.int (by omega) | refine VEq.sl rfl (by first | rfl | omega | (rw [List.length_append]; rfl) | (simp; omega)) rfl) (Ents.of (List.append_nil _)) | refine Round.mk (i + 1, o ++ 46 :: hexB y, a', c') (by dsimp only; omega) ⟨by dsimp only; omega, ancStepH hst (by omega) (by unfold keepA; omega)⟩ (by repeat' first | exact SubE.nil | refine SubE.cons rfl ?_ ?_ | exact VEq.refl _ | refine VEq.int (by omega) | refine VEq.sl rfl (by first | rfl | omega | (rw [List.length_append]; rfl) | (simp; omega)) rfl) ((Ents.of (List.append_nil _)).trans (Ents.facts fun _ _ => trivial))
      | fail
    all_goals trace_state
  · have hil : i = s.length := by omega
    subst hil
    rw [List.take_length] at ho
    subst ho
    by_cases h0 : s = []
    · have hT : ancT19 s = [95] := if_pos h0
      have hl0 : ((ancS s).length : Int) = 0 := by subst h0; rfl
      rw [hT]
      repeat' first
        | refine CondP.yes hl0 ?_
        | refine J_seq ?_ | refine J_region Tryz.tyOK ?_ | refine J_block ?_ | refine J_cond ?_ | refine J_ret ?_ | refine J_skip ?_ | refine J_exit ?_ | refine J_scope ?_
        | refine CondP.yes (by omega) ?_ | refine CondP.no (by omega) ?_ | refine CondP.mk (fun h => ?_) (fun h => ?_) | refine EqP.mk rfl ?_ | refine NewP.mk (fun ad => ?_) | refine ArP.exact (by simp only [inR]; omega) ?_ | refine SideP.mk (by first | omega | (dsimp only; omega) | (simp; omega)) ?_
        | (refine CallP.mk _ [] [] _ (bwLen_ok 0 _ 66 a c (ancS s) []) (by simp) (fun _ _ => trivial) (fun v L' D' hp => ?_); obtain ⟨rfl, rfl, rfl⟩ := hp) | refine FinE.str rfl
        | fail
      all_goals trace_state
    · have hT : ancT19 s = ancS s := if_neg h0
      have hl0 := ancS_pos h0
      rw [hT]
      repeat' first
        | refine CondP.no hl0 ?_
        | refine J_seq ?_ | refine J_region Tryz.tyOK ?_ | refine J_block ?_ | refine J_cond ?_ | refine J_ret ?_ | refine J_skip ?_ | refine J_exit ?_ | refine J_scope ?_
        | refine CondP.yes (by omega) ?_ | refine CondP.no (by omega) ?_ | refine CondP.mk (fun h => ?_) (fun h => ?_) | refine EqP.mk rfl ?_ | refine NewP.mk (fun ad => ?_) | refine ArP.exact (by simp only [inR]; omega) ?_ | refine SideP.mk (by first | omega | (dsimp only; omega) | (simp; omega)) ?_
        | (refine CallP.mk _ [] [] _ (bwLen_ok 0 _ 66 a c (ancS s) []) (by simp) (fun _ _ => trivial) (fun v L' D' hp => ?_); obtain ⟨rfl, rfl, rfl⟩ := hp) | (refine CallP.mk _ [] [] _ (bwText_ok 0 _ 66 a c (ancS s) []) (by simp) (fun _ _ => trivial) (fun v L' D' hp => ?_); obtain ⟨rfl, rfl, rfl⟩ := hp) | refine FinE.str rfl
        | fail
      all_goals trace_state
end Go.Proofs
namespace Go.X
open Go Go.Proofs Go.Lib
structure EntT where
  level : Int
  number : List UInt8
  text : List UInt8
  anchor : List UInt8
def EntT.cells (e : EntT) : List C := [.i .i64 e.level, .s e.number, .s e.text, .s e.anchor]
def entC (es : List EntT) : List C := es.flatMap EntT.cells
theorem entC_get {es : List EntT} {i : Nat} (h : i < es.length) {o k : Nat} (hk : o + k ≤ 4) : ((entC es).drop (i * 4 + o)).take k = (es[i].cells.drop o).take k := flat_get (F := EntT.cells) (z := 4) (fun _ => rfl) h hk
theorem entC_one (es : List EntT) (e : EntT) : entC (es ++ [e]) = entC es ++ e.cells := by simp [entC]
def findP (ls : List Int) (v : Int) : Nat → Option Nat
  | 0 => none
  | k + 1 => if ls.getD k 0 < v then some k else findP ls v k
def parI : Option Nat → Int
  | none => -1
  | some k => k
theorem findP_lt {ls : List Int} {v : Int} : ∀ {k j : Nat}, findP ls v k = some j → j < k
  | 0, _, h => by cases h
  | k + 1, j, h => by
    rw [findP] at h
    split at h
    · cases h; omega
    · have := findP_lt h; omega
theorem findP_snoc (ls : List Int) (x v : Int) : ∀ (k : Nat), k ≤ ls.length → findP (ls ++ [x]) v k = findP ls v k
  | 0, _ => rfl
  | k + 1, h => by
    rw [findP, findP, findP_snoc ls x v k (by omega)]
    rw [List.getD_eq_getElem?_getD, List.getElem?_append_left (by omega), ← List.getD_eq_getElem?_getD]
theorem parI_inj {a b : Option Nat} (h : parI a = parI b) : a = b := by
  cases a <;> cases b <;> simp only [parI] at h
  · rfl
  · omega
  · omega
  · congr 1; omega
def cntP (ls : List Int) (p : Option Nat) : Nat → Nat
  | 0 => 0
  | n + 1 => cntP ls p n + if findP ls (ls.getD n 0) n = p then 1 else 0
theorem cntP_le (ls : List Int) (p : Option Nat) : ∀ n, cntP ls p n ≤ n
  | 0 => Nat.le_refl _
  | n + 1 => by have := cntP_le ls p n; rw [cntP]; split <;> omega
theorem cntP_snoc (ls : List Int) (x : Int) (p : Option Nat) : ∀ n, n ≤ ls.length → cntP (ls ++ [x]) p n = cntP ls p n
  | 0, _ => rfl
  | n + 1, h => by
    rw [cntP, cntP, cntP_snoc ls x p n (by omega), findP_snoc ls x _ n (by omega)]
    rw [List.getD_eq_getElem?_getD (l := ls ++ [x]), List.getElem?_append_left (by omega), ← List.getD_eq_getElem?_getD]
theorem cntP_new (ls : List Int) (x : Int) (p : Option Nat) : cntP (ls ++ [x]) p (ls.length + 1) = cntP ls p ls.length + if findP ls x ls.length = p then 1 else 0 := by
  rw [cntP, cntP_snoc ls x p _ (Nat.le_refl _), findP_snoc ls x _ _ (Nat.le_refl _)]
  simp
def decVal (l : List UInt8) : Nat := l.foldl (fun a b => a * 10 + (b.toNat - 48)) 0
theorem decVal_digits (n : Nat) : decVal (decDigits n) = n := by
  induction n using Nat.strongRecOn with | _ n ih
  rw [decDigits]
  have hb : ∀ d, d < 10 → (UInt8.ofNat (48 + d)).toNat - 48 = d := fun d hd => by rw [UInt8.toNat_ofNat', Nat.mod_eq_of_lt (by omega)]; omega
  split
  · rename_i h
    show 0 * 10 + ((UInt8.ofNat (48 + n)).toNat - 48) = n
    rw [hb n h]; omega
  · rename_i h
    have := ih (n / 10) (by omega)
    unfold decVal at this ⊢
    rw [List.foldl_append, this]
    show n / 10 * 10 + ((UInt8.ofNat (48 + n % 10)).toNat - 48) = n
    rw [hb _ (by omega)]; omega
theorem decDigits_inj {a b : Nat} (h : decDigits a = decDigits b) : a = b := by rw [← decVal_digits a, h, decVal_digits]
def cand (base : List UInt8) (n : Nat) : List UInt8 := if n ≤ 1 then base else base ++ [95] ++ decDigits n
theorem cand_inj {base : List UInt8} {a b : Nat} (ha : 1 ≤ a) (hb : 1 ≤ b) (h : cand base a = cand base b) : a = b := by
  have hl := congrArg List.length h
  unfold cand at h hl
  by_cases h1 : a ≤ 1 <;> by_cases h2 : b ≤ 1
  · omega
  · rw [if_pos h1, if_neg h2, List.length_append, List.length_append, List.length_singleton] at hl; omega
  · rw [if_neg h1, if_pos h2, List.length_append, List.length_append, List.length_singleton] at hl; omega
  · rw [if_neg h1, if_neg h2] at h
    exact decDigits_inj (List.append_cancel_left h)
theorem nodup_len {α : Type} [DecidableEq α] : ∀ {l us : List α}, l.Nodup → (∀ x ∈ l, x ∈ us) → l.length ≤ us.length
  | [], _, _, _ => Nat.zero_le _
  | x :: r, us, hn, hs => by
    have h1 := List.nodup_cons.1 hn
    have hx := hs x (by simp)
    have := nodup_len (l := r) (us := us.erase x) h1.2 fun y hy => by
      have hyx : y ≠ x := fun e => h1.1 (e ▸ hy)
      exact (List.mem_erase_of_ne hyx).2 (hs y (by simp [hy]))
    rw [List.length_erase_of_mem hx] at this
    have := List.length_pos_of_mem hx
    rw [List.length_cons]; omega
theorem cands_len {us : List (List UInt8)} {base : List UInt8} {m : Nat} (h : ∀ j, 1 ≤ j → j ≤ m → cand base j ∈ us) : m ≤ us.length := by
  have := nodup_len (l := (List.range m).map fun j => cand base (j + 1)) (us := us) ?_ fun x hx => ?_
  · simpa using this
  · refine List.pairwise_map.2 (List.Pairwise.imp ?_ List.nodup_range)
    intro a b hab he
    exact hab (by have := cand_inj (by omega) (by omega) he; omega)
  · obtain ⟨j, hj, rfl⟩ := List.mem_map.1 hx
    exact h (j + 1) (by omega) (by have := List.mem_range.1 hj; omega)
def freeF (us : List (List UInt8)) (base : List UInt8) : Nat → Nat → List UInt8
  | 0, n => cand base n
  | f + 1, n => if cand base n ∈ us then freeF us base f (n + 1) else cand base n
def freeT (us : List (List UInt8)) (base : List UInt8) : List UInt8 := freeF us base us.length 1
theorem freeF_le (us : List (List UInt8)) (base : List UInt8) : ∀ f n, f + n < 100000000000000000000 → (freeF us base f n).length ≤ base.length + 21
  | 0, n, h => by
    unfold freeF cand
    have := decDigits_le (u := n) (by omega)
    split
    · omega
    · rw [List.length_append, List.length_append, List.length_singleton]; omega
  | f + 1, n, h => by
    rw [freeF]
    split
    · exact freeF_le us base f (n + 1) (by omega)
    · unfold cand
      have := decDigits_le (u := n) (by omega)
      split
      · omega
      · rw [List.length_append, List.length_append, List.length_singleton]; omega
abbrev lvls (es : List EntT) : List Int := es.map EntT.level
abbrev ancs (es : List EntT) : List (List UInt8) := es.map EntT.anchor
def numT (es : List EntT) (p : Option Nat) (n : Nat) : List UInt8 :=
  match p with
  | none => decDigits n
  | some k => ((es.map EntT.number).getD k [] ++ [46]) ++ decDigits n
def newE (es : List EntT) (lv : Int) (t : List UInt8) : EntT :=
  ⟨lv, numT es (findP (lvls es) lv es.length) (cntP (lvls es) (findP (lvls es) lv es.length) es.length + 1), t, freeT (ancs es) (ancT19 t)⟩
def addE (es : List EntT) (b : Blk) : List EntT := if b.kind = 1 then es ++ [newE es b.level (inlPlain b.inl)] else es
def contT (bs : List Blk) : List EntT := bs.foldl addE []
theorem contT_succ {bs : List Blk} {i : Nat} (h : i < bs.length) : contT (bs.take (i + 1)) = addE (contT (bs.take i)) bs[i] := by
  unfold contT
  rw [List.take_succ_eq_append_getElem h, List.foldl_append]; rfl
structure EntB (es : List EntT) (n w : Nat) : Prop where
  len : es.length ≤ n
  num : ∀ e ∈ es, e.number.length ≤ 22 * n
  txt : ∀ e ∈ es, e.text.length ≤ w ∧ e.anchor.length ≤ 3 * w + 22
theorem numT_le {es : List EntT} {n w : Nat} (h : EntB es n w) (p : Option Nat) (c : Nat) (hc : c < 100000000000000000000) : (numT es p c).length ≤ 22 * (n + 1) := by
  have h1 := decDigits_le hc
  cases p with
  | none => simp only [numT]; omega
  | some k =>
    have h2 : ((es.map EntT.number).getD k []).length ≤ 22 * n := by
      by_cases hk : k < es.length
      · have := h.num es[k] (List.getElem_mem hk)
        simpa [hk] using this
      · rw [List.getD_eq_getElem?_getD, List.getElem?_eq_none (by simp; omega)]; simp
    simp only [numT, List.length_append, List.length_singleton]; omega
theorem addE_b {es : List EntT} {n w : Nat} {b : Blk} (h : EntB es n w) (hn : n < 10000000) (hw : (inlPlain b.inl).length ≤ w) : EntB (addE es b) (n + 1) w := by
  unfold addE
  split
  · refine ⟨by have := h.len; simp; omega, fun e he => ?_, fun e he => ?_⟩
    · rcases List.mem_append.1 he with he | he
      · have := h.num e he; omega
      · rw [List.mem_singleton.1 he]
        exact numT_le h _ _ (by have := cntP_le (lvls es) (findP (lvls es) b.level es.length) es.length; have := h.len; omega)
    · rcases List.mem_append.1 he with he | he
      · exact h.txt e he
      · rw [List.mem_singleton.1 he]
        have h1 := freeF_le (ancs es) (ancT19 (inlPlain b.inl)) (ancs es).length 1 (by have := h.len; simp; omega)
        have h2 := ancT19_le (inlPlain b.inl)
        exact ⟨hw, by show (freeF _ _ _ _).length ≤ _; omega⟩
  · exact ⟨by have := h.len; omega, fun e he => by have := h.num e he; omega, h.txt⟩
theorem contT_b (bs : List Blk) : ∀ i, i ≤ bs.length → bs.length < 10000000 → EntB (contT (bs.take i)) i (blkBulk bs)
  | 0, _, _ => ⟨by simp [contT], by simp [contT], by simp [contT]⟩
  | i + 1, h, hl => by
    rw [contT_succ (by omega)]
    refine addE_b (contT_b bs i (by omega) hl) (by omega) ?_
    have h1 := inlPlain_le bs[i].inl
    have h2 := blkBulk_succ (l := bs) (i := i) (by omega)
    have h3 := blkBulk_take_le bs (i + 1)
    have h4 := Blk.bulk_eq bs[i]
    omega
end Go.X
namespace Go.X
open Go Go.Lib
theorem resl0 (a : Option Addr) (c z : Nat) : resl a 0 c z = a := by
  unfold resl
  split
  · rfl
  · cases a <;> simp [Addr.add]
theorem Ents.rowPre {e z : Nat} {a : Option Addr} {n c k : Nat} {cs : List C} {L : List Chunk} {D : List Fact} (hk : k ≤ n) : Ents (.row e z a n c cs :: L) D (.row e z a k c (cs.take (k * z)) :: L) D := fun G w hs => by
  obtain ⟨m, h1, h2⟩ := hs
  have hok : (Chunk.row e z a k c (cs.take (k * z))).ok w := by
    refine ⟨fun x hx => h1.ok.1.1 x (List.mem_of_mem_take hx), ?_⟩
    rcases h1.ok.1.2 with ⟨h3, h4, h5, h6⟩ | ⟨g, hg, cur, lo, hi, h3, h4, h5, h6, h7, h8, h9⟩
    · exact .inl ⟨h3, by omega, h5, by rw [h6]; simp⟩
    · have hle : k * z ≤ n * z := Nat.mul_le_mul_right _ hk
      refine .inr ⟨g, hg, cur, lo, hi, h3, by omega, h5, h6, h7, by rw [List.length_take, h8]; omega, ?_⟩
      rw [List.map_take, ← h9, List.take_take, Nat.min_eq_left hle]
  exact ⟨m, ⟨h1.nd, ⟨hok, h1.ok.2⟩, h1.im, h1.d⟩, ⟨h2.size, h2.same, h2.own, h2.im, h2.new, h2.kept⟩⟩
theorem setC_take {o : Nat} {vs cs : List C} (h : o ≤ cs.length) : (setC o vs cs).take o = cs.take o := by
  unfold setC
  rw [List.append_assoc, List.take_append_of_le_length (by rw [List.length_take]; omega), List.take_take, Nat.min_self]
theorem flat_dropL {α : Type} {F : α → List C} {z : Nat} (hz : ∀ x, (F x).length = z) (l : List α) (k : Nat) (h : k ≤ l.length) : (l.flatMap F).drop (k * z) = (l.drop k).flatMap F := by
  have h2 : l.flatMap F = (l.take k).flatMap F ++ (l.drop k).flatMap F := by rw [← List.flatMap_append, List.take_append_drop]
  rw [h2]
  refine List.drop_left' ?_
  rw [flat_len hz, List.length_take, Nat.min_eq_left h]
theorem rsufF {α : Type} {F : α → List C} {z : Nat} (hz : ∀ x, (F x).length = z) (m : List α) {e : Nat} {a : Option Addr} {n c k : Nat} {L : List Chunk} {D : List Fact} (hm : Chunk.row e z a n c (m.flatMap F) ∈ L) (hn : m.length = n) (hk : k ≤ n) (hc : n ≤ c) : Reads L D e z (resl a k c z) (n - k) ((m.drop k).flatMap F) := by
  by_cases h : k < n
  · refine .sub a k n c (m.flatMap F) hm ?_ (by omega) ?_
    · exact if_neg (by omega)
    · rw [flat_dropL hz m k (by omega), List.take_of_length_le]
      rw [flat_len hz, List.length_drop]; exact Nat.le_of_eq (by rw [hn])
  · have h0 : m.drop k = [] := List.drop_eq_nil_of_le (by omega)
    rw [h0]
    exact .inr fun _ _ => ⟨fun x hx => (by cases hx), .inl ⟨by omega, rfl⟩⟩
end Go.X
namespace Go.Proofs
open Go Go.X Go.Lib
set_option maxRecDepth 100000
abbrev KeepP (v0 : V) (L0 : List Chunk) : V → List Chunk → List Fact → Prop := fun v L D => v = v0 ∧ L = L0 ∧ D = []
theorem lvls_getD {es : List EntT} {i : Nat} (h : i < es.length) : (lvls es).getD i 0 = es[i].level := by simp [h]
theorem parent_ok (es : List EntT) (hl : es.length ≤ 10000000) (a : Option Addr) (c : Nat) (i : Nat) (hi : i < es.length) :
    FnS Tryz.prog 61 [.c (.sl a es.length c), .c (.i .i64 i)] [.row 42 4 a es.length c (entC es)] [] (KeepP (.c (.i .i64 (parI (findP (lvls es) es[i].level i)))) [.row 42 4 a es.length c (entC es)]) := by
  have hg0 : ((entC es).drop (i * 4 + 0)).take 1 = [.i .i64 es[i].level] := entC_get hi (o := 0) (k := 1) (by omega)
  obtain ⟨F, hF⟩ : ∃ F, findP (lvls es) es[i].level i = F := ⟨_, rfl⟩
  rw [hF]
  generalize es[i].level = lv at *
  refine fn_of_J Tryz.tyOK 0 Tryz.func61 (by kernel_rfl) (c := Tryz.f61.body.getD .skip) (by kernel_rfl) Tryz.ntmps61 (rs := Tryz.f61.results.toList) rfl (by simp) (fun G => ?_)
  repeat' first
    | refine J_seq ?_ | refine J_region Tryz.tyOK ?_ | refine J_block ?_ | refine J_cond ?_ | refine J_ret ?_ | refine J_skip ?_ | refine J_exit ?_ | refine J_scope ?_
    | refine CondP.yes (by omega) ?_ | refine CondP.no (by omega) ?_ | refine CondP.mk (fun h => ?_) (fun h => ?_) | refine EqP.mk rfl ?_ | refine NewP.mk (fun ad => ?_) | refine ArP.exact (by simp only [inR]; omega) ?_ | refine SideP.mk (by first | omega | (dsimp only; omega) | (simp; omega)) ?_
    | fail
  refine J_loop (α := Nat) (fun k => [(0, .c (.sl a es.length c)), (1, .c (.i .i64 i)), (5, .c (.i .i64 ((k : Int) - 1)))]) (fun _ => [.row 42 4 a es.length c (entC es)]) (fun _ => []) 0 (fun k => k ≤ i ∧ F = findP (lvls es) lv k) (fun k => k)
    (InFam.mk i ⟨Nat.le_refl _, hF.symm⟩ (by repeat' first | exact SubE.nil | refine SubE.cons rfl ?_ ?_ | exact VEq.refl _ | refine VEq.int (by omega) | refine VEq.sl rfl (by first | rfl | omega | (rw [List.length_append]; rfl) | (simp; omega)) rfl) (Ents.refl _ _)) (fun k hk => ?_)
  obtain ⟨hk, he⟩ := hk
  cases k with
  | zero =>
    have hFn : F = none := he
    subst hFn
    repeat' first
      | refine J_seq ?_ | refine J_region Tryz.tyOK ?_ | refine J_block ?_ | refine J_cond ?_ | refine J_ret ?_ | refine J_skip ?_ | refine J_exit ?_ | refine J_scope ?_
      | refine CondP.yes (by omega) ?_ | refine CondP.no (by omega) ?_ | refine CondP.mk (fun h => ?_) (fun h => ?_) | refine EqP.mk rfl ?_ | refine NewP.mk (fun ad => ?_) | refine ArP.exact (by simp only [inR]; omega) ?_ | refine SideP.mk (by first | omega | (dsimp only; omega) | (simp; omega)) ?_
      | exact FinE.mk _ [] ⟨rfl, rfl, rfl⟩ (Ents.refl _ _)
      | fail
    all_goals trace_state
  | succ k =>
    have hkl : k < es.length := by omega
    have hgk : ((entC es).drop (k * 4 + 0)).take 1 = [.i .i64 es[k].level] := entC_get hkl (o := 0) (k := 1) (by omega)
    have hst : F = if es[k].level < lv then some k else findP (lvls es) lv k := by rw [he, findP, lvls_getD hkl]
    have hkt : (((k + 1 : Nat) : Int) - 1).toNat = k := by omega
    generalize es[k].level = kv at *
    have hy : kv < lv → F = some k := fun h => by rw [hst, if_pos h]
    have hn : ¬ kv < lv → F = findP (lvls es) lv k := fun h => by rw [hst, if_neg h]
    have hgk' : ((entC es).drop ((((k + 1 : Nat) : Int) - 1).toNat * 4 + 0)).take 1 = [.i .i64 kv] := by rw [hkt]; exact hgk
    repeat' first
      | refine J_seq ?_ | refine J_region Tryz.tyOK ?_ | refine J_block ?_ | refine J_cond ?_ | refine J_ret ?_ | refine J_skip ?_ | refine J_exit ?_ | refine J_scope ?_
      | refine CondP.yes (by omega) ?_ | refine CondP.no (by omega) ?_ | refine CondP.mk (fun h => ?_) (fun h => ?_) | refine EqP.mk rfl ?_ | refine NewP.mk (fun ad => ?_) | refine ArP.exact (by simp only [inR]; omega) ?_ | refine SideP.mk (by first | omega | (dsimp only; omega) | (simp; omega)) ?_
      | refine J_drawU (id := 4) Tryz.tyOK (by kernel_rfl) [0, 0, 3, 7, 15, 0, 0, 96, 224, 480, 1023] (.leaf [0, 1, 2, 3, 4, 5, 6, 7, 8, 9, 10]) [] [14, 19] 11 true (by kernel_rfl) ?_ | refine TwoP.mk ?_ ?_ | refine GoP.mk (by repeat (first | exact List.Sublist.slnil | refine List.Sublist.cons_cons _ ?_ | refine List.Sublist.cons _ ?_)) (by first | exact fun _ h => h | exact fun _ h => h.2 | exact fun _ h => ((allD_append _ _).1 h).2) ?_ | exact trivial | refine EntP.mk (Ents.ofSub (by repeat (first | exact List.Sublist.slnil | refine List.Sublist.cons_cons _ ?_ | refine List.Sublist.cons _ ?_)) (by first | exact fun _ h => h | exact fun _ _ => trivial | exact fun _ h => h.2 | exact fun _ h => h.2.2.2.2 | exact fun _ h => h.2.2 | exact fun _ h => h.2.2.2 | exact fun _ h => h.2.2.2.2.2 | exact fun _ h => h.2.2.2.2.2.2 | exact fun _ h => h.2.2.2.2.2.2.2 | exact fun _ h => h.2.2.2.2.2.2.2.2 | exact fun _ h => h.2.2.2.2.2.2.2.2.2 | exact fun _ h => h.2.2.2.2.2.2.2.2.2.2 | exact fun _ h => ((allD_append _ _).1 h).2)) ?_ | refine IdxE.mk 42 4 _ (.inl ⟨_, List.Mem.head _⟩) (by omega) (by omega) ?_ | refine FldE.mk 42 4 _ _ (.inl ⟨_, List.Mem.head _⟩) (by omega) ?_ | refine LoadE.mk 42 _ _ [.i .i64 kv] (.inl ⟨_, List.Mem.head _⟩) (by omega) (by omega) (by decide) (by exact hgk') ?_ | refine LoadE.mk 42 _ _ [.i .i64 lv] (.inl ⟨_, List.Mem.head _⟩) (by omega) (by omega) (by decide) (by exact hg0) ?_
      | fail
    all_goals first
      | (have hxx := hy (by assumption)
         subst hxx
         exact FinE.mk _ [] ⟨by show V.c _ = V.c _; rw [show ((k + 1 : Nat) : Int) - 1 = (k : Int) by omega]; rfl, rfl, rfl⟩ (Ents.refl _ _))
      | (have hxx := hn (by assumption)
         exact Round.mk k (by omega) ⟨by omega, hxx⟩ (by repeat' first | exact SubE.nil | refine SubE.cons rfl ?_ ?_ | exact VEq.refl _ | refine VEq.int (by omega)) (Ents.refl _ _))
      | trace_state
end Go.Proofs
namespace Go.Proofs
open Go Go.X Go.Lib
set_option maxRecDepth 100000
end Go.Proofs
