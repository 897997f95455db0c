/- This text walks through InMarks and Marks of the reference of chapter 19. · This text says what the notes of a document are, with no program in sight, and how memory holds them. · This text walks through Notes of the package outline. · This text walks through Notes of the reference of chapter 19. -/
import Derived.Test.YtdnkeinjfddmnaaGreatDoorV10
set_option linter.all false
namespace Go.Proofs
open Go Go.X
set_option maxRecDepth 100000
theorem refInMarks_ok (n : Nat) : ∀ (els : List Inl), inlBulk els = n → ∀ (ia : Option Addr) (ic : Nat), n ≤ 20000000 → FnS Tryz.prog 91 [.c (.sl ia els.length ic)] [] [inlF ia els] (MkrP (inlMarks els)) := by
  induction n using Nat.strongRecOn with | _ n ih
  intro els hn ia ic hb
  have hel := inl_len_bulk els
  refine fn_of_J Tryz.tyOK 0 Tryz.func91 (by kernel_rfl) (c := Tryz.f91.body.getD .skip) (by kernel_rfl) Tryz.ntmps91 (rs := Tryz.f91.results.toList) rfl (by simp) (fun G => ?_)
  repeat' first
    | refine J_seq ?_ | refine J_region Tryz.tyOK ?_ | refine J_block ?_ | refine J_cond ?_ | refine J_ret ?_ | refine J_skip ?_ | refine J_exit ?_ | refine J_scope ?_
    | refine CondP.yes (by omega) ?_ | refine CondP.no (by omega) ?_ | refine CondP.mk (fun h => ?_) (fun h => ?_) | refine EqP.mk rfl ?_ | refine NewP.mk (fun ad => ?_) | refine ArP.exact (by simp only [inR]; omega) ?_ | refine SideP.mk (by first | omega | (dsimp only; omega) | (simp; omega)) ?_
    | fail
  refine J_loop (α := Nat × List Inl × Option Addr × Nat) (fun x => [(0, .c (.sl ia els.length ic)), (3, .c (.sl x.2.2.1 x.2.1.length x.2.2.2)), (4, .c (.i .i64 x.1))])
    (fun x => [.row 102 6 x.2.2.1 x.2.1.length x.2.2.2 (inlC x.2.1)]) (fun x => [inlsF x.2.1, inlF ia els]) 0 (fun x => x.1 ≤ els.length ∧ x.2.1 = inlMarks (els.take x.1)) (fun x => els.length - x.1)
    (InFam.mk (0, [], none, 0) ⟨Nat.zero_le _, by simp [inlMarks]⟩ (by repeat' first | exact SubE.nil | refine SubE.cons rfl ?_ ?_ | exact VEq.refl _ | refine VEq.int (by omega) | refine VEq.sl rfl (by first | rfl | omega | (rw [List.length_append]; rfl) | (simp; omega)) rfl) ((Ents.nilRow (ety := 102) (esz := 6)).trans (Ents.facts fun _ h => ⟨inls_nil, h.1, trivial⟩))) (fun x hx => ?_)
  obtain ⟨i, cs, a, c⟩ := x
  obtain ⟨hi, he⟩ := hx
  dsimp only at hi he ⊢
  by_cases hlt : i < els.length
  · have hbs := inlBulk_succ hlt
    have hbt := inlBulk_take_le els (i + 1)
    have hbe := Inl.bulk_eq els[i]
    have hms := inlMarks_succ hlt
    have hmb := inlMarks_bulk (els.take i)
    have hfk := inl_kids (a := ia) hlt
    have hfx := inl_at (a := ia) hlt
    have hme := Inl.marks_eq els[i]
    have hcl := inl_len_bulk (inlMarks (els.take i))
    rw [← he] at hcl hmb
    have hstep : inlMarks (els.take (i + 1)) = cs ++ els[i].marks := by rw [hms, he]
    have hg0 : ((inlC els).drop (i * 6 + 0)).take 1 = [.i .i64 els[i].kind] := inlC_get (o := 0) (k := 1) hlt (by omega)
    have hg5 : ((inlC els).drop (i * 6 + 5)).take 1 = [.sl els[i].ka els[i].kids.length els[i].kc] := inlC_get (o := 5) (k := 1) hlt (by omega)
    have hcg : ((inlC els).drop (i * 6 + 0)).take 6 = els[i].cells := inlC_get (o := 0) (k := 6) hlt (by omega)
    have hrd : ∀ L F, Reads L [F, inlF ia els] 102 6 ia els.length (inlC els) := fun _ _ => inl_reads (fun _ h => ⟨h.2.1, trivial⟩)
    have hcm := ih (inlBulk els[i].kids) (by omega) els[i].kids rfl els[i].ka els[i].kc (by omega)
    have hmk := inlMarks_bulk els[i].kids
    have hmkl := inl_len_bulk (inlMarks els[i].kids)
    clear ih hms he
    generalize els[i] = x at *
    unfold Inl.cells at hcg
    have h5 : x.kind = 5 → x.marks = [x] := fun h => by rw [hme, if_pos h]
    have h2 : (x.kind = 2 ∨ x.kind = 3 ∨ x.kind = 4) → x.marks = inlMarks x.kids := fun h' => by rw [hme, if_neg (by omega), if_pos h']
    have h4 : ¬ x.kind = 5 → ¬ (x.kind = 2 ∨ x.kind = 3 ∨ x.kind = 4) → x.marks = [] := fun h h' => by rw [hme, if_neg h, if_neg h']
    clear hme
    have hap1 : inlC cs ++ [.i .i64 x.kind, .s x.text, .i .i64 x.sp, .s x.name, .s x.anchor, .sl x.ka x.kids.length x.kc] = inlC (cs ++ [x]) := (inlC_one cs x).symm
    have hla1 : cs.length + 1 = (cs ++ [x]).length := by simp
    generalize inlMarks x.kids = ms at *
    repeat' first
      | refine J_seq ?_ | refine J_region Tryz.tyOK ?_ | refine J_block ?_ | refine J_cond ?_ | refine J_ret ?_ | refine J_skip ?_ | refine J_exit ?_ | refine J_scope ?_
      | refine CondP.yes (by omega) ?_ | refine CondP.no (by omega) ?_ | refine CondP.mk (fun h => ?_) (fun h => ?_) | refine EqP.mk rfl ?_ | refine NewP.mk (fun ad => ?_) | refine ArP.exact (by simp only [inR]; omega) ?_ | refine SideP.mk (by first | omega | (dsimp only; omega) | (simp; omega)) ?_
      | refine IdxE.mk 102 6 _ (hrd _ _) (by omega) (by omega) ?_ | refine FldE.mk 102 6 _ _ (hrd _ _) (by omega) ?_ | refine LoadE.mk 102 els.length _ _ (hrd _ _) (by omega) (by omega) (by decide) (by exact hg0) ?_ | refine LoadE.mk 102 els.length _ _ (hrd _ _) (by omega) (by omega) (by decide) (by exact hg5) ?_ | refine LoadE.mk 102 els.length _ _ (hrd _ _) (by omega) (by omega) (by decide) (by exact hcg) ?_ | (refine CallP.mk [] _ [_] _ hcm (List.Perm.refl _) (fun _ h => hfk _ ⟨h.2.1, trivial⟩) (fun v L' D' hp => ?_); obtain ⟨ma, mc, rfl, rfl, rfl⟩ := hp) | (refine AppE.row [] _ (inlC cs) (inlC ms) ms.length rfl (SrcE.sl 102 102 _ _ _ _ _ rfl rfl (.inr fun _ h => h.1.1) (inlC_len ms)) (by dsimp only; omega) (fun a' c' => ?_); rw [← inlC_append, ← List.length_append]) | (refine AppE.row [_] _ (inlC cs) [.i .i64 x.kind, .s x.text, .i .i64 x.sp, .s x.name, .s x.anchor, .sl x.ka x.kids.length x.kc] 1 rfl (SrcE.sl 102 102 _ _ 1 _ _ rfl rfl (.inl ⟨_, List.Mem.head _⟩) rfl) (by dsimp only; omega) (fun a' c' => ?_); rw [hap1, hla1])
      | fail
    all_goals first
      | (have hxx := h5 (by assumption)
         refine Round.mk (i + 1, cs ++ [x], a', c') (by dsimp only; omega) ⟨by dsimp only; omega, by dsimp only; rw [hstep, hxx]⟩ (by repeat' first | exact SubE.nil | refine SubE.cons rfl ?_ ?_ | exact VEq.refl _ | refine VEq.int (by omega)) (Ents.ofSub (List.Sublist.cons _ (List.Sublist.cons_cons _ List.Sublist.slnil)) (fun _ h => ⟨inls_one h.1 (hfx _ h.2.1), h.2.1, trivial⟩)))
      | (have hxx := h2 (by omega)
         refine Round.mk (i + 1, cs ++ ms, a', c') (by dsimp only; omega) ⟨by dsimp only; omega, by dsimp only; rw [hstep, hxx]⟩ (by repeat' first | exact SubE.nil | refine SubE.cons rfl ?_ ?_ | exact VEq.refl _ | refine VEq.int (by omega)) (Ents.facts (fun _ h => ⟨inls_append h.2.1 h.1.2, h.2.2.1, trivial⟩)))
      | (have hxx := h4 (by assumption) (by omega)
         refine Round.mk (i + 1, cs, a, c) (by dsimp only; omega) ⟨by dsimp only; omega, by dsimp only; rw [hstep, hxx, List.append_nil]⟩ (by repeat' first | exact SubE.nil | refine SubE.cons rfl ?_ ?_ | exact VEq.refl _ | refine VEq.int (by omega)) (Ents.facts (fun _ h => ⟨h.1, h.2.1, trivial⟩)))
  · have hil : i = els.length := by omega
    subst hil
    rw [List.take_length] at he
    subst he
    repeat' first
      | refine J_seq ?_ | refine J_region Tryz.tyOK ?_ | refine J_block ?_ | refine J_cond ?_ | refine J_ret ?_ | refine J_skip ?_ | refine J_exit ?_ | refine J_scope ?_
      | refine CondP.yes (by omega) ?_ | refine CondP.no (by omega) ?_ | refine CondP.mk (fun h => ?_) (fun h => ?_) | refine EqP.mk rfl ?_ | refine NewP.mk (fun ad => ?_) | refine ArP.exact (by simp only [inR]; omega) ?_ | refine SideP.mk (by first | omega | (dsimp only; omega) | (simp; omega)) ?_
      | refine FinE.mk [] [_] ⟨a, c, rfl, rfl, rfl⟩ (Ents.toFact.trans (Ents.facts fun _ h => ⟨⟨h.1, h.2.1⟩, trivial⟩))
      | fail
theorem refMarks_ok (n : Nat) : ∀ (bs : List Blk), blkBulk bs = n → ∀ (ba : Option Addr) (bc : Nat), n ≤ 20000000 → FnS Tryz.prog 56 [.c (.sl ba bs.length bc)] [] [blkF ba bs] (MkrP (blkMarks bs)) := by
  induction n using Nat.strongRecOn with | _ n ih
  intro bs hn ba bc hb
  have hel := Nat.le_trans (blkNodes_len bs) (blkNodes_bulk bs)
  refine fn_of_J Tryz.tyOK 0 Tryz.func56 (by kernel_rfl) (c := Tryz.f56.body.getD .skip) (by kernel_rfl) Tryz.ntmps56 (rs := Tryz.f56.results.toList) rfl (by simp) (fun G => ?_)
  repeat' first
    | refine J_seq ?_ | refine J_region Tryz.tyOK ?_ | refine J_block ?_ | refine J_cond ?_ | refine J_ret ?_ | refine J_skip ?_ | refine J_exit ?_ | refine J_scope ?_
    | refine CondP.yes (by omega) ?_ | refine CondP.no (by omega) ?_ | refine CondP.mk (fun h => ?_) (fun h => ?_) | refine EqP.mk rfl ?_ | refine NewP.mk (fun ad => ?_) | refine ArP.exact (by simp only [inR]; omega) ?_ | refine SideP.mk (by first | omega | (dsimp only; omega) | (simp; omega)) ?_
    | fail
  refine J_loop (α := Nat × List Inl × Option Addr × Nat) (fun x => [(0, .c (.sl ba bs.length bc)), (3, .c (.sl x.2.2.1 x.2.1.length x.2.2.2)), (4, .c (.i .i64 x.1))])
    (fun x => [.row 102 6 x.2.2.1 x.2.1.length x.2.2.2 (inlC x.2.1)]) (fun x => [inlsF x.2.1, blkF ba bs]) 0 (fun x => x.1 ≤ bs.length ∧ x.2.1 = blkMarks (bs.take x.1)) (fun x => bs.length - x.1)
    (InFam.mk (0, [], none, 0) ⟨Nat.zero_le _, by simp [blkMarks]⟩ (by repeat' first | exact SubE.nil | refine SubE.cons rfl ?_ ?_ | exact VEq.refl _ | refine VEq.int (by omega) | refine VEq.sl rfl (by first | rfl | omega | (rw [List.length_append]; rfl) | (simp; omega)) rfl) ((Ents.nilRow (ety := 102) (esz := 6)).trans (Ents.facts fun _ h => ⟨inls_nil, h.1, trivial⟩))) (fun x hx => ?_)
  obtain ⟨i, cs, a, c⟩ := x
  obtain ⟨hi, he⟩ := hx
  dsimp only at hi he ⊢
  by_cases hlt : i < bs.length
  · have hbs := blkBulk_succ hlt
    have hbt := blkBulk_take_le bs (i + 1)
    have hbe := Blk.bulk_eq bs[i]
    have hms := blkMarks_succ hlt
    have hmb := blkMarks_bulk (bs.take i)
    have hcl := inl_len_bulk (blkMarks (bs.take i))
    rw [← he] at hcl hmb
    have hm1 := inlMarks_bulk bs[i].inl
    have hm2 := blkMarks_bulk bs[i].kids
    have hl1 := inl_len_bulk (inlMarks bs[i].inl)
    have hl2 := inl_len_bulk (blkMarks bs[i].kids)
    have hstep : blkMarks (bs.take (i + 1)) = cs ++ inlMarks bs[i].inl ++ blkMarks bs[i].kids := by rw [hms, he]
    have hfi := blk_inl (a := ba) hlt
    have hfk := blk_kids (a := ba) hlt
    have hg3 : ((blkC bs).drop (i * 5 + 3)).take 1 = [.sl bs[i].ia bs[i].inl.length bs[i].ic] := blkC_get (o := 3) (k := 1) hlt (by omega)
    have hg4 : ((blkC bs).drop (i * 5 + 4)).take 1 = [.sl bs[i].ka bs[i].kids.length bs[i].kc] := blkC_get (o := 4) (k := 1) hlt (by omega)
    have hrd : ∀ L, Reads L [inlsF cs, blkF ba bs] 81 5 ba bs.length (blkC bs) := fun _ => blk_reads (fun _ h => ⟨h.2.1, trivial⟩)
    have hrd2 : ∀ L F, Reads L [F, inlsF cs, blkF ba bs] 81 5 ba bs.length (blkC bs) := fun _ _ => blk_reads (fun _ h => ⟨h.2.2.1, trivial⟩)
    have hca := refInMarks_ok _ bs[i].inl rfl bs[i].ia bs[i].ic (by omega)
    have hcm := ih (blkBulk bs[i].kids) (by omega) bs[i].kids rfl bs[i].ka bs[i].kc (by omega)
    clear ih hms he
    generalize bs[i] = x at *
    generalize inlMarks x.inl = ms at *
    generalize blkMarks x.kids = ns at *
    repeat' first
      | refine J_seq ?_ | refine J_region Tryz.tyOK ?_ | refine J_block ?_ | refine J_cond ?_ | refine J_ret ?_ | refine J_skip ?_ | refine J_exit ?_ | refine J_scope ?_
      | refine CondP.yes (by omega) ?_ | refine CondP.no (by omega) ?_ | refine CondP.mk (fun h => ?_) (fun h => ?_) | refine EqP.mk rfl ?_ | refine NewP.mk (fun ad => ?_) | refine ArP.exact (by simp only [inR]; omega) ?_ | refine SideP.mk (by first | omega | (dsimp only; omega) | (simp; omega)) ?_
      | refine J_drawU (id := 5) Tryz.tyOK (by kernel_rfl) [0, 0, 0, 6, 14, 30, 62, 127, 0, 0, 768, 1792, 3840, 8191, 16383, 32767] (.fork [0, 1, 2, 3, 4, 5, 8, 9, 10, 11, 12] (.alt 6 (.fork [] (.alt 7 (.fork [] (.alt 13 (.fork [] (.alt 14 (.leaf [15]) (.stop))) (.stop))) (.stop))) (.stop))) [6, 7, 13, 14] [14, 21] 16 false (by kernel_rfl) ?_ | refine TwoP.mk ?_ ?_ | refine GoP.mk (by repeat (first | exact keepC_sub _ _ _ | exact List.Sublist.slnil | refine List.Sublist.cons_cons _ ?_ | refine List.Sublist.cons _ ?_)) (by first | exact fun _ h => h | exact fun _ h => h.2 | exact fun _ h => ((allD_append _ _).1 h).2) ?_ | exact trivial | refine EntP.mk (Ents.ofSub (by repeat (first | exact keepC_sub _ _ _ | exact List.Sublist.slnil | refine List.Sublist.cons_cons _ ?_ | refine List.Sublist.cons _ ?_)) (by first | exact fun _ h => h | exact fun _ _ => trivial | exact fun _ h => h.2 | exact fun _ h => h.2.2.2.2 | exact fun _ h => h.2.2 | exact fun _ h => h.2.2.2 | exact fun _ h => h.2.2.2.2.2 | exact fun _ h => h.2.2.2.2.2.2 | exact fun _ h => h.2.2.2.2.2.2.2 | exact fun _ h => h.2.2.2.2.2.2.2.2 | exact fun _ h => h.2.2.2.2.2.2.2.2.2 | exact fun _ h => h.2.2.2.2.2.2.2.2.2.2 | exact fun _ h => ((allD_append _ _).1 h).2)) ?_ | refine IdxE.mk 81 5 _ (hrd _) (by omega) (by omega) ?_ | refine IdxE.mk 81 5 _ (hrd2 _ _) (by omega) (by omega) ?_ | refine FldE.mk 81 5 _ _ (hrd _) (by omega) ?_ | refine FldE.mk 81 5 _ _ (hrd2 _ _) (by omega) ?_ | refine LoadE.mk 81 bs.length _ _ (hrd _) (by omega) (by omega) (by decide) (by exact hg3) ?_ | refine LoadE.mk 81 bs.length _ _ (hrd _) (by omega) (by omega) (by decide) (by exact hg4) ?_ | refine LoadE.mk 81 bs.length _ _ (hrd2 _ _) (by omega) (by omega) (by decide) (by exact hg4) ?_ | (refine CallP.mk [] _ [_] _ hca (List.Perm.refl _) (fun _ h => hfi _ ⟨h.2.1, trivial⟩) (fun v L' D' hp => ?_); obtain ⟨ma, mc, rfl, rfl, rfl⟩ := hp) | (refine CallP.mk [] _ [_] _ hcm (List.Perm.refl _) (fun _ h => hfk _ ⟨h.2.2.1, trivial⟩) (fun v L' D' hp => ?_); obtain ⟨na, nc, rfl, rfl, rfl⟩ := hp) | (refine AppE.row [] _ (inlC cs) (inlC ms) ms.length rfl (SrcE.sl 102 102 _ _ _ _ _ rfl rfl (.inr fun _ h => h.1.1) (inlC_len ms)) (by dsimp only; omega) (fun a' c' => ?_); rw [← inlC_append, ← List.length_append]) | (refine AppE.row [] _ (inlC cs) (inlC ms) ms.length rfl (SrcE.sl 102 102 _ _ _ _ _ rfl rfl (.inr fun _ h => h.2.1.1) (inlC_len ms)) (by dsimp only; omega) (fun a' c' => ?_); rw [← inlC_append, ← List.length_append]) | (refine AppE.row [] _ (inlC (cs ++ ms)) (inlC ns) ns.length rfl (SrcE.sl 102 102 _ _ _ _ _ rfl rfl (.inr fun _ h => h.1.1) (inlC_len ns)) (by dsimp only; rw [List.length_append]; omega) (fun a2 c2 => ?_); rw [← inlC_append, ← List.length_append]) | refine Round.mk (i + 1, cs ++ ms ++ ns, a2, c2) (by dsimp only; omega) ⟨by dsimp only; omega, hstep.symm⟩ (by repeat' first | exact SubE.nil | refine SubE.cons rfl ?_ ?_ | exact VEq.refl _ | refine VEq.int (by omega)) (Ents.facts (fun _ h => ⟨inls_append (inls_append h.2.2.1 h.2.1.2) h.1.2, h.2.2.2.1, trivial⟩))
      | fail
    all_goals trace_state
  · have hil : i = bs.length := by omega
    subst hil
    rw [List.take_length] at he
    subst he
    repeat' first
      | refine J_seq ?_ | refine J_region Tryz.tyOK ?_ | refine J_block ?_ | refine J_cond ?_ | refine J_ret ?_ | refine J_skip ?_ | refine J_exit ?_ | refine J_scope ?_
      | refine CondP.yes (by omega) ?_ | refine CondP.no (by omega) ?_ | refine CondP.mk (fun h => ?_) (fun h => ?_) | refine EqP.mk rfl ?_ | refine NewP.mk (fun ad => ?_) | refine ArP.exact (by simp only [inR]; omega) ?_ | refine SideP.mk (by first | omega | (dsimp only; omega) | (simp; omega)) ?_
      | refine FinE.mk [] [_] ⟨a, c, rfl, rfl, rfl⟩ (Ents.toFact.trans (Ents.facts fun _ h => ⟨⟨h.1, h.2.1⟩, trivial⟩))
      | fail
end Go.Proofs
namespace Go.X
open Go Go.Proofs
structure NoP where
  name : List UInt8
  inl : List Inl
  uses : List Int
def findL (ns : List (List UInt8)) (t : List UInt8) : Nat → Option Nat
  | 0 => none
  | k + 1 => if ns.getD k [] = t then some k else findL ns t k
theorem findL_lt {ns : List (List UInt8)} {t : List UInt8} : ∀ {k j : Nat}, findL ns t k = some j → j < k
  | 0, _, h => by cases h
  | k + 1, j, h => by
    rw [findL] at h
    split at h
    · cases h; omega
    · have := findL_lt h; omega
theorem findL_snoc (ns : List (List UInt8)) (x t : List UInt8) : ∀ (k : Nat), k ≤ ns.length → findL (ns ++ [x]) t k = findL ns t k
  | 0, _ => rfl
  | k + 1, h => by
    rw [findL, findL, findL_snoc ns x t k (by omega)]
    rw [List.getD_eq_getElem?_getD, List.getElem?_append_left (by omega), ← List.getD_eq_getElem?_getD]
theorem findL_new (ns : List (List UInt8)) (x t : List UInt8) : findL (ns ++ [x]) t (ns.length + 1) = if x = t then some ns.length else findL ns t ns.length := by
  rw [findL, findL_snoc ns x t _ (Nat.le_refl _)]
  simp
abbrev namesP (ps : List NoP) : List (List UInt8) := ps.map NoP.name
def atP (ps : List NoP) (t : List UInt8) : Nat := if t = [] then ps.length else (findL (namesP ps) t ps.length).getD ps.length
def growP (ps : List NoP) (t : List UInt8) : List NoP := if atP ps t = ps.length then ps ++ [⟨t, [], []⟩] else ps
def touchP (p : NoP) (n : Int) (kids : List Inl) : NoP := ⟨p.name, if p.inl = [] then kids else p.inl, p.uses ++ [n]⟩
def addP (ps : List NoP) (i : Nat) (m : Inl) : List NoP := (growP ps m.text).modify (atP ps m.text) fun p => touchP p (i + 1) m.kids
def notesFrom : List NoP → Nat → List Inl → List NoP
  | ps, _, [] => ps
  | ps, i, m :: r => notesFrom (addP ps i m) (i + 1) r
def notesP (ms : List Inl) : List NoP := notesFrom [] 0 ms
theorem notesFrom_snoc : ∀ (ms : List Inl) (ps : List NoP) (i : Nat) (m : Inl), notesFrom ps i (ms ++ [m]) = addP (notesFrom ps i ms) (i + ms.length) m
  | [], ps, i, m => rfl
  | x :: r, ps, i, m => by
    rw [List.cons_append, notesFrom, notesFrom, notesFrom_snoc r, List.length_cons]
    congr 1; omega
theorem notesP_take_succ {ms : List Inl} {i : Nat} (h : i < ms.length) : notesP (ms.take (i + 1)) = addP (notesP (ms.take i)) i ms[i] := by
  unfold notesP
  rw [List.take_succ_eq_append_getElem h, notesFrom_snoc, List.length_take, Nat.min_eq_left (by omega), Nat.zero_add]
theorem atP_le (ps : List NoP) (t : List UInt8) : atP ps t ≤ ps.length := by
  unfold atP
  split
  · exact Nat.le_refl _
  · cases h : findL (namesP ps) t ps.length with
    | none => exact Nat.le_refl _
    | some j => have := findL_lt h; simp only [Option.getD_some]; omega
theorem addP_new {ps : List NoP} {i : Nat} {m : Inl} (h : m.text = [] ∨ findL (namesP ps) m.text ps.length = none) : addP ps i m = ps ++ [⟨m.text, m.kids, [((i : Int) + 1)]⟩] ∧ atP ps m.text = ps.length := by
  have ha : atP ps m.text = ps.length := by
    unfold atP
    split
    · rfl
    · rcases h with h | h
      · contradiction
      · rw [h]; rfl
  refine ⟨?_, ha⟩
  unfold addP growP
  rw [if_pos ha, ha]
  apply List.ext_getElem?
  intro j
  rw [List.getElem?_modify]
  by_cases hj : j < ps.length
  · rw [List.getElem?_append_left hj, List.getElem?_append_left hj]; simp [show ¬ ps.length = j by omega]
  · rw [List.getElem?_append_right (by omega), List.getElem?_append_right (by omega)]
    by_cases hj0 : j = ps.length
    · subst hj0
      simp [touchP]
    · rw [List.getElem?_eq_none (by simp; omega), List.getElem?_eq_none (by simp; omega)]; rfl
theorem addP_old {ps : List NoP} {i k : Nat} {m : Inl} (h0 : m.text ≠ []) (h : findL (namesP ps) m.text ps.length = some k) (hk : k < ps.length) : addP ps i m = ps.set k (touchP ps[k] ((i : Int) + 1) m.kids) ∧ atP ps m.text = k := by
  have ha : atP ps m.text = k := by
    unfold atP
    rw [if_neg h0, h]; rfl
  refine ⟨?_, ha⟩
  unfold addP growP
  rw [if_neg (by omega), ha]
  apply List.ext_getElem?
  intro j
  rw [List.getElem?_modify, List.getElem?_set]
  by_cases hj : k = j
  · subst hj
    simp [hk]
  · simp [hj]
structure NoB (ps : List NoP) (i : Nat) : Prop where
  len : ps.length ≤ i
  use : ∀ p ∈ ps, p.uses.length ≤ i ∧ ∀ u ∈ p.uses, 1 ≤ u ∧ u ≤ i
theorem addP_b {ps : List NoP} {i : Nat} {m : Inl} (h : NoB ps i) : NoB (addP ps i m) (i + 1) := by
  have old : ∀ p ∈ ps, p.uses.length ≤ i + 1 ∧ ∀ u ∈ p.uses, 1 ≤ u ∧ u ≤ ((i + 1 : Nat) : Int) := fun p hp => by
    obtain ⟨h1, h2⟩ := h.use p hp
    exact ⟨by omega, fun u hu => by have := h2 u hu; omega⟩
  by_cases hc : m.text = [] ∨ findL (namesP ps) m.text ps.length = none
  · rw [(addP_new hc).1]
    refine ⟨by have := h.len; simp; omega, fun p hp => ?_⟩
    rcases List.mem_append.1 hp with hp | hp
    · exact old p hp
    · rw [List.mem_singleton.1 hp]
      refine ⟨by simp, fun u hu => ?_⟩
      simp only [List.mem_singleton] at hu
      omega
  · rw [not_or] at hc
    obtain ⟨k, hk⟩ := Option.ne_none_iff_exists'.1 hc.2
    have hkl := findL_lt hk
    rw [(addP_old hc.1 hk hkl).1]
    refine ⟨by have := h.len; simp; omega, fun p hp => ?_⟩
    rcases List.mem_or_eq_of_mem_set hp with hp | rfl
    · exact old p hp
    · obtain ⟨h1, h2⟩ := h.use ps[k] (List.getElem_mem hkl)
      refine ⟨by simp only [touchP, List.length_append, List.length_singleton]; omega, fun u hu => ?_⟩
      simp only [touchP, List.mem_append, List.mem_singleton] at hu
      rcases hu with hu | hu
      · have := h2 u hu; omega
      · omega
theorem notesP_b (ms : List Inl) : ∀ i, i ≤ ms.length → NoB (notesP (ms.take i)) i
  | 0, _ => ⟨by simp [notesP, notesFrom], by simp [notesP, notesFrom]⟩
  | i + 1, h => by
    rw [notesP_take_succ (by omega)]
    exact addP_b (notesP_b ms i (by omega))
structure NoM where
  name : List UInt8
  ia : Option Addr
  ic : Nat
  inl : List Inl
  ua : Option Addr
  uc : Nat
  uses : List Int
def NoM.cells (n : NoM) : List C := [.s n.name, .sl n.ia n.inl.length n.ic, .sl n.ua n.uses.length n.uc]
def NoM.pure (n : NoM) : NoP := ⟨n.name, inlEra n.inl, n.uses⟩
def noC (ns : List NoM) : List C := ns.flatMap NoM.cells
abbrev pureN (ns : List NoM) : List NoP := ns.map NoM.pure
theorem noC_get {ns : List NoM} {i : Nat} (h : i < ns.length) {o k : Nat} (hk : o + k ≤ 3) : ((noC ns).drop (i * 3 + o)).take k = (ns[i].cells.drop o).take k := flat_get (F := NoM.cells) (z := 3) (fun _ => rfl) h hk
theorem noC_one (ns : List NoM) (n : NoM) : noC (ns ++ [n]) = noC ns ++ n.cells := by simp [noC]
theorem noC_set {ns : List NoM} {j : Nat} (hj : j < ns.length) {o : Nat} {cs : List C} {n : NoM} (h : o + cs.length ≤ 3) (he : setC o cs ns[j].cells = n.cells) : setC (j * 3 + o) cs (noC ns) = noC (ns.set j n) :=
  setC_flat (F := NoM.cells) (z := 3) (fun _ => rfl) hj h he
theorem names_pure (ns : List NoM) : namesP (pureN ns) = ns.map NoM.name := by simp [namesP, pureN, NoM.pure, Function.comp_def]
end Go.X
namespace Go.Proofs
open Go Go.X
set_option maxRecDepth 100000
abbrev useR (n : NoM) : Chunk := .row 3 1 n.ua n.uses.length n.uc (n.uses.map (C.i .i64))
def usesR (ns : List NoM) : List Chunk := ns.map useR
def noF (ns : List NoM) : Fact := ⟨fun m => ∀ n ∈ ns, (inlF n.ia n.inl).p m, fun m m' hm h n hn => (inlF n.ia n.inl).mono m m' hm (h n hn)⟩
def notesF (a : Option Addr) (ns : List NoM) : Fact := ⟨fun m => SlF m 89 3 a ns.length (noC ns) ∧ ∀ n ∈ ns, (inlF n.ia n.inl).p m ∧ SlF m 3 1 n.ua n.uses.length (n.uses.map (C.i .i64)),
  fun m m' hm h => ⟨slF_mono hm h.1, fun n hn => ⟨(inlF n.ia n.inl).mono m m' hm (h.2 n hn).1, slF_mono hm (h.2 n hn).2⟩⟩⟩
def NotesP (ps : List NoP) : V → List Chunk → List Fact → Prop := fun v L D => ∃ (a : Option Addr) (c : Nat) (ns : List NoM), pureN ns = ps ∧ v = .c (.sl a ns.length c) ∧ L = [] ∧ D = [notesF a ns]
theorem usesR_split {ns : List NoM} {k : Nat} (h : k < ns.length) : usesR ns = usesR (ns.take k) ++ useR ns[k] :: usesR (ns.drop (k + 1)) := by
  have : ns = ns.take k ++ ns[k] :: ns.drop (k + 1) := by rw [← List.drop_eq_getElem_cons h, List.take_append_drop]
  refine (congrArg usesR this).trans ?_
  unfold usesR
  rw [List.map_append, List.map_cons]
theorem usesR_set {ns : List NoM} {k : Nat} (h : k < ns.length) (n : NoM) : usesR (ns.set k n) = usesR (ns.take k) ++ useR n :: usesR (ns.drop (k + 1)) := by
  rw [List.set_eq_take_append_cons_drop, if_pos h]
  simp [usesR]
theorem usesR_one (ns : List NoM) (n : NoM) : usesR (ns ++ [n]) = usesR ns ++ [useR n] := by simp [usesR]
theorem permTail {U b o n : Chunk} {R : List Chunk} : List.Perm (U :: b :: o :: n :: R) (b :: o :: n :: (R ++ [U])) := List.perm_append_comm (l₁ := [U]) (l₂ := [b, o, n] ++ R)
theorem Ents.usesF : ∀ (ns : List NoM) {D : List Fact}, ∃ F : Fact, Ents (usesR ns) D [] (F :: D) ∧ ∀ m, F.p m → ∀ n ∈ ns, SlF m 3 1 n.ua n.uses.length (n.uses.map (C.i .i64))
  | [], D => ⟨⟨fun _ => True, fun _ _ _ _ => trivial⟩, Ents.facts fun _ h => ⟨trivial, h⟩, fun _ _ n hn => by cases hn⟩
  | x :: r, D => by
    obtain ⟨F, hF, hp⟩ := Ents.usesF r (D := slFact 3 1 x.ua x.uses.length (x.uses.map (C.i .i64)) :: D)
    refine ⟨⟨fun m => F.p m ∧ SlF m 3 1 x.ua x.uses.length (x.uses.map (C.i .i64)), fun m m' hm h => ⟨F.mono m m' hm h.1, slF_mono hm h.2⟩⟩, ?_, fun m h n hn => ?_⟩
    · exact (Ents.toFact (L := usesR r)).trans (hF.trans (Ents.facts fun _ h => ⟨⟨h.1, h.2.1⟩, h.2.2⟩))
    · rcases List.mem_cons.1 hn with rfl | hn
      · exact h.2
      · exact hp m h.1 n hn
theorem Ents.notes {o : Chunk} {a : Option Addr} {c : Nat} {ns : List NoM} {D : List Fact} : Ents (o :: .row 89 3 a ns.length c (noC ns) :: usesR ns) (noF ns :: D) [] [notesF a ns] := by
  obtain ⟨F, hF, hp⟩ := Ents.usesF ns (D := slFact 89 3 a ns.length (noC ns) :: noF ns :: D)
  exact Ents.drop.trans (Ents.toFact.trans (hF.trans (Ents.facts fun m h => ⟨⟨h.2.1, fun n hn => ⟨h.2.2.1 n hn, hp m h.1 n hn⟩⟩, trivial⟩)))
theorem kvGet_put (kv : Kv) (k : List UInt8) (v : V) (q : List UInt8) : kvGet (kvPut kv k v) q = if q = k then some v else kvGet kv q := by
  induction kv with
  | nil =>
    simp only [kvPut, kvGet]
    by_cases h : q = k
    · rw [if_pos h, if_pos h.symm]
    · rw [if_neg h, if_neg fun e => h e.symm]
  | cons x r ih =>
    simp only [kvPut]
    by_cases hx : x.1 = k
    · rw [if_pos hx]
      simp only [kvGet]
      by_cases h : q = k
      · rw [if_pos h, if_pos (by rw [hx, h])]
      · rw [if_neg h, if_neg (by rw [hx]; exact fun e => h e.symm), if_neg (by rw [hx]; exact fun e => h e.symm)]
    · rw [if_neg hx]
      simp only [kvGet, ih]
      by_cases h : x.1 = q
      · rw [if_pos h, if_neg (fun e => hx (h.trans e)), if_pos h]
      · rw [if_neg h, if_neg h]
theorem inlEra_get : ∀ {l : List Inl} {i : Nat} (h : i < l.length), (inlEra l)[i]'(by rw [inlEra_len]; exact h) = l[i].era
  | x :: r, 0, _ => by simp [inlEra]
  | x :: r, i + 1, h => by
    have := inlEra_get (l := r) (i := i) (by simpa using h)
    simpa [inlEra] using this
  | [], i, h => by simp at h
theorem Inl.era_text (x : Inl) : x.era.text = x.text := by cases x; rw [Inl.era]; rfl
theorem Inl.era_kids (x : Inl) : x.era.kids = inlEra x.kids := by cases x; rw [Inl.era]; rfl
def newN (t : List UInt8) : NoM := ⟨t, none, 0, [], none, 0, []⟩
theorem ents_new {l b o : Chunk} {a : Option Addr} {c : Nat} {ns : List NoM} {t : List UInt8} {D : List Fact} : Ents ([l, b, o] ++ .row 89 3 a (ns.length + 1) c (noC ns ++ [.s t, .sl none 0 0, .sl none 0 0]) :: usesR ns) (noF ns :: D)
    (b :: o :: .row 89 3 a (ns ++ [newN t]).length c (noC (ns ++ [newN t])) :: usesR (ns ++ [newN t])) (noF (ns ++ [newN t]) :: D) := by
  have hap : noC ns ++ [.s t, .sl none 0 0, .sl none 0 0] = noC (ns ++ [newN t]) := (noC_one ns (newN t)).symm
  have hla : ns.length + 1 = (ns ++ [newN t]).length := by simp
  rw [hap, hla, usesR_one]
  refine Ents.drop.trans ((Ents.nilRow (ety := 3) (esz := 1)).trans ((Ents.perm (permTail (U := useR (newN t)))).trans (Ents.facts fun m h => ⟨fun n hn => ?_, h.2⟩)))
  rcases List.mem_append.1 hn with hn | hn
  · exact h.1 n hn
  · rw [List.mem_singleton.1 hn]; exact inlF_none
def updN (y : NoM) (ua : Option Addr) (uc : Nat) (us : List Int) : NoM := ⟨y.name, y.ia, y.ic, y.inl, ua, uc, us⟩
def kidN (y : NoM) (ka : Option Addr) (kc : Nat) (ks : List Inl) : NoM := ⟨y.name, ka, kc, ks, y.ua, y.uc, y.uses⟩
theorem ents_set {l b o n : Chunk} {ns : List NoM} {k : Nat} (hk : k < ns.length) (Y : NoM) {D : List Fact} : Ents ([l] ++ useR Y :: b :: o :: n :: (usesR (ns.take k) ++ usesR (ns.drop (k + 1)))) D (o :: n :: usesR (ns.set k Y)) D := by
  rw [usesR_set hk]
  exact Ents.sub ⟨[l, b], List.Perm.cons l (List.perm_middle (l₁ := b :: o :: n :: usesR (ns.take k))).symm⟩
theorem ents_end {l b o : Chunk} {a : Option Addr} {c : Nat} {ns : List NoM} {k : Nat} (hk : k < ns.length) (Y : NoM) {R : List Chunk} (hR : R = usesR (ns.take k) ++ usesR (ns.drop (k + 1))) {D : List Fact} :
    Ents ([l, useR Y, b, o] ++ .row 89 3 a ns.length c (noC (ns.set k Y)) :: R) D (o :: .row 89 3 a (ns.set k Y).length c (noC (ns.set k Y)) :: usesR (ns.set k Y)) D := by
  subst hR
  rw [List.length_set]
  exact ents_set hk Y
theorem pure_set {ns : List NoM} {k : Nat} (hk : k < ns.length) {Y : NoM} {f : NoP → NoP} (h : Y.pure = f ns[k].pure) : pureN (ns.set k Y) = (pureN ns).modify k f := by
  apply List.ext_getElem?
  intro j
  rw [List.getElem?_modify, List.getElem?_map, List.getElem?_set, List.getElem?_map]
  by_cases hj : k = j
  · subst hj; simp [hk, h]
  · simp [hj]
theorem noF_set {ns : List NoM} {k : Nat} {Y : NoM} {m : Im} (h : (noF ns).p m) (hY : (inlF Y.ia Y.inl).p m) : (noF (ns.set k Y)).p m := fun n hn => by
  rcases List.mem_or_eq_of_mem_set hn with hn | rfl
  · exact h n hn
  · exact hY
def KvN (kv : Kv) (ns : List NoM) : Prop := ∀ t : List UInt8, t ≠ [] → kvGet kv t = (findL (namesP (pureN ns)) t ns.length).map fun k => V.c (.i .i64 k)
theorem kvN_new {kv : Kv} {ns : List NoM} {n : NoM} (h : KvN kv ns) : KvN (kvPut kv n.name (.c (.i .i64 ns.length))) (ns ++ [n]) := fun t ht => by
  have hn : namesP (pureN (ns ++ [n])) = namesP (pureN ns) ++ [n.name] := by simp [namesP, pureN, NoM.pure]
  have hl : (namesP (pureN ns)).length = ns.length := by simp
  rw [kvGet_put, hn, List.length_append, List.length_singleton, ← hl, findL_new]
  by_cases hc : t = n.name
  · rw [if_pos hc, if_pos hc.symm]; rfl
  · rw [if_neg hc, if_neg fun e => hc e.symm, h t ht, hl]
theorem kvN_set {kv : Kv} {ns : List NoM} {k : Nat} {n : NoM} (h : KvN kv ns) (hk : k < ns.length) (hn : n.name = ns[k].name) : KvN kv (ns.set k n) := fun t ht => by
  have : namesP (pureN (ns.set k n)) = namesP (pureN ns) := by
    rw [names_pure, names_pure]
    apply List.ext_getElem?
    intro j
    rw [List.getElem?_map, List.getElem?_set, List.getElem?_map]
    by_cases hj : k = j
    · subst hj; rw [if_pos rfl, if_pos hk]; simp [hn, hk]
    · rw [if_neg hj]
  rw [h t ht, this, List.length_set]
set_option maxHeartbeats 4000000 in
theorem notes_ok (bs : List Blk) (hb : blkBulk bs ≤ 20000000) (ba : Option Addr) (bc : Nat) : FnS Tryz.prog 24 [.c (.sl ba bs.length bc)] [] [blkF ba bs] (NotesP (notesP (inlEra (blkMarks bs)))) := by
  have c1 := marksAll_ok _ bs rfl ba bc hb
  have hmb := blkMarks_bulk bs
  refine fn_of_J Tryz.tyOK 0 Tryz.func24 (by kernel_rfl) (c := Tryz.f24.body.getD .skip) (by kernel_rfl) Tryz.ntmps24 (rs := Tryz.f24.results.toList) rfl (by simp) (fun G => ?_)
  repeat' first
    | refine J_seq ?_ | refine J_region Tryz.tyOK ?_ | refine J_block ?_ | refine J_cond ?_ | refine J_ret ?_ | refine J_skip ?_ | refine J_exit ?_ | refine J_scope ?_
    | refine CondP.yes (by omega) ?_ | refine CondP.no (by omega) ?_ | refine CondP.mk (fun h => ?_) (fun h => ?_) | refine EqP.mk rfl ?_ | refine NewP.mk (fun ad => ?_) | refine ArP.exact (by simp only [inR]; omega) ?_ | refine SideP.mk (by first | omega | (dsimp only; omega) | (simp; omega)) ?_
    | (refine CallP.mk [] [_] [_] _ c1 (List.Perm.refl _) (fun _ h => h) (fun v L' D' hp => ?_); obtain ⟨ma, mc, ms, hme, rfl, rfl, rfl⟩ := hp; rw [← hme])
    | fail
  obtain ⟨ad0, had0⟩ : ∃ y, y = ad := ⟨_, rfl⟩
  subst had0
  have hmsb := era_bulk hme
  have hmsl := inl_len_bulk ms
  have hmle : ms.length ≤ 20000000 := by omega
  clear hme hmsb hmsl c1 hmb
  refine J_loop (α := Nat × List NoM × Kv × Option Addr × Nat) (fun x => [(3, .c (.sl x.2.2.2.1 x.2.1.length x.2.2.2.2)), (4, .c (.m 0 ad0)), (12, .c (.sl ma ms.length mc)), (13, lenV ms.length), (14, .c (.i .i64 x.1))])
    (fun x => .obj 0 ad0 (mapO x.2.2.1) :: .row 89 3 x.2.2.2.1 x.2.1.length x.2.2.2.2 (noC x.2.1) :: usesR x.2.1) (fun x => [noF x.2.1, inlF ma ms]) 1
    (fun x => x.1 ≤ ms.length ∧ pureN x.2.1 = notesP ((inlEra ms).take x.1) ∧ KvN x.2.2.1 x.2.1) (fun x => ms.length - x.1)
    (InFam.mk (0, [], [], none, 0) ⟨Nat.zero_le _, rfl, fun t ht => rfl⟩ (by repeat' first | exact SubE.nil | refine SubE.cons rfl ?_ ?_ | exact VEq.refl _ | refine VEq.int (by omega) | refine VEq.sl rfl (by first | rfl | omega | (rw [List.length_append]; rfl) | (simp; omega)) rfl) ((Ents.nilRow (ety := 89) (esz := 3)).trans ((Ents.perm (List.Perm.swap _ _ _)).trans (Ents.facts fun m h => ⟨fun n hn => (by cases hn), h.1, trivial⟩)))) (fun x hx => ?_)
  obtain ⟨i, ns, kv, na, nc⟩ := x
  obtain ⟨hi, hpe, hkv⟩ := hx
  dsimp only at hi hpe hkv ⊢
  by_cases hlt : i < ms.length
  · have hlt' : i < (inlEra ms).length := by rw [inlEra_len]; exact hlt
    have hst := notesP_take_succ hlt'
    have hnb := notesP_b (inlEra ms) i (by omega)
    rw [inlEra_get hlt, ← hpe] at hst
    rw [← hpe] at hnb
    have hnl : ns.length ≤ i := by have := hnb.len; simpa using this
    have hcg : ((inlC ms).drop (i * 6 + 0)).take 6 = ms[i].cells := inlC_get (o := 0) (k := 6) hlt (by omega)
    have hrd : ∀ L, Reads L [noF ns, inlF ma ms] 102 6 ma ms.length (inlC ms) := fun _ => inl_reads (fun _ h => ⟨h.2.1, trivial⟩)
    have hfk := inl_kids (a := ma) hlt
    clear hpe hlt'
    generalize ms[i] = x at *
    unfold Inl.cells at hcg
    have hus0 : ∀ n ∈ ns, n.uses.length ≤ i := fun n hn => (hnb.use n.pure (List.mem_map_of_mem hn)).1
    have hstop : addP (pureN ns) i x.era = (growP (pureN ns) x.text).modify (atP (pureN ns) x.text) fun p => touchP p (i + 1) (inlEra x.kids) := by unfold addP; rw [Inl.era_text, Inl.era_kids]
    by_cases hc : x.text = [] ∨ findL (namesP (pureN ns)) x.text ns.length = none
    · have hat := (addP_new (ps := pureN ns) (i := i) (m := x.era) (by rw [Inl.era_text]; simpa using hc)).2
      rw [Inl.era_text] at hat
      have hgrow : pureN (ns ++ [newN x.text]) = growP (pureN ns) x.text := by
        unfold growP; rw [if_pos hat]; simp [pureN, NoM.pure, inlEra, newN]
      have hus : ∀ n ∈ ns ++ [newN x.text], n.uses.length ≤ i := fun n hn => by
        rcases List.mem_append.1 hn with hn | hn
        · exact hus0 n hn
        · rw [List.mem_singleton.1 hn]; exact Nat.zero_le i
      rw [show (pureN ns).length = ns.length by simp] at hat
      have hgn : x.text ≠ [] → kvGet kv x.text = none := fun h => by
        rw [hkv x.text h]
        rcases hc with hc | hc
        · exact absurd hc h
        · rw [hc]; rfl
      repeat' first
        | refine J_stop (c := .seq (.seq (.region 7 _ _) _) _) ?_
        | refine J_seq ?_ | refine J_region Tryz.tyOK ?_ | refine J_block ?_ | refine J_cond ?_ | refine J_ret ?_ | refine J_skip ?_ | refine J_exit ?_ | refine J_scope ?_
        | refine CondP.yes (by omega) ?_ | refine CondP.no (by omega) ?_ | refine CondP.mk (fun h => ?_) (fun h => ?_) | refine EqP.mk rfl ?_ | refine NewP.mk (fun ad => ?_) | refine ArP.exact (by simp only [inR]; omega) ?_ | refine SideP.mk (by first | omega | (dsimp only; omega) | (simp; omega)) ?_
        | refine IdxE.mk 102 6 _ (hrd _) (by omega) (by omega) ?_ | refine LoadE.mk 102 ms.length _ _ (hrd _) (by omega) (by omega) (by decide) (by exact hcg) ?_ | refine MapE.mk kv rfl rfl ?_ | refine LookP.mk (fun v hv => ?_) (fun hv => ?_)
        | fail
      · by_cases h0 : x.text = []
        · refine ⟨?_⟩
          obtain ⟨adm, hadm⟩ : ∃ y, y = ad := ⟨_, rfl⟩
          subst hadm
          refine J_cut (α := List NoM × Kv × Option Addr × Nat × Nat) (fun z => [(3, .c (.sl z.2.2.1 z.1.length z.2.2.2.1)), (4, .c (.m 0 ad0)), (5, .c (.i .i64 i)), (6, .c (.p 1 adm 0)), (7, .c (.i .i64 z.2.2.2.2)), (12, .c (.sl ma ms.length mc)), (13, lenV ms.length), (14, .c (.i .i64 i))]) (fun z => .box 1 adm 102 [.i .i64 x.kind, .s x.text, .i .i64 x.sp, .s x.name, .s x.anchor, .sl x.ka x.kids.length x.kc] :: .obj 0 ad0 (mapO z.2.1) :: .row 89 3 z.2.2.1 z.1.length z.2.2.2.1 (noC z.1) :: usesR z.1) (fun z => [noF z.1, inlF ma ms]) 2 (fun z => z.2.2.2.2 < z.1.length ∧ pureN z.1 = growP (pureN ns) x.text ∧ z.2.2.2.2 = atP (pureN ns) x.text ∧ KvN z.2.1 z.1 ∧ z.1.length ≤ i + 1 ∧ ∀ n ∈ z.1, n.uses.length ≤ i) ?_ (fun z hz => ?_)
          · repeat' first
              | refine J_seq ?_ | refine J_region Tryz.tyOK ?_ | refine J_block ?_ | refine J_cond ?_ | refine J_ret ?_ | refine J_skip ?_ | refine J_exit ?_ | refine J_scope ?_
              | refine CondP.yes (by omega) ?_ | refine CondP.no (by omega) ?_ | refine CondP.mk (fun h => ?_) (fun h => ?_) | refine EqP.mk rfl ?_ | refine NewP.mk (fun ad => ?_) | refine ArP.exact (by simp only [inR]; omega) ?_ | refine SideP.mk (by first | omega | (dsimp only; omega) | (simp; omega)) ?_
              | (refine AppE.row [_, _, _] _ (noC ns) [.s x.text, .sl none 0 0, .sl none 0 0] 1 rfl (SrcE.sl 89 89 _ _ 1 _ _ rfl rfl (.inl ⟨_, List.Mem.head _⟩) rfl) (by dsimp only; omega) (fun a' c' => ?_)) | refine MapE.mk kv rfl rfl ?_ | exact absurd (by assumption) ‹¬ x.text = []›
              | fail
            all_goals
              have hap : noC ns ++ [.s x.text, .sl none 0 0, .sl none 0 0] = noC (ns ++ [newN x.text]) := (noC_one ns (newN x.text)).symm
              have hla : ns.length + 1 = (ns ++ [newN x.text]).length := by simp
              refine InFam.mk (ns ++ [newN x.text], kvPut kv x.text (lenV ns.length), a', c', ns.length) ⟨by dsimp only; omega, hgrow, hat.symm, kvN_new (n := newN x.text) hkv, by dsimp only; omega, hus⟩ ?_ ?_
              · repeat' first | exact SubE.nil | refine SubE.cons rfl ?_ ?_ | exact VEq.refl _ | refine VEq.int (by omega) | exact VEq.sl rfl hla rfl
              · exact ents_new
          · obtain ⟨ns', kv', na', nc', k⟩ := z
            obtain ⟨hk, hg, hka, hkv', hnl', hus'⟩ := hz
            dsimp only at hk hg hka hkv' hnl' hus' ⊢
            obtain ⟨R, hR⟩ : ∃ R, R = usesR (ns'.take k) ++ usesR (ns'.drop (k + 1)) := ⟨_, rfl⟩
            refine J_mem (L' := useR ns'[k] :: .box 1 adm 102 [.i .i64 x.kind, .s x.text, .i .i64 x.sp, .s x.name, .s x.anchor, .sl x.ka x.kids.length x.kc] :: .obj 0 ad0 (mapO kv') :: .row 89 3 na' ns'.length nc' (noC ns') :: R) (n' := 2) (Ents.perm (by rw [hR, usesR_split hk]; exact List.perm_middle (l₁ := _ :: _ :: _ :: usesR (ns'.take k)))) ?_
            have hgu : ((noC ns').drop (k * 3 + 2)).take 1 = [.sl ns'[k].ua ns'[k].uses.length ns'[k].uc] := noC_get hk (o := 2) (k := 1) (by omega)
            have hs2 : ∀ ua uc us, setC (k * 3 + 2) [.sl ua us.length uc] (noC ns') = noC (ns'.set k (updN ns'[k] ua uc us)) := fun ua uc us => noC_set hk (o := 2) (Nat.le_refl 3) rfl
            have hg1 : ∀ Y, ((noC (ns'.set k Y)).drop (k * 3 + 1)).take 1 = [.sl Y.ia Y.inl.length Y.ic] := fun Y => by
              have h := noC_get (ns := ns'.set k Y) (i := k) (by rw [List.length_set]; exact hk) (o := 1) (k := 1) (by omega)
              rw [List.getElem_set_self] at h
              exact h
            have hs1 : ∀ Y ka kc ks, setC (k * 3 + 1) [.sl ka ks.length kc] (noC (ns'.set k Y)) = noC (ns'.set k (kidN Y ka kc ks)) := fun Y ka kc ks => by
              have h := noC_set (ns := ns'.set k Y) (j := k) (by rw [List.length_set]; exact hk) (o := 1) (cs := [.sl ka ks.length kc]) (n := kidN Y ka kc ks) (Nat.le_succ 2) (by rw [List.getElem_set_self]; rfl)
              rw [List.set_set] at h
              exact h
            have hul := hus' ns'[k] (List.getElem_mem hk)
            have hmem := fun (m : Im) (h : (noF ns').p m) => h ns'[k] (List.getElem_mem hk)
            have hpu : ∀ Y : NoM, Y.pure = touchP ns'[k].pure (i + 1) (inlEra x.kids) → pureN (ns'.set k Y) = notesP ((inlEra ms).take (i + 1)) := fun Y hY => by rw [hst, hstop, ← hg, ← hka]; exact pure_set hk hY
            have hkn : ∀ Y : NoM, Y.name = ns'[k].name → KvN kv' (ns'.set k Y) := fun Y hY => kvN_set hkv' hk hY
            generalize ns'[k] = y at *
            clear hus' hkv' hg hka hst hstop
            refine J_seq ?_
            refine J_region Tryz.tyOK ?_
            refine IdxE.mk 89 3 _ (.inl ⟨_, List.Mem.tail _ (List.Mem.tail _ (List.Mem.tail _ (List.Mem.head _)))⟩) (by omega) (by omega) ?_
            refine J_seq ?_
            refine J_region Tryz.tyOK ?_
            refine FldE.mk 89 3 _ _ (.inl ⟨_, List.Mem.tail _ (List.Mem.tail _ (List.Mem.tail _ (List.Mem.head _)))⟩) (by omega) ?_
            refine FldE.mk 89 3 _ _ (.inl ⟨_, List.Mem.tail _ (List.Mem.tail _ (List.Mem.tail _ (List.Mem.head _)))⟩) (by omega) ?_
            refine LoadE.mk 89 _ _ [.sl y.ua y.uses.length y.uc] (.inl ⟨_, List.Mem.tail _ (List.Mem.tail _ (List.Mem.tail _ (List.Mem.head _)))⟩) (by omega) (by omega) (by decide) (by exact hgu) ?_
            repeat' first | refine ArP.exact (by simp only [inR]; omega) ?_ | refine NewP.mk (fun ad => ?_) | refine SideP.mk (by first | omega | decide) ?_ | refine EqP.mk rfl ?_
            refine AppE.row [_] _ (y.uses.map (C.i .i64)) [.i .i64 ((i : Int) + 1)] 1 rfl (SrcE.sl 3 3 _ _ 1 1 _ rfl rfl (.inl ⟨1, List.Mem.head _⟩) rfl) (by dsimp only; omega) (fun a2 c2 => ?_)
            rw [show y.uses.length + 1 = (y.uses ++ [((i : Int) + 1)]).length by simp, show y.uses.map (C.i .i64) ++ [.i .i64 ((i : Int) + 1)] = (y.uses ++ [((i : Int) + 1)]).map (C.i .i64) by simp]
            refine FldE.mk 89 3 _ _ (.inl ⟨_, List.Mem.tail _ (List.Mem.tail _ (List.Mem.tail _ (List.Mem.tail _ (List.Mem.head _))))⟩) (by omega) ?_
            refine FldE.mk 89 3 _ _ (.inl ⟨_, List.Mem.tail _ (List.Mem.tail _ (List.Mem.tail _ (List.Mem.tail _ (List.Mem.head _))))⟩) (by omega) ?_
            refine StoreE.mk [_, _, _, _] _ _ _ _ _ (noC (ns'.set k (updN y a2 c2 (y.uses ++ [((i : Int) + 1)])))) rfl (by omega) (by omega) (Nat.le_refl 3) (by exact hs2 a2 c2 (y.uses ++ [((i : Int) + 1)])) ?_
            refine J_seq ?_
            refine J_region Tryz.tyOK ?_
            refine FldE.mk 89 3 _ _ (.inl ⟨_, List.Mem.tail _ (List.Mem.tail _ (List.Mem.tail _ (List.Mem.tail _ (List.Mem.head _))))⟩) (by omega) ?_
            refine FldE.mk 89 3 _ _ (.inl ⟨_, List.Mem.tail _ (List.Mem.tail _ (List.Mem.tail _ (List.Mem.tail _ (List.Mem.head _))))⟩) (by omega) ?_
            refine LoadE.mk 89 _ _ [.sl y.ia y.inl.length y.ic] (.inl ⟨_, List.Mem.tail _ (List.Mem.tail _ (List.Mem.tail _ (List.Mem.tail _ (List.Mem.head _))))⟩) (by omega) (by omega) (by decide) (by exact hg1 (updN y a2 c2 (y.uses ++ [((i : Int) + 1)]))) ?_
            repeat' first | refine J_cond ?_ | refine CondP.mk (fun h => ?_) (fun h => ?_) | refine EqP.mk rfl ?_ | refine J_skip ?_
            · refine J_region Tryz.tyOK ?_
              refine EqP.mk rfl ?_
              refine FldE.mk 89 3 _ _ (.inl ⟨_, List.Mem.tail _ (List.Mem.tail _ (List.Mem.tail _ (List.Mem.tail _ (List.Mem.head _))))⟩) (by omega) ?_
              refine FldE.mk 89 3 _ _ (.inl ⟨_, List.Mem.tail _ (List.Mem.tail _ (List.Mem.tail _ (List.Mem.tail _ (List.Mem.head _))))⟩) (by omega) ?_
              refine StoreE.mk [_, _, _, _] _ _ _ _ _ (noC (ns'.set k (kidN (updN y a2 c2 (y.uses ++ [((i : Int) + 1)])) x.ka x.kc x.kids))) rfl (by omega) (by omega) (Nat.le_succ 2) (by exact hs1 (updN y a2 c2 (y.uses ++ [((i : Int) + 1)])) x.ka x.kc x.kids) ?_
              repeat' first
                | refine J_seq ?_ | refine J_region Tryz.tyOK ?_ | refine J_block ?_ | refine J_cond ?_ | refine J_ret ?_ | refine J_skip ?_ | refine J_exit ?_ | refine J_scope ?_
                | refine CondP.yes (by omega) ?_ | refine CondP.no (by omega) ?_ | refine CondP.mk (fun h => ?_) (fun h => ?_) | refine EqP.mk rfl ?_ | refine NewP.mk (fun ad => ?_) | refine ArP.exact (by simp only [inR]; omega) ?_ | refine SideP.mk (by first | omega | (dsimp only; omega) | (simp; omega)) ?_
                | refine Round.mk (i + 1, ns'.set k (kidN (updN y a2 c2 (y.uses ++ [((i : Int) + 1)])) x.ka x.kc x.kids), kv', na', nc') ?_ ?_ ?_ ?_
                | fail
              · dsimp only; omega
              · refine ⟨by dsimp only; omega, hpu (kidN (updN y a2 c2 (y.uses ++ [((i : Int) + 1)])) x.ka x.kc x.kids) ?_, hkn (kidN (updN y a2 c2 (y.uses ++ [((i : Int) + 1)])) x.ka x.kc x.kids) rfl⟩
                have h0 : y.inl = [] := List.eq_nil_of_length_eq_zero (by omega)
                simp [NoM.pure, touchP, kidN, updN, h0, inlEra]
              · repeat' first | exact SubE.nil | refine SubE.cons rfl ?_ ?_ | exact VEq.refl _ | refine VEq.int (by omega) | exact VEq.sl rfl (by dsimp only; rw [List.length_set]) rfl
              · exact (ents_end hk (kidN (updN y a2 c2 (y.uses ++ [((i : Int) + 1)])) x.ka x.kc x.kids) hR).trans (Ents.facts fun m h => ⟨noF_set h.1 ((hfk m ⟨h.2.1, trivial⟩).1), h.2.1, trivial⟩)
            · repeat' first
                | refine J_seq ?_ | refine J_region Tryz.tyOK ?_ | refine J_block ?_ | refine J_cond ?_ | refine J_ret ?_ | refine J_skip ?_ | refine J_exit ?_ | refine J_scope ?_
                | refine CondP.yes (by omega) ?_ | refine CondP.no (by omega) ?_ | refine CondP.mk (fun h => ?_) (fun h => ?_) | refine EqP.mk rfl ?_ | refine NewP.mk (fun ad => ?_) | refine ArP.exact (by simp only [inR]; omega) ?_ | refine SideP.mk (by first | omega | (dsimp only; omega) | (simp; omega)) ?_
                | refine Round.mk (i + 1, ns'.set k (updN y a2 c2 (y.uses ++ [((i : Int) + 1)])), kv', na', nc') ?_ ?_ ?_ ?_
                | fail
              · dsimp only; omega
              · refine ⟨by dsimp only; omega, hpu (updN y a2 c2 (y.uses ++ [((i : Int) + 1)])) ?_, hkn (updN y a2 c2 (y.uses ++ [((i : Int) + 1)])) rfl⟩
                have h0 : inlEra y.inl ≠ [] := fun e => absurd (inlEra_len y.inl) (by rw [e]; simp; omega)
                simp [NoM.pure, touchP, updN, h0]
              · repeat' first | exact SubE.nil | refine SubE.cons rfl ?_ ?_ | exact VEq.refl _ | refine VEq.int (by omega) | exact VEq.sl rfl (by dsimp only; rw [List.length_set]) rfl
              · exact (ents_end hk (updN y a2 c2 (y.uses ++ [((i : Int) + 1)])) hR).trans (Ents.facts fun m h => ⟨noF_set h.1 (hmem m h.1), h.2.1, trivial⟩)
        · have hz : (none : Option V) = some v := (hgn h0).symm.trans hv
          cases hz
      · refine ⟨?_⟩
        obtain ⟨adm, hadm⟩ : ∃ y, y = ad := ⟨_, rfl⟩
        subst hadm
        refine J_cut (α := List NoM × Kv × Option Addr × Nat × Nat) (fun z => [(3, .c (.sl z.2.2.1 z.1.length z.2.2.2.1)), (4, .c (.m 0 ad0)), (5, .c (.i .i64 i)), (6, .c (.p 1 adm 0)), (7, .c (.i .i64 z.2.2.2.2)), (12, .c (.sl ma ms.length mc)), (13, lenV ms.length), (14, .c (.i .i64 i))]) (fun z => .box 1 adm 102 [.i .i64 x.kind, .s x.text, .i .i64 x.sp, .s x.name, .s x.anchor, .sl x.ka x.kids.length x.kc] :: .obj 0 ad0 (mapO z.2.1) :: .row 89 3 z.2.2.1 z.1.length z.2.2.2.1 (noC z.1) :: usesR z.1) (fun z => [noF z.1, inlF ma ms]) 2 (fun z => z.2.2.2.2 < z.1.length ∧ pureN z.1 = growP (pureN ns) x.text ∧ z.2.2.2.2 = atP (pureN ns) x.text ∧ KvN z.2.1 z.1 ∧ z.1.length ≤ i + 1 ∧ ∀ n ∈ z.1, n.uses.length ≤ i) ?_ (fun z hz => ?_)
        · repeat' first
            | refine J_seq ?_ | refine J_region Tryz.tyOK ?_ | refine J_block ?_ | refine J_cond ?_ | refine J_ret ?_ | refine J_skip ?_ | refine J_exit ?_ | refine J_scope ?_
            | refine CondP.yes (by omega) ?_ | refine CondP.no (by omega) ?_ | refine CondP.mk (fun h => ?_) (fun h => ?_) | refine EqP.mk rfl ?_ | refine NewP.mk (fun ad => ?_) | refine ArP.exact (by simp only [inR]; omega) ?_ | refine SideP.mk (by first | omega | (dsimp only; omega) | (simp; omega)) ?_
            | (refine AppE.row [_, _, _] _ (noC ns) [.s x.text, .sl none 0 0, .sl none 0 0] 1 rfl (SrcE.sl 89 89 _ _ 1 _ _ rfl rfl (.inl ⟨_, List.Mem.head _⟩) rfl) (by dsimp only; omega) (fun a' c' => ?_)) | refine MapE.mk kv rfl rfl ?_ | exact absurd (by assumption) ‹¬ x.text = []›
            | fail
          all_goals
            have hap : noC ns ++ [.s x.text, .sl none 0 0, .sl none 0 0] = noC (ns ++ [newN x.text]) := (noC_one ns (newN x.text)).symm
            have hla : ns.length + 1 = (ns ++ [newN x.text]).length := by simp
            refine InFam.mk (ns ++ [newN x.text], kvPut kv x.text (lenV ns.length), a', c', ns.length) ⟨by dsimp only; omega, hgrow, hat.symm, kvN_new (n := newN x.text) hkv, by dsimp only; omega, hus⟩ ?_ ?_
            · repeat' first | exact SubE.nil | refine SubE.cons rfl ?_ ?_ | exact VEq.refl _ | refine VEq.int (by omega) | exact VEq.sl rfl hla rfl
            · exact ents_new
        · obtain ⟨ns', kv', na', nc', k⟩ := z
          obtain ⟨hk, hg, hka, hkv', hnl', hus'⟩ := hz
          dsimp only at hk hg hka hkv' hnl' hus' ⊢
          obtain ⟨R, hR⟩ : ∃ R, R = usesR (ns'.take k) ++ usesR (ns'.drop (k + 1)) := ⟨_, rfl⟩
          refine J_mem (L' := useR ns'[k] :: .box 1 adm 102 [.i .i64 x.kind, .s x.text, .i .i64 x.sp, .s x.name, .s x.anchor, .sl x.ka x.kids.length x.kc] :: .obj 0 ad0 (mapO kv') :: .row 89 3 na' ns'.length nc' (noC ns') :: R) (n' := 2) (Ents.perm (by rw [hR, usesR_split hk]; exact List.perm_middle (l₁ := _ :: _ :: _ :: usesR (ns'.take k)))) ?_
          have hgu : ((noC ns').drop (k * 3 + 2)).take 1 = [.sl ns'[k].ua ns'[k].uses.length ns'[k].uc] := noC_get hk (o := 2) (k := 1) (by omega)
          have hs2 : ∀ ua uc us, setC (k * 3 + 2) [.sl ua us.length uc] (noC ns') = noC (ns'.set k (updN ns'[k] ua uc us)) := fun ua uc us => noC_set hk (o := 2) (Nat.le_refl 3) rfl
          have hg1 : ∀ Y, ((noC (ns'.set k Y)).drop (k * 3 + 1)).take 1 = [.sl Y.ia Y.inl.length Y.ic] := fun Y => by
            have h := noC_get (ns := ns'.set k Y) (i := k) (by rw [List.length_set]; exact hk) (o := 1) (k := 1) (by omega)
            rw [List.getElem_set_self] at h
            exact h
          have hs1 : ∀ Y ka kc ks, setC (k * 3 + 1) [.sl ka ks.length kc] (noC (ns'.set k Y)) = noC (ns'.set k (kidN Y ka kc ks)) := fun Y ka kc ks => by
            have h := noC_set (ns := ns'.set k Y) (j := k) (by rw [List.length_set]; exact hk) (o := 1) (cs := [.sl ka ks.length kc]) (n := kidN Y ka kc ks) (Nat.le_succ 2) (by rw [List.getElem_set_self]; rfl)
            rw [List.set_set] at h
            exact h
          have hul := hus' ns'[k] (List.getElem_mem hk)
          have hmem := fun (m : Im) (h : (noF ns').p m) => h ns'[k] (List.getElem_mem hk)
          have hpu : ∀ Y : NoM, Y.pure = touchP ns'[k].pure (i + 1) (inlEra x.kids) → pureN (ns'.set k Y) = notesP ((inlEra ms).take (i + 1)) := fun Y hY => by rw [hst, hstop, ← hg, ← hka]; exact pure_set hk hY
          have hkn : ∀ Y : NoM, Y.name = ns'[k].name → KvN kv' (ns'.set k Y) := fun Y hY => kvN_set hkv' hk hY
          generalize ns'[k] = y at *
          clear hus' hkv' hg hka hst hstop
          refine J_seq ?_
          refine J_region Tryz.tyOK ?_
          refine IdxE.mk 89 3 _ (.inl ⟨_, List.Mem.tail _ (List.Mem.tail _ (List.Mem.tail _ (List.Mem.head _)))⟩) (by omega) (by omega) ?_
          refine J_seq ?_
          refine J_region Tryz.tyOK ?_
          refine FldE.mk 89 3 _ _ (.inl ⟨_, List.Mem.tail _ (List.Mem.tail _ (List.Mem.tail _ (List.Mem.head _)))⟩) (by omega) ?_
          refine FldE.mk 89 3 _ _ (.inl ⟨_, List.Mem.tail _ (List.Mem.tail _ (List.Mem.tail _ (List.Mem.head _)))⟩) (by omega) ?_
          refine LoadE.mk 89 _ _ [.sl y.ua y.uses.length y.uc] (.inl ⟨_, List.Mem.tail _ (List.Mem.tail _ (List.Mem.tail _ (List.Mem.head _)))⟩) (by omega) (by omega) (by decide) (by exact hgu) ?_
          repeat' first | refine ArP.exact (by simp only [inR]; omega) ?_ | refine NewP.mk (fun ad => ?_) | refine SideP.mk (by first | omega | decide) ?_ | refine EqP.mk rfl ?_
          refine AppE.row [_] _ (y.uses.map (C.i .i64)) [.i .i64 ((i : Int) + 1)] 1 rfl (SrcE.sl 3 3 _ _ 1 1 _ rfl rfl (.inl ⟨1, List.Mem.head _⟩) rfl) (by dsimp only; omega) (fun a2 c2 => ?_)
          rw [show y.uses.length + 1 = (y.uses ++ [((i : Int) + 1)]).length by simp, show y.uses.map (C.i .i64) ++ [.i .i64 ((i : Int) + 1)] = (y.uses ++ [((i : Int) + 1)]).map (C.i .i64) by simp]
          refine FldE.mk 89 3 _ _ (.inl ⟨_, List.Mem.tail _ (List.Mem.tail _ (List.Mem.tail _ (List.Mem.tail _ (List.Mem.head _))))⟩) (by omega) ?_
          refine FldE.mk 89 3 _ _ (.inl ⟨_, List.Mem.tail _ (List.Mem.tail _ (List.Mem.tail _ (List.Mem.tail _ (List.Mem.head _))))⟩) (by omega) ?_
          refine StoreE.mk [_, _, _, _] _ _ _ _ _ (noC (ns'.set k (updN y a2 c2 (y.uses ++ [((i : Int) + 1)])))) rfl (by omega) (by omega) (Nat.le_refl 3) (by exact hs2 a2 c2 (y.uses ++ [((i : Int) + 1)])) ?_
          refine J_seq ?_
          refine J_region Tryz.tyOK ?_
          refine FldE.mk 89 3 _ _ (.inl ⟨_, List.Mem.tail _ (List.Mem.tail _ (List.Mem.tail _ (List.Mem.tail _ (List.Mem.head _))))⟩) (by omega) ?_
          refine FldE.mk 89 3 _ _ (.inl ⟨_, List.Mem.tail _ (List.Mem.tail _ (List.Mem.tail _ (List.Mem.tail _ (List.Mem.head _))))⟩) (by omega) ?_
          refine LoadE.mk 89 _ _ [.sl y.ia y.inl.length y.ic] (.inl ⟨_, List.Mem.tail _ (List.Mem.tail _ (List.Mem.tail _ (List.Mem.tail _ (List.Mem.head _))))⟩) (by omega) (by omega) (by decide) (by exact hg1 (updN y a2 c2 (y.uses ++ [((i : Int) + 1)]))) ?_
          repeat' first | refine J_cond ?_ | refine CondP.mk (fun h => ?_) (fun h => ?_) | refine EqP.mk rfl ?_ | refine J_skip ?_
          · refine J_region Tryz.tyOK ?_
            refine EqP.mk rfl ?_
            refine FldE.mk 89 3 _ _ (.inl ⟨_, List.Mem.tail _ (List.Mem.tail _ (List.Mem.tail _ (List.Mem.tail _ (List.Mem.head _))))⟩) (by omega) ?_
            refine FldE.mk 89 3 _ _ (.inl ⟨_, List.Mem.tail _ (List.Mem.tail _ (List.Mem.tail _ (List.Mem.tail _ (List.Mem.head _))))⟩) (by omega) ?_
            refine StoreE.mk [_, _, _, _] _ _ _ _ _ (noC (ns'.set k (kidN (updN y a2 c2 (y.uses ++ [((i : Int) + 1)])) x.ka x.kc x.kids))) rfl (by omega) (by omega) (Nat.le_succ 2) (by exact hs1 (updN y a2 c2 (y.uses ++ [((i : Int) + 1)])) x.ka x.kc x.kids) ?_
            repeat' first
              | refine J_seq ?_ | refine J_region Tryz.tyOK ?_ | refine J_block ?_ | refine J_cond ?_ | refine J_ret ?_ | refine J_skip ?_ | refine J_exit ?_ | refine J_scope ?_
              | refine CondP.yes (by omega) ?_ | refine CondP.no (by omega) ?_ | refine CondP.mk (fun h => ?_) (fun h => ?_) | refine EqP.mk rfl ?_ | refine NewP.mk (fun ad => ?_) | refine ArP.exact (by simp only [inR]; omega) ?_ | refine SideP.mk (by first | omega | (dsimp only; omega) | (simp; omega)) ?_
              | refine Round.mk (i + 1, ns'.set k (kidN (updN y a2 c2 (y.uses ++ [((i : Int) + 1)])) x.ka x.kc x.kids), kv', na', nc') ?_ ?_ ?_ ?_
              | fail
            · dsimp only; omega
            · refine ⟨by dsimp only; omega, hpu (kidN (updN y a2 c2 (y.uses ++ [((i : Int) + 1)])) x.ka x.kc x.kids) ?_, hkn (kidN (updN y a2 c2 (y.uses ++ [((i : Int) + 1)])) x.ka x.kc x.kids) rfl⟩
              have h0 : y.inl = [] := List.eq_nil_of_length_eq_zero (by omega)
              simp [NoM.pure, touchP, kidN, updN, h0, inlEra]
            · repeat' first | exact SubE.nil | refine SubE.cons rfl ?_ ?_ | exact VEq.refl _ | refine VEq.int (by omega) | exact VEq.sl rfl (by dsimp only; rw [List.length_set]) rfl
            · exact (ents_end hk (kidN (updN y a2 c2 (y.uses ++ [((i : Int) + 1)])) x.ka x.kc x.kids) hR).trans (Ents.facts fun m h => ⟨noF_set h.1 ((hfk m ⟨h.2.1, trivial⟩).1), h.2.1, trivial⟩)
          · repeat' first
              | refine J_seq ?_ | refine J_region Tryz.tyOK ?_ | refine J_block ?_ | refine J_cond ?_ | refine J_ret ?_ | refine J_skip ?_ | refine J_exit ?_ | refine J_scope ?_
              | refine CondP.yes (by omega) ?_ | refine CondP.no (by omega) ?_ | refine CondP.mk (fun h => ?_) (fun h => ?_) | refine EqP.mk rfl ?_ | refine NewP.mk (fun ad => ?_) | refine ArP.exact (by simp only [inR]; omega) ?_ | refine SideP.mk (by first | omega | (dsimp only; omega) | (simp; omega)) ?_
              | refine Round.mk (i + 1, ns'.set k (updN y a2 c2 (y.uses ++ [((i : Int) + 1)])), kv', na', nc') ?_ ?_ ?_ ?_
              | fail
            · dsimp only; omega
            · refine ⟨by dsimp only; omega, hpu (updN y a2 c2 (y.uses ++ [((i : Int) + 1)])) ?_, hkn (updN y a2 c2 (y.uses ++ [((i : Int) + 1)])) rfl⟩
              have h0 : inlEra y.inl ≠ [] := fun e => absurd (inlEra_len y.inl) (by rw [e]; simp; omega)
              simp [NoM.pure, touchP, updN, h0]
            · repeat' first | exact SubE.nil | refine SubE.cons rfl ?_ ?_ | exact VEq.refl _ | refine VEq.int (by omega) | exact VEq.sl rfl (by dsimp only; rw [List.length_set]) rfl
            · exact (ents_end hk (updN y a2 c2 (y.uses ++ [((i : Int) + 1)])) hR).trans (Ents.facts fun m h => ⟨noF_set h.1 (hmem m h.1), h.2.1, trivial⟩)
    · rw [not_or] at hc
      obtain ⟨h0, hf⟩ := hc
      obtain ⟨k0, hk0⟩ := Option.ne_none_iff_exists'.1 hf
      have hkl : k0 < ns.length := findL_lt hk0
      have hG : kvGet kv x.text = some (.c (.i .i64 k0)) := by rw [hkv x.text h0, hk0]; rfl
      have hat : atP (pureN ns) x.text = k0 := by unfold atP; rw [if_neg h0, show (pureN ns).length = ns.length by simp, hk0]; rfl
      have hgrow : pureN ns = growP (pureN ns) x.text := by unfold growP; rw [hat, if_neg (by simp; omega)]
      clear hf
      repeat' first
        | refine J_stop (c := .seq (.seq (.region 7 _ _) _) _) ?_
        | refine J_seq ?_ | refine J_region Tryz.tyOK ?_ | refine J_block ?_ | refine J_cond ?_ | refine J_ret ?_ | refine J_skip ?_ | refine J_exit ?_ | refine J_scope ?_
        | refine CondP.yes (by omega) ?_ | refine CondP.no (by omega) ?_ | refine CondP.mk (fun h => ?_) (fun h => ?_) | refine EqP.mk rfl ?_ | refine NewP.mk (fun ad => ?_) | refine ArP.exact (by simp only [inR]; omega) ?_ | refine SideP.mk (by first | omega | (dsimp only; omega) | (simp; omega)) ?_
        | refine IdxE.mk 102 6 _ (hrd _) (by omega) (by omega) ?_ | refine LoadE.mk 102 ms.length _ _ (hrd _) (by omega) (by omega) (by decide) (by exact hcg) ?_ | refine MapE.mk kv rfl rfl ?_ | (refine LookP.mk (fun v hv => ?_) (fun hv => absurd (hG.symm.trans hv) (by simp)); cases hG.symm.trans hv)
        | fail
      refine ⟨?_⟩
      obtain ⟨adm, hadm⟩ : ∃ y, y = ad := ⟨_, rfl⟩
      subst hadm
      refine J_cut (α := List NoM × Kv × Option Addr × Nat × Nat) (fun z => [(3, .c (.sl z.2.2.1 z.1.length z.2.2.2.1)), (4, .c (.m 0 ad0)), (5, .c (.i .i64 i)), (6, .c (.p 1 adm 0)), (7, .c (.i .i64 z.2.2.2.2)), (12, .c (.sl ma ms.length mc)), (13, lenV ms.length), (14, .c (.i .i64 i))]) (fun z => .box 1 adm 102 [.i .i64 x.kind, .s x.text, .i .i64 x.sp, .s x.name, .s x.anchor, .sl x.ka x.kids.length x.kc] :: .obj 0 ad0 (mapO z.2.1) :: .row 89 3 z.2.2.1 z.1.length z.2.2.2.1 (noC z.1) :: usesR z.1) (fun z => [noF z.1, inlF ma ms]) 2 (fun z => z.2.2.2.2 < z.1.length ∧ pureN z.1 = growP (pureN ns) x.text ∧ z.2.2.2.2 = atP (pureN ns) x.text ∧ KvN z.2.1 z.1 ∧ z.1.length ≤ i + 1 ∧ ∀ n ∈ z.1, n.uses.length ≤ i) ?_ (fun z hz => ?_)
      · repeat' first
          | refine CondP.no h0 ?_
          | refine J_seq ?_ | refine J_region Tryz.tyOK ?_ | refine J_block ?_ | refine J_cond ?_ | refine J_ret ?_ | refine J_skip ?_ | refine J_exit ?_ | refine J_scope ?_
          | refine CondP.yes (by omega) ?_ | refine CondP.no (by omega) ?_ | refine CondP.mk (fun h => ?_) (fun h => ?_) | refine EqP.mk rfl ?_ | refine NewP.mk (fun ad => ?_) | refine ArP.exact (by simp only [inR]; omega) ?_ | refine SideP.mk (by first | omega | (dsimp only; omega) | (simp; omega)) ?_
          | fail
        exact InFam.mk (ns, kv, na, nc, k0) ⟨hkl, hgrow, hat.symm, hkv, by dsimp only; omega, hus0⟩ (by repeat' first | exact SubE.nil | refine SubE.cons rfl ?_ ?_ | exact VEq.refl _ | refine VEq.int (by omega) | refine VEq.sl rfl (by first | rfl | omega | (rw [List.length_append]; rfl) | (simp; omega)) rfl) (Ents.refl _ _)
      · obtain ⟨ns', kv', na', nc', k⟩ := z
        obtain ⟨hk, hg, hka, hkv', hnl', hus'⟩ := hz
        dsimp only at hk hg hka hkv' hnl' hus' ⊢
        obtain ⟨R, hR⟩ : ∃ R, R = usesR (ns'.take k) ++ usesR (ns'.drop (k + 1)) := ⟨_, rfl⟩
        refine J_mem (L' := useR ns'[k] :: .box 1 adm 102 [.i .i64 x.kind, .s x.text, .i .i64 x.sp, .s x.name, .s x.anchor, .sl x.ka x.kids.length x.kc] :: .obj 0 ad0 (mapO kv') :: .row 89 3 na' ns'.length nc' (noC ns') :: R) (n' := 2) (Ents.perm (by rw [hR, usesR_split hk]; exact List.perm_middle (l₁ := _ :: _ :: _ :: usesR (ns'.take k)))) ?_
        have hgu : ((noC ns').drop (k * 3 + 2)).take 1 = [.sl ns'[k].ua ns'[k].uses.length ns'[k].uc] := noC_get hk (o := 2) (k := 1) (by omega)
        have hs2 : ∀ ua uc us, setC (k * 3 + 2) [.sl ua us.length uc] (noC ns') = noC (ns'.set k (updN ns'[k] ua uc us)) := fun ua uc us => noC_set hk (o := 2) (Nat.le_refl 3) rfl
        have hg1 : ∀ Y, ((noC (ns'.set k Y)).drop (k * 3 + 1)).take 1 = [.sl Y.ia Y.inl.length Y.ic] := fun Y => by
          have h := noC_get (ns := ns'.set k Y) (i := k) (by rw [List.length_set]; exact hk) (o := 1) (k := 1) (by omega)
          rw [List.getElem_set_self] at h
          exact h
        have hs1 : ∀ Y ka kc ks, setC (k * 3 + 1) [.sl ka ks.length kc] (noC (ns'.set k Y)) = noC (ns'.set k (kidN Y ka kc ks)) := fun Y ka kc ks => by
          have h := noC_set (ns := ns'.set k Y) (j := k) (by rw [List.length_set]; exact hk) (o := 1) (cs := [.sl ka ks.length kc]) (n := kidN Y ka kc ks) (Nat.le_succ 2) (by rw [List.getElem_set_self]; rfl)
          rw [List.set_set] at h
          exact h
        have hul := hus' ns'[k] (List.getElem_mem hk)
        have hmem := fun (m : Im) (h : (noF ns').p m) => h ns'[k] (List.getElem_mem hk)
        have hpu : ∀ Y : NoM, Y.pure = touchP ns'[k].pure (i + 1) (inlEra x.kids) → pureN (ns'.set k Y) = notesP ((inlEra ms).take (i + 1)) := fun Y hY => by rw [hst, hstop, ← hg, ← hka]; exact pure_set hk hY
        have hkn : ∀ Y : NoM, Y.name = ns'[k].name → KvN kv' (ns'.set k Y) := fun Y hY => kvN_set hkv' hk hY
        generalize ns'[k] = y at *
        clear hus' hkv' hg hka hst hstop
        refine J_seq ?_
        refine J_region Tryz.tyOK ?_
        refine IdxE.mk 89 3 _ (.inl ⟨_, List.Mem.tail _ (List.Mem.tail _ (List.Mem.tail _ (List.Mem.head _)))⟩) (by omega) (by omega) ?_
        refine J_seq ?_
        refine J_region Tryz.tyOK ?_
        refine FldE.mk 89 3 _ _ (.inl ⟨_, List.Mem.tail _ (List.Mem.tail _ (List.Mem.tail _ (List.Mem.head _)))⟩) (by omega) ?_
        refine FldE.mk 89 3 _ _ (.inl ⟨_, List.Mem.tail _ (List.Mem.tail _ (List.Mem.tail _ (List.Mem.head _)))⟩) (by omega) ?_
        refine LoadE.mk 89 _ _ [.sl y.ua y.uses.length y.uc] (.inl ⟨_, List.Mem.tail _ (List.Mem.tail _ (List.Mem.tail _ (List.Mem.head _)))⟩) (by omega) (by omega) (by decide) (by exact hgu) ?_
        repeat' first | refine ArP.exact (by simp only [inR]; omega) ?_ | refine NewP.mk (fun ad => ?_) | refine SideP.mk (by first | omega | decide) ?_ | refine EqP.mk rfl ?_
        refine AppE.row [_] _ (y.uses.map (C.i .i64)) [.i .i64 ((i : Int) + 1)] 1 rfl (SrcE.sl 3 3 _ _ 1 1 _ rfl rfl (.inl ⟨1, List.Mem.head _⟩) rfl) (by dsimp only; omega) (fun a2 c2 => ?_)
        rw [show y.uses.length + 1 = (y.uses ++ [((i : Int) + 1)]).length by simp, show y.uses.map (C.i .i64) ++ [.i .i64 ((i : Int) + 1)] = (y.uses ++ [((i : Int) + 1)]).map (C.i .i64) by simp]
        refine FldE.mk 89 3 _ _ (.inl ⟨_, List.Mem.tail _ (List.Mem.tail _ (List.Mem.tail _ (List.Mem.tail _ (List.Mem.head _))))⟩) (by omega) ?_
        refine FldE.mk 89 3 _ _ (.inl ⟨_, List.Mem.tail _ (List.Mem.tail _ (List.Mem.tail _ (List.Mem.tail _ (List.Mem.head _))))⟩) (by omega) ?_
        refine StoreE.mk [_, _, _, _] _ _ _ _ _ (noC (ns'.set k (updN y a2 c2 (y.uses ++ [((i : Int) + 1)])))) rfl (by omega) (by omega) (Nat.le_refl 3) (by exact hs2 a2 c2 (y.uses ++ [((i : Int) + 1)])) ?_
        refine J_seq ?_
        refine J_region Tryz.tyOK ?_
        refine FldE.mk 89 3 _ _ (.inl ⟨_, List.Mem.tail _ (List.Mem.tail _ (List.Mem.tail _ (List.Mem.tail _ (List.Mem.head _))))⟩) (by omega) ?_
        refine FldE.mk 89 3 _ _ (.inl ⟨_, List.Mem.tail _ (List.Mem.tail _ (List.Mem.tail _ (List.Mem.tail _ (List.Mem.head _))))⟩) (by omega) ?_
        refine LoadE.mk 89 _ _ [.sl y.ia y.inl.length y.ic] (.inl ⟨_, List.Mem.tail _ (List.Mem.tail _ (List.Mem.tail _ (List.Mem.tail _ (List.Mem.head _))))⟩) (by omega) (by omega) (by decide) (by exact hg1 (updN y a2 c2 (y.uses ++ [((i : Int) + 1)]))) ?_
        repeat' first | refine J_cond ?_ | refine CondP.mk (fun h => ?_) (fun h => ?_) | refine EqP.mk rfl ?_ | refine J_skip ?_
        · refine J_region Tryz.tyOK ?_
          refine EqP.mk rfl ?_
          refine FldE.mk 89 3 _ _ (.inl ⟨_, List.Mem.tail _ (List.Mem.tail _ (List.Mem.tail _ (List.Mem.tail _ (List.Mem.head _))))⟩) (by omega) ?_
          refine FldE.mk 89 3 _ _ (.inl ⟨_, List.Mem.tail _ (List.Mem.tail _ (List.Mem.tail _ (List.Mem.tail _ (List.Mem.head _))))⟩) (by omega) ?_
          refine StoreE.mk [_, _, _, _] _ _ _ _ _ (noC (ns'.set k (kidN (updN y a2 c2 (y.uses ++ [((i : Int) + 1)])) x.ka x.kc x.kids))) rfl (by omega) (by omega) (Nat.le_succ 2) (by exact hs1 (updN y a2 c2 (y.uses ++ [((i : Int) + 1)])) x.ka x.kc x.kids) ?_
          repeat' first
            | refine J_seq ?_ | refine J_region Tryz.tyOK ?_ | refine J_block ?_ | refine J_cond ?_ | refine J_ret ?_ | refine J_skip ?_ | refine J_exit ?_ | refine J_scope ?_
            | refine CondP.yes (by omega) ?_ | refine CondP.no (by omega) ?_ | refine CondP.mk (fun h => ?_) (fun h => ?_) | refine EqP.mk rfl ?_ | refine NewP.mk (fun ad => ?_) | refine ArP.exact (by simp only [inR]; omega) ?_ | refine SideP.mk (by first | omega | (dsimp only; omega) | (simp; omega)) ?_
            | refine Round.mk (i + 1, ns'.set k (kidN (updN y a2 c2 (y.uses ++ [((i : Int) + 1)])) x.ka x.kc x.kids), kv', na', nc') ?_ ?_ ?_ ?_
            | fail
          · dsimp only; omega
          · refine ⟨by dsimp only; omega, hpu (kidN (updN y a2 c2 (y.uses ++ [((i : Int) + 1)])) x.ka x.kc x.kids) ?_, hkn (kidN (updN y a2 c2 (y.uses ++ [((i : Int) + 1)])) x.ka x.kc x.kids) rfl⟩
            have h0 : y.inl = [] := List.eq_nil_of_length_eq_zero (by omega)
            simp [NoM.pure, touchP, kidN, updN, h0, inlEra]
          · repeat' first | exact SubE.nil | refine SubE.cons rfl ?_ ?_ | exact VEq.refl _ | refine VEq.int (by omega) | exact VEq.sl rfl (by dsimp only; rw [List.length_set]) rfl
          · exact (ents_end hk (kidN (updN y a2 c2 (y.uses ++ [((i : Int) + 1)])) x.ka x.kc x.kids) hR).trans (Ents.facts fun m h => ⟨noF_set h.1 ((hfk m ⟨h.2.1, trivial⟩).1), h.2.1, trivial⟩)
        · repeat' first
            | refine J_seq ?_ | refine J_region Tryz.tyOK ?_ | refine J_block ?_ | refine J_cond ?_ | refine J_ret ?_ | refine J_skip ?_ | refine J_exit ?_ | refine J_scope ?_
            | refine CondP.yes (by omega) ?_ | refine CondP.no (by omega) ?_ | refine CondP.mk (fun h => ?_) (fun h => ?_) | refine EqP.mk rfl ?_ | refine NewP.mk (fun ad => ?_) | refine ArP.exact (by simp only [inR]; omega) ?_ | refine SideP.mk (by first | omega | (dsimp only; omega) | (simp; omega)) ?_
            | refine Round.mk (i + 1, ns'.set k (updN y a2 c2 (y.uses ++ [((i : Int) + 1)])), kv', na', nc') ?_ ?_ ?_ ?_
            | fail
          · dsimp only; omega
          · refine ⟨by dsimp only; omega, hpu (updN y a2 c2 (y.uses ++ [((i : Int) + 1)])) ?_, hkn (updN y a2 c2 (y.uses ++ [((i : Int) + 1)])) rfl⟩
            have h0 : inlEra y.inl ≠ [] := fun e => absurd (inlEra_len y.inl) (by rw [e]; simp; omega)
            simp [NoM.pure, touchP, updN, h0]
          · repeat' first | exact SubE.nil | refine SubE.cons rfl ?_ ?_ | exact VEq.refl _ | refine VEq.int (by omega) | exact VEq.sl rfl (by dsimp only; rw [List.length_set]) rfl
          · exact (ents_end hk (updN y a2 c2 (y.uses ++ [((i : Int) + 1)])) hR).trans (Ents.facts fun m h => ⟨noF_set h.1 (hmem m h.1), h.2.1, trivial⟩)
  · have hil : i = ms.length := by omega
    subst hil
    have htk : (inlEra ms).take ms.length = inlEra ms := List.take_of_length_le (by rw [inlEra_len]; exact Nat.le_refl _)
    rw [htk] at hpe
    repeat' first
      | refine J_seq ?_ | refine J_region Tryz.tyOK ?_ | refine J_block ?_ | refine J_cond ?_ | refine J_ret ?_ | refine J_skip ?_ | refine J_exit ?_ | refine J_scope ?_
      | refine CondP.yes (by omega) ?_ | refine CondP.no (by omega) ?_ | refine CondP.mk (fun h => ?_) (fun h => ?_) | refine EqP.mk rfl ?_ | refine NewP.mk (fun ad => ?_) | refine ArP.exact (by simp only [inR]; omega) ?_ | refine SideP.mk (by first | omega | (dsimp only; omega) | (simp; omega)) ?_
      | refine FinE.mk [] [_] ⟨na, nc, ns, hpe, rfl, rfl, rfl⟩ (Ents.notes (D := [inlF ma ms]))
      | fail
end Go.Proofs
namespace Go.Proofs
open Go Go.X
set_option maxRecDepth 100000
def noUF (ns : List NoM) : Fact := ⟨fun m => ∀ n ∈ ns, (inlF n.ia n.inl).p m ∧ SlF m 3 1 n.ua n.uses.length (n.uses.map (C.i .i64)),
  fun m m' hm h n hn => ⟨(inlF n.ia n.inl).mono m m' hm (h n hn).1, slF_mono hm (h n hn).2⟩⟩
theorem ents_refEnd {l : Chunk} {a : Option Addr} {c : Nat} {ns : List NoM} {k : Nat} (hk : k < ns.length) (Y : NoM) {D : List Fact} (hY : ∀ m, allD m (noUF ns :: D) → (inlF Y.ia Y.inl).p m) :
    Ents ([l] ++ useR Y :: [.row 89 3 a ns.length c (noC (ns.set k Y))]) (noUF ns :: D) [.row 89 3 a (ns.set k Y).length c (noC (ns.set k Y))] (noUF (ns.set k Y) :: D) := by
  rw [List.length_set]
  refine Ents.drop.trans (Ents.toFact.trans (Ents.facts fun m h => ⟨fun n hn => ?_, h.2.2⟩))
  rcases List.mem_or_eq_of_mem_set hn with hn | rfl
  · exact h.2.1 n hn
  · exact ⟨hY m h.2, h.1⟩
theorem ents_refNew {l : Chunk} {a : Option Addr} {c : Nat} {ns : List NoM} {t : List UInt8} {D : List Fact} : Ents (l :: [.row 89 3 a (ns.length + 1) c (noC ns ++ [.s t, .sl none 0 0, .sl none 0 0])]) (noUF ns :: D)
    [.row 89 3 a (ns ++ [newN t]).length c (noC (ns ++ [newN t]))] (noUF (ns ++ [newN t]) :: D) := by
  have hap : noC ns ++ [.s t, .sl none 0 0, .sl none 0 0] = noC (ns ++ [newN t]) := (noC_one ns (newN t)).symm
  have hla : ns.length + 1 = (ns ++ [newN t]).length := by simp
  rw [hap, hla]
  refine Ents.drop.trans (Ents.facts fun m h => ⟨fun n hn => ?_, h.2⟩)
  rcases List.mem_append.1 hn with hn | hn
  · exact h.1 n hn
  · rw [List.mem_singleton.1 hn]; exact ⟨inlF_none, ⟨fun x hx => (by cases hx), .inl ⟨rfl, rfl⟩⟩⟩
set_option maxHeartbeats 4000000 in
theorem refNotes_ok (bs : List Blk) (hb : blkBulk bs ≤ 20000000) (ba : Option Addr) (bc : Nat) : FnS Tryz.prog 55 [.c (.sl ba bs.length bc)] [] [blkF ba bs] (NotesP (notesP (inlEra (blkMarks bs)))) := by
  have c1 := refMarks_ok _ bs rfl ba bc hb
  have hmb := blkMarks_bulk bs
  have hmsl := inl_len_bulk (blkMarks bs)
  have hmle : (blkMarks bs).length ≤ 20000000 := by omega
  generalize blkMarks bs = ms at *
  clear hmb hmsl
  refine fn_of_J Tryz.tyOK 0 Tryz.func55 (by kernel_rfl) (c := Tryz.f55.body.getD .skip) (by kernel_rfl) Tryz.ntmps55 (rs := Tryz.f55.results.toList) rfl (by simp) (fun G => ?_)
  repeat' first
    | refine J_seq ?_ | refine J_region Tryz.tyOK ?_ | refine J_block ?_ | refine J_cond ?_ | refine J_ret ?_ | refine J_skip ?_ | refine J_exit ?_ | refine J_scope ?_
    | refine CondP.yes (by omega) ?_ | refine CondP.no (by omega) ?_ | refine CondP.mk (fun h => ?_) (fun h => ?_) | refine EqP.mk rfl ?_ | refine NewP.mk (fun ad => ?_) | refine ArP.exact (by simp only [inR]; omega) ?_ | refine SideP.mk (by first | omega | (dsimp only; omega) | (simp; omega)) ?_
    | (refine CallP.mk [] [] [_] _ c1 (List.Perm.refl _) (fun _ h => h) (fun v L' D' hp => ?_); obtain ⟨ma, mc, rfl, rfl, rfl⟩ := hp)
    | fail
  refine J_loop (α := Nat × List NoM × Option Addr × Nat) (fun x => [(3, .c (.sl x.2.2.1 x.2.1.length x.2.2.2)), (4, .c (.sl ma ms.length mc)), (5, .c (.i .i64 x.1))])
    (fun x => [.row 89 3 x.2.2.1 x.2.1.length x.2.2.2 (noC x.2.1)]) (fun x => [noUF x.2.1, inlF ma ms]) 0
    (fun x => x.1 ≤ ms.length ∧ pureN x.2.1 = notesP ((inlEra ms).take x.1)) (fun x => ms.length - x.1)
    (InFam.mk (0, [], none, 0) ⟨Nat.zero_le _, rfl⟩ (by repeat' first | exact SubE.nil | refine SubE.cons rfl ?_ ?_ | exact VEq.refl _ | refine VEq.int (by omega) | refine VEq.sl rfl (by first | rfl | omega | (rw [List.length_append]; rfl) | (simp; omega)) rfl) ((Ents.nilRow (ety := 89) (esz := 3)).trans (Ents.facts fun m h => ⟨fun n hn => (by cases hn), h.1, trivial⟩))) (fun x hx => ?_)
  obtain ⟨i, ns, na, nc⟩ := x
  obtain ⟨hi, hpe⟩ := hx
  dsimp only at hi hpe ⊢
  by_cases hlt : i < ms.length
  · have hlt' : i < (inlEra ms).length := by rw [inlEra_len]; exact hlt
    have hst := notesP_take_succ hlt'
    have hnb := notesP_b (inlEra ms) i (by omega)
    rw [inlEra_get hlt, ← hpe] at hst
    rw [← hpe] at hnb
    have hnl : ns.length ≤ i := by have := hnb.len; simpa using this
    have hc1 : ((inlC ms).drop (i * 6 + 1)).take 1 = [.s ms[i].text] := inlC_get (o := 1) (k := 1) hlt (by omega)
    have hc5 : ((inlC ms).drop (i * 6 + 5)).take 1 = [.sl ms[i].ka ms[i].kids.length ms[i].kc] := inlC_get (o := 5) (k := 1) hlt (by omega)
    have hrd' : ∀ L F, Reads L [F, inlF ma ms] 102 6 ma ms.length (inlC ms) := fun _ _ => inl_reads (fun _ h => ⟨h.2.1, trivial⟩)
    have hfk := inl_kids (a := ma) hlt
    clear hpe hlt'
    generalize ms[i] = x at *
    have hus0 : ∀ n ∈ ns, n.uses.length ≤ i := fun n hn => (hnb.use n.pure (List.mem_map_of_mem hn)).1
    have hstop : addP (pureN ns) i x.era = (growP (pureN ns) x.text).modify (atP (pureN ns) x.text) fun p => touchP p (i + 1) (inlEra x.kids) := by unfold addP; rw [Inl.era_text, Inl.era_kids]
    have hale := atP_le (pureN ns) x.text
    have hpl : (pureN ns).length = ns.length := by simp
    repeat' first
      | refine J_stop (c := .seq (.seq (.region 7 _ _) _) _) ?_
      | refine J_seq ?_ | refine J_region Tryz.tyOK ?_ | refine J_block ?_ | refine J_cond ?_ | refine J_ret ?_ | refine J_skip ?_ | refine J_exit ?_ | refine J_scope ?_
      | refine CondP.yes (by omega) ?_ | refine CondP.no (by omega) ?_ | refine CondP.mk (fun h => ?_) (fun h => ?_) | refine EqP.mk rfl ?_ | refine NewP.mk (fun ad => ?_) | refine ArP.exact (by simp only [inR]; omega) ?_ | refine SideP.mk (by first | omega | (dsimp only; omega) | (simp; omega)) ?_
      | fail
    refine ⟨?_⟩
    refine J_cut (α := Unit) (fun _ => [(3, .c (.sl na ns.length nc)), (4, .c (.sl ma ms.length mc)), (5, .c (.i .i64 i)), (6, .c (.i .i64 (atP (pureN ns) x.text)))]) (fun _ => [.row 89 3 na ns.length nc (noC ns)]) (fun _ => [noUF ns, inlF ma ms]) 0 (fun _ => True) ?_ (fun _ _ => ?_)
    · repeat' first
        | refine J_seq ?_ | refine J_region Tryz.tyOK ?_ | refine J_block ?_ | refine J_cond ?_ | refine J_ret ?_ | refine J_skip ?_ | refine J_exit ?_ | refine J_scope ?_
        | refine CondP.yes (by omega) ?_ | refine CondP.no (by omega) ?_ | refine CondP.mk (fun h => ?_) (fun h => ?_) | refine EqP.mk rfl ?_ | refine NewP.mk (fun ad => ?_) | refine ArP.exact (by simp only [inR]; omega) ?_ | refine SideP.mk (by first | omega | (dsimp only; omega) | (simp; omega)) ?_
        | fail
      refine J_loop (α := Nat × Nat) (fun y => [(3, .c (.sl na ns.length nc)), (4, .c (.sl ma ms.length mc)), (5, .c (.i .i64 i)), (6, .c (.i .i64 y.2)), (7, .c (.i .i64 y.1))]) (fun _ => [.row 89 3 na ns.length nc (noC ns)]) (fun _ => [noUF ns, inlF ma ms]) 0
        (fun y => y.1 ≤ ns.length ∧ y.2 = if x.text = [] then ns.length else (findL (namesP (pureN ns)) x.text y.1).getD ns.length) (fun y => ns.length - y.1) (InFam.mk (0, ns.length) ⟨Nat.zero_le _, by dsimp only; split <;> rfl⟩ (by repeat' first | exact SubE.nil | refine SubE.cons rfl ?_ ?_ | exact VEq.refl _ | refine VEq.int (by omega) | refine VEq.sl rfl (by first | rfl | omega | (rw [List.length_append]; rfl) | (simp; omega)) rfl) (Ents.refl _ _)) (fun y hy => ?_)
      obtain ⟨k, q⟩ := y
      obtain ⟨hk, hq⟩ := hy
      dsimp only at hk hq ⊢
      by_cases hkl : k < ns.length
      · have hgn : ((noC ns).drop (k * 3 + 0)).take 1 = [.s ns[k].name] := noC_get hkl (o := 0) (k := 1) (by omega)
        have hnm : (namesP (pureN ns)).getD k [] = ns[k].name := by rw [names_pure]; simp [hkl]
        have hf : findL (namesP (pureN ns)) x.text (k + 1) = if ns[k].name = x.text then some k else findL (namesP (pureN ns)) x.text k := by rw [findL, hnm]
        generalize ns[k].name = nm at *
        have hno : x.text = [] → q = if x.text = [] then ns.length else (findL (namesP (pureN ns)) x.text (k + 1)).getD ns.length := fun h => by rw [hq, if_pos h, if_pos h]
        have hye : ¬ x.text = [] → nm = x.text → k = if x.text = [] then ns.length else (findL (namesP (pureN ns)) x.text (k + 1)).getD ns.length := fun h h' => by rw [if_neg h, hf, if_pos h']; rfl
        have hne : ¬ x.text = [] → ¬ nm = x.text → q = if x.text = [] then ns.length else (findL (namesP (pureN ns)) x.text (k + 1)).getD ns.length := fun h h' => by rw [hq, if_neg h, if_neg h, hf, if_neg h']
        clear hq hf hnm
        repeat' first
          | refine J_seq ?_ | refine J_region Tryz.tyOK ?_ | refine J_block ?_ | refine J_cond ?_ | refine J_ret ?_ | refine J_skip ?_ | refine J_exit ?_ | refine J_scope ?_
          | refine CondP.yes (by omega) ?_ | refine CondP.no (by omega) ?_ | refine CondP.mk (fun h => ?_) (fun h => ?_) | refine EqP.mk rfl ?_ | refine NewP.mk (fun ad => ?_) | refine ArP.exact (by simp only [inR]; omega) ?_ | refine SideP.mk (by first | omega | (dsimp only; omega) | (simp; omega)) ?_
          | refine J_drawU (id := 10) Tryz.tyOK (by kernel_rfl) [0, 0, 3, 7, 15, 31, 63, 127, 127, 511, 1023, 2047, 127, 127, 12415, 28799, 61567, 131071, 262143] (.leaf [0, 1, 2, 3, 4, 5, 6, 7, 8, 9, 10, 11, 12, 13, 14, 15, 16, 17, 18]) [] [27, 34, 39] 19 true (by kernel_rfl) ?_ | refine TwoP.mk ?_ ?_ | refine GoP.mk (by repeat (first | exact List.Sublist.slnil | refine List.Sublist.cons_cons _ ?_ | refine List.Sublist.cons _ ?_)) (by first | exact fun _ h => h | exact fun _ h => h.2 | exact fun _ h => ((allD_append _ _).1 h).2) ?_ | exact trivial | refine EntP.mk (Ents.ofSub (by repeat (first | exact List.Sublist.slnil | refine List.Sublist.cons_cons _ ?_ | refine List.Sublist.cons _ ?_)) (by first | exact fun _ h => h | exact fun _ _ => trivial | exact fun _ h => h.2 | exact fun _ h => h.2.2.2.2 | exact fun _ h => h.2.2 | exact fun _ h => h.2.2.2 | exact fun _ h => h.2.2.2.2.2 | exact fun _ h => h.2.2.2.2.2.2 | exact fun _ h => h.2.2.2.2.2.2.2 | exact fun _ h => h.2.2.2.2.2.2.2.2 | exact fun _ h => h.2.2.2.2.2.2.2.2.2 | exact fun _ h => h.2.2.2.2.2.2.2.2.2.2 | exact fun _ h => ((allD_append _ _).1 h).2)) ?_ | refine IdxE.mk 102 6 _ (hrd' _ _) (by omega) (by omega) ?_ | refine FldE.mk 102 6 _ _ (hrd' _ _) (by omega) ?_ | refine LoadE.mk 102 ms.length _ _ (hrd' _ _) (by omega) (by omega) (by decide) (by exact hc1) ?_ | refine IdxE.mk 89 3 _ (.inl ⟨_, List.Mem.head _⟩) (by omega) (by omega) ?_ | refine FldE.mk 89 3 _ _ (.inl ⟨_, List.Mem.head _⟩) (by omega) ?_ | refine LoadE.mk 89 _ _ [.s nm] (.inl ⟨_, List.Mem.head _⟩) (by omega) (by omega) (by decide) (by exact hgn) ?_
          | fail
        all_goals first
          | (have hxx := hye (by assumption) (by assumption)
             exact Round.mk (k + 1, k) (by dsimp only; omega) ⟨by dsimp only; omega, hxx⟩ (by repeat' first | exact SubE.nil | refine SubE.cons rfl ?_ ?_ | exact VEq.refl _ | refine VEq.int (by omega)) (Ents.refl _ _))
          | (have hxx := hne (by assumption) (by assumption)
             exact Round.mk (k + 1, q) (by dsimp only; omega) ⟨by dsimp only; omega, hxx⟩ (by repeat' first | exact SubE.nil | refine SubE.cons rfl ?_ ?_ | exact VEq.refl _ | refine VEq.int (by omega)) (Ents.refl _ _))
          | (have hxx := hno (by first | assumption | (simp_all; done))
             exact Round.mk (k + 1, q) (by dsimp only; omega) ⟨by dsimp only; omega, hxx⟩ (by repeat' first | exact SubE.nil | refine SubE.cons rfl ?_ ?_ | exact VEq.refl _ | refine VEq.int (by omega)) (Ents.refl _ _))
      · have hkk : k = ns.length := by omega
        subst hkk
        have hqa : q = atP (pureN ns) x.text := by rw [hq]; unfold atP; rw [hpl]
        subst hqa
        repeat' first
          | refine J_seq ?_ | refine J_region Tryz.tyOK ?_ | refine J_block ?_ | refine J_cond ?_ | refine J_ret ?_ | refine J_skip ?_ | refine J_exit ?_ | refine J_scope ?_
          | refine CondP.yes (by omega) ?_ | refine CondP.no (by omega) ?_ | refine CondP.mk (fun h => ?_) (fun h => ?_) | refine EqP.mk rfl ?_ | refine NewP.mk (fun ad => ?_) | refine ArP.exact (by simp only [inR]; omega) ?_ | refine SideP.mk (by first | omega | (dsimp only; omega) | (simp; omega)) ?_
          | exact InFam.mk () trivial (by repeat' first | exact SubE.nil | refine SubE.cons rfl ?_ ?_ | exact VEq.refl _ | refine VEq.int (by omega) | refine VEq.sl rfl (by first | rfl | omega | (rw [List.length_append]; rfl) | (simp; omega)) rfl) (Ents.refl _ _)
          | fail
    · refine J_cut (α := List NoM × Option Addr × Nat × Nat) (fun z => [(3, .c (.sl z.2.1 z.1.length z.2.2.1)), (4, .c (.sl ma ms.length mc)), (5, .c (.i .i64 i)), (6, .c (.i .i64 z.2.2.2))]) (fun z => [.row 89 3 z.2.1 z.1.length z.2.2.1 (noC z.1)]) (fun z => [noUF z.1, inlF ma ms]) 1
        (fun z => z.2.2.2 < z.1.length ∧ pureN z.1 = growP (pureN ns) x.text ∧ z.2.2.2 = atP (pureN ns) x.text ∧ z.1.length ≤ i + 1 ∧ ∀ n ∈ z.1, n.uses.length ≤ i) ?_ (fun z hz => ?_)
      · by_cases hat : atP (pureN ns) x.text = ns.length
        · have hgrow : pureN (ns ++ [newN x.text]) = growP (pureN ns) x.text := by unfold growP; rw [hpl, if_pos hat]; simp [pureN, NoM.pure, inlEra, newN]
          have hus : ∀ n ∈ ns ++ [newN x.text], n.uses.length ≤ i := fun n hn => by
            rcases List.mem_append.1 hn with hn | hn
            · exact hus0 n hn
            · rw [List.mem_singleton.1 hn]; exact Nat.zero_le i
          repeat' first
            | refine CondP.yes (by rw [hat]) ?_
            | refine J_seq ?_ | refine J_region Tryz.tyOK ?_ | refine J_block ?_ | refine J_cond ?_ | refine J_ret ?_ | refine J_skip ?_ | refine J_exit ?_ | refine J_scope ?_
            | refine CondP.yes (by omega) ?_ | refine CondP.no (by omega) ?_ | refine CondP.mk (fun h => ?_) (fun h => ?_) | refine EqP.mk rfl ?_ | refine NewP.mk (fun ad => ?_) | refine ArP.exact (by simp only [inR]; omega) ?_ | refine SideP.mk (by first | omega | (dsimp only; omega) | (simp; omega)) ?_
            | refine IdxE.mk 102 6 _ (hrd' _ _) (by omega) (by omega) ?_ | refine FldE.mk 102 6 _ _ (hrd' _ _) (by omega) ?_ | refine LoadE.mk 102 ms.length _ _ (hrd' _ _) (by omega) (by omega) (by decide) (by exact hc1) ?_ | (refine AppE.row [_] _ (noC ns) [.s x.text, .sl none 0 0, .sl none 0 0] 1 rfl (SrcE.sl 89 89 _ _ 1 _ _ rfl rfl (.inl ⟨_, List.Mem.head _⟩) rfl) (by dsimp only; omega) (fun a' c' => ?_))
            | fail
          refine InFam.mk (ns ++ [newN x.text], a', c', ns.length) ⟨by simp, hgrow, hat.symm, by simp; omega, hus⟩ ?_ ents_refNew
          repeat' first | exact SubE.nil | refine SubE.cons rfl ?_ ?_ | exact VEq.refl _ | refine VEq.int (by dsimp only; omega) | exact VEq.sl rfl (by simp) rfl
        · have hgrow : pureN ns = growP (pureN ns) x.text := by unfold growP; rw [hpl, if_neg hat]
          have hat2 : ¬ ((atP (pureN ns) x.text : Nat) : Int) = ((ns.length : Nat) : Int) := by omega
          repeat' first
            | refine CondP.no hat2 ?_
            | refine J_seq ?_ | refine J_region Tryz.tyOK ?_ | refine J_block ?_ | refine J_cond ?_ | refine J_ret ?_ | refine J_skip ?_ | refine J_exit ?_ | refine J_scope ?_
            | refine CondP.yes (by omega) ?_ | refine CondP.no (by omega) ?_ | refine CondP.mk (fun h => ?_) (fun h => ?_) | refine EqP.mk rfl ?_ | refine NewP.mk (fun ad => ?_) | refine ArP.exact (by simp only [inR]; omega) ?_ | refine SideP.mk (by first | omega | (dsimp only; omega) | (simp; omega)) ?_
            | fail
          exact InFam.mk (ns, na, nc, atP (pureN ns) x.text) ⟨by dsimp only; omega, hgrow, rfl, by dsimp only; omega, hus0⟩ (by repeat' first | exact SubE.nil | refine SubE.cons rfl ?_ ?_ | exact VEq.refl _ | refine VEq.int (by omega) | refine VEq.sl rfl (by first | rfl | omega | (rw [List.length_append]; rfl) | (simp; omega)) rfl) (Ents.refl _ _)
      · obtain ⟨ns', na', nc', k⟩ := z
        obtain ⟨hk, hg, hka, hnl', hus'⟩ := hz
        dsimp only at hk hg hka hnl' hus' ⊢
        have hgu : ((noC ns').drop (k * 3 + 2)).take 1 = [.sl ns'[k].ua ns'[k].uses.length ns'[k].uc] := noC_get hk (o := 2) (k := 1) (by omega)
        have hgi : ((noC ns').drop (k * 3 + 1)).take 1 = [.sl ns'[k].ia ns'[k].inl.length ns'[k].ic] := noC_get hk (o := 1) (k := 1) (by omega)
        have hs2 : ∀ ua uc us, setC (k * 3 + 2) [.sl ua us.length uc] (noC ns') = noC (ns'.set k (updN ns'[k] ua uc us)) := fun ua uc us => noC_set hk (o := 2) (Nat.le_refl 3) rfl
        have hs1 : ∀ ka kc ks, setC (k * 3 + 1) [.sl ka ks.length kc] (noC ns') = noC (ns'.set k (kidN ns'[k] ka kc ks)) := fun ka kc ks => noC_set hk (o := 1) (cs := [.sl ka ks.length kc]) (n := kidN ns'[k] ka kc ks) (Nat.le_succ 2) rfl
        have hg2 : ∀ Y, ((noC (ns'.set k Y)).drop (k * 3 + 2)).take 1 = [.sl Y.ua Y.uses.length Y.uc] := fun Y => by
          have h := noC_get (ns := ns'.set k Y) (i := k) (by rw [List.length_set]; exact hk) (o := 2) (k := 1) (by omega)
          rw [List.getElem_set_self] at h
          exact h
        have hss : ∀ Y ua uc us, setC (k * 3 + 2) [.sl ua us.length uc] (noC (ns'.set k Y)) = noC (ns'.set k (updN Y ua uc us)) := fun Y ua uc us => by
          have h := noC_set (ns := ns'.set k Y) (j := k) (by rw [List.length_set]; exact hk) (o := 2) (cs := [.sl ua us.length uc]) (n := updN Y ua uc us) (Nat.le_refl 3) (by rw [List.getElem_set_self]; rfl)
          rw [List.set_set] at h
          exact h
        have hul := hus' ns'[k] (List.getElem_mem hk)
        have hmi := fun (m : Im) (h : (noUF ns').p m) => (h ns'[k] (List.getElem_mem hk)).1
        have hmu := fun (m : Im) (h : (noUF ns').p m) => (h ns'[k] (List.getElem_mem hk)).2
        have hpu : ∀ Y : NoM, Y.pure = touchP ns'[k].pure (i + 1) (inlEra x.kids) → pureN (ns'.set k Y) = notesP ((inlEra ms).take (i + 1)) := fun Y hY => by rw [hst, hstop, ← hg, ← hka]; exact pure_set hk hY
        have hgk2 := hg2 (kidN ns'[k] x.ka x.kc x.kids)
        have hk2 := hss (kidN ns'[k] x.ka x.kc x.kids)
        generalize ns'[k] = y at *
        clear hus' hg hka hst hstop hg2 hss
        refine J_seq ?_
        refine J_seq ?_
        refine J_region Tryz.tyOK ?_
        refine IdxE.mk 89 3 _ (.inl ⟨_, List.Mem.head _⟩) (by omega) (by omega) ?_
        refine FldE.mk 89 3 _ _ (.inl ⟨_, List.Mem.head _⟩) (by omega) ?_
        refine LoadE.mk 89 _ _ [.sl y.ia y.inl.length y.ic] (.inl ⟨_, List.Mem.head _⟩) (by omega) (by omega) (by decide) (by exact hgi) ?_
        repeat' first | refine J_cond ?_ | refine CondP.mk (fun h => ?_) (fun h => ?_) | refine EqP.mk rfl ?_ | refine J_skip ?_
        · refine J_region Tryz.tyOK ?_
          refine IdxE.mk 102 6 _ (hrd' _ _) (by omega) (by omega) ?_
          refine FldE.mk 102 6 _ _ (hrd' _ _) (by omega) ?_
          refine LoadE.mk 102 ms.length _ _ (hrd' _ _) (by omega) (by omega) (by decide) (by exact hc5) ?_
          refine IdxE.mk 89 3 _ (.inl ⟨_, List.Mem.head _⟩) (by omega) (by omega) ?_
          refine FldE.mk 89 3 _ _ (.inl ⟨_, List.Mem.head _⟩) (by omega) ?_
          refine StoreE.mk [] _ _ _ _ _ (noC (ns'.set k (kidN y x.ka x.kc x.kids))) rfl (by omega) (by omega) (Nat.le_succ 2) (by exact hs1 x.ka x.kc x.kids) ?_
          refine J_seq ?_
          refine J_region Tryz.tyOK ?_
          refine IdxE.mk 89 3 _ (.inl ⟨_, List.Mem.head _⟩) (by omega) (by omega) ?_
          refine FldE.mk 89 3 _ _ (.inl ⟨_, List.Mem.head _⟩) (by omega) ?_
          refine LoadE.mk 89 _ _ [.sl y.ua y.uses.length y.uc] (.inl ⟨_, List.Mem.head _⟩) (by omega) (by omega) (by decide) (by exact hgk2) ?_
          refine AppE.nil (y.uses.map (C.i .i64)) y.uses.length rfl rfl rfl (SrcE.sl 3 3 _ _ _ _ _ rfl rfl (.inr fun m h => hmu m h.1) (by simp)) (by dsimp only; omega) (fun a1 c1 => ?_)
          refine J_region Tryz.tyOK ?_
          repeat' first | refine ArP.exact (by simp only [inR]; omega) ?_ | refine NewP.mk (fun ad => ?_) | refine SideP.mk (by first | omega | decide) ?_ | refine EqP.mk rfl ?_
          refine AppE.row [_] _ (y.uses.map (C.i .i64)) [.i .i64 ((i : Int) + 1)] 1 rfl (SrcE.sl 3 3 _ _ 1 1 _ rfl rfl (.inl ⟨1, List.Mem.head _⟩) rfl) (by dsimp only; omega) (fun a2 c2 => ?_)
          rw [show y.uses.length + 1 = (y.uses ++ [((i : Int) + 1)]).length by simp, show y.uses.map (C.i .i64) ++ [.i .i64 ((i : Int) + 1)] = (y.uses ++ [((i : Int) + 1)]).map (C.i .i64) by simp]
          refine IdxE.mk 89 3 _ (.inl ⟨_, List.Mem.tail _ (List.Mem.tail _ (List.Mem.head _))⟩) (by omega) (by omega) ?_
          refine FldE.mk 89 3 _ _ (.inl ⟨_, List.Mem.tail _ (List.Mem.tail _ (List.Mem.head _))⟩) (by omega) ?_
          refine StoreE.mk [_, _] _ _ _ _ _ (noC (ns'.set k (updN (kidN y x.ka x.kc x.kids) a2 c2 (y.uses ++ [((i : Int) + 1)])))) rfl (by omega) (by omega) (Nat.le_refl 3) (by exact hk2 a2 c2 (y.uses ++ [((i : Int) + 1)])) ?_
          repeat' first
            | refine J_seq ?_ | refine J_region Tryz.tyOK ?_ | refine J_block ?_ | refine J_cond ?_ | refine J_ret ?_ | refine J_skip ?_ | refine J_exit ?_ | refine J_scope ?_
            | refine CondP.yes (by omega) ?_ | refine CondP.no (by omega) ?_ | refine CondP.mk (fun h => ?_) (fun h => ?_) | refine EqP.mk rfl ?_ | refine NewP.mk (fun ad => ?_) | refine ArP.exact (by simp only [inR]; omega) ?_ | refine SideP.mk (by first | omega | (dsimp only; omega) | (simp; omega)) ?_
            | refine Round.mk (i + 1, ns'.set k (updN (kidN y x.ka x.kc x.kids) a2 c2 (y.uses ++ [((i : Int) + 1)])), na', nc') ?_ ?_ ?_ ?_
            | fail
          · dsimp only; omega
          · refine ⟨by dsimp only; omega, hpu (updN (kidN y x.ka x.kc x.kids) a2 c2 (y.uses ++ [((i : Int) + 1)])) ?_⟩
            have h0 : y.inl = [] := List.eq_nil_of_length_eq_zero (by omega)
            simp [NoM.pure, touchP, kidN, updN, h0, inlEra]
          · repeat' first | exact SubE.nil | refine SubE.cons rfl ?_ ?_ | exact VEq.refl _ | refine VEq.int (by omega) | exact VEq.sl rfl (by dsimp only; rw [List.length_set]) rfl
          · exact ents_refEnd hk (updN (kidN y x.ka x.kc x.kids) a2 c2 (y.uses ++ [((i : Int) + 1)])) (fun m h => (hfk m ⟨h.2.1, trivial⟩).1)
        · refine J_seq ?_
          refine J_region Tryz.tyOK ?_
          refine IdxE.mk 89 3 _ (.inl ⟨_, List.Mem.head _⟩) (by omega) (by omega) ?_
          refine FldE.mk 89 3 _ _ (.inl ⟨_, List.Mem.head _⟩) (by omega) ?_
          refine LoadE.mk 89 _ _ [.sl y.ua y.uses.length y.uc] (.inl ⟨_, List.Mem.head _⟩) (by omega) (by omega) (by decide) (by exact hgu) ?_
          refine AppE.nil (y.uses.map (C.i .i64)) y.uses.length rfl rfl rfl (SrcE.sl 3 3 _ _ _ _ _ rfl rfl (.inr fun m h => hmu m h.1) (by simp)) (by dsimp only; omega) (fun a1 c1 => ?_)
          refine J_region Tryz.tyOK ?_
          repeat' first | refine ArP.exact (by simp only [inR]; omega) ?_ | refine NewP.mk (fun ad => ?_) | refine SideP.mk (by first | omega | decide) ?_ | refine EqP.mk rfl ?_
          refine AppE.row [_] _ (y.uses.map (C.i .i64)) [.i .i64 ((i : Int) + 1)] 1 rfl (SrcE.sl 3 3 _ _ 1 1 _ rfl rfl (.inl ⟨1, List.Mem.head _⟩) rfl) (by dsimp only; omega) (fun a2 c2 => ?_)
          rw [show y.uses.length + 1 = (y.uses ++ [((i : Int) + 1)]).length by simp, show y.uses.map (C.i .i64) ++ [.i .i64 ((i : Int) + 1)] = (y.uses ++ [((i : Int) + 1)]).map (C.i .i64) by simp]
          refine IdxE.mk 89 3 _ (.inl ⟨_, List.Mem.tail _ (List.Mem.tail _ (List.Mem.head _))⟩) (by omega) (by omega) ?_
          refine FldE.mk 89 3 _ _ (.inl ⟨_, List.Mem.tail _ (List.Mem.tail _ (List.Mem.head _))⟩) (by omega) ?_
          refine StoreE.mk [_, _] _ _ _ _ _ (noC (ns'.set k (updN y a2 c2 (y.uses ++ [((i : Int) + 1)])))) rfl (by omega) (by omega) (Nat.le_refl 3) (by exact hs2 a2 c2 (y.uses ++ [((i : Int) + 1)])) ?_
          repeat' first
            | refine J_seq ?_ | refine J_region Tryz.tyOK ?_ | refine J_block ?_ | refine J_cond ?_ | refine J_ret ?_ | refine J_skip ?_ | refine J_exit ?_ | refine J_scope ?_
            | refine CondP.yes (by omega) ?_ | refine CondP.no (by omega) ?_ | refine CondP.mk (fun h => ?_) (fun h => ?_) | refine EqP.mk rfl ?_ | refine NewP.mk (fun ad => ?_) | refine ArP.exact (by simp only [inR]; omega) ?_ | refine SideP.mk (by first | omega | (dsimp only; omega) | (simp; omega)) ?_
            | refine Round.mk (i + 1, ns'.set k (updN y a2 c2 (y.uses ++ [((i : Int) + 1)])), na', nc') ?_ ?_ ?_ ?_
            | fail
          · dsimp only; omega
          · refine ⟨by dsimp only; omega, hpu (updN y a2 c2 (y.uses ++ [((i : Int) + 1)])) ?_⟩
            have h0 : inlEra y.inl ≠ [] := fun e => absurd (inlEra_len y.inl) (by rw [e]; simp; omega)
            simp [NoM.pure, touchP, updN, h0]
          · repeat' first | exact SubE.nil | refine SubE.cons rfl ?_ ?_ | exact VEq.refl _ | refine VEq.int (by omega) | exact VEq.sl rfl (by dsimp only; rw [List.length_set]) rfl
          · exact ents_refEnd hk (updN y a2 c2 (y.uses ++ [((i : Int) + 1)])) (fun m h => hmi m h.1)
  · have hil : i = ms.length := by omega
    subst hil
    have htk : (inlEra ms).take ms.length = inlEra ms := List.take_of_length_le (by rw [inlEra_len]; exact Nat.le_refl _)
    rw [htk] at hpe
    repeat' first
      | refine J_seq ?_ | refine J_region Tryz.tyOK ?_ | refine J_block ?_ | refine J_cond ?_ | refine J_ret ?_ | refine J_skip ?_ | refine J_exit ?_ | refine J_scope ?_
      | refine CondP.yes (by omega) ?_ | refine CondP.no (by omega) ?_ | refine CondP.mk (fun h => ?_) (fun h => ?_) | refine EqP.mk rfl ?_ | refine NewP.mk (fun ad => ?_) | refine ArP.exact (by simp only [inR]; omega) ?_ | refine SideP.mk (by first | omega | (dsimp only; omega) | (simp; omega)) ?_
      | refine FinE.mk [] [_] ⟨na, nc, ns, hpe, rfl, rfl, rfl⟩ (Ents.toFact.trans (Ents.facts fun m h => ⟨⟨h.1, h.2.1⟩, trivial⟩))
      | fail
end Go.Proofs
