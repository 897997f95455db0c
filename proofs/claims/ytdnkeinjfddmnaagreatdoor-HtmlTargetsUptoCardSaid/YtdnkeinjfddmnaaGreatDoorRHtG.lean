/- This text proves the statement HtmlTargets for every input of bulk at most 1048576: the call returns true, and leaves its arguments alone. -/
import Derived.Test.YtdnkeinjfddmnaaGreatDoorR04
import Derived.Test.YtdnkeinjfddmnaaGreatDoorR05
import Derived.Test.YtdnkeinjfddmnaaGreatDoorR10
import Derived.Test.YtdnkeinjfddmnaaGreatDoorR08
set_option linter.all false

namespace Go.Proofs
open Go Go.X
set_option maxRecDepth 100000
set_option maxHeartbeats 4000000

theorem refCompareT_ok (a : Int) (x : List UInt8) (b : Int) (y : List UInt8) : FnS Tryz.prog 174 [.agg [.i .i64 a, .s x], .agg [.i .i64 b, .s y]] [] [] (Is (.c (.i .i64 (compareT a x b y)))) := by
  have hl := less_cmp x y
  have he := cmpB_eq x y
  have hr := cmpB_range x y
  have hi := cmpI a b
  obtain ⟨k, hk⟩ : ∃ k, compareT a x b y = k := ⟨_, rfl⟩
  have hk' := hk
  unfold compareT at hk
  rw [hk']
  refine fn_of_J Tryz.tyOK 0 Tryz.func174 (by kernel_rfl) (c := Tryz.f174.body.getD .skip) (by kernel_rfl) Tryz.ntmps174 (rs := Tryz.f174.results.toList) rfl (by simp) (fun G => ?_)
  repeat' first
    | refine J_seq ?_ | refine J_region Tryz.tyOK ?_ | refine J_block ?_ | refine J_cond ?_ | refine J_ret ?_ | refine J_skip ?_ | refine J_exit ?_ | refine J_scope ?_
    | refine CondP.yes (by omega) ?_ | refine CondP.no (by omega) ?_ | refine CondP.mk (fun h => ?_) (fun h => ?_) | refine EqP.mk rfl ?_ | refine NewP.mk (fun ad => ?_) | refine ArP.exact (by simp only [inR]; omega) ?_ | refine SideP.mk (by first | omega | (dsimp only; omega) | (simp; omega)) ?_
    | refine FinE.int ?_
    | fail
  all_goals
    rcases hi with ⟨h0, h1⟩ | ⟨h0, h1⟩ | ⟨h0, h1⟩
    all_goals
      rw [h1] at hk
      simp at hk
      first | omega | (simp_all; done) | (simp_all; omega)

end Go.Proofs

namespace Go.Proofs
open Go Go.X
set_option maxRecDepth 100000

/-! ### The targets of links -/
def Inl.own (x : Inl) : List TT := if x.kind = 4 ∧ ¬ (x.sp = 0 ∧ x.name = [] ∧ True) then [(x.sp, x.name)] else []
mutual
def Inl.links : Inl → List TT
  | .mk k t s n a ka kc kids => (Inl.mk k t s n a ka kc kids).own ++ inlLinks kids
def inlLinks : List Inl → List TT
  | [] => []
  | x :: r => x.links ++ inlLinks r
end
mutual
def Blk.links : Blk → List TT
  | .mk _ _ _ _ _ inl _ _ kids => inlLinks inl ++ blkLinks kids
def blkLinks : List Blk → List TT
  | [] => []
  | x :: r => x.links ++ blkLinks r
end
theorem Inl.links_eq (x : Inl) : x.links = x.own ++ inlLinks x.kids := by cases x; rw [Inl.links]; rfl
theorem Blk.links_eq (x : Blk) : x.links = inlLinks x.inl ++ blkLinks x.kids := by cases x; rw [Blk.links]; rfl
theorem inlLinks_append : ∀ (l k : List Inl), inlLinks (l ++ k) = inlLinks l ++ inlLinks k
  | [], k => by simp [inlLinks]
  | x :: r, k => by simp only [List.cons_append, inlLinks, inlLinks_append r k, List.append_assoc]
theorem blkLinks_append : ∀ (l k : List Blk), blkLinks (l ++ k) = blkLinks l ++ blkLinks k
  | [], k => by simp [blkLinks]
  | x :: r, k => by simp only [List.cons_append, blkLinks, blkLinks_append r k, List.append_assoc]
theorem inlLinks_succ {l : List Inl} {i : Nat} (h : i < l.length) : inlLinks (l.take (i + 1)) = inlLinks (l.take i) ++ l[i].own ++ inlLinks l[i].kids := by
  rw [List.take_succ_eq_append_getElem h, inlLinks_append]
  simp only [inlLinks, Inl.links_eq, List.append_nil, List.append_assoc]
theorem blkLinks_succ {l : List Blk} {i : Nat} (h : i < l.length) : blkLinks (l.take (i + 1)) = blkLinks (l.take i) ++ inlLinks l[i].inl ++ blkLinks l[i].kids := by
  rw [List.take_succ_eq_append_getElem h, blkLinks_append]
  simp only [blkLinks, Blk.links_eq, List.append_nil, List.append_assoc]
theorem Inl.own_len (x : Inl) : x.own.length ≤ 1 := by unfold Inl.own; split <;> simp
mutual
theorem Inl.links_len : ∀ x : Inl, x.links.length ≤ x.nodes
  | .mk k t s n a ka kc kids => by
    have h1 := inlLinks_len kids
    have h2 := Inl.own_len (.mk k t s n a ka kc kids)
    rw [Inl.links, Inl.nodes, List.length_append]; omega
theorem inlLinks_len : ∀ l : List Inl, (inlLinks l).length ≤ inlNodes l
  | [] => Nat.le_refl _
  | x :: r => by
    have h1 := Inl.links_len x
    have h2 := inlLinks_len r
    rw [inlLinks, inlNodes, List.length_append]; omega
end
mutual
theorem Blk.links_len : ∀ x : Blk, x.links.length ≤ x.nodes
  | .mk _ _ _ _ _ inl _ _ kids => by
    have h1 := blkLinks_len kids
    have h2 := inlLinks_len inl
    rw [Blk.links, Blk.nodes, List.length_append]; omega
theorem blkLinks_len : ∀ l : List Blk, (blkLinks l).length ≤ blkNodes l
  | [] => Nat.le_refl _
  | x :: r => by
    have h1 := Blk.links_len x
    have h2 := blkLinks_len r
    rw [blkLinks, blkNodes, List.length_append]; omega
end

/-- A row of titles that a call leaves. -/
def TtP (ts : List TT) : V → List Chunk → List Fact → Prop := fun v L D => ∃ a c, v = .c (.sl a ts.length c) ∧ L = [.row 23 2 a ts.length c (ttC ts)] ∧ D = []
/-- A row of titles that stays. -/
def TtF (ts : List TT) : V → List Chunk → List Fact → Prop := fun v L D => ∃ a c, v = .c (.sl a ts.length c) ∧ L = [] ∧ D = [slFact 23 2 a ts.length (ttC ts)]

theorem linked_ok (n : Nat) : ∀ (els : List Inl), inlNodes els = n → ∀ (ia : Option Addr) (ic : Nat) (a : Option Addr) (c : Nat) (ts : List TT), ts.length + n ≤ 10000000 →
    FnS Tryz.prog 104 [.c (.sl a ts.length c), .c (.sl ia els.length ic)] [.row 23 2 a ts.length c (ttC ts)] [inlF ia els] (TtP (ts ++ inlLinks els)) := by
  induction n using Nat.strongRecOn with | _ n ih
  intro els hn ia ic a c ts hts
  have hel := inlNodes_len els
  refine fn_of_J Tryz.tyOK 0 Tryz.func104 (by kernel_rfl) (c := Tryz.f104.body.getD .skip) (by kernel_rfl) Tryz.ntmps104 (rs := Tryz.f104.results.toList) rfl (by simp) (fun G => ?_)
  repeat' first
    | refine J_seq ?_ | refine J_region Tryz.tyOK ?_ | refine J_block ?_ | refine J_cond ?_ | refine J_ret ?_ | refine J_skip ?_ | refine J_exit ?_ | refine J_scope ?_
    | refine CondP.yes (by omega) ?_ | refine CondP.no (by omega) ?_ | refine CondP.mk (fun h => ?_) (fun h => ?_) | refine EqP.mk rfl ?_ | refine NewP.mk (fun ad => ?_) | refine ArP.exact (by simp only [inR]; omega) ?_ | refine SideP.mk (by first | omega | (dsimp only; omega) | (simp; omega)) ?_
    | fail
  refine J_loop (α := Nat × List TT × Option Addr × Nat) (fun x => [(0, .c (.sl x.2.2.1 x.2.1.length x.2.2.2)), (7, .c (.sl ia els.length ic)), (8, lenV els.length), (9, .c (.i .i64 x.1))])
    (fun x => [.row 23 2 x.2.2.1 x.2.1.length x.2.2.2 (ttC x.2.1)]) (fun _ => [inlF ia els]) 5 (fun x => x.1 ≤ els.length ∧ x.2.1 = ts ++ inlLinks (els.take x.1)) (fun x => els.length - x.1)
    (InFam.mk (0, ts, a, c) ⟨Nat.zero_le _, by simp [inlLinks]⟩ (by repeat' first | exact SubE.nil | refine SubE.cons rfl ?_ ?_ | exact VEq.refl _ | refine VEq.int (by omega) | refine VEq.sl rfl (by first | rfl | omega | (rw [List.length_append]; rfl) | (simp; omega)) rfl) (Ents.refl _ _)) (fun x hx => ?_)
  obtain ⟨i, us, a, c⟩ := x
  obtain ⟨hi, hus⟩ := hx
  dsimp only at hi hus ⊢
  by_cases hlt : i < els.length
  · have hk := inlNodes_kid hlt
    have hst := inlLinks_succ hlt
    have hfk := inl_kids (a := ia) hlt
    have hcg : ((inlC els).drop (i * 6 + 0)).take 6 = els[i].cells := inlC_get (o := 0) (k := 6) hlt (by omega)
    have hll := inlLinks_len (els.take i)
    have hnt := inlNodes_succ hlt
    have hnl := inlNodes_take_le els (i + 1)
    have hul : us.length ≤ ts.length + inlNodes (els.take i) := by rw [hus, List.length_append]; omega
    have hown := Inl.own_len els[i]
    have hstep : ts ++ inlLinks (els.take (i + 1)) = us ++ els[i].own ++ inlLinks els[i].kids := by rw [hst, hus]; simp
    have hrd : ∀ L, Reads L [inlF ia els] 102 6 ia els.length (inlC els) := fun _ => inl_reads (fun _ h => h)
    have ih' := fun a' c' ts' (h : ts'.length + inlNodes els[i].kids ≤ 10000000) => ih (inlNodes els[i].kids) (by omega) els[i].kids rfl els[i].ka els[i].kc a' c' ts' h
    generalize els[i] = x at *
    have hyes : x.kind = 4 → ¬ (x.sp = 0 ∧ x.name = [] ∧ True) → x.own = [(x.sp, x.name)] := fun h1 h2 => by unfold Inl.own; exact if_pos ⟨h1, h2⟩
    have hno : ¬ (x.kind = 4 ∧ ¬ (x.sp = 0 ∧ x.name = [] ∧ True)) → x.own = [] := fun h => by unfold Inl.own; exact if_neg h
    unfold Inl.cells at hcg
    have hap : ttC us ++ [.i .i64 x.sp, .s x.name] = ttC (us ++ [(x.sp, x.name)]) := by simp [ttC]
    have hla : us.length + 1 = (us ++ [(x.sp, x.name)]).length := by simp
    have hca := fun a' c' => ih' a' c' us (by omega)
    have hcb := fun a' c' => ih' a' c' (us ++ [(x.sp, x.name)]) (by rw [← hla]; omega)
    clear ih' hst ih
    repeat' first
      | refine J_seq ?_ | refine J_region Tryz.tyOK ?_ | refine J_block ?_ | refine J_cond ?_ | refine J_ret ?_ | refine J_skip ?_ | refine J_exit ?_ | refine J_scope ?_
      | refine CondP.yes (by omega) ?_ | refine CondP.no (by omega) ?_ | refine CondP.mk (fun h => ?_) (fun h => ?_) | refine EqP.mk rfl ?_ | refine NewP.mk (fun ad => ?_) | refine ArP.exact (by simp only [inR]; omega) ?_ | refine SideP.mk (by first | omega | (dsimp only; omega) | (simp; omega)) ?_
      | refine IdxE.mk 102 6 _ (hrd _) (by omega) (by omega) ?_ | refine LoadE.mk 102 els.length _ _ (hrd _) (by omega) (by omega) (by decide) (by exact hcg) ?_ | (refine AppE.row [_, _] _ (ttC us) [.i .i64 x.sp, .s x.name] 1 rfl (SrcE.sl 23 23 _ _ 1 _ _ rfl rfl (.inl ⟨_, List.Mem.head _⟩) rfl) (by dsimp only; omega) (fun b2 d2 => ?_); rw [hap, hla]) | (refine CallP.mk _ _ [inlF x.ka x.kids] _ (hca _ _) (List.Perm.swap _ _ _) hfk (fun v L' D' hp => ?_); obtain ⟨a3, c3, rfl, rfl, rfl⟩ := hp) | (refine CallP.mk _ _ [inlF x.ka x.kids] _ (hcb _ _) (List.perm_append_comm (l₁ := [_, _]) (l₂ := [_])) hfk (fun v L' D' hp => ?_); obtain ⟨a3, c3, rfl, rfl, rfl⟩ := hp) | (have hxx := hyes (by assumption) (by assumption); refine Round.mk (i + 1, us ++ [(x.sp, x.name)] ++ inlLinks x.kids, a3, c3) (by dsimp only; omega) ⟨by dsimp only; omega, ?_⟩ (by repeat' first | exact SubE.nil | refine SubE.cons rfl ?_ ?_ | exact VEq.refl _ | refine VEq.int (by omega) | refine VEq.sl rfl (by first | rfl | omega | (rw [List.length_append]; rfl) | (simp; omega)) rfl) (Ents.ofSub (by repeat (first | exact List.Sublist.slnil | refine List.Sublist.cons_cons _ ?_ | refine List.Sublist.cons _ ?_)) (fun _ h => h))) | refine Round.mk (i + 1, us ++ inlLinks x.kids, a3, c3) (by dsimp only; omega) ⟨by dsimp only; omega, ?_⟩ (by repeat' first | exact SubE.nil | refine SubE.cons rfl ?_ ?_ | exact VEq.refl _ | refine VEq.int (by omega) | refine VEq.sl rfl (by first | rfl | omega | (rw [List.length_append]; rfl) | (simp; omega)) rfl) (Ents.ofSub (by repeat (first | exact List.Sublist.slnil | refine List.Sublist.cons_cons _ ?_ | refine List.Sublist.cons _ ?_)) (fun _ h => h))
      | fail
    all_goals (dsimp only; rw [hstep])
    · rw [hno (by intro h; simp_all), List.append_nil]
    · rw [hyes (by assumption) (by assumption)]
    · rw [hno (by intro h; simp_all), List.append_nil]
  · have hil : i = els.length := by omega
    subst hil
    rw [List.take_length] at hus
    subst hus
    repeat' first
      | refine J_seq ?_ | refine J_region Tryz.tyOK ?_ | refine J_block ?_ | refine J_cond ?_ | refine J_ret ?_ | refine J_skip ?_ | refine J_exit ?_ | refine J_scope ?_
      | refine CondP.yes (by omega) ?_ | refine CondP.no (by omega) ?_ | refine CondP.mk (fun h => ?_) (fun h => ?_) | refine EqP.mk rfl ?_ | refine NewP.mk (fun ad => ?_) | refine ArP.exact (by simp only [inR]; omega) ?_ | refine SideP.mk (by first | omega | (dsimp only; omega) | (simp; omega)) ?_
      | refine FinE.mk [_] [] ⟨a, c, rfl, rfl, rfl⟩ (Ents.facts fun _ _ => trivial)
      | fail

theorem targets_ok (n : Nat) : ∀ (bs : List Blk), blkNodes bs = n → ∀ (ba : Option Addr) (bc : Nat) (a : Option Addr) (c : Nat) (ts : List TT), ts.length + n ≤ 10000000 →
    FnS Tryz.prog 71 [.c (.sl a ts.length c), .c (.sl ba bs.length bc)] [.row 23 2 a ts.length c (ttC ts)] [blkF ba bs] (TtP (ts ++ blkLinks bs)) := by
  induction n using Nat.strongRecOn with | _ n ih
  intro bs hn ba bc a c ts hts
  have hel := blkNodes_len bs
  refine fn_of_J Tryz.tyOK 0 Tryz.func71 (by kernel_rfl) (c := Tryz.f71.body.getD .skip) (by kernel_rfl) Tryz.ntmps71 (rs := Tryz.f71.results.toList) rfl (by simp) (fun G => ?_)
  repeat' first
    | refine J_seq ?_ | refine J_region Tryz.tyOK ?_ | refine J_block ?_ | refine J_cond ?_ | refine J_ret ?_ | refine J_skip ?_ | refine J_exit ?_ | refine J_scope ?_
    | refine CondP.yes (by omega) ?_ | refine CondP.no (by omega) ?_ | refine CondP.mk (fun h => ?_) (fun h => ?_) | refine EqP.mk rfl ?_ | refine NewP.mk (fun ad => ?_) | refine ArP.exact (by simp only [inR]; omega) ?_ | refine SideP.mk (by first | omega | (dsimp only; omega) | (simp; omega)) ?_
    | fail
  refine J_loop (α := Nat × List TT × Option Addr × Nat) (fun x => [(0, .c (.sl x.2.2.1 x.2.1.length x.2.2.2)), (7, .c (.sl ba bs.length bc)), (8, lenV bs.length), (9, .c (.i .i64 x.1))])
    (fun x => [.row 23 2 x.2.2.1 x.2.1.length x.2.2.2 (ttC x.2.1)]) (fun _ => [blkF ba bs]) 5 (fun x => x.1 ≤ bs.length ∧ x.2.1 = ts ++ blkLinks (bs.take x.1)) (fun x => bs.length - x.1)
    (InFam.mk (0, ts, a, c) ⟨Nat.zero_le _, by simp [blkLinks]⟩ (by repeat' first | exact SubE.nil | refine SubE.cons rfl ?_ ?_ | exact VEq.refl _ | refine VEq.int (by omega) | refine VEq.sl rfl (by first | rfl | omega | (rw [List.length_append]; rfl) | (simp; omega)) rfl) (Ents.refl _ _)) (fun x hx => ?_)
  obtain ⟨i, us, a, c⟩ := x
  obtain ⟨hi, hus⟩ := hx
  dsimp only at hi hus ⊢
  by_cases hlt : i < bs.length
  · have hk := blkNodes_kid hlt
    have hst := blkLinks_succ hlt
    have hfi := blk_inl (a := ba) hlt
    have hfk := blk_kids (a := ba) hlt
    have hcg : ((blkC bs).drop (i * 5 + 0)).take 5 = bs[i].cells := blkC_get (o := 0) (k := 5) hlt (by omega)
    have hll := blkLinks_len (bs.take i)
    have hnt := blkNodes_succ hlt
    have hnl := blkNodes_take_le bs (i + 1)
    have hul : us.length ≤ ts.length + blkNodes (bs.take i) := by rw [hus, List.length_append]; omega
    have hil := inlLinks_len bs[i].inl
    have hstep : ts ++ blkLinks (bs.take (i + 1)) = us ++ inlLinks bs[i].inl ++ blkLinks bs[i].kids := by rw [hst, hus]; simp
    have hrd : ∀ L, Reads L [blkF ba bs] 81 5 ba bs.length (blkC bs) := fun _ => blk_reads (fun _ h => h)
    have hca := fun a' c' => linked_ok _ bs[i].inl rfl bs[i].ia bs[i].ic a' c' us (by omega)
    have hcb := fun a' c' => ih (blkNodes bs[i].kids) (by omega) bs[i].kids rfl bs[i].ka bs[i].kc a' c' (us ++ inlLinks bs[i].inl) (by rw [List.length_append]; omega)
    clear ih hst hll hus
    generalize bs[i] = x at *
    unfold Blk.cells at hcg
    repeat' first
      | refine J_seq ?_ | refine J_region Tryz.tyOK ?_ | refine J_block ?_ | refine J_cond ?_ | refine J_ret ?_ | refine J_skip ?_ | refine J_exit ?_ | refine J_scope ?_
      | refine CondP.yes (by omega) ?_ | refine CondP.no (by omega) ?_ | refine CondP.mk (fun h => ?_) (fun h => ?_) | refine EqP.mk rfl ?_ | refine NewP.mk (fun ad => ?_) | refine ArP.exact (by simp only [inR]; omega) ?_ | refine SideP.mk (by first | omega | (dsimp only; omega) | (simp; omega)) ?_
      | refine J_drawU (id := 4) Tryz.tyOK (by kernel_rfl) [0, 0, 2, 7, 0, 16, 63, 127] (.fork [0, 1, 2, 4, 5] (.alt 3 (.fork [] (.alt 6 (.leaf [7]) (.stop))) (.stop))) [3, 6] [6] 8 false (by kernel_rfl) ?_ | refine TwoP.mk ?_ ?_ | refine GoP.mk (by repeat (first | exact keepC_sub _ _ _ | exact List.Sublist.slnil | refine List.Sublist.cons_cons _ ?_ | refine List.Sublist.cons _ ?_)) (by first | exact fun _ h => h | exact fun _ h => h.2 | exact fun _ h => ((allD_append _ _).1 h).2) ?_ | exact trivial | refine EntP.mk (Ents.ofSub (by repeat (first | exact keepC_sub _ _ _ | exact List.Sublist.slnil | refine List.Sublist.cons_cons _ ?_ | refine List.Sublist.cons _ ?_)) (by first | exact fun _ h => h | exact fun _ _ => trivial | exact fun _ h => h.2 | exact fun _ h => h.2.2.2.2 | exact fun _ h => h.2.2 | exact fun _ h => h.2.2.2 | exact fun _ h => h.2.2.2.2.2 | exact fun _ h => h.2.2.2.2.2.2 | exact fun _ h => h.2.2.2.2.2.2.2 | exact fun _ h => h.2.2.2.2.2.2.2.2 | exact fun _ h => h.2.2.2.2.2.2.2.2.2 | exact fun _ h => h.2.2.2.2.2.2.2.2.2.2 | exact fun _ h => ((allD_append _ _).1 h).2)) ?_ | refine IdxE.mk 81 5 _ (hrd _) (by omega) (by omega) ?_ | refine LoadE.mk 81 bs.length _ _ (hrd _) (by omega) (by omega) (by decide) (by exact hcg) ?_ | (refine CallP.mk _ _ [inlF x.ia x.inl] _ (hca _ _) (List.Perm.swap _ _ _) hfi (fun v L' D' hp => ?_); obtain ⟨a3, c3, rfl, rfl, rfl⟩ := hp) | (refine CallP.mk _ _ [blkF x.ka x.kids] _ (hcb _ _) (List.Perm.refl _) hfk (fun v L' D' hp => ?_); obtain ⟨a4, c4, rfl, rfl, rfl⟩ := hp) | refine Round.mk (i + 1, us ++ inlLinks x.inl ++ blkLinks x.kids, a4, c4) (by dsimp only; omega) ⟨by dsimp only; omega, hstep.symm⟩ (by repeat' first | exact SubE.nil | refine SubE.cons rfl ?_ ?_ | exact VEq.refl _ | refine VEq.int (by omega) | refine VEq.sl rfl (by first | rfl | omega | (rw [List.length_append]; rfl) | (simp; omega)) rfl) (Ents.ofSub (by repeat (first | exact List.Sublist.slnil | refine List.Sublist.cons_cons _ ?_ | refine List.Sublist.cons _ ?_)) (fun _ h => h))
      | fail
    all_goals trace_state
  · have hil : i = bs.length := by omega
    subst hil
    rw [List.take_length] at hus
    subst hus
    repeat' first
      | refine J_seq ?_ | refine J_region Tryz.tyOK ?_ | refine J_block ?_ | refine J_cond ?_ | refine J_ret ?_ | refine J_skip ?_ | refine J_exit ?_ | refine J_scope ?_
      | refine CondP.yes (by omega) ?_ | refine CondP.no (by omega) ?_ | refine CondP.mk (fun h => ?_) (fun h => ?_) | refine EqP.mk rfl ?_ | refine NewP.mk (fun ad => ?_) | refine ArP.exact (by simp only [inR]; omega) ?_ | refine SideP.mk (by first | omega | (dsimp only; omega) | (simp; omega)) ?_
      | refine FinE.mk [_] [] ⟨a, c, rfl, rfl, rfl⟩ (Ents.facts fun _ _ => trivial)
      | fail

end Go.Proofs

namespace Go.Proofs
open Go Go.X
set_option maxRecDepth 100000

/-- The targets of a document. -/
def tgT (bs : List Blk) : List TT := (blkLinks bs).foldl (addG cmpTT) []
theorem tgT_len (bs : List Blk) : (tgT bs).length ≤ blkNodes bs := by
  have h1 := foldAddG_len (cf := cmpTT) (blkLinks bs) []
  have h2 := blkLinks_len bs
  simp only [List.length_nil] at h1
  unfold tgT; omega
theorem sorted_is {l l' : List TT} (hp : l'.Perm l) (ho : l'.Pairwise (fun x y => ltOf cmpTT y x = false)) : cmG l' = l.foldl (addG cmpTT) [] := by
  obtain ⟨h1, h2⟩ := cmG_str cmp_TT cmpTT_eq l' (ordL_of cmp_TT ho)
  obtain ⟨h3, h4⟩ := foldAddG_str cmp_TT cmpTT_eq l [] List.Pairwise.nil
  refine strL_eq cmp_TT h1 h3 fun x => ?_
  rw [h2, h4, hp.mem_iff]
  simp

/-- A row of titles that stays, and that has room for them. -/
def TsF (ts : List TT) : V → List Chunk → List Fact → Prop := fun v L D => ∃ a c, ts.length ≤ c ∧ v = .c (.sl a ts.length c) ∧ L = [] ∧ D = [slFact 23 2 a ts.length (ttC ts)]

theorem targetsAll_ok (bs : List Blk) (hb : blkNodes bs ≤ 10000000) (ba : Option Addr) (bc : Nat) : FnS Tryz.prog 32 [.c (.sl ba bs.length bc)] [] [blkF ba bs] (TsF (tgT bs)) := by
  have hl := blkLinks_len bs
  have c1 := targets_ok _ bs rfl ba bc none 0 [] (by simpa using hb)
  have c2 := fun a c => sortTt_ok a c (blkLinks bs) (by omega)
  have hsi := fun (l : List TT) (hp : l.Perm (blkLinks bs)) ho => sorted_is hp ho
  rw [List.nil_append] at c1
  unfold tgT
  generalize blkLinks bs = ls at *
  refine fn_of_J Tryz.tyOK 0 Tryz.func32 (by kernel_rfl) (c := Tryz.f32.body.getD .skip) (by kernel_rfl) Tryz.ntmps32 (rs := Tryz.f32.results.toList) rfl (by simp) (fun G => ?_)
  repeat' first
    | refine J_stop (c := .seq (.region 3 _ _) _) ?_
    | refine J_seq ?_ | refine J_region Tryz.tyOK ?_ | refine J_block ?_ | refine J_cond ?_ | refine J_ret ?_ | refine J_skip ?_ | refine J_exit ?_ | refine J_scope ?_
    | refine CondP.yes (by omega) ?_ | refine CondP.no (by omega) ?_ | refine CondP.mk (fun h => ?_) (fun h => ?_) | refine EqP.mk rfl ?_ | refine NewP.mk (fun ad => ?_) | refine ArP.exact (by simp only [inR]; omega) ?_ | refine SideP.mk (by first | omega | (dsimp only; omega) | (simp; omega)) ?_
    | (refine CallP.mkE [_] [] [blkF ba bs] _ _ c1 Ents.nilRow (fun _ h => h) (fun v L' D' hp => ?_); obtain ⟨a1, k1, rfl, rfl, rfl⟩ := hp) | (refine CallP.mk [_] [] [] _ (c2 _ _) (List.Perm.refl _) (fun _ _ => trivial) (fun v L' D' hp => ?_); obtain ⟨l1, hp1, ho1, rfl, rfl, rfl⟩ := hp; have hll := hp1.length_eq; rw [← hll]; rw [← hsi l1 hp1 ho1])
    | fail
  refine ⟨?_⟩
  refine J_cap (List.Mem.head _) (fun hnc _ _ => ?_)
  have hcl : (cmG l1).length ≤ l1.length := by
    cases l1 with
    | nil => exact Nat.le_refl _
    | cons x r => exact Nat.succ_le_succ (cmGo_len r x)
  repeat' first
    | refine J_seq ?_ | refine J_region Tryz.tyOK ?_ | refine J_block ?_ | refine J_cond ?_ | refine J_ret ?_ | refine J_skip ?_ | refine J_exit ?_ | refine J_scope ?_
    | refine CondP.yes (by omega) ?_ | refine CondP.no (by omega) ?_ | refine CondP.mk (fun h => ?_) (fun h => ?_) | refine EqP.mk rfl ?_ | refine NewP.mk (fun ad => ?_) | refine ArP.exact (by simp only [inR]; omega) ?_ | refine SideP.mk (by first | omega | (dsimp only; omega) | (simp; omega)) ?_
    | (refine CallP.mk [_] [] [] _ (cptTt_ok _ _ _ (by omega)) (List.Perm.refl _) (fun _ _ => trivial) (fun v L' D' hp => ?_); obtain ⟨rfl, rfl, rfl⟩ := hp) | refine FinE.mk [] [_] ⟨a1, k1, by omega, rfl, rfl, rfl⟩ (Ents.toFact.trans (Ents.facts fun _ h => ⟨h.1, trivial⟩))
    | fail
  all_goals trace_state

theorem ttpreF {D : List Fact} {L : List Chunk} {e : Nat} {a : Option Addr} {c k : Nat} {ts : List TT} (h : ∀ m, allD m D → (slFact e 2 a ts.length (ttC ts)).p m) (hk : k ≤ ts.length) : Reads L D e 2 (resl a 0 c 2) k (ttC (ts.take k)) :=
  .inr fun m hm => by
    have := slFact_pre (hi := k) c (h m hm) hk
    rw [ttC_takeT] at this
    exact this
theorem ttsufF {D : List Fact} {L : List Chunk} {e : Nat} {a : Option Addr} {c k : Nat} {ts : List TT} (h : ∀ m, allD m D → (slFact e 2 a ts.length (ttC ts)).p m) (hk : k ≤ ts.length) (hc : ts.length ≤ c) : Reads L D e 2 (resl a k c 2) (ts.length - k) (ttC (ts.drop k)) :=
  .inr fun m hm => by
    have := slFact_sub (lo := k) (hi := ts.length) (h m hm) hk (Nat.le_refl _) hc
    rw [ttC_takeT, List.take_length, ttC_dropT _ _ hk] at this
    exact this

theorem put_ok (a : Option Addr) (c : Nat) (ts : List TT) (t : TT) (hc : ts.length ≤ c) (hl : ts.length ≤ 10000000) : FnS Tryz.prog 148 [.c (.sl a ts.length c), .agg [.i .i64 t.1, .s t.2]] [] [slFact 23 2 a ts.length (ttC ts)] (TsF (addG cmpTT ts t)) := by
  obtain ⟨W, hW⟩ : ∃ W, addG cmpTT ts t = W := ⟨_, rfl⟩
  rw [hW]
  have hrd : ∀ L, Reads L [slFact 23 2 a ts.length (ttC ts)] 23 2 a ts.length (ttC ts) := fun _ => .inr fun _ h => h.1
  refine fn_of_J Tryz.tyOK 0 Tryz.func148 (by kernel_rfl) (c := Tryz.f148.body.getD .skip) (by kernel_rfl) Tryz.ntmps148 (rs := Tryz.f148.results.toList) rfl (by simp) (fun G => ?_)
  repeat' first
    | refine J_seq ?_ | refine J_region Tryz.tyOK ?_ | refine J_block ?_ | refine J_cond ?_ | refine J_ret ?_ | refine J_skip ?_ | refine J_exit ?_ | refine J_scope ?_
    | refine CondP.yes (by omega) ?_ | refine CondP.no (by omega) ?_ | refine CondP.mk (fun h => ?_) (fun h => ?_) | refine EqP.mk rfl ?_ | refine NewP.mk (fun ad => ?_) | refine ArP.exact (by simp only [inR]; omega) ?_ | refine SideP.mk (by first | omega | (dsimp only; omega) | (simp; omega)) ?_
    | fail
  refine J_loop (α := Nat) (fun k => [(0, .c (.sl a ts.length c)), (3, .c (.p 0 ad 0)), (5, .c (.i .i64 k))]) (fun _ => [.box 0 ad 23 [.i .i64 t.1, .s t.2]]) (fun _ => [slFact 23 2 a ts.length (ttC ts)]) 1
    (fun k => k ≤ ts.length ∧ W = ts.take k ++ addG cmpTT (ts.drop k) t) (fun k => ts.length - k) (InFam.mk 0 ⟨Nat.zero_le _, by simpa using hW.symm⟩ (by repeat' first | exact SubE.nil | refine SubE.cons rfl ?_ ?_ | exact VEq.refl _ | refine VEq.int (by omega) | refine VEq.sl rfl (by first | rfl | omega | (rw [List.length_append]; rfl) | (simp; omega)) rfl) (Ents.refl _ _)) (fun k hx => ?_)
  obtain ⟨hk, he⟩ := hx
  clear hW
  by_cases hlt : k < ts.length
  · have hg := ttl_get hlt
    have hat := addG_at (cf := cmpTT) (r := t) hlt
    have htk := List.take_succ_eq_append_getElem hlt
    have hfull : ts.take k ++ ts.drop k = ts := List.take_append_drop k ts
    have cc := refCompareT_ok ts[k].1 ts[k].2 t.1 t.2
    have hxe := tt_ext (x := ts[k]) (y := t)
    have hxn := tt_ne (x := ts[k]) (y := t)
    change FnS _ _ _ _ _ (Is (.c (.i .i64 (cmpTT ts[k] t)))) at cc
    generalize ts[k] = y at *
    have hstep : cmpTT y t < 0 → W = ts.take (k + 1) ++ addG cmpTT (ts.drop (k + 1)) t := fun h => by rw [he, hat, if_pos h, htk, List.append_assoc]; rfl
    have hsame : ¬ cmpTT y t < 0 → (y.1 = t.1 ∧ y.2 = t.2 ∧ True) → W = ts := fun h1 h => by rw [he, hat, if_neg h1, if_pos (hxe h), hfull]
    have hnew : ¬ cmpTT y t < 0 → ¬ (y.1 = t.1 ∧ y.2 = t.2 ∧ True) → W = ts.take k ++ t :: ts.drop k := fun h1 h => by rw [he, hat, if_neg h1, if_neg (hxn h)]
    clear hat htk he
    have h6l : ¬ cmpTT y t < 0 → ¬ (y.1 = t.1 ∧ y.2 = t.2 ∧ True) → W.length = k + 1 + (ts.length - k) := fun h1 h => by rw [hnew h1 h]; simp; omega
    have h6c : ¬ cmpTT y t < 0 → ¬ (y.1 = t.1 ∧ y.2 = t.2 ∧ True) → ttC W = ttC (ts.take k) ++ [.i .i64 t.1, .s t.2] ++ ttC (ts.drop k) := fun h1 h => by rw [hnew h1 h]; simp [ttC]
    clear hnew hxe hxn hfull
    repeat' first
      | refine J_stop (c := .ret) ?_
      | refine J_seq ?_ | refine J_region Tryz.tyOK ?_ | refine J_block ?_ | refine J_cond ?_ | refine J_ret ?_ | refine J_skip ?_ | refine J_exit ?_ | refine J_scope ?_
      | refine CondP.yes (by omega) ?_ | refine CondP.no (by omega) ?_ | refine CondP.mk (fun h => ?_) (fun h => ?_) | refine EqP.mk rfl ?_ | refine NewP.mk (fun ad => ?_) | refine ArP.exact (by simp only [inR]; omega) ?_ | refine SideP.mk (by first | omega | (dsimp only; omega) | (simp; omega)) ?_
      | refine J_drawU (id := 2) Tryz.tyOK (by kernel_rfl) [0, 0, 2, 7, 15, 31, 31, 127, 255, 31, 1023, 2047, 4095] (.leaf [0, 1, 2, 3, 4, 5, 6, 7, 8, 9, 10, 11, 12]) [] [3, 13] 13 true (by kernel_rfl) ?_ | refine TwoP.mk ?_ ?_ | refine GoP.mk (by repeat (first | exact List.Sublist.slnil | refine List.Sublist.cons_cons _ ?_ | refine List.Sublist.cons _ ?_)) (by first | exact fun _ h => h | exact fun _ h => h.2 | exact fun _ h => ((allD_append _ _).1 h).2) ?_ | exact trivial | refine J_drawU (id := 4) Tryz.tyOK (by kernel_rfl) [0, 0, 2, 7, 15, 31, 31, 127, 255, 31, 1023, 2047] (.leaf [0, 1, 2, 3, 4, 5, 6, 7, 8, 9, 10, 11]) [] [3, 28] 12 true (by kernel_rfl) ?_ | refine TwoP.mk ?_ ?_ | refine GoP.mk (by repeat (first | exact List.Sublist.slnil | refine List.Sublist.cons_cons _ ?_ | refine List.Sublist.cons _ ?_)) (by first | exact fun _ h => h | exact fun _ h => h.2 | exact fun _ h => ((allD_append _ _).1 h).2) ?_ | exact trivial | refine J_drawU (id := 6) Tryz.tyOK (by kernel_rfl) [0, 0, 3, 7, 0, 16, 63, 0, 0, 384, 1023, 2047] (.fork [0, 1, 2, 4, 7, 8, 9] (.alt 3 (.fork [] (.alt 5 (.fork [] (.alt 6 (.fork [] (.alt 10 (.leaf [11]) (.stop))) (.stop))) (.stop))) (.alt 5 (.fork [] (.alt 3 (.fork [] (.alt 6 (.fork [] (.alt 10 (.leaf [11]) (.stop))) (.stop))) (.stop))) (.stop)))) [3, 5, 6, 10] [3] 12 false (by kernel_rfl) ?_ | refine TwoP.mk ?_ ?_ | refine GoP.mk (by repeat (first | exact List.Sublist.slnil | refine List.Sublist.cons_cons _ ?_ | refine List.Sublist.cons _ ?_)) (by first | exact fun _ h => h | exact fun _ h => h.2 | exact fun _ h => ((allD_append _ _).1 h).2) ?_ | exact trivial | refine EntP.mk (Ents.ofSub (by repeat (first | exact List.Sublist.slnil | refine List.Sublist.cons_cons _ ?_ | refine List.Sublist.cons _ ?_)) (by first | exact fun _ h => h | exact fun _ _ => trivial | exact fun _ h => h.2 | exact fun _ h => h.2.2.2.2 | exact fun _ h => h.2.2 | exact fun _ h => h.2.2.2 | exact fun _ h => h.2.2.2.2.2 | exact fun _ h => h.2.2.2.2.2.2 | exact fun _ h => h.2.2.2.2.2.2.2 | exact fun _ h => h.2.2.2.2.2.2.2.2 | exact fun _ h => h.2.2.2.2.2.2.2.2.2 | exact fun _ h => h.2.2.2.2.2.2.2.2.2.2 | exact fun _ h => ((allD_append _ _).1 h).2)) ?_ | refine IdxE.mk 23 2 _ (hrd _) (by omega) (by omega) ?_ | refine LoadE.mk 23 _ _ [.i .i64 y.1, .s y.2] (hrd _) (by omega) (by omega) (by decide) (by exact hg) ?_ | refine CallQ.mk [] _ cc (fun _ _ => trivial) ?_ | refine Round.mk (k + 1) (by omega) ⟨by omega, hstep (by assumption)⟩ (by repeat' first | exact SubE.nil | refine SubE.cons rfl ?_ ?_ | exact VEq.refl _ | refine VEq.int (by omega) | refine VEq.sl rfl (by first | rfl | omega | (rw [List.length_append]; rfl) | (simp; omega)) rfl) (Ents.refl _ _) | refine AppE.nil (ttC (ts.take k)) k rfl rfl rfl (SrcE.sl 23 23 _ _ _ _ _ rfl rfl (ttpreF (fun _ h => h.1) hk) (by rw [ttC_len, List.length_take, Nat.min_eq_left hk]; rfl)) (by dsimp only; omega) (fun a' c' => ?_) | refine AppE.row [_] _ (ttC (ts.take k)) [.i .i64 t.1, .s t.2] 1 rfl (SrcE.sl 23 23 _ _ 1 1 _ rfl rfl (.inl ⟨1, List.Mem.head _⟩) rfl) (by dsimp only; omega) (fun a' c' => ?_) | refine AppE.row [] _ (ttC (ts.take k)) [.i .i64 t.1, .s t.2] 1 rfl (SrcE.sl 23 23 _ _ 1 1 _ rfl rfl (.inl ⟨1, List.Mem.tail _ (List.Mem.head _)⟩) rfl) (by dsimp only; omega) (fun a' c' => ?_) | (refine AppE.row [_] _ (ttC (ts.take k) ++ [.i .i64 t.1, .s t.2]) (ttC (ts.drop k)) (ts.length - k) rfl (SrcE.sl 23 23 _ _ _ _ _ rfl rfl (ttsufF (fun _ h => h.1) hk hc) (by rw [ttC_len, List.length_drop]; rfl)) (by dsimp only; omega) (fun a' c' => ?_); rw [← h6l (by assumption) (by assumption), ← h6c (by assumption) (by assumption)]) | (refine AppE.row [] _ (ttC (ts.take k) ++ [.i .i64 t.1, .s t.2]) (ttC (ts.drop k)) (ts.length - k) rfl (SrcE.sl 23 23 _ _ _ _ _ rfl rfl (ttsufF (fun _ h => h.1) hk hc) (by rw [ttC_len, List.length_drop]; rfl)) (by dsimp only; omega) (fun a' c' => ?_); rw [← h6l (by assumption) (by assumption), ← h6c (by assumption) (by assumption)])
      | fail
    · have hs := hsame (by assumption) (by assumption)
      refine ⟨?_⟩
      refine J_ret ?_
      refine FinE.mk [] [_] ⟨a, c, by rw [hs]; exact hc, by rw [hs], rfl, by rw [hs]⟩ Ents.dropAll
    all_goals
      refine ⟨?_⟩
      first
        | (refine J_cap (List.Mem.head _) (fun hnc _ _ => ?_)
           refine J_ret ?_
           refine FinE.mk [] [_] ⟨_, _, hnc, rfl, rfl, rfl⟩ (Ents.toFact.trans (Ents.dropAll.trans (Ents.facts fun _ h => ⟨h.1, trivial⟩))))
        | (refine J_cap (List.Mem.tail _ (List.Mem.head _)) (fun hnc _ _ => ?_)
           refine J_ret ?_
           refine FinE.mk [] [_] ⟨_, _, hnc, rfl, rfl, rfl⟩ ((Ents.perm (List.Perm.swap _ _ _)).trans (Ents.toFact.trans (Ents.dropAll.trans (Ents.facts fun _ h => ⟨h.1, trivial⟩)))))
  · have hkl : k = ts.length := by omega
    have hdn : ts.drop k = [] := List.drop_eq_nil_of_le (by omega)
    have hnew : W = ts.take k ++ t :: ts.drop k := by rw [he, hdn]; rfl
    have h6l : W.length = k + 1 + (ts.length - k) := by rw [hnew]; simp; omega
    have h6c : ttC W = ttC (ts.take k) ++ [.i .i64 t.1, .s t.2] ++ ttC (ts.drop k) := by rw [hnew]; simp [ttC]
    clear hnew he hdn
    repeat' first
      | refine J_stop (c := .ret) ?_
      | refine J_seq ?_ | refine J_region Tryz.tyOK ?_ | refine J_block ?_ | refine J_cond ?_ | refine J_ret ?_ | refine J_skip ?_ | refine J_exit ?_ | refine J_scope ?_
      | refine CondP.yes (by omega) ?_ | refine CondP.no (by omega) ?_ | refine CondP.mk (fun h => ?_) (fun h => ?_) | refine EqP.mk rfl ?_ | refine NewP.mk (fun ad => ?_) | refine ArP.exact (by simp only [inR]; omega) ?_ | refine SideP.mk (by first | omega | (dsimp only; omega) | (simp; omega)) ?_
      | refine J_drawU (id := 2) Tryz.tyOK (by kernel_rfl) [0, 0, 2, 7, 15, 31, 31, 127, 255, 31, 1023, 2047, 4095] (.leaf [0, 1, 2, 3, 4, 5, 6, 7, 8, 9, 10, 11, 12]) [] [3, 13] 13 true (by kernel_rfl) ?_ | refine TwoP.mk ?_ ?_ | refine GoP.mk (by repeat (first | exact List.Sublist.slnil | refine List.Sublist.cons_cons _ ?_ | refine List.Sublist.cons _ ?_)) (by first | exact fun _ h => h | exact fun _ h => h.2 | exact fun _ h => ((allD_append _ _).1 h).2) ?_ | exact trivial | refine J_drawU (id := 4) Tryz.tyOK (by kernel_rfl) [0, 0, 2, 7, 15, 31, 31, 127, 255, 31, 1023, 2047] (.leaf [0, 1, 2, 3, 4, 5, 6, 7, 8, 9, 10, 11]) [] [3, 28] 12 true (by kernel_rfl) ?_ | refine TwoP.mk ?_ ?_ | refine GoP.mk (by repeat (first | exact List.Sublist.slnil | refine List.Sublist.cons_cons _ ?_ | refine List.Sublist.cons _ ?_)) (by first | exact fun _ h => h | exact fun _ h => h.2 | exact fun _ h => ((allD_append _ _).1 h).2) ?_ | exact trivial | refine J_drawU (id := 6) Tryz.tyOK (by kernel_rfl) [0, 0, 3, 7, 0, 16, 63, 0, 0, 384, 1023, 2047] (.fork [0, 1, 2, 4, 7, 8, 9] (.alt 3 (.fork [] (.alt 5 (.fork [] (.alt 6 (.fork [] (.alt 10 (.leaf [11]) (.stop))) (.stop))) (.stop))) (.alt 5 (.fork [] (.alt 3 (.fork [] (.alt 6 (.fork [] (.alt 10 (.leaf [11]) (.stop))) (.stop))) (.stop))) (.stop)))) [3, 5, 6, 10] [3] 12 false (by kernel_rfl) ?_ | refine TwoP.mk ?_ ?_ | refine GoP.mk (by repeat (first | exact List.Sublist.slnil | refine List.Sublist.cons_cons _ ?_ | refine List.Sublist.cons _ ?_)) (by first | exact fun _ h => h | exact fun _ h => h.2 | exact fun _ h => ((allD_append _ _).1 h).2) ?_ | exact trivial | refine EntP.mk (Ents.ofSub (by repeat (first | exact List.Sublist.slnil | refine List.Sublist.cons_cons _ ?_ | refine List.Sublist.cons _ ?_)) (by first | exact fun _ h => h | exact fun _ _ => trivial | exact fun _ h => h.2 | exact fun _ h => h.2.2.2.2 | exact fun _ h => h.2.2 | exact fun _ h => h.2.2.2 | exact fun _ h => h.2.2.2.2.2 | exact fun _ h => h.2.2.2.2.2.2 | exact fun _ h => h.2.2.2.2.2.2.2 | exact fun _ h => h.2.2.2.2.2.2.2.2 | exact fun _ h => h.2.2.2.2.2.2.2.2.2 | exact fun _ h => h.2.2.2.2.2.2.2.2.2.2 | exact fun _ h => ((allD_append _ _).1 h).2)) ?_ | refine AppE.nil (ttC (ts.take k)) k rfl rfl rfl (SrcE.sl 23 23 _ _ _ _ _ rfl rfl (ttpreF (fun _ h => h.1) hk) (by rw [ttC_len, List.length_take, Nat.min_eq_left hk]; rfl)) (by dsimp only; omega) (fun a' c' => ?_) | refine AppE.row [_] _ (ttC (ts.take k)) [.i .i64 t.1, .s t.2] 1 rfl (SrcE.sl 23 23 _ _ 1 1 _ rfl rfl (.inl ⟨1, List.Mem.head _⟩) rfl) (by dsimp only; omega) (fun a' c' => ?_) | refine AppE.row [] _ (ttC (ts.take k)) [.i .i64 t.1, .s t.2] 1 rfl (SrcE.sl 23 23 _ _ 1 1 _ rfl rfl (.inl ⟨1, List.Mem.tail _ (List.Mem.head _)⟩) rfl) (by dsimp only; omega) (fun a' c' => ?_) | (refine AppE.row [_] _ (ttC (ts.take k) ++ [.i .i64 t.1, .s t.2]) (ttC (ts.drop k)) (ts.length - k) rfl (SrcE.sl 23 23 _ _ _ _ _ rfl rfl (ttsufF (fun _ h => h.1) hk hc) (by rw [ttC_len, List.length_drop]; rfl)) (by dsimp only; omega) (fun a' c' => ?_); rw [← h6l, ← h6c]) | (refine AppE.row [] _ (ttC (ts.take k) ++ [.i .i64 t.1, .s t.2]) (ttC (ts.drop k)) (ts.length - k) rfl (SrcE.sl 23 23 _ _ _ _ _ rfl rfl (ttsufF (fun _ h => h.1) hk hc) (by rw [ttC_len, List.length_drop]; rfl)) (by dsimp only; omega) (fun a' c' => ?_); rw [← h6l, ← h6c])
      | fail
    all_goals
      refine ⟨?_⟩
      first
        | (refine J_cap (List.Mem.head _) (fun hnc _ _ => ?_)
           refine J_ret ?_
           refine FinE.mk [] [_] ⟨_, _, hnc, rfl, rfl, rfl⟩ (Ents.toFact.trans (Ents.dropAll.trans (Ents.facts fun _ h => ⟨h.1, trivial⟩))))
        | (refine J_cap (List.Mem.tail _ (List.Mem.head _)) (fun hnc _ _ => ?_)
           refine J_ret ?_
           refine FinE.mk [] [_] ⟨_, _, hnc, rfl, rfl, rfl⟩ ((Ents.perm (List.Perm.swap _ _ _)).trans (Ents.toFact.trans (Ents.dropAll.trans (Ents.facts fun _ h => ⟨h.1, trivial⟩)))))

end Go.Proofs

namespace Go.Proofs
open Go Go.X
set_option maxRecDepth 100000

theorem reft_ok (n : Nat) : ∀ (els : List Inl), inlNodes els = n → ∀ (ia : Option Addr) (ic : Nat) (a : Option Addr) (c : Nat) (ts : List TT), ts.length ≤ c → ts.length + n ≤ 10000000 →
    FnS Tryz.prog 110 [.c (.sl ia els.length ic), .c (.sl a ts.length c)] [] [slFact 23 2 a ts.length (ttC ts), inlF ia els] (TsF ((inlLinks els).foldl (addG cmpTT) ts)) := by
  induction n using Nat.strongRecOn with | _ n ih
  intro els hn ia ic a c ts hc hts
  have hel := inlNodes_len els
  refine fn_of_J Tryz.tyOK 0 Tryz.func110 (by kernel_rfl) (c := Tryz.f110.body.getD .skip) (by kernel_rfl) Tryz.ntmps110 (rs := Tryz.f110.results.toList) rfl (by simp) (fun G => ?_)
  repeat' first
    | refine J_seq ?_ | refine J_region Tryz.tyOK ?_ | refine J_block ?_ | refine J_cond ?_ | refine J_ret ?_ | refine J_skip ?_ | refine J_exit ?_ | refine J_scope ?_
    | refine CondP.yes (by omega) ?_ | refine CondP.no (by omega) ?_ | refine CondP.mk (fun h => ?_) (fun h => ?_) | refine EqP.mk rfl ?_ | refine NewP.mk (fun ad => ?_) | refine ArP.exact (by simp only [inR]; omega) ?_ | refine SideP.mk (by first | omega | (dsimp only; omega) | (simp; omega)) ?_
    | fail
  refine J_loop (α := Nat × List TT × Option Addr × Nat) (fun x => [(0, .c (.sl ia els.length ic)), (1, .c (.sl x.2.2.1 x.2.1.length x.2.2.2)), (5, .c (.i .i64 x.1))])
    (fun _ => []) (fun x => [slFact 23 2 x.2.2.1 x.2.1.length (ttC x.2.1), inlF ia els]) 0 (fun x => x.1 ≤ els.length ∧ x.2.1 = (inlLinks (els.take x.1)).foldl (addG cmpTT) ts ∧ x.2.1.length ≤ x.2.2.2) (fun x => els.length - x.1)
    (InFam.mk (0, ts, a, c) ⟨Nat.zero_le _, rfl, hc⟩ (by repeat' first | exact SubE.nil | refine SubE.cons rfl ?_ ?_ | exact VEq.refl _ | refine VEq.int (by omega) | refine VEq.sl rfl (by first | rfl | omega | (rw [List.length_append]; rfl) | (simp; omega)) rfl) (Ents.refl _ _)) (fun x hx => ?_)
  obtain ⟨i, us, a, c⟩ := x
  obtain ⟨hi, hus, hc⟩ := hx
  dsimp only at hi hus hc ⊢
  by_cases hlt : i < els.length
  · have hk := inlNodes_kid hlt
    have hst := inlLinks_succ hlt
    have hfk := inl_kids (a := ia) hlt
    have hg0 : ((inlC els).drop (i * 6 + 0)).take 1 = [.i .i64 els[i].kind] := inlC_get (o := 0) (k := 1) hlt (by omega)
    have hg2 : ((inlC els).drop (i * 6 + 2)).take 2 = [.i .i64 els[i].sp, .s els[i].name] := inlC_get (o := 2) (k := 2) hlt (by omega)
    have hg5 : ((inlC els).drop (i * 6 + 5)).take 1 = [.sl els[i].ka els[i].kids.length els[i].kc] := inlC_get (o := 5) (k := 1) hlt (by omega)
    have hnt := inlNodes_succ hlt
    have hnl := inlNodes_take_le els (i + 1)
    have hul : us.length ≤ ts.length + inlNodes (els.take i) := by
      have h1 := foldAddG_len (cf := cmpTT) (inlLinks (els.take i)) ts
      have h2 := inlLinks_len (els.take i)
      rw [hus]; omega
    have hstep : (inlLinks (els.take (i + 1))).foldl (addG cmpTT) ts = (inlLinks els[i].kids).foldl (addG cmpTT) (els[i].own.foldl (addG cmpTT) us) := by rw [hst, hus]; simp
    have hrd : ∀ L, Reads L [slFact 23 2 a us.length (ttC us), inlF ia els] 102 6 ia els.length (inlC els) := fun _ => inl_reads (fun _ h => ⟨h.2.1, trivial⟩)
    have hrd2 : ∀ L F, Reads L [F, slFact 23 2 a us.length (ttC us), inlF ia els] 102 6 ia els.length (inlC els) := fun _ _ => inl_reads (fun _ h => ⟨h.2.2.1, trivial⟩)
    have ih' := fun a' c' ts' (h0 : ts'.length ≤ c') (h : ts'.length + inlNodes els[i].kids ≤ 10000000) => ih (inlNodes els[i].kids) (by omega) els[i].kids rfl els[i].ka els[i].kc a' c' ts' h0 h
    generalize els[i] = x at *
    have hyes : x.kind = 4 → ¬ (x.sp = 0 ∧ x.name = [] ∧ True) → x.own = [(x.sp, x.name)] := fun h1 h2 => by unfold Inl.own; exact if_pos ⟨h1, h2⟩
    have hno : ¬ (x.kind = 4 ∧ ¬ (x.sp = 0 ∧ x.name = [] ∧ True)) → x.own = [] := fun h => by unfold Inl.own; exact if_neg h
    have hp := put_ok a c us (x.sp, x.name) hc (by omega)
    have hal := addG_len (cf := cmpTT) us (x.sp, x.name)
    have hca := ih' a c us hc (by omega)
    have hcb := fun a' c' h => ih' a' c' (addG cmpTT us (x.sp, x.name)) h (by omega)
    clear ih' ih hst hus
    repeat' first
      | refine J_seq ?_ | refine J_region Tryz.tyOK ?_ | refine J_block ?_ | refine J_cond ?_ | refine J_ret ?_ | refine J_skip ?_ | refine J_exit ?_ | refine J_scope ?_
      | refine CondP.yes (by omega) ?_ | refine CondP.no (by omega) ?_ | refine CondP.mk (fun h => ?_) (fun h => ?_) | refine EqP.mk rfl ?_ | refine NewP.mk (fun ad => ?_) | refine ArP.exact (by simp only [inR]; omega) ?_ | refine SideP.mk (by first | omega | (dsimp only; omega) | (simp; omega)) ?_
      | refine IdxE.mk 102 6 _ (hrd _) (by omega) (by omega) ?_ | refine IdxE.mk 102 6 _ (hrd2 _ _) (by omega) (by omega) ?_ | refine FldE.mk 102 6 _ _ (hrd _) (by omega) ?_ | refine FldE.mk 102 6 _ _ (hrd2 _ _) (by omega) ?_ | refine LoadE.mk 102 els.length _ _ (hrd _) (by omega) (by omega) (by decide) (by exact hg0) ?_ | refine LoadE.mk 102 els.length _ _ (hrd _) (by omega) (by omega) (by decide) (by exact hg2) ?_ | refine LoadE.mk 102 els.length _ _ (hrd _) (by omega) (by omega) (by decide) (by exact hg5) ?_ | refine LoadE.mk 102 els.length _ _ (hrd2 _ _) (by omega) (by omega) (by decide) (by exact hg5) ?_ | (refine CallP.mk [] [] [_] _ hp (List.Perm.refl _) (fun _ h => ⟨h.1, trivial⟩) (fun v L' D' hq => ?_); obtain ⟨a3, c3, h3, rfl, rfl, rfl⟩ := hq) | (refine CallP.mk [] [] [_, _] _ hca (List.Perm.refl _) (fun _ h => ⟨h.1, (hfk _ ⟨h.2.1, trivial⟩).1, trivial⟩) (fun v L' D' hq => ?_); obtain ⟨a4, c4, h4, rfl, rfl, rfl⟩ := hq) | (refine CallP.mk [] [] [_, _] _ (hcb _ _ h3) (List.Perm.refl _) (fun _ h => ⟨h.1, (hfk _ ⟨h.2.2.1, trivial⟩).1, trivial⟩) (fun v L' D' hq => ?_); obtain ⟨a4, c4, h4, rfl, rfl, rfl⟩ := hq) | (have hxx := hyes (by assumption) (by assumption); refine Round.mk (i + 1, (inlLinks x.kids).foldl (addG cmpTT) (addG cmpTT us (x.sp, x.name)), a4, c4) (by dsimp only; omega) ⟨by dsimp only; omega, by dsimp only; rw [hstep, hxx]; rfl, h4⟩ (by repeat' first | exact SubE.nil | refine SubE.cons rfl ?_ ?_ | exact VEq.refl _ | refine VEq.int (by omega) | refine VEq.sl rfl (by first | rfl | omega | (rw [List.length_append]; rfl) | (simp; omega)) rfl) (Ents.facts fun _ h => ⟨h.1, h.2.2.2.1, trivial⟩)) | refine Round.mk (i + 1, (inlLinks x.kids).foldl (addG cmpTT) us, a4, c4) (by dsimp only; omega) ⟨by dsimp only; omega, by dsimp only; rw [hstep, hno (by intro h; simp_all)]; rfl, h4⟩ (by repeat' first | exact SubE.nil | refine SubE.cons rfl ?_ ?_ | exact VEq.refl _ | refine VEq.int (by omega) | refine VEq.sl rfl (by first | rfl | omega | (rw [List.length_append]; rfl) | (simp; omega)) rfl) (Ents.facts fun _ h => ⟨h.1, h.2.2.1, trivial⟩)
      | fail
    all_goals trace_state
  · have hil : i = els.length := by omega
    subst hil
    rw [List.take_length] at hus
    subst hus
    repeat' first
      | refine J_seq ?_ | refine J_region Tryz.tyOK ?_ | refine J_block ?_ | refine J_cond ?_ | refine J_ret ?_ | refine J_skip ?_ | refine J_exit ?_ | refine J_scope ?_
      | refine CondP.yes (by omega) ?_ | refine CondP.no (by omega) ?_ | refine CondP.mk (fun h => ?_) (fun h => ?_) | refine EqP.mk rfl ?_ | refine NewP.mk (fun ad => ?_) | refine ArP.exact (by simp only [inR]; omega) ?_ | refine SideP.mk (by first | omega | (dsimp only; omega) | (simp; omega)) ?_
      | refine FinE.mk [] [_] ⟨a, c, hc, rfl, rfl, rfl⟩ (Ents.facts fun _ h => ⟨h.1, trivial⟩)
      | fail

theorem refb_ok (n : Nat) : ∀ (bs : List Blk), blkNodes bs = n → ∀ (ba : Option Addr) (bc : Nat) (a : Option Addr) (c : Nat) (ts : List TT), ts.length ≤ c → ts.length + n ≤ 10000000 →
    FnS Tryz.prog 75 [.c (.sl ba bs.length bc), .c (.sl a ts.length c)] [] [slFact 23 2 a ts.length (ttC ts), blkF ba bs] (TsF ((blkLinks bs).foldl (addG cmpTT) ts)) := by
  induction n using Nat.strongRecOn with | _ n ih
  intro bs hn ba bc a c ts hc hts
  have hel := blkNodes_len bs
  refine fn_of_J Tryz.tyOK 0 Tryz.func75 (by kernel_rfl) (c := Tryz.f75.body.getD .skip) (by kernel_rfl) Tryz.ntmps75 (rs := Tryz.f75.results.toList) rfl (by simp) (fun G => ?_)
  repeat' first
    | refine J_seq ?_ | refine J_region Tryz.tyOK ?_ | refine J_block ?_ | refine J_cond ?_ | refine J_ret ?_ | refine J_skip ?_ | refine J_exit ?_ | refine J_scope ?_
    | refine CondP.yes (by omega) ?_ | refine CondP.no (by omega) ?_ | refine CondP.mk (fun h => ?_) (fun h => ?_) | refine EqP.mk rfl ?_ | refine NewP.mk (fun ad => ?_) | refine ArP.exact (by simp only [inR]; omega) ?_ | refine SideP.mk (by first | omega | (dsimp only; omega) | (simp; omega)) ?_
    | fail
  refine J_loop (α := Nat × List TT × Option Addr × Nat) (fun x => [(0, .c (.sl ba bs.length bc)), (1, .c (.sl x.2.2.1 x.2.1.length x.2.2.2)), (5, .c (.i .i64 x.1))])
    (fun _ => []) (fun x => [slFact 23 2 x.2.2.1 x.2.1.length (ttC x.2.1), blkF ba bs]) 0 (fun x => x.1 ≤ bs.length ∧ x.2.1 = (blkLinks (bs.take x.1)).foldl (addG cmpTT) ts ∧ x.2.1.length ≤ x.2.2.2) (fun x => bs.length - x.1)
    (InFam.mk (0, ts, a, c) ⟨Nat.zero_le _, rfl, hc⟩ (by repeat' first | exact SubE.nil | refine SubE.cons rfl ?_ ?_ | exact VEq.refl _ | refine VEq.int (by omega) | refine VEq.sl rfl (by first | rfl | omega | (rw [List.length_append]; rfl) | (simp; omega)) rfl) (Ents.refl _ _)) (fun x hx => ?_)
  obtain ⟨i, us, a, c⟩ := x
  obtain ⟨hi, hus, hc⟩ := hx
  dsimp only at hi hus hc ⊢
  by_cases hlt : i < bs.length
  · have hk := blkNodes_kid hlt
    have hst := blkLinks_succ hlt
    have hfi := blk_inl (a := ba) hlt
    have hfk := blk_kids (a := ba) hlt
    have hg3 : ((blkC bs).drop (i * 5 + 3)).take 1 = [.sl bs[i].ia bs[i].inl.length bs[i].ic] := blkC_get (o := 3) (k := 1) hlt (by omega)
    have hg4 : ((blkC bs).drop (i * 5 + 4)).take 1 = [.sl bs[i].ka bs[i].kids.length bs[i].kc] := blkC_get (o := 4) (k := 1) hlt (by omega)
    have hnt := blkNodes_succ hlt
    have hnl := blkNodes_take_le bs (i + 1)
    have hul : us.length ≤ ts.length + blkNodes (bs.take i) := by
      have h1 := foldAddG_len (cf := cmpTT) (blkLinks (bs.take i)) ts
      have h2 := blkLinks_len (bs.take i)
      rw [hus]; omega
    have hstep : (blkLinks (bs.take (i + 1))).foldl (addG cmpTT) ts = (blkLinks bs[i].kids).foldl (addG cmpTT) ((inlLinks bs[i].inl).foldl (addG cmpTT) us) := by rw [hst, hus]; simp
    have hrd : ∀ L, Reads L [slFact 23 2 a us.length (ttC us), blkF ba bs] 81 5 ba bs.length (blkC bs) := fun _ => blk_reads (fun _ h => ⟨h.2.1, trivial⟩)
    have hil := inlLinks_len bs[i].inl
    have hfl := foldAddG_len (cf := cmpTT) (inlLinks bs[i].inl) us
    have hca := reft_ok _ bs[i].inl rfl bs[i].ia bs[i].ic a c us hc (by omega)
    have hcb := fun a' c' (h : ((inlLinks bs[i].inl).foldl (addG cmpTT) us).length ≤ c') => ih (blkNodes bs[i].kids) (by omega) bs[i].kids rfl bs[i].ka bs[i].kc a' c' ((inlLinks bs[i].inl).foldl (addG cmpTT) us) h (by omega)
    clear ih hst hus
    generalize bs[i] = x at *
    repeat' first
      | refine J_seq ?_ | refine J_region Tryz.tyOK ?_ | refine J_block ?_ | refine J_cond ?_ | refine J_ret ?_ | refine J_skip ?_ | refine J_exit ?_ | refine J_scope ?_
      | refine CondP.yes (by omega) ?_ | refine CondP.no (by omega) ?_ | refine CondP.mk (fun h => ?_) (fun h => ?_) | refine EqP.mk rfl ?_ | refine NewP.mk (fun ad => ?_) | refine ArP.exact (by simp only [inR]; omega) ?_ | refine SideP.mk (by first | omega | (dsimp only; omega) | (simp; omega)) ?_
      | refine J_drawU (id := 4) Tryz.tyOK (by kernel_rfl) [0, 0, 3, 7, 15, 0, 0, 96, 224, 480, 0, 2016, 4095, 8191] (.fork [0, 1, 2, 3, 4, 5, 6, 7, 8, 9, 10] (.alt 11 (.fork [] (.alt 12 (.leaf [13]) (.stop))) (.stop))) [11, 12] [14, 19] 14 false (by kernel_rfl) ?_ | refine TwoP.mk ?_ ?_ | refine GoP.mk (by repeat (first | exact keepC_sub _ _ _ | exact List.Sublist.slnil | refine List.Sublist.cons_cons _ ?_ | refine List.Sublist.cons _ ?_)) (by first | exact fun _ h => h | exact fun _ h => h.2 | exact fun _ h => ((allD_append _ _).1 h).2) ?_ | exact trivial | refine EntP.mk (Ents.ofSub (by repeat (first | exact keepC_sub _ _ _ | exact List.Sublist.slnil | refine List.Sublist.cons_cons _ ?_ | refine List.Sublist.cons _ ?_)) (by first | exact fun _ h => h | exact fun _ _ => trivial | exact fun _ h => h.2 | exact fun _ h => h.2.2.2.2 | exact fun _ h => h.2.2 | exact fun _ h => h.2.2.2 | exact fun _ h => h.2.2.2.2.2 | exact fun _ h => h.2.2.2.2.2.2 | exact fun _ h => h.2.2.2.2.2.2.2 | exact fun _ h => h.2.2.2.2.2.2.2.2 | exact fun _ h => h.2.2.2.2.2.2.2.2.2 | exact fun _ h => h.2.2.2.2.2.2.2.2.2.2 | exact fun _ h => ((allD_append _ _).1 h).2)) ?_ | refine IdxE.mk 81 5 _ (hrd _) (by omega) (by omega) ?_ | refine FldE.mk 81 5 _ _ (hrd _) (by omega) ?_ | refine LoadE.mk 81 bs.length _ _ (hrd _) (by omega) (by omega) (by decide) (by exact hg3) ?_ | refine LoadE.mk 81 bs.length _ _ (hrd _) (by omega) (by omega) (by decide) (by exact hg4) ?_ | (refine CallP.mk [] [] [_, _] _ hca (List.Perm.refl _) (fun _ h => ⟨h.1, (hfi _ ⟨h.2.1, trivial⟩).1, trivial⟩) (fun v L' D' hq => ?_); obtain ⟨a3, c3, h3, rfl, rfl, rfl⟩ := hq) | (refine CallP.mk [] [] [_, _] _ (hcb _ _ h3) (List.Perm.refl _) (fun _ h => ⟨h.1, (hfk _ ⟨h.2.2.1, trivial⟩).1, trivial⟩) (fun v L' D' hq => ?_); obtain ⟨a4, c4, h4, rfl, rfl, rfl⟩ := hq) | refine Round.mk (i + 1, (blkLinks x.kids).foldl (addG cmpTT) ((inlLinks x.inl).foldl (addG cmpTT) us), a4, c4) (by dsimp only; omega) ⟨by dsimp only; omega, hstep.symm, h4⟩ (by repeat' first | exact SubE.nil | refine SubE.cons rfl ?_ ?_ | exact VEq.refl _ | refine VEq.int (by omega) | refine VEq.sl rfl (by first | rfl | omega | (rw [List.length_append]; rfl) | (simp; omega)) rfl) (Ents.facts fun _ h => ⟨h.1, h.2.2.2.1, trivial⟩)
      | fail
    all_goals trace_state
  · have hil : i = bs.length := by omega
    subst hil
    rw [List.take_length] at hus
    subst hus
    repeat' first
      | refine J_seq ?_ | refine J_region Tryz.tyOK ?_ | refine J_block ?_ | refine J_cond ?_ | refine J_ret ?_ | refine J_skip ?_ | refine J_exit ?_ | refine J_scope ?_
      | refine CondP.yes (by omega) ?_ | refine CondP.no (by omega) ?_ | refine CondP.mk (fun h => ?_) (fun h => ?_) | refine EqP.mk rfl ?_ | refine NewP.mk (fun ad => ?_) | refine ArP.exact (by simp only [inR]; omega) ?_ | refine SideP.mk (by first | omega | (dsimp only; omega) | (simp; omega)) ?_
      | refine FinE.mk [] [_] ⟨a, c, hc, rfl, rfl, rfl⟩ (Ents.facts fun _ h => ⟨h.1, trivial⟩)
      | fail

theorem refTargets_ok (bs : List Blk) (hb : blkNodes bs ≤ 10000000) (ba : Option Addr) (bc : Nat) : FnS Tryz.prog 33 [.c (.sl ba bs.length bc)] [] [blkF ba bs] (TsF (tgT bs)) := by
  have c1 := refb_ok _ bs rfl ba bc none 0 [] (Nat.le_refl _) (by simpa using hb)
  change FnS _ _ _ _ _ (TsF (tgT bs)) at c1
  generalize tgT bs = ts at *
  refine fn_of_J Tryz.tyOK 0 Tryz.func33 (by kernel_rfl) (c := Tryz.f33.body.getD .skip) (by kernel_rfl) Tryz.ntmps33 (rs := Tryz.f33.results.toList) rfl (by simp) (fun G => ?_)
  repeat' first
    | refine J_seq ?_ | refine J_region Tryz.tyOK ?_ | refine J_block ?_ | refine J_cond ?_ | refine J_ret ?_ | refine J_skip ?_ | refine J_exit ?_ | refine J_scope ?_
    | refine CondP.yes (by omega) ?_ | refine CondP.no (by omega) ?_ | refine CondP.mk (fun h => ?_) (fun h => ?_) | refine EqP.mk rfl ?_ | refine NewP.mk (fun ad => ?_) | refine ArP.exact (by simp only [inR]; omega) ?_ | refine SideP.mk (by first | omega | (dsimp only; omega) | (simp; omega)) ?_
    | (refine CallP.mk [] [] [_, _] _ c1 (List.Perm.refl _) (fun _ h => ⟨⟨fun x hx => (by cases hx), .inl ⟨rfl, rfl⟩⟩, h.1, trivial⟩) (fun v L' D' hq => ?_); obtain ⟨a3, c3, h3, rfl, rfl, rfl⟩ := hq) | refine FinE.mk [] [_] ⟨_, _, h3, rfl, rfl, rfl⟩ (Ents.facts fun _ h => ⟨h.1, trivial⟩)
    | fail
  all_goals trace_state

theorem sameTt_ok (ts : List TT) (hl : ts.length ≤ 10000000) (a b : Option Addr) (c d : Nat) : FnS Tryz.prog 31 [.c (.sl a ts.length c), .c (.sl b ts.length d)] [] [slFact 23 2 a ts.length (ttC ts), slFact 23 2 b ts.length (ttC ts)] (Is (.c (.b true))) := by
  have hra : ∀ L, Reads L [slFact 23 2 a ts.length (ttC ts), slFact 23 2 b ts.length (ttC ts)] 23 2 a ts.length (ttC ts) := fun _ => .inr fun _ h => h.1
  have hrb : ∀ L, Reads L [slFact 23 2 a ts.length (ttC ts), slFact 23 2 b ts.length (ttC ts)] 23 2 b ts.length (ttC ts) := fun _ => .inr fun _ h => h.2.1
  refine fn_of_J Tryz.tyOK 0 Tryz.func31 (by kernel_rfl) (c := Tryz.f31.body.getD .skip) (by kernel_rfl) Tryz.ntmps31 (rs := Tryz.f31.results.toList) rfl (by simp) (fun G => ?_)
  repeat' first
    | refine J_seq ?_ | refine J_region Tryz.tyOK ?_ | refine J_block ?_ | refine J_cond ?_ | refine J_ret ?_ | refine J_skip ?_ | refine J_exit ?_ | refine J_scope ?_
    | refine CondP.yes (by omega) ?_ | refine CondP.no (by omega) ?_ | refine CondP.mk (fun h => ?_) (fun h => ?_) | refine EqP.mk rfl ?_ | refine NewP.mk (fun ad => ?_) | refine ArP.exact (by simp only [inR]; omega) ?_ | refine SideP.mk (by first | omega | (dsimp only; omega) | (simp; omega)) ?_
    | fail
  refine J_loop (α := Nat) (fun i => [(0, .c (.sl a ts.length c)), (1, .c (.sl b ts.length d)), (5, .c (.i .i64 i))]) (fun _ => []) (fun _ => [slFact 23 2 a ts.length (ttC ts), slFact 23 2 b ts.length (ttC ts)]) 0 (fun i => i ≤ ts.length) (fun i => ts.length - i)
    (InFam.mk 0 (Nat.zero_le _) (by repeat' first | exact SubE.nil | refine SubE.cons rfl ?_ ?_ | exact VEq.refl _ | refine VEq.int (by omega) | refine VEq.sl rfl (by first | rfl | omega | (rw [List.length_append]; rfl) | (simp; omega)) rfl) (Ents.refl _ _)) (fun i hi => ?_)
  by_cases hlt : i < ts.length
  · have hg := ttl_get hlt
    generalize ts[i] = y at *
    have hy : y.1 = y.1 ∧ y.2 = y.2 ∧ True := ⟨rfl, rfl, trivial⟩
    repeat' first
      | refine CondP.yes hy ?_ | refine CondP.no (fun h => h hy) ?_
      | refine J_seq ?_ | refine J_region Tryz.tyOK ?_ | refine J_block ?_ | refine J_cond ?_ | refine J_ret ?_ | refine J_skip ?_ | refine J_exit ?_ | refine J_scope ?_
      | refine CondP.yes (by omega) ?_ | refine CondP.no (by omega) ?_ | refine CondP.mk (fun h => ?_) (fun h => ?_) | refine EqP.mk rfl ?_ | refine NewP.mk (fun ad => ?_) | refine ArP.exact (by simp only [inR]; omega) ?_ | refine SideP.mk (by first | omega | (dsimp only; omega) | (simp; omega)) ?_
      | refine J_drawU (id := 6) Tryz.tyOK (by kernel_rfl) [0, 0, 3, 7, 0, 0, 48, 112, 255] (.leaf [0, 1, 2, 3, 4, 5, 6, 7, 8]) [] [19, 23] 9 true (by kernel_rfl) ?_ | refine TwoP.mk ?_ ?_ | refine GoP.mk (by repeat (first | exact List.Sublist.slnil | refine List.Sublist.cons_cons _ ?_ | refine List.Sublist.cons _ ?_)) (by first | exact fun _ h => h | exact fun _ h => h.2 | exact fun _ h => ((allD_append _ _).1 h).2) ?_ | exact trivial | refine EntP.mk (Ents.ofSub (by repeat (first | exact List.Sublist.slnil | refine List.Sublist.cons_cons _ ?_ | refine List.Sublist.cons _ ?_)) (by first | exact fun _ h => h | exact fun _ _ => trivial | exact fun _ h => h.2 | exact fun _ h => h.2.2.2.2 | exact fun _ h => h.2.2 | exact fun _ h => h.2.2.2 | exact fun _ h => h.2.2.2.2.2 | exact fun _ h => h.2.2.2.2.2.2 | exact fun _ h => h.2.2.2.2.2.2.2 | exact fun _ h => h.2.2.2.2.2.2.2.2 | exact fun _ h => h.2.2.2.2.2.2.2.2.2 | exact fun _ h => h.2.2.2.2.2.2.2.2.2.2 | exact fun _ h => ((allD_append _ _).1 h).2)) ?_ | refine IdxE.mk 23 2 _ (hra _) (by omega) (by omega) ?_ | refine IdxE.mk 23 2 _ (hrb _) (by omega) (by omega) ?_ | refine LoadE.mk 23 _ _ [.i .i64 y.1, .s y.2] (hra _) (by omega) (by omega) (by decide) (by exact hg) ?_ | refine LoadE.mk 23 _ _ [.i .i64 y.1, .s y.2] (hrb _) (by omega) (by omega) (by decide) (by exact hg) ?_ | refine Round.mk (i + 1) (by omega) (by omega) (by repeat' first | exact SubE.nil | refine SubE.cons rfl ?_ ?_ | exact VEq.refl _ | refine VEq.int (by omega) | refine VEq.sl rfl (by first | rfl | omega | (rw [List.length_append]; rfl) | (simp; omega)) rfl) (Ents.refl _ _)
      | fail
    all_goals trace_state
  · have hil : i = ts.length := by omega
    subst hil
    repeat' first
      | refine J_seq ?_ | refine J_region Tryz.tyOK ?_ | refine J_block ?_ | refine J_cond ?_ | refine J_ret ?_ | refine J_skip ?_ | refine J_exit ?_ | refine J_scope ?_
      | refine CondP.yes (by omega) ?_ | refine CondP.no (by omega) ?_ | refine CondP.mk (fun h => ?_) (fun h => ?_) | refine EqP.mk rfl ?_ | refine NewP.mk (fun ad => ?_) | refine ArP.exact (by simp only [inR]; omega) ?_ | refine SideP.mk (by first | omega | (dsimp only; omega) | (simp; omega)) ?_
      | refine FinE.bool rfl
      | fail

end Go.Proofs

namespace Go.Proofs
open Go Go.X
set_option maxRecDepth 100000

theorem elements_ok (n : Nat) : ∀ (bs : List Inl), inlNodes bs = n → ∀ (ba : Option Addr) (bc : Nat), n ≤ 10000000 → FnS Tryz.prog 48 [.c (.sl ba bs.length bc)] [] [inlF ba bs] (fun v L D => ∃ s : Int, 0 ≤ s ∧ s ≤ inlNodes bs ∧ (s < 500 → s = inlNodes bs) ∧ v = .c (.i .i64 s) ∧ L = [] ∧ D = []) := by
  induction n using Nat.strongRecOn with | _ n ih
  intro bs hn ba bc hb
  have hel := inlNodes_len bs
  refine fn_of_J Tryz.tyOK 0 Tryz.func48 (by kernel_rfl) (c := Tryz.f48.body.getD .skip) (by kernel_rfl) Tryz.ntmps48 (rs := Tryz.f48.results.toList) rfl (by simp) (fun G => ?_)
  repeat' first
    | refine J_seq ?_ | refine J_region Tryz.tyOK ?_ | refine J_block ?_ | refine J_cond ?_ | refine J_ret ?_ | refine J_skip ?_ | refine J_exit ?_ | refine J_scope ?_
    | refine CondP.yes (by omega) ?_ | refine CondP.no (by omega) ?_ | refine CondP.mk (fun h => ?_) (fun h => ?_) | refine EqP.mk rfl ?_ | refine NewP.mk (fun ad => ?_) | refine ArP.exact (by simp only [inR]; omega) ?_ | refine SideP.mk (by first | omega | (dsimp only; omega) | (simp; omega)) ?_
    | fail
  refine J_loop (α := Nat × Int) (fun x => [(0, .c (.sl ba bs.length bc)), (3, .c (.i .i64 x.2)), (4, .c (.i .i64 x.1))]) (fun _ => []) (fun _ => [inlF ba bs]) 0
    (fun x => x.1 ≤ bs.length ∧ 0 ≤ x.2 ∧ x.2 ≤ inlNodes (bs.take x.1) ∧ (x.2 < 500 → x.2 = inlNodes (bs.take x.1))) (fun x => bs.length - x.1) (InFam.mk (0, 0) ⟨Nat.zero_le _, Int.le_refl _, by simp [inlNodes], fun _ => by simp [inlNodes]⟩ (by repeat' first | exact SubE.nil | refine SubE.cons rfl ?_ ?_ | exact VEq.refl _ | refine VEq.int (by omega) | refine VEq.sl rfl (by first | rfl | omega | (rw [List.length_append]; rfl) | (simp; omega)) rfl) (Ents.refl _ _)) (fun x hx => ?_)
  obtain ⟨i, s⟩ := x
  obtain ⟨hi, hs0, hs1, hs2⟩ := hx
  dsimp only at hi hs0 hs1 hs2 ⊢
  have hnt0 := inlNodes_take_le bs i
  by_cases hlt : i < bs.length
  · have hk := inlNodes_kid hlt
    have hnt := inlNodes_succ hlt
    have hnl := inlNodes_take_le bs (i + 1)
    have hrd : ∀ L, Reads L [inlF ba bs] 102 6 ba bs.length (inlC bs) := fun _ => inl_reads (fun _ h => h)
    have hfk := inl_kids (a := ba) hlt
    have hg5 : ((inlC bs).drop (i * 6 + 5)).take 1 = [.sl bs[i].ka bs[i].kids.length bs[i].kc] := inlC_get (o := 5) (k := 1) hlt (by omega)
    have hca := ih (inlNodes bs[i].kids) (by omega) bs[i].kids rfl bs[i].ka bs[i].kc (by omega)
    clear ih
    generalize bs[i] = x at *
    repeat' first
      | refine J_seq ?_ | refine J_region Tryz.tyOK ?_ | refine J_block ?_ | refine J_cond ?_ | refine J_ret ?_ | refine J_skip ?_ | refine J_exit ?_ | refine J_scope ?_
      | refine CondP.yes (by omega) ?_ | refine CondP.no (by omega) ?_ | refine CondP.mk (fun h => ?_) (fun h => ?_) | refine EqP.mk rfl ?_ | refine NewP.mk (fun ad => ?_) | refine ArP.exact (by simp only [inR]; omega) ?_ | refine SideP.mk (by first | omega | (dsimp only; omega) | (simp; omega)) ?_
      | refine IdxE.mk 102 6 _ (hrd _) (by omega) (by omega) ?_ | refine FldE.mk 102 6 _ _ (hrd _) (by omega) ?_ | refine LoadE.mk 102 bs.length _ _ (hrd _) (by omega) (by omega) (by decide) (by exact hg5) ?_ | (refine CallP.mk [] [] [_] _ hca (List.Perm.refl _) hfk (fun v L' D' hp => ?_); obtain ⟨r, hr0, hr1, hr2, rfl, rfl, rfl⟩ := hp) | refine Round.mk (i + 1, s + 1 + r) (by dsimp only; omega) ⟨by dsimp only; omega, by dsimp only; omega, by dsimp only; omega, by dsimp only; omega⟩ (by repeat' first | exact SubE.nil | refine SubE.cons rfl ?_ ?_ | exact VEq.refl _ | refine VEq.int (by omega) | refine VEq.sl rfl (by first | rfl | omega | (rw [List.length_append]; rfl) | (simp; omega)) rfl) (Ents.facts fun _ h => h) | refine FinE.mk [] [] ⟨s, hs0, by omega, by omega, rfl, rfl, rfl⟩ (Ents.facts fun _ _ => trivial)
      | fail
    all_goals trace_state
  · have hil : i = bs.length := by omega
    subst hil
    rw [List.take_length] at hs1 hs2
    repeat' first
      | refine J_seq ?_ | refine J_region Tryz.tyOK ?_ | refine J_block ?_ | refine J_cond ?_ | refine J_ret ?_ | refine J_skip ?_ | refine J_exit ?_ | refine J_scope ?_
      | refine CondP.yes (by omega) ?_ | refine CondP.no (by omega) ?_ | refine CondP.mk (fun h => ?_) (fun h => ?_) | refine EqP.mk rfl ?_ | refine NewP.mk (fun ad => ?_) | refine ArP.exact (by simp only [inR]; omega) ?_ | refine SideP.mk (by first | omega | (dsimp only; omega) | (simp; omega)) ?_
      | refine FinE.mk [] [] ⟨s, hs0, hs1, hs2, rfl, rfl, rfl⟩ (Ents.facts fun _ _ => trivial)
      | fail

theorem size_ok (n : Nat) : ∀ (bs : List Blk), blkNodes bs = n → ∀ (ba : Option Addr) (bc : Nat), n ≤ 10000000 → FnS Tryz.prog 18 [.c (.sl ba bs.length bc)] [] [blkF ba bs] (fun v L D => ∃ s : Int, 0 ≤ s ∧ s ≤ blkNodes bs ∧ (s < 500 → s = blkNodes bs) ∧ v = .c (.i .i64 s) ∧ L = [] ∧ D = []) := by
  induction n using Nat.strongRecOn with | _ n ih
  intro bs hn ba bc hb
  have hel := blkNodes_len bs
  refine fn_of_J Tryz.tyOK 0 Tryz.func18 (by kernel_rfl) (c := Tryz.f18.body.getD .skip) (by kernel_rfl) Tryz.ntmps18 (rs := Tryz.f18.results.toList) rfl (by simp) (fun G => ?_)
  repeat' first
    | refine J_seq ?_ | refine J_region Tryz.tyOK ?_ | refine J_block ?_ | refine J_cond ?_ | refine J_ret ?_ | refine J_skip ?_ | refine J_exit ?_ | refine J_scope ?_
    | refine CondP.yes (by omega) ?_ | refine CondP.no (by omega) ?_ | refine CondP.mk (fun h => ?_) (fun h => ?_) | refine EqP.mk rfl ?_ | refine NewP.mk (fun ad => ?_) | refine ArP.exact (by simp only [inR]; omega) ?_ | refine SideP.mk (by first | omega | (dsimp only; omega) | (simp; omega)) ?_
    | fail
  refine J_loop (α := Nat × Int) (fun x => [(0, .c (.sl ba bs.length bc)), (3, .c (.i .i64 x.2)), (4, .c (.i .i64 x.1))]) (fun _ => []) (fun _ => [blkF ba bs]) 0
    (fun x => x.1 ≤ bs.length ∧ 0 ≤ x.2 ∧ x.2 ≤ blkNodes (bs.take x.1) ∧ (x.2 < 500 → x.2 = blkNodes (bs.take x.1))) (fun x => bs.length - x.1) (InFam.mk (0, 0) ⟨Nat.zero_le _, Int.le_refl _, by simp [blkNodes], fun _ => by simp [blkNodes]⟩ (by repeat' first | exact SubE.nil | refine SubE.cons rfl ?_ ?_ | exact VEq.refl _ | refine VEq.int (by omega) | refine VEq.sl rfl (by first | rfl | omega | (rw [List.length_append]; rfl) | (simp; omega)) rfl) (Ents.refl _ _)) (fun x hx => ?_)
  obtain ⟨i, s⟩ := x
  obtain ⟨hi, hs0, hs1, hs2⟩ := hx
  dsimp only at hi hs0 hs1 hs2 ⊢
  have hnt0 := blkNodes_take_le bs i
  by_cases hlt : i < bs.length
  · have hk := blkNodes_kid hlt
    have hnt := blkNodes_succ hlt
    have hnl := blkNodes_take_le bs (i + 1)
    have hrd : ∀ L, Reads L [blkF ba bs] 81 5 ba bs.length (blkC bs) := fun _ => blk_reads (fun _ h => h)
    have hfi := blk_inl (a := ba) hlt
    have hfk := blk_kids (a := ba) hlt
    have hg3 : ((blkC bs).drop (i * 5 + 3)).take 1 = [.sl bs[i].ia bs[i].inl.length bs[i].ic] := blkC_get (o := 3) (k := 1) hlt (by omega)
    have hg4 : ((blkC bs).drop (i * 5 + 4)).take 1 = [.sl bs[i].ka bs[i].kids.length bs[i].kc] := blkC_get (o := 4) (k := 1) hlt (by omega)
    have hca := elements_ok _ bs[i].inl rfl bs[i].ia bs[i].ic (by omega)
    have hcb := ih (blkNodes bs[i].kids) (by omega) bs[i].kids rfl bs[i].ka bs[i].kc (by omega)
    clear ih
    generalize bs[i] = x at *
    repeat' first
      | refine J_seq ?_ | refine J_region Tryz.tyOK ?_ | refine J_block ?_ | refine J_cond ?_ | refine J_ret ?_ | refine J_skip ?_ | refine J_exit ?_ | refine J_scope ?_
      | refine CondP.yes (by omega) ?_ | refine CondP.no (by omega) ?_ | refine CondP.mk (fun h => ?_) (fun h => ?_) | refine EqP.mk rfl ?_ | refine NewP.mk (fun ad => ?_) | refine ArP.exact (by simp only [inR]; omega) ?_ | refine SideP.mk (by first | omega | (dsimp only; omega) | (simp; omega)) ?_
      | refine J_drawU (id := 5) Tryz.tyOK (by kernel_rfl) [0, 1, 0, 0, 12, 28, 60, 124, 255, 0, 0, 1536, 3584, 7680, 16124, 32767, 65535] (.fork [0, 1, 2, 3, 4, 5, 6, 9, 10, 11, 12, 13] (.alt 7 (.fork [8] (.alt 14 (.leaf [15, 16]) (.stop))) (.stop))) [7, 14] [19, 26] 17 true (by kernel_rfl) ?_ | refine TwoP.mk ?_ ?_ | refine GoP.mk (by repeat (first | exact List.Sublist.slnil | refine List.Sublist.cons_cons _ ?_ | refine List.Sublist.cons _ ?_)) (by first | exact fun _ h => h | exact fun _ h => h.2 | exact fun _ h => ((allD_append _ _).1 h).2) ?_ | exact trivial | refine EntP.mk (Ents.ofSub (by repeat (first | exact List.Sublist.slnil | refine List.Sublist.cons_cons _ ?_ | refine List.Sublist.cons _ ?_)) (by first | exact fun _ h => h | exact fun _ _ => trivial | exact fun _ h => h.2 | exact fun _ h => h.2.2.2.2 | exact fun _ h => h.2.2 | exact fun _ h => h.2.2.2 | exact fun _ h => h.2.2.2.2.2 | exact fun _ h => h.2.2.2.2.2.2 | exact fun _ h => h.2.2.2.2.2.2.2 | exact fun _ h => h.2.2.2.2.2.2.2.2 | exact fun _ h => h.2.2.2.2.2.2.2.2.2 | exact fun _ h => h.2.2.2.2.2.2.2.2.2.2 | exact fun _ h => ((allD_append _ _).1 h).2)) ?_ | refine IdxE.mk 81 5 _ (hrd _) (by omega) (by omega) ?_ | refine FldE.mk 81 5 _ _ (hrd _) (by omega) ?_ | refine LoadE.mk 81 bs.length _ _ (hrd _) (by omega) (by omega) (by decide) (by exact hg3) ?_ | refine LoadE.mk 81 bs.length _ _ (hrd _) (by omega) (by omega) (by decide) (by exact hg4) ?_ | (refine CallP.mk [] [] [_] _ hca (List.Perm.refl _) hfi (fun v L' D' hp => ?_); obtain ⟨r, hr0, hr1, hr2, rfl, rfl, rfl⟩ := hp) | (refine CallP.mk [] [] [_] _ hcb (List.Perm.refl _) hfk (fun v L' D' hp => ?_); obtain ⟨u, hu0, hu1, hu2, rfl, rfl, rfl⟩ := hp) | refine Round.mk (i + 1, s + 1 + r + u) (by dsimp only; omega) ⟨by dsimp only; omega, by dsimp only; omega, by dsimp only; omega, by dsimp only; omega⟩ (by repeat' first | exact SubE.nil | refine SubE.cons rfl ?_ ?_ | exact VEq.refl _ | refine VEq.int (by omega) | refine VEq.sl rfl (by first | rfl | omega | (rw [List.length_append]; rfl) | (simp; omega)) rfl) (Ents.facts fun _ h => h) | refine FinE.mk [] [] ⟨s, hs0, by omega, by omega, rfl, rfl, rfl⟩ (Ents.facts fun _ _ => trivial)
      | fail
    all_goals trace_state
  · have hil : i = bs.length := by omega
    subst hil
    rw [List.take_length] at hs1 hs2
    repeat' first
      | refine J_seq ?_ | refine J_region Tryz.tyOK ?_ | refine J_block ?_ | refine J_cond ?_ | refine J_ret ?_ | refine J_skip ?_ | refine J_exit ?_ | refine J_scope ?_
      | refine CondP.yes (by omega) ?_ | refine CondP.no (by omega) ?_ | refine CondP.mk (fun h => ?_) (fun h => ?_) | refine EqP.mk rfl ?_ | refine NewP.mk (fun ad => ?_) | refine ArP.exact (by simp only [inR]; omega) ?_ | refine SideP.mk (by first | omega | (dsimp only; omega) | (simp; omega)) ?_
      | refine FinE.mk [] [] ⟨s, hs0, hs1, hs2, rfl, rfl, rfl⟩ (Ents.facts fun _ _ => trivial)
      | fail

end Go.Proofs

namespace Go.Proofs
open Go Go.X
set_option maxRecDepth 100000

theorem htmlTargets_law (ba : Option Addr) (bc : Nat) (bs : List Blk) (hb : blkBulk bs ≤ 1048576) (e : Nat) (a : Option Addr) (c : Nat) (l : List Int) (hl : l.length ≤ maxLen) :
    FnS Tryz.prog 9 [.c (.sl ba bs.length bc), .c (.sl a l.length c)] [] [blkF ba bs, slFact e 1 a l.length (l.map (C.i .i64)), gInt 0] (Is (.c (.b true))) := by
  have hnb := blkNodes_bulk bs
  have c1 := size_ok _ bs rfl ba bc (by omega)
  have c2 := targetsAll_ok bs (by omega) ba bc
  have c3 := refTargets_ok bs (by omega) ba bc
  have hlt := tgT_len bs
  have c4 := fun a b c d => sameTt_ok (tgT bs) (by omega) a b c d
  have g1 := fun tb => genBlocks_ok e a c tb l hl 2 (by omega) 0 (Nat.zero_le _)
  have hB3 : hB (2 + 1) ≤ 1000000 := by decide
  generalize tgT bs = ts at *
  generalize hB (2 + 1) = B3 at *
  change ∀ tb, FnS _ _ [_, .c (.i .i64 2)] _ _ _ at g1
  refine fn_of_J Tryz.tyOK 0 Tryz.func9 (by kernel_rfl) (c := Tryz.f9.body.getD .skip) (by kernel_rfl) Tryz.ntmps9 (rs := Tryz.f9.results.toList) rfl (by simp) (fun G => ?_)
  repeat' first
    | refine CondP.yes rfl ?_
    | refine J_seq ?_ | refine J_region Tryz.tyOK ?_ | refine J_block ?_ | refine J_cond ?_ | refine J_ret ?_ | refine J_skip ?_ | refine J_exit ?_ | refine J_scope ?_
    | refine CondP.yes (by omega) ?_ | refine CondP.no (by omega) ?_ | refine CondP.mk (fun h => ?_) (fun h => ?_) | refine EqP.mk rfl ?_ | refine NewP.mk (fun ad => ?_) | refine ArP.exact (by simp only [inR]; omega) ?_ | refine SideP.mk (by first | omega | (dsimp only; omega) | (simp; omega)) ?_
    | (refine CallP.mk [] [] [_] _ c1 (List.Perm.refl _) (fun _ h => ⟨h.1, trivial⟩) (fun v L' D' hp => ?_); obtain ⟨s, hs0, hs1, hs2, rfl, rfl, rfl⟩ := hp) | (refine CallP.mk [] _ [] _ (new_ok a l.length c) (List.Perm.refl _) (fun _ _ => trivial) (fun v L' D' hp => ?_); obtain ⟨ab, rfl, rfl, rfl⟩ := hp) | (refine CallP.mk [_] _ [_] _ (g1 _) (List.Perm.refl _) (fun _ h => ⟨h.2.1, trivial⟩) (fun v L' D' hp => ?_); obtain ⟨ga, gc, gs, q, hq, hgb, hgf, rfl, rfl, rfl⟩ := hp; have hng := blkNodes_bulk gs; have hlg := tgT_len gs; have c5 := targetsAll_ok gs (by omega) ga gc; have c6 := refTargets_ok gs (by omega) ga gc; have c7 := fun a b c d => sameTt_ok (tgT gs) (by omega) a b c d) | (refine CallP.mk [] [_] [_] _ c2 (List.Perm.refl _) (fun _ h => ⟨h.2.1, trivial⟩) (fun v L' D' hp => ?_); obtain ⟨a1, c1, h1, rfl, rfl, rfl⟩ := hp) | (refine CallP.mk [] [_] [_] _ c3 (List.Perm.refl _) (fun _ h => ⟨h.2.2.1, trivial⟩) (fun v L' D' hp => ?_); obtain ⟨a2, c2, h2, rfl, rfl, rfl⟩ := hp) | refine CallP.is (c4 _ _ _ _) ?_ (fun _ h => ⟨h.2.1, h.1, trivial⟩) | (refine CallP.mk [] [_] [_] _ c5 (List.Perm.refl _) (fun _ h => ⟨h.2.2.1, trivial⟩) (fun v L' D' hp => ?_); obtain ⟨a3, c3, h3, rfl, rfl, rfl⟩ := hp) | (refine CallP.mk [] [_] [_] _ c6 (List.Perm.refl _) (fun _ h => ⟨h.2.2.2.1, trivial⟩) (fun v L' D' hp => ?_); obtain ⟨a4, c4, h4, rfl, rfl, rfl⟩ := hp) | refine CallP.is (c7 _ _ _ _) ?_ (fun _ h => ⟨h.2.1, h.1, trivial⟩) | refine CallP.is known_ok ?_ (fun _ h => by simp only [allD, allD_append, List.cons_append, List.nil_append, and_true] at h ⊢; simp only [h, and_self]) | refine FinE.bool rfl
    | fail
  all_goals trace_state

end Go.Proofs

namespace Go.Proofs.YtdnkeinjfddmnaaGreatDoor
open Go Go.X Go.ChangeShapes Go.WideShapes Go.ChangeAt Go.RowKit
set_option maxRecDepth 100000

namespace htmlTargetsUpto
theorem reads (os : Os) {H : Type} (enc : TypeId × Value → H) : ∃ places, DataW.whole enc Tryz.prog ((laidWorld os).forCall (fun _ _ => 0) ⟨#[], #[.slice none 0 0, .slice none 0 0], []⟩).memory Tryz.f9.params.toList Rows.htmlTargetsSpec.vars false (#[.slice none 0 0, .slice none 0 0] : Array Value).toList 8 = some ([.nil, .nil], [], places) :=
  ⟨[], by kernel_rfl⟩
theorem contract (H : Type) (enc : TypeId × Value → H) (W : World) (base : Nat) (args : Array Value) (ds gs : List (DataW H)) (before : List MemPlace) (hcond : Rows.uptoSmall H (ds ++ gs) = true)
    (hval : ∀ (j : Nat) t v, Tryz.f9.params[j]? = some t → args[j]? = some v → Value.okWide Tryz.prog W .any base t v)
    (hW : DataW.Whole enc Tryz.prog Tryz.f9.params.toList Rows.htmlTargetsSpec.vars false W args.toList ds gs before) (hsh : W.ShapedOpen Tryz.prog) :
    Calls Tryz.prog 9 args W fun e W' => ∃ v, e = .returned v ∧ Rows.htmlTargetsSpec.post enc Tryz.prog Tryz.f9 false true false false W args v W' := by
  have hW' := hW
  obtain ⟨p, q, hA0, hV, rfl, hfz, hnd⟩ := hW
  have hA : DataW.TrodAll enc Tryz.prog W 0 (fun _ => true) true Tryz.f9.params.toList args.toList ds p := hA0
  rw [Tryz.params9] at hA hval
  obtain ⟨v0, vs0, d0, ds0, p0, q0, hargs0, rfl, rfl, h0, r0⟩ := trodAll_cons hA
  obtain ⟨v1, vs1, d1, ds1, p1, q1, hargs1, rfl, rfl, h1, r1⟩ := trodAll_cons r0
  obtain ⟨rfl, rfl, rfl⟩ := trodAll_nil r1
  obtain rfl : args = #[v0, v1] := by cases args; simp_all
  obtain ⟨b, hqb, rfl⟩ := arg_blks (hval 0 _ v0 rfl rfl) h0
  obtain ⟨a, hqa, rfl⟩ := open_arg (okTy (t := 24) rfl).2.2.2 (by simp) (hval 1 _ v1 rfl rfl) h1 (openS_slice (z := 1) Tryz.underlying24 (cellsOf_ty (okTy (t := 3) rfl)) (by decide) (fun g x hx => by simp at hx; subst hx; rfl) (openS_int Tryz.underlying3))
  obtain ⟨ad, n, c, l⟩ := a
  obtain ⟨hn, hs, _⟩ := hqa
  dsimp only at hn hs
  subst hn
  obtain ⟨e, hf⟩ := hs.f
  have hf2 : (slFact e 1 ad l.length (l.map (C.i .i64))).p (fun b => W.heap[b]?) := by rw [List.map_eq_flatMap]; exact hf
  obtain ⟨ba, bc, bs⟩ := b
  obtain ⟨hb1, hb2, hb3⟩ := hqb
  dsimp only at hb1 hb2 hb3
  have hbk : blkBulk bs ≤ 1048576 := by
    have h := of_decide_eq_true hcond
    simp only [List.cons_append, List.nil_append, Rows.uptoBulkAll] at h
    omega
  exact law_calls laidOut (by rw [Tryz.params9]; decide +kernel) rfl (by kernel_rfl) Tryz.underlying4 hW' rfl rfl (show allD _ [blkF ba bs, slFact e 1 ad l.length (l.map (C.i .i64)), gInt 0] from ⟨hb1, hf2, maxLen_fact hsh⟩) (htmlTargets_law ba bc bs hbk e ad c l (Nat.le_trans hs.le hs.max))

theorem lifted (os : Os) (started : os.Started) (H : Type) (enc : TypeId × Value → H) (F : Stop.Interp) :
    ReturnsInHanded {} Tryz.checked os 9 .any ((Rows.OpenSpec.upto Rows.htmlTargetsSpec).preRow enc Tryz.prog Tryz.f9 Rows.htmlTargetsUptoRow.domain false Rows.htmlTargetsUptoRow.laid) (((Rows.OpenSpec.upto Rows.htmlTargetsSpec).at F).post enc Tryz.prog Tryz.f9 false true false false) := by
  obtain ⟨places, hx⟩ := reads os enc
  refine returnsInHanded_of_row (C := Tryz.checked) (s := (Rows.OpenSpec.upto Rows.htmlTargetsSpec)) own started (by kernel_rfl) Tryz.func9
    (witness_row_at (enc := enc) (C := Tryz.checked) false (laidWorld os) #[.slice none 0 0, .slice none 0 0] rfl (world_vars os _) (world_rest os _) (by kernel_rfl)
      (OpenSpec.preRow_of_cond 8 hx (by kernel_rfl) (fun k hk => by cases hk; kernel_rfl) (by kernel_rfl) (laid_met os _))) ?_
  intro W base args ds gs before hval hW _ hcond _ _ hsh _
  exact contract H enc W base args ds gs before (hcond _ rfl) hval hW hsh

theorem said : Rows.HtmlTargetsUptoSaid :=
  OpenClaim.holds_of_cond 9 Tryz.f9 rfl rfl rfl rfl rfl rfl rfl ⟨rfl, rfl, rfl, rfl, rfl⟩ rfl rfl rfl rfl rfl (by kernel_rfl) Tryz.func9 (by kernel_rfl)
    (of_decide_eq_true (by kernel_rfl)) (by unfold Func.isWrapper; first | (rw [if_pos (by decide +kernel)]; kernel_rfl) | (rw [if_neg (by decide +kernel)]; exact ⟨rfl, rfl⟩))
    (fun os started H enc _ F => by rw [OpenClaim.pre_eq_preRow]; exact lifted os started H enc F)

theorem plain (f : FuncId) (fn : Func) (hf : Tryz.pinned.checked.prog.funcNamed Rows.htmlTargetsUptoRow.func = some f) (hfn : Tryz.pinned.checked.prog.funcs[f]? = some fn) :
    true = Tryz.pinned.checked.prog.looks [] ∧ ∀ (j : Nat) t, fn.params[j]? = some t → Tryz.pinned.checked.prog.wantsStandIn t = false := by
  obtain rfl : f = 9 := Option.some.inj ((show Tryz.prog.funcNamed Rows.htmlTargetsUptoRow.func = some 9 by kernel_rfl).symm.trans hf) |>.symm
  obtain rfl : fn = Tryz.f9 := (Option.some.inj (Tryz.func9.symm.trans hfn)).symm
  refine ⟨no_looks, fun j t ht => ?_⟩
  rw [Tryz.params9] at ht
  have hm := Array.mem_of_getElem? ht
  have hall : ∀ t ∈ (#[32, 24] : Array Nat), Tryz.prog.wantsStandIn t = false := by decide +kernel
  exact hall t hm

theorem card : Rows.HtmlTargetsUptoCardSaid :=
  Claim7.holds_tied_plain_at .later [] _ _ _ _ said (fun _ h => by cases h) (by kernel_rfl) (fun _ h => by cases h) htmlTargetsUpto_row_tie rfl ⟨rfl, rfl⟩ (by kernel_rfl) rfl plain (by kernel_rfl)
end htmlTargetsUpto
end Go.Proofs.YtdnkeinjfddmnaaGreatDoor
