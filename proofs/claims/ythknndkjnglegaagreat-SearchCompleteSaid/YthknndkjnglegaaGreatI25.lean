/- This text walks through the makers of lists of changes and of states from which statements make inputs (trcgen2). -/
import Derived.Test.YthknndkjnglegaaGreatI22
import Derived.Test.YthknndkjnglegaaGreatI24
import Derived.Test.YthknndkjnglegaaGreatI17
import Derived.Test.YthknndkjnglegaaGreatI09
import Derived.Test.YthknndkjnglegaaGreatI21
import Derived.Test.YthknndkjnglegaaGreatI10
import Derived.Test.YthknndkjnglegaaGreatI11
set_option linter.all false

namespace Go.X
open Go Go.Lib
/-- The state with a policy. -/
def polC (p : Bs) : CH := ⟨1, [], [], 5, policyNm, 0, [], p, 0, []⟩
/-- States that made transactions reach. -/
inductive Rchd : Nat → ST → Prop where
  | start (p : Bs) (hp : p ∈ genPols) : Rchd 1 (applyT ST.nil [polC p]).1
  | step {n : Nat} {s : ST} (h : Rchd n s) (l : List CH) (hl : ∀ c ∈ l, MadeC c) (h1 : 1 ≤ l.length) (h2 : l.length ≤ 2) (he : (applyT s l).2 = 0) : Rchd (n + 1) (applyT s l).1
  | more {n : Nat} {s : ST} (h : Rchd n s) : Rchd (n + 1) s
theorem Rchd.le {n m : Nat} {s : ST} (h : Rchd n s) (hm : n ≤ m) : Rchd m s := by
  obtain ⟨k, rfl⟩ : ∃ k, m = n + k := ⟨m - n, by omega⟩
  clear hm
  induction k with
  | zero => exact h
  | succ k ih => exact ih.more
theorem apply_err {s : ST} {l : List CH} (h : (applyT s l).2 ≠ 0) : (applyT s l).1 = ST.nil := by
  unfold applyT at h ⊢
  by_cases a : validST s = false
  · rw [if_pos a]
  rw [if_neg a] at h ⊢
  by_cases b : (l.length : Int) < 1 ∨ 16 < (l.length : Int)
  · rw [if_pos b]
  rw [if_neg b] at h ⊢
  by_cases c : (stepsT (s.seq + 1) s l).2 ≠ 0
  · rw [if_pos c]
  rw [if_neg c] at h ⊢
  by_cases d : 1073741824 < s.seq + 1
  · rw [if_pos d]
  rw [if_neg d] at h
  exact absurd rfl h
theorem nil_valid : validST ST.nil = true := rfl
theorem Rchd.valid {n : Nat} {s : ST} (h : Rchd n s) : validST s = true := by
  induction h with
  | start p hp =>
    by_cases h : (applyT ST.nil [polC p]).2 = 0
    · exact (apply_valid h).1
    · rw [apply_err h]; exact nil_valid
  | step h l hl h1 h2 he ih => exact (apply_valid he).1
  | more h ih => exact ih
theorem valid_bnd {s : STM} (h : validST s.pl = true) : StS s ∧ 0 ≤ s.clk ∧ s.clk ≤ 52595999 := by
  obtain ⟨_, _, vk⟩ := valid_iff.1 h
  exact ⟨vk.small, vk.c0, vk.c1⟩
end Go.X
namespace Go.Proofs
open Go Go.X
set_option maxRecDepth 100000
set_option maxHeartbeats 4000000
theorem genChanges_ok (e : Nat) (a : Option Addr) (c ad : Nat) (l : List Int) (g : GS) (clk : Int) (hg : g.ok l) (hl : l.length ≤ maxLen) (h0 : 0 ≤ clk) (h1 : clk ≤ 52595999) : FnS Tryz.prog 64 [.c (.p 1000 ad 0), .c (.i .i64 clk)] [srcC ad a l.length c g] [intsF e a l]
    (fun v L D => ∃ b k, ∃ cs : List CHM, ∃ g', v = .c (.sl b cs.length k) ∧ 1 ≤ cs.length ∧ cs.length ≤ 2 ∧ (∀ ch ∈ cs, MadeC ch.pl) ∧ g'.ok l ∧ L = [srcC ad a l.length c g'] ∧ D = [chsF b cs]) := by
  have k1 := next_ok e a c ad l g 6 (by omega) (by omega) hg hl
  have r1 := nextGV_range (l := l) g (n := 6) (by omega)
  have hg1 := nextGS_ok hg
  generalize nextGV l g 6 = v1 at *
  generalize nextGS l g = g1 at *
  obtain ⟨n1, rfl⟩ : ∃ n1 : Nat, v1 = n1 := ⟨v1.toNat, by omega⟩
  have hq : ((n1 : Int)).tdiv 3 = ((n1 / 3 : Nat) : Int) := by
    rw [Int.tdiv_eq_ediv_of_nonneg (by omega)]; omega
  refine fn_of_J Tryz.tyOK 8000 Tryz.func64 (by kernel_rfl) (c := Tryz.f64.body.getD .skip) (by kernel_rfl) Tryz.ntmps64 (rs := Tryz.f64.results.toList) rfl (by simp) (fun G => ?_)
  repeat' first | refine J_seq ?_ | refine J_region Tryz.tyOK ?_ | refine J_block ?_ | refine J_cond ?_ | refine J_ret ?_ | refine J_skip ?_ | refine J_exit ?_ | refine J_scope ?_ | refine CondP.y ?_ | refine CondP.n ?_ | refine CondP.mk (fun h => ?_) (fun h => ?_) | refine EqP.mk rfl ?_ | refine NewP.mk (fun ad => ?_) | refine ArP.x ?_ | refine SideP.a ?_ | (refine CallP.mk [_] [] [_] _ k1 (List.Perm.refl _) (fun _ h => h) (fun v L' D' hp => ?_); obtain ⟨rfl, rfl, rfl⟩ := hp) | refine ArP.exact (by rw [hq]; simp only [inR]; omega) ?_; rw [hq] | refine ArP.x ?_ | fail
  refine J_loop (α := Nat × List CHM × GS × Option Addr × Nat) (fun x => [(0, .c (.p 1000 ad 0)), (1, .c (.i .i64 clk)), (5, .c (.sl x.2.2.2.1 x.2.1.length x.2.2.2.2)), (6, .c (.i .i64 x.1))]) (fun x => [.row 90 10 x.2.2.2.1 x.2.1.length x.2.2.2.2 (chmC x.2.1), srcC ad a l.length c x.2.2.1]) (fun x => [chhF x.2.1, intsF e a l]) 8000
    (fun x => x.2.2.1.ok l ∧ x.1 + x.2.1.length ≤ 2 ∧ 1 ≤ x.1 + x.2.1.length ∧ (∀ ch ∈ x.2.1, MadeC ch.pl)) (fun x => x.1) (InFam.mk (n1 / 3 + 1, [], g1, none, 0) ⟨hg1, by simp; omega, by simp, (fun _ h => by cases h)⟩ SubE.a ((Ents.nilRow (ety := 90) (esz := 10)).trans (Ents.facts fun _ h => ⟨(fun _ h => by cases h), h.1, trivial⟩))) (fun x hx => ?_)
  clear k1 hg1 hg
  obtain ⟨n, out, g, b, k⟩ := x
  dsimp only at hx ⊢
  obtain ⟨hg, hn, hn1, hm⟩ := hx
  cases n with
  | zero =>
    repeat' first | refine J_seq ?_ | refine J_region Tryz.tyOK ?_ | refine J_block ?_ | refine J_cond ?_ | refine J_ret ?_ | refine J_skip ?_ | refine J_exit ?_ | refine J_scope ?_ | refine CondP.y ?_ | refine CondP.n ?_ | refine CondP.mk (fun h => ?_) (fun h => ?_) | refine EqP.mk rfl ?_ | refine NewP.mk (fun ad => ?_) | refine ArP.x ?_ | refine SideP.a ?_ | refine FinE.mk [_] [_] ⟨_, _, out, _, rfl, by omega, by omega, hm, hg, rfl, rfl⟩ (Ents.toFact.trans (Ents.facts fun _ h => ⟨⟨h.1, h.2.1⟩, trivial⟩)) | fail
  | succ n =>
    have cc := genChange_ok e a c ad l g clk hg hl h0 h1
    have hap : ∀ ch : CHM, chmC out ++ ch.cells = chmC (out ++ [ch]) := fun ch => by simp [chmC]
    have hln : ∀ x : CHM, out.length + 1 = (out ++ [x]).length := fun x => by simp
    have hmm : ∀ ch : CHM, MadeC ch.pl → ∀ y ∈ out ++ [ch], MadeC y.pl := fun ch h y hy => by
      rcases List.mem_append.1 hy with hy | hy
      · exact hm y hy
      · rw [List.mem_singleton.1 hy]; exact h
    repeat' first | refine J_seq ?_ | refine J_region Tryz.tyOK ?_ | refine J_block ?_ | refine J_cond ?_ | refine J_ret ?_ | refine J_skip ?_ | refine J_exit ?_ | refine J_scope ?_ | refine CondP.y ?_ | refine CondP.n ?_ | refine CondP.mk (fun h => ?_) (fun h => ?_) | refine EqP.mk rfl ?_ | refine NewP.mk (fun ad => ?_) | refine ArP.x ?_ | refine SideP.a ?_ | (refine CallP.mk [_] [_] [_] _ cc (List.Perm.swap _ _ _) (fun _ h => ⟨h.2.1, trivial⟩) (fun v L' D' hp => ?_); obtain ⟨ch, g', rfl, hmc, hg', rfl, rfl⟩ := hp) | (refine AppE.row [_, _] _ (chmC out) ch.cells 1 rfl (SrcE.sl 90 90 _ _ 1 1 _ rfl rfl (.inl ⟨1, List.Mem.head _⟩) rfl) (by dsimp only; omega) (fun b' k' => ?_); rw [hap ch, hln ch]) | refine Round.mk (n, out ++ [ch], g', b', k') (by dsimp only; omega) ⟨hg', by simp; omega, by simp; omega, hmm ch hmc⟩ SubE.a ((Ents.sub ⟨[_], List.Perm.trans (List.Perm.cons _ (List.Perm.swap _ _ _)) (List.Perm.refl _)⟩).trans (Ents.facts fun _ h => ⟨h.2.1.snoc h.1, h.2.2.1, trivial⟩)) | fail
end Go.Proofs

/- This text walks through the makers of states from which statements make inputs (trcgen2): Begin, After, State. -/
namespace Go.X
open Go Go.Lib
def polM (p : Bs) : CHM := ⟨1, [], [], 5, policyNm, 0, [], p, 0, none, 0, []⟩
theorem mk_one {m : Im} {a : Option Addr} {c : CHM} (h : SlF m 0 10 a 1 c.cells) (hc : SlF m 0 6 c.ha c.hist.length (rvC c.hist)) : ChsP m a [c] :=
  ⟨by rw [show chmC [c] = c.cells by simp [chmC]]; exact h, fun x hx => by rw [List.mem_singleton.1 hx]; exact hc⟩
end Go.X
namespace Go.Proofs
open Go Go.X
set_option maxRecDepth 100000
set_option maxHeartbeats 4000000
theorem polPage_ok : FnS Tryz.prog 71 [] [] [] (Is (.agg [.i .i64 5, .s policyNm])) := by
  refine fn_of_J Tryz.tyOK 0 Tryz.func71 (by kernel_rfl) (c := Tryz.f71.body.getD .skip) (by kernel_rfl) Tryz.ntmps71 (rs := Tryz.f71.results.toList) rfl (by simp) (fun G => ?_)
  repeat' first | refine J_seq ?_ | refine J_region Tryz.tyOK ?_ | refine J_block ?_ | refine J_cond ?_ | refine J_ret ?_ | refine J_skip ?_ | refine J_exit ?_ | refine J_scope ?_ | refine CondP.y ?_ | refine CondP.n ?_ | refine CondP.mk (fun h => ?_) (fun h => ?_) | refine EqP.mk rfl ?_ | refine NewP.mk (fun ad => ?_) | refine ArP.x ?_ | refine SideP.a ?_ | refine FinE.is rfl | fail
theorem genBegin_ok (p : Bs) : FnS Tryz.prog 37 [.c (.s p)] [] [] (fun v L D => ∃ s : STM, v = .agg s.cells ∧ s.pl = (applyT ST.nil [polC p]).1 ∧ L = [] ∧ D = [stF s]) := by
  have ap := fun adr => apply27_ok STM.nil adr 1 [polM p] ⟨by decide, (fun _ h => by cases h), by decide, (fun _ h => by cases h), by decide, by decide, by decide⟩ (by simp [big]) (fun c hc => by rw [List.mem_singleton.1 hc]; exact Nat.zero_le _)
  have hr : applyT STM.nil.pl ([polM p].map CHM.pl) = applyT ST.nil [polC p] := rfl
  rw [hr] at ap
  generalize applyT ST.nil [polC p] = R at *
  refine fn_of_J Tryz.tyOK 9000 Tryz.func37 (by kernel_rfl) (c := Tryz.f37.body.getD .skip) (by kernel_rfl) Tryz.ntmps37 (rs := Tryz.f37.results.toList) rfl (by simp) (fun G => ?_)
  repeat' first | refine J_seq ?_ | refine J_region Tryz.tyOK ?_ | refine J_block ?_ | refine J_cond ?_ | refine J_ret ?_ | refine J_skip ?_ | refine J_exit ?_ | refine J_scope ?_ | refine CondP.y ?_ | refine CondP.n ?_ | refine CondP.mk (fun h => ?_) (fun h => ?_) | refine EqP.mk rfl ?_ | refine NewP.mk (fun ad => ?_) | refine ArP.x ?_ | refine SideP.a ?_ | refine CallP.is polPage_ok ?_ | (refine CallP.mkE [] _ [_, _] _ _ (ap _) (Ents.toFact.trans (Ents.facts (D' := [stF STM.nil, chsF _ [polM p]]) fun _ h => ⟨StP.nil, mk_one h.1 (SlF.nil (e := 0)), trivial⟩)) (fun _ h => h) (fun v L' D' hq => ?_); obtain ⟨s1, rfl, rfl, rfl, hp1⟩ := hq) | refine FinE.mk [] [stF _] ⟨s1, rfl, hp1, rfl, rfl⟩ (Ents.dropAll.trans (Ents.facts fun _ h => ⟨h.1, trivial⟩)) | fail
theorem genAfter_ok (e : Nat) (a : Option Addr) (c ad0 : Nat) (l : List Int) (g : GS) (s : STM) (k0 N : Nat) (hr : Rchd k0 s.pl) (hg : g.ok l) (hl : l.length ≤ maxLen) (hN : N ≤ 10) : FnS Tryz.prog 32 [.agg s.cells, .c (.p 1000 ad0 0), .c (.i .i64 N)] [srcC ad0 a l.length c g] [stF s, intsF e a l]
    (fun v L D => ∃ s' : STM, ∃ g', v = .agg s'.cells ∧ Rchd (k0 + N) s'.pl ∧ g'.ok l ∧ L = [srcC ad0 a l.length c g'] ∧ D = [stF s']) := by
  refine fn_of_J Tryz.tyOK 9500 Tryz.func32 (by kernel_rfl) (c := Tryz.f32.body.getD .skip) (by kernel_rfl) Tryz.ntmps32 (rs := Tryz.f32.results.toList) rfl (by simp) (fun G => ?_)
  repeat' first | refine J_seq ?_ | refine J_region Tryz.tyOK ?_ | refine J_block ?_ | refine J_cond ?_ | refine J_ret ?_ | refine J_skip ?_ | refine J_exit ?_ | refine J_scope ?_ | refine CondP.y ?_ | refine CondP.n ?_ | refine CondP.mk (fun h => ?_) (fun h => ?_) | refine EqP.mk rfl ?_ | refine NewP.mk (fun ad => ?_) | refine ArP.x ?_ | refine SideP.a ?_ | fail
  rename_i ad3
  refine J_loop (α := Nat × STM × GS) (fun x => [(1, .c (.p 1000 ad0 0)), (2, .c (.i .i64 x.1)), (3, .c (.p 9500 ad3 0)), (6, .c (.p 9501 ad 0))]) (fun x => [srcC ad0 a l.length c x.2.2, .box 9501 ad 42 STM.nil.cells, .box 9500 ad3 42 x.2.1.cells]) (fun x => [stF x.2.1, intsF e a l]) 9502
    (fun x => x.2.2.ok l ∧ x.1 ≤ N ∧ Rchd (k0 + (N - x.1)) x.2.1.pl) (fun x => x.1) (InFam.mk (N, s, g) ⟨hg, Nat.le_refl _, by rw [Nat.sub_self]; exact hr⟩ SubE.a (Ents.perm (List.perm_append_comm (l₁ := [_, _]) (l₂ := [_])))) (fun x hx => ?_)
  obtain ⟨n, s', g'⟩ := x
  dsimp only at hx ⊢
  obtain ⟨hg', hn, hre⟩ := hx
  clear hg hr
  cases n with
  | zero =>
    repeat' first | refine J_seq ?_ | refine J_region Tryz.tyOK ?_ | refine J_block ?_ | refine J_cond ?_ | refine J_ret ?_ | refine J_skip ?_ | refine J_exit ?_ | refine J_scope ?_ | refine CondP.y ?_ | refine CondP.n ?_ | refine CondP.mk (fun h => ?_) (fun h => ?_) | refine EqP.mk rfl ?_ | refine NewP.mk (fun ad => ?_) | refine ArP.x ?_ | refine SideP.a ?_ | refine FinE.mk [srcC ad0 a l.length c _] [stF _] ⟨s', _, rfl, hre, hg', rfl, rfl⟩ ((Ents.ofSub (by repeat (first | exact List.Sublist.slnil | refine List.Sublist.cons_cons _ ?_ | refine List.Sublist.cons _ ?_)) (fun _ h => h)).trans (Ents.facts fun _ h => ⟨h.1, trivial⟩)) | fail
  | succ n =>
    obtain ⟨hsm, hc0, hc1⟩ := valid_bnd hre.valid
    have cc := genChanges_ok e a c ad0 l g' s'.clk hg' hl hc0 hc1
    have ap := fun b k (cs : List CHM) (h2 : cs.length ≤ 2) (hm : ∀ ch ∈ cs, MadeC ch.pl) => apply27_ok s' b k cs hsm.big (by simp only [big]; omega) (fun ch hch => by have := (hm ch hch).len; have h3 : ch.pl.hist = ch.hist := rfl; rw [h3] at this; simp only [big]; omega)
    have hstep : ∀ cs : List CHM, 1 ≤ cs.length → cs.length ≤ 2 → (∀ ch ∈ cs, MadeC ch.pl) → ∀ s1 : STM, s1.pl = (applyT s'.pl (cs.map CHM.pl)).1 → (applyT s'.pl (cs.map CHM.pl)).2 = 0 → Rchd (k0 + (N - n)) s1.pl := fun cs h1 h2 hm s1 hp h0 => by
      rw [hp, show k0 + (N - n) = k0 + (N - (n + 1)) + 1 by omega]
      exact hre.step (cs.map CHM.pl) (fun ch hch => by obtain ⟨x, hx, rfl⟩ := List.mem_map.1 hch; exact hm x hx) (by simpa using h1) (by simpa using h2) h0
    have hstay : Rchd (k0 + (N - n)) s'.pl := hre.le (by omega)
    repeat' first | refine J_seq ?_ | refine J_region Tryz.tyOK ?_ | refine J_block ?_ | refine J_cond ?_ | refine J_ret ?_ | refine J_skip ?_ | refine J_exit ?_ | refine J_scope ?_ | refine CondP.y ?_ | refine CondP.n ?_ | refine CondP.mk (fun h => ?_) (fun h => ?_) | refine EqP.mk rfl ?_ | refine NewP.mk (fun ad => ?_) | refine ArP.x ?_ | refine SideP.a ?_ | refine J_drawP (id := 3) Tryz.tyOK (by kernel_rfl) [0, 0, 0, 4, 14, 31, 63, 127, 127, 0, 767, 2047] (.node [0, 1, 2, 3] 4 (.node [] 5 (.leaf [6, 7, 8, 9, 10, 11]) 9 (.leaf [5, 6, 7, 8, 10, 11])) 9 (.leaf [4, 5, 6, 7, 8, 10, 11])) [4, 5, 9, 10] [3] 12 true (by kernel_rfl) ?_ | refine TwoP.mk ?_ ?_ | refine EntP.mk Ents.a ?_ | (refine CallP.mk [_] [_, _] [_] _ cc (List.Perm.refl _) (fun _ h => ⟨h.2.1, trivial⟩) (fun v L' D' hp => ?_); obtain ⟨b, k, cs, g2, rfl, h1, h2, hm, hg2, rfl, rfl⟩ := hp) | (refine CallP.mk [_] [_, _, _] [_] _ cc (List.Perm.swap _ _ _) (fun _ h => ⟨h.2.1, trivial⟩) (fun v L' D' hp => ?_); obtain ⟨b, k, cs, g2, rfl, h1, h2, hm, hg2, rfl, rfl⟩ := hp) | (refine CallP.mk [] _ [_, _] _ (ap b k cs h2 hm) (List.Perm.refl _) (fun _ h => ⟨h.2.1, h.1, trivial⟩) (fun v L' D' hq => ?_); obtain ⟨s1, rfl, rfl, rfl, hp1⟩ := hq; have hst := hstep cs h1 h2 hm s1 hp1; generalize (applyT s'.pl (cs.map CHM.pl)).2 = er at *) | refine Round.mk (n, s1, g2) (by dsimp only; omega) ⟨hg2, by dsimp only; omega, hst (by assumption)⟩ SubE.a (Ents.ofSub (by repeat (first | exact List.Sublist.slnil | refine List.Sublist.cons_cons _ ?_ | refine List.Sublist.cons _ ?_)) (fun _ h => ⟨h.1, h.2.2.2.1, trivial⟩)) | refine Round.mk (n, s', g2) (by dsimp only; omega) ⟨hg2, by dsimp only; omega, hstay⟩ SubE.a (Ents.ofSub (by repeat (first | exact List.Sublist.slnil | refine List.Sublist.cons_cons _ ?_ | refine List.Sublist.cons _ ?_)) (fun _ h => ⟨h.2.2.1, h.2.2.2.1, trivial⟩)) | fail
theorem genState_ok (e : Nat) (a : Option Addr) (c : Nat) (l : List Int) (hl : l.length ≤ maxLen) : FnS Tryz.prog 11 [.c (.sl a l.length c)] [] [intsF e a l]
    (fun v L D => ∃ s : STM, v = .agg s.cells ∧ Rchd 15 s.pl ∧ L = [] ∧ D = [stF s]) := by
  have cf := from_ok e a c l hl
  have cp := fun ad => genPolicy_ok e a c ad l (gs0 l) (gs0_ok l) hl
  have cx := fun ad g n hn hn1 hg => next_ok e a c ad l g n hn hn1 hg hl
  have cu := fun ad g hg => genUser_ok e a c ad l g hg hl
  have ct := fun ad g hg => genText_ok e a c ad l g hg hl
  have rr := fun g n (hn : 0 < n) => nextGV_range (l := l) g (n := n) hn
  have hgm := fun g (hg : GS.ok l g) => nextGS_ok hg
  refine fn_of_J Tryz.tyOK 10000 Tryz.func11 (by kernel_rfl) (c := Tryz.f11.body.getD .skip) (by kernel_rfl) Tryz.ntmps11 (rs := Tryz.f11.results.toList) rfl (by simp) (fun G => ?_)
  repeat' first | refine J_seq ?_ | refine J_region Tryz.tyOK ?_ | refine J_block ?_ | refine J_cond ?_ | refine J_ret ?_ | refine J_skip ?_ | refine J_exit ?_ | refine J_scope ?_ | refine CondP.y ?_ | refine CondP.n ?_ | refine CondP.mk (fun h => ?_) (fun h => ?_) | refine EqP.mk rfl ?_ | refine NewP.mk (fun ad => ?_) | refine ArP.x ?_ | refine SideP.a ?_ | (refine CallP.mk [] [_] [_] _ cf (List.Perm.refl _) (fun _ h => h) (fun v L' D' hp => ?_); obtain ⟨ad0, rfl, rfl, rfl⟩ := hp) | (refine CallP.mk [_] [_] [_] _ (cp _) (List.Perm.refl _) (fun _ h => h) (fun v L' D' hp => ?_); obtain ⟨p, g1, rfl, hpp, hg1, rfl, rfl⟩ := hp) | (refine CallP.mk [] _ [] _ (genBegin_ok p) (List.Perm.refl _) (fun _ _ => trivial) (fun v L' D' hq => ?_); obtain ⟨sb, rfl, hpb, rfl, rfl⟩ := hq) | (refine CallP.mk [_] [_, _] [_] _ (cx _ _ 5 (by omega) (by omega) hg1) (List.Perm.swap _ _ _) (fun _ h => ⟨h.2.1, trivial⟩) (fun v L' D' hp => ?_); obtain ⟨rfl, rfl, rfl⟩ := hp; have r5 := rr g1 5 (by omega); have hg2 := hgm g1 hg1; generalize nextGV l g1 5 = n5 at *; generalize nextGS l g1 = g2 at *) | fail
  obtain ⟨q, hq⟩ : ∃ q : Nat, 3 + n5 = q := ⟨(3 + n5).toNat, by omega⟩
  rw [hq]
  have hq7 : q ≤ 7 := by omega
  rename_i ad2
  refine J_loop (α := Nat × STM × GS) (fun x => [(2, .c (.p 10000 ad2 0)), (3, .c (.p 1000 ad0 0)), (4, .c (.p 10001 ad 0)), (5, .c (.i .i64 q)), (6, .c (.i .i64 x.1))]) (fun x => [srcC ad0 a l.length c x.2.2, .box 10001 ad 42 x.2.1.cells, .box 10000 ad2 42 STM.nil.cells]) (fun x => [stF x.2.1, intsF e a l]) 10002
    (fun x => x.2.2.ok l ∧ x.1 ≤ q ∧ Rchd (1 + x.1) x.2.1.pl) (fun x => q - x.1) (InFam.mk (0, sb, g2) ⟨hg2, Nat.zero_le _, by rw [hpb]; exact Rchd.start p hpp⟩ SubE.a (Ents.facts fun _ h => ⟨h.1, h.2.1, trivial⟩)) (fun x hx => ?_)
  clear cf cp hg1 hg2 hpb r5
  obtain ⟨i, s', g⟩ := x
  dsimp only at hx ⊢
  obtain ⟨hg, hi, hre⟩ := hx
  obtain ⟨hsm, hc0, hc1⟩ := valid_bnd hre.valid
  by_cases hlt : i < q
  · have htt := tt_get (k := (i : Int)) (by omega) (by omega)
    have htm := getD_mem (l := genTitles) (d := (0, [])) (k := (i : Int)) (by omega) (by simp only [genTitles, List.length_cons, List.length_nil]; omega)
    generalize genTitles.getD (i : Int).toNat (0, []) = T at *
    obtain ⟨sp, nm⟩ := T
    dsimp only at htt
    have hmd : ∀ us tx, us ∈ genUsers → List.length tx ≤ 1000 → MadeC ⟨1, us, [], sp, nm, 0, [], tx, 0, []⟩ := fun us tx h1 h2 => ⟨⟨by dsimp only; omega, by dsimp only; omega⟩, fun _ => htm, (fun h => by cases h), h1, h2, (fun _ h => by cases h), Nat.zero_le _⟩
    have ap : ∀ us tx, us ∈ genUsers → List.length tx ≤ 1000 → ∀ adr, FnS Tryz.prog 40 [.agg s'.cells, .c (.sl adr 1 1)] [] [stF s', chsF adr [⟨1, us, [], sp, nm, 0, [], tx, 0, none, 0, []⟩]] (StPost (applyT s'.pl [⟨1, us, [], sp, nm, 0, [], tx, 0, []⟩])) := fun us tx h1 h2 adr => apply27_ok s' adr 1 [⟨1, us, [], sp, nm, 0, [], tx, 0, none, 0, []⟩] hsm.big (by simp [big]) (fun c hc => by rw [List.mem_singleton.1 hc]; exact Nat.zero_le _)
    have hstep : ∀ us tx, us ∈ genUsers → List.length tx ≤ 1000 → ∀ s1 : STM, s1.pl = (applyT s'.pl [⟨1, us, [], sp, nm, 0, [], tx, 0, []⟩]).1 → (applyT s'.pl [⟨1, us, [], sp, nm, 0, [], tx, 0, []⟩]).2 = 0 → Rchd (1 + (i + 1)) s1.pl := fun us tx h1 h2 s1 hp h0 => by
      rw [hp]
      exact hre.step _ (fun ch hch => by rw [List.mem_singleton.1 hch]; exact hmd us tx h1 h2) (by simp) (by simp) h0
    have hstay : Rchd (1 + (i + 1)) s'.pl := hre.le (by omega)
    repeat' first | refine J_seq ?_ | refine J_region Tryz.tyOK ?_ | refine J_block ?_ | refine J_cond ?_ | refine J_ret ?_ | refine J_skip ?_ | refine J_exit ?_ | refine J_scope ?_ | refine CondP.y ?_ | refine CondP.n ?_ | refine CondP.mk (fun h => ?_) (fun h => ?_) | refine EqP.mk rfl ?_ | refine NewP.mk (fun ad => ?_) | refine ArP.x ?_ | refine SideP.a ?_ | refine J_drawP (id := 7) Tryz.tyOK (by kernel_rfl) [0, 0, 2, 6, 0, 30, 62, 0, 142, 510, 1022, 2047, 4095, 8191, 8191, 0, 49151, 131071] (.node [0, 1, 4, 7] 2 (.node [] 3 (.node3 [] 5 (.node3 [] 6 (.node [] 8 (.node [9] 10 (.node [] 11 (.leaf [12, 13, 14, 15, 16, 17]) 15 (.leaf [11, 12, 13, 14, 16, 17])) 15 (.leaf [10, 11, 12, 13, 14, 16, 17])) 15 (.leaf [8, 9, 10, 11, 12, 13, 14, 16, 17])) 8 (.node [] 6 (.node [9] 10 (.node [] 11 (.leaf [12, 13, 14, 15, 16, 17]) 15 (.leaf [11, 12, 13, 14, 16, 17])) 15 (.leaf [10, 11, 12, 13, 14, 16, 17])) 15 (.leaf [6, 9, 10, 11, 12, 13, 14, 16, 17])) 15 (.node [] 6 (.leaf [8, 9, 10, 11, 12, 13, 14, 16, 17]) 8 (.leaf [6, 9, 10, 11, 12, 13, 14, 16, 17]))) 8 (.node [] 5 (.node [] 6 (.node [9] 10 (.node [] 11 (.leaf [12, 13, 14, 15, 16, 17]) 15 (.leaf [11, 12, 13, 14, 16, 17])) 15 (.leaf [10, 11, 12, 13, 14, 16, 17])) 15 (.leaf [6, 9, 10, 11, 12, 13, 14, 16, 17])) 15 (.leaf [5, 6, 9, 10, 11, 12, 13, 14, 16, 17])) 15 (.node [] 5 (.node [] 6 (.leaf [8, 9, 10, 11, 12, 13, 14, 16, 17]) 8 (.leaf [6, 9, 10, 11, 12, 13, 14, 16, 17])) 8 (.leaf [5, 6, 9, 10, 11, 12, 13, 14, 16, 17]))) 15 (.node [3] 5 (.node [] 6 (.leaf [8, 9, 10, 11, 12, 13, 14, 16, 17]) 8 (.leaf [6, 9, 10, 11, 12, 13, 14, 16, 17])) 8 (.leaf [5, 6, 9, 10, 11, 12, 13, 14, 16, 17]))) 15 (.node [2, 3] 5 (.node [] 6 (.leaf [8, 9, 10, 11, 12, 13, 14, 16, 17]) 8 (.leaf [6, 9, 10, 11, 12, 13, 14, 16, 17])) 8 (.leaf [5, 6, 9, 10, 11, 12, 13, 14, 16, 17]))) [2, 3, 5, 6, 8, 10, 11, 15, 16] [4, 28] 18 true (by kernel_rfl) ?_ | refine TwoP.mk ?_ ?_ | refine J_drawZ (id := 10) Tryz.tyOK (by kernel_rfl) [0, 0, 0, 4, 15, 31] [0, 1, 2, 3, 4, 5] [5] [4] 5 true (by kernel_rfl) ?_ | refine EntP.mk Ents.a ?_ | (refine CallP.mk [_] [_, _] [_] _ (cu _ _ hg) (List.Perm.refl _) (fun _ h => ⟨h.2.1, trivial⟩) (fun v L' D' hp => ?_); obtain ⟨us, gu, rfl, husr, hgu, rfl, rfl⟩ := hp) | (refine CallP.mk [_] [_, _, _] [_] _ (cu _ _ hg) (List.Perm.swap _ _ _) (fun _ h => ⟨h.2.1, trivial⟩) (fun v L' D' hp => ?_); obtain ⟨us, gu, rfl, husr, hgu, rfl, rfl⟩ := hp) | (refine CallP.mk [] _ [] _ titles_ok (List.Perm.refl _) (fun _ _ => trivial) (fun v L' D' hp => ?_); obtain ⟨tb, td, rfl, rfl, rfl⟩ := hp) | refine IdxE.mk 50 2 (ttC genTitles) (.inl ⟨td, List.Mem.head _⟩) (by omega) (by omega) ?_ | refine IdxE.mk 50 2 (ttC genTitles) (.inl ⟨td, List.Mem.tail _ (List.Mem.head _)⟩) (by omega) (by omega) ?_ | refine IdxE.mk 50 2 (ttC genTitles) (.inl ⟨td, List.Mem.tail _ (List.Mem.tail _ (List.Mem.head _))⟩) (by omega) (by omega) ?_ | refine LoadE.mk 50 _ (ttC genTitles) [.i .i64 sp, .s nm] (.inl ⟨td, List.Mem.head _⟩) (by omega) (by omega) (by first | omega | decide) (by exact htt) ?_ | refine LoadE.mk 50 _ (ttC genTitles) [.i .i64 sp, .s nm] (.inl ⟨td, List.Mem.tail _ (List.Mem.head _)⟩) (by omega) (by omega) (by first | omega | decide) (by exact htt) ?_ | refine LoadE.mk 50 _ (ttC genTitles) [.i .i64 sp, .s nm] (.inl ⟨td, List.Mem.tail _ (List.Mem.tail _ (List.Mem.head _))⟩) (by omega) (by omega) (by first | omega | decide) (by exact htt) ?_ | (refine CallP.mk [_] [_, _, _] [_] _ (ct _ _ hgu) (List.Perm.swap _ _ _) (fun _ h => ⟨h.2.1, trivial⟩) (fun v L' D' hp => ?_); obtain ⟨tx, gt, rfl, htx, hgt, rfl, rfl⟩ := hp) | (refine CallP.mk [_] [_, _, _, _] [_] _ (ct _ _ hgu) (List.Perm.swap _ _ _) (fun _ h => ⟨h.2.1, trivial⟩) (fun v L' D' hp => ?_); obtain ⟨tx, gt, rfl, htx, hgt, rfl, rfl⟩ := hp) | (refine CallP.mk [_] [_, _, _, _] [_] _ (ct _ _ hgu) ((List.perm_append_comm (l₁ := [_, _]) (l₂ := [_])).append_right [_, _]) (fun _ h => ⟨h.2.1, trivial⟩) (fun v L' D' hp => ?_); obtain ⟨tx, gt, rfl, htx, hgt, rfl, rfl⟩ := hp) | (refine CallP.mkE [] _ [_, _] _ _ (ap us tx husr htx _) (Ents.toFact.trans (Ents.facts (D' := [chsF _ [⟨1, us, [], sp, nm, 0, [], tx, 0, none, 0, []⟩], stF s', intsF e a l]) fun _ h => ⟨mk_one h.1 (SlF.nil (e := 0)), h.2.1, h.2.2.1, trivial⟩)) (fun _ h => ⟨h.2.1, h.1, trivial⟩) (fun v L' D' hq => ?_); obtain ⟨s1, rfl, rfl, rfl, hp1⟩ := hq; have hst := hstep us tx husr htx s1 hp1; generalize (applyT s'.pl [⟨1, us, [], sp, nm, 0, [], tx, 0, []⟩]).2 = er at *) | (refine CallP.mkE [] _ [_, _] _ _ (ap us tx husr htx _) ((Ents.perm (List.Perm.swap _ _ _)).trans (Ents.toFact.trans (Ents.facts (D' := [chsF _ [⟨1, us, [], sp, nm, 0, [], tx, 0, none, 0, []⟩], stF s', intsF e a l]) fun _ h => ⟨mk_one h.1 (SlF.nil (e := 0)), h.2.1, h.2.2.1, trivial⟩))) (fun _ h => ⟨h.2.1, h.1, trivial⟩) (fun v L' D' hq => ?_); obtain ⟨s1, rfl, rfl, rfl, hp1⟩ := hq; have hst := hstep us tx husr htx s1 hp1; generalize (applyT s'.pl [⟨1, us, [], sp, nm, 0, [], tx, 0, []⟩]).2 = er at *) | refine Round.mk (i + 1, s1, gt) (by dsimp only; omega) ⟨hgt, by dsimp only; omega, hst (by assumption)⟩ SubE.a (Ents.ofSub (by repeat (first | exact List.Sublist.slnil | refine List.Sublist.cons_cons _ ?_ | refine List.Sublist.cons _ ?_)) (fun _ h => ⟨h.1, h.2.2.2.1, trivial⟩)) | refine Round.mk (i + 1, s', gt) (by dsimp only; omega) ⟨hgt, by dsimp only; omega, hstay⟩ SubE.a (Ents.ofSub (by repeat (first | exact List.Sublist.slnil | refine List.Sublist.cons_cons _ ?_ | refine List.Sublist.cons _ ?_)) (fun _ h => ⟨h.2.2.1, h.2.2.2.1, trivial⟩)) | fail
  · have hil : i = q := by omega
    subst hil
    have k7 := cx ad0 g 7 (by omega) (by omega) hg
    have r7 := rr g 7 (by omega)
    have hgx := hgm g hg
    generalize nextGV l g 7 = n7 at *
    generalize nextGS l g = gx at *
    obtain ⟨N7, rfl⟩ : ∃ N : Nat, n7 = N := ⟨n7.toNat, by omega⟩
    have ca := genAfter_ok e a c ad0 l gx s' (1 + i) N7 hre hgx hl (by omega)
    clear cx cu ct rr hgm
    repeat' first | refine J_seq ?_ | refine J_region Tryz.tyOK ?_ | refine J_block ?_ | refine J_cond ?_ | refine J_ret ?_ | refine J_skip ?_ | refine J_exit ?_ | refine J_scope ?_ | refine CondP.y ?_ | refine CondP.n ?_ | refine CondP.mk (fun h => ?_) (fun h => ?_) | refine EqP.mk rfl ?_ | refine NewP.mk (fun ad => ?_) | refine ArP.x ?_ | refine SideP.a ?_ | refine J_drawP (id := 7) Tryz.tyOK (by kernel_rfl) [0, 0, 2, 6, 0, 30, 62, 0, 142, 510, 1022, 2047, 4095, 8191, 8191, 0, 49151, 131071] (.node [0, 1, 4, 7] 2 (.node [] 3 (.node3 [] 5 (.node3 [] 6 (.node [] 8 (.node [9] 10 (.node [] 11 (.leaf [12, 13, 14, 15, 16, 17]) 15 (.leaf [11, 12, 13, 14, 16, 17])) 15 (.leaf [10, 11, 12, 13, 14, 16, 17])) 15 (.leaf [8, 9, 10, 11, 12, 13, 14, 16, 17])) 8 (.node [] 6 (.node [9] 10 (.node [] 11 (.leaf [12, 13, 14, 15, 16, 17]) 15 (.leaf [11, 12, 13, 14, 16, 17])) 15 (.leaf [10, 11, 12, 13, 14, 16, 17])) 15 (.leaf [6, 9, 10, 11, 12, 13, 14, 16, 17])) 15 (.node [] 6 (.leaf [8, 9, 10, 11, 12, 13, 14, 16, 17]) 8 (.leaf [6, 9, 10, 11, 12, 13, 14, 16, 17]))) 8 (.node [] 5 (.node [] 6 (.node [9] 10 (.node [] 11 (.leaf [12, 13, 14, 15, 16, 17]) 15 (.leaf [11, 12, 13, 14, 16, 17])) 15 (.leaf [10, 11, 12, 13, 14, 16, 17])) 15 (.leaf [6, 9, 10, 11, 12, 13, 14, 16, 17])) 15 (.leaf [5, 6, 9, 10, 11, 12, 13, 14, 16, 17])) 15 (.node [] 5 (.node [] 6 (.leaf [8, 9, 10, 11, 12, 13, 14, 16, 17]) 8 (.leaf [6, 9, 10, 11, 12, 13, 14, 16, 17])) 8 (.leaf [5, 6, 9, 10, 11, 12, 13, 14, 16, 17]))) 15 (.node [3] 5 (.node [] 6 (.leaf [8, 9, 10, 11, 12, 13, 14, 16, 17]) 8 (.leaf [6, 9, 10, 11, 12, 13, 14, 16, 17])) 8 (.leaf [5, 6, 9, 10, 11, 12, 13, 14, 16, 17]))) 15 (.node [2, 3] 5 (.node [] 6 (.leaf [8, 9, 10, 11, 12, 13, 14, 16, 17]) 8 (.leaf [6, 9, 10, 11, 12, 13, 14, 16, 17])) 8 (.leaf [5, 6, 9, 10, 11, 12, 13, 14, 16, 17]))) [2, 3, 5, 6, 8, 10, 11, 15, 16] [4, 28] 18 true (by kernel_rfl) ?_ | refine TwoP.mk ?_ ?_ | refine J_drawZ (id := 10) Tryz.tyOK (by kernel_rfl) [0, 0, 0, 4, 15, 31] [0, 1, 2, 3, 4, 5] [3, 4, 5] [4] 5 true (by kernel_rfl) ?_ | refine EntP.mk Ents.a ?_ | (refine CallP.mk [_] [_, _] [_] _ k7 (List.Perm.refl _) (fun _ h => ⟨h.2.1, trivial⟩) (fun v L' D' hp => ?_); obtain ⟨rfl, rfl, rfl⟩ := hp) | (refine CallP.mk [_] [_, _] [_, _] _ ca (List.Perm.refl _) (fun _ h => h) (fun v L' D' hp => ?_); obtain ⟨s2, g3, rfl, hr2, hg3, rfl, rfl⟩ := hp) | refine FinE.mk [] [stF _] ⟨s2, rfl, hr2.le (by omega), rfl, rfl⟩ (Ents.dropAll.trans (Ents.facts fun _ h => ⟨h.1, trivial⟩)) | fail
end Go.Proofs

/- This text walks through the maker of rows of words of the statements of chapter 35. -/
namespace Go.X
open Go
end Go.X
namespace Go.Proofs
open Go Go.X
set_option maxRecDepth 100000
set_option maxHeartbeats 4000000
end Go.Proofs

/- This text proves plain facts on the tables of states and on what Find gives for them. -/
namespace Go.X
open Go Go.Lib Go.Proofs
theorem firstN_isSome {l : List WR} {k : List UInt8 × Int × List UInt8} : (firstN l k).isSome = true ↔ ∃ r ∈ l, (r.w, r.sp, r.nm) = k := by
  induction l with
  | nil => simp [firstN]
  | cons x t ih =>
    simp only [firstN]
    split
    · rename_i h
      exact ⟨fun _ => ⟨x, List.mem_cons_self .., h⟩, fun _ => rfl⟩
    · rename_i h
      rw [ih]
      constructor
      · rintro ⟨r, h1, h2⟩; exact ⟨r, List.mem_cons_of_mem _ h1, h2⟩
      · rintro ⟨r, h1, h2⟩
        rcases List.mem_cons.1 h1 with e | e
        · subst e; exact absurd h2 h
        · exact ⟨r, e, h2⟩
theorem valid_pgs {s : STM} (h : validST s.pl = true) : PgS s ∧ StB s := by
  obtain ⟨_, _, vk⟩ := valid_iff.1 h
  have hsm := vk.small
  have hb := hsm.big
  refine ⟨⟨by have h1 := vk.np; rw [show s.pl.pages = s.pages.map PGM.pl from rfl, List.length_map] at h1; omega, hb.ph, fun p hp => ?_⟩, hb⟩
  have hpg := pageOK_iff.1 (vk.pg p.pl (List.mem_map.2 ⟨p, hp, rfl⟩))
  have hv : validT p.sp p.nm = true := hpg.1
  have h1 := validT_bounds hv
  have hh := histT_iff.1 hpg.2
  have ht : ∀ (l : List RV) (i mi se : Int), histGo s.clk s.seq i mi se l = true → ∀ r ∈ l, (r.text.length : Int) ≤ 8192 := by
    intro l
    induction l with
    | nil => intro _ _ _ _ r hr; cases hr
    | cons x t ih =>
      intro i mi se hg r hr
      simp only [histGo, Bool.and_eq_true] at hg
      rcases List.mem_cons.1 hr with e | e
      · subst e; exact (rvOK_iff.1 hg.1).2.1
      · exact ih _ _ _ hg.2 r e
  have hcur : ((curM p.hist).text.length : Int) ≤ 8192 := by
    have hl : 1 ≤ (p.hist.length : Int) := hh.1
    obtain ⟨k, hk⟩ : ∃ k, p.hist.length = k + 1 := ⟨p.hist.length - 1, by omega⟩
    rw [curM_at hk]
    exact ht p.hist _ _ _ hh.2.2 _ (List.getElem_mem _)
  omega
def usersL : List (List UInt8) := [[], [97, 110, 110], [98, 111, 98], [99, 121]]
theorem users_get {k : Int} (h : 0 ≤ k) (h1 : k < 4) : ((sC usersL).drop (k.toNat * 1 + 0)).take 1 = [C.s (usersL.getD k.toNat [])] := by
  have := idxB usersL h (by simpa [usersL] using h1)
  simpa [sC] using this
theorem buildT_len (s : STM) (h : PgS s) : (buildT s.pl).length ≤ 2000400 := by
  rw [buildT_is]
  exact Nat.le_trans (ordW_len _) (flatRows_len h)
theorem rowsT_mem {sp : Int} {nm text : List UInt8} {r : WR} : r ∈ rowsT sp nm text ↔ ∃ w ∈ wordsS (nm ++ [10] ++ text), r = ⟨w, sp, nm, ((wordsS (nm ++ [10] ++ text)).count w : Int)⟩ := by
  unfold rowsT rowsW
  rw [(ordW_str _).2, List.mem_map]
  exact ⟨fun ⟨w, h1, h2⟩ => ⟨w, h1, h2.symm⟩, fun ⟨w, h1, h2⟩ => ⟨w, h1, h2.symm⟩⟩
theorem buildT_mem {s : ST} {r : WR} : r ∈ buildT s ↔ ∃ p ∈ s.pages, r ∈ pageRows p := by
  unfold buildT
  rw [(ordW_str _).2, List.mem_flatMap]
theorem buildT_n {s : STM} (h : PgS s) {r : WR} (hr : r ∈ buildT s.pl) : 1 ≤ r.n ∧ r.n ≤ 1099511627776 := by
  obtain ⟨p, hp, hr⟩ := buildT_mem.1 hr
  obtain ⟨q, hq, rfl⟩ := List.mem_map.1 (show p ∈ s.pages.map PGM.pl from hp)
  obtain ⟨w, hw, rfl⟩ := rowsT_mem.1 (show r ∈ rowsT q.sp q.nm (curM q.hist).text from hr)
  have h1 := List.count_pos_iff.2 hw
  have h2 := List.count_le_length (a := w) (l := wordsS (q.nm ++ [10] ++ (curM q.hist).text))
  have h3 := wordsR_len (q.nm ++ [10] ++ (curM q.hist).text) []
  have h4 := h.t q hq
  unfold wordsS at *
  simp only [List.length_append, List.length_cons, List.length_nil] at h3
  dsimp only
  omega
end Go.X
namespace Go.Proofs
open Go Go.X
set_option maxRecDepth 100000
set_option maxHeartbeats 4000000
theorem users_ok : FnS Tryz.prog 13 [] [] [] (fun v L D => ∃ a c, v = .c (.sl a 4 c) ∧ L = [] ∧ D = [slFact 9 1 a 4 (sC usersL)]) := by
  refine fn_of_J Tryz.tyOK 0 Tryz.func13 (by kernel_rfl) (c := Tryz.f13.body.getD .skip) (by kernel_rfl) Tryz.ntmps13 (rs := Tryz.f13.results.toList) rfl (by simp) (fun G => ?_)
  repeat' first | refine J_seq ?_ | refine J_region Tryz.tyOK ?_ | refine J_block ?_ | refine J_cond ?_ | refine J_ret ?_ | refine J_skip ?_ | refine J_exit ?_ | refine J_scope ?_ | refine CondP.y ?_ | refine CondP.n ?_ | refine CondP.mk (fun h => ?_) (fun h => ?_) | refine EqP.mk rfl ?_ | refine NewP.mk (fun ad => ?_) | refine ArP.x ?_ | refine SideP.a ?_ | exact FinE.mk [] [_] ⟨_, _, rfl, rfl, rfl⟩ (Ents.toFact (cs := sC usersL)) | fail
abbrev RowFP (W : List WR) : V → List Chunk → List Fact → Prop := fun v L D => ∃ a' c', v = .c (.sl a' W.length c') ∧ L = [] ∧ D = [slFact 60 4 a' W.length (wrC W)]
theorem FnS.rf {f : FuncId} {args : List V} {D : List Fact} {W : List WR} (h : FnS Tryz.prog f args [] D (RowP W)) : FnS Tryz.prog f args [] D (RowFP W) :=
  h.entsP fun v L D ⟨a, c, h1, h2, h3⟩ => by
    subst h1 h2 h3
    exact ⟨[], _, Ents.toFact, a, c, rfl, rfl, rfl⟩
abbrev HitFP (W : List HT) : V → List Chunk → List Fact → Prop := fun v L D => ∃ a' c', v = .c (.sl a' W.length c') ∧ L = [] ∧ D = [slFact 52 3 a' W.length (htC W)]
theorem FnS.hf {f : FuncId} {args : List V} {D : List Fact} {W : List HT} (h : FnS Tryz.prog f args [] D (fun v L D => ∃ a' c', v = .c (.sl a' W.length c') ∧ L = [.row 52 3 a' W.length c' (htC W)] ∧ D = [])) : FnS Tryz.prog f args [] D (HitFP W) :=
  h.entsP fun v L D ⟨a, c, h1, h2, h3⟩ => by
    subst h1 h2 h3
    exact ⟨[], _, Ents.toFact, a, c, rfl, rfl, rfl⟩
end Go.Proofs

/- This text walks through the comparison of lists of strings, rows of words and hits (trcgen2.Same): lists of the same content are the same. -/
namespace Go.X
open Go Go.Lib
theorem ht_get {l : List HT} {i : Nat} (h : i < l.length) : ((htC l).drop (i * 3 + 0)).take 3 = [.i .i64 l[i].sp, .s l[i].nm, .i .i64 l[i].n] := by
  rw [htC, flat_get (F := HT.cells) (z := 3) (fun _ => rfl) h (by omega)]; rfl
end Go.X
namespace Go.Proofs
open Go Go.X
set_option maxRecDepth 100000
set_option maxHeartbeats 4000000
theorem sameStr_ok (e e' : Nat) (a b : Option Addr) (c d : Nat) (l : List (List UInt8)) (hl : l.length ≤ 10000000) :
    FnS Tryz.prog 35 [.c (.sl a l.length c), .c (.sl b l.length d)] [] [slFact e 1 a l.length (l.map C.s), slFact e' 1 b l.length (l.map C.s)] (Is tt) := by
  have hr1 : ∀ L, Reads L [slFact e 1 a l.length (l.map C.s), slFact e' 1 b l.length (l.map C.s)] e 1 a l.length (l.map C.s) := fun L => .inr fun m h => h.1
  have hr2 : ∀ L, Reads L [slFact e 1 a l.length (l.map C.s), slFact e' 1 b l.length (l.map C.s)] e' 1 b l.length (l.map C.s) := fun L => .inr fun m h => h.2.1
  refine fn_of_J Tryz.tyOK 0 Tryz.func35 (by kernel_rfl) (c := Tryz.f35.body.getD .skip) (by kernel_rfl) Tryz.ntmps35 (rs := Tryz.f35.results.toList) rfl (by simp) (fun G => ?_)
  repeat' first | refine J_seq ?_ | refine J_region Tryz.tyOK ?_ | refine J_block ?_ | refine J_cond ?_ | refine J_ret ?_ | refine J_skip ?_ | refine J_exit ?_ | refine J_scope ?_ | refine CondP.y ?_ | refine CondP.n ?_ | refine CondP.mk (fun h => ?_) (fun h => ?_) | refine EqP.mk rfl ?_ | refine NewP.mk (fun ad => ?_) | refine ArP.x ?_ | refine SideP.a ?_ | fail
  refine J_loop (α := Nat) (fun i => [(0, .c (.sl a l.length c)), (1, .c (.sl b l.length d)), (5, .c (.i .i64 i))]) (fun _ => []) (fun _ => [slFact e 1 a l.length (l.map C.s), slFact e' 1 b l.length (l.map C.s)]) 0 (fun i => i ≤ l.length) (fun i => l.length - i) (InFam.mk 0 (Nat.zero_le _) SubE.a (Ents.refl _ _)) (fun i hi => ?_)
  by_cases hlt : i < l.length
  · have hg := map_take1 (f := C.s) hlt
    repeat' first | refine CondP.yes rfl ?_ | refine J_seq ?_ | refine J_region Tryz.tyOK ?_ | refine J_block ?_ | refine J_cond ?_ | refine J_ret ?_ | refine J_skip ?_ | refine J_exit ?_ | refine J_scope ?_ | refine CondP.y ?_ | refine CondP.n ?_ | refine CondP.mk (fun h => ?_) (fun h => ?_) | refine EqP.mk rfl ?_ | refine NewP.mk (fun ad => ?_) | refine ArP.x ?_ | refine SideP.a ?_ | refine J_drawS (id := 6) Tryz.tyOK (by kernel_rfl) [0, 0, 3, 7, 0, 0, 48, 112, 255] [0, 1, 2, 3, 4, 5, 6, 7, 8] [] [19, 23] true (by kernel_rfl) ?_ | refine EntP.mk Ents.a ?_ | refine IdxE.mk e 1 _ (hr1 _) (by omega) (by omega) ?_ | refine IdxE.mk e' 1 _ (hr2 _) (by omega) (by omega) ?_ | refine LoadE.mk e _ _ _ (hr1 _) (by omega) (by omega) (by first | omega | decide) hg ?_ | refine LoadE.mk e' _ _ _ (hr2 _) (by omega) (by omega) (by first | omega | decide) hg ?_ | refine Round.mk (i + 1) (by omega) (by omega) SubE.a (Ents.refl _ _) | fail
  · have hil : i = l.length := by omega
    subst hil
    repeat' first | refine J_seq ?_ | refine J_region Tryz.tyOK ?_ | refine J_block ?_ | refine J_cond ?_ | refine J_ret ?_ | refine J_skip ?_ | refine J_exit ?_ | refine J_scope ?_ | refine CondP.y ?_ | refine CondP.n ?_ | refine CondP.mk (fun h => ?_) (fun h => ?_) | refine EqP.mk rfl ?_ | refine NewP.mk (fun ad => ?_) | refine ArP.x ?_ | refine SideP.a ?_ | refine FinE.is rfl | fail
theorem sameHits_ok (e e' : Nat) (a b : Option Addr) (c d : Nat) (l : List HT) (hl : l.length ≤ 10000000) :
    FnS Tryz.prog 16 [.c (.sl a l.length c), .c (.sl b l.length d)] [] [slFact e 3 a l.length (htC l), slFact e' 3 b l.length (htC l)] (Is tt) := by
  have hr1 : ∀ L, Reads L [slFact e 3 a l.length (htC l), slFact e' 3 b l.length (htC l)] e 3 a l.length (htC l) := fun L => .inr fun m h => h.1
  have hr2 : ∀ L, Reads L [slFact e 3 a l.length (htC l), slFact e' 3 b l.length (htC l)] e' 3 b l.length (htC l) := fun L => .inr fun m h => h.2.1
  refine fn_of_J Tryz.tyOK 0 Tryz.func16 (by kernel_rfl) (c := Tryz.f16.body.getD .skip) (by kernel_rfl) Tryz.ntmps16 (rs := Tryz.f16.results.toList) rfl (by simp) (fun G => ?_)
  repeat' first | refine J_seq ?_ | refine J_region Tryz.tyOK ?_ | refine J_block ?_ | refine J_cond ?_ | refine J_ret ?_ | refine J_skip ?_ | refine J_exit ?_ | refine J_scope ?_ | refine CondP.y ?_ | refine CondP.n ?_ | refine CondP.mk (fun h => ?_) (fun h => ?_) | refine EqP.mk rfl ?_ | refine NewP.mk (fun ad => ?_) | refine ArP.x ?_ | refine SideP.a ?_ | fail
  refine J_loop (α := Nat) (fun i => [(0, .c (.sl a l.length c)), (1, .c (.sl b l.length d)), (5, .c (.i .i64 i))]) (fun _ => []) (fun _ => [slFact e 3 a l.length (htC l), slFact e' 3 b l.length (htC l)]) 0 (fun i => i ≤ l.length) (fun i => l.length - i) (InFam.mk 0 (Nat.zero_le _) SubE.a (Ents.refl _ _)) (fun i hi => ?_)
  by_cases hlt : i < l.length
  · have hg := ht_get hlt
    repeat' first | refine CondP.yes ⟨⟨rfl, rfl, trivial⟩, rfl, trivial⟩ ?_ | refine J_seq ?_ | refine J_region Tryz.tyOK ?_ | refine J_block ?_ | refine J_cond ?_ | refine J_ret ?_ | refine J_skip ?_ | refine J_exit ?_ | refine J_scope ?_ | refine CondP.y ?_ | refine CondP.n ?_ | refine CondP.mk (fun h => ?_) (fun h => ?_) | refine EqP.mk rfl ?_ | refine NewP.mk (fun ad => ?_) | refine ArP.x ?_ | refine SideP.a ?_ | refine J_drawS (id := 6) Tryz.tyOK (by kernel_rfl) [0, 0, 3, 7, 0, 0, 48, 112, 255] [0, 1, 2, 3, 4, 5, 6, 7, 8] [] [19, 23] true (by kernel_rfl) ?_ | refine EntP.mk Ents.a ?_ | refine IdxE.mk e 3 _ (hr1 _) (by omega) (by omega) ?_ | refine IdxE.mk e' 3 _ (hr2 _) (by omega) (by omega) ?_ | refine LoadE.mk e _ _ _ (hr1 _) (by omega) (by omega) (by first | omega | decide) hg ?_ | refine LoadE.mk e' _ _ _ (hr2 _) (by omega) (by omega) (by first | omega | decide) hg ?_ | refine Round.mk (i + 1) (by omega) (by omega) SubE.a (Ents.refl _ _) | fail
  · have hil : i = l.length := by omega
    subst hil
    repeat' first | refine J_seq ?_ | refine J_region Tryz.tyOK ?_ | refine J_block ?_ | refine J_cond ?_ | refine J_ret ?_ | refine J_skip ?_ | refine J_exit ?_ | refine J_scope ?_ | refine CondP.y ?_ | refine CondP.n ?_ | refine CondP.mk (fun h => ?_) (fun h => ?_) | refine EqP.mk rfl ?_ | refine NewP.mk (fun ad => ?_) | refine ArP.x ?_ | refine SideP.a ?_ | refine FinE.is rfl | fail
end Go.Proofs

/- This text walks through the function awake of the statements of chapter 35: the examples of the chapter. -/
namespace Go.X
open Go Go.Lib Go.Proofs
def annT : List UInt8 := [65, 110, 110]
def annW : List UInt8 := [97, 110, 110]
def teaW : List UInt8 := [116, 101, 97]
def rowsA : List WR := [⟨annW, 0, annT, 2⟩, ⟨[108, 105, 107, 101, 115], 0, annT, 1⟩, ⟨teaW, 0, annT, 1⟩]
theorem wordsA : wordsS (annT ++ [10] ++ [97, 110, 110, 32, 108, 105, 107, 101, 115, 32, 116, 101, 97]) = [annW, annW, [108, 105, 107, 101, 115], teaW] := by decide
theorem rowsA_is : rowsT 0 annT [97, 110, 110, 32, 108, 105, 107, 101, 115, 32, 116, 101, 97] = rowsA := by
  unfold rowsT
  rw [wordsA, ordW_mem (m := rowsA) (fun z => ?_)]
  · refine ordW_of_str ?_
    unfold rowsA StrL
    simp only [List.pairwise_cons, List.mem_cons, List.not_mem_nil, or_false]
    refine ⟨?_, ?_, ?_⟩
    · rintro a (rfl | rfl) <;> decide
    · rintro a rfl; decide
    · exact ⟨fun _ h => h.elim, List.Pairwise.nil⟩
  · have : rowsW 0 annT [annW, annW, [108, 105, 107, 101, 115], teaW] = ⟨annW, 0, annT, 2⟩ :: rowsA := by decide
    rw [this]
    simp [rowsA]
theorem wordsB : wordsS [73, 116, 39, 115, 32, 53, 32, 111, 39, 99, 108, 111, 99, 107, 44, 32, 65, 110, 110] = [[105, 116], [99, 108, 111, 99, 107], annW] := by decide
def pageA : PG := ⟨0, annT, [], 0⟩
theorem srt1 (x : List UInt8) : srtS [x] = [x] := by unfold srtS; exact List.mergeSort_singleton ..
theorem srt2 (x y : List UInt8) : srtS [x, y] = if x ≤ y then [x, y] else [y, x] := by
  unfold srtS
  simp [List.mergeSort, List.MergeSort.Internal.splitInTwo, List.merge]
theorem find1 : findT rowsA [pageA] [65, 78, 78] = [⟨0, annT, 2⟩] := by
  have hq : queryT [65, 78, 78] = [annW] := by
    unfold queryT
    rw [show wordsS [65, 78, 78] = [annW] by decide, srt1]
    rfl
  unfold findT
  rw [hq, if_neg (by simp), show hitsGo rowsA [annW] [] [pageA] = [⟨0, annT, 2⟩] by decide]
  exact List.mergeSort_singleton ..
theorem find2 : findT rowsA [pageA] [116, 101, 97, 32, 97, 110, 110] = [⟨0, annT, 3⟩] := by
  have hq : queryT [116, 101, 97, 32, 97, 110, 110] = [annW, teaW] := by
    unfold queryT
    rw [show wordsS [116, 101, 97, 32, 97, 110, 110] = [teaW, annW] by decide, srt2, if_neg (by decide)]
    decide
  unfold findT
  rw [hq, if_neg (by simp), show hitsGo rowsA [annW, teaW] [] [pageA] = [⟨0, annT, 3⟩] by decide]
  exact List.mergeSort_singleton ..
theorem find3 : findT rowsA [pageA] [97, 110, 110, 32, 99, 111, 102, 102, 101, 101] = [] := by
  have hq : queryT [97, 110, 110, 32, 99, 111, 102, 102, 101, 101] = [annW, [99, 111, 102, 102, 101, 101]] := by
    unfold queryT
    rw [show wordsS [97, 110, 110, 32, 99, 111, 102, 102, 101, 101] = [annW, [99, 111, 102, 102, 101, 101]] by decide, srt2, if_pos (by decide)]
    decide
  unfold findT
  rw [hq, if_neg (by simp), show hitsGo rowsA [annW, [99, 111, 102, 102, 101, 101]] [] [pageA] = [] by decide]
  exact List.mergeSort_nil ..
end Go.X
namespace Go.Proofs
open Go Go.X
set_option maxRecDepth 100000
set_option maxHeartbeats 4000000
theorem awake_ok : FnS Tryz.prog 10 [] [] [] (Is tt) := by
  have c0 : FnS Tryz.prog 26 [.agg [.i .i64 0, .s annT], .c (.s [97, 110, 110, 32, 108, 105, 107, 101, 115, 32, 116, 101, 97])] [] [] (fun v L D => ∃ a c, v = .c (.sl a 3 c) ∧ L = [] ∧ D = [slFact 60 4 a 3 (wrC rowsA)]) :=
    (rows_ok 0 annT [97, 110, 110, 32, 108, 105, 107, 101, 115, 32, 116, 101, 97] (by decide)).entsP fun v L D ⟨a, c, h1, h2, h3⟩ => by
      rw [rowsA_is] at h1 h2
      subst h1 h2 h3
      exact ⟨[], _, Ents.toFact, a, c, rfl, rfl, rfl⟩
  have c1 : FnS Tryz.prog 36 [.c (.s [73, 116, 39, 115, 32, 53, 32, 111, 39, 99, 108, 111, 99, 107, 44, 32, 65, 110, 110])] [] [] (fun v L D => ∃ a c, v = .c (.sl a 3 c) ∧ L = [] ∧ D = [slFact 9 1 a 3 ([[105, 116], [99, 108, 111, 99, 107], annW].map C.s)]) :=
    (words_ok [73, 116, 39, 115, 32, 53, 32, 111, 39, 99, 108, 111, 99, 107, 44, 32, 65, 110, 110] (by decide)).entsP fun v L D ⟨a, c, h1, h2, h3⟩ => by
      rw [wordsB] at h1 h2
      subst h1 h2 h3
      exact ⟨[], _, Ents.toFact, a, c, rfl, rfl, rfl⟩
  have hb : ∀ r ∈ rowsA, -1099511627776 ≤ r.n ∧ r.n ≤ 1099511627776 := by decide
  have cf := fun (q : List UInt8) (H : List HT) (hq : q.length ≤ 1000) (hH : findT rowsA [pageA] q = H) (e e' : Nat) (la pa : Option Addr) (lc pc : Nat) =>
    (find_ok e e' la pa lc pc rowsA [pageA] ⟨(none, 0, 0), (none, 0, 0), (none, 0, 0), (none, 0, 0), 0, (none, 0, 0)⟩ q (by decide) hb (by decide) hq).entsP
      (post' := fun v L D => ∃ a c, v = .c (.sl a H.length c) ∧ L = [] ∧ D = [slFact 52 3 a H.length (htC H)]) fun v L D ⟨a, c, h1, h2, h3⟩ => by
      rw [hH] at h1 h2
      subst h1 h2 h3
      exact ⟨[], _, Ents.toFact, a, c, rfl, rfl, rfl⟩
  have f1 : ∀ (e e' : Nat) (la pa : Option Addr) (lc pc : Nat), FnS Tryz.prog 17 [.c (.sl la 3 lc), .agg [.sl pa 1 pc, .sl none 0 0, .sl none 0 0, .sl none 0 0, .sl none 0 0, .i .i64 0, .sl none 0 0], .c (.s [65, 78, 78])] [] [slFact e 4 la 3 (wrC rowsA), slFact e' 4 pa 1 (pgC [pageA])] (fun v L D => ∃ a c, v = .c (.sl a 1 c) ∧ L = [] ∧ D = [slFact 52 3 a 1 (htC [⟨0, annT, 2⟩])]) := cf _ _ (by decide) find1
  have f2 : ∀ (e e' : Nat) (la pa : Option Addr) (lc pc : Nat), FnS Tryz.prog 17 [.c (.sl la 3 lc), .agg [.sl pa 1 pc, .sl none 0 0, .sl none 0 0, .sl none 0 0, .sl none 0 0, .i .i64 0, .sl none 0 0], .c (.s [116, 101, 97, 32, 97, 110, 110])] [] [slFact e 4 la 3 (wrC rowsA), slFact e' 4 pa 1 (pgC [pageA])] (fun v L D => ∃ a c, v = .c (.sl a 1 c) ∧ L = [] ∧ D = [slFact 52 3 a 1 (htC [⟨0, annT, 3⟩])]) := cf _ _ (by decide) find2
  have f3 : ∀ (e e' : Nat) (la pa : Option Addr) (lc pc : Nat), FnS Tryz.prog 17 [.c (.sl la 3 lc), .agg [.sl pa 1 pc, .sl none 0 0, .sl none 0 0, .sl none 0 0, .sl none 0 0, .i .i64 0, .sl none 0 0], .c (.s [97, 110, 110, 32, 99, 111, 102, 102, 101, 101])] [] [slFact e 4 la 3 (wrC rowsA), slFact e' 4 pa 1 (pgC [pageA])] (fun v L D => ∃ a c, v = .c (.sl a 0 c) ∧ L = [] ∧ D = [slFact 52 3 a 0 (htC [])]) := cf _ _ (by decide) find3
  clear cf
  refine fn_of_J Tryz.tyOK 0 Tryz.func10 (by kernel_rfl) (c := Tryz.f10.body.getD .skip) (by kernel_rfl) Tryz.ntmps10 (rs := Tryz.f10.results.toList) rfl (by simp) (fun G => ?_)
  repeat' first | refine J_stop (c := .region 4 _ _) ?_ | refine J_seq ?_ | refine J_region Tryz.tyOK ?_ | refine J_block ?_ | refine J_cond ?_ | refine J_ret ?_ | refine J_skip ?_ | refine J_exit ?_ | refine J_scope ?_ | refine CondP.y ?_ | refine CondP.n ?_ | refine CondP.mk (fun h => ?_) (fun h => ?_) | refine EqP.mk rfl ?_ | refine NewP.mk (fun ad => ?_) | refine ArP.x ?_ | refine SideP.a ?_ | refine CallP.mk [] [_] [] _ c0 (List.Perm.refl _) (fun _ _ => trivial) (fun v L' D' hq => ?_); obtain ⟨a0, k0, rfl, rfl, rfl⟩ := hq | fail
  refine ⟨?_⟩
  rename_i ad0 ad1
  refine J_ent (n' := 2) (env' := [(0, ff), (1, .c (.p 0 ad0 0)), (2, .c (.sl a0 3 k0)), (3, .c (.p 1 ad 0))]) (L' := [.box 1 ad 32 [.sl (some ⟨ad1, 0, none⟩) 1 1, .sl none 0 0, .sl none 0 0, .sl none 0 0, .sl none 0 0, .i .i64 0, .sl none 0 0], .box 0 ad0 50 [.i .i64 0, .s annT]]) (D' := [slFact 80 4 (some ⟨ad1, 0, none⟩) 1 (pgC [pageA]), slFact 60 4 a0 3 (wrC rowsA)]) SubE.a ((Ents.perm (List.Perm.swap _ _ _)).trans Ents.toFact) ?_
  repeat' first | refine J_seq ?_ | refine J_region Tryz.tyOK ?_ | refine J_block ?_ | refine J_cond ?_ | refine J_ret ?_ | refine J_skip ?_ | refine J_exit ?_ | refine J_scope ?_ | refine CondP.y ?_ | refine CondP.n ?_ | refine CondP.mk (fun h => ?_) (fun h => ?_) | refine EqP.mk rfl ?_ | refine NewP.mk (fun ad => ?_) | refine ArP.x ?_ | refine SideP.a ?_ | refine J_drawP (id := 4) Tryz.tyOK (by kernel_rfl) [0, 0, 3, 7, 15, 15, 63, 15, 143, 399, 1023, 2047, 4095, 8191, 8191, 32767, 8191, 73727, 204799, 524287, 1048575, 2097151, 4194303, 4194303, 16777215, 33554431, 67108863, 134217727, 268435455] (.node [] 0 (.node [1, 2, 3, 4, 5, 7, 8] 6 (.node [9, 10, 11, 12, 13, 14, 16, 17] 15 (.leaf [18, 19, 20, 21, 22, 23, 24, 25, 26, 27, 28]) 18 (.leaf [15, 19, 20, 21, 22, 23, 24, 25, 26, 27, 28])) 9 (.node [6, 10, 11, 12, 13, 14, 16, 17] 15 (.leaf [18, 19, 20, 21, 22, 23, 24, 25, 26, 27, 28]) 18 (.leaf [15, 19, 20, 21, 22, 23, 24, 25, 26, 27, 28]))) 1 (.node [0, 2, 3, 4, 5, 7, 8] 6 (.node [9, 10, 11, 12, 13, 14, 16, 17] 15 (.leaf [18, 19, 20, 21, 22, 23, 24, 25, 26, 27, 28]) 18 (.leaf [15, 19, 20, 21, 22, 23, 24, 25, 26, 27, 28])) 9 (.node [6, 10, 11, 12, 13, 14, 16, 17] 15 (.leaf [18, 19, 20, 21, 22, 23, 24, 25, 26, 27, 28]) 18 (.leaf [15, 19, 20, 21, 22, 23, 24, 25, 26, 27, 28])))) [0, 1, 2, 6, 9, 10, 15, 18, 19, 24] [1, 3] 29 true (by kernel_rfl) ?_ | refine TwoP.mk ?_ ?_ | refine EntP.mk Ents.a ?_ | refine CallP.mk [] _ [] _ c1 (List.Perm.refl _) (fun _ _ => trivial) (fun v L' D' hq => ?_); obtain ⟨a1, k1, rfl, rfl, rfl⟩ := hq | refine CallP.isE (sameStr_ok 9 9 _ _ _ _ [[105, 116], [99, 108, 111, 99, 107], annW] (by decide)) Ents.toFact (fun _ h => by exact ⟨h.2.1, h.1, trivial⟩) ?_ | refine CallP.mk [] _ [_, _] _ (f1 60 80 _ _ _ _) (List.Perm.refl _) (fun _ h => by exact ⟨h.2.2.2.1, h.2.2.1, trivial⟩) (fun v L' D' hq => ?_); obtain ⟨a2, k2, rfl, rfl, rfl⟩ := hq | refine CallP.mk [] _ [_, _] _ (f2 60 80 _ _ _ _) (List.Perm.refl _) (fun _ h => by exact ⟨h.2.2.2.2.2.1, h.2.2.2.2.1, trivial⟩) (fun v L' D' hq => ?_); obtain ⟨a3, k3, rfl, rfl, rfl⟩ := hq | refine CallP.mk [] _ [_, _] _ (f3 60 80 _ _ _ _) (List.Perm.refl _) (fun _ h => by exact ⟨h.2.2.2.2.2.2.2.1, h.2.2.2.2.2.2.1, trivial⟩) (fun v L' D' hq => ?_); obtain ⟨a4, k4, rfl, rfl, rfl⟩ := hq | refine CallP.isE (sameHits_ok 52 52 _ _ _ _ [⟨0, annT, 2⟩] (by decide)) Ents.toFact (fun _ h => by exact ⟨h.2.1, h.1, trivial⟩) ?_ | refine CallP.isE (sameHits_ok 52 52 _ _ _ _ [⟨0, annT, 3⟩] (by decide)) Ents.toFact (fun _ h => by exact ⟨h.2.1, h.1, trivial⟩) ?_ | refine FinE.mk [] [] ⟨rfl, rfl, rfl⟩ Ents.a | fail
end Go.Proofs

/- This text walks through the functions contains and SearchComplete of the statements of chapter 35. -/
namespace Go.X
open Go Go.Lib Go.Proofs
theorem wordsS_sep (c : UInt8) (hc : letB c = false) (a b : List UInt8) : ∀ cur, wordsR cur (a ++ c :: b) = wordsR cur a ++ wordsR [] b := by
  induction a with
  | nil => intro cur; simp only [List.nil_append, wordsR]; rw [if_neg (by rw [hc]; decide)]
  | cons x r ih =>
    intro cur
    simp only [List.cons_append, wordsR, ih]
    split <;> simp [List.append_assoc]
theorem wordsS_cat (c : UInt8) (hc : letB c = false) (a b : List UInt8) : wordsS (a ++ [c] ++ b) = wordsS a ++ wordsS b := by
  rw [List.append_assoc]
  exact wordsS_sep c hc a b []
/-- Whether a text has all words of a query. -/
def containsT (x q : List UInt8) : Bool := !decide (wordsS q = []) && (wordsS q).all fun w => decide (w ∈ wordsS x)
theorem sum_pos : ∀ {l : List Int}, (∀ x ∈ l, 1 ≤ x) → l ≠ [] → 1 ≤ l.sum
  | [], _, h => absurd rfl h
  | [x], h, _ => by have := h x (List.mem_cons_self ..); simpa using this
  | x :: y :: r, h, _ => by
    have h1 := h x (List.mem_cons_self ..)
    have h2 := sum_pos (l := y :: r) (fun z hz => h z (List.mem_cons_of_mem _ hz)) (by simp)
    rw [List.sum_cons]; omega
theorem cmpHT_n {a b : HT} (h : cmpHT a b < 0) : b.n ≤ a.n := by
  unfold cmpHT Lib.compareInt at h
  by_cases h1 : b.n < a.n
  · omega
  · by_cases h2 : b.n > a.n
    · rw [if_neg h1, if_pos h2, if_pos (by decide)] at h; omega
    · omega
/-- The text of a page of a state. -/
def textT (s : STM) (t : TT) : List UInt8 := ((s.pages.find? (atM t.1 t.2)).map fun p => (curM p.hist).text).getD []
theorem hit_in {l : List WR} {ps : List PG} {q : List UInt8} {z : HT} (h : z ∈ findT l ps q) : (ps.any fun p => decide (p.sp = z.sp ∧ p.nm = z.nm)) = true := by
  obtain ⟨_, ⟨p, hp, he⟩, _⟩ := (findT_mem l ps q z).1 h
  obtain ⟨e1, e2⟩ := Prod.mk.inj he
  exact List.any_eq_true.2 ⟨p, hp, decide_eq_true ⟨e1, e2⟩⟩
theorem hit_pos {s : STM} (hs : PgS s) {ps : List PG} {q : List UInt8} {z : HT} (h : z ∈ findT (buildT s.pl) ps q) : 1 ≤ z.n := by
  obtain ⟨hq, _, ha, hn⟩ := (findT_mem _ ps q z).1 h
  rw [hn]
  unfold scoreT
  refine sum_pos (fun x hx => ?_) (by simpa using hq)
  obtain ⟨w, hw, rfl⟩ := List.mem_map.1 hx
  have h1 := List.all_eq_true.1 (show ((queryT q).all fun w => (firstN (buildT s.pl) (w, (pgOf (z.sp, z.nm)).sp, (pgOf (z.sp, z.nm)).nm)).isSome) = true from ha) w hw
  cases hf : firstN (buildT s.pl) (w, (pgOf (z.sp, z.nm)).sp, (pgOf (z.sp, z.nm)).nm) with
  | none => rw [hf] at h1; cases h1
  | some n =>
    obtain ⟨r, hr, hrn⟩ := firstN_mem hf
    have := (buildT_n hs hr).1
    show 1 ≤ n
    omega
theorem complete_law {s : STM} (hv : validST s.pl = true) {ps : List PG} (hsub : ps.Sublist (s.pages.map pgOfM)) (q : List UInt8) (t : TT) :
    ((findT (buildT s.pl) ps q).any fun z => decide (z.sp = t.1 ∧ z.nm = t.2)) = ((ps.any fun p => decide (p.sp = t.1 ∧ p.nm = t.2)) && containsT (t.2 ++ [32] ++ textT s t) q) := by
  obtain ⟨_, _, vk⟩ := valid_iff.1 hv
  have key : ∀ p0 ∈ ps, (p0.sp, p0.nm) = t → ∀ w, (firstN (buildT s.pl) (w, t.1, t.2)).isSome = true ↔ w ∈ wordsS (t.2 ++ [32] ++ textT s t) := by
    intro p0 hp0 he w
    obtain ⟨pm, hpm, rfl⟩ := List.mem_map.1 (hsub.subset hp0)
    have e1 : pm.sp = t.1 := congrArg Prod.fst he
    have e2 : pm.nm = t.2 := congrArg Prod.snd he
    have hsame : ∀ p ∈ s.pages, p.sp = t.1 → p.nm = t.2 → p.pl = pm.pl := fun p hp h1 h2 => same_title vk.asc (List.mem_map.2 ⟨p, hp, rfl⟩) (List.mem_map.2 ⟨pm, hpm, rfl⟩) (h1.trans e1.symm) (h2.trans e2.symm)
    have hcur : ∀ p ∈ s.pages, p.sp = t.1 → p.nm = t.2 → (curM p.hist).text = (curM pm.hist).text := fun p hp h1 h2 => by
      have := congrArg SP.hist (hsame p hp h1 h2)
      have h3 : p.hist = pm.hist := this
      rw [h3]
    have htx : textT s t = (curM pm.hist).text := by
      unfold textT
      cases hf : s.pages.find? (atM t.1 t.2) with
      | none =>
        have := List.find?_eq_none.1 hf pm hpm
        exact absurd (decide_eq_true ⟨e1, e2⟩) this
      | some p' =>
        have h1 := of_decide_eq_true (show decide (p'.sp = t.1 ∧ p'.nm = t.2) = true from by have := List.find?_some hf; exact this)
        exact hcur p' (List.mem_of_find?_eq_some hf) h1.1 h1.2
    rw [htx, wordsS_cat 32 (by decide), ← wordsS_cat 10 (by decide), firstN_isSome]
    constructor
    · rintro ⟨r, hr, hre⟩
      obtain ⟨p, hp, hr⟩ := buildT_mem.1 hr
      obtain ⟨p', hp', rfl⟩ := List.mem_map.1 (show p ∈ s.pages.map PGM.pl from hp)
      obtain ⟨w', hw', rfl⟩ := rowsT_mem.1 (show r ∈ rowsT p'.sp p'.nm (curM p'.hist).text from hr)
      obtain ⟨a1, a2⟩ := Prod.mk.inj hre
      obtain ⟨a2, a3⟩ := Prod.mk.inj a2
      rw [← a1, ← hcur p' hp' a2 a3, ← a3]
      exact hw'
    · intro hw
      refine ⟨⟨w, pm.sp, pm.nm, ((wordsS (pm.nm ++ [10] ++ (curM pm.hist).text)).count w : Int)⟩, buildT_mem.2 ⟨pm.pl, List.mem_map.2 ⟨pm, hpm, rfl⟩, ?_⟩, by dsimp only; rw [e1, e2]⟩
      show _ ∈ rowsT pm.sp pm.nm (curM pm.hist).text
      exact rowsT_mem.2 ⟨w, by rw [e2]; exact hw, rfl⟩
  rw [Bool.eq_iff_iff, Bool.and_eq_true, List.any_eq_true, List.any_eq_true]
  constructor
  · rintro ⟨z, hz, hzt⟩
    have hzt := of_decide_eq_true hzt
    obtain ⟨hq, ⟨p, hp, he⟩, ha, _⟩ := (findT_mem _ ps q z).1 hz
    have ht : (z.sp, z.nm) = t := Prod.ext hzt.1 hzt.2
    rw [ht] at he ha
    refine ⟨⟨p, hp, decide_eq_true ⟨congrArg Prod.fst he, congrArg Prod.snd he⟩⟩, ?_⟩
    have hk := key p hp he
    unfold containsT
    rw [Bool.and_eq_true, Bool.not_eq_true', decide_eq_false_iff_not, List.all_eq_true]
    refine ⟨fun e => hq ?_, fun w hw => decide_eq_true ((hk w).1 ?_)⟩
    · refine List.eq_nil_iff_forall_not_mem.2 fun w hw => ?_
      have := (queryT_mem q w).1 hw
      rw [e] at this; cases this
    · exact List.all_eq_true.1 ha w ((queryT_mem q w).2 hw)
  · rintro ⟨⟨p, hp, hpe⟩, hc⟩
    have hpe := of_decide_eq_true hpe
    have he : (p.sp, p.nm) = t := Prod.ext hpe.1 hpe.2
    have hk := key p hp he
    unfold containsT at hc
    rw [Bool.and_eq_true, Bool.not_eq_true', decide_eq_false_iff_not, List.all_eq_true] at hc
    refine ⟨⟨t.1, t.2, scoreT (buildT s.pl) (queryT q) (pgOf t)⟩, (findT_mem _ ps q _).2 ⟨fun e => hc.1 ?_, ⟨p, hp, he⟩, ?_, rfl⟩, decide_eq_true ⟨rfl, rfl⟩⟩
    · refine List.eq_nil_iff_forall_not_mem.2 fun w hw => ?_
      have := (queryT_mem q w).2 hw
      rw [e] at this; cases this
    · exact List.all_eq_true.2 fun w hw => (hk w).2 (of_decide_eq_true (hc.2 w ((queryT_mem q w).1 hw)))
end Go.X
namespace Go.Proofs
open Go Go.X
set_option maxRecDepth 100000
set_option maxHeartbeats 4000000
theorem contains_ok (x q : List UInt8) (hx : x.length ≤ 100000) (hq : q.length ≤ 100000) : FnS Tryz.prog 31 [.c (.s x), .c (.s q)] [] [] (Is (.c (.b (containsT x q)))) := by
  have c1 := refWords35_ok q (by omega)
  have c2 := refWords35_ok x (by omega)
  have l1 := wordsR_len q []
  have l2 := wordsR_len x []
  have hR : containsT x q = (!decide (wordsS q = []) && (wordsS q).all fun w => decide (w ∈ wordsS x)) := rfl
  change (wordsS q).length ≤ _ at l1
  change (wordsS x).length ≤ _ at l2
  generalize containsT x q = R at *
  generalize wordsS q = A at *
  generalize wordsS x = B at *
  refine fn_of_J Tryz.tyOK 0 Tryz.func31 (by kernel_rfl) (c := Tryz.f31.body.getD .skip) (by kernel_rfl) Tryz.ntmps31 (rs := Tryz.f31.results.toList) rfl (by simp) (fun G => ?_)
  repeat' first | refine J_seq ?_ | refine J_region Tryz.tyOK ?_ | refine J_block ?_ | refine J_cond ?_ | refine J_ret ?_ | refine J_skip ?_ | refine J_exit ?_ | refine J_scope ?_ | refine CondP.y ?_ | refine CondP.n ?_ | refine CondP.mk (fun h => ?_) (fun h => ?_) | refine EqP.mk rfl ?_ | refine NewP.mk (fun ad => ?_) | refine ArP.x ?_ | refine SideP.a ?_ | (refine CallP.mk [] _ [] _ c1 (List.Perm.refl _) (fun _ _ => trivial) (fun v L' D' hq => ?_); obtain ⟨a1, k1, rfl, rfl, rfl⟩ := hq) | (refine CallP.mk [] _ [] _ c2 (List.Perm.refl _) (fun _ _ => trivial) (fun v L' D' hq => ?_); obtain ⟨a2, k2, rfl, rfl, rfl⟩ := hq) | fail
  have hra : ∀ L, Reads L [slFact 9 1 a1 A.length (sC A), slFact 9 1 a2 B.length (sC B)] 9 1 a1 A.length (sC A) := fun L => .inr fun m h => h.1
  have ch := fun s => hasS_ok 9 a2 k2 B s (by omega)
  refine J_loop (α := Nat) (fun i => [(5, .c (.sl a1 A.length k1)), (6, .c (.sl a2 B.length k2)), (7, .c (.i .i64 i))]) (fun _ => []) (fun _ => [slFact 9 1 a1 A.length (sC A), slFact 9 1 a2 B.length (sC B)]) 0
    (fun i => i ≤ A.length ∧ R = (!decide (A = []) && (A.drop i).all fun w => decide (w ∈ B))) (fun i => A.length - i) (InFam.mk 0 ⟨Nat.zero_le _, hR⟩ SubE.a (Ents.toFact.trans Ents.toFact)) (fun i hx => ?_)
  clear hR
  obtain ⟨hi, he⟩ := hx
  by_cases hlt : i < A.length
  · have hg := s_get hlt
    rw [List.drop_eq_getElem_cons hlt, List.all_cons] at he
    generalize A[i] = w at *
    have ch := ch w
    have hyes : decide (w ∈ B) = true → R = (!decide (A = []) && (A.drop (i + 1)).all fun w => decide (w ∈ B)) := fun h => by rw [he, h, Bool.true_and]
    have hno : decide (w ∈ B) = false → R = false := fun h => by rw [he, h, Bool.false_and, Bool.and_false]
    clear he
    generalize decide (w ∈ B) = b at *
    repeat' first | refine J_seq ?_ | refine J_region Tryz.tyOK ?_ | refine J_block ?_ | refine J_cond ?_ | refine J_ret ?_ | refine J_skip ?_ | refine J_exit ?_ | refine J_scope ?_ | refine CondP.y ?_ | refine CondP.n ?_ | refine CondP.mk (fun h => ?_) (fun h => ?_) | refine EqP.mk rfl ?_ | refine NewP.mk (fun ad => ?_) | refine ArP.x ?_ | refine SideP.a ?_ | refine IdxE.mk 9 1 _ (hra _) (by omega) (by omega) ?_ | refine LoadE.mk 9 _ _ [.s w] (hra _) (by omega) (by omega) (by omega) (by exact hg) ?_ | refine CallP.isB ch (fun hb => ?_) (fun hb => ?_) (fun _ h => by simp only [allD, allD_append, List.cons_append, List.nil_append, and_true] at h ⊢; simp only [h, and_self]) | refine Round.mk (i + 1) (by omega) ⟨by omega, hyes hb⟩ SubE.a Ents.a | refine FinE.bool (hno hb) | fail
  · have hil : i = A.length := by omega
    rw [hil, List.drop_length] at he
    have he : R = (!decide (A = []) && true) := he
    rw [Bool.and_true] at he
    have h1 : (A.length : Int) > 0 → R = true := fun h => by rw [he, decide_eq_false fun e => by rw [e] at h; exact absurd h (by decide)]; rfl
    have h2 : ¬ (A.length : Int) > 0 → R = false := fun h => by rw [he, decide_eq_true (List.eq_nil_of_length_eq_zero (by omega))]; rfl
    repeat' first | refine J_seq ?_ | refine J_region Tryz.tyOK ?_ | refine J_block ?_ | refine J_cond ?_ | refine J_ret ?_ | refine J_skip ?_ | refine J_exit ?_ | refine J_scope ?_ | refine CondP.y ?_ | refine CondP.n ?_ | refine CondP.mk (fun h => ?_) (fun h => ?_) | refine EqP.mk rfl ?_ | refine NewP.mk (fun ad => ?_) | refine ArP.x ?_ | refine SideP.a ?_ | refine FinE.bool (h1 (by assumption)) | refine FinE.bool (h2 (by assumption)) | fail
end Go.Proofs
