/- This text walks through the function SearchComplete of the statements of chapter 35. -/
import Derived.Test.YthknndkjnglegaaGreatI25
import Derived.Test.YthknndkjnglegaaGreatI08
import Derived.Test.YthknndkjnglegaaGreatI09
set_option linter.all false

namespace Go.X
open Go Go.Lib Go.Proofs
theorem ht_tit {l : List HT} {i : Nat} (h : i < l.length) : ((htC l).drop (i * 3 + 0)).take 2 = [.i .i64 l[i].sp, .s l[i].nm] := by
  rw [htC, flat_get (F := HT.cells) (z := 3) (fun _ => rfl) h (by omega)]; rfl
theorem any_take_succ {α : Type} {p : α → Bool} {l : List α} {i : Nat} (h : i < l.length) : (l.take (i + 1)).any p = ((l.take i).any p || p l[i]) := by
  rw [List.take_succ_eq_append_getElem h, List.any_append]; simp
theorem textV_is (s : STM) (t : TT) : ∃ b, textV (s.pages.find? (atM t.1 t.2)) = .t2 (.c (.s (textT s t))) (.c (.b b)) := by
  unfold textT
  cases s.pages.find? (atM t.1 t.2) with
  | none => exact ⟨false, rfl⟩
  | some p => exact ⟨true, rfl⟩
theorem textT_len {s : STM} (h : PgS s) (t : TT) : (textT s t).length ≤ 10000 := by
  unfold textT
  cases hf : s.pages.find? (atM t.1 t.2) with
  | none => exact Nat.zero_le _
  | some p => have := h.t p (List.mem_of_find?_eq_some hf); show (curM p.hist).text.length ≤ _; omega
/-- The slots of one environment hold what those of another one hold, under other names of boxes. -/
def SubN (env : Env) : Env → Prop
  | [] => True
  | (d, v) :: r => (match look env d with | some v' => v'.enc = v.enc | none => False) ∧ SubN env r
theorem SubN.nil {env : Env} : SubN env [] := trivial
theorem SubN.cons {env : Env} {d : Nat} {v v' : V} {r : Env} (h : look env d = some v') (hv : v'.enc = v.enc) (hr : SubN env r) : SubN env ((d, v) :: r) := by
  refine ⟨?_, hr⟩
  rw [h]
  exact hv
theorem SubN.look {env : Env} : ∀ {env' : Env}, SubN env env' → ∀ d v, X.look env' d = some v → ∃ v', X.look env d = some v' ∧ v'.enc = v.enc
  | (d', v') :: r, h, d, v, hl => by
    obtain ⟨h1, h2⟩ := h
    by_cases hd : d' = d
    · subst hd
      rw [look_cons_same] at hl
      simp only [Option.some.injEq] at hl
      subst hl
      split at h1
      · rename_i u hu
        exact ⟨u, hu, h1⟩
      · exact h1.elim
    · rw [look_cons_ne _ _ hd] at hl
      exact SubN.look h2 d v hl
  | [], _, d, v, hl => by simp [X.look] at hl
theorem SubN.ok {N : Nat} {env env' : Env} (h : SubN env env') {a : Act} (he : EnvOK N env a) : EnvOK N env' a := ⟨he.1, he.2.1, fun d v hl => by
  obtain ⟨v', h1, h2⟩ := h.look d v hl
  rw [← h2]
  exact he.2.2 d v' h1⟩
inductive InFamE {α : Type} (E : α → Env) (LL : α → List Chunk) (DD : α → List Fact) (φ : α → Prop) (env : Env) (L : List Chunk) (D : List Fact) : Prop where
  | mk (x : α) (hφ : φ x) (he : SubN env (E x)) (hE : Ents L D (LL x) (DD x))
def Kt.cutE {α : Type} (E : α → Env) (LL : α → List Chunk) (DD : α → List Fact) (φ : α → Prop) (K : Kt) : Kt := fun e env L D n =>
  match e with
  | .normal => InFamE E LL DD φ env L D
  | e => K e env L D n
theorem J_cutE {P : Program} {G : Ent} {N : Nat} {env : Env} {L : List Chunk} {D : List Fact} {nid : Nat} {K : Kt} {x y : Code} {α : Type} (E : α → Env) (LL : α → List Chunk) (DD : α → List Fact) (n : Nat) (φ : α → Prop) (h : J P G N x env L D nid (Kt.cutE E LL DD φ K))
    (hy : ∀ z, φ z → J P G N y (E z) (LL z) (DD z) n K) : J P G N (.seq x y) env L D nid K :=
  J_seq ⟨fun a w he hs => wp_mono (h.run a w he hs) (by
    rintro e a' w' ⟨env', L', D', n', hk, he', hs'⟩
    cases e with
    | normal =>
      obtain ⟨z, hφ, hez, hEz⟩ := hk
      exact ⟨_, _, _, n, hy z hφ, hez.ok he', hEz G w' hs'⟩
    | exit id => exact ⟨env', L', D', n', hk, he', hs'⟩
    | goto l => exact ⟨env', L', D', n', hk, he', hs'⟩
    | ret => exact ⟨env', L', D', n', hk, he', hs'⟩
    | panic ch => exact ⟨env', L', D', n', hk, he', hs'⟩
    | outgrown => exact ⟨env', L', D', n', hk, he', hs'⟩)⟩
theorem Ents.same {L L' : List Chunk} {D : List Fact} (h : Same L L') : Ents L D L' D := fun G w ⟨m, h1, h2⟩ =>
  ⟨m, ⟨by rw [h.f]; exact h1.nd, (h.ok w).2 h1.ok, fun b o hb => by rw [h.f]; exact h1.im b o hb, h1.d⟩, ⟨h2.size, h2.same, fun b hb => h2.own b (by rw [← h.f]; exact hb), h2.im, h2.new, h2.kept⟩⟩
end Go.X
namespace Go.Proofs
open Go Go.X
set_option maxRecDepth 100000
set_option maxHeartbeats 4000000
theorem titles_okF : FnS Tryz.prog 29 [] [] [] (fun v L D => ∃ a c, v = .c (.sl a 8 c) ∧ L = [] ∧ D = [slFact 50 2 a 8 (ttC genTitles)]) :=
  titles_ok.entsP fun v L D ⟨a, c, h1, h2, h3⟩ => by
    subst h1 h2 h3
    exact ⟨[], _, Ents.toFact, a, c, rfl, rfl, rfl⟩
theorem searchComplete_ok (e1 e2 : Nat) (la qa : Option Addr) (lc qc : Nat) (l q : List Int) (who at0 : Int) (hl : l.length ≤ maxLen) (hq : q.length ≤ maxLen) :
    FnS Tryz.prog 6 [.c (.sl la l.length lc), .c (.sl qa q.length qc), .c (.i .i64 who), .c (.i .i64 at0)] [] [intsF e1 la l, intsF e2 qa q] (Is tt) := by
  have cs := genState_ok e1 la lc l hl
  have cq := query_ok e2 qa qc q hq
  have hql := queryL_len q
  have hr := roundI_range who (n := 4) (by omega)
  have hus := users_get hr.1 hr.2
  have crd := round_ok who 4 (by omega) (by omega)
  have hr8 := roundI_range at0 (n := 8) (by omega)
  have htt := tt_get hr8.1 hr8.2
  have crd8 := round_ok at0 8 (by omega) (by omega)
  have hTl : ∀ k : Nat, k < 8 → (genTitles.getD k (0, [])).2.length ≤ 10 := by decide
  have hTl := hTl (roundI at0 8).toNat (by omega)
  generalize queryL q = Q at *
  generalize usersL.getD (roundI who 4).toNat [] = U at *
  generalize roundI who 4 = w4 at *
  generalize genTitles.getD (roundI at0 8).toNat (0, []) = T at *
  generalize roundI at0 8 = w8 at *
  refine fn_of_J Tryz.tyOK 0 Tryz.func6 (by kernel_rfl) (c := Tryz.f6.body.getD .skip) (by kernel_rfl) Tryz.ntmps6 (rs := Tryz.f6.results.toList) rfl (by simp) (fun G => ?_)
  repeat' first | refine J_stop (c := .seq (.region 2 _ _) _) ?_ | refine J_seq ?_ | refine J_region Tryz.tyOK ?_ | refine J_block ?_ | refine J_cond ?_ | refine J_ret ?_ | refine J_skip ?_ | refine J_exit ?_ | refine J_scope ?_ | refine CondP.y ?_ | refine CondP.n ?_ | refine CondP.mk (fun h => ?_) (fun h => ?_) | refine EqP.mk rfl ?_ | refine NewP.mk (fun ad => ?_) | refine ArP.x ?_ | refine SideP.a ?_ | (refine CallP.mk [] _ [intsF e1 la l] _ cs (List.Perm.refl _) (fun _ h => by simp only [allD, allD_append, List.cons_append, List.nil_append, and_true] at h ⊢; simp only [h, and_self]) (fun v L' D' hq => ?_); obtain ⟨s, rfl, hr15, rfl, rfl⟩ := hq) | fail
  refine ⟨?_⟩
  have hval := hr15.valid
  obtain ⟨hps, hsb⟩ := valid_pgs hval
  have cv := view31_ok s U hps hsb
  have cb := FnS.rf (build_ok s hps)
  have hbl := buildT_len s hps
  have hbn := fun r hr => buildT_n hps (r := r) hr
  have cx := text27_ok s T.1 T.2 hsb
  have hxl := textT_len hps T
  obtain ⟨tb, htb⟩ := textV_is s T
  rw [htb] at cx
  clear htb
  have hcl := fun ps hsub => complete_law hval (ps := ps) hsub Q T
  have hhp := fun ps z hz => hit_pos hps (ps := ps) (q := Q) (z := z) hz
  generalize buildT s.pl = X at *
  generalize textT s T = Tx at *
  refine J_cutE (x := .region 2 _ _) (α := List PG × Option Addr × Nat × VT × Nat × Nat) (fun z => [(1, .c (.sl qa q.length qc)), (9, .c (.p 0 ad 0)), (10, .c (.p 1 z.2.2.2.2.1 0)), (11, .c (.p 2 z.2.2.2.2.2 0))]) (fun z => [.box 2 z.2.2.2.2.2 50 [.i .i64 T.1, .s T.2], .box 1 z.2.2.2.2.1 32 [.sl z.2.1 z.1.length z.2.2.1, slK z.2.2.2.1.gs, slK z.2.2.2.1.rs, slK z.2.2.2.1.us, slK z.2.2.2.1.gp, .i .i64 z.2.2.2.1.ck, slK z.2.2.2.1.fx], .box 0 ad 42 s.cells]) (fun z => [slFact 0 4 z.2.1 z.1.length (pgC z.1), stF s, intsF e2 qa q]) 3 (fun z => z.1.Sublist (s.pages.map pgOfM)) ?_ (fun z hz => ?_)
  · clear hcl hhp hbn hbl cb cx hxl hTl hsb hr15 hval hql
    repeat' first | refine TwoP.mk ?_ ?_ | refine EntP.mk Ents.a ?_ | refine NewP.mk (fun ad => ?_) | refine EqP.mk rfl ?_ | refine CallQ.mk [] _ crd (fun _ _ => trivial) ?_ | refine CallQ.mk [] _ crd8 (fun _ _ => trivial) ?_ | refine IdxE.mk 9 1 (sC usersL) (.inr fun m h => h.1) (by omega) (by omega) ?_ | refine LoadE.mk 9 _ _ [.s U] (.inr fun m h => h.1) (by omega) (by omega) (by omega) (by exact hus) ?_ | (refine CallP.mk [] _ [stF s] _ cv (List.Perm.refl _) (fun _ h => by simp only [allD, allD_append, List.cons_append, List.nil_append, and_true] at h ⊢; simp only [h, and_self]) (fun v L' D' hq => ?_); obtain ⟨ps, pa, pc, vt, hsub, rfl, rfl, rfl⟩ := hq) | (refine CallP.mk [] _ [] _ users_ok (List.Perm.refl _) (fun _ _ => trivial) (fun v L' D' hq => ?_); obtain ⟨ua, uc, rfl, rfl, rfl⟩ := hq) | (refine CallP.mk [] _ [] _ titles_okF (List.Perm.refl _) (fun _ _ => trivial) (fun v L' D' hq => ?_); obtain ⟨ta, tc, rfl, rfl, rfl⟩ := hq) | refine IdxE.mk 50 2 (ttC genTitles) (.inr fun m h => h.1) (by omega) (by omega) ?_ | refine LoadE.mk 50 _ _ [.i .i64 T.1, .s T.2] (.inr fun m h => h.1) (by omega) (by omega) (by omega) (by exact htt) ?_ | refine InFamE.mk (ps, pa, pc, vt, _, _) hsub (SubN.cons rfl rfl (SubN.cons rfl rfl (SubN.cons rfl rfl (SubN.cons rfl rfl SubN.nil)))) (by first | exact Ents.facts (fun _ h => by simp only [allD, allD_append, List.cons_append, List.nil_append, and_true] at h ⊢; simp only [h, and_self]) | exact (Ents.facts (D' := [slFact 0 4 pa ps.length (pgC ps), stF s, intsF e2 qa q]) (fun _ h => by simp only [allD, allD_append, List.cons_append, List.nil_append, and_true] at h ⊢; simp only [h, and_self])).trans ((Ents.perm (List.Perm.swap _ _ _)).trans (Ents.same ⟨rfl, fun _ => Iff.rfl⟩))) | refine J_drawP (id := 2) Tryz.tyOK (by kernel_rfl) [0, 0, 0, 6, 14, 30, 63, 127, 0, 511, 1023, 2047, 0, 0, 13311, 32767] (.node3 [0, 2, 8] 1 (.node3 [3] 4 (.node3 [] 5 (.node3 [] 6 (.node3 [] 7 (.node3 [9] 10 (.node3 [] 11 (.node [] 12 (.leaf [13, 14, 15]) 13 (.leaf [12, 14, 15])) 12 (.node [] 11 (.leaf [13, 14, 15]) 13 (.node [] 11 (.leaf [14, 15]) 14 (.leaf [11, 15]))) 13 (.node [] 11 (.leaf [12, 14, 15]) 12 (.node [] 11 (.leaf [14, 15]) 14 (.leaf [11, 15])))) 12 (.node [] 10 (.node [] 11 (.leaf [13, 14, 15]) 13 (.node [] 11 (.leaf [14, 15]) 14 (.leaf [11, 15]))) 13 (.node [] 10 (.node [] 11 (.leaf [14, 15]) 14 (.leaf [11, 15])) 14 (.leaf [10, 11, 15]))) 13 (.node [] 10 (.node [] 11 (.leaf [12, 14, 15]) 12 (.node [] 11 (.leaf [14, 15]) 14 (.leaf [11, 15]))) 12 (.node [] 10 (.node [] 11 (.leaf [14, 15]) 14 (.leaf [11, 15])) 14 (.leaf [10, 11, 15])))) 12 (.node [] 7 (.node [9] 10 (.node [] 11 (.leaf [13, 14, 15]) 13 (.node [] 11 (.leaf [14, 15]) 14 (.leaf [11, 15]))) 13 (.node [] 10 (.node [] 11 (.leaf [14, 15]) 14 (.leaf [11, 15])) 14 (.leaf [10, 11, 15]))) 13 (.node [7, 9] 10 (.node [] 11 (.leaf [14, 15]) 14 (.leaf [11, 15])) 14 (.leaf [10, 11, 15]))) 13 (.node [] 7 (.node [9] 10 (.node [] 11 (.leaf [12, 14, 15]) 12 (.node [] 11 (.leaf [14, 15]) 14 (.leaf [11, 15]))) 12 (.node [] 10 (.node [] 11 (.leaf [14, 15]) 14 (.leaf [11, 15])) 14 (.leaf [10, 11, 15]))) 12 (.node [7, 9] 10 (.node [] 11 (.leaf [14, 15]) 14 (.leaf [11, 15])) 14 (.leaf [10, 11, 15])))) 12 (.node [] 6 (.node [] 7 (.node [9] 10 (.node [] 11 (.leaf [13, 14, 15]) 13 (.node [] 11 (.leaf [14, 15]) 14 (.leaf [11, 15]))) 13 (.node [] 10 (.node [] 11 (.leaf [14, 15]) 14 (.leaf [11, 15])) 14 (.leaf [10, 11, 15]))) 13 (.node [7, 9] 10 (.node [] 11 (.leaf [14, 15]) 14 (.leaf [11, 15])) 14 (.leaf [10, 11, 15]))) 13 (.node [6, 7, 9] 10 (.node [] 11 (.leaf [14, 15]) 14 (.leaf [11, 15])) 14 (.leaf [10, 11, 15]))) 13 (.node [] 6 (.node [] 7 (.node [9] 10 (.node [] 11 (.leaf [12, 14, 15]) 12 (.node [] 11 (.leaf [14, 15]) 14 (.leaf [11, 15]))) 12 (.node [] 10 (.node [] 11 (.leaf [14, 15]) 14 (.leaf [11, 15])) 14 (.leaf [10, 11, 15]))) 12 (.node [7, 9] 10 (.node [] 11 (.leaf [14, 15]) 14 (.leaf [11, 15])) 14 (.leaf [10, 11, 15]))) 12 (.node [6, 7, 9] 10 (.node [] 11 (.leaf [14, 15]) 14 (.leaf [11, 15])) 14 (.leaf [10, 11, 15])))) 12 (.node [] 5 (.node [] 6 (.node [] 7 (.node [9] 10 (.node [] 11 (.leaf [13, 14, 15]) 13 (.node [] 11 (.leaf [14, 15]) 14 (.leaf [11, 15]))) 13 (.node [] 10 (.node [] 11 (.leaf [14, 15]) 14 (.leaf [11, 15])) 14 (.leaf [10, 11, 15]))) 13 (.node [7, 9] 10 (.node [] 11 (.leaf [14, 15]) 14 (.leaf [11, 15])) 14 (.leaf [10, 11, 15]))) 13 (.node [6, 7, 9] 10 (.node [] 11 (.leaf [14, 15]) 14 (.leaf [11, 15])) 14 (.leaf [10, 11, 15]))) 13 (.node [5, 6, 7, 9] 10 (.node [] 11 (.leaf [14, 15]) 14 (.leaf [11, 15])) 14 (.leaf [10, 11, 15]))) 13 (.node [] 5 (.node [] 6 (.node [] 7 (.node [9] 10 (.node [] 11 (.leaf [12, 14, 15]) 12 (.node [] 11 (.leaf [14, 15]) 14 (.leaf [11, 15]))) 12 (.node [] 10 (.node [] 11 (.leaf [14, 15]) 14 (.leaf [11, 15])) 14 (.leaf [10, 11, 15]))) 12 (.node [7, 9] 10 (.node [] 11 (.leaf [14, 15]) 14 (.leaf [11, 15])) 14 (.leaf [10, 11, 15]))) 12 (.node [6, 7, 9] 10 (.node [] 11 (.leaf [14, 15]) 14 (.leaf [11, 15])) 14 (.leaf [10, 11, 15]))) 12 (.node [5, 6, 7, 9] 10 (.node [] 11 (.leaf [14, 15]) 14 (.leaf [11, 15])) 14 (.leaf [10, 11, 15])))) 12 (.node [] 4 (.node [] 5 (.node [] 6 (.node [] 7 (.node [9] 10 (.node [] 11 (.leaf [13, 14, 15]) 13 (.node [] 11 (.leaf [14, 15]) 14 (.leaf [11, 15]))) 13 (.node [] 10 (.node [] 11 (.leaf [14, 15]) 14 (.leaf [11, 15])) 14 (.leaf [10, 11, 15]))) 13 (.node [7, 9] 10 (.node [] 11 (.leaf [14, 15]) 14 (.leaf [11, 15])) 14 (.leaf [10, 11, 15]))) 13 (.node [6, 7, 9] 10 (.node [] 11 (.leaf [14, 15]) 14 (.leaf [11, 15])) 14 (.leaf [10, 11, 15]))) 13 (.node [5, 6, 7, 9] 10 (.node [] 11 (.leaf [14, 15]) 14 (.leaf [11, 15])) 14 (.leaf [10, 11, 15]))) 13 (.node [4, 5, 6, 7, 9] 10 (.node [] 11 (.leaf [14, 15]) 14 (.leaf [11, 15])) 14 (.leaf [10, 11, 15]))) 13 (.node [] 4 (.node [] 5 (.node [] 6 (.node [] 7 (.node [9] 10 (.node [] 11 (.leaf [12, 14, 15]) 12 (.node [] 11 (.leaf [14, 15]) 14 (.leaf [11, 15]))) 12 (.node [] 10 (.node [] 11 (.leaf [14, 15]) 14 (.leaf [11, 15])) 14 (.leaf [10, 11, 15]))) 12 (.node [7, 9] 10 (.node [] 11 (.leaf [14, 15]) 14 (.leaf [11, 15])) 14 (.leaf [10, 11, 15]))) 12 (.node [6, 7, 9] 10 (.node [] 11 (.leaf [14, 15]) 14 (.leaf [11, 15])) 14 (.leaf [10, 11, 15]))) 12 (.node [5, 6, 7, 9] 10 (.node [] 11 (.leaf [14, 15]) 14 (.leaf [11, 15])) 14 (.leaf [10, 11, 15]))) 12 (.node [4, 5, 6, 7, 9] 10 (.node [] 11 (.leaf [14, 15]) 14 (.leaf [11, 15])) 14 (.leaf [10, 11, 15])))) 12 (.node [] 1 (.node [3] 4 (.node [] 5 (.node [] 6 (.node [] 7 (.node [9] 10 (.node [] 11 (.leaf [13, 14, 15]) 13 (.node [] 11 (.leaf [14, 15]) 14 (.leaf [11, 15]))) 13 (.node [] 10 (.node [] 11 (.leaf [14, 15]) 14 (.leaf [11, 15])) 14 (.leaf [10, 11, 15]))) 13 (.node [7, 9] 10 (.node [] 11 (.leaf [14, 15]) 14 (.leaf [11, 15])) 14 (.leaf [10, 11, 15]))) 13 (.node [6, 7, 9] 10 (.node [] 11 (.leaf [14, 15]) 14 (.leaf [11, 15])) 14 (.leaf [10, 11, 15]))) 13 (.node [5, 6, 7, 9] 10 (.node [] 11 (.leaf [14, 15]) 14 (.leaf [11, 15])) 14 (.leaf [10, 11, 15]))) 13 (.node [4, 5, 6, 7, 9] 10 (.node [] 11 (.leaf [14, 15]) 14 (.leaf [11, 15])) 14 (.leaf [10, 11, 15]))) 13 (.node [1, 3, 4, 5, 6, 7, 9] 10 (.node [] 11 (.leaf [14, 15]) 14 (.leaf [11, 15])) 14 (.leaf [10, 11, 15]))) 13 (.node [] 1 (.node [3] 4 (.node [] 5 (.node [] 6 (.node [] 7 (.node [9] 10 (.node [] 11 (.leaf [12, 14, 15]) 12 (.node [] 11 (.leaf [14, 15]) 14 (.leaf [11, 15]))) 12 (.node [] 10 (.node [] 11 (.leaf [14, 15]) 14 (.leaf [11, 15])) 14 (.leaf [10, 11, 15]))) 12 (.node [7, 9] 10 (.node [] 11 (.leaf [14, 15]) 14 (.leaf [11, 15])) 14 (.leaf [10, 11, 15]))) 12 (.node [6, 7, 9] 10 (.node [] 11 (.leaf [14, 15]) 14 (.leaf [11, 15])) 14 (.leaf [10, 11, 15]))) 12 (.node [5, 6, 7, 9] 10 (.node [] 11 (.leaf [14, 15]) 14 (.leaf [11, 15])) 14 (.leaf [10, 11, 15]))) 12 (.node [4, 5, 6, 7, 9] 10 (.node [] 11 (.leaf [14, 15]) 14 (.leaf [11, 15])) 14 (.leaf [10, 11, 15]))) 12 (.node [1, 3, 4, 5, 6, 7, 9] 10 (.node [] 11 (.leaf [14, 15]) 14 (.leaf [11, 15])) 14 (.leaf [10, 11, 15])))) [1, 4, 5, 6, 7, 10, 11, 12, 13, 14, 15] [9, 23, 29] 15 false (by kernel_rfl) ?_ | refine TwoP.mk ?_ ?_ | refine J_drawS (id := 3) Tryz.tyOK (by kernel_rfl) [0, 1, 0, 0, 11, 31, 63] [0, 1, 2, 3, 4, 5, 6] [] [9, 10] false (by kernel_rfl) ?_ | refine J_drawS (id := 8) Tryz.tyOK (by kernel_rfl) [0, 0, 0, 6, 14, 30, 63, 127, 255, 511, 511, 2047, 4095, 8191, 16383, 32767, 65535, 131071, 262143, 524287, 1048575, 1048575, 4194303, 8388607, 16777215, 1048575, 1048575, 68157439, 235929599, 504365055, 1041235967, 2147483647, 4294967295, 8589934591] [0, 1, 2, 3, 4, 5, 6, 7, 8, 9, 10, 11, 12, 13, 14, 15, 16, 17, 18, 19, 20, 21, 22, 23, 24, 25, 26, 27, 28, 29, 30, 31, 32, 33] [] [10, 46, 54, 65, 71] false (by kernel_rfl) ?_ | refine J_drawS (id := 10) Tryz.tyOK (by kernel_rfl) [0, 1, 3, 3, 15, 31, 63, 3, 255, 511, 1023] [0, 1, 2, 3, 4, 5, 6, 7, 8, 9, 10] [] [11, 81] false (by kernel_rfl) ?_ | refine J_drawS (id := 12) Tryz.tyOK (by kernel_rfl) [0, 1, 3, 3, 3, 27, 59, 123, 251, 507, 123, 2043, 123, 4219, 16379, 32763, 65535, 131071, 262143] [0, 1, 2, 3, 4, 5, 6, 7, 8, 9, 10, 11, 12, 13, 14, 15, 16, 17, 18] [] [10, 11] false (by kernel_rfl) ?_ | refine EntP.mk Ents.a ?_ | fail
  obtain ⟨ps, pa, pc, vt, ad1, ad2⟩ := z
  have hsub : ps.Sublist (s.pages.map pgOfM) := hz
  have hpl : ps.length ≤ 200 := by have := hsub.length_le; rw [List.length_map] at this; have := hps.n; omega
  dsimp only
  have hcl := hcl ps hsub
  have hhp := hhp ps
  have hin := fun z hz => hit_in (l := X) (ps := ps) (q := Q) (z := z) hz
  have hso := findT_str X ps Q
  have hFl := findT_len X ps Q
  have cF := fun xa xc => FnS.hf (find_ok 60 0 xa pa xc pc X ps vt Q (by omega) (fun r hr => by have := hbn r hr; omega) (by omega) (by omega))
  have cI := in33_ok 0 pa pc ps vt T.1 T.2 (by omega)
  have cC := contains_ok (T.2 ++ [32] ++ Tx) Q (by simp only [List.length_append, List.length_cons, List.length_nil]; omega) (by omega)
  clear cs cv hus crd crd8 htt hbn hval
  generalize findT X ps Q = F at *
  generalize containsT (T.2 ++ [32] ++ Tx) Q = ctB at *
  repeat' first | refine J_stop (c := .seq (.region 4 _ _) _) ?_ | refine J_seq ?_ | refine J_region Tryz.tyOK ?_ | refine J_block ?_ | refine J_cond ?_ | refine J_ret ?_ | refine J_skip ?_ | refine J_exit ?_ | refine J_scope ?_ | refine CondP.y ?_ | refine CondP.n ?_ | refine CondP.mk (fun h => ?_) (fun h => ?_) | refine EqP.mk rfl ?_ | refine NewP.mk (fun ad => ?_) | refine ArP.x ?_ | refine SideP.a ?_ | refine J_drawT (id := 2) Tryz.tyOK (by kernel_rfl) [0, 0, 0, 6, 14, 30, 63, 127, 0, 511, 1023, 2047, 0, 0, 13311, 32767] [0, 1, 2, 3, 4, 5, 6, 7, 8, 9, 10, 11] 12 [13, 14, 15] 13 [12, 14, 15] [12, 13, 14, 15] [9, 23, 29] 15 false (by kernel_rfl) ?_ | refine TwoP.mk ?_ ?_ | refine J_drawS (id := 3) Tryz.tyOK (by kernel_rfl) [0, 1, 0, 0, 11, 31, 63] [0, 2, 3, 1, 4, 5, 6] [1, 4, 5] [9, 10] false (by kernel_rfl) ?_ | refine J_drawS (id := 8) Tryz.tyOK (by kernel_rfl) [0, 0, 0, 6, 14, 30, 63, 127, 255, 511, 511, 2047, 4095, 8191, 16383, 32767, 65535, 131071, 262143, 524287, 1048575, 1048575, 4194303, 8388607, 16777215, 1048575, 1048575, 68157439, 235929599, 504365055, 1041235967, 2147483647, 4294967295, 8589934591] [0, 1, 2, 3, 4, 5, 6, 7, 8, 9, 10, 11, 12, 13, 14, 15, 16, 17, 18, 19, 20, 21, 22, 23, 24, 25, 26, 27, 28, 29, 30, 31, 32, 33] [] [10, 46, 54, 65, 71] false (by kernel_rfl) ?_ | refine J_drawS (id := 10) Tryz.tyOK (by kernel_rfl) [0, 1, 3, 3, 15, 31, 63, 3, 255, 511, 1023] [0, 1, 2, 3, 4, 5, 6, 7, 8, 9, 10] [] [11, 81] false (by kernel_rfl) ?_ | refine J_drawS (id := 12) Tryz.tyOK (by kernel_rfl) [0, 1, 3, 3, 3, 27, 59, 123, 251, 507, 123, 2043, 123, 4219, 16379, 32763, 65535, 131071, 262143] [0, 1, 2, 3, 4, 5, 6, 7, 8, 9, 10, 11, 12, 13, 14, 15, 16, 17, 18] [13] [10, 11] false (by kernel_rfl) ?_ | refine EntP.mk Ents.a ?_ | (refine CallP.mk [] _ [stF s] _ cb (List.Perm.refl _) (fun _ h => by simp only [allD, allD_append, List.cons_append, List.nil_append, and_true] at h ⊢; simp only [h, and_self]) (fun v L' D' hq => ?_); obtain ⟨xa, xc, rfl, rfl, rfl⟩ := hq) | refine CallP.is cq ?_ (fun _ h => by simp only [allD, allD_append, List.cons_append, List.nil_append, and_true] at h ⊢; simp only [h, and_self]) | (refine CallP.mk [] _ [slFact 60 4 xa X.length (wrC X), slFact 0 4 pa ps.length (pgC ps)] _ (cF _ _) (List.Perm.refl _) (fun _ h => by simp only [allD, allD_append, List.cons_append, List.nil_append, and_true] at h ⊢; simp only [h, and_self]) (fun v L' D' hq => ?_); obtain ⟨ha, hc, rfl, rfl, rfl⟩ := hq) | fail
  refine ⟨?_⟩
  repeat' first | refine J_seq ?_ | refine J_region Tryz.tyOK ?_ | refine J_block ?_ | refine J_cond ?_ | refine J_ret ?_ | refine J_skip ?_ | refine J_exit ?_ | refine J_scope ?_ | refine CondP.y ?_ | refine CondP.n ?_ | refine CondP.mk (fun h => ?_) (fun h => ?_) | refine EqP.mk rfl ?_ | refine NewP.mk (fun ad => ?_) | refine ArP.x ?_ | refine SideP.a ?_ | fail
  have hrd : ∀ L, Reads L [slFact 52 3 ha F.length (htC F), slFact 0 4 pa ps.length (pgC ps), stF s, intsF e2 qa q] 52 3 ha F.length (htC F) := fun L => .inr fun m h => h.1
  refine J_loop (α := Nat × Bool) (fun x => [(1, .c (.sl qa q.length qc)), (9, .c (.p 0 ad 0)), (10, .c (.p 1 ad1 0)), (11, .c (.p 2 ad2 0)), (12, .c (.sl ha F.length hc)), (13, .c (.b x.2)), (14, .c (.i .i64 x.1))]) (fun _ => [.box 2 ad2 50 [.i .i64 T.1, .s T.2], .box 1 ad1 32 [.sl pa ps.length pc, slK vt.gs, slK vt.rs, slK vt.us, slK vt.gp, .i .i64 vt.ck, slK vt.fx], .box 0 ad 42 s.cells]) (fun _ => [slFact 52 3 ha F.length (htC F), slFact 0 4 pa ps.length (pgC ps), stF s, intsF e2 qa q]) 3
    (fun x => x.1 ≤ F.length ∧ x.2 = (F.take x.1).any fun z => decide (z.sp = T.1 ∧ z.nm = T.2)) (fun x => F.length - x.1) (InFam.mk (0, false) ⟨Nat.zero_le _, rfl⟩ SubE.a (Ents.facts (fun _ h => by simp only [allD, allD_append, List.cons_append, List.nil_append, and_true] at h ⊢; simp only [h, and_self]))) (fun x hx => ?_)
  clear cb cF
  obtain ⟨i, fb⟩ := x
  dsimp only at hx ⊢
  obtain ⟨hi, hfb⟩ := hx
  by_cases hlt : i < F.length
  · have hg := ht_tit hlt
    have hg2 := htl_n hlt
    have hmem : F[i] ∈ F := List.getElem_mem hlt
    have hx1 := hhp F[i] hmem
    have hxin := hin F[i] hmem
    have hat := any_take_succ (p := fun z : HT => decide (z.sp = T.1 ∧ z.nm = T.2)) hlt
    rw [← hfb] at hat
    have ci := in33_ok 0 pa pc ps vt F[i].sp F[i].nm (by omega)
    rw [hxin] at ci
    have hprev : ∀ k, i = k + 1 → ∃ y : HT, F[i].n ≤ y.n ∧ ((htC F).drop (((((k + 1 : Nat) : Int)) - 1).toNat * 3 + 2)).take 1 = [.i .i64 y.n] := fun k hk => by
      have hk2 : k < F.length := by omega
      refine ⟨F[k], cmpHT_n (List.pairwise_iff_getElem.1 hso k i hk2 hlt (by omega)), ?_⟩
      rw [show (((k + 1 : Nat) : Int) - 1).toNat = k by omega]
      exact htl_n hk2
    clear hcl hso hfb hin hhp cI cC cx cq
    generalize F[i] = x at *
    have hyes : (x.sp = T.1 ∧ x.nm = T.2 ∧ True) → true = (F.take (i + 1)).any fun z => decide (z.sp = T.1 ∧ z.nm = T.2) := fun h => by rw [hat, decide_eq_true ⟨h.1, h.2.1⟩, Bool.or_true]
    have hno : ¬ (x.sp = T.1 ∧ x.nm = T.2 ∧ True) → fb = (F.take (i + 1)).any fun z => decide (z.sp = T.1 ∧ z.nm = T.2) := fun h => by rw [hat, decide_eq_false fun e => h ⟨e.1, e.2, trivial⟩, Bool.or_false]
    have hkp : fb = true → true = (F.take (i + 1)).any fun z => decide (z.sp = T.1 ∧ z.nm = T.2) := fun h => by rw [hat, h, Bool.true_or]
    clear hat
    cases i with
    | zero =>
      clear hprev
      cases fb
      all_goals
        repeat' first | refine J_seq ?_ | refine J_region Tryz.tyOK ?_ | refine J_block ?_ | refine J_cond ?_ | refine J_ret ?_ | refine J_skip ?_ | refine J_exit ?_ | refine J_scope ?_ | refine CondP.y ?_ | refine CondP.n ?_ | refine CondP.mk (fun h => ?_) (fun h => ?_) | refine EqP.mk rfl ?_ | refine NewP.mk (fun ad => ?_) | refine ArP.x ?_ | refine SideP.a ?_ | refine J_drawT (id := 2) Tryz.tyOK (by kernel_rfl) [0, 0, 0, 6, 14, 30, 63, 127, 0, 511, 1023, 2047, 0, 0, 13311, 32767] [0, 1, 2, 3, 4, 5, 6, 7, 8, 9, 10, 11] 12 [13, 14, 15] 13 [12, 14, 15] [12, 13, 14, 15] [9, 23, 29] 15 false (by kernel_rfl) ?_ | refine TwoP.mk ?_ ?_ | refine J_drawS (id := 3) Tryz.tyOK (by kernel_rfl) [0, 1, 0, 0, 11, 31, 63] [0, 1, 2, 3, 4, 5, 6] [] [9, 10] false (by kernel_rfl) ?_ | refine J_drawS (id := 8) Tryz.tyOK (by kernel_rfl) [0, 0, 0, 6, 14, 30, 63, 127, 255, 511, 511, 2047, 4095, 8191, 16383, 32767, 65535, 131071, 262143, 524287, 1048575, 1048575, 4194303, 8388607, 16777215, 1048575, 1048575, 68157439, 235929599, 504365055, 1041235967, 2147483647, 4294967295, 8589934591] [0, 1, 2, 3, 4, 5, 6, 7, 8, 9, 10, 11, 12, 13, 14, 15, 16, 17, 18, 19, 20, 21, 22, 23, 24, 25, 26, 27, 28, 29, 30, 31, 32, 33] [] [10, 46, 54, 65, 71] false (by kernel_rfl) ?_ | refine J_drawS (id := 10) Tryz.tyOK (by kernel_rfl) [0, 1, 3, 3, 15, 31, 63, 3, 255, 511, 1023] [0, 1, 2, 3, 4, 5, 6, 7, 8, 9, 10] [] [11, 81] false (by kernel_rfl) ?_ | refine J_drawS (id := 12) Tryz.tyOK (by kernel_rfl) [0, 1, 3, 3, 3, 27, 59, 123, 251, 507, 123, 2043, 123, 4219, 16379, 32763, 65535, 131071, 262143] [0, 1, 2, 3, 4, 5, 6, 7, 8, 9, 10, 11, 12, 13, 14, 15, 16, 17, 18] [] [10, 11] false (by kernel_rfl) ?_ | refine EntP.mk Ents.a ?_ | refine IdxE.mk 52 3 _ (hrd _) (by omega) (by omega) ?_ | refine FldE.mk 52 3 _ _ (hrd _) (by omega) ?_ | refine LoadE.mk 52 _ _ [.i .i64 x.sp, .s x.nm] (hrd _) (by omega) (by omega) (by first | omega | decide) (by exact hg) ?_ | refine LoadE.mk 52 _ _ [.i .i64 x.n] (hrd _) (by omega) (by omega) (by first | omega | decide) (by exact hg2) ?_ | refine CallQ.mk [slFact 0 4 pa ps.length (pgC ps)] _ ci (fun _ h => by simp only [allD, allD_append, List.cons_append, List.nil_append, and_true] at h ⊢; simp only [h, and_self]) ?_ | refine Round.mk (0 + 1, true) (by dsimp only; omega) ⟨by dsimp only; omega, hyes (by assumption)⟩ SubE.a Ents.a | refine Round.mk (0 + 1, true) (by dsimp only; omega) ⟨by dsimp only; omega, hkp rfl⟩ SubE.a Ents.a | refine Round.mk (0 + 1, false) (by dsimp only; omega) ⟨by dsimp only; omega, hno (by assumption)⟩ SubE.a Ents.a | fail
    | succ k =>
      obtain ⟨y, hyn, hgy⟩ := hprev k rfl
      cases fb
      all_goals
        repeat' first | refine J_seq ?_ | refine J_region Tryz.tyOK ?_ | refine J_block ?_ | refine J_cond ?_ | refine J_ret ?_ | refine J_skip ?_ | refine J_exit ?_ | refine J_scope ?_ | refine CondP.y ?_ | refine CondP.n ?_ | refine CondP.mk (fun h => ?_) (fun h => ?_) | refine EqP.mk rfl ?_ | refine NewP.mk (fun ad => ?_) | refine ArP.x ?_ | refine SideP.a ?_ | refine J_drawT (id := 2) Tryz.tyOK (by kernel_rfl) [0, 0, 0, 6, 14, 30, 63, 127, 0, 511, 1023, 2047, 0, 0, 13311, 32767] [0, 1, 2, 3, 4, 5, 6, 7, 8, 9, 10, 11] 12 [13, 14, 15] 13 [12, 14, 15] [12, 13, 14, 15] [9, 23, 29] 15 false (by kernel_rfl) ?_ | refine TwoP.mk ?_ ?_ | refine J_drawS (id := 3) Tryz.tyOK (by kernel_rfl) [0, 1, 0, 0, 11, 31, 63] [0, 1, 2, 3, 4, 5, 6] [] [9, 10] false (by kernel_rfl) ?_ | refine J_drawS (id := 8) Tryz.tyOK (by kernel_rfl) [0, 0, 0, 6, 14, 30, 63, 127, 255, 511, 511, 2047, 4095, 8191, 16383, 32767, 65535, 131071, 262143, 524287, 1048575, 1048575, 4194303, 8388607, 16777215, 1048575, 1048575, 68157439, 235929599, 504365055, 1041235967, 2147483647, 4294967295, 8589934591] [0, 1, 2, 3, 4, 5, 6, 7, 8, 9, 10, 11, 12, 13, 14, 15, 16, 17, 18, 19, 20, 21, 22, 23, 24, 25, 26, 27, 28, 29, 30, 31, 32, 33] [] [10, 46, 54, 65, 71] false (by kernel_rfl) ?_ | refine J_drawS (id := 10) Tryz.tyOK (by kernel_rfl) [0, 1, 3, 3, 15, 31, 63, 3, 255, 511, 1023] [0, 1, 2, 3, 4, 5, 6, 7, 8, 9, 10] [] [11, 81] false (by kernel_rfl) ?_ | refine J_drawS (id := 12) Tryz.tyOK (by kernel_rfl) [0, 1, 3, 3, 3, 27, 59, 123, 251, 507, 123, 2043, 123, 4219, 16379, 32763, 65535, 131071, 262143] [0, 1, 2, 3, 4, 5, 6, 7, 8, 9, 10, 11, 12, 13, 14, 15, 16, 17, 18] [] [10, 11] false (by kernel_rfl) ?_ | refine EntP.mk Ents.a ?_ | refine IdxE.mk 52 3 _ (hrd _) (by omega) (by omega) ?_ | refine FldE.mk 52 3 _ _ (hrd _) (by omega) ?_ | refine LoadE.mk 52 _ _ [.i .i64 x.sp, .s x.nm] (hrd _) (by omega) (by omega) (by first | omega | decide) (by exact hg) ?_ | refine LoadE.mk 52 _ _ [.i .i64 x.n] (hrd _) (by omega) (by omega) (by first | omega | decide) (by exact hg2) ?_ | refine LoadE.mk 52 _ _ [.i .i64 y.n] (hrd _) (by omega) (by omega) (by first | omega | decide) (by exact hgy) ?_ | refine CallQ.mk [slFact 0 4 pa ps.length (pgC ps)] _ ci (fun _ h => by simp only [allD, allD_append, List.cons_append, List.nil_append, and_true] at h ⊢; simp only [h, and_self]) ?_ | refine Round.mk (k + 1 + 1, true) (by dsimp only; omega) ⟨by dsimp only; omega, hyes (by assumption)⟩ SubE.a Ents.a | refine Round.mk (k + 1 + 1, true) (by dsimp only; omega) ⟨by dsimp only; omega, hkp rfl⟩ SubE.a Ents.a | refine Round.mk (k + 1 + 1, false) (by dsimp only; omega) ⟨by dsimp only; omega, hno (by assumption)⟩ SubE.a Ents.a | fail
  · have hil : i = F.length := by omega
    rw [hil, List.take_length, hcl] at hfb
    clear hcl hso hin hhp hrd
    generalize (ps.any fun p => decide (p.sp = T.1 ∧ p.nm = T.2)) = inB at *
    subst hfb
    cases inB <;> cases ctB
    all_goals
      repeat' first | refine CondP.yes rfl ?_ | refine J_seq ?_ | refine J_region Tryz.tyOK ?_ | refine J_block ?_ | refine J_cond ?_ | refine J_ret ?_ | refine J_skip ?_ | refine J_exit ?_ | refine J_scope ?_ | refine CondP.y ?_ | refine CondP.n ?_ | refine CondP.mk (fun h => ?_) (fun h => ?_) | refine EqP.mk rfl ?_ | refine NewP.mk (fun ad => ?_) | refine ArP.x ?_ | refine SideP.a ?_ | refine J_drawT (id := 2) Tryz.tyOK (by kernel_rfl) [0, 0, 0, 6, 14, 30, 63, 127, 0, 511, 1023, 2047, 0, 0, 13311, 32767] [0, 1, 2, 3, 4, 5, 6, 7, 8, 9, 10, 11] 12 [13, 14, 15] 13 [12, 14, 15] [12, 13, 14, 15] [9, 23, 29] 15 false (by kernel_rfl) ?_ | refine TwoP.mk ?_ ?_ | refine J_drawS (id := 3) Tryz.tyOK (by kernel_rfl) [0, 1, 0, 0, 11, 31, 63] [0, 1, 2, 3, 4, 5, 6] [4] [9, 10] false (by kernel_rfl) ?_ | refine J_drawS (id := 8) Tryz.tyOK (by kernel_rfl) [0, 0, 0, 6, 14, 30, 63, 127, 255, 511, 511, 2047, 4095, 8191, 16383, 32767, 65535, 131071, 262143, 524287, 1048575, 1048575, 4194303, 8388607, 16777215, 1048575, 1048575, 68157439, 235929599, 504365055, 1041235967, 2147483647, 4294967295, 8589934591] [0, 1, 2, 3, 4, 5, 6, 7, 8, 9, 10, 11, 12, 13, 14, 15, 16, 17, 18, 19, 20, 21, 22, 23, 24, 25, 26, 27, 28, 29, 30, 31, 32, 33] [6] [10, 46, 54, 65, 71] false (by kernel_rfl) ?_ | refine J_drawS (id := 10) Tryz.tyOK (by kernel_rfl) [0, 1, 3, 3, 15, 31, 63, 3, 255, 511, 1023] [0, 1, 2, 3, 4, 5, 6, 7, 8, 9, 10] [] [11, 81] false (by kernel_rfl) ?_ | refine J_drawS (id := 12) Tryz.tyOK (by kernel_rfl) [0, 1, 3, 3, 3, 27, 59, 123, 251, 507, 123, 2043, 123, 4219, 16379, 32763, 65535, 131071, 262143] [0, 1, 2, 3, 4, 5, 6, 7, 8, 9, 10, 11, 12, 13, 14, 15, 16, 17, 18] [0, 5, 13, 14] [10, 11] false (by kernel_rfl) ?_ | refine EntP.mk Ents.a ?_ | refine CallP.is cx ?_ (fun _ h => by simp only [allD, allD_append, List.cons_append, List.nil_append, and_true] at h ⊢; simp only [h, and_self]) | refine CallP.is awake_ok ?_ | refine CallP.is cI ?_ (fun _ h => by simp only [allD, allD_append, List.cons_append, List.nil_append, and_true] at h ⊢; simp only [h, and_self]) | refine CallP.is cq ?_ (fun _ h => by simp only [allD, allD_append, List.cons_append, List.nil_append, and_true] at h ⊢; simp only [h, and_self]) | refine CallP.is cC ?_ | refine FinE.is rfl | fail
end Go.Proofs

/- This text opens arguments that are lists of rows of words, titles and lists of numbers. -/
namespace Go.Proofs.YthknndkjnglegaaGreat
open Go Go.X Go.Proofs
set_option maxRecDepth 100000
/-- What is known of a slice that is read. -/
abbrev slQ {α : Type} (w : World) (z : Nat) (F : α → List C) (Q : α → Prop) (g : Option Addr × Nat × Nat × List α) : Prop := g.2.1 = g.2.2.2.length ∧ SlOK w z (g.2.2.2.flatMap F) g.1 g.2.1 g.2.2.1 ∧ ∀ x ∈ g.2.2.2, Q x ∧ (F x).length = z
theorem open_ints {w : World} : OpenS Tryz.prog w 33 (fun g : Option Addr × Nat × Nat × List Int => [.sl g.1 g.2.1 g.2.2.1]) (slQ w 1 (fun n : Int => [.i .i64 n]) (inR .i64)) :=
  openS_slice (z := 1) Tryz.underlying33 (cellsOf_ty (okTy (t := 3) rfl)) (by decide) (fun g x hx => by simp at hx; subst hx; rfl) (openS_int Tryz.underlying3)
/-- The numbers that a list in memory is. -/
theorem ints_of {w : World} {a : Option Addr} {n c : Nat} {l : List Int} (h : slQ w 1 (fun n : Int => [.i .i64 n]) (inR .i64) (a, n, c, l)) :
    ∃ e : Nat, n = l.length ∧ l.length ≤ maxLen ∧ (slFact e 1 a l.length (l.map (C.i .i64))).p (fun b => w.heap[b]?) := by
  obtain ⟨h1, h2, h3⟩ := h
  dsimp only at h1 h2 h3
  subst h1
  obtain ⟨e, hf⟩ := h2.f
  exact ⟨e, rfl, Nat.le_trans h2.le h2.max, by rw [List.map_eq_flatMap]; exact hf⟩
end Go.Proofs.YthknndkjnglegaaGreat
