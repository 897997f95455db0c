/- This text walks through the function Find of the package search. -/
import Derived.Test.YthknndkjnglegaaGreatH11
import Derived.Test.YthknndkjnglegaaGreatH10
import Derived.Test.YthknndkjnglegaaGreatH07
import Derived.Test.YthknndkjnglegaaGreatH08
import Derived.Test.YthknndkjnglegaaGreatH09
import Derived.Lib.DecodeN
import Derived.Lib.SlTrimSet
set_option linter.all false

namespace Go.X
open Go Go.Lib Go.Proofs
theorem gGet_put {α : Type} [DecidableEq α] (kv : List (α × V)) (k : α) (v : V) (q : α) : gGet (gPut kv k v) q = if q = k then some v else gGet kv q := by
  induction kv with
  | nil =>
    simp only [gPut, gGet]
    by_cases h : q = k
    · rw [if_pos h, if_pos h.symm]
    · rw [if_neg h, if_neg fun e => h e.symm]
  | cons x r ih =>
    simp only [gPut]
    split
    · rename_i hx
      simp only [gGet]
      by_cases h : q = k
      · rw [if_pos h, if_pos (hx.trans h.symm)]
      · rw [if_neg h, if_neg fun e => h (e.symm.trans hx), if_neg fun e => h (e.symm.trans hx)]
    · rename_i hx
      simp only [gGet]
      rw [ih]
      by_cases h : x.1 = q
      · rw [if_pos h, if_neg fun e => hx (h.trans e)]
        exact (if_pos h).symm
      · rw [if_neg h, if_neg h]
/-- A word of a page, a title, and their cells. -/
def entF (k : List UInt8 × Int × List UInt8) : List C := [.s k.1, .i .i64 k.2.1, .s k.2.2]
def ttF (k : Int × List UInt8) : List C := [.i .i64 k.1, .s k.2]
/-- A page. -/
structure PG where
  sp : Int
  nm : List UInt8
  tx : List UInt8
  rv : Int
def PG.cells (x : PG) : List C := [.i .i64 x.sp, .s x.nm, .s x.tx, .i .i64 x.rv]
def pgC (l : List PG) : List C := l.flatMap PG.cells
theorem pg_get {l : List PG} {i : Nat} (h : i < l.length) : ((pgC l).drop (i * 4 + 0)).take 4 = [.i .i64 l[i].sp, .s l[i].nm, .s l[i].tx, .i .i64 l[i].rv] := by
  rw [pgC, flat_get (F := PG.cells) (z := 4) (fun _ => rfl) h (by omega)]; rfl
/-- What a view holds beside its pages. -/
structure VT where
  gs : Option Addr × Nat × Nat
  rs : Option Addr × Nat × Nat
  us : Option Addr × Nat × Nat
  gp : Option Addr × Nat × Nat
  ck : Int
  fx : Option Addr × Nat × Nat
def slK (x : Option Addr × Nat × Nat) : C := .sl x.1 x.2.1 x.2.2
/-- The number of the first row with a word and a page. -/
def firstN : List WR → List UInt8 × Int × List UInt8 → Option Int
  | [], _ => none
  | r :: l, k => if (r.w, r.sp, r.nm) = k then some r.n else firstN l k
theorem firstN_snoc (l : List WR) (r : WR) (k : List UInt8 × Int × List UInt8) : firstN (l ++ [r]) k = (firstN l k).or (if k = (r.w, r.sp, r.nm) then some r.n else none) := by
  induction l with
  | nil =>
    simp only [List.nil_append, firstN, Option.none_or]
    by_cases h : k = (r.w, r.sp, r.nm)
    · rw [if_pos h, if_pos h.symm]
    · rw [if_neg h, if_neg fun e => h e.symm]
  | cons x t ih =>
    simp only [List.cons_append, firstN, ih]
    split <;> simp
theorem firstN_mem {l : List WR} {k : List UInt8 × Int × List UInt8} {n : Int} (h : firstN l k = some n) : ∃ r ∈ l, r.n = n := by
  induction l with
  | nil => cases h
  | cons x t ih =>
    simp only [firstN] at h
    split at h
    · exact ⟨x, List.mem_cons_self .., Option.some.inj h⟩
    · obtain ⟨r, h1, h2⟩ := ih h
      exact ⟨r, List.mem_cons_of_mem _ h1, h2⟩
def scoreT (l : List WR) (ws : List (List UInt8)) (p : PG) : Int := (ws.map fun w => (firstN l (w, p.sp, p.nm)).getD 0).sum
def allT (l : List WR) (ws : List (List UInt8)) (p : PG) : Bool := ws.all fun w => (firstN l (w, p.sp, p.nm)).isSome
def hitsGo (l : List WR) (ws : List (List UInt8)) : List (Int × List UInt8) → List PG → List HT
  | _, [] => []
  | seen, p :: r => (if (!decide ((p.sp, p.nm) ∈ seen) && allT l ws p) = true then [⟨p.sp, p.nm, scoreT l ws p⟩] else []) ++ hitsGo l ws (seen ++ [(p.sp, p.nm)]) r
theorem hitsGo_len (l : List WR) (ws : List (List UInt8)) : ∀ (r : List PG) (seen : List (Int × List UInt8)), (hitsGo l ws seen r).length ≤ r.length
  | [], _ => Nat.le_refl _
  | p :: r, seen => by
    simp only [hitsGo, List.length_append, List.length_cons]
    have := hitsGo_len l ws r (seen ++ [(p.sp, p.nm)])
    split <;> simp <;> omega
theorem sum_snoc (l : List Int) (x : Int) : (l ++ [x]).sum = l.sum + x := by
  induction l with
  | nil => simp
  | cons y r ih => simp only [List.cons_append, List.sum_cons, ih]; omega
theorem scoreT_snoc (l : List WR) (ws : List (List UInt8)) (w : List UInt8) (p : PG) : scoreT l (ws ++ [w]) p = scoreT l ws p + (firstN l (w, p.sp, p.nm)).getD 0 := by
  unfold scoreT
  rw [List.map_append, List.map_cons, List.map_nil, sum_snoc]
theorem allT_snoc (l : List WR) (ws : List (List UInt8)) (w : List UInt8) (p : PG) : allT l (ws ++ [w]) p = (allT l ws p && (firstN l (w, p.sp, p.nm)).isSome) := by
  unfold allT
  rw [List.all_append]; simp
def leH (x y : HT) : Bool := decide (cmpHT x y ≤ 0)
theorem cmpHT_eq (x y : HT) (h : cmpHT x y = 0) : x = y := by
  unfold cmpHT at h
  split at h
  · rename_i h1; exact absurd h h1
  · rename_i h1
    have e2 := (compareT_eq _ _ _ _).1 h
    have e3 : x.n = y.n := by
      have h1 := Classical.not_not.1 h1
      unfold Lib.compareInt at h1
      split at h1
      · omega
      · split at h1
        · omega
        · omega
    obtain ⟨a, b, c⟩ := x
    obtain ⟨a', b', c'⟩ := y
    dsimp only at e2 e3
    obtain ⟨e4, e5⟩ := e2
    subst e4 e5 e3
    rfl
theorem leH_total (x y : HT) : (leH x y || leH y x) = true := by
  have := cmp_HT.swap x y
  simp only [leH, Bool.or_eq_true, decide_eq_true_eq]
  omega
theorem leH_trans (x y z : HT) (h1 : leH x y = true) (h2 : leH y z = true) : leH x z = true := by
  simp only [leH, decide_eq_true_eq] at *
  exact cmp_HT.trans x y z h1 h2
theorem sortedH_is {l l' : List HT} (hp : l'.Perm l) (hs : l'.Pairwise fun x y => ltOf cmpHT y x = false) : l' = l.mergeSort leH := by
  refine ordL_eq cmp_HT cmpHT_eq (ordL_of cmp_HT hs) ?_ (hp.trans (List.mergeSort_perm l leH).symm)
  refine (List.pairwise_mergeSort leH_trans leH_total l).imp fun {x y} h => ?_
  simpa [leH] using h
/-- The words of a query, in order. -/
def queryT (q : List UInt8) : List (List UInt8) := cmps (srtS (wordsS q))
/-- The hits. -/
def findT (l : List WR) (ps : List PG) (q : List UInt8) : List HT := if queryT q = [] then [] else (hitsGo l (queryT q) [] ps).mergeSort leH
end Go.X
namespace Go.Proofs
open Go Go.X
set_option maxRecDepth 100000
set_option maxHeartbeats 4000000
theorem entK : KeyP Tryz.tyT 105 entF := by
  refine ⟨⟨5, by omega, fun a b => ⟨_, rfl, ?_⟩⟩, fun a c hc => ?_⟩
  · obtain ⟨a1, a2, a3⟩ := a
    obtain ⟨b1, b2, b3⟩ := b
    simp [and_assoc]
  · simp only [entF, List.mem_cons, List.not_mem_nil, or_false] at hc
    rcases hc with rfl | rfl | rfl <;> rfl
theorem ttK : KeyP Tryz.tyT 50 ttF := by
  refine ⟨⟨5, by omega, fun a b => ⟨_, rfl, ?_⟩⟩, fun a c hc => ?_⟩
  · obtain ⟨a1, a2⟩ := a
    obtain ⟨b1, b2⟩ := b
    simp
  · simp only [ttF, List.mem_cons, List.not_mem_nil, or_false] at hc
    rcases hc with rfl | rfl <;> rfl
theorem cmpsGo_len : ∀ (r : List (List UInt8)) (p : List UInt8), (cmpsGo p r).length ≤ r.length
  | [], _ => Nat.le_refl _
  | y :: r, p => by
    simp only [cmpsGo]
    split
    · have := cmpsGo_len r p; simp; omega
    · have := cmpsGo_len r y; simp; omega
theorem queryT_len (q : List UInt8) : (queryT q).length ≤ q.length + 1 := by
  have h1 := wordsR_len q []
  have h2 : (srtS (wordsS q)).length = (wordsS q).length := List.length_mergeSort ..
  unfold queryT
  generalize srtS (wordsS q) = s at *
  cases s with
  | nil => exact Nat.zero_le _
  | cons x r =>
    have := cmpsGo_len r x
    simp only [cmps, List.length_cons] at *
    unfold wordsS at h2
    omega
theorem find_ok (e e' : Nat) (la pa : Option Addr) (lc pc : Nat) (l : List WR) (ps : List PG) (vt : VT) (q : List UInt8) (hl : l.length ≤ 10000000) (hb : ∀ r ∈ l, -1099511627776 ≤ r.n ∧ r.n ≤ 1099511627776) (hps : ps.length ≤ 1000) (hq : q.length ≤ 1000) :
    FnS Tryz.prog 17 [.c (.sl la l.length lc), .agg [.sl pa ps.length pc, slK vt.gs, slK vt.rs, slK vt.us, slK vt.gp, .i .i64 vt.ck, slK vt.fx], .c (.s q)] [] [slFact e 4 la l.length (wrC l), slFact e' 4 pa ps.length (pgC ps)]
      (fun v L D => ∃ a' c', v = .c (.sl a' (findT l ps q).length c') ∧ L = [.row 52 3 a' (findT l ps q).length c' (htC (findT l ps q))] ∧ D = []) := by
  have cw := words_ok q (by omega)
  have hwl := wordsR_len q []
  have hql := queryT_len q
  have cs := fun a c => sortS_ok a c (wordsS q) (by unfold wordsS; omega)
  have hsl : (srtS (wordsS q)).length = (wordsS q).length := List.length_mergeSort ..
  have cc := fun a c => cptS_ok a c (srtS (wordsS q)) (by rw [hsl]; unfold wordsS; omega)
  rw [hsl] at cc
  have hF : findT l ps q = if queryT q = [] then [] else (hitsGo l (queryT q) [] ps).mergeSort leH := rfl
  change ∀ a c, FnS _ _ _ _ _ (fun v L D => v = .c (.sl a (queryT q).length c) ∧ L = [.row _ 1 a (queryT q).length c (sC (queryT q))] ∧ D = []) at cc
  generalize findT l ps q = F at *
  generalize queryT q = ws at *
  generalize wordsS q = ws0 at *
  refine fn_of_J Tryz.tyOK 0 Tryz.func17 (by kernel_rfl) (c := Tryz.f17.body.getD .skip) (by kernel_rfl) Tryz.ntmps17 (rs := Tryz.f17.results.toList) rfl (by simp) (fun G => ?_)
  repeat' first | refine J_seq ?_ | refine J_region Tryz.tyOK ?_ | refine J_block ?_ | refine J_cond ?_ | refine J_ret ?_ | refine J_skip ?_ | refine J_exit ?_ | refine J_scope ?_ | refine CondP.y ?_ | refine CondP.n ?_ | refine CondP.mk (fun h => ?_) (fun h => ?_) | refine EqP.mk rfl ?_ | refine NewP.mk (fun ad => ?_) | refine ArP.x ?_ | refine SideP.a ?_ | refine CallP.mk [] [_] [] _ cw (List.Perm.refl _) (fun _ _ => trivial) (fun v L' D' hq => ?_); obtain ⟨a1, k1, rfl, rfl, rfl⟩ := hq | refine CallP.mk [_] [_] [] _ (cs _ _) (List.Perm.refl _) (fun _ _ => trivial) (fun v L' D' hq => ?_); obtain ⟨rfl, rfl, rfl⟩ := hq | refine CallP.mk [_] [_] [] _ (cc _ _) (List.Perm.refl _) (fun _ _ => trivial) (fun v L' D' hq => ?_); obtain ⟨rfl, rfl, rfl⟩ := hq | fail
  · rw [if_pos (List.eq_nil_of_length_eq_zero (by omega))] at hF
    subst hF
    repeat' first | refine J_seq ?_ | refine J_region Tryz.tyOK ?_ | refine J_block ?_ | refine J_cond ?_ | refine J_ret ?_ | refine J_skip ?_ | refine J_exit ?_ | refine J_scope ?_ | refine CondP.y ?_ | refine CondP.n ?_ | refine CondP.mk (fun h => ?_) (fun h => ?_) | refine EqP.mk rfl ?_ | refine NewP.mk (fun ad => ?_) | refine ArP.x ?_ | refine SideP.a ?_ | refine FinE.mk [_] [] ⟨none, 0, rfl, rfl, rfl⟩ ((Ents.drop.trans Ents.drop).trans ((Ents.nilRow (ety := 52) (esz := 3)).trans (Ents.facts fun _ _ => trivial))) | fail
  · rw [if_neg (fun e => by subst e; simp at h)] at hF
    have hwsl : ws.length ≤ 1001 := by omega
    clear cw cs cc hwl hsl hq hql
    generalize hH : hitsGo l ws [] ps = H at *
    have hHl : H.length ≤ ps.length := by rw [← hH]; exact hitsGo_len l ws ps []
    have hr1 : ∀ L, Reads L [slFact e 4 la l.length (wrC l), slFact e' 4 pa ps.length (pgC ps)] e 4 la l.length (wrC l) := fun L => .inr fun m h => h.1
    have hr2 : ∀ L, Reads L [slFact e 4 la l.length (wrC l), slFact e' 4 pa ps.length (pgC ps)] e' 4 pa ps.length (pgC ps) := fun L => .inr fun m h => h.2.1
    repeat' first | refine J_seq ?_ | refine J_region Tryz.tyOK ?_ | refine J_block ?_ | refine J_cond ?_ | refine J_ret ?_ | refine J_skip ?_ | refine J_exit ?_ | refine J_scope ?_ | refine CondP.y ?_ | refine CondP.n ?_ | refine CondP.mk (fun h => ?_) (fun h => ?_) | refine EqP.mk rfl ?_ | refine NewP.mk (fun ad => ?_) | refine ArP.x ?_ | refine SideP.a ?_ | fail
    rename_i ad0
    refine J_loop (α := Nat × List ((List UInt8 × Int × List UInt8) × V)) (fun x => [(4, .c (.p 0 ad0 0)), (7, .c (.sl a1 ws.length k1)), (8, .c (.m 1 ad)), (34, .c (.sl la l.length lc)), (35, .c (.i .i64 l.length)), (36, .c (.i .i64 x.1))]) (fun x => [.obj 1 ad (gO (aggV entF) x.2), .row 9 1 a1 ws.length k1 (sC ws), .box 0 ad0 32 [.sl pa ps.length pc, slK vt.gs, slK vt.rs, slK vt.us, slK vt.gp, .i .i64 vt.ck, slK vt.fx]]) (fun _ => [slFact e 4 la l.length (wrC l), slFact e' 4 pa ps.length (pgC ps)]) 2
      (fun x => x.1 ≤ l.length ∧ ∀ k, gGet x.2 k = (firstN (l.take x.1) k).map fun n => V.c (.i .i64 n)) (fun x => l.length - x.1) (InFam.mk (0, []) ⟨Nat.zero_le _, fun _ => rfl⟩ SubE.a (Ents.refl _ _)) (fun x hx => ?_)
    obtain ⟨i, kv⟩ := x
    dsimp only at hx ⊢
    obtain ⟨hi, hkv⟩ := hx
    by_cases hlt : i < l.length
    · have hg := wr_get hlt
      have ht := List.take_succ_eq_append_getElem hlt
      generalize l[i] = x at *
      have hG := hkv (x.w, x.sp, x.nm)
      cases hfn : firstN (l.take i) (x.w, x.sp, x.nm) with
      | none =>
        rw [hfn] at hG
        have hG : gGet kv (x.w, x.sp, x.nm) = none := hG
        have hnew : ∀ k, gGet (gPut kv (x.w, x.sp, x.nm) (.c (.i .i64 x.n))) k = (firstN (l.take (i + 1)) k).map fun n => V.c (.i .i64 n) := fun k => by
          rw [gGet_put, ht, firstN_snoc, hkv]
          by_cases hk : k = (x.w, x.sp, x.nm)
          · subst hk
            rw [if_pos rfl, hfn, if_pos rfl]; rfl
          · rw [if_neg hk, if_neg hk, Option.or_none]
        repeat' first | refine J_seq ?_ | refine J_region Tryz.tyOK ?_ | refine J_block ?_ | refine J_cond ?_ | refine J_ret ?_ | refine J_skip ?_ | refine J_exit ?_ | refine J_scope ?_ | refine CondP.y ?_ | refine CondP.n ?_ | refine CondP.mk (fun h => ?_) (fun h => ?_) | refine EqP.mk rfl ?_ | refine NewP.mk (fun ad => ?_) | refine ArP.x ?_ | refine SideP.a ?_ | refine IdxE.mk e 4 _ (hr1 _) (by omega) (by omega) ?_ | refine LoadE.mk e _ _ _ (hr1 _) (by omega) (by omega) (by first | omega | decide) hg ?_ | refine LookG.mk _ inferInstance entF kv (x.w, x.sp, x.nm) rfl rfl rfl entK (fun v hv => absurd (hG.symm.trans hv) (by simp)) (fun _ => ?_) | refine UpdG.mk _ inferInstance entF kv (x.w, x.sp, x.nm) rfl rfl rfl entK ?_ | refine Round.mk (i + 1, gPut kv (x.w, x.sp, x.nm) (.c (.i .i64 x.n))) (by dsimp only; omega) ⟨by dsimp only; omega, hnew⟩ SubE.a Ents.a | fail
      | some n =>
        rw [hfn] at hG
        have hG : gGet kv (x.w, x.sp, x.nm) = some (.c (.i .i64 n)) := hG
        have hnew : ∀ k, gGet kv k = (firstN (l.take (i + 1)) k).map fun n => V.c (.i .i64 n) := fun k => by
          rw [ht, firstN_snoc, hkv]
          by_cases hk : k = (x.w, x.sp, x.nm)
          · subst hk
            rw [hfn]; rfl
          · rw [if_neg hk, Option.or_none]
        repeat' first | refine J_seq ?_ | refine J_region Tryz.tyOK ?_ | refine J_block ?_ | refine J_cond ?_ | refine J_ret ?_ | refine J_skip ?_ | refine J_exit ?_ | refine J_scope ?_ | refine CondP.y ?_ | refine CondP.n ?_ | refine CondP.mk (fun h => ?_) (fun h => ?_) | refine EqP.mk rfl ?_ | refine NewP.mk (fun ad => ?_) | refine ArP.x ?_ | refine SideP.a ?_ | refine IdxE.mk e 4 _ (hr1 _) (by omega) (by omega) ?_ | refine LoadE.mk e _ _ _ (hr1 _) (by omega) (by omega) (by first | omega | decide) hg ?_ | refine LookG.mk _ inferInstance entF kv (x.w, x.sp, x.nm) rfl rfl rfl entK (fun v hv => ?_) (fun hn => absurd (hG.symm.trans hn) (by simp)); cases hG.symm.trans hv | refine Round.mk (i + 1, kv) (by dsimp only; omega) ⟨by dsimp only; omega, hnew⟩ SubE.a Ents.a | fail
    · have hil : i = l.length := by omega
      subst hil
      rw [List.take_length] at hkv
      clear hi hlt
      repeat' first | refine J_seq ?_ | refine J_region Tryz.tyOK ?_ | refine J_block ?_ | refine J_cond ?_ | refine J_ret ?_ | refine J_skip ?_ | refine J_exit ?_ | refine J_scope ?_ | refine CondP.y ?_ | refine CondP.n ?_ | refine CondP.mk (fun h => ?_) (fun h => ?_) | refine EqP.mk rfl ?_ | refine NewP.mk (fun ad => ?_) | refine ArP.x ?_ | refine SideP.a ?_ | fail
      rename_i am
      refine J_loop (α := Nat × List ((Int × List UInt8) × V) × List HT × Option Addr × Nat) (fun x => [(7, .c (.sl a1 ws.length k1)), (8, .c (.m 1 am)), (14, .c (.m 2 ad)), (15, .c (.sl x.2.2.2.1 x.2.2.1.length x.2.2.2.2)), (60, .c (.sl pa ps.length pc)), (61, .c (.i .i64 ps.length)), (62, .c (.i .i64 x.1))]) (fun x => [.row 52 3 x.2.2.2.1 x.2.2.1.length x.2.2.2.2 (htC x.2.2.1), .obj 2 ad (gO (aggV ttF) x.2.1), .obj 1 am (gO (aggV entF) kv), .row 9 1 a1 ws.length k1 (sC ws)]) (fun _ => [slFact e 4 la l.length (wrC l), slFact e' 4 pa ps.length (pgC ps)]) 3
        (fun x => x.1 ≤ ps.length ∧ (∀ k, gGet x.2.1 k = if k ∈ (ps.take x.1).map (fun p => (p.sp, p.nm)) then some tt else none) ∧ H = x.2.2.1 ++ hitsGo l ws ((ps.take x.1).map fun p => (p.sp, p.nm)) (ps.drop x.1)) (fun x => ps.length - x.1) (InFam.mk (0, [], [], none, 0) ⟨Nat.zero_le _, fun k => rfl, hH.symm⟩ SubE.a ((Ents.nilRow (ety := 52) (esz := 3)).trans Ents.a)) (fun x hx => ?_)
      obtain ⟨i, mv, out, b, d⟩ := x
      dsimp only at hx ⊢
      obtain ⟨hi, hmv, he⟩ := hx
      have hol : out.length ≤ 1000 := by rw [he, List.length_append] at hHl; omega
      by_cases hlt : i < ps.length
      · clear hF
        have hg := pg_get hlt
        have ht : (ps.take (i + 1)).map (fun p => (p.sp, p.nm)) = (ps.take i).map (fun p => (p.sp, p.nm)) ++ [(ps[i].sp, ps[i].nm)] := by rw [List.take_succ_eq_append_getElem hlt, List.map_append]; rfl
        rw [List.drop_eq_getElem_cons hlt, hitsGo, ← ht] at he
        generalize ps[i] = p at *
        generalize hS : (ps.take i).map (fun p => (p.sp, p.nm)) = S at *
        generalize hS' : (ps.take (i + 1)).map (fun p => (p.sp, p.nm)) = S' at *
        have hmv' : ∀ k, gGet (gPut mv (p.sp, p.nm) tt) k = if k ∈ S' then some tt else none := fun k => by
          rw [gGet_put, hmv, ht]
          by_cases hk : k = (p.sp, p.nm)
          · rw [if_pos hk, if_pos (by rw [hk]; simp)]
          · rw [if_neg hk]
            by_cases hk2 : k ∈ S
            · rw [if_pos hk2, if_pos (by simp [hk2])]
            · rw [if_neg hk2, if_neg (by simp [hk2, hk])]
        have hM := hmv (p.sp, p.nm)
        have hm : ∃ m : Bool, m = !decide ((p.sp, p.nm) ∈ S) := ⟨_, rfl⟩
        obtain ⟨m, hm⟩ := hm
        rw [← hm] at he
        have hMm : gGet mv (p.sp, p.nm) = if m = true then none else some tt := by
          rw [hM, hm]
          by_cases hk : (p.sp, p.nm) ∈ S
          · rw [if_pos hk, decide_eq_true hk]; rfl
          · rw [if_neg hk, decide_eq_false hk]; rfl
        have hrw : ∀ A B, Reads (A :: B :: .obj 2 ad (gO (aggV ttF) mv) :: .obj 1 am (gO (aggV entF) kv) :: [.row 9 1 a1 ws.length k1 (sC ws)]) [slFact e 4 la l.length (wrC l), slFact e' 4 pa ps.length (pgC ps)] 9 1 a1 ws.length (sC ws) := fun A B => .inl ⟨k1, .tail _ (.tail _ (.tail _ (.tail _ (.head _))))⟩
        clear hM hm
        cases m
        · have hG : gGet mv (p.sp, p.nm) = some tt := hMm
          clear hMm
          repeat' first | refine J_seq ?_ | refine J_region Tryz.tyOK ?_ | refine J_block ?_ | refine J_cond ?_ | refine J_ret ?_ | refine J_skip ?_ | refine J_exit ?_ | refine J_scope ?_ | refine CondP.y ?_ | refine CondP.n ?_ | refine CondP.mk (fun h => ?_) (fun h => ?_) | refine EqP.mk rfl ?_ | refine NewP.mk (fun ad => ?_) | refine ArP.x ?_ | refine SideP.a ?_ | refine J_drawS (id := 20) Tryz.tyOK (by kernel_rfl) [0, 0, 2, 7, 15, 0, 63] [0, 1, 2, 5, 3, 4, 6] [3] [17] true (by kernel_rfl) ?_ | refine EntP.mk Ents.a ?_ | refine IdxE.mk e' 4 _ (hr2 _) (by omega) (by omega) ?_ | refine LoadE.mk e' _ _ _ (hr2 _) (by omega) (by omega) (by first | omega | decide) hg ?_ | refine LookG.mk _ inferInstance ttF mv (p.sp, p.nm) rfl rfl rfl ttK (fun v hv => ?_) (fun hn => absurd (hG.symm.trans hn) (by simp)); cases hG.symm.trans hv | fail
          clear hG
          rename_i ad2
          refine J_loop (α := Nat × Int × Bool) (fun x => [(7, .c (.sl a1 ws.length k1)), (8, .c (.m 1 am)), (14, .c (.m 2 ad2)), (15, .c (.sl b out.length d)), (17, .c (.p 3 ad 0)), (18, .c (.i .i64 x.2.1)), (19, .c (.b x.2.2)), (60, .c (.sl pa ps.length pc)), (61, .c (.i .i64 ps.length)), (62, .c (.i .i64 i)), (71, .c (.sl a1 ws.length k1)), (72, .c (.i .i64 ws.length)), (73, .c (.i .i64 x.1))]) (fun x => [.box 3 ad 80 [.i .i64 p.sp, .s p.nm, .s p.tx, .i .i64 p.rv], .row 52 3 b out.length d (htC out), .obj 2 ad2 (gO (aggV ttF) mv), .obj 1 am (gO (aggV entF) kv), .row 9 1 a1 ws.length k1 (sC ws)]) (fun _ => [slFact e 4 la l.length (wrC l), slFact e' 4 pa ps.length (pgC ps)]) 4
            (fun x => x.1 ≤ ws.length ∧ x.2.1 = scoreT l (ws.take x.1) p ∧ x.2.2 = (false && allT l (ws.take x.1) p) ∧ -((x.1 : Int) * 1099511627776) ≤ x.2.1 ∧ x.2.1 ≤ (x.1 : Int) * 1099511627776) (fun x => ws.length - x.1) (InFam.mk (0, 0, false) ⟨Nat.zero_le _, rfl, rfl, by decide, by decide⟩ SubE.a (Ents.refl _ _)) (fun x hx => ?_)
          obtain ⟨k, sc, al⟩ := x
          dsimp only at hx ⊢
          obtain ⟨hk, hsc, hal, hs1, hs2⟩ := hx
          by_cases hkw : k < ws.length
          · have hgw : ((sC ws).drop (k * 1 + 0)).take 1 = [.s ws[k]] := s_get hkw
            have hsn := scoreT_snoc l (ws.take k) ws[k] p
            have han := allT_snoc l (ws.take k) ws[k] p
            rw [← List.take_succ_eq_append_getElem hkw] at hsn han
            generalize ws[k] = w at *
            rw [← hsc] at hsn
            have hG := hkv (w, p.sp, p.nm)
            have hmem := fun n h => firstN_mem (l := l) (k := (w, p.sp, p.nm)) (n := n) h
            cases hfn : firstN l (w, p.sp, p.nm) with
            | none =>
              rw [hfn] at hG hsn han
              have hG : gGet kv (w, p.sp, p.nm) = none := hG
              have hsn : scoreT l (ws.take (k + 1)) p = sc + 0 := hsn
              have han : (false && allT l (ws.take (k + 1)) p) = false := by rw [han]; simp
              clear hal
              cases al
              all_goals
                repeat' first | refine J_seq ?_ | refine J_region Tryz.tyOK ?_ | refine J_block ?_ | refine J_cond ?_ | refine J_ret ?_ | refine J_skip ?_ | refine J_exit ?_ | refine J_scope ?_ | refine CondP.y ?_ | refine CondP.n ?_ | refine CondP.mk (fun h => ?_) (fun h => ?_) | refine EqP.mk rfl ?_ | refine NewP.mk (fun ad => ?_) | refine ArP.x ?_ | refine SideP.a ?_ | refine IdxE.mk 9 1 _ (hrw _ _) (by omega) (by omega) ?_ | refine LoadE.mk 9 _ _ _ (hrw _ _) (by omega) (by omega) (by omega) hgw ?_ | refine LookG.mk _ inferInstance entF kv (w, p.sp, p.nm) rfl rfl rfl entK (fun v hv => absurd (hG.symm.trans hv) (by simp)) (fun hnn => ?_) | refine Round.mk (k + 1, sc + 0, false) (by dsimp only; omega) ⟨by dsimp only; omega, hsn.symm, han.symm, by dsimp only; omega, by dsimp only; omega⟩ SubE.a Ents.a | fail
            | some n =>
              obtain ⟨r, hr, hrn⟩ := hmem n hfn
              have hbr := hb r hr
              rw [hrn] at hbr
              rw [hfn] at hG hsn han
              have hG : gGet kv (w, p.sp, p.nm) = some (.c (.i .i64 n)) := hG
              have hsn : scoreT l (ws.take (k + 1)) p = sc + n := hsn
              have han : (false && allT l (ws.take (k + 1)) p) = al := by rw [han, hal]; simp
              clear hal
              cases al
              all_goals
                repeat' first | refine J_seq ?_ | refine J_region Tryz.tyOK ?_ | refine J_block ?_ | refine J_cond ?_ | refine J_ret ?_ | refine J_skip ?_ | refine J_exit ?_ | refine J_scope ?_ | refine CondP.y ?_ | refine CondP.n ?_ | refine CondP.mk (fun h => ?_) (fun h => ?_) | refine EqP.mk rfl ?_ | refine NewP.mk (fun ad => ?_) | refine ArP.x ?_ | refine SideP.a ?_ | refine IdxE.mk 9 1 _ (hrw _ _) (by omega) (by omega) ?_ | refine LoadE.mk 9 _ _ _ (hrw _ _) (by omega) (by omega) (by omega) hgw ?_ | refine LookG.mk _ inferInstance entF kv (w, p.sp, p.nm) rfl rfl rfl entK (fun v hv => ?_) (fun hn => absurd (hG.symm.trans hn) (by simp)); cases hG.symm.trans hv | refine Round.mk (k + 1, sc + n, _) (by dsimp only; omega) ⟨by dsimp only; omega, hsn.symm, han.symm, by dsimp only; omega, by dsimp only; omega⟩ SubE.a Ents.a | fail
          · have hkl : k = ws.length := by omega
            subst hkl
            rw [List.take_length] at hsc hal
            rw [← hal, ← hsc] at he
            cases al with
            | true =>
              have he : H = out ++ ([⟨p.sp, p.nm, sc⟩] ++ hitsGo l ws S' (ps.drop (i + 1))) := he
              rw [← List.append_assoc] at he
              repeat' first | refine J_seq ?_ | refine J_region Tryz.tyOK ?_ | refine J_block ?_ | refine J_cond ?_ | refine J_ret ?_ | refine J_skip ?_ | refine J_exit ?_ | refine J_scope ?_ | refine CondP.y ?_ | refine CondP.n ?_ | refine CondP.mk (fun h => ?_) (fun h => ?_) | refine EqP.mk rfl ?_ | refine NewP.mk (fun ad => ?_) | refine ArP.x ?_ | refine SideP.a ?_ | refine UpdG.mk _ inferInstance ttF mv (p.sp, p.nm) rfl rfl rfl ttK ?_ | refine AppE.row [_] _ (htC out) [.i .i64 p.sp, .s p.nm, .i .i64 sc] 1 rfl (SrcE.sl 52 52 _ _ 1 1 _ rfl rfl (.inl ⟨1, List.Mem.head _⟩) rfl) (by dsimp only; omega) (fun a' c' => ?_) | refine AppE.row [_, _] _ (htC out) [.i .i64 p.sp, .s p.nm, .i .i64 sc] 1 rfl (SrcE.sl 52 52 _ _ 1 1 _ rfl rfl (.inl ⟨1, List.Mem.head _⟩) rfl) (by dsimp only; omega) (fun a' c' => ?_) | refine Round.mk (i + 1, gPut mv (p.sp, p.nm) tt, out ++ [⟨p.sp, p.nm, sc⟩], a', c') (by dsimp only; omega) ⟨by dsimp only; omega, (by dsimp only; rw [hS']; exact hmv'), (by dsimp only; rw [hS']; exact he)⟩ SubE.a (Ents.drop.trans (Ents.drop.trans (Ents.of ?_))) | fail
              dsimp only
              rw [List.length_append, show htC (out ++ [⟨p.sp, p.nm, sc⟩]) = htC out ++ [.i .i64 p.sp, .s p.nm, .i .i64 sc] by simp [htC, HT.cells]]
              rfl
            | false =>
              have he : H = out ++ hitsGo l ws S' (ps.drop (i + 1)) := he
              repeat' first | refine J_seq ?_ | refine J_region Tryz.tyOK ?_ | refine J_block ?_ | refine J_cond ?_ | refine J_ret ?_ | refine J_skip ?_ | refine J_exit ?_ | refine J_scope ?_ | refine CondP.y ?_ | refine CondP.n ?_ | refine CondP.mk (fun h => ?_) (fun h => ?_) | refine EqP.mk rfl ?_ | refine NewP.mk (fun ad => ?_) | refine ArP.x ?_ | refine SideP.a ?_ | refine UpdG.mk _ inferInstance ttF mv (p.sp, p.nm) rfl rfl rfl ttK ?_ | refine Round.mk (i + 1, gPut mv (p.sp, p.nm) tt, out, b, d) (by dsimp only; omega) ⟨by dsimp only; omega, (by dsimp only; rw [hS']; exact hmv'), (by dsimp only; rw [hS']; exact he)⟩ SubE.a Ents.a | fail
        · have hG : gGet mv (p.sp, p.nm) = none := hMm
          clear hMm
          repeat' first | refine J_seq ?_ | refine J_region Tryz.tyOK ?_ | refine J_block ?_ | refine J_cond ?_ | refine J_ret ?_ | refine J_skip ?_ | refine J_exit ?_ | refine J_scope ?_ | refine CondP.y ?_ | refine CondP.n ?_ | refine CondP.mk (fun h => ?_) (fun h => ?_) | refine EqP.mk rfl ?_ | refine NewP.mk (fun ad => ?_) | refine ArP.x ?_ | refine SideP.a ?_ | refine J_drawS (id := 20) Tryz.tyOK (by kernel_rfl) [0, 0, 2, 7, 15, 0, 63] [0, 1, 2, 5, 3, 4, 6] [3] [17] true (by kernel_rfl) ?_ | refine EntP.mk Ents.a ?_ | refine IdxE.mk e' 4 _ (hr2 _) (by omega) (by omega) ?_ | refine LoadE.mk e' _ _ _ (hr2 _) (by omega) (by omega) (by first | omega | decide) hg ?_ | refine LookG.mk _ inferInstance ttF mv (p.sp, p.nm) rfl rfl rfl ttK (fun v hv => absurd (hG.symm.trans hv) (by simp)) (fun hnn => ?_) | fail
          clear hG
          rename_i ad2
          refine J_loop (α := Nat × Int × Bool) (fun x => [(7, .c (.sl a1 ws.length k1)), (8, .c (.m 1 am)), (14, .c (.m 2 ad2)), (15, .c (.sl b out.length d)), (17, .c (.p 3 ad 0)), (18, .c (.i .i64 x.2.1)), (19, .c (.b x.2.2)), (60, .c (.sl pa ps.length pc)), (61, .c (.i .i64 ps.length)), (62, .c (.i .i64 i)), (71, .c (.sl a1 ws.length k1)), (72, .c (.i .i64 ws.length)), (73, .c (.i .i64 x.1))]) (fun x => [.box 3 ad 80 [.i .i64 p.sp, .s p.nm, .s p.tx, .i .i64 p.rv], .row 52 3 b out.length d (htC out), .obj 2 ad2 (gO (aggV ttF) mv), .obj 1 am (gO (aggV entF) kv), .row 9 1 a1 ws.length k1 (sC ws)]) (fun _ => [slFact e 4 la l.length (wrC l), slFact e' 4 pa ps.length (pgC ps)]) 4
            (fun x => x.1 ≤ ws.length ∧ x.2.1 = scoreT l (ws.take x.1) p ∧ x.2.2 = (true && allT l (ws.take x.1) p) ∧ -((x.1 : Int) * 1099511627776) ≤ x.2.1 ∧ x.2.1 ≤ (x.1 : Int) * 1099511627776) (fun x => ws.length - x.1) (InFam.mk (0, 0, true) ⟨Nat.zero_le _, rfl, rfl, by decide, by decide⟩ SubE.a (Ents.refl _ _)) (fun x hx => ?_)
          obtain ⟨k, sc, al⟩ := x
          dsimp only at hx ⊢
          obtain ⟨hk, hsc, hal, hs1, hs2⟩ := hx
          by_cases hkw : k < ws.length
          · have hgw : ((sC ws).drop (k * 1 + 0)).take 1 = [.s ws[k]] := s_get hkw
            have hsn := scoreT_snoc l (ws.take k) ws[k] p
            have han := allT_snoc l (ws.take k) ws[k] p
            rw [← List.take_succ_eq_append_getElem hkw] at hsn han
            generalize ws[k] = w at *
            rw [← hsc] at hsn
            have hG := hkv (w, p.sp, p.nm)
            have hmem := fun n h => firstN_mem (l := l) (k := (w, p.sp, p.nm)) (n := n) h
            cases hfn : firstN l (w, p.sp, p.nm) with
            | none =>
              rw [hfn] at hG hsn han
              have hG : gGet kv (w, p.sp, p.nm) = none := hG
              have hsn : scoreT l (ws.take (k + 1)) p = sc + 0 := hsn
              have han : (true && allT l (ws.take (k + 1)) p) = false := by rw [han]; simp
              clear hal
              cases al
              all_goals
                repeat' first | refine J_seq ?_ | refine J_region Tryz.tyOK ?_ | refine J_block ?_ | refine J_cond ?_ | refine J_ret ?_ | refine J_skip ?_ | refine J_exit ?_ | refine J_scope ?_ | refine CondP.y ?_ | refine CondP.n ?_ | refine CondP.mk (fun h => ?_) (fun h => ?_) | refine EqP.mk rfl ?_ | refine NewP.mk (fun ad => ?_) | refine ArP.x ?_ | refine SideP.a ?_ | refine IdxE.mk 9 1 _ (hrw _ _) (by omega) (by omega) ?_ | refine LoadE.mk 9 _ _ _ (hrw _ _) (by omega) (by omega) (by omega) hgw ?_ | refine LookG.mk _ inferInstance entF kv (w, p.sp, p.nm) rfl rfl rfl entK (fun v hv => absurd (hG.symm.trans hv) (by simp)) (fun hnn => ?_) | refine Round.mk (k + 1, sc + 0, false) (by dsimp only; omega) ⟨by dsimp only; omega, hsn.symm, han.symm, by dsimp only; omega, by dsimp only; omega⟩ SubE.a Ents.a | fail
            | some n =>
              obtain ⟨r, hr, hrn⟩ := hmem n hfn
              have hbr := hb r hr
              rw [hrn] at hbr
              rw [hfn] at hG hsn han
              have hG : gGet kv (w, p.sp, p.nm) = some (.c (.i .i64 n)) := hG
              have hsn : scoreT l (ws.take (k + 1)) p = sc + n := hsn
              have han : (true && allT l (ws.take (k + 1)) p) = al := by rw [han, hal]; simp
              clear hal
              cases al
              all_goals
                repeat' first | refine J_seq ?_ | refine J_region Tryz.tyOK ?_ | refine J_block ?_ | refine J_cond ?_ | refine J_ret ?_ | refine J_skip ?_ | refine J_exit ?_ | refine J_scope ?_ | refine CondP.y ?_ | refine CondP.n ?_ | refine CondP.mk (fun h => ?_) (fun h => ?_) | refine EqP.mk rfl ?_ | refine NewP.mk (fun ad => ?_) | refine ArP.x ?_ | refine SideP.a ?_ | refine IdxE.mk 9 1 _ (hrw _ _) (by omega) (by omega) ?_ | refine LoadE.mk 9 _ _ _ (hrw _ _) (by omega) (by omega) (by omega) hgw ?_ | refine LookG.mk _ inferInstance entF kv (w, p.sp, p.nm) rfl rfl rfl entK (fun v hv => ?_) (fun hn => absurd (hG.symm.trans hn) (by simp)); cases hG.symm.trans hv | refine Round.mk (k + 1, sc + n, _) (by dsimp only; omega) ⟨by dsimp only; omega, hsn.symm, han.symm, by dsimp only; omega, by dsimp only; omega⟩ SubE.a Ents.a | fail
          · have hkl : k = ws.length := by omega
            subst hkl
            rw [List.take_length] at hsc hal
            rw [← hal, ← hsc] at he
            cases al with
            | true =>
              have he : H = out ++ ([⟨p.sp, p.nm, sc⟩] ++ hitsGo l ws S' (ps.drop (i + 1))) := he
              rw [← List.append_assoc] at he
              repeat' first | refine J_seq ?_ | refine J_region Tryz.tyOK ?_ | refine J_block ?_ | refine J_cond ?_ | refine J_ret ?_ | refine J_skip ?_ | refine J_exit ?_ | refine J_scope ?_ | refine CondP.y ?_ | refine CondP.n ?_ | refine CondP.mk (fun h => ?_) (fun h => ?_) | refine EqP.mk rfl ?_ | refine NewP.mk (fun ad => ?_) | refine ArP.x ?_ | refine SideP.a ?_ | refine UpdG.mk _ inferInstance ttF mv (p.sp, p.nm) rfl rfl rfl ttK ?_ | refine AppE.row [_] _ (htC out) [.i .i64 p.sp, .s p.nm, .i .i64 sc] 1 rfl (SrcE.sl 52 52 _ _ 1 1 _ rfl rfl (.inl ⟨1, List.Mem.head _⟩) rfl) (by dsimp only; omega) (fun a' c' => ?_) | refine AppE.row [_, _] _ (htC out) [.i .i64 p.sp, .s p.nm, .i .i64 sc] 1 rfl (SrcE.sl 52 52 _ _ 1 1 _ rfl rfl (.inl ⟨1, List.Mem.head _⟩) rfl) (by dsimp only; omega) (fun a' c' => ?_) | refine Round.mk (i + 1, gPut mv (p.sp, p.nm) tt, out ++ [⟨p.sp, p.nm, sc⟩], a', c') (by dsimp only; omega) ⟨by dsimp only; omega, (by dsimp only; rw [hS']; exact hmv'), (by dsimp only; rw [hS']; exact he)⟩ SubE.a (Ents.drop.trans (Ents.drop.trans (Ents.of ?_))) | fail
              dsimp only
              rw [List.length_append, show htC (out ++ [⟨p.sp, p.nm, sc⟩]) = htC out ++ [.i .i64 p.sp, .s p.nm, .i .i64 sc] by simp [htC, HT.cells]]
              rfl
            | false =>
              have he : H = out ++ hitsGo l ws S' (ps.drop (i + 1)) := he
              repeat' first | refine J_seq ?_ | refine J_region Tryz.tyOK ?_ | refine J_block ?_ | refine J_cond ?_ | refine J_ret ?_ | refine J_skip ?_ | refine J_exit ?_ | refine J_scope ?_ | refine CondP.y ?_ | refine CondP.n ?_ | refine CondP.mk (fun h => ?_) (fun h => ?_) | refine EqP.mk rfl ?_ | refine NewP.mk (fun ad => ?_) | refine ArP.x ?_ | refine SideP.a ?_ | refine UpdG.mk _ inferInstance ttF mv (p.sp, p.nm) rfl rfl rfl ttK ?_ | refine Round.mk (i + 1, gPut mv (p.sp, p.nm) tt, out, b, d) (by dsimp only; omega) ⟨by dsimp only; omega, (by dsimp only; rw [hS']; exact hmv'), (by dsimp only; rw [hS']; exact he)⟩ SubE.a Ents.a | fail
      · have hil : i = ps.length := by omega
        subst hil
        rw [List.drop_length] at he
        have he : H = out ++ [] := he
        rw [List.append_nil] at he
        subst he
        have ch := sortHits_ok b d H (by omega)
        have hFl : F.length = H.length := by rw [hF, List.length_mergeSort]
        repeat' first | refine J_seq ?_ | refine J_region Tryz.tyOK ?_ | refine J_block ?_ | refine J_cond ?_ | refine J_ret ?_ | refine J_skip ?_ | refine J_exit ?_ | refine J_scope ?_ | refine CondP.y ?_ | refine CondP.n ?_ | refine CondP.mk (fun h => ?_) (fun h => ?_) | refine EqP.mk rfl ?_ | refine NewP.mk (fun ad => ?_) | refine ArP.x ?_ | refine SideP.a ?_ | refine CallP.mk [_] [_, _, _] [] _ ch (List.Perm.refl _) (fun _ _ => trivial) (fun v L' D' hq => ?_); obtain ⟨l', hp, hs, rfl, rfl, rfl⟩ := hq; rw [sortedH_is hp hs, ← hF, ← hFl] | refine FinE.mk [_] [] ⟨b, d, rfl, rfl, rfl⟩ Ents.a | fail
end Go.Proofs

/- This text holds plain facts on things that are put into lists in order, and on lists of first things. -/
namespace Go.X
open Go Go.Lib
/-- A thing put into a list in order. -/
def addG {α : Type} [DecidableEq α] (cf : α → α → Int) : List α → α → List α
  | [], r => [r]
  | x :: t, r => if cf x r < 0 then x :: addG cf t r else if x = r then x :: t else r :: x :: t
section
variable {α : Type} [DecidableEq α] {cf : α → α → Int}
theorem addG_len (l : List α) (r : α) : (addG cf l r).length ≤ l.length + 1 := by
  induction l with
  | nil => exact Nat.le_refl _
  | cons x t ih =>
    simp only [addG]
    split
    · simp; omega
    · split <;> simp
theorem addG_mem (l : List α) (r z : α) : z ∈ addG cf l r ↔ z ∈ l ∨ z = r := by
  induction l with
  | nil => simp [addG]
  | cons x t ih =>
    simp only [addG]
    split
    · simp [ih, or_assoc]
    · split
      · rename_i h; subst h; simp
        intro h; exact .inl h
      · simp [or_comm, or_assoc, or_left_comm]
theorem addG_str (hc : Cmp cf) (he : ∀ x y, cf x y = 0 → x = y) (l : List α) (r : α) (hl : StrL cf l) : StrL cf (addG cf l r) := by
  induction l with
  | nil => exact List.pairwise_cons.2 ⟨fun _ h => (by cases h), List.Pairwise.nil⟩
  | cons x t ih =>
    have hl' := List.pairwise_cons.1 hl
    simp only [addG]
    split
    · rename_i h
      refine List.pairwise_cons.2 ⟨fun z hz => ?_, ih hl'.2⟩
      rcases (addG_mem t r z).1 hz with hz | hz
      · exact hl'.1 z hz
      · rw [hz]; exact h
    · rename_i h
      split
      · exact hl
      · rename_i hne
        have hs := hc.swap x r
        have hrx : cf r x < 0 := by
          have : cf r x ≠ 0 := fun e => hne (he r x e).symm
          omega
        refine List.pairwise_cons.2 ⟨fun z hz => ?_, hl⟩
        rcases List.mem_cons.1 hz with hz | hz
        · rw [hz]; exact hrx
        · exact hc.lt_trans hrx (by have := hl'.1 z hz; omega)
theorem foldAddG (hc : Cmp cf) (he : ∀ x y, cf x y = 0 → x = y) (l : List α) : ∀ m : List α, StrL cf m → StrL cf (l.foldl (addG cf) m) ∧ ∀ z, z ∈ l.foldl (addG cf) m ↔ z ∈ m ∨ z ∈ l := by
  induction l with
  | nil => intro m hm; exact ⟨hm, fun z => by simp⟩
  | cons x t ih =>
    intro m hm
    obtain ⟨h1, h2⟩ := ih (addG cf m x) (addG_str hc he m x hm)
    refine ⟨h1, fun z => ?_⟩
    rw [List.foldl_cons, h2, addG_mem, List.mem_cons, or_assoc]
theorem addG_at {l : List α} {r : α} {i : Nat} (h : i < l.length) : addG cf (l.drop i) r = if cf l[i] r < 0 then l[i] :: addG cf (l.drop (i + 1)) r else if l[i] = r then l.drop i else r :: l.drop i := by
  rw [List.drop_eq_getElem_cons h, addG]
theorem StrL.nodup (hc : Cmp cf) {l : List α} (h : StrL cf l) : l.Nodup := h.imp fun {x y} hxy e => by
  subst e; have := hc.refl x; omega
theorem foldAddG_len (l : List α) : ∀ m : List α, (l.foldl (addG cf) m).length ≤ m.length + l.length := by
  induction l with
  | nil => intro m; simp
  | cons x t ih =>
    intro m
    have := ih (addG cf m x)
    have := addG_len (cf := cf) m x
    rw [List.foldl_cons, List.length_cons]; omega
end
/-- A title in a list. -/
abbrev TT := Int × List UInt8
def cmpTT (x y : TT) : Int := compareT x.1 x.2 y.1 y.2
theorem cmp_TT : Cmp cmpTT := cmp_title
theorem cmpTT_eq (x y : TT) (h : cmpTT x y = 0) : x = y := by
  obtain ⟨h1, h2⟩ := (compareT_eq _ _ _ _).1 h
  exact Prod.ext h1 h2
end Go.X

/- This text holds the plain form of the reference's Find of chapter 35, and proves that it gives the hits that Find of the package search gives. -/
namespace Go.X
open Go Go.Lib Go.Proofs
end Go.X

/- This text walks through the function Compare of the reference of chapter 1. -/
namespace Go.Proofs
open Go Go.X
set_option maxRecDepth 100000
set_option maxHeartbeats 4000000
theorem refCompareT_ok (a : Int) (x : List UInt8) (b : Int) (y : List UInt8) : FnS Tryz.prog 65 [.agg [.i .i64 a, .s x], .agg [.i .i64 b, .s y]] [] [] (Is (.c (.i .i64 (compareT a x b y)))) := by
  have hl := less_cmp x y
  have he := cmpB_eq x y
  have hr := cmpB_range x y
  have hi := cmpI a b
  obtain ⟨k, hk⟩ : ∃ k, compareT a x b y = k := ⟨_, rfl⟩
  have hk' := hk
  unfold compareT at hk
  rw [hk']
  refine fn_of_J Tryz.tyOK 0 Tryz.func65 (by kernel_rfl) (c := Tryz.f65.body.getD .skip) (by kernel_rfl) Tryz.ntmps65 (rs := Tryz.f65.results.toList) rfl (by simp) (fun G => ?_)
  repeat' first | refine J_seq ?_ | refine J_region Tryz.tyOK ?_ | refine J_block ?_ | refine J_cond ?_ | refine J_ret ?_ | refine J_skip ?_ | refine J_exit ?_ | refine J_scope ?_ | refine CondP.y ?_ | refine CondP.n ?_ | refine CondP.mk (fun h => ?_) (fun h => ?_) | refine EqP.mk rfl ?_ | refine NewP.mk (fun ad => ?_) | refine ArP.x ?_ | refine SideP.a ?_ | refine FinE.int ?_ | fail
  all_goals
    rcases hi with ⟨h0, h1⟩ | ⟨h0, h1⟩ | ⟨h0, h1⟩
    all_goals
      rw [h1] at hk
      simp at hk
      first | omega | (simp_all; done) | (simp_all; omega)
end Go.Proofs

/- This text walks through the functions compare, add and Put of the reference of chapter 35. This text walks through the functions Put of the package search and of the reference of chapter 35: both give the rows in order, without duplicates. -/
namespace Go.X
open Go Go.Lib
theorem rpre {e : Nat} {a : Option Addr} {n c k : Nat} {m : List WR} {L : List Chunk} {D : List Fact} (hm : Chunk.row e 4 a n c (wrC m) ∈ L) (hn : m.length = n) (hk : k ≤ n) : Reads L D e 4 (resl a 0 c 4) k (wrC (m.take k)) := by
  refine .sub a 0 n c (wrC m) hm ?_ (by omega) ?_
  · rw [resl0]; cases a <;> simp [Addr.add]
  · rw [Nat.zero_mul, List.drop_zero, wrC_take]
theorem rsuf {e : Nat} {a : Option Addr} {n c k : Nat} {m : List WR} {L : List Chunk} {D : List Fact} (hm : Chunk.row e 4 a n c (wrC m) ∈ L) (hn : m.length = n) (hk : k ≤ n) (hc : n ≤ c) : Reads L D e 4 (resl a k c 4) (n - k) (wrC (m.drop k)) := by
  by_cases h : k < n
  · exact rsub hm hn h hc
  · have h0 : m.drop k = [] := List.drop_eq_nil_of_le (by omega)
    rw [h0]
    exact .inr fun _ _ => ⟨fun x hx => (by cases hx), .inl ⟨by omega, rfl⟩⟩
end Go.X
namespace Go.Proofs
open Go Go.X
set_option maxRecDepth 100000
set_option maxHeartbeats 4000000
theorem refCmpRow_ok (x y : WR) : FnS Tryz.prog 86 [.agg [.s x.w, .i .i64 x.sp, .s x.nm, .i .i64 x.n], .agg [.s y.w, .i .i64 y.sp, .s y.nm, .i .i64 y.n]] [] [] (Is (.c (.i .i64 (cmpWR x y)))) := by
  obtain ⟨xw, xs, xm, xn⟩ := x
  obtain ⟨yw, ys, ym, yn⟩ := y
  dsimp only
  have ct := refCompareT_ok xs xm ys ym
  have hl := less_cmp xw yw
  have hg := less_cmp yw xw
  have hsw := cmp_bytes.swap xw yw
  have hr := cmpB_range xw yw
  have he := cmpB_eq xw yw
  obtain ⟨k, hk⟩ : ∃ k, cmpWR ⟨xw, xs, xm, xn⟩ ⟨yw, ys, ym, yn⟩ = k := ⟨_, rfl⟩
  rw [hk]
  unfold cmpWR Lib.compareInt at hk
  dsimp only at hk
  generalize compareT xs xm ys ym = q at *
  refine fn_of_J Tryz.tyOK 0 Tryz.func86 (by kernel_rfl) (c := Tryz.f86.body.getD .skip) (by kernel_rfl) Tryz.ntmps86 (rs := Tryz.f86.results.toList) rfl (by simp) (fun G => ?_)
  repeat' first | refine J_seq ?_ | refine J_region Tryz.tyOK ?_ | refine J_block ?_ | refine J_cond ?_ | refine J_ret ?_ | refine J_skip ?_ | refine J_exit ?_ | refine J_scope ?_ | refine CondP.y ?_ | refine CondP.n ?_ | refine CondP.mk (fun h => ?_) (fun h => ?_) | refine EqP.mk rfl ?_ | refine NewP.mk (fun ad => ?_) | refine ArP.x ?_ | refine SideP.a ?_ | refine CallP.is ct ?_ | refine FinE.int ?_ | fail
  all_goals
    clear hg ct hsw
    simp only [hl, ← he] at *
    clear hl he
    generalize Lib.compareBytes xw yw = p at *
    first
      | omega
      | (split at hk <;> first | omega | (split at hk <;> first | omega | (split at hk <;> first | omega | (split at hk <;> omega))))
theorem addW_at {l : List WR} {r : WR} {i : Nat} (h : i < l.length) : addW (l.drop i) r = if cmpWR l[i] r < 0 then l[i] :: addW (l.drop (i + 1)) r else if l[i] = r then l.drop i else r :: l.drop i := by
  rw [List.drop_eq_getElem_cons h, addW]
theorem add_ok (a : Option Addr) (c : Nat) (l : List WR) (r : WR) (hl : l.length ≤ 10000000) :
    FnS Tryz.prog 46 [.c (.sl a l.length c), .agg [.s r.w, .i .i64 r.sp, .s r.nm, .i .i64 r.n]] [.row 60 4 a l.length c (wrC l)] []
      (fun v L D => ∃ a' c', v = .c (.sl a' (addW l r).length c') ∧ L = [.row 60 4 a' (addW l r).length c' (wrC (addW l r))] ∧ D = []) := by
  generalize hW : addW l r = W
  refine fn_of_J Tryz.tyOK 0 Tryz.func46 (by kernel_rfl) (c := Tryz.f46.body.getD .skip) (by kernel_rfl) Tryz.ntmps46 (rs := Tryz.f46.results.toList) rfl (by simp) (fun G => ?_)
  refine J_cap (List.Mem.head _) (fun hnc _ _ => ?_)
  repeat' first | refine J_seq ?_ | refine J_region Tryz.tyOK ?_ | refine J_block ?_ | refine J_cond ?_ | refine J_ret ?_ | refine J_skip ?_ | refine J_exit ?_ | refine J_scope ?_ | refine CondP.y ?_ | refine CondP.n ?_ | refine CondP.mk (fun h => ?_) (fun h => ?_) | refine EqP.mk rfl ?_ | refine NewP.mk (fun ad => ?_) | refine ArP.x ?_ | refine SideP.a ?_ | fail
  refine J_loop (α := Nat) (fun i => [(0, .c (.sl a l.length c)), (3, .c (.p 0 ad 0)), (5, .c (.i .i64 i))]) (fun _ => [.box 0 ad 60 [.s r.w, .i .i64 r.sp, .s r.nm, .i .i64 r.n], .row 60 4 a l.length c (wrC l)]) (fun _ => []) 1
    (fun i => i ≤ l.length ∧ W = l.take i ++ addW (l.drop i) r) (fun i => l.length - i) (InFam.mk 0 ⟨Nat.zero_le _, by rw [← hW]; rfl⟩ SubE.a (Ents.refl _ _)) (fun i hx => ?_)
  obtain ⟨hi, he⟩ := hx
  have h6l : W = l.take i ++ r :: l.drop i → W.length = i + 1 + (l.length - i) := fun h => by rw [h]; simp; omega
  have h6c : W = l.take i ++ r :: l.drop i → wrC W = wrC (l.take i) ++ [.s r.w, .i .i64 r.sp, .s r.nm, .i .i64 r.n] ++ wrC (l.drop i) := fun h => by rw [h]; simp [wrC, WR.cells]
  by_cases hlt : i < l.length
  · have hg := wr_get hlt
    have hat := addW_at (r := r) hlt
    have cc := refCmpRow_ok l[i] r
    have hxe := wr_ext (x := l[i]) (y := r)
    have hxn := wr_ne (x := l[i]) (y := r)
    have ht := List.take_succ_eq_append_getElem hlt
    have hfull : l.take i ++ l.drop i = l := List.take_append_drop i l
    generalize hLI : l[i] = x at *
    have hstep : cmpWR x r < 0 → W = l.take (i + 1) ++ addW (l.drop (i + 1)) r := fun h => by rw [he, hat, if_pos h, ht, List.append_assoc]; rfl
    have hsame : ¬ cmpWR x r < 0 → x = r → W = l := fun h1 h2 => by rw [he, hat, if_neg h1, if_pos h2, hfull]
    have hnew : ¬ cmpWR x r < 0 → ¬ x = r → W = l.take i ++ r :: l.drop i := fun h1 h2 => by rw [he, hat, if_neg h1, if_neg h2]
    clear hat ht hfull he hW
    repeat' first | refine J_seq ?_ | refine J_region Tryz.tyOK ?_ | refine J_block ?_ | refine J_cond ?_ | refine J_ret ?_ | refine J_skip ?_ | refine J_exit ?_ | refine J_scope ?_ | refine CondP.y ?_ | refine CondP.n ?_ | refine CondP.mk (fun h => ?_) (fun h => ?_) | refine EqP.mk rfl ?_ | refine NewP.mk (fun ad => ?_) | refine ArP.x ?_ | refine SideP.a ?_ | refine J_drawS (id := 2) Tryz.tyOK (by kernel_rfl) [0, 0, 2, 7, 15, 31, 31, 127, 255, 31, 1023, 2047, 4095] [0, 1, 2, 3, 4, 5, 6, 7, 8, 9, 10, 11, 12] [] [3, 13] true (by kernel_rfl) ?_ | refine J_drawS (id := 4) Tryz.tyOK (by kernel_rfl) [0, 0, 2, 7, 15, 31, 31, 127, 255, 31, 1023, 2047] [0, 1, 2, 3, 4, 5, 6, 7, 8, 9, 10, 11] [] [3, 28] true (by kernel_rfl) ?_ | refine J_drawT (id := 6) Tryz.tyOK (by kernel_rfl) [0, 0, 3, 7, 0, 16, 63, 0, 0, 384, 1023, 2047] [0, 1, 2, 4, 7, 8, 9] 3 [5, 6, 10, 11] 5 [3, 6, 10, 11] [3, 5, 6, 10] [3] 12 false (by kernel_rfl) ?_ | refine TwoP.mk ?_ ?_ | refine EntP.mk Ents.a ?_ | refine IdxE.mk 60 4 _ (.inl ⟨c, List.Mem.tail _ (List.Mem.head _)⟩) (by omega) (by omega) ?_ | refine LoadE.mk 60 _ _ _ (.inl ⟨c, List.Mem.tail _ (List.Mem.head _)⟩) (by omega) (by omega) (by first | omega | decide) hg ?_ | refine CallQ.mk [] _ cc (fun _ _ => trivial) ?_ | refine Round.mk (i + 1) (by omega) ⟨by omega, hstep (by assumption)⟩ SubE.a (Ents.refl _ _) | refine AppE.nil (wrC (l.take i)) i rfl rfl rfl (SrcE.sl 60 60 _ _ _ _ _ rfl rfl (rpre (List.Mem.tail _ (List.Mem.head _)) rfl hi) (by rw [wrC_len, List.length_take, Nat.min_eq_left hi]; rfl)) (by dsimp only; omega) (fun a' c' => ?_) | refine AppE.nil (wrC (l.take i)) i rfl rfl rfl (SrcE.sl 60 60 _ _ _ _ _ rfl rfl (rpre (List.Mem.tail _ (List.Mem.tail _ (List.Mem.head _))) rfl hi) (by rw [wrC_len, List.length_take, Nat.min_eq_left hi]; rfl)) (by dsimp only; omega) (fun a' c' => ?_) | refine AppE.row [_] _ (wrC (l.take i)) [.s r.w, .i .i64 r.sp, .s r.nm, .i .i64 r.n] 1 rfl (SrcE.sl 60 60 _ _ 1 1 _ rfl rfl (.inl ⟨1, List.Mem.head _⟩) rfl) (by dsimp only; omega) (fun a' c' => ?_) | refine AppE.row [] _ (wrC (l.take i)) [.s r.w, .i .i64 r.sp, .s r.nm, .i .i64 r.n] 1 rfl (SrcE.sl 60 60 _ _ 1 1 _ rfl rfl (.inl ⟨1, List.Mem.tail _ (List.Mem.head _)⟩) rfl) (by dsimp only; omega) (fun a' c' => ?_) | refine AppE.row [_] _ (wrC (l.take i) ++ [.s r.w, .i .i64 r.sp, .s r.nm, .i .i64 r.n]) (wrC (l.drop i)) (l.length - i) rfl (SrcE.sl 60 60 _ _ _ _ _ rfl rfl (rsuf (List.Mem.tail _ (List.Mem.tail _ (List.Mem.tail _ (List.Mem.head _)))) rfl hi hnc) (by rw [wrC_len, List.length_drop]; rfl)) (by dsimp only; omega) (fun a' c' => ?_) | refine AppE.row [] _ (wrC (l.take i) ++ [.s r.w, .i .i64 r.sp, .s r.nm, .i .i64 r.n]) (wrC (l.drop i)) (l.length - i) rfl (SrcE.sl 60 60 _ _ _ _ _ rfl rfl (rsuf (List.Mem.tail _ (List.Mem.tail _ (List.Mem.tail _ (List.Mem.head _)))) rfl hi hnc) (by rw [wrC_len, List.length_drop]; rfl)) (by dsimp only; omega) (fun a' c' => ?_) | refine FinE.mk [_] [] ⟨a, c, by rw [hsame (by assumption) (hxe (by assumption))], by rw [hsame (by assumption) (hxe (by assumption))], rfl⟩ Ents.a | refine FinE.mk [.row 60 4 a' (i + 1 + (l.length - i)) c' (wrC (l.take i) ++ [.s r.w, .i .i64 r.sp, .s r.nm, .i .i64 r.n] ++ wrC (l.drop i))] [] ⟨a', c', by rw [h6l (hnew (by assumption) (hxn (by assumption)))], by rw [h6l (hnew (by assumption) (hxn (by assumption))), h6c (hnew (by assumption) (hxn (by assumption)))], rfl⟩ Ents.a | fail
  · have hil : i = l.length := by omega
    have hdn : l.drop i = [] := List.drop_eq_nil_of_le (by omega)
    have hnew : W = l.take i ++ r :: l.drop i := by rw [he, hdn]; rfl
    repeat' first | refine J_seq ?_ | refine J_region Tryz.tyOK ?_ | refine J_block ?_ | refine J_cond ?_ | refine J_ret ?_ | refine J_skip ?_ | refine J_exit ?_ | refine J_scope ?_ | refine CondP.y ?_ | refine CondP.n ?_ | refine CondP.mk (fun h => ?_) (fun h => ?_) | refine EqP.mk rfl ?_ | refine NewP.mk (fun ad => ?_) | refine ArP.x ?_ | refine SideP.a ?_ | refine J_drawS (id := 2) Tryz.tyOK (by kernel_rfl) [0, 0, 2, 7, 15, 31, 31, 127, 255, 31, 1023, 2047, 4095] [0, 1, 2, 3, 4, 5, 6, 7, 8, 9, 10, 11, 12] [] [3, 13] true (by kernel_rfl) ?_ | refine J_drawS (id := 4) Tryz.tyOK (by kernel_rfl) [0, 0, 2, 7, 15, 31, 31, 127, 255, 31, 1023, 2047] [0, 1, 2, 3, 4, 5, 6, 7, 8, 9, 10, 11] [] [3, 28] true (by kernel_rfl) ?_ | refine J_drawT (id := 6) Tryz.tyOK (by kernel_rfl) [0, 0, 3, 7, 0, 16, 63, 0, 0, 384, 1023, 2047] [0, 1, 2, 4, 7, 8, 9] 3 [5, 6, 10, 11] 5 [3, 6, 10, 11] [3, 5, 6, 10] [3] 12 false (by kernel_rfl) ?_ | refine TwoP.mk ?_ ?_ | refine EntP.mk Ents.a ?_ | refine AppE.nil (wrC (l.take i)) i rfl rfl rfl (SrcE.sl 60 60 _ _ _ _ _ rfl rfl (rpre (List.Mem.tail _ (List.Mem.head _)) rfl hi) (by rw [wrC_len, List.length_take, Nat.min_eq_left hi]; rfl)) (by dsimp only; omega) (fun a' c' => ?_) | refine AppE.nil (wrC (l.take i)) i rfl rfl rfl (SrcE.sl 60 60 _ _ _ _ _ rfl rfl (rpre (List.Mem.tail _ (List.Mem.tail _ (List.Mem.head _))) rfl hi) (by rw [wrC_len, List.length_take, Nat.min_eq_left hi]; rfl)) (by dsimp only; omega) (fun a' c' => ?_) | refine AppE.row [_] _ (wrC (l.take i)) [.s r.w, .i .i64 r.sp, .s r.nm, .i .i64 r.n] 1 rfl (SrcE.sl 60 60 _ _ 1 1 _ rfl rfl (.inl ⟨1, List.Mem.head _⟩) rfl) (by dsimp only; omega) (fun a' c' => ?_) | refine AppE.row [] _ (wrC (l.take i)) [.s r.w, .i .i64 r.sp, .s r.nm, .i .i64 r.n] 1 rfl (SrcE.sl 60 60 _ _ 1 1 _ rfl rfl (.inl ⟨1, List.Mem.tail _ (List.Mem.head _)⟩) rfl) (by dsimp only; omega) (fun a' c' => ?_) | refine AppE.row [_] _ (wrC (l.take i) ++ [.s r.w, .i .i64 r.sp, .s r.nm, .i .i64 r.n]) (wrC (l.drop i)) (l.length - i) rfl (SrcE.sl 60 60 _ _ _ _ _ rfl rfl (rsuf (List.Mem.tail _ (List.Mem.tail _ (List.Mem.tail _ (List.Mem.head _)))) rfl hi hnc) (by rw [wrC_len, List.length_drop]; rfl)) (by dsimp only; omega) (fun a' c' => ?_) | refine AppE.row [] _ (wrC (l.take i) ++ [.s r.w, .i .i64 r.sp, .s r.nm, .i .i64 r.n]) (wrC (l.drop i)) (l.length - i) rfl (SrcE.sl 60 60 _ _ _ _ _ rfl rfl (rsuf (List.Mem.tail _ (List.Mem.tail _ (List.Mem.tail _ (List.Mem.head _)))) rfl hi hnc) (by rw [wrC_len, List.length_drop]; rfl)) (by dsimp only; omega) (fun a' c' => ?_) | refine FinE.mk [.row 60 4 a' (i + 1 + (l.length - i)) c' (wrC (l.take i) ++ [.s r.w, .i .i64 r.sp, .s r.nm, .i .i64 r.n] ++ wrC (l.drop i))] [] ⟨a', c', by rw [h6l hnew], by rw [h6l hnew, h6c hnew], rfl⟩ Ents.a | fail
end Go.Proofs
namespace Go.X
open Go Go.Lib
/-- The rows that Put gives. -/
def putT (l r : List WR) (sp : Int) (nm : List UInt8) : List WR := ordW ((l.filter fun x => !decide (x.sp = sp ∧ x.nm = nm)) ++ r)
end Go.X
namespace Go.Proofs
open Go Go.X
set_option maxRecDepth 100000
set_option maxHeartbeats 4000000
end Go.Proofs

/- This text gives the contracts of strings.IndexAny and strings.ContainsAny at two ASCII characters and any string, and of decoding steps. -/
namespace Go.X
open Go
end Go.X
namespace Go.Proofs
open Go Go.X Go.RowKit Go.Shelf
set_option maxRecDepth 100000
end Go.Proofs

/- This text gives the contract of strings.FieldsFunc at the test for a blank, and the words of a string. -/
namespace Go.X
open Go
/-- The words of a string: what lies between bytes of the kind p. -/
def wordsGo (p : UInt8 → Bool) : List UInt8 → List UInt8 → List (List UInt8)
  | cur, [] => if cur = [] then [] else [cur]
  | cur, b :: r => match p b with
    | true => if cur = [] then wordsGo p [] r else cur :: wordsGo p [] r
    | false => wordsGo p (cur ++ [b]) r
def wordsT (p : UInt8 → Bool) (s : List UInt8) : List (List UInt8) := wordsGo p [] s
theorem wordsGo_run {p : UInt8 → Bool} (b : List UInt8) : ∀ (cur r : List UInt8), (∀ x ∈ b, p x = false) → wordsGo p cur (b ++ r) = wordsGo p (cur ++ b) r := by
  induction b with
  | nil => intro cur r _; simp
  | cons x b ih =>
    intro cur r h
    rw [List.cons_append, wordsGo, h x (by simp)]
    show wordsGo p (cur ++ [x]) (b ++ r) = _
    rw [ih _ _ fun y hy => h y (by simp [hy]), List.append_assoc]; rfl
/-- The part of s from i to j. -/
def part (s : List UInt8) (i j : Nat) : List UInt8 := (s.take j).drop i
theorem part_nil (s : List UInt8) (i : Nat) : part s i i = [] := by
  unfold part; rw [List.drop_eq_nil_of_le]; simp; omega
theorem part_add {s : List UInt8} {i j k : Nat} (h1 : i ≤ j) (h2 : j ≤ k) (h3 : k ≤ s.length) : part s i k = part s i j ++ part s j k := by
  unfold part
  have e : s.take k = s.take j ++ (s.take k).drop j := by
    conv => lhs; rw [← List.take_append_drop j (s.take k)]
    rw [List.take_take, Nat.min_eq_left h2]
  conv => lhs; rw [e]
  exact List.drop_append_of_le_length (by simp; omega)
theorem part_len {s : List UInt8} {i j : Nat} (h1 : i ≤ j) (h2 : j ≤ s.length) : (part s i j).length = j - i := by
  unfold part; simp; omega
/-- Whole pieces that are found and the words that are still to come. -/
structure FInv (p : UInt8 → Bool) (s : List UInt8) (pos : Nat) (sp : List (Nat × Nat)) (st : Int) : Prop where
  ple : pos ≤ s.length
  spl : ∀ x ∈ sp, x.1 ≤ x.2 ∧ x.2 ≤ s.length
  len : sp.length ≤ pos
  lo : -1 - (s.length : Int) ≤ st
  hi : st < pos ∨ st < 0
  w : sp.map (fun x => part s x.1 x.2) ++ wordsGo p (if 0 ≤ st then part s st.toNat pos else []) (s.drop pos) = wordsT p s
theorem FInv.start (p : UInt8 → Bool) (s : List UInt8) : FInv p s 0 [] (-1) :=
  ⟨Nat.zero_le _, (fun x hx => by cases hx), Nat.le_refl _, by omega, .inr (by omega), by simp [wordsT]⟩
theorem FInv.skip {p : UInt8 → Bool} {s : List UInt8} {pos : Nat} {sp : List (Nat × Nat)} {st : Int} (h : FInv p s pos sp st) (hl : pos < s.length) (hb : p (s.getD pos 0) = true) (hs : ¬ 0 ≤ st) : FInv p s (pos + 1) sp st := by
  have hw := h.w
  have hd : s.drop pos = s.getD pos 0 :: s.drop (pos + 1) := by rw [List.drop_eq_getElem_cons hl]; simp [hl]
  rw [if_neg hs, hd, wordsGo, hb] at hw
  refine ⟨by omega, h.spl, by have := h.len; omega, h.lo, .inr (by omega), ?_⟩
  rw [if_neg hs]
  simpa using hw
theorem FInv.done {p : UInt8 → Bool} {s : List UInt8} {sp : List (Nat × Nat)} {st : Int} (h : FInv p s s.length sp st) :
    if 0 ≤ st then (sp ++ [(st.toNat, s.length)]).map (fun x => part s x.1 x.2) = wordsT p s else sp.map (fun x => part s x.1 x.2) = wordsT p s := by
  have hw := h.w
  split
  · rename_i hs
    have h1 : st < s.length := by rcases h.hi with h1 | h1 <;> omega
    have hne : part s st.toNat s.length ≠ [] := fun hc => by
      have := part_len (s := s) (show st.toNat ≤ s.length by omega) (Nat.le_refl _)
      rw [hc] at this
      simp at this; omega
    rw [if_pos hs, List.drop_length, wordsGo, if_neg hne] at hw
    rw [List.map_append]
    exact hw
  · rename_i hs
    rw [if_neg hs, List.drop_length, wordsGo, if_pos rfl, List.append_nil] at hw
    exact hw
def blankB (c : UInt8) : Bool := c == 32 || c == 9
end Go.X
namespace Go.Proofs
open Go Go.X Go.RowKit Go.Shelf
set_option maxRecDepth 100000
end Go.Proofs

/- This text says in plain Lean what the functions on policies compute: names, groups, rules, guards and the first error of a policy. -/
namespace Go.X
abbrev Bs := List UInt8
/-- A group as it lies in memory. -/
structure GrpM where
  name : Bs
  a : Option Addr
  c : Nat
  mem : List Bs
structure Rul where
  allow : Bool
  right : Int
  group : Bs
  kind : Int
  sp : Int
  nm : Bs
structure Grd where
  strict : Bool
  group : Bs
  sp : Int
  nm : Bs
  sect : Bs
def GrpM.cells (g : GrpM) : List C := [.s g.name, .sl g.a g.mem.length g.c]
def Rul.cells (r : Rul) : List C := [.b r.allow, .i .i64 r.right, .s r.group, .i .i64 r.kind, .i .i64 r.sp, .s r.nm]
def Grd.cells (g : Grd) : List C := [.b g.strict, .s g.group, .i .i64 g.sp, .s g.nm, .s g.sect]
def gsC (l : List GrpM) : List C := l.flatMap GrpM.cells
def rsC (l : List Rul) : List C := l.flatMap Rul.cells
def xsC (l : List Grd) : List C := l.flatMap Grd.cells
/-- The members of all groups lie in memory that stays. -/
def memsF (gs : List GrpM) : Fact :=
  ⟨fun m => ∀ g ∈ gs, SlF m 0 1 g.a g.mem.length (g.mem.map C.s), fun m m' hm h g hg => (slFact 0 1 g.a g.mem.length (g.mem.map C.s)).mono m m' hm (h g hg)⟩
/-! ### Names -/
def nameB (c : UInt8) : Bool :=
  !((decide ((c.toNat : Int) < 97) || decide (122 < (c.toNat : Int))) && (decide ((c.toNat : Int) < 48) || decide (57 < (c.toNat : Int))) && !decide ((c.toNat : Int) = 45) && !decide ((c.toNat : Int) = 95))
def isNameT (s : Bs) : Bool :=
  !decide ((s.length : Int) < 1) && !decide (30 < (s.length : Int)) && !decide (((s.getD 0 0).toNat : Int) < 97) && !decide (122 < ((s.getD 0 0).toNat : Int)) && s.all nameB
def bAll : Bs := [97, 108, 108]
def bUsers : Bs := [117, 115, 101, 114, 115]
def builtT (s : Bs) : Bool := decide (s = bAll) || decide (s = bUsers)
def existsT (ns : List Bs) (s : Bs) : Bool := builtT s || ns.any fun x => decide (x = s)
/-- The first error among the members of a group. -/
def memErr (ns : List Bs) : List Bs → Int
  | [] => 0
  | m :: r => if isNameT (Lib.trimPrefix m [64]) = false then 1 else if Lib.hasPrefix m [64] = true ∧ existsT ns (Lib.trimPrefix m [64]) = false then 4 else memErr ns r
def grpErr (ns ahead : List Bs) (name : Bs) (mem : List Bs) : Int :=
  if isNameT name = false then 1 else if existsT ahead name = true then 5 else if 24 < (mem.length : Int) then 3 else memErr ns mem
def scopeOK (kind sp : Int) (nm : Bs) : Bool :=
  if kind = 1 then decide (sp = 0 ∧ nm = []) else if kind = 2 then decide (0 ≤ sp) && decide (sp < 6) && decide (nm = []) else if kind = 3 then validT sp nm else false
def rulErr (ns : List Bs) (r : Rul) : Int :=
  if r.right < 1 ∨ 5 < r.right then 2 else if existsT ns r.group = false then 4 else if scopeOK r.kind r.sp r.nm = false then 7 else 0
/-- Without blanks at both ends. -/
def trimT (s : Bs) : Bs := Lib.trimS s [32, 9]
def sectOK (s : Bs) : Bool := !decide (100 < (s.length : Int)) && !s.any (fun c => c == 10 || c == 124) && decide (trimT s = s)
def grdErr (ns : List Bs) (g : Grd) : Int :=
  if existsT ns g.group = false then 4 else if (validT g.sp g.nm && sectOK g.sect) = false then 7 else 0
/-- The first number other than 0. -/
def firstErr : List Int → Int
  | [] => 0
  | e :: r => if e = 0 then firstErr r else e
/-- The names of groups, with their members. -/
abbrev GP := List (Bs × List Bs)
def grpErrs (gs : GP) : List Int := gs.mapIdx fun i g => grpErr (gs.map (·.1)) ((gs.map (·.1)).take i) g.1 g.2
def validateT (gs : GP) (rs : List Rul) (xs : List Grd) : Int :=
  if 24 < (gs.length : Int) ∨ 64 < (rs.length : Int) ∨ 64 < (xs.length : Int) then 3
  else firstErr (grpErrs gs ++ rs.map (rulErr (gs.map (·.1))) ++ xs.map (grdErr (gs.map (·.1))))
def gpOf (gs : List GrpM) : GP := gs.map fun g => (g.name, g.mem)
end Go.X
