/- This text walks through the function Find of the package search. -/
import Derived.Test.YtcnbkappedemeaaSRows
import Derived.Test.YtcnbkappedemeaaSortS
set_option linter.all false

namespace Go.X
open Go Go.Lib Go.Proofs

theorem gGet_put {α : Type} [DecidableEq α] (kv : List (α × V)) (k : α) (v : V) (q : α) : gGet (gPut kv k v) q = if q = k then some v else gGet kv q := by
  induction kv with
  | nil =>
    simp only [gPut, gGet]
    by_cases h : q = k
    · rw [if_pos h, if_pos h.symm]
    · rw [if_neg h, if_neg fun e => h e.symm]
  | cons x r ih =>
    simp only [gPut]
    split
    · rename_i hx
      simp only [gGet]
      by_cases h : q = k
      · rw [if_pos h, if_pos (hx.trans h.symm)]
      · rw [if_neg h, if_neg fun e => h (e.symm.trans hx), if_neg fun e => h (e.symm.trans hx)]
    · rename_i hx
      simp only [gGet]
      rw [ih]
      by_cases h : x.1 = q
      · rw [if_pos h, if_neg fun e => hx (h.trans e)]
        exact (if_pos h).symm
      · rw [if_neg h, if_neg h]

/-- A word of a page, a title, and their cells. -/
def entF (k : List UInt8 × Int × List UInt8) : List C := [.s k.1, .i .i64 k.2.1, .s k.2.2]
def ttF (k : Int × List UInt8) : List C := [.i .i64 k.1, .s k.2]

/-- A page. -/
structure PG where
  sp : Int
  nm : List UInt8
  tx : List UInt8
  rv : Int
def PG.cells (x : PG) : List C := [.i .i64 x.sp, .s x.nm, .s x.tx, .i .i64 x.rv]
def pgC (l : List PG) : List C := l.flatMap PG.cells
theorem pgC_len (l : List PG) : (pgC l).length = l.length * 4 := flat_len (F := PG.cells) (z := 4) (fun _ => rfl) l
theorem pg_get {l : List PG} {i : Nat} (h : i < l.length) : ((pgC l).drop (i * 4 + 0)).take 4 = [.i .i64 l[i].sp, .s l[i].nm, .s l[i].tx, .i .i64 l[i].rv] := by
  rw [pgC, flat_get (F := PG.cells) (z := 4) (fun _ => rfl) h (by omega)]; rfl

/-- What a view holds beside its pages. -/
structure VT where
  gs : Option Addr × Nat × Nat
  rs : Option Addr × Nat × Nat
  us : Option Addr × Nat × Nat
  gp : Option Addr × Nat × Nat
  ck : Int
  fx : Option Addr × Nat × Nat
def slK (x : Option Addr × Nat × Nat) : C := .sl x.1 x.2.1 x.2.2

/-- The number of the first row with a word and a page. -/
def firstN : List WR → List UInt8 × Int × List UInt8 → Option Int
  | [], _ => none
  | r :: l, k => if (r.w, r.sp, r.nm) = k then some r.n else firstN l k
theorem firstN_snoc (l : List WR) (r : WR) (k : List UInt8 × Int × List UInt8) : firstN (l ++ [r]) k = (firstN l k).or (if k = (r.w, r.sp, r.nm) then some r.n else none) := by
  induction l with
  | nil =>
    simp only [List.nil_append, firstN, Option.none_or]
    by_cases h : k = (r.w, r.sp, r.nm)
    · rw [if_pos h, if_pos h.symm]
    · rw [if_neg h, if_neg fun e => h e.symm]
  | cons x t ih =>
    simp only [List.cons_append, firstN, ih]
    split <;> simp
theorem firstN_mem {l : List WR} {k : List UInt8 × Int × List UInt8} {n : Int} (h : firstN l k = some n) : ∃ r ∈ l, r.n = n := by
  induction l with
  | nil => cases h
  | cons x t ih =>
    simp only [firstN] at h
    split at h
    · exact ⟨x, List.mem_cons_self .., Option.some.inj h⟩
    · obtain ⟨r, h1, h2⟩ := ih h
      exact ⟨r, List.mem_cons_of_mem _ h1, h2⟩
def scoreT (l : List WR) (ws : List (List UInt8)) (p : PG) : Int := (ws.map fun w => (firstN l (w, p.sp, p.nm)).getD 0).sum
def allT (l : List WR) (ws : List (List UInt8)) (p : PG) : Bool := ws.all fun w => (firstN l (w, p.sp, p.nm)).isSome
def hitsGo (l : List WR) (ws : List (List UInt8)) : List (Int × List UInt8) → List PG → List HT
  | _, [] => []
  | seen, p :: r => (if (!decide ((p.sp, p.nm) ∈ seen) && allT l ws p) = true then [⟨p.sp, p.nm, scoreT l ws p⟩] else []) ++ hitsGo l ws (seen ++ [(p.sp, p.nm)]) r
theorem hitsGo_len (l : List WR) (ws : List (List UInt8)) : ∀ (r : List PG) (seen : List (Int × List UInt8)), (hitsGo l ws seen r).length ≤ r.length
  | [], _ => Nat.le_refl _
  | p :: r, seen => by
    simp only [hitsGo, List.length_append, List.length_cons]
    have := hitsGo_len l ws r (seen ++ [(p.sp, p.nm)])
    split <;> simp <;> omega
theorem sum_snoc (l : List Int) (x : Int) : (l ++ [x]).sum = l.sum + x := by
  induction l with
  | nil => simp
  | cons y r ih => simp only [List.cons_append, List.sum_cons, ih]; omega
theorem scoreT_snoc (l : List WR) (ws : List (List UInt8)) (w : List UInt8) (p : PG) : scoreT l (ws ++ [w]) p = scoreT l ws p + (firstN l (w, p.sp, p.nm)).getD 0 := by
  unfold scoreT
  rw [List.map_append, List.map_cons, List.map_nil, sum_snoc]
theorem allT_snoc (l : List WR) (ws : List (List UInt8)) (w : List UInt8) (p : PG) : allT l (ws ++ [w]) p = (allT l ws p && (firstN l (w, p.sp, p.nm)).isSome) := by
  unfold allT
  rw [List.all_append]; simp
def leH (x y : HT) : Bool := decide (cmpHT x y ≤ 0)
theorem cmpHT_eq (x y : HT) (h : cmpHT x y = 0) : x = y := by
  unfold cmpHT at h
  split at h
  · rename_i h1; exact absurd h h1
  · rename_i h1
    have e2 := (compareT_eq _ _ _ _).1 h
    have e3 : x.n = y.n := by
      have h1 := Classical.not_not.1 h1
      unfold Lib.compareInt at h1
      split at h1
      · omega
      · split at h1
        · omega
        · omega
    obtain ⟨a, b, c⟩ := x
    obtain ⟨a', b', c'⟩ := y
    dsimp only at e2 e3
    obtain ⟨e4, e5⟩ := e2
    subst e4 e5 e3
    rfl
theorem leH_total (x y : HT) : (leH x y || leH y x) = true := by
  have := cmp_HT.swap x y
  simp only [leH, Bool.or_eq_true, decide_eq_true_eq]
  omega
theorem leH_trans (x y z : HT) (h1 : leH x y = true) (h2 : leH y z = true) : leH x z = true := by
  simp only [leH, decide_eq_true_eq] at *
  exact cmp_HT.trans x y z h1 h2
theorem sortedH_is {l l' : List HT} (hp : l'.Perm l) (hs : l'.Pairwise fun x y => ltOf cmpHT y x = false) : l' = l.mergeSort leH := by
  refine ordL_eq cmp_HT cmpHT_eq (ordL_of cmp_HT hs) ?_ (hp.trans (List.mergeSort_perm l leH).symm)
  refine (List.pairwise_mergeSort leH_trans leH_total l).imp fun {x y} h => ?_
  simpa [leH] using h
/-- The words of a query, in order. -/
def queryT (q : List UInt8) : List (List UInt8) := cmps (srtS (wordsS q))
/-- The hits. -/
def findT (l : List WR) (ps : List PG) (q : List UInt8) : List HT := if queryT q = [] then [] else (hitsGo l (queryT q) [] ps).mergeSort leH

end Go.X

namespace Go.Proofs
open Go Go.X
set_option maxRecDepth 100000
set_option maxHeartbeats 4000000

theorem entK : KeyP Try.tyT 80 entF := by
  refine ⟨⟨5, by omega, fun a b => ⟨_, rfl, ?_⟩⟩, fun a c hc => ?_⟩
  · obtain ⟨a1, a2, a3⟩ := a
    obtain ⟨b1, b2, b3⟩ := b
    simp [and_assoc]
  · simp only [entF, List.mem_cons, List.not_mem_nil, or_false] at hc
    rcases hc with rfl | rfl | rfl <;> rfl
theorem ttK : KeyP Try.tyT 33 ttF := by
  refine ⟨⟨5, by omega, fun a b => ⟨_, rfl, ?_⟩⟩, fun a c hc => ?_⟩
  · obtain ⟨a1, a2⟩ := a
    obtain ⟨b1, b2⟩ := b
    simp
  · simp only [ttF, List.mem_cons, List.not_mem_nil, or_false] at hc
    rcases hc with rfl | rfl <;> rfl

theorem cmpsGo_len : ∀ (r : List (List UInt8)) (p : List UInt8), (cmpsGo p r).length ≤ r.length
  | [], _ => Nat.le_refl _
  | y :: r, p => by
    simp only [cmpsGo]
    split
    · have := cmpsGo_len r p; simp; omega
    · have := cmpsGo_len r y; simp; omega
theorem queryT_len (q : List UInt8) : (queryT q).length ≤ q.length + 1 := by
  have h1 := wordsR_len q []
  have h2 : (srtS (wordsS q)).length = (wordsS q).length := List.length_mergeSort ..
  unfold queryT
  generalize srtS (wordsS q) = s at *
  cases s with
  | nil => exact Nat.zero_le _
  | cons x r =>
    have := cmpsGo_len r x
    simp only [cmps, List.length_cons] at *
    unfold wordsS at h2
    omega

theorem find_ok (e e' : Nat) (la pa : Option Addr) (lc pc : Nat) (l : List WR) (ps : List PG) (vt : VT) (q : List UInt8) (hl : l.length ≤ 1000) (hb : ∀ r ∈ l, -1099511627776 ≤ r.n ∧ r.n ≤ 1099511627776) (hps : ps.length ≤ 1000) (hq : q.length ≤ 1000) :
    FnS Try.prog 19 [.c (.sl la l.length lc), .agg [.sl pa ps.length pc, slK vt.gs, slK vt.rs, slK vt.us, slK vt.gp, .i .i64 vt.ck, slK vt.fx], .c (.s q)] [] [slFact e 4 la l.length (wrC l), slFact e' 4 pa ps.length (pgC ps)]
      (fun v L D => ∃ a' c', v = .c (.sl a' (findT l ps q).length c') ∧ L = [.row 57 3 a' (findT l ps q).length c' (htC (findT l ps q))] ∧ D = []) := by
  have cw := words_ok q (by omega)
  have hwl := wordsR_len q []
  have hql := queryT_len q
  have cs := fun a c => sortS_ok a c (wordsS q) (by unfold wordsS; omega)
  have hsl : (srtS (wordsS q)).length = (wordsS q).length := List.length_mergeSort ..
  have cc := fun a c => cptS_ok a c (srtS (wordsS q)) (by rw [hsl]; unfold wordsS; omega)
  rw [hsl] at cc
  have hF : findT l ps q = if queryT q = [] then [] else (hitsGo l (queryT q) [] ps).mergeSort leH := rfl
  change ∀ a c, FnS _ _ _ _ _ (fun v L D => v = .c (.sl a (queryT q).length c) ∧ L = [.row _ 1 a (queryT q).length c (sC (queryT q))] ∧ D = []) at cc
  generalize findT l ps q = F at *
  generalize queryT q = ws at *
  generalize wordsS q = ws0 at *
  refine fn_of_J Try.tyOK 0 Try.func19 (by kernel_rfl) (c := Try.f19.body.getD .skip) (by kernel_rfl) Try.ntmps19 (rs := Try.f19.results.toList) rfl (by simp) (fun G => ?_)
  repeat' first
    | refine J_seq ?_ | refine J_region Try.tyOK ?_ | refine J_block ?_ | refine J_cond ?_ | refine J_ret ?_ | refine J_skip ?_ | refine J_exit ?_ | refine J_scope ?_
    | refine CondP.yes (by omega) ?_ | refine CondP.no (by omega) ?_ | refine CondP.mk (fun h => ?_) (fun h => ?_) | refine EqP.mk rfl ?_ | refine NewP.mk (fun ad => ?_) | refine ArP.exact (by simp only [inR]; omega) ?_ | refine SideP.mk (by first | omega | (dsimp only; omega) | (simp; omega)) ?_
    | refine CallP.mk [] [_] [] _ cw (List.Perm.refl _) (fun _ _ => trivial) (fun v L' D' hq => ?_); obtain ⟨a1, k1, rfl, rfl, rfl⟩ := hq | refine CallP.mk [_] [_] [] _ (cs _ _) (List.Perm.refl _) (fun _ _ => trivial) (fun v L' D' hq => ?_); obtain ⟨rfl, rfl, rfl⟩ := hq | refine CallP.mk [_] [_] [] _ (cc _ _) (List.Perm.refl _) (fun _ _ => trivial) (fun v L' D' hq => ?_); obtain ⟨rfl, rfl, rfl⟩ := hq
    | fail
  · rw [if_pos (List.eq_nil_of_length_eq_zero (by omega))] at hF
    subst hF
    repeat' first
      | refine J_seq ?_ | refine J_region Try.tyOK ?_ | refine J_block ?_ | refine J_cond ?_ | refine J_ret ?_ | refine J_skip ?_ | refine J_exit ?_ | refine J_scope ?_
      | refine CondP.yes (by omega) ?_ | refine CondP.no (by omega) ?_ | refine CondP.mk (fun h => ?_) (fun h => ?_) | refine EqP.mk rfl ?_ | refine NewP.mk (fun ad => ?_) | refine ArP.exact (by simp only [inR]; omega) ?_ | refine SideP.mk (by first | omega | (dsimp only; omega) | (simp; omega)) ?_
      | refine FinE.mk [_] [] ⟨none, 0, rfl, rfl, rfl⟩ ((Ents.drop.trans Ents.drop).trans ((Ents.nilRow (ety := 57) (esz := 3)).trans (Ents.facts fun _ _ => trivial)))
      | fail
  · rw [if_neg (fun e => by subst e; simp at h)] at hF
    have hwsl : ws.length ≤ 1001 := by omega
    clear cw cs cc hwl hsl hq hql
    generalize hH : hitsGo l ws [] ps = H at *
    have hHl : H.length ≤ ps.length := by rw [← hH]; exact hitsGo_len l ws ps []
    have hr1 : ∀ L, Reads L [slFact e 4 la l.length (wrC l), slFact e' 4 pa ps.length (pgC ps)] e 4 la l.length (wrC l) := fun L => .inr fun m h => h.1
    have hr2 : ∀ L, Reads L [slFact e 4 la l.length (wrC l), slFact e' 4 pa ps.length (pgC ps)] e' 4 pa ps.length (pgC ps) := fun L => .inr fun m h => h.2.1
    repeat' first
      | refine J_seq ?_ | refine J_region Try.tyOK ?_ | refine J_block ?_ | refine J_cond ?_ | refine J_ret ?_ | refine J_skip ?_ | refine J_exit ?_ | refine J_scope ?_
      | refine CondP.yes (by omega) ?_ | refine CondP.no (by omega) ?_ | refine CondP.mk (fun h => ?_) (fun h => ?_) | refine EqP.mk rfl ?_ | refine NewP.mk (fun ad => ?_) | refine ArP.exact (by simp only [inR]; omega) ?_ | refine SideP.mk (by first | omega | (dsimp only; omega) | (simp; omega)) ?_
      | fail
    rename_i ad0
    refine J_loop (α := Nat × List ((List UInt8 × Int × List UInt8) × V)) (fun x => [(4, .c (.p 0 ad0 0)), (7, .c (.sl a1 ws.length k1)), (8, .c (.m 1 ad)), (34, .c (.sl la l.length lc)), (35, .c (.i .i64 l.length)), (36, .c (.i .i64 x.1))]) (fun x => [.obj 1 ad (gO (aggV entF) x.2), .row 9 1 a1 ws.length k1 (sC ws), .box 0 ad0 54 [.sl pa ps.length pc, slK vt.gs, slK vt.rs, slK vt.us, slK vt.gp, .i .i64 vt.ck, slK vt.fx]]) (fun _ => [slFact e 4 la l.length (wrC l), slFact e' 4 pa ps.length (pgC ps)]) 2
      (fun x => x.1 ≤ l.length ∧ ∀ k, gGet x.2 k = (firstN (l.take x.1) k).map fun n => V.c (.i .i64 n)) (fun x => l.length - x.1) (InFam.mk (0, []) ⟨Nat.zero_le _, fun _ => rfl⟩ (by repeat' first | exact SubE.nil | refine SubE.cons rfl ?_ ?_ | exact VEq.refl _ | refine VEq.int (by omega) | refine VEq.sl rfl (by first | rfl | omega | (rw [List.length_append]; rfl) | (simp; omega)) rfl) (Ents.refl _ _)) (fun x hx => ?_)
    obtain ⟨i, kv⟩ := x
    dsimp only at hx ⊢
    obtain ⟨hi, hkv⟩ := hx
    by_cases hlt : i < l.length
    · have hg := wr_get hlt
      have ht := List.take_succ_eq_append_getElem hlt
      generalize l[i] = x at *
      have hG := hkv (x.w, x.sp, x.nm)
      cases hfn : firstN (l.take i) (x.w, x.sp, x.nm) with
      | none =>
        rw [hfn] at hG
        have hG : gGet kv (x.w, x.sp, x.nm) = none := hG
        have hnew : ∀ k, gGet (gPut kv (x.w, x.sp, x.nm) (.c (.i .i64 x.n))) k = (firstN (l.take (i + 1)) k).map fun n => V.c (.i .i64 n) := fun k => by
          rw [gGet_put, ht, firstN_snoc, hkv]
          by_cases hk : k = (x.w, x.sp, x.nm)
          · subst hk
            rw [if_pos rfl, hfn, if_pos rfl]; rfl
          · rw [if_neg hk, if_neg hk, Option.or_none]
        repeat' first
          | refine J_seq ?_ | refine J_region Try.tyOK ?_ | refine J_block ?_ | refine J_cond ?_ | refine J_ret ?_ | refine J_skip ?_ | refine J_exit ?_ | refine J_scope ?_
          | refine CondP.yes (by omega) ?_ | refine CondP.no (by omega) ?_ | refine CondP.mk (fun h => ?_) (fun h => ?_) | refine EqP.mk rfl ?_ | refine NewP.mk (fun ad => ?_) | refine ArP.exact (by simp only [inR]; omega) ?_ | refine SideP.mk (by first | omega | (dsimp only; omega) | (simp; omega)) ?_
          | refine IdxE.mk e 4 _ (hr1 _) (by omega) (by omega) ?_ | refine LoadE.mk e _ _ _ (hr1 _) (by omega) (by omega) (by first | omega | decide) hg ?_ | refine LookG.mk _ inferInstance entF kv (x.w, x.sp, x.nm) rfl rfl rfl entK (fun v hv => absurd (hG.symm.trans hv) (by simp)) (fun _ => ?_) | refine UpdG.mk _ inferInstance entF kv (x.w, x.sp, x.nm) rfl rfl rfl entK ?_ | refine Round.mk (i + 1, gPut kv (x.w, x.sp, x.nm) (.c (.i .i64 x.n))) (by dsimp only; omega) ⟨by dsimp only; omega, hnew⟩ (by repeat' first | exact SubE.nil | refine SubE.cons rfl ?_ ?_ | exact VEq.refl _ | refine VEq.int (by omega) | refine VEq.sl rfl (by first | rfl | omega | (rw [List.length_append]; rfl) | (simp; omega)) rfl) (Ents.ofSub (by repeat (first | exact List.Sublist.slnil | refine List.Sublist.cons_cons _ ?_ | refine List.Sublist.cons _ ?_)) (by first | exact fun _ h => h | exact fun _ _ => trivial | exact fun _ h => h.2 | exact fun _ h => h.2.2.2.2 | exact fun _ h => h.2.2 | exact fun _ h => h.2.2.2 | exact fun _ h => h.2.2.2.2.2 | exact fun _ h => h.2.2.2.2.2.2 | exact fun _ h => h.2.2.2.2.2.2.2 | exact fun _ h => h.2.2.2.2.2.2.2.2 | exact fun _ h => h.2.2.2.2.2.2.2.2.2 | exact fun _ h => h.2.2.2.2.2.2.2.2.2.2 | exact fun _ h => ((allD_append _ _).1 h).2))
          | fail
      | some n =>
        rw [hfn] at hG
        have hG : gGet kv (x.w, x.sp, x.nm) = some (.c (.i .i64 n)) := hG
        have hnew : ∀ k, gGet kv k = (firstN (l.take (i + 1)) k).map fun n => V.c (.i .i64 n) := fun k => by
          rw [ht, firstN_snoc, hkv]
          by_cases hk : k = (x.w, x.sp, x.nm)
          · subst hk
            rw [hfn]; rfl
          · rw [if_neg hk, Option.or_none]
        repeat' first
          | refine J_seq ?_ | refine J_region Try.tyOK ?_ | refine J_block ?_ | refine J_cond ?_ | refine J_ret ?_ | refine J_skip ?_ | refine J_exit ?_ | refine J_scope ?_
          | refine CondP.yes (by omega) ?_ | refine CondP.no (by omega) ?_ | refine CondP.mk (fun h => ?_) (fun h => ?_) | refine EqP.mk rfl ?_ | refine NewP.mk (fun ad => ?_) | refine ArP.exact (by simp only [inR]; omega) ?_ | refine SideP.mk (by first | omega | (dsimp only; omega) | (simp; omega)) ?_
          | refine IdxE.mk e 4 _ (hr1 _) (by omega) (by omega) ?_ | refine LoadE.mk e _ _ _ (hr1 _) (by omega) (by omega) (by first | omega | decide) hg ?_ | refine LookG.mk _ inferInstance entF kv (x.w, x.sp, x.nm) rfl rfl rfl entK (fun v hv => ?_) (fun hn => absurd (hG.symm.trans hn) (by simp)); cases hG.symm.trans hv | refine Round.mk (i + 1, kv) (by dsimp only; omega) ⟨by dsimp only; omega, hnew⟩ (by repeat' first | exact SubE.nil | refine SubE.cons rfl ?_ ?_ | exact VEq.refl _ | refine VEq.int (by omega) | refine VEq.sl rfl (by first | rfl | omega | (rw [List.length_append]; rfl) | (simp; omega)) rfl) (Ents.ofSub (by repeat (first | exact List.Sublist.slnil | refine List.Sublist.cons_cons _ ?_ | refine List.Sublist.cons _ ?_)) (by first | exact fun _ h => h | exact fun _ _ => trivial | exact fun _ h => h.2 | exact fun _ h => h.2.2.2.2 | exact fun _ h => h.2.2 | exact fun _ h => h.2.2.2 | exact fun _ h => h.2.2.2.2.2 | exact fun _ h => h.2.2.2.2.2.2 | exact fun _ h => h.2.2.2.2.2.2.2 | exact fun _ h => h.2.2.2.2.2.2.2.2 | exact fun _ h => h.2.2.2.2.2.2.2.2.2 | exact fun _ h => h.2.2.2.2.2.2.2.2.2.2 | exact fun _ h => ((allD_append _ _).1 h).2))
          | fail
    · have hil : i = l.length := by omega
      subst hil
      rw [List.take_length] at hkv
      clear hi hlt
      repeat' first
        | refine J_seq ?_ | refine J_region Try.tyOK ?_ | refine J_block ?_ | refine J_cond ?_ | refine J_ret ?_ | refine J_skip ?_ | refine J_exit ?_ | refine J_scope ?_
        | refine CondP.yes (by omega) ?_ | refine CondP.no (by omega) ?_ | refine CondP.mk (fun h => ?_) (fun h => ?_) | refine EqP.mk rfl ?_ | refine NewP.mk (fun ad => ?_) | refine ArP.exact (by simp only [inR]; omega) ?_ | refine SideP.mk (by first | omega | (dsimp only; omega) | (simp; omega)) ?_
        | fail
      rename_i am
      refine J_loop (α := Nat × List ((Int × List UInt8) × V) × List HT × Option Addr × Nat) (fun x => [(7, .c (.sl a1 ws.length k1)), (8, .c (.m 1 am)), (14, .c (.m 2 ad)), (15, .c (.sl x.2.2.2.1 x.2.2.1.length x.2.2.2.2)), (60, .c (.sl pa ps.length pc)), (61, .c (.i .i64 ps.length)), (62, .c (.i .i64 x.1))]) (fun x => [.row 57 3 x.2.2.2.1 x.2.2.1.length x.2.2.2.2 (htC x.2.2.1), .obj 2 ad (gO (aggV ttF) x.2.1), .obj 1 am (gO (aggV entF) kv), .row 9 1 a1 ws.length k1 (sC ws)]) (fun _ => [slFact e 4 la l.length (wrC l), slFact e' 4 pa ps.length (pgC ps)]) 3
        (fun x => x.1 ≤ ps.length ∧ (∀ k, gGet x.2.1 k = if k ∈ (ps.take x.1).map (fun p => (p.sp, p.nm)) then some tt else none) ∧ H = x.2.2.1 ++ hitsGo l ws ((ps.take x.1).map fun p => (p.sp, p.nm)) (ps.drop x.1)) (fun x => ps.length - x.1) (InFam.mk (0, [], [], none, 0) ⟨Nat.zero_le _, fun k => rfl, hH.symm⟩ (by repeat' first | exact SubE.nil | refine SubE.cons rfl ?_ ?_ | exact VEq.refl _ | refine VEq.int (by omega) | refine VEq.sl rfl (by first | rfl | omega | (rw [List.length_append]; rfl) | (simp; omega)) rfl) ((Ents.nilRow (ety := 57) (esz := 3)).trans (Ents.ofSub (by repeat (first | exact List.Sublist.slnil | refine List.Sublist.cons_cons _ ?_ | refine List.Sublist.cons _ ?_)) (by first | exact fun _ h => h | exact fun _ _ => trivial | exact fun _ h => h.2 | exact fun _ h => h.2.2.2.2 | exact fun _ h => h.2.2 | exact fun _ h => h.2.2.2 | exact fun _ h => h.2.2.2.2.2 | exact fun _ h => h.2.2.2.2.2.2 | exact fun _ h => h.2.2.2.2.2.2.2 | exact fun _ h => h.2.2.2.2.2.2.2.2 | exact fun _ h => h.2.2.2.2.2.2.2.2.2 | exact fun _ h => h.2.2.2.2.2.2.2.2.2.2 | exact fun _ h => ((allD_append _ _).1 h).2)))) (fun x hx => ?_)
      obtain ⟨i, mv, out, b, d⟩ := x
      dsimp only at hx ⊢
      obtain ⟨hi, hmv, he⟩ := hx
      have hol : out.length ≤ 1000 := by rw [he, List.length_append] at hHl; omega
      by_cases hlt : i < ps.length
      · clear hF
        have hg := pg_get hlt
        have ht : (ps.take (i + 1)).map (fun p => (p.sp, p.nm)) = (ps.take i).map (fun p => (p.sp, p.nm)) ++ [(ps[i].sp, ps[i].nm)] := by rw [List.take_succ_eq_append_getElem hlt, List.map_append]; rfl
        rw [List.drop_eq_getElem_cons hlt, hitsGo, ← ht] at he
        generalize ps[i] = p at *
        generalize hS : (ps.take i).map (fun p => (p.sp, p.nm)) = S at *
        generalize hS' : (ps.take (i + 1)).map (fun p => (p.sp, p.nm)) = S' at *
        have hmv' : ∀ k, gGet (gPut mv (p.sp, p.nm) tt) k = if k ∈ S' then some tt else none := fun k => by
          rw [gGet_put, hmv, ht]
          by_cases hk : k = (p.sp, p.nm)
          · rw [if_pos hk, if_pos (by rw [hk]; simp)]
          · rw [if_neg hk]
            by_cases hk2 : k ∈ S
            · rw [if_pos hk2, if_pos (by simp [hk2])]
            · rw [if_neg hk2, if_neg (by simp [hk2, hk])]
        have hM := hmv (p.sp, p.nm)
        have hm : ∃ m : Bool, m = !decide ((p.sp, p.nm) ∈ S) := ⟨_, rfl⟩
        obtain ⟨m, hm⟩ := hm
        rw [← hm] at he
        have hMm : gGet mv (p.sp, p.nm) = if m = true then none else some tt := by
          rw [hM, hm]
          by_cases hk : (p.sp, p.nm) ∈ S
          · rw [if_pos hk, decide_eq_true hk]; rfl
          · rw [if_neg hk, decide_eq_false hk]; rfl
        have hrw : ∀ A B, Reads (A :: B :: .obj 2 ad (gO (aggV ttF) mv) :: .obj 1 am (gO (aggV entF) kv) :: [.row 9 1 a1 ws.length k1 (sC ws)]) [slFact e 4 la l.length (wrC l), slFact e' 4 pa ps.length (pgC ps)] 9 1 a1 ws.length (sC ws) := fun A B => .inl ⟨k1, .tail _ (.tail _ (.tail _ (.tail _ (.head _))))⟩
        clear hM hm
        cases m
        · have hG : gGet mv (p.sp, p.nm) = some tt := hMm
          clear hMm
          repeat' first
            | refine J_seq ?_ | refine J_region Try.tyOK ?_ | refine J_block ?_ | refine J_cond ?_ | refine J_ret ?_ | refine J_skip ?_ | refine J_exit ?_ | refine J_scope ?_
            | refine CondP.yes (by omega) ?_ | refine CondP.no (by omega) ?_ | refine CondP.mk (fun h => ?_) (fun h => ?_) | refine EqP.mk rfl ?_ | refine NewP.mk (fun ad => ?_) | refine ArP.exact (by simp only [inR]; omega) ?_ | refine SideP.mk (by first | omega | (dsimp only; omega) | (simp; omega)) ?_
            | refine J_drawS (id := 20) Try.tyOK (by kernel_rfl) [0, 0, 2, 7, 15, 0, 63] [0, 1, 2, 5, 3, 4, 6] [3] [17] true (by kernel_rfl) ?_ | refine EntP.mk (Ents.ofSub (by repeat (first | exact List.Sublist.slnil | refine List.Sublist.cons_cons _ ?_ | refine List.Sublist.cons _ ?_)) (by first | exact fun _ h => h | exact fun _ _ => trivial | exact fun _ h => h.2 | exact fun _ h => h.2.2.2.2 | exact fun _ h => h.2.2 | exact fun _ h => h.2.2.2 | exact fun _ h => h.2.2.2.2.2 | exact fun _ h => h.2.2.2.2.2.2 | exact fun _ h => h.2.2.2.2.2.2.2 | exact fun _ h => h.2.2.2.2.2.2.2.2 | exact fun _ h => h.2.2.2.2.2.2.2.2.2 | exact fun _ h => h.2.2.2.2.2.2.2.2.2.2 | exact fun _ h => ((allD_append _ _).1 h).2)) ?_ | refine IdxE.mk e' 4 _ (hr2 _) (by omega) (by omega) ?_ | refine LoadE.mk e' _ _ _ (hr2 _) (by omega) (by omega) (by first | omega | decide) hg ?_ | refine LookG.mk _ inferInstance ttF mv (p.sp, p.nm) rfl rfl rfl ttK (fun v hv => ?_) (fun hn => absurd (hG.symm.trans hn) (by simp)); cases hG.symm.trans hv
            | fail
          clear hG
          rename_i ad2
          refine J_loop (α := Nat × Int × Bool) (fun x => [(7, .c (.sl a1 ws.length k1)), (8, .c (.m 1 am)), (14, .c (.m 2 ad2)), (15, .c (.sl b out.length d)), (17, .c (.p 3 ad 0)), (18, .c (.i .i64 x.2.1)), (19, .c (.b x.2.2)), (60, .c (.sl pa ps.length pc)), (61, .c (.i .i64 ps.length)), (62, .c (.i .i64 i)), (71, .c (.sl a1 ws.length k1)), (72, .c (.i .i64 ws.length)), (73, .c (.i .i64 x.1))]) (fun x => [.box 3 ad 45 [.i .i64 p.sp, .s p.nm, .s p.tx, .i .i64 p.rv], .row 57 3 b out.length d (htC out), .obj 2 ad2 (gO (aggV ttF) mv), .obj 1 am (gO (aggV entF) kv), .row 9 1 a1 ws.length k1 (sC ws)]) (fun _ => [slFact e 4 la l.length (wrC l), slFact e' 4 pa ps.length (pgC ps)]) 4
            (fun x => x.1 ≤ ws.length ∧ x.2.1 = scoreT l (ws.take x.1) p ∧ x.2.2 = (false && allT l (ws.take x.1) p) ∧ -((x.1 : Int) * 1099511627776) ≤ x.2.1 ∧ x.2.1 ≤ (x.1 : Int) * 1099511627776) (fun x => ws.length - x.1) (InFam.mk (0, 0, false) ⟨Nat.zero_le _, rfl, rfl, by decide, by decide⟩ (by repeat' first | exact SubE.nil | refine SubE.cons rfl ?_ ?_ | exact VEq.refl _ | refine VEq.int (by omega) | refine VEq.sl rfl (by first | rfl | omega | (rw [List.length_append]; rfl) | (simp; omega)) rfl) (Ents.refl _ _)) (fun x hx => ?_)
          obtain ⟨k, sc, al⟩ := x
          dsimp only at hx ⊢
          obtain ⟨hk, hsc, hal, hs1, hs2⟩ := hx
          by_cases hkw : k < ws.length
          · have hgw : ((sC ws).drop (k * 1 + 0)).take 1 = [.s ws[k]] := s_get hkw
            have hsn := scoreT_snoc l (ws.take k) ws[k] p
            have han := allT_snoc l (ws.take k) ws[k] p
            rw [← List.take_succ_eq_append_getElem hkw] at hsn han
            generalize ws[k] = w at *
            rw [← hsc] at hsn
            have hG := hkv (w, p.sp, p.nm)
            have hmem := fun n h => firstN_mem (l := l) (k := (w, p.sp, p.nm)) (n := n) h
            cases hfn : firstN l (w, p.sp, p.nm) with
            | none =>
              rw [hfn] at hG hsn han
              have hG : gGet kv (w, p.sp, p.nm) = none := hG
              have hsn : scoreT l (ws.take (k + 1)) p = sc + 0 := hsn
              have han : (false && allT l (ws.take (k + 1)) p) = false := by rw [han]; simp
              clear hal
              cases al
              all_goals
                repeat' first
                  | refine J_seq ?_ | refine J_region Try.tyOK ?_ | refine J_block ?_ | refine J_cond ?_ | refine J_ret ?_ | refine J_skip ?_ | refine J_exit ?_ | refine J_scope ?_
                  | refine CondP.yes (by omega) ?_ | refine CondP.no (by omega) ?_ | refine CondP.mk (fun h => ?_) (fun h => ?_) | refine EqP.mk rfl ?_ | refine NewP.mk (fun ad => ?_) | refine ArP.exact (by simp only [inR]; omega) ?_ | refine SideP.mk (by first | omega | (dsimp only; omega) | (simp; omega)) ?_
                  | refine IdxE.mk 9 1 _ (hrw _ _) (by omega) (by omega) ?_ | refine LoadE.mk 9 _ _ _ (hrw _ _) (by omega) (by omega) (by omega) hgw ?_ | refine LookG.mk _ inferInstance entF kv (w, p.sp, p.nm) rfl rfl rfl entK (fun v hv => absurd (hG.symm.trans hv) (by simp)) (fun hnn => ?_) | refine Round.mk (k + 1, sc + 0, false) (by dsimp only; omega) ⟨by dsimp only; omega, hsn.symm, han.symm, by dsimp only; omega, by dsimp only; omega⟩ (by repeat' first | exact SubE.nil | refine SubE.cons rfl ?_ ?_ | exact VEq.refl _ | refine VEq.int (by omega) | refine VEq.sl rfl (by first | rfl | omega | (rw [List.length_append]; rfl) | (simp; omega)) rfl) (Ents.ofSub (by repeat (first | exact List.Sublist.slnil | refine List.Sublist.cons_cons _ ?_ | refine List.Sublist.cons _ ?_)) (by first | exact fun _ h => h | exact fun _ _ => trivial | exact fun _ h => h.2 | exact fun _ h => h.2.2.2.2 | exact fun _ h => h.2.2 | exact fun _ h => h.2.2.2 | exact fun _ h => h.2.2.2.2.2 | exact fun _ h => h.2.2.2.2.2.2 | exact fun _ h => h.2.2.2.2.2.2.2 | exact fun _ h => h.2.2.2.2.2.2.2.2 | exact fun _ h => h.2.2.2.2.2.2.2.2.2 | exact fun _ h => h.2.2.2.2.2.2.2.2.2.2 | exact fun _ h => ((allD_append _ _).1 h).2))
                  | fail
            | some n =>
              obtain ⟨r, hr, hrn⟩ := hmem n hfn
              have hbr := hb r hr
              rw [hrn] at hbr
              rw [hfn] at hG hsn han
              have hG : gGet kv (w, p.sp, p.nm) = some (.c (.i .i64 n)) := hG
              have hsn : scoreT l (ws.take (k + 1)) p = sc + n := hsn
              have han : (false && allT l (ws.take (k + 1)) p) = al := by rw [han, hal]; simp
              clear hal
              cases al
              all_goals
                repeat' first
                  | refine J_seq ?_ | refine J_region Try.tyOK ?_ | refine J_block ?_ | refine J_cond ?_ | refine J_ret ?_ | refine J_skip ?_ | refine J_exit ?_ | refine J_scope ?_
                  | refine CondP.yes (by omega) ?_ | refine CondP.no (by omega) ?_ | refine CondP.mk (fun h => ?_) (fun h => ?_) | refine EqP.mk rfl ?_ | refine NewP.mk (fun ad => ?_) | refine ArP.exact (by simp only [inR]; omega) ?_ | refine SideP.mk (by first | omega | (dsimp only; omega) | (simp; omega)) ?_
                  | refine IdxE.mk 9 1 _ (hrw _ _) (by omega) (by omega) ?_ | refine LoadE.mk 9 _ _ _ (hrw _ _) (by omega) (by omega) (by omega) hgw ?_ | refine LookG.mk _ inferInstance entF kv (w, p.sp, p.nm) rfl rfl rfl entK (fun v hv => ?_) (fun hn => absurd (hG.symm.trans hn) (by simp)); cases hG.symm.trans hv | refine Round.mk (k + 1, sc + n, _) (by dsimp only; omega) ⟨by dsimp only; omega, hsn.symm, han.symm, by dsimp only; omega, by dsimp only; omega⟩ (by repeat' first | exact SubE.nil | refine SubE.cons rfl ?_ ?_ | exact VEq.refl _ | refine VEq.int (by omega) | refine VEq.sl rfl (by first | rfl | omega | (rw [List.length_append]; rfl) | (simp; omega)) rfl) (Ents.ofSub (by repeat (first | exact List.Sublist.slnil | refine List.Sublist.cons_cons _ ?_ | refine List.Sublist.cons _ ?_)) (by first | exact fun _ h => h | exact fun _ _ => trivial | exact fun _ h => h.2 | exact fun _ h => h.2.2.2.2 | exact fun _ h => h.2.2 | exact fun _ h => h.2.2.2 | exact fun _ h => h.2.2.2.2.2 | exact fun _ h => h.2.2.2.2.2.2 | exact fun _ h => h.2.2.2.2.2.2.2 | exact fun _ h => h.2.2.2.2.2.2.2.2 | exact fun _ h => h.2.2.2.2.2.2.2.2.2 | exact fun _ h => h.2.2.2.2.2.2.2.2.2.2 | exact fun _ h => ((allD_append _ _).1 h).2))
                  | fail
          · have hkl : k = ws.length := by omega
            subst hkl
            rw [List.take_length] at hsc hal
            rw [← hal, ← hsc] at he
            cases al with
            | true =>
              have he : H = out ++ ([⟨p.sp, p.nm, sc⟩] ++ hitsGo l ws S' (ps.drop (i + 1))) := he
              rw [← List.append_assoc] at he
              repeat' first
                | refine J_seq ?_ | refine J_region Try.tyOK ?_ | refine J_block ?_ | refine J_cond ?_ | refine J_ret ?_ | refine J_skip ?_ | refine J_exit ?_ | refine J_scope ?_
                | refine CondP.yes (by omega) ?_ | refine CondP.no (by omega) ?_ | refine CondP.mk (fun h => ?_) (fun h => ?_) | refine EqP.mk rfl ?_ | refine NewP.mk (fun ad => ?_) | refine ArP.exact (by simp only [inR]; omega) ?_ | refine SideP.mk (by first | omega | (dsimp only; omega) | (simp; omega)) ?_
                | refine UpdG.mk _ inferInstance ttF mv (p.sp, p.nm) rfl rfl rfl ttK ?_ | refine AppE.row [_] _ (htC out) [.i .i64 p.sp, .s p.nm, .i .i64 sc] 1 rfl (SrcE.sl 57 57 _ _ 1 1 _ rfl rfl (.inl ⟨1, List.Mem.head _⟩) rfl) (by dsimp only; omega) (fun a' c' => ?_) | refine AppE.row [_, _] _ (htC out) [.i .i64 p.sp, .s p.nm, .i .i64 sc] 1 rfl (SrcE.sl 57 57 _ _ 1 1 _ rfl rfl (.inl ⟨1, List.Mem.head _⟩) rfl) (by dsimp only; omega) (fun a' c' => ?_) | refine Round.mk (i + 1, gPut mv (p.sp, p.nm) tt, out ++ [⟨p.sp, p.nm, sc⟩], a', c') (by dsimp only; omega) ⟨by dsimp only; omega, (by dsimp only; rw [hS']; exact hmv'), (by dsimp only; rw [hS']; exact he)⟩ (by repeat' first | exact SubE.nil | refine SubE.cons rfl ?_ ?_ | exact VEq.refl _ | refine VEq.int (by omega) | refine VEq.sl rfl (by first | rfl | omega | (rw [List.length_append]; rfl) | (simp; omega)) rfl) (Ents.drop.trans (Ents.drop.trans (Ents.of ?_)))
                | fail
              dsimp only
              rw [List.length_append, show htC (out ++ [⟨p.sp, p.nm, sc⟩]) = htC out ++ [.i .i64 p.sp, .s p.nm, .i .i64 sc] by simp [htC, HT.cells]]
              rfl
            | false =>
              have he : H = out ++ hitsGo l ws S' (ps.drop (i + 1)) := he
              repeat' first
                | refine J_seq ?_ | refine J_region Try.tyOK ?_ | refine J_block ?_ | refine J_cond ?_ | refine J_ret ?_ | refine J_skip ?_ | refine J_exit ?_ | refine J_scope ?_
                | refine CondP.yes (by omega) ?_ | refine CondP.no (by omega) ?_ | refine CondP.mk (fun h => ?_) (fun h => ?_) | refine EqP.mk rfl ?_ | refine NewP.mk (fun ad => ?_) | refine ArP.exact (by simp only [inR]; omega) ?_ | refine SideP.mk (by first | omega | (dsimp only; omega) | (simp; omega)) ?_
                | refine UpdG.mk _ inferInstance ttF mv (p.sp, p.nm) rfl rfl rfl ttK ?_ | refine Round.mk (i + 1, gPut mv (p.sp, p.nm) tt, out, b, d) (by dsimp only; omega) ⟨by dsimp only; omega, (by dsimp only; rw [hS']; exact hmv'), (by dsimp only; rw [hS']; exact he)⟩ (by repeat' first | exact SubE.nil | refine SubE.cons rfl ?_ ?_ | exact VEq.refl _ | refine VEq.int (by omega) | refine VEq.sl rfl (by first | rfl | omega | (rw [List.length_append]; rfl) | (simp; omega)) rfl) (Ents.ofSub (by repeat (first | exact List.Sublist.slnil | refine List.Sublist.cons_cons _ ?_ | refine List.Sublist.cons _ ?_)) (by first | exact fun _ h => h | exact fun _ _ => trivial | exact fun _ h => h.2 | exact fun _ h => h.2.2.2.2 | exact fun _ h => h.2.2 | exact fun _ h => h.2.2.2 | exact fun _ h => h.2.2.2.2.2 | exact fun _ h => h.2.2.2.2.2.2 | exact fun _ h => h.2.2.2.2.2.2.2 | exact fun _ h => h.2.2.2.2.2.2.2.2 | exact fun _ h => h.2.2.2.2.2.2.2.2.2 | exact fun _ h => h.2.2.2.2.2.2.2.2.2.2 | exact fun _ h => ((allD_append _ _).1 h).2))
                | fail
        · have hG : gGet mv (p.sp, p.nm) = none := hMm
          clear hMm
          repeat' first
            | refine J_seq ?_ | refine J_region Try.tyOK ?_ | refine J_block ?_ | refine J_cond ?_ | refine J_ret ?_ | refine J_skip ?_ | refine J_exit ?_ | refine J_scope ?_
            | refine CondP.yes (by omega) ?_ | refine CondP.no (by omega) ?_ | refine CondP.mk (fun h => ?_) (fun h => ?_) | refine EqP.mk rfl ?_ | refine NewP.mk (fun ad => ?_) | refine ArP.exact (by simp only [inR]; omega) ?_ | refine SideP.mk (by first | omega | (dsimp only; omega) | (simp; omega)) ?_
            | refine J_drawS (id := 20) Try.tyOK (by kernel_rfl) [0, 0, 2, 7, 15, 0, 63] [0, 1, 2, 5, 3, 4, 6] [3] [17] true (by kernel_rfl) ?_ | refine EntP.mk (Ents.ofSub (by repeat (first | exact List.Sublist.slnil | refine List.Sublist.cons_cons _ ?_ | refine List.Sublist.cons _ ?_)) (by first | exact fun _ h => h | exact fun _ _ => trivial | exact fun _ h => h.2 | exact fun _ h => h.2.2.2.2 | exact fun _ h => h.2.2 | exact fun _ h => h.2.2.2 | exact fun _ h => h.2.2.2.2.2 | exact fun _ h => h.2.2.2.2.2.2 | exact fun _ h => h.2.2.2.2.2.2.2 | exact fun _ h => h.2.2.2.2.2.2.2.2 | exact fun _ h => h.2.2.2.2.2.2.2.2.2 | exact fun _ h => h.2.2.2.2.2.2.2.2.2.2 | exact fun _ h => ((allD_append _ _).1 h).2)) ?_ | refine IdxE.mk e' 4 _ (hr2 _) (by omega) (by omega) ?_ | refine LoadE.mk e' _ _ _ (hr2 _) (by omega) (by omega) (by first | omega | decide) hg ?_ | refine LookG.mk _ inferInstance ttF mv (p.sp, p.nm) rfl rfl rfl ttK (fun v hv => absurd (hG.symm.trans hv) (by simp)) (fun hnn => ?_)
            | fail
          clear hG
          rename_i ad2
          refine J_loop (α := Nat × Int × Bool) (fun x => [(7, .c (.sl a1 ws.length k1)), (8, .c (.m 1 am)), (14, .c (.m 2 ad2)), (15, .c (.sl b out.length d)), (17, .c (.p 3 ad 0)), (18, .c (.i .i64 x.2.1)), (19, .c (.b x.2.2)), (60, .c (.sl pa ps.length pc)), (61, .c (.i .i64 ps.length)), (62, .c (.i .i64 i)), (71, .c (.sl a1 ws.length k1)), (72, .c (.i .i64 ws.length)), (73, .c (.i .i64 x.1))]) (fun x => [.box 3 ad 45 [.i .i64 p.sp, .s p.nm, .s p.tx, .i .i64 p.rv], .row 57 3 b out.length d (htC out), .obj 2 ad2 (gO (aggV ttF) mv), .obj 1 am (gO (aggV entF) kv), .row 9 1 a1 ws.length k1 (sC ws)]) (fun _ => [slFact e 4 la l.length (wrC l), slFact e' 4 pa ps.length (pgC ps)]) 4
            (fun x => x.1 ≤ ws.length ∧ x.2.1 = scoreT l (ws.take x.1) p ∧ x.2.2 = (true && allT l (ws.take x.1) p) ∧ -((x.1 : Int) * 1099511627776) ≤ x.2.1 ∧ x.2.1 ≤ (x.1 : Int) * 1099511627776) (fun x => ws.length - x.1) (InFam.mk (0, 0, true) ⟨Nat.zero_le _, rfl, rfl, by decide, by decide⟩ (by repeat' first | exact SubE.nil | refine SubE.cons rfl ?_ ?_ | exact VEq.refl _ | refine VEq.int (by omega) | refine VEq.sl rfl (by first | rfl | omega | (rw [List.length_append]; rfl) | (simp; omega)) rfl) (Ents.refl _ _)) (fun x hx => ?_)
          obtain ⟨k, sc, al⟩ := x
          dsimp only at hx ⊢
          obtain ⟨hk, hsc, hal, hs1, hs2⟩ := hx
          by_cases hkw : k < ws.length
          · have hgw : ((sC ws).drop (k * 1 + 0)).take 1 = [.s ws[k]] := s_get hkw
            have hsn := scoreT_snoc l (ws.take k) ws[k] p
            have han := allT_snoc l (ws.take k) ws[k] p
            rw [← List.take_succ_eq_append_getElem hkw] at hsn han
            generalize ws[k] = w at *
            rw [← hsc] at hsn
            have hG := hkv (w, p.sp, p.nm)
            have hmem := fun n h => firstN_mem (l := l) (k := (w, p.sp, p.nm)) (n := n) h
            cases hfn : firstN l (w, p.sp, p.nm) with
            | none =>
              rw [hfn] at hG hsn han
              have hG : gGet kv (w, p.sp, p.nm) = none := hG
              have hsn : scoreT l (ws.take (k + 1)) p = sc + 0 := hsn
              have han : (true && allT l (ws.take (k + 1)) p) = false := by rw [han]; simp
              clear hal
              cases al
              all_goals
                repeat' first
                  | refine J_seq ?_ | refine J_region Try.tyOK ?_ | refine J_block ?_ | refine J_cond ?_ | refine J_ret ?_ | refine J_skip ?_ | refine J_exit ?_ | refine J_scope ?_
                  | refine CondP.yes (by omega) ?_ | refine CondP.no (by omega) ?_ | refine CondP.mk (fun h => ?_) (fun h => ?_) | refine EqP.mk rfl ?_ | refine NewP.mk (fun ad => ?_) | refine ArP.exact (by simp only [inR]; omega) ?_ | refine SideP.mk (by first | omega | (dsimp only; omega) | (simp; omega)) ?_
                  | refine IdxE.mk 9 1 _ (hrw _ _) (by omega) (by omega) ?_ | refine LoadE.mk 9 _ _ _ (hrw _ _) (by omega) (by omega) (by omega) hgw ?_ | refine LookG.mk _ inferInstance entF kv (w, p.sp, p.nm) rfl rfl rfl entK (fun v hv => absurd (hG.symm.trans hv) (by simp)) (fun hnn => ?_) | refine Round.mk (k + 1, sc + 0, false) (by dsimp only; omega) ⟨by dsimp only; omega, hsn.symm, han.symm, by dsimp only; omega, by dsimp only; omega⟩ (by repeat' first | exact SubE.nil | refine SubE.cons rfl ?_ ?_ | exact VEq.refl _ | refine VEq.int (by omega) | refine VEq.sl rfl (by first | rfl | omega | (rw [List.length_append]; rfl) | (simp; omega)) rfl) (Ents.ofSub (by repeat (first | exact List.Sublist.slnil | refine List.Sublist.cons_cons _ ?_ | refine List.Sublist.cons _ ?_)) (by first | exact fun _ h => h | exact fun _ _ => trivial | exact fun _ h => h.2 | exact fun _ h => h.2.2.2.2 | exact fun _ h => h.2.2 | exact fun _ h => h.2.2.2 | exact fun _ h => h.2.2.2.2.2 | exact fun _ h => h.2.2.2.2.2.2 | exact fun _ h => h.2.2.2.2.2.2.2 | exact fun _ h => h.2.2.2.2.2.2.2.2 | exact fun _ h => h.2.2.2.2.2.2.2.2.2 | exact fun _ h => h.2.2.2.2.2.2.2.2.2.2 | exact fun _ h => ((allD_append _ _).1 h).2))
                  | fail
            | some n =>
              obtain ⟨r, hr, hrn⟩ := hmem n hfn
              have hbr := hb r hr
              rw [hrn] at hbr
              rw [hfn] at hG hsn han
              have hG : gGet kv (w, p.sp, p.nm) = some (.c (.i .i64 n)) := hG
              have hsn : scoreT l (ws.take (k + 1)) p = sc + n := hsn
              have han : (true && allT l (ws.take (k + 1)) p) = al := by rw [han, hal]; simp
              clear hal
              cases al
              all_goals
                repeat' first
                  | refine J_seq ?_ | refine J_region Try.tyOK ?_ | refine J_block ?_ | refine J_cond ?_ | refine J_ret ?_ | refine J_skip ?_ | refine J_exit ?_ | refine J_scope ?_
                  | refine CondP.yes (by omega) ?_ | refine CondP.no (by omega) ?_ | refine CondP.mk (fun h => ?_) (fun h => ?_) | refine EqP.mk rfl ?_ | refine NewP.mk (fun ad => ?_) | refine ArP.exact (by simp only [inR]; omega) ?_ | refine SideP.mk (by first | omega | (dsimp only; omega) | (simp; omega)) ?_
                  | refine IdxE.mk 9 1 _ (hrw _ _) (by omega) (by omega) ?_ | refine LoadE.mk 9 _ _ _ (hrw _ _) (by omega) (by omega) (by omega) hgw ?_ | refine LookG.mk _ inferInstance entF kv (w, p.sp, p.nm) rfl rfl rfl entK (fun v hv => ?_) (fun hn => absurd (hG.symm.trans hn) (by simp)); cases hG.symm.trans hv | refine Round.mk (k + 1, sc + n, _) (by dsimp only; omega) ⟨by dsimp only; omega, hsn.symm, han.symm, by dsimp only; omega, by dsimp only; omega⟩ (by repeat' first | exact SubE.nil | refine SubE.cons rfl ?_ ?_ | exact VEq.refl _ | refine VEq.int (by omega) | refine VEq.sl rfl (by first | rfl | omega | (rw [List.length_append]; rfl) | (simp; omega)) rfl) (Ents.ofSub (by repeat (first | exact List.Sublist.slnil | refine List.Sublist.cons_cons _ ?_ | refine List.Sublist.cons _ ?_)) (by first | exact fun _ h => h | exact fun _ _ => trivial | exact fun _ h => h.2 | exact fun _ h => h.2.2.2.2 | exact fun _ h => h.2.2 | exact fun _ h => h.2.2.2 | exact fun _ h => h.2.2.2.2.2 | exact fun _ h => h.2.2.2.2.2.2 | exact fun _ h => h.2.2.2.2.2.2.2 | exact fun _ h => h.2.2.2.2.2.2.2.2 | exact fun _ h => h.2.2.2.2.2.2.2.2.2 | exact fun _ h => h.2.2.2.2.2.2.2.2.2.2 | exact fun _ h => ((allD_append _ _).1 h).2))
                  | fail
          · have hkl : k = ws.length := by omega
            subst hkl
            rw [List.take_length] at hsc hal
            rw [← hal, ← hsc] at he
            cases al with
            | true =>
              have he : H = out ++ ([⟨p.sp, p.nm, sc⟩] ++ hitsGo l ws S' (ps.drop (i + 1))) := he
              rw [← List.append_assoc] at he
              repeat' first
                | refine J_seq ?_ | refine J_region Try.tyOK ?_ | refine J_block ?_ | refine J_cond ?_ | refine J_ret ?_ | refine J_skip ?_ | refine J_exit ?_ | refine J_scope ?_
                | refine CondP.yes (by omega) ?_ | refine CondP.no (by omega) ?_ | refine CondP.mk (fun h => ?_) (fun h => ?_) | refine EqP.mk rfl ?_ | refine NewP.mk (fun ad => ?_) | refine ArP.exact (by simp only [inR]; omega) ?_ | refine SideP.mk (by first | omega | (dsimp only; omega) | (simp; omega)) ?_
                | refine UpdG.mk _ inferInstance ttF mv (p.sp, p.nm) rfl rfl rfl ttK ?_ | refine AppE.row [_] _ (htC out) [.i .i64 p.sp, .s p.nm, .i .i64 sc] 1 rfl (SrcE.sl 57 57 _ _ 1 1 _ rfl rfl (.inl ⟨1, List.Mem.head _⟩) rfl) (by dsimp only; omega) (fun a' c' => ?_) | refine AppE.row [_, _] _ (htC out) [.i .i64 p.sp, .s p.nm, .i .i64 sc] 1 rfl (SrcE.sl 57 57 _ _ 1 1 _ rfl rfl (.inl ⟨1, List.Mem.head _⟩) rfl) (by dsimp only; omega) (fun a' c' => ?_) | refine Round.mk (i + 1, gPut mv (p.sp, p.nm) tt, out ++ [⟨p.sp, p.nm, sc⟩], a', c') (by dsimp only; omega) ⟨by dsimp only; omega, (by dsimp only; rw [hS']; exact hmv'), (by dsimp only; rw [hS']; exact he)⟩ (by repeat' first | exact SubE.nil | refine SubE.cons rfl ?_ ?_ | exact VEq.refl _ | refine VEq.int (by omega) | refine VEq.sl rfl (by first | rfl | omega | (rw [List.length_append]; rfl) | (simp; omega)) rfl) (Ents.drop.trans (Ents.drop.trans (Ents.of ?_)))
                | fail
              dsimp only
              rw [List.length_append, show htC (out ++ [⟨p.sp, p.nm, sc⟩]) = htC out ++ [.i .i64 p.sp, .s p.nm, .i .i64 sc] by simp [htC, HT.cells]]
              rfl
            | false =>
              have he : H = out ++ hitsGo l ws S' (ps.drop (i + 1)) := he
              repeat' first
                | refine J_seq ?_ | refine J_region Try.tyOK ?_ | refine J_block ?_ | refine J_cond ?_ | refine J_ret ?_ | refine J_skip ?_ | refine J_exit ?_ | refine J_scope ?_
                | refine CondP.yes (by omega) ?_ | refine CondP.no (by omega) ?_ | refine CondP.mk (fun h => ?_) (fun h => ?_) | refine EqP.mk rfl ?_ | refine NewP.mk (fun ad => ?_) | refine ArP.exact (by simp only [inR]; omega) ?_ | refine SideP.mk (by first | omega | (dsimp only; omega) | (simp; omega)) ?_
                | refine UpdG.mk _ inferInstance ttF mv (p.sp, p.nm) rfl rfl rfl ttK ?_ | refine Round.mk (i + 1, gPut mv (p.sp, p.nm) tt, out, b, d) (by dsimp only; omega) ⟨by dsimp only; omega, (by dsimp only; rw [hS']; exact hmv'), (by dsimp only; rw [hS']; exact he)⟩ (by repeat' first | exact SubE.nil | refine SubE.cons rfl ?_ ?_ | exact VEq.refl _ | refine VEq.int (by omega) | refine VEq.sl rfl (by first | rfl | omega | (rw [List.length_append]; rfl) | (simp; omega)) rfl) (Ents.ofSub (by repeat (first | exact List.Sublist.slnil | refine List.Sublist.cons_cons _ ?_ | refine List.Sublist.cons _ ?_)) (by first | exact fun _ h => h | exact fun _ _ => trivial | exact fun _ h => h.2 | exact fun _ h => h.2.2.2.2 | exact fun _ h => h.2.2 | exact fun _ h => h.2.2.2 | exact fun _ h => h.2.2.2.2.2 | exact fun _ h => h.2.2.2.2.2.2 | exact fun _ h => h.2.2.2.2.2.2.2 | exact fun _ h => h.2.2.2.2.2.2.2.2 | exact fun _ h => h.2.2.2.2.2.2.2.2.2 | exact fun _ h => h.2.2.2.2.2.2.2.2.2.2 | exact fun _ h => ((allD_append _ _).1 h).2))
                | fail
      · have hil : i = ps.length := by omega
        subst hil
        rw [List.drop_length] at he
        have he : H = out ++ [] := he
        rw [List.append_nil] at he
        subst he
        have ch := sortHits_ok b d H (by omega)
        have hFl : F.length = H.length := by rw [hF, List.length_mergeSort]
        repeat' first
          | refine J_seq ?_ | refine J_region Try.tyOK ?_ | refine J_block ?_ | refine J_cond ?_ | refine J_ret ?_ | refine J_skip ?_ | refine J_exit ?_ | refine J_scope ?_
          | refine CondP.yes (by omega) ?_ | refine CondP.no (by omega) ?_ | refine CondP.mk (fun h => ?_) (fun h => ?_) | refine EqP.mk rfl ?_ | refine NewP.mk (fun ad => ?_) | refine ArP.exact (by simp only [inR]; omega) ?_ | refine SideP.mk (by first | omega | (dsimp only; omega) | (simp; omega)) ?_
          | refine CallP.mk [_] [_, _, _] [] _ ch (List.Perm.refl _) (fun _ _ => trivial) (fun v L' D' hq => ?_); obtain ⟨l', hp, hs, rfl, rfl, rfl⟩ := hq; rw [sortedH_is hp hs, ← hF, ← hFl] | refine FinE.mk [_] [] ⟨b, d, rfl, rfl, rfl⟩ (Ents.ofSub (by repeat (first | exact List.Sublist.slnil | refine List.Sublist.cons_cons _ ?_ | refine List.Sublist.cons _ ?_)) (by first | exact fun _ h => h | exact fun _ _ => trivial | exact fun _ h => h.2 | exact fun _ h => h.2.2.2.2 | exact fun _ h => h.2.2 | exact fun _ h => h.2.2.2 | exact fun _ h => h.2.2.2.2.2 | exact fun _ h => h.2.2.2.2.2.2 | exact fun _ h => h.2.2.2.2.2.2.2 | exact fun _ h => h.2.2.2.2.2.2.2.2 | exact fun _ h => h.2.2.2.2.2.2.2.2.2 | exact fun _ h => h.2.2.2.2.2.2.2.2.2.2 | exact fun _ h => ((allD_append _ _).1 h).2))
          | fail

end Go.Proofs
