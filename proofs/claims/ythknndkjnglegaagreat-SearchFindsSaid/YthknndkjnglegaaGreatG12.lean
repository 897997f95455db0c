/- This text holds the plain form of the reference's Find of chapter 35, and proves that it gives the hits that Find of the package search gives. -/
import Derived.Test.YthknndkjnglegaaGreatG11
import Derived.Test.YthknndkjnglegaaGreatG07
import Derived.Test.YthknndkjnglegaaGreatG08
import Derived.Test.YthknndkjnglegaaGreatG09
import Derived.Test.YthknndkjnglegaaGreatG10
import Derived.Lib.DecodeN
import Derived.Lib.SlTrimSet
import Derived.Lib.IndexAny
set_option linter.all false

namespace Go.X
open Go Go.Lib Go.Proofs
/-- A hit put behind those with as high a score. -/
def insH : List HT → HT → List HT
  | [], h => [h]
  | x :: r, h => if h.n ≤ x.n then x :: insH r h else h :: x :: r
theorem insH_len (l : List HT) (h : HT) : (insH l h).length = l.length + 1 := by
  induction l with
  | nil => rfl
  | cons x r ih => simp only [insH]; split <;> simp [ih]
theorem insH_mem (l : List HT) (h z : HT) : z ∈ insH l h ↔ z ∈ l ∨ z = h := by
  induction l with
  | nil => simp [insH]
  | cons x r ih =>
    simp only [insH]
    split
    · simp [ih, or_assoc]
    · simp [or_comm, or_assoc, or_left_comm]
theorem insH_at {l : List HT} {h : HT} {i : Nat} (hi : i < l.length) : insH (l.drop i) h = if h.n ≤ l[i].n then l[i] :: insH (l.drop (i + 1)) h else h :: l.drop i := by
  rw [List.drop_eq_getElem_cons hi, insH]
/-- A page with a title alone. -/
def pgOf (t : TT) : PG := ⟨t.1, t.2, [], 0⟩
def refGo (l : List WR) (ws : List (List UInt8)) : List TT → List HT → List HT
  | [], out => out
  | t :: r, out => refGo l ws r (if allT l ws (pgOf t) = true then insH out ⟨t.1, t.2, scoreT l ws (pgOf t)⟩ else out)
def viewTs (ps : List PG) : List TT := (ps.map fun p => (p.sp, p.nm)).foldl (addG cmpTT) []
def refFindT (l : List WR) (ps : List PG) (q : List UInt8) : List HT :=
  if firsts [] (wordsS q) = [] then [] else refGo l (firsts [] (wordsS q)) (viewTs ps) []
theorem viewTs_str (ps : List PG) : StrL cmpTT (viewTs ps) := (foldAddG cmp_TT cmpTT_eq _ [] List.Pairwise.nil).1
theorem viewTs_mem (ps : List PG) (t : TT) : t ∈ viewTs ps ↔ ∃ p ∈ ps, (p.sp, p.nm) = t := by
  unfold viewTs
  rw [(foldAddG cmp_TT cmpTT_eq _ [] List.Pairwise.nil).2]
  simp
theorem cmpHT_of {a b : HT} (h : b.n < a.n ∨ (a.n = b.n ∧ compareT a.sp a.nm b.sp b.nm < 0)) : cmpHT a b < 0 := by
  rcases h with h | ⟨h1, h2⟩
  · have e : Lib.compareInt b.n a.n = -1 := by unfold Lib.compareInt; rw [if_pos h]
    unfold cmpHT
    rw [e, if_pos (by decide)]; decide
  · have e : Lib.compareInt b.n a.n = 0 := by unfold Lib.compareInt; rw [if_neg (by omega), if_neg (by omega)]
    unfold cmpHT
    rw [e, if_neg (by decide)]; exact h2
theorem insH_str {l : List HT} {h : HT} (hl : StrL cmpHT l) (ht : ∀ x ∈ l, compareT x.sp x.nm h.sp h.nm < 0) : StrL cmpHT (insH l h) := by
  induction l with
  | nil => exact List.pairwise_cons.2 ⟨fun _ h => (by cases h), List.Pairwise.nil⟩
  | cons x r ih =>
    have hl' := List.pairwise_cons.1 hl
    have hx := ht x (List.mem_cons_self ..)
    simp only [insH]
    split
    · rename_i hn
      refine List.pairwise_cons.2 ⟨fun z hz => ?_, ih hl'.2 fun y hy => ht y (List.mem_cons_of_mem _ hy)⟩
      rcases (insH_mem r h z).1 hz with hz | hz
      · exact hl'.1 z hz
      · subst hz
        exact cmpHT_of (by omega)
    · rename_i hn
      have hc : cmpHT h x < 0 := cmpHT_of (.inl (by omega))
      refine List.pairwise_cons.2 ⟨fun z hz => ?_, hl⟩
      rcases List.mem_cons.1 hz with hz | hz
      · subst hz; exact hc
      · exact cmp_HT.lt_trans hc (by have := hl'.1 z hz; omega)
/-- What is a hit. -/
def HitP (l : List WR) (ws : List (List UInt8)) (T : TT → Prop) (h : HT) : Prop := T (h.sp, h.nm) ∧ allT l ws (pgOf (h.sp, h.nm)) = true ∧ h.n = scoreT l ws (pgOf (h.sp, h.nm))
theorem refGo_is (l : List WR) (ws : List (List UInt8)) : ∀ (ts : List TT) (out : List HT), StrL cmpTT ts → StrL cmpHT out → (∀ x ∈ out, ∀ t ∈ ts, cmpTT (x.sp, x.nm) t < 0) →
    StrL cmpHT (refGo l ws ts out) ∧ ∀ z, z ∈ refGo l ws ts out ↔ z ∈ out ∨ HitP l ws (· ∈ ts) z
  | [], out, _, ho, _ => ⟨ho, fun z => by simp [refGo, HitP]⟩
  | t :: r, out, ht, ho, hx => by
    have ht' := List.pairwise_cons.1 ht
    simp only [refGo]
    by_cases ha : allT l ws (pgOf t) = true
    · rw [if_pos ha]
      obtain ⟨h1, h2⟩ := refGo_is l ws r (insH out ⟨t.1, t.2, scoreT l ws (pgOf t)⟩) ht'.2 (insH_str ho fun x hxo => hx x hxo t (List.mem_cons_self ..)) (fun x hxo u hu => by
        rcases (insH_mem _ _ _).1 hxo with h | h
        · exact hx x h u (List.mem_cons_of_mem _ hu)
        · subst h; exact ht'.1 u hu)
      refine ⟨h1, fun z => ?_⟩
      rw [h2, insH_mem, or_assoc]
      refine or_congr Iff.rfl ⟨?_, ?_⟩
      · rintro (h | ⟨h3, h4⟩)
        · subst h; exact ⟨List.mem_cons_self .., ha, rfl⟩
        · exact ⟨List.mem_cons_of_mem _ h3, h4⟩
      · rintro ⟨h3, h4, h5⟩
        rcases List.mem_cons.1 h3 with h | h
        · subst h
          refine .inl ?_
          obtain ⟨a, b, c⟩ := z
          dsimp only at h5 ⊢
          rw [h5]
        · exact .inr ⟨h, h4, h5⟩
    · rw [if_neg ha]
      obtain ⟨h1, h2⟩ := refGo_is l ws r out ht'.2 ho (fun x hxo u hu => hx x hxo u (List.mem_cons_of_mem _ hu))
      refine ⟨h1, fun z => ?_⟩
      rw [h2]
      refine or_congr Iff.rfl ⟨?_, ?_⟩
      · rintro ⟨h3, h4⟩
        exact ⟨List.mem_cons_of_mem _ h3, h4⟩
      · rintro ⟨h3, h4, h5⟩
        rcases List.mem_cons.1 h3 with h | h
        · rw [h] at h4; exact absurd h4 ha
        · exact ⟨h, h4, h5⟩
theorem hitsGo_mem (l : List WR) (ws : List (List UInt8)) : ∀ (ps : List PG) (seen : List TT) (z : HT), z ∈ hitsGo l ws seen ps ↔ HitP l ws (fun t => (∃ p ∈ ps, (p.sp, p.nm) = t) ∧ t ∉ seen) z
  | [], seen, z => by simp [hitsGo, HitP]
  | p :: r, seen, z => by
    rw [hitsGo, List.mem_append, hitsGo_mem l ws r]
    constructor
    · rintro (h | ⟨⟨⟨q, hq, hqe⟩, hn⟩, h4⟩)
      · split at h
        · rename_i hc
          rw [Bool.and_eq_true, Bool.not_eq_true', decide_eq_false_iff_not] at hc
          rw [List.mem_singleton] at h
          subst h
          exact ⟨⟨⟨p, List.mem_cons_self .., rfl⟩, hc.1⟩, hc.2, rfl⟩
        · cases h
      · exact ⟨⟨⟨q, List.mem_cons_of_mem _ hq, hqe⟩, fun e => hn (List.mem_append_left _ e)⟩, h4⟩
    · rintro ⟨⟨⟨q, hq, hqe⟩, hn⟩, h4, h5⟩
      by_cases hpz : (p.sp, p.nm) = (z.sp, z.nm)
      · refine .inl ?_
        rw [← hpz] at hn h4 h5
        rw [if_pos (by rw [Bool.and_eq_true, Bool.not_eq_true', decide_eq_false_iff_not]; exact ⟨hn, h4⟩), List.mem_singleton]
        obtain ⟨a, b, c⟩ := z
        obtain ⟨e1, e2⟩ := Prod.mk.inj hpz
        dsimp only at e1 e2 h5 ⊢
        rw [e1, e2, h5]; rfl
      · refine .inr ⟨⟨⟨q, ?_, hqe⟩, fun e => ?_⟩, h4, h5⟩
        · rcases List.mem_cons.1 hq with h | h
          · subst h; exact absurd hqe hpz
          · exact h
        · rcases List.mem_append.1 e with e | e
          · exact hn e
          · exact hpz (List.mem_singleton.1 e).symm
theorem hitsGo_nodup (l : List WR) (ws : List (List UInt8)) : ∀ (ps : List PG) (seen : List TT), (hitsGo l ws seen ps).Nodup
  | [], _ => List.nodup_nil
  | p :: r, seen => by
    rw [hitsGo]
    split
    · refine List.nodup_cons.2 ⟨fun h => ?_, hitsGo_nodup l ws r _⟩
      exact ((hitsGo_mem l ws r _ _).1 h).1.2 (by simp)
    · exact hitsGo_nodup l ws r _
theorem sum_perm {a b : List Int} (h : a.Perm b) : a.sum = b.sum := by
  induction h with
  | nil => rfl
  | cons x _ ih => simp only [List.sum_cons, ih]
  | swap x y l => simp only [List.sum_cons]; omega
  | trans _ _ h1 h2 => exact h1.trans h2
theorem score_perm (l : List WR) {ws ws' : List (List UInt8)} (h : ws.Perm ws') (p : PG) : scoreT l ws p = scoreT l ws' p := sum_perm (h.map _)
theorem all_perm (l : List WR) {ws ws' : List (List UInt8)} (h : ws.Perm ws') (p : PG) : allT l ws p = allT l ws' p := by
  unfold allT
  rw [Bool.eq_iff_iff, List.all_eq_true, List.all_eq_true]
  exact ⟨fun a x hx => a x (h.mem_iff.2 hx), fun a x hx => a x (h.mem_iff.1 hx)⟩
theorem cmpsGo_mem : ∀ (r : List (List UInt8)) (p z : List UInt8), z ∈ p :: cmpsGo p r ↔ z ∈ p :: r
  | [], _, _ => Iff.rfl
  | y :: r, p, z => by
    simp only [cmpsGo]
    split
    · rename_i h
      subst h
      rw [cmpsGo_mem r y z]; simp
    · rw [List.mem_cons, cmpsGo_mem r y z]; exact List.mem_cons.symm
theorem cmpsGo_lt : ∀ (r : List (List UInt8)) (p : List UInt8), (p :: r).Pairwise (fun x y => x ≤ y) → (p :: cmpsGo p r).Pairwise (fun x y => x < y)
  | [], p, _ => List.pairwise_cons.2 ⟨fun _ h => (by cases h), List.Pairwise.nil⟩
  | y :: r, p, h => by
    have h' := List.pairwise_cons.1 h
    simp only [cmpsGo]
    split
    · rename_i e
      subst e
      exact cmpsGo_lt r y h'.2
    · rename_i e
      have a := cmpsGo_lt r y h'.2
      have hpy : p < y := by
        have h1 := h'.1 y (List.mem_cons_self ..)
        rcases List.le_iff_lt_or_eq.1 h1 with h2 | h2
        · exact h2
        · exact absurd h2.symm e
      refine List.pairwise_cons.2 ⟨fun z hz => ?_, a⟩
      rcases List.mem_cons.1 hz with hz | hz
      · rw [hz]; exact hpy
      · exact List.lt_trans hpy ((List.pairwise_cons.1 a).1 z hz)
theorem queryT_mem (q z : List UInt8) : z ∈ queryT q ↔ z ∈ wordsS q := by
  have hm : z ∈ srtS (wordsS q) ↔ z ∈ wordsS q := (List.mergeSort_perm _ _).mem_iff
  rw [← hm]
  unfold queryT
  generalize srtS (wordsS q) = s
  cases s with
  | nil => exact Iff.rfl
  | cons x r => exact cmpsGo_mem r x z
theorem queryT_nodup (q : List UInt8) : (queryT q).Nodup := by
  have hs : (srtS (wordsS q)).Pairwise fun x y => x ≤ y := by
    refine (List.pairwise_mergeSort (fun a b c h1 h2 => ?_) (fun a b => ?_) (wordsS q)).imp fun {a b} h => of_decide_eq_true h
    · exact decide_eq_true (List.le_trans (of_decide_eq_true h1) (of_decide_eq_true h2))
    · rcases List.le_total a b with h | h
      · rw [decide_eq_true h]; rfl
      · rw [decide_eq_true h]; simp
  unfold queryT
  generalize srtS (wordsS q) = s at *
  cases s with
  | nil => exact List.nodup_nil
  | cons x r =>
    exact (cmpsGo_lt r x hs).imp fun {a b} h e => by subst e; exact List.lt_irrefl a h
theorem query_perm (q : List UInt8) : (queryT q).Perm (firsts [] (wordsS q)) := by
  rw [List.perm_ext_iff_of_nodup (queryT_nodup q) (firsts_nodup _ _)]
  intro z
  rw [queryT_mem, firsts_mem]; simp
theorem hits_sorted {H : List HT} (hn : H.Nodup) : StrL cmpHT (H.mergeSort leH) := by
  have h1 : (H.mergeSort leH).Pairwise fun x y => cmpHT x y ≤ 0 := (List.pairwise_mergeSort leH_trans leH_total H).imp fun {x y} h => by simpa [leH] using h
  have h2 : (H.mergeSort leH).Nodup := (List.mergeSort_perm H leH).nodup_iff.2 hn
  refine (h1.and h2).imp fun {x y} h => ?_
  have : cmpHT x y ≠ 0 := fun e => h.2 (cmpHT_eq x y e)
  have := h.1
  omega
/-- What Find gives. -/
theorem findT_str (l : List WR) (ps : List PG) (q : List UInt8) : StrL cmpHT (findT l ps q) := by
  unfold findT
  split
  · exact List.Pairwise.nil
  · exact hits_sorted (hitsGo_nodup _ _ _ _)
theorem findT_mem (l : List WR) (ps : List PG) (q : List UInt8) (z : HT) : z ∈ findT l ps q ↔ queryT q ≠ [] ∧ HitP l (queryT q) (fun t => ∃ p ∈ ps, (p.sp, p.nm) = t) z := by
  unfold findT
  split
  · rename_i h; simp [h]
  · rename_i h
    rw [(List.mergeSort_perm _ leH).mem_iff, hitsGo_mem]
    unfold HitP
    simp [h]
theorem refFind_is (l : List WR) (ps : List PG) (q : List UInt8) : refFindT l ps q = findT l ps q := by
  have hp := query_perm q
  have hs : ∀ p, scoreT l (firsts [] (wordsS q)) p = scoreT l (queryT q) p := fun p => (score_perm l hp p).symm
  have ha : ∀ p, allT l (firsts [] (wordsS q)) p = allT l (queryT q) p := fun p => (all_perm l hp p).symm
  have hnil : firsts [] (wordsS q) = [] ↔ queryT q = [] := ⟨fun e => by rw [e] at hp; exact List.perm_nil.1 hp, fun e => by rw [e] at hp; exact (List.nil_perm.1 hp)⟩
  by_cases h : queryT q = []
  · unfold refFindT findT
    rw [if_pos (hnil.2 h), if_pos h]
  · obtain ⟨h1, h2⟩ := refGo_is l (firsts [] (wordsS q)) (viewTs ps) [] (viewTs_str ps) List.Pairwise.nil (fun x hx => by cases hx)
    unfold refFindT
    rw [if_neg (fun e => h (hnil.1 e))]
    refine strL_eq cmp_HT h1 (findT_str l ps q) fun z => ?_
    rw [h2, findT_mem]
    unfold HitP
    rw [hs, ha]
    simp only [viewTs_mem, List.not_mem_nil, false_or, ne_eq, h, not_false_eq_true, true_and]
theorem findT_len (l : List WR) (ps : List PG) (q : List UInt8) : (findT l ps q).length ≤ ps.length := by
  unfold findT
  split
  · exact Nat.zero_le _
  · rw [List.length_mergeSort]; exact hitsGo_len _ _ _ _
end Go.X

/- This text walks through the function Compare of the reference of chapter 1. -/
namespace Go.Proofs
open Go Go.X
set_option maxRecDepth 100000
set_option maxHeartbeats 4000000
theorem refCompareT_ok (a : Int) (x : List UInt8) (b : Int) (y : List UInt8) : FnS Tryz.prog 65 [.agg [.i .i64 a, .s x], .agg [.i .i64 b, .s y]] [] [] (Is (.c (.i .i64 (compareT a x b y)))) := by
  have hl := less_cmp x y
  have he := cmpB_eq x y
  have hr := cmpB_range x y
  have hi := cmpI a b
  obtain ⟨k, hk⟩ : ∃ k, compareT a x b y = k := ⟨_, rfl⟩
  have hk' := hk
  unfold compareT at hk
  rw [hk']
  refine fn_of_J Tryz.tyOK 0 Tryz.func65 (by kernel_rfl) (c := Tryz.f65.body.getD .skip) (by kernel_rfl) Tryz.ntmps65 (rs := Tryz.f65.results.toList) rfl (by simp) (fun G => ?_)
  repeat' first | refine J_seq ?_ | refine J_region Tryz.tyOK ?_ | refine J_block ?_ | refine J_cond ?_ | refine J_ret ?_ | refine J_skip ?_ | refine J_exit ?_ | refine J_scope ?_ | refine CondP.y ?_ | refine CondP.n ?_ | refine CondP.mk (fun h => ?_) (fun h => ?_) | refine EqP.mk rfl ?_ | refine NewP.mk (fun ad => ?_) | refine ArP.x ?_ | refine SideP.a ?_ | refine FinE.int ?_ | fail
  all_goals
    rcases hi with ⟨h0, h1⟩ | ⟨h0, h1⟩ | ⟨h0, h1⟩
    all_goals
      rw [h1] at hk
      simp at hk
      first | omega | (simp_all; done) | (simp_all; omega)
end Go.Proofs

/- This text walks through the functions compare, add and Put of the reference of chapter 35. This text walks through the functions Put of the package search and of the reference of chapter 35: both give the rows in order, without duplicates. -/
namespace Go.X
open Go Go.Lib
theorem rpre {e : Nat} {a : Option Addr} {n c k : Nat} {m : List WR} {L : List Chunk} {D : List Fact} (hm : Chunk.row e 4 a n c (wrC m) ∈ L) (hn : m.length = n) (hk : k ≤ n) : Reads L D e 4 (resl a 0 c 4) k (wrC (m.take k)) := by
  refine .sub a 0 n c (wrC m) hm ?_ (by omega) ?_
  · rw [resl0]; cases a <;> simp [Addr.add]
  · rw [Nat.zero_mul, List.drop_zero, wrC_take]
theorem rsuf {e : Nat} {a : Option Addr} {n c k : Nat} {m : List WR} {L : List Chunk} {D : List Fact} (hm : Chunk.row e 4 a n c (wrC m) ∈ L) (hn : m.length = n) (hk : k ≤ n) (hc : n ≤ c) : Reads L D e 4 (resl a k c 4) (n - k) (wrC (m.drop k)) := by
  by_cases h : k < n
  · exact rsub hm hn h hc
  · have h0 : m.drop k = [] := List.drop_eq_nil_of_le (by omega)
    rw [h0]
    exact .inr fun _ _ => ⟨fun x hx => (by cases hx), .inl ⟨by omega, rfl⟩⟩
end Go.X
namespace Go.Proofs
open Go Go.X
set_option maxRecDepth 100000
set_option maxHeartbeats 4000000
theorem refCmpRow_ok (x y : WR) : FnS Tryz.prog 86 [.agg [.s x.w, .i .i64 x.sp, .s x.nm, .i .i64 x.n], .agg [.s y.w, .i .i64 y.sp, .s y.nm, .i .i64 y.n]] [] [] (Is (.c (.i .i64 (cmpWR x y)))) := by
  obtain ⟨xw, xs, xm, xn⟩ := x
  obtain ⟨yw, ys, ym, yn⟩ := y
  dsimp only
  have ct := refCompareT_ok xs xm ys ym
  have hl := less_cmp xw yw
  have hg := less_cmp yw xw
  have hsw := cmp_bytes.swap xw yw
  have hr := cmpB_range xw yw
  have he := cmpB_eq xw yw
  obtain ⟨k, hk⟩ : ∃ k, cmpWR ⟨xw, xs, xm, xn⟩ ⟨yw, ys, ym, yn⟩ = k := ⟨_, rfl⟩
  rw [hk]
  unfold cmpWR Lib.compareInt at hk
  dsimp only at hk
  generalize compareT xs xm ys ym = q at *
  refine fn_of_J Tryz.tyOK 0 Tryz.func86 (by kernel_rfl) (c := Tryz.f86.body.getD .skip) (by kernel_rfl) Tryz.ntmps86 (rs := Tryz.f86.results.toList) rfl (by simp) (fun G => ?_)
  repeat' first | refine J_seq ?_ | refine J_region Tryz.tyOK ?_ | refine J_block ?_ | refine J_cond ?_ | refine J_ret ?_ | refine J_skip ?_ | refine J_exit ?_ | refine J_scope ?_ | refine CondP.y ?_ | refine CondP.n ?_ | refine CondP.mk (fun h => ?_) (fun h => ?_) | refine EqP.mk rfl ?_ | refine NewP.mk (fun ad => ?_) | refine ArP.x ?_ | refine SideP.a ?_ | refine CallP.is ct ?_ | refine FinE.int ?_ | fail
  all_goals
    clear hg ct hsw
    simp only [hl, ← he] at *
    clear hl he
    generalize Lib.compareBytes xw yw = p at *
    first
      | omega
      | (split at hk <;> first | omega | (split at hk <;> first | omega | (split at hk <;> first | omega | (split at hk <;> omega))))
theorem addW_at {l : List WR} {r : WR} {i : Nat} (h : i < l.length) : addW (l.drop i) r = if cmpWR l[i] r < 0 then l[i] :: addW (l.drop (i + 1)) r else if l[i] = r then l.drop i else r :: l.drop i := by
  rw [List.drop_eq_getElem_cons h, addW]
theorem add_ok (a : Option Addr) (c : Nat) (l : List WR) (r : WR) (hl : l.length ≤ 10000000) :
    FnS Tryz.prog 46 [.c (.sl a l.length c), .agg [.s r.w, .i .i64 r.sp, .s r.nm, .i .i64 r.n]] [.row 60 4 a l.length c (wrC l)] []
      (fun v L D => ∃ a' c', v = .c (.sl a' (addW l r).length c') ∧ L = [.row 60 4 a' (addW l r).length c' (wrC (addW l r))] ∧ D = []) := by
  generalize hW : addW l r = W
  refine fn_of_J Tryz.tyOK 0 Tryz.func46 (by kernel_rfl) (c := Tryz.f46.body.getD .skip) (by kernel_rfl) Tryz.ntmps46 (rs := Tryz.f46.results.toList) rfl (by simp) (fun G => ?_)
  refine J_cap (List.Mem.head _) (fun hnc _ _ => ?_)
  repeat' first | refine J_seq ?_ | refine J_region Tryz.tyOK ?_ | refine J_block ?_ | refine J_cond ?_ | refine J_ret ?_ | refine J_skip ?_ | refine J_exit ?_ | refine J_scope ?_ | refine CondP.y ?_ | refine CondP.n ?_ | refine CondP.mk (fun h => ?_) (fun h => ?_) | refine EqP.mk rfl ?_ | refine NewP.mk (fun ad => ?_) | refine ArP.x ?_ | refine SideP.a ?_ | fail
  refine J_loop (α := Nat) (fun i => [(0, .c (.sl a l.length c)), (3, .c (.p 0 ad 0)), (5, .c (.i .i64 i))]) (fun _ => [.box 0 ad 60 [.s r.w, .i .i64 r.sp, .s r.nm, .i .i64 r.n], .row 60 4 a l.length c (wrC l)]) (fun _ => []) 1
    (fun i => i ≤ l.length ∧ W = l.take i ++ addW (l.drop i) r) (fun i => l.length - i) (InFam.mk 0 ⟨Nat.zero_le _, by rw [← hW]; rfl⟩ SubE.a (Ents.refl _ _)) (fun i hx => ?_)
  obtain ⟨hi, he⟩ := hx
  have h6l : W = l.take i ++ r :: l.drop i → W.length = i + 1 + (l.length - i) := fun h => by rw [h]; simp; omega
  have h6c : W = l.take i ++ r :: l.drop i → wrC W = wrC (l.take i) ++ [.s r.w, .i .i64 r.sp, .s r.nm, .i .i64 r.n] ++ wrC (l.drop i) := fun h => by rw [h]; simp [wrC, WR.cells]
  by_cases hlt : i < l.length
  · have hg := wr_get hlt
    have hat := addW_at (r := r) hlt
    have cc := refCmpRow_ok l[i] r
    have hxe := wr_ext (x := l[i]) (y := r)
    have hxn := wr_ne (x := l[i]) (y := r)
    have ht := List.take_succ_eq_append_getElem hlt
    have hfull : l.take i ++ l.drop i = l := List.take_append_drop i l
    generalize hLI : l[i] = x at *
    have hstep : cmpWR x r < 0 → W = l.take (i + 1) ++ addW (l.drop (i + 1)) r := fun h => by rw [he, hat, if_pos h, ht, List.append_assoc]; rfl
    have hsame : ¬ cmpWR x r < 0 → x = r → W = l := fun h1 h2 => by rw [he, hat, if_neg h1, if_pos h2, hfull]
    have hnew : ¬ cmpWR x r < 0 → ¬ x = r → W = l.take i ++ r :: l.drop i := fun h1 h2 => by rw [he, hat, if_neg h1, if_neg h2]
    clear hat ht hfull he hW
    repeat' first | refine J_seq ?_ | refine J_region Tryz.tyOK ?_ | refine J_block ?_ | refine J_cond ?_ | refine J_ret ?_ | refine J_skip ?_ | refine J_exit ?_ | refine J_scope ?_ | refine CondP.y ?_ | refine CondP.n ?_ | refine CondP.mk (fun h => ?_) (fun h => ?_) | refine EqP.mk rfl ?_ | refine NewP.mk (fun ad => ?_) | refine ArP.x ?_ | refine SideP.a ?_ | refine J_drawS (id := 2) Tryz.tyOK (by kernel_rfl) [0, 0, 2, 7, 15, 31, 31, 127, 255, 31, 1023, 2047, 4095] [0, 1, 2, 3, 4, 5, 6, 7, 8, 9, 10, 11, 12] [] [3, 13] true (by kernel_rfl) ?_ | refine J_drawS (id := 4) Tryz.tyOK (by kernel_rfl) [0, 0, 2, 7, 15, 31, 31, 127, 255, 31, 1023, 2047] [0, 1, 2, 3, 4, 5, 6, 7, 8, 9, 10, 11] [] [3, 28] true (by kernel_rfl) ?_ | refine J_drawT (id := 6) Tryz.tyOK (by kernel_rfl) [0, 0, 3, 7, 0, 16, 63, 0, 0, 384, 1023, 2047] [0, 1, 2, 4, 7, 8, 9] 3 [5, 6, 10, 11] 5 [3, 6, 10, 11] [3, 5, 6, 10] [3] 12 false (by kernel_rfl) ?_ | refine TwoP.mk ?_ ?_ | refine EntP.mk Ents.a ?_ | refine IdxE.mk 60 4 _ (.inl ⟨c, List.Mem.tail _ (List.Mem.head _)⟩) (by omega) (by omega) ?_ | refine LoadE.mk 60 _ _ _ (.inl ⟨c, List.Mem.tail _ (List.Mem.head _)⟩) (by omega) (by omega) (by first | omega | decide) hg ?_ | refine CallQ.mk [] _ cc (fun _ _ => trivial) ?_ | refine Round.mk (i + 1) (by omega) ⟨by omega, hstep (by assumption)⟩ SubE.a (Ents.refl _ _) | refine AppE.nil (wrC (l.take i)) i rfl rfl rfl (SrcE.sl 60 60 _ _ _ _ _ rfl rfl (rpre (List.Mem.tail _ (List.Mem.head _)) rfl hi) (by rw [wrC_len, List.length_take, Nat.min_eq_left hi]; rfl)) (by dsimp only; omega) (fun a' c' => ?_) | refine AppE.nil (wrC (l.take i)) i rfl rfl rfl (SrcE.sl 60 60 _ _ _ _ _ rfl rfl (rpre (List.Mem.tail _ (List.Mem.tail _ (List.Mem.head _))) rfl hi) (by rw [wrC_len, List.length_take, Nat.min_eq_left hi]; rfl)) (by dsimp only; omega) (fun a' c' => ?_) | refine AppE.row [_] _ (wrC (l.take i)) [.s r.w, .i .i64 r.sp, .s r.nm, .i .i64 r.n] 1 rfl (SrcE.sl 60 60 _ _ 1 1 _ rfl rfl (.inl ⟨1, List.Mem.head _⟩) rfl) (by dsimp only; omega) (fun a' c' => ?_) | refine AppE.row [] _ (wrC (l.take i)) [.s r.w, .i .i64 r.sp, .s r.nm, .i .i64 r.n] 1 rfl (SrcE.sl 60 60 _ _ 1 1 _ rfl rfl (.inl ⟨1, List.Mem.tail _ (List.Mem.head _)⟩) rfl) (by dsimp only; omega) (fun a' c' => ?_) | refine AppE.row [_] _ (wrC (l.take i) ++ [.s r.w, .i .i64 r.sp, .s r.nm, .i .i64 r.n]) (wrC (l.drop i)) (l.length - i) rfl (SrcE.sl 60 60 _ _ _ _ _ rfl rfl (rsuf (List.Mem.tail _ (List.Mem.tail _ (List.Mem.tail _ (List.Mem.head _)))) rfl hi hnc) (by rw [wrC_len, List.length_drop]; rfl)) (by dsimp only; omega) (fun a' c' => ?_) | refine AppE.row [] _ (wrC (l.take i) ++ [.s r.w, .i .i64 r.sp, .s r.nm, .i .i64 r.n]) (wrC (l.drop i)) (l.length - i) rfl (SrcE.sl 60 60 _ _ _ _ _ rfl rfl (rsuf (List.Mem.tail _ (List.Mem.tail _ (List.Mem.tail _ (List.Mem.head _)))) rfl hi hnc) (by rw [wrC_len, List.length_drop]; rfl)) (by dsimp only; omega) (fun a' c' => ?_) | refine FinE.mk [_] [] ⟨a, c, by rw [hsame (by assumption) (hxe (by assumption))], by rw [hsame (by assumption) (hxe (by assumption))], rfl⟩ Ents.a | refine FinE.mk [.row 60 4 a' (i + 1 + (l.length - i)) c' (wrC (l.take i) ++ [.s r.w, .i .i64 r.sp, .s r.nm, .i .i64 r.n] ++ wrC (l.drop i))] [] ⟨a', c', by rw [h6l (hnew (by assumption) (hxn (by assumption)))], by rw [h6l (hnew (by assumption) (hxn (by assumption))), h6c (hnew (by assumption) (hxn (by assumption)))], rfl⟩ Ents.a | fail
  · have hil : i = l.length := by omega
    have hdn : l.drop i = [] := List.drop_eq_nil_of_le (by omega)
    have hnew : W = l.take i ++ r :: l.drop i := by rw [he, hdn]; rfl
    repeat' first | refine J_seq ?_ | refine J_region Tryz.tyOK ?_ | refine J_block ?_ | refine J_cond ?_ | refine J_ret ?_ | refine J_skip ?_ | refine J_exit ?_ | refine J_scope ?_ | refine CondP.y ?_ | refine CondP.n ?_ | refine CondP.mk (fun h => ?_) (fun h => ?_) | refine EqP.mk rfl ?_ | refine NewP.mk (fun ad => ?_) | refine ArP.x ?_ | refine SideP.a ?_ | refine J_drawS (id := 2) Tryz.tyOK (by kernel_rfl) [0, 0, 2, 7, 15, 31, 31, 127, 255, 31, 1023, 2047, 4095] [0, 1, 2, 3, 4, 5, 6, 7, 8, 9, 10, 11, 12] [] [3, 13] true (by kernel_rfl) ?_ | refine J_drawS (id := 4) Tryz.tyOK (by kernel_rfl) [0, 0, 2, 7, 15, 31, 31, 127, 255, 31, 1023, 2047] [0, 1, 2, 3, 4, 5, 6, 7, 8, 9, 10, 11] [] [3, 28] true (by kernel_rfl) ?_ | refine J_drawT (id := 6) Tryz.tyOK (by kernel_rfl) [0, 0, 3, 7, 0, 16, 63, 0, 0, 384, 1023, 2047] [0, 1, 2, 4, 7, 8, 9] 3 [5, 6, 10, 11] 5 [3, 6, 10, 11] [3, 5, 6, 10] [3] 12 false (by kernel_rfl) ?_ | refine TwoP.mk ?_ ?_ | refine EntP.mk Ents.a ?_ | refine AppE.nil (wrC (l.take i)) i rfl rfl rfl (SrcE.sl 60 60 _ _ _ _ _ rfl rfl (rpre (List.Mem.tail _ (List.Mem.head _)) rfl hi) (by rw [wrC_len, List.length_take, Nat.min_eq_left hi]; rfl)) (by dsimp only; omega) (fun a' c' => ?_) | refine AppE.nil (wrC (l.take i)) i rfl rfl rfl (SrcE.sl 60 60 _ _ _ _ _ rfl rfl (rpre (List.Mem.tail _ (List.Mem.tail _ (List.Mem.head _))) rfl hi) (by rw [wrC_len, List.length_take, Nat.min_eq_left hi]; rfl)) (by dsimp only; omega) (fun a' c' => ?_) | refine AppE.row [_] _ (wrC (l.take i)) [.s r.w, .i .i64 r.sp, .s r.nm, .i .i64 r.n] 1 rfl (SrcE.sl 60 60 _ _ 1 1 _ rfl rfl (.inl ⟨1, List.Mem.head _⟩) rfl) (by dsimp only; omega) (fun a' c' => ?_) | refine AppE.row [] _ (wrC (l.take i)) [.s r.w, .i .i64 r.sp, .s r.nm, .i .i64 r.n] 1 rfl (SrcE.sl 60 60 _ _ 1 1 _ rfl rfl (.inl ⟨1, List.Mem.tail _ (List.Mem.head _)⟩) rfl) (by dsimp only; omega) (fun a' c' => ?_) | refine AppE.row [_] _ (wrC (l.take i) ++ [.s r.w, .i .i64 r.sp, .s r.nm, .i .i64 r.n]) (wrC (l.drop i)) (l.length - i) rfl (SrcE.sl 60 60 _ _ _ _ _ rfl rfl (rsuf (List.Mem.tail _ (List.Mem.tail _ (List.Mem.tail _ (List.Mem.head _)))) rfl hi hnc) (by rw [wrC_len, List.length_drop]; rfl)) (by dsimp only; omega) (fun a' c' => ?_) | refine AppE.row [] _ (wrC (l.take i) ++ [.s r.w, .i .i64 r.sp, .s r.nm, .i .i64 r.n]) (wrC (l.drop i)) (l.length - i) rfl (SrcE.sl 60 60 _ _ _ _ _ rfl rfl (rsuf (List.Mem.tail _ (List.Mem.tail _ (List.Mem.tail _ (List.Mem.head _)))) rfl hi hnc) (by rw [wrC_len, List.length_drop]; rfl)) (by dsimp only; omega) (fun a' c' => ?_) | refine FinE.mk [.row 60 4 a' (i + 1 + (l.length - i)) c' (wrC (l.take i) ++ [.s r.w, .i .i64 r.sp, .s r.nm, .i .i64 r.n] ++ wrC (l.drop i))] [] ⟨a', c', by rw [h6l hnew], by rw [h6l hnew, h6c hnew], rfl⟩ Ents.a | fail
end Go.Proofs
namespace Go.X
open Go Go.Lib
theorem wr_get2 {l : List WR} {i : Nat} (h : i < l.length) : ((wrC l).drop (i * 4 + 1)).take 2 = [.i .i64 l[i].sp, .s l[i].nm] := by
  rw [wrC, flat_get (F := WR.cells) (z := 4) (fun _ => rfl) h (by omega)]; rfl
end Go.X
namespace Go.Proofs
open Go Go.X
set_option maxRecDepth 100000
set_option maxHeartbeats 4000000
end Go.Proofs

/- This text gives the contracts of strings.IndexAny and strings.ContainsAny at two ASCII characters and any string, and of decoding steps. -/
namespace Go.X
open Go
end Go.X
namespace Go.Proofs
open Go Go.X Go.RowKit Go.Shelf
set_option maxRecDepth 100000
end Go.Proofs

/- This text gives the contract of strings.FieldsFunc at the test for a blank, and the words of a string. -/
namespace Go.X
open Go
/-- The words of a string: what lies between bytes of the kind p. -/
def wordsGo (p : UInt8 → Bool) : List UInt8 → List UInt8 → List (List UInt8)
  | cur, [] => if cur = [] then [] else [cur]
  | cur, b :: r => match p b with
    | true => if cur = [] then wordsGo p [] r else cur :: wordsGo p [] r
    | false => wordsGo p (cur ++ [b]) r
def wordsT (p : UInt8 → Bool) (s : List UInt8) : List (List UInt8) := wordsGo p [] s
theorem wordsGo_run {p : UInt8 → Bool} (b : List UInt8) : ∀ (cur r : List UInt8), (∀ x ∈ b, p x = false) → wordsGo p cur (b ++ r) = wordsGo p (cur ++ b) r := by
  induction b with
  | nil => intro cur r _; simp
  | cons x b ih =>
    intro cur r h
    rw [List.cons_append, wordsGo, h x (by simp)]
    show wordsGo p (cur ++ [x]) (b ++ r) = _
    rw [ih _ _ fun y hy => h y (by simp [hy]), List.append_assoc]; rfl
/-- The part of s from i to j. -/
def part (s : List UInt8) (i j : Nat) : List UInt8 := (s.take j).drop i
theorem part_nil (s : List UInt8) (i : Nat) : part s i i = [] := by
  unfold part; rw [List.drop_eq_nil_of_le]; simp; omega
theorem part_add {s : List UInt8} {i j k : Nat} (h1 : i ≤ j) (h2 : j ≤ k) (h3 : k ≤ s.length) : part s i k = part s i j ++ part s j k := by
  unfold part
  have e : s.take k = s.take j ++ (s.take k).drop j := by
    conv => lhs; rw [← List.take_append_drop j (s.take k)]
    rw [List.take_take, Nat.min_eq_left h2]
  conv => lhs; rw [e]
  exact List.drop_append_of_le_length (by simp; omega)
theorem part_len {s : List UInt8} {i j : Nat} (h1 : i ≤ j) (h2 : j ≤ s.length) : (part s i j).length = j - i := by
  unfold part; simp; omega
/-- Whole pieces that are found and the words that are still to come. -/
structure FInv (p : UInt8 → Bool) (s : List UInt8) (pos : Nat) (sp : List (Nat × Nat)) (st : Int) : Prop where
  ple : pos ≤ s.length
  spl : ∀ x ∈ sp, x.1 ≤ x.2 ∧ x.2 ≤ s.length
  len : sp.length ≤ pos
  lo : -1 - (s.length : Int) ≤ st
  hi : st < pos ∨ st < 0
  w : sp.map (fun x => part s x.1 x.2) ++ wordsGo p (if 0 ≤ st then part s st.toNat pos else []) (s.drop pos) = wordsT p s
theorem FInv.start (p : UInt8 → Bool) (s : List UInt8) : FInv p s 0 [] (-1) :=
  ⟨Nat.zero_le _, (fun x hx => by cases hx), Nat.le_refl _, by omega, .inr (by omega), by simp [wordsT]⟩
theorem FInv.skip {p : UInt8 → Bool} {s : List UInt8} {pos : Nat} {sp : List (Nat × Nat)} {st : Int} (h : FInv p s pos sp st) (hl : pos < s.length) (hb : p (s.getD pos 0) = true) (hs : ¬ 0 ≤ st) : FInv p s (pos + 1) sp st := by
  have hw := h.w
  have hd : s.drop pos = s.getD pos 0 :: s.drop (pos + 1) := by rw [List.drop_eq_getElem_cons hl]; simp [hl]
  rw [if_neg hs, hd, wordsGo, hb] at hw
  refine ⟨by omega, h.spl, by have := h.len; omega, h.lo, .inr (by omega), ?_⟩
  rw [if_neg hs]
  simpa using hw
theorem FInv.done {p : UInt8 → Bool} {s : List UInt8} {sp : List (Nat × Nat)} {st : Int} (h : FInv p s s.length sp st) :
    if 0 ≤ st then (sp ++ [(st.toNat, s.length)]).map (fun x => part s x.1 x.2) = wordsT p s else sp.map (fun x => part s x.1 x.2) = wordsT p s := by
  have hw := h.w
  split
  · rename_i hs
    have h1 : st < s.length := by rcases h.hi with h1 | h1 <;> omega
    have hne : part s st.toNat s.length ≠ [] := fun hc => by
      have := part_len (s := s) (show st.toNat ≤ s.length by omega) (Nat.le_refl _)
      rw [hc] at this
      simp at this; omega
    rw [if_pos hs, List.drop_length, wordsGo, if_neg hne] at hw
    rw [List.map_append]
    exact hw
  · rename_i hs
    rw [if_neg hs, List.drop_length, wordsGo, if_pos rfl, List.append_nil] at hw
    exact hw
def blankB (c : UInt8) : Bool := c == 32 || c == 9
end Go.X
namespace Go.Proofs
open Go Go.X Go.RowKit Go.Shelf
set_option maxRecDepth 100000
end Go.Proofs

/- This text says in plain Lean what the functions on policies compute: names, groups, rules, guards and the first error of a policy. -/
namespace Go.X
abbrev Bs := List UInt8
/-- A group as it lies in memory. -/
structure GrpM where
  name : Bs
  a : Option Addr
  c : Nat
  mem : List Bs
structure Rul where
  allow : Bool
  right : Int
  group : Bs
  kind : Int
  sp : Int
  nm : Bs
structure Grd where
  strict : Bool
  group : Bs
  sp : Int
  nm : Bs
  sect : Bs
def GrpM.cells (g : GrpM) : List C := [.s g.name, .sl g.a g.mem.length g.c]
def Rul.cells (r : Rul) : List C := [.b r.allow, .i .i64 r.right, .s r.group, .i .i64 r.kind, .i .i64 r.sp, .s r.nm]
def Grd.cells (g : Grd) : List C := [.b g.strict, .s g.group, .i .i64 g.sp, .s g.nm, .s g.sect]
def gsC (l : List GrpM) : List C := l.flatMap GrpM.cells
def rsC (l : List Rul) : List C := l.flatMap Rul.cells
def xsC (l : List Grd) : List C := l.flatMap Grd.cells
/-- The members of all groups lie in memory that stays. -/
def memsF (gs : List GrpM) : Fact :=
  ⟨fun m => ∀ g ∈ gs, SlF m 0 1 g.a g.mem.length (g.mem.map C.s), fun m m' hm h g hg => (slFact 0 1 g.a g.mem.length (g.mem.map C.s)).mono m m' hm (h g hg)⟩
/-! ### Names -/
def nameB (c : UInt8) : Bool :=
  !((decide ((c.toNat : Int) < 97) || decide (122 < (c.toNat : Int))) && (decide ((c.toNat : Int) < 48) || decide (57 < (c.toNat : Int))) && !decide ((c.toNat : Int) = 45) && !decide ((c.toNat : Int) = 95))
def isNameT (s : Bs) : Bool :=
  !decide ((s.length : Int) < 1) && !decide (30 < (s.length : Int)) && !decide (((s.getD 0 0).toNat : Int) < 97) && !decide (122 < ((s.getD 0 0).toNat : Int)) && s.all nameB
def bAll : Bs := [97, 108, 108]
def bUsers : Bs := [117, 115, 101, 114, 115]
def builtT (s : Bs) : Bool := decide (s = bAll) || decide (s = bUsers)
def existsT (ns : List Bs) (s : Bs) : Bool := builtT s || ns.any fun x => decide (x = s)
/-- The first error among the members of a group. -/
def memErr (ns : List Bs) : List Bs → Int
  | [] => 0
  | m :: r => if isNameT (Lib.trimPrefix m [64]) = false then 1 else if Lib.hasPrefix m [64] = true ∧ existsT ns (Lib.trimPrefix m [64]) = false then 4 else memErr ns r
def grpErr (ns ahead : List Bs) (name : Bs) (mem : List Bs) : Int :=
  if isNameT name = false then 1 else if existsT ahead name = true then 5 else if 24 < (mem.length : Int) then 3 else memErr ns mem
def scopeOK (kind sp : Int) (nm : Bs) : Bool :=
  if kind = 1 then decide (sp = 0 ∧ nm = []) else if kind = 2 then decide (0 ≤ sp) && decide (sp < 6) && decide (nm = []) else if kind = 3 then validT sp nm else false
def rulErr (ns : List Bs) (r : Rul) : Int :=
  if r.right < 1 ∨ 5 < r.right then 2 else if existsT ns r.group = false then 4 else if scopeOK r.kind r.sp r.nm = false then 7 else 0
/-- Without blanks at both ends. -/
def trimT (s : Bs) : Bs := Lib.trimS s [32, 9]
def sectOK (s : Bs) : Bool := !decide (100 < (s.length : Int)) && !s.any (fun c => c == 10 || c == 124) && decide (trimT s = s)
def grdErr (ns : List Bs) (g : Grd) : Int :=
  if existsT ns g.group = false then 4 else if (validT g.sp g.nm && sectOK g.sect) = false then 7 else 0
/-- The first number other than 0. -/
def firstErr : List Int → Int
  | [] => 0
  | e :: r => if e = 0 then firstErr r else e
/-- The names of groups, with their members. -/
abbrev GP := List (Bs × List Bs)
def grpErrs (gs : GP) : List Int := gs.mapIdx fun i g => grpErr (gs.map (·.1)) ((gs.map (·.1)).take i) g.1 g.2
def validateT (gs : GP) (rs : List Rul) (xs : List Grd) : Int :=
  if 24 < (gs.length : Int) ∨ 64 < (rs.length : Int) ∨ 64 < (xs.length : Int) then 3
  else firstErr (grpErrs gs ++ rs.map (rulErr (gs.map (·.1))) ++ xs.map (grdErr (gs.map (·.1))))
def gpOf (gs : List GrpM) : GP := gs.map fun g => (g.name, g.mem)
end Go.X

/- This text says in plain Lean what the reading of policy texts computes: words, groups, rules, guards, lines, whole texts. -/
namespace Go.X
theorem trimS_le (s cs : Bs) : (Lib.trimS s cs).length ≤ s.length := by
  unfold Lib.trimS Lib.trimLeftS Lib.trimRightS
  refine Nat.le_trans (List.dropWhile_sublist _).length_le ?_
  rw [List.length_reverse]
  refine Nat.le_trans (List.dropWhile_sublist _).length_le ?_
  rw [List.length_reverse]; exact Nat.le_refl _
theorem trimT_le (s : Bs) : (trimT s).length ≤ s.length := trimS_le s _
/-- The first word of a line and the rest. -/
def nextT (s : Bs) : Bs × Bs :=
  if Lib.indexAny (trimT s) [32, 9] < 0 then (trimT s, []) else ((trimT s).take (Lib.indexAny (trimT s) [32, 9]).toNat, trimT ((trimT s).drop (Lib.indexAny (trimT s) [32, 9]).toNat))
theorem nextT_le (s : Bs) : (nextT s).1.length ≤ s.length ∧ (nextT s).2.length ≤ s.length := by
  have h := trimS_le s [32, 9]
  unfold nextT
  split
  · exact ⟨h, Nat.zero_le _⟩
  · refine ⟨?_, ?_⟩
    · exact Nat.le_trans (by rw [List.length_take]; exact Nat.min_le_right _ _) h
    · refine Nat.le_trans (trimS_le _ _) (Nat.le_trans ?_ h)
      rw [List.length_drop]; exact Nat.sub_le _ _
/-- The place of a word in a list; -1 if it is not there. -/
def idxS : List Bs → Bs → Int
  | [], _ => -1
  | y :: r, x => if x = y then 0 else if idxS r x < 0 then -1 else idxS r x + 1
theorem idxS_lt (xs : List Bs) (x : Bs) : -1 ≤ idxS xs x ∧ idxS xs x < xs.length := by
  induction xs with
  | nil => exact ⟨Int.le_refl _, by show (-1 : Int) < _; simp⟩
  | cons y r ih =>
    rw [idxS]
    split
    · simp
    · split
      · simp; omega
      · simp; omega
def rightsL : List Bs := [[114, 101, 97, 100], [101, 100, 105, 116], [109, 111, 118, 101], [100, 101, 108, 101, 116, 101], [114, 101, 118, 105, 101, 119]]
def spacesL : List Bs := [[60, 77, 97, 105, 110, 62], [60, 84, 97, 108, 107, 62], [60, 85, 115, 101, 114, 62], [60, 84, 101, 109, 112, 108, 97, 116, 101, 62], [60, 67, 97, 116, 101, 103, 111, 114, 121, 62], [60, 80, 114, 111, 106, 101, 99, 116, 62]]
def wAll : Bs := [60, 97, 108, 108, 62]
/-- What a policy says, without places. -/
abbrev P3 := GP × List Rul × List Grd
def groupT (q : P3) (rest : Bs) : Bool × P3 :=
  (!decide ((nextT rest).1 = []), (q.1 ++ [((nextT rest).1, wordsT blankB (nextT rest).2)], q.2.1, q.2.2))
/-- The scope of a text. -/
def scopeT (s : Bs) : Option (Int × Int × Bs) :=
  if s = wAll then some (1, 0, []) else if 0 ≤ idxS spacesL s then some (2, idxS spacesL s, []) else if (parseT s).2.2 = 0 then some (3, (parseT s).1, (parseT s).2.1) else none
def ruleT (q : P3) (rest : Bs) (allow : Bool) : Bool × P3 :=
  let w := nextT rest
  let n := nextT w.2
  if idxS rightsL w.1 + 1 = 0 then (false, q) else match scopeT n.2 with
    | none => (false, q)
    | some (k, sp, nm) => (true, (q.1, q.2.1 ++ [⟨allow, idxS rightsL w.1 + 1, n.1, k, sp, nm⟩], q.2.2))
def guardT (q : P3) (rest : Bs) (strict : Bool) : Bool × P3 :=
  let w := nextT rest
  let c := cutAt 124 w.2
  let t := parseT (trimT c.1)
  if t.2.2 ≠ 0 ∨ (c.2.2 = true ∧ trimT c.2.1 = []) then (false, q) else (true, (q.1, q.2.1, q.2.2 ++ [⟨strict, w.1, t.1, t.2.1, trimT c.2.1⟩]))
def wGroup : Bs := [103, 114, 111, 117, 112]
def wAllow : Bs := [97, 108, 108, 111, 119]
def wDeny : Bs := [100, 101, 110, 121]
def wGuard : Bs := [103, 117, 97, 114, 100]
def wStrict : Bs := [115, 116, 114, 105, 99, 116]
def stmtT (q : P3) (line : Bs) : Bool × P3 :=
  let w := nextT line
  if w.1 = [] ∨ w.1.getD 0 0 = 35 then (true, q)
  else if w.1 = wGroup then groupT q w.2
  else if w.1 = wAllow ∨ w.1 = wDeny then ruleT q w.2 (decide (w.1 = wAllow))
  else if w.1 = wGuard ∨ w.1 = wStrict then guardT q w.2 (decide (w.1 = wStrict))
  else (false, q)
/-! ### Words and trimmed texts -/
def dropL (s : Bs) : Bs := s.dropWhile blankB
def dropE (s : Bs) : Bs := (s.reverse.dropWhile blankB).reverse
def nb (c : UInt8) : Bool := !blankB c
theorem contains_blank (c : UInt8) : ([32, 9] : Bs).contains c = blankB c := by
  unfold blankB
  simp only [List.contains_cons, List.contains_nil, Bool.or_false]
theorem trimT_eq (s : Bs) : trimT s = dropL (dropE s) := by
  unfold trimT Lib.trimS Lib.trimLeftS Lib.trimRightS dropL dropE
  rw [show (([32, 9] : Bs).contains ·) = blankB from funext contains_blank]
theorem dropWhile_all {p : UInt8 → Bool} {a b : Bs} (h : ∀ x ∈ a, p x = true) : (a ++ b).dropWhile p = b.dropWhile p := by
  induction a with
  | nil => rfl
  | cons x r ih => rw [List.cons_append, List.dropWhile_cons, if_pos (h x (by simp)), ih fun y hy => h y (by simp [hy])]
theorem dropWhile_none {p : UInt8 → Bool} {a : Bs} (h : ∀ x ∈ a, p x = false) : a.dropWhile p = a := by
  cases a with
  | nil => rfl
  | cons x r => rw [List.dropWhile_cons, if_neg (by rw [h x (by simp)]; simp)]
theorem takeWhile_mem {p : UInt8 → Bool} {a : Bs} {x : UInt8} (h : x ∈ a.takeWhile p) : p x = true := by
  induction a with
  | nil => cases h
  | cons y r ih =>
    rw [List.takeWhile_cons] at h
    split at h
    · rcases List.mem_cons.1 h with rfl | h
      · assumption
      · exact ih h
    · cases h
theorem dropWhile_head {p : UInt8 → Bool} (a : Bs) : a.dropWhile p = [] ∨ ∃ x r, a.dropWhile p = x :: r ∧ p x = false := by
  induction a with
  | nil => exact .inl rfl
  | cons y r ih =>
    rw [List.dropWhile_cons]
    split
    · exact ih
    · rename_i h; exact .inr ⟨y, r, rfl, by simpa using h⟩
theorem dropE_app {w : Bs} (h : ∀ x ∈ w, blankB x = false) (x : Bs) : dropE (w ++ x) = w ++ dropE x := by
  unfold dropE
  rw [List.reverse_append, List.dropWhile_append]
  split
  · rename_i he
    rw [dropWhile_none fun y hy => h y (by simpa using hy)]
    simp at he
    rw [List.reverse_reverse, show x.reverse.dropWhile blankB = [] from by simpa using he]; simp
  · rw [List.reverse_append, List.reverse_reverse]
theorem dropE_split (s : Bs) : ∃ B, s = dropE s ++ B ∧ ∀ x ∈ B, blankB x = true := by
  refine ⟨(s.reverse.takeWhile blankB).reverse, ?_, fun x hx => takeWhile_mem (by simpa using hx)⟩
  unfold dropE
  rw [← List.reverse_append, List.takeWhile_append_dropWhile, List.reverse_reverse]
theorem dropL_split (s : Bs) : ∃ A, s = A ++ dropL s ∧ ∀ x ∈ A, blankB x = true := ⟨s.takeWhile blankB, (List.takeWhile_append_dropWhile).symm, fun _ h => takeWhile_mem h⟩
theorem dropE_blank {s : Bs} (h : ∀ x ∈ s, blankB x = true) : dropE s = [] := by
  unfold dropE
  have := dropWhile_all (p := blankB) (a := s.reverse) (b := []) (fun x hx => h x (by simpa using hx))
  rw [List.append_nil] at this
  rw [this]; rfl
theorem dropE_idem (s : Bs) : dropE (dropE s) = dropE s := by
  unfold dropE
  rw [List.reverse_reverse]
  rcases dropWhile_head (p := blankB) s.reverse with h | ⟨x, r, h, hx⟩
  · rw [h]; rfl
  · rw [h, List.dropWhile_cons, if_neg (by rw [hx]; simp)]
theorem dropL_idem (s : Bs) : dropL (dropL s) = dropL s := by
  unfold dropL
  rcases dropWhile_head (p := blankB) s with h | ⟨x, r, h, hx⟩
  · rw [h]; rfl
  · rw [h, List.dropWhile_cons, if_neg (by rw [hx]; simp)]
/-- The ends do not matter to one another. -/
theorem dropLE (s : Bs) : dropL (dropE s) = dropE (dropL s) := by
  obtain ⟨A, hA, hb⟩ := dropL_split s
  rcases dropWhile_head (p := blankB) s with h | ⟨x, r, h, hx⟩
  · have hs : dropL s = [] := h
    rw [hs] at hA ⊢
    rw [List.append_nil] at hA
    rw [hA, dropE_blank hb]; rfl
  · have hs : dropL s = x :: r := h
    rw [hs] at hA ⊢
    have h1 : dropE (x :: r) = x :: dropE r := dropE_app (w := [x]) (fun y hy => by simp at hy; rw [hy]; exact hx) r
    have h2 : dropE (A ++ (x :: r)) = A ++ dropE (x :: r) := by
      rw [h1]
      unfold dropE
      rw [List.reverse_append, List.dropWhile_append, if_neg, List.reverse_append, List.reverse_reverse]
      · have h3 := h1
        unfold dropE at h3
        rw [h3]
      · intro he
        have h3 := h1
        unfold dropE at h3
        have h4 : (x :: r).reverse.dropWhile blankB = [] := by simpa using he
        rw [h4] at h3
        cases h3
    rw [hA, h2, h1]
    unfold dropL
    rw [dropWhile_all hb, List.dropWhile_cons, if_neg (by rw [hx]; simp)]
theorem trimT_idem (s : Bs) : trimT (trimT s) = trimT s := by
  rw [trimT_eq, trimT_eq s, dropLE s, dropE_idem, dropLE, dropL_idem]
theorem trimT_dropE (s : Bs) : trimT (dropE s) = trimT s := by rw [trimT_eq, trimT_eq, dropE_idem]
theorem words_blank {A : Bs} (h : ∀ x ∈ A, blankB x = true) (x : Bs) : wordsGo blankB [] (A ++ x) = wordsGo blankB [] x := by
  induction A with
  | nil => rfl
  | cons a A ih => rw [List.cons_append, wordsGo, h a (by simp)]; exact ih fun y hy => h y (by simp [hy])
theorem words_blankE {B : Bs} (h : ∀ x ∈ B, blankB x = true) (x : Bs) : ∀ cur, wordsGo blankB cur (x ++ B) = wordsGo blankB cur x := by
  induction x with
  | nil =>
    intro cur
    cases B with
    | nil => rfl
    | cons b B =>
      have := words_blank (A := B) (fun y hy => h y (by simp [hy])) []
      rw [List.append_nil] at this
      have e : wordsGo blankB cur (b :: B) = if cur = [] then wordsGo blankB [] B else cur :: wordsGo blankB [] B := by rw [wordsGo, h b (by simp)]
      rw [List.nil_append, e, this]
      by_cases hc : cur = [] <;> simp [wordsGo, hc]
  | cons y x ih =>
    intro cur
    rw [List.cons_append, wordsGo, wordsGo, ih, ih]
theorem words_trim (s : Bs) : wordsT blankB (trimT s) = wordsT blankB s := by
  rw [trimT_eq]
  obtain ⟨B, hB, hb⟩ := dropE_split s
  obtain ⟨A, hA, ha⟩ := dropL_split (dropE s)
  unfold wordsT
  conv => rhs; rw [hB, words_blankE hb, hA, words_blank ha]
theorem indexAny_run {w : Bs} (h : ∀ x ∈ w, blankB x = false) {x : UInt8} (hx : blankB x = true) (r : Bs) : Lib.indexAny (w ++ x :: r) [32, 9] = w.length := by
  induction w with
  | nil => rw [List.nil_append, Lib.indexAny, if_pos (by rw [contains_blank]; exact hx)]; rfl
  | cons y w ih =>
    have := ih fun z hz => h z (by simp [hz])
    rw [List.cons_append, Lib.indexAny, if_neg (by rw [contains_blank, h y (by simp)]; simp), this, if_neg (by simp), List.length_cons]
    omega
theorem indexAny_none {w : Bs} (h : ∀ x ∈ w, blankB x = false) : Lib.indexAny w [32, 9] = -1 := by
  induction w with
  | nil => rfl
  | cons y w ih =>
    have := ih fun z hz => h z (by simp [hz])
    rw [Lib.indexAny, if_neg (by rw [contains_blank, h y (by simp)]; simp), this, if_pos (by simp)]
/-- The first word, and what comes behind it. -/
def wd (s : Bs) : Bs := (dropL s).takeWhile nb
def behindW (s : Bs) : Bs := (dropL s).dropWhile nb
theorem wd_nb {s : Bs} {x : UInt8} (h : x ∈ wd s) : blankB x = false := by
  have := takeWhile_mem h
  simpa [nb] using this
theorem trimT_wd (s : Bs) : trimT s = wd s ++ dropE (behindW s) := by
  rw [trimT_eq, dropLE]
  conv => lhs; rw [← List.takeWhile_append_dropWhile (p := nb) (l := dropL s)]
  exact dropE_app (fun x hx => wd_nb hx) _
theorem dropE_head {s : Bs} (h : s = [] ∨ ∃ x r, s = x :: r ∧ blankB x = true) : dropE s = [] ∨ ∃ x r, dropE s = x :: r ∧ blankB x = true := by
  obtain ⟨B, hB, _⟩ := dropE_split s
  rcases h with h | ⟨x, r, h, hx⟩
  · subst h; exact .inl rfl
  · cases hd : dropE s with
    | nil => exact .inl rfl
    | cons y q =>
      rw [hd, h] at hB
      injection hB with h1 _
      exact .inr ⟨y, q, rfl, by rw [← h1]; exact hx⟩
theorem behindW_head (s : Bs) : behindW s = [] ∨ ∃ x r, behindW s = x :: r ∧ blankB x = true := by
  rcases dropWhile_head (p := nb) (dropL s) with h | ⟨x, r, h, hx⟩
  · exact .inl h
  · exact .inr ⟨x, r, h, by simpa [nb] using hx⟩
theorem nextT_eq (s : Bs) : nextT s = (wd s, trimT (behindW s)) := by
  unfold nextT
  rw [trimT_wd s]
  rcases dropE_head (behindW_head s) with h | ⟨x, r, h, hx⟩
  · rw [h, List.append_nil, if_pos (by rw [indexAny_none fun x hx => wd_nb hx]; decide)]
    rw [← trimT_dropE, h]; rfl
  · rw [h, indexAny_run (fun x hx => wd_nb hx) hx, if_neg (by omega), Int.toNat_natCast, List.take_left', List.drop_left', ← h, trimT_dropE]
    · rfl
    · rfl
theorem words_next (s : Bs) : wordsT blankB s = if (nextT s).1 = [] then [] else (nextT s).1 :: wordsT blankB (nextT s).2 := by
  rw [nextT_eq]
  show _ = if wd s = [] then [] else wd s :: wordsT blankB (trimT (behindW s))
  rw [words_trim]
  obtain ⟨A, hA, ha⟩ := dropL_split s
  have h1 : wordsT blankB s = wordsGo blankB (wd s) (behindW s) := by
    unfold wordsT
    conv => lhs; rw [hA, words_blank ha, ← List.takeWhile_append_dropWhile (p := nb) (l := dropL s)]
    have := wordsGo_run (p := blankB) (wd s) [] (behindW s) (fun x hx => wd_nb hx)
    rw [List.nil_append] at this
    exact this
  rw [h1]
  rcases behindW_head s with h | ⟨x, r, h, hx⟩
  · rw [h]; unfold wordsT wordsGo; rfl
  · rw [h]
    unfold wordsT
    rw [wordsGo, wordsGo, hx]
    simp only [if_true]
    split
    · rename_i hw
      exfalso
      have h2 : dropL s = wd s ++ behindW s := (List.takeWhile_append_dropWhile).symm
      rw [hw, h, List.nil_append] at h2
      rcases dropWhile_head (p := blankB) s with h3 | ⟨y, q, h3, hy⟩
      · rw [show dropL s = [] from h3] at h2; cases h2
      · rw [show dropL s = y :: q from h3] at h2
        injection h2 with h4 _
        rw [h4, hx] at hy; cases hy
    · rfl
/-- The text without its first n words. -/
def restT : Bs → Nat → Bs
  | s, 0 => trimT s
  | s, n + 1 => restT ((trimT s).dropWhile nb) n
theorem restT_trim (s : Bs) : ∀ n, restT (trimT s) n = restT s n
  | 0 => trimT_idem s
  | n + 1 => by rw [restT, restT, trimT_idem]
theorem restT_next (s : Bs) (n : Nat) : restT s (n + 1) = restT (nextT s).2 n := by
  rw [restT, nextT_eq, trimT_wd]
  show _ = restT (trimT (behindW s)) n
  rw [restT_trim]
  have h : (wd s ++ dropE (behindW s)).dropWhile nb = dropE (behindW s) := by
    rw [dropWhile_all fun x hx => by have := wd_nb hx; simp [nb, this]]
    rcases dropE_head (behindW_head s) with h | ⟨x, r, h, hx⟩
    · rw [h]; rfl
    · rw [h, List.dropWhile_cons, if_neg (by simp [nb, hx])]
  rw [h, ← restT_trim, trimT_dropE, restT_trim]
theorem restT_le (s : Bs) : ∀ n, (restT s n).length ≤ s.length := by
  intro n
  induction n generalizing s with
  | zero => exact trimT_le s
  | succ n ih =>
    rw [restT]
    exact Nat.le_trans (ih _) (Nat.le_trans (List.dropWhile_sublist _).length_le (trimT_le s))
theorem nextT_trim (s : Bs) : trimT (nextT s).2 = (nextT s).2 := by rw [nextT_eq]; exact trimT_idem _
theorem restT_one (s : Bs) : restT s 1 = (nextT s).2 := by rw [restT_next, restT, nextT_trim]
theorem restT_two (s : Bs) : restT s 2 = (nextT (nextT s).2).2 := by rw [restT_next, restT_one]
theorem restT_three (s : Bs) : restT s 3 = (nextT (nextT (nextT s).2).2).2 := by rw [restT_next, restT_two]
/-! ### Lines by their words -/
theorem wd_nil {s : Bs} (h : wd s = []) : dropL s = [] := by
  have h2 : dropL s = wd s ++ behindW s := (List.takeWhile_append_dropWhile).symm
  rw [h, List.nil_append] at h2
  rcases dropWhile_head (p := blankB) s with h3 | ⟨y, q, h3, hy⟩
  · exact h3
  · rcases behindW_head s with h4 | ⟨x, r, h4, hx⟩
    · rw [h2, h4]
    · rw [h4, show dropL s = y :: q from h3] at h2
      injection h2 with h5 _
      rw [h5, hx] at hy; cases hy
theorem words_cases (s : Bs) : (wordsT blankB s = [] ∧ (nextT s).1 = [] ∧ (nextT s).2 = []) ∨ ((nextT s).1 ≠ [] ∧ wordsT blankB s = (nextT s).1 :: wordsT blankB (nextT s).2) := by
  have h := words_next s
  by_cases hw : (nextT s).1 = []
  · rw [if_pos hw] at h
    refine .inl ⟨h, hw, ?_⟩
    rw [nextT_eq] at hw ⊢
    have h2 := wd_nil hw
    show trimT (behindW s) = []
    unfold behindW
    rw [h2]; rfl
  · rw [if_neg hw] at h
    exact .inr ⟨hw, h⟩
theorem parseT_nil : (parseT []).2.2 ≠ 0 := by
  have hv : validT (spaceP []) (nameP []) = false := by
    cases h : validT (spaceP []) (nameP []) with
    | false => rfl
    | true =>
      have h1 := validT_bounds h
      have h2 := nameP_le []
      simp at h2
      rw [h2] at h1
      simp at h1
  have hn := nameP_le []
  unfold parseT
  rw [hv]
  split <;> simp
theorem scopeT_nil : scopeT [] = none := by
  unfold scopeT
  rw [if_neg (by decide), if_neg (by decide), if_neg parseT_nil]
theorem stmt_none {q : P3} {s : Bs} (h : wordsT blankB s = []) : stmtT q s = (true, q) := by
  rcases words_cases s with ⟨_, h1, _⟩ | ⟨_, h2⟩
  · unfold stmtT; simp only; rw [if_pos (.inl h1)]
  · rw [h] at h2; cases h2
theorem stmt_word {s a : Bs} {w : List Bs} (h : wordsT blankB s = a :: w) : a ≠ [] ∧ (nextT s).1 = a ∧ wordsT blankB (nextT s).2 = w := by
  rcases words_cases s with ⟨h1, _⟩ | ⟨h1, h2⟩
  · rw [h] at h1; cases h1
  · rw [h] at h2
    injection h2 with h3 h4
    exact ⟨h3 ▸ h1, h3.symm, h4.symm⟩
theorem stmt_hash {q : P3} {s a : Bs} {w : List Bs} (h : wordsT blankB s = a :: w) (ha : a.getD 0 0 = 35) : stmtT q s = (true, q) := by
  obtain ⟨_, h1, _⟩ := stmt_word h
  unfold stmtT; simp only; rw [if_pos (.inr (by rw [h1]; exact ha))]
theorem stmt_group {q : P3} {s : Bs} {w : List Bs} (h : wordsT blankB s = wGroup :: w) : stmtT q s = (!decide (w = []), (q.1 ++ [(w.getD 0 [], w.drop 1)], q.2.1, q.2.2)) := by
  obtain ⟨_, h1, h2⟩ := stmt_word h
  unfold stmtT
  simp only [h1]
  rw [if_neg (by decide), if_pos trivial]
  unfold groupT
  rcases words_cases (nextT s).2 with ⟨h3, h4, h5⟩ | ⟨h3, h4⟩
  · rw [h2] at h3
    subst h3
    rw [h4, h5]; rfl
  · rw [h2] at h4
    subst h4
    simp [h3]
def ruleW (q : P3) (allow : Bool) (w : List Bs) (x : Bs) : Bool × P3 :=
  if w.length < 3 ∨ idxS rightsL (w.getD 0 []) + 1 = 0 then (false, q) else match scopeT x with
    | none => (false, q)
    | some (k, sp, nm) => (true, (q.1, q.2.1 ++ [⟨allow, idxS rightsL (w.getD 0 []) + 1, w.getD 1 [], k, sp, nm⟩], q.2.2))
def guardW (q : P3) (strict : Bool) (w : List Bs) (x : Bs) : Bool × P3 :=
  if w.length < 2 then (false, q) else
  let c := cutAt 124 x
  let t := parseT (trimT c.1)
  if t.2.2 ≠ 0 ∨ (c.2.2 = true ∧ trimT c.2.1 = []) then (false, q) else (true, (q.1, q.2.1, q.2.2 ++ [⟨strict, w.getD 0 [], t.1, t.2.1, trimT c.2.1⟩]))
theorem trimT_nil : trimT [] = [] := rfl
theorem stmt_rule {q : P3} {s a : Bs} {w : List Bs} (h : wordsT blankB s = a :: w) (ha : a = wAllow ∨ a = wDeny) : stmtT q s = ruleW q (decide (a = wAllow)) w (restT s 3) := by
  obtain ⟨_, h1, h2⟩ := stmt_word h
  have hx : a.getD 0 0 ≠ 35 ∧ a ≠ wGroup := by rcases ha with rfl | rfl <;> decide
  unfold stmtT
  simp only [h1]
  rw [if_neg (fun hc => hc.elim (fun h0 => by rcases ha with rfl | rfl <;> cases h0) hx.1), if_neg hx.2, if_pos ha, restT_three]
  unfold ruleT ruleW
  simp only
  rcases words_cases (nextT s).2 with ⟨h3, h4, h5⟩ | ⟨h3, h4⟩
  · rw [h2] at h3; subst h3
    rw [h4, h5, if_pos (by decide), if_pos (by simp)]
  rw [h2] at h4
  have e0 : w.getD 0 [] = (nextT (nextT s).2).1 := by rw [h4]; rfl
  rw [e0]
  generalize nextT (nextT s).2 = n1 at *
  obtain ⟨w1, r1⟩ := n1
  simp only at *
  by_cases hi : idxS rightsL w1 + 1 = 0
  · rw [if_pos hi, if_pos (.inr hi)]
  rw [if_neg hi]
  rcases words_cases r1 with ⟨h5, h6, h7⟩ | ⟨h5, h6⟩
  · rw [if_pos (.inl (by rw [h4, h5]; simp)), h7, scopeT_nil]
  rcases words_cases (nextT r1).2 with ⟨h7, h8, h9⟩ | ⟨h7, h8⟩
  · rw [if_pos (.inl (by rw [h4, h6, h7]; simp))]
    have : (nextT r1).2 = [] := by
      have := nextT_trim r1
      have h10 := trimT_wd (nextT r1).2
      rw [nextT_eq] at h8
      have h11 := wd_nil h8
      rw [← this, trimT_eq, dropLE, h11]; rfl
    rw [this, scopeT_nil]
  · have hl : ¬ (w.length < 3 ∨ idxS rightsL w1 + 1 = 0) := by
      rw [h4, h6, h8]; simp; omega
    rw [if_neg hl]
    have e1 : w.getD 1 [] = (nextT r1).1 := by rw [h4, h6]; rfl
    rw [e1]
theorem stmt_guard {q : P3} {s a : Bs} {w : List Bs} (h : wordsT blankB s = a :: w) (ha : a = wGuard ∨ a = wStrict) : stmtT q s = guardW q (decide (a = wStrict)) w (restT s 2) := by
  obtain ⟨_, h1, h2⟩ := stmt_word h
  have hx : a.getD 0 0 ≠ 35 ∧ a ≠ wGroup ∧ a ≠ wAllow ∧ a ≠ wDeny ∧ a ≠ [] := by rcases ha with rfl | rfl <;> decide
  unfold stmtT
  simp only [h1]
  rw [if_neg (by intro hc; exact hc.elim hx.2.2.2.2 hx.1), if_neg hx.2.1, if_neg (by intro hc; exact hc.elim hx.2.2.1 hx.2.2.2.1), if_pos ha, restT_two]
  unfold guardT guardW
  simp only
  rcases words_cases (nextT s).2 with ⟨h3, h4, h5⟩ | ⟨h3, h4⟩
  · rw [h2] at h3; subst h3
    rw [h5, if_pos (show ([] : List Bs).length < 2 by decide), if_pos (.inl parseT_nil)]
  rw [h2] at h4
  have e0 : w.getD 0 [] = (nextT (nextT s).2).1 := by rw [h4]; rfl
  rw [e0]
  generalize hn : nextT (nextT s).2 = n1 at *
  obtain ⟨w1, r1⟩ := n1
  simp only at *
  rcases words_cases r1 with ⟨h5, h6, h7⟩ | ⟨h5, h6⟩
  · rw [if_pos (show w.length < 2 by rw [h4, h5]; simp)]
    have : r1 = [] := by
      have := nextT_trim (nextT s).2
      rw [hn] at this
      rw [nextT_eq] at h6
      have h11 := wd_nil h6
      simp only at this
      rw [← this, trimT_eq, dropLE, h11]; rfl
    rw [this, if_pos (.inl parseT_nil)]
  · rw [if_neg (show ¬ w.length < 2 by rw [h4, h6]; simp)]
theorem stmt_other {q : P3} {s a : Bs} {w : List Bs} (h : wordsT blankB s = a :: w) (h0 : a.getD 0 0 ≠ 35) (h1 : a ≠ wGroup) (h2 : a ≠ wAllow) (h3 : a ≠ wDeny) (h4 : a ≠ wGuard) (h5 : a ≠ wStrict) : stmtT q s = (false, q) := by
  obtain ⟨h7, h6, _⟩ := stmt_word h
  unfold stmtT
  simp only [h6]
  rw [if_neg (not_or.2 ⟨h7, h0⟩), if_neg h1, if_neg (not_or.2 ⟨h2, h3⟩), if_neg (not_or.2 ⟨h4, h5⟩)]
/-! ### Sizes -/
theorem words_le {p : UInt8 → Bool} (r : Bs) : ∀ cur w, w ∈ wordsGo p cur r → w.length ≤ cur.length + r.length := by
  induction r with
  | nil =>
    intro cur w h
    rw [wordsGo] at h
    split at h
    · cases h
    · rw [List.mem_singleton.1 h]; simp
  | cons b r ih =>
    intro cur w h
    rw [wordsGo] at h
    split at h
    · split at h
      · have := ih _ _ h; simp at this ⊢; omega
      · rcases List.mem_cons.1 h with rfl | h
        · omega
        · have := ih _ _ h; simp at this ⊢; omega
    · have := ih _ _ h; simp at this ⊢; omega
theorem words_len {p : UInt8 → Bool} (r : Bs) : ∀ cur, (wordsGo p cur r).length ≤ r.length + 1 := by
  induction r with
  | nil => intro cur; rw [wordsGo]; split <;> simp
  | cons b r ih =>
    intro cur
    rw [wordsGo]
    split
    · split
      · have := ih []; simp; omega
      · have := ih []; simp; omega
    · have := ih (cur ++ [b]); simp; omega
theorem parseT_le (s : Bs) : (parseT s).2.1.length ≤ s.length := by
  have := nameP_le s
  unfold parseT
  split
  · exact Nat.zero_le _
  · split
    · exact this
    · exact Nat.zero_le _
structure P3B (B n : Nat) (q : P3) : Prop where
  gl : q.1.length ≤ n
  rl : q.2.1.length ≤ n
  xl : q.2.2.length ≤ n
  gb : ∀ g ∈ q.1, g.1.length ≤ B ∧ g.2.length ≤ B + 1 ∧ ∀ m ∈ g.2, m.length ≤ B
  rb : ∀ r ∈ q.2.1, r.nm.length ≤ B
  xb : ∀ x ∈ q.2.2, x.nm.length ≤ B ∧ x.sect.length ≤ B
theorem P3B.nil (B : Nat) : P3B B 0 ([], [], []) := ⟨Nat.le_refl _, Nat.le_refl _, Nat.le_refl _, fun _ h => (by cases h), fun _ h => (by cases h), fun _ h => (by cases h)⟩
theorem P3B.more {B n m : Nat} {q : P3} (h : P3B B n q) (hm : n ≤ m) : P3B B m q := ⟨Nat.le_trans h.gl hm, Nat.le_trans h.rl hm, Nat.le_trans h.xl hm, h.gb, h.rb, h.xb⟩
theorem P3B.group {B n : Nat} {q : P3} (h : P3B B n q) {s : Bs} (hs : s.length ≤ B) : P3B B (n + 1) (groupT q s).2 := by
  have hn := nextT_le s
  refine ⟨by simp [groupT]; exact h.gl, by have := h.rl; simp only [groupT]; omega, by have := h.xl; simp only [groupT]; omega, fun g hg => ?_, h.rb, h.xb⟩
  rcases List.mem_append.1 hg with hg | hg
  · exact h.gb g hg
  · rw [List.mem_singleton.1 hg]
    refine ⟨by simp only; omega, ?_, fun m hm => ?_⟩
    · have := words_len (p := blankB) (nextT s).2 []
      simp only; unfold wordsT; omega
    · have := words_le (p := blankB) (nextT s).2 [] m hm
      simp at this; omega
theorem scopeT_le {s : Bs} {k sp : Int} {nm : Bs} (h : scopeT s = some (k, sp, nm)) : nm.length ≤ s.length := by
  unfold scopeT at h
  have := parseT_le s
  split at h
  · cases h; simp
  · split at h
    · cases h; simp
    · split at h
      · cases h; exact this
      · cases h
theorem P3B.rule {B n : Nat} {q : P3} (h : P3B B n q) {s : Bs} (hs : s.length ≤ B) (al : Bool) : P3B B (n + 1) (ruleT q s al).2 := by
  have hn := nextT_le s
  have hn2 := nextT_le (nextT s).2
  have h1 := h.more (Nat.le_succ n)
  unfold ruleT
  simp only
  split
  · exact h1
  · split
    · exact h1
    · rename_i k sp nm hsc
      have := scopeT_le hsc
      refine ⟨h1.gl, by simp; exact h.rl, h1.xl, h.gb, fun r hr => ?_, h.xb⟩
      rcases List.mem_append.1 hr with hr | hr
      · exact h.rb r hr
      · rw [List.mem_singleton.1 hr]; simp only; omega
theorem P3B.guard {B n : Nat} {q : P3} (h : P3B B n q) {s : Bs} (hs : s.length ≤ B) (st : Bool) : P3B B (n + 1) (guardT q s st).2 := by
  have hn := nextT_le s
  have hc1 := cutAt_len1 124 (nextT s).2
  have hc2 := cutAt_len2 124 (nextT s).2
  have h1 := h.more (Nat.le_succ n)
  unfold guardT
  simp only
  split
  · exact h1
  · refine ⟨h1.gl, h1.rl, by simp; exact h.xl, h.gb, h.rb, fun x hx => ?_⟩
    rcases List.mem_append.1 hx with hx | hx
    · exact h.xb x hx
    · rw [List.mem_singleton.1 hx]
      have h2 := parseT_le (trimT (cutAt 124 (nextT s).2).1)
      have h3 := trimT_le (cutAt 124 (nextT s).2).1
      have h4 := trimT_le (cutAt 124 (nextT s).2).2.1
      exact ⟨by simp only; omega, by simp only; omega⟩
theorem P3B.stmt {B n : Nat} {q : P3} (h : P3B B n q) {s : Bs} (hs : s.length ≤ B) : P3B B (n + 1) (stmtT q s).2 := by
  have hn := nextT_le s
  have h1 := h.more (Nat.le_succ n)
  unfold stmtT
  simp only
  split
  · exact h1
  · split
    · exact h.group (by omega)
    · split
      · exact h.rule (by omega) _
      · split
        · exact h.guard (by omega) _
        · exact h1
/-! ### Whole texts -/
/-- What the lines of a text give: the policy, or the number of the line that is none. -/
def linesT : P3 → Nat → List Bs → P3 × Nat
  | q, _, [] => (q, 0)
  | q, i, l :: r => if (stmtT q l).1 = true then linesT (stmtT q l).2 (i + 1) r else (([], [], []), i + 1)
def finT (r : P3 × Nat) : P3 × Int × Int :=
  if r.2 ≠ 0 then (([], [], []), (r.2 : Int), 1) else if validateT r.1.1 r.1.2.1 r.1.2.2 ≠ 0 then (([], [], []), 0, validateT r.1.1 r.1.2.1 r.1.2.2) else (r.1, 0, 0)
def polParseT (s : Bs) : P3 × Int × Int :=
  if 8192 < (s.length : Int) then (([], [], []), 0, 3) else finT (linesT ([], [], []) 0 (splitOn 10 s))
end Go.X
