/- This text gives the rules for maps with keys of several cells, and for ranges over maps. -/
import Derived.Test.YtdnkeinjfddmnaaGreatDoorApp
import Derived.Maps.RangeRun
set_option linter.all false

namespace Go.X
open Go
variable [Sm : Inhabited Manner] [Df : Inhabited (List Deferred)]

/-! ### Maps, entry by entry -/

section
variable {α : Type}
def gEs (g : α → V) : List (α × V) → Nat → List MapEntry
  | [], _ => []
  | x :: r, i => { key := (g x.1).enc, val := x.2.enc, born := i } :: gEs g r (i + 1)
def gO (g : α → V) (kv : List (α × V)) : Obj := .map (gEs g kv 0).toArray kv.length
def gGet [DecidableEq α] : List (α × V) → α → Option V
  | [], _ => none
  | x :: r, k => if x.1 = k then some x.2 else gGet r k
def gPut [DecidableEq α] : List (α × V) → α → V → List (α × V)
  | [], k, v => [(k, v)]
  | x :: r, k, v => if x.1 = k then (x.1, v) :: r else x :: gPut r k v
def gIdx [DecidableEq α] : List (α × V) → α → Nat → Option (Nat × V)
  | [], _, _ => none
  | x :: r, k, i => if x.1 = k then some (i, x.2) else gIdx r k (i + 1)

theorem gEs_len (g : α → V) : ∀ (kv : List (α × V)) (n : Nat), (gEs g kv n).length = kv.length
  | [], _ => rfl
  | y :: r, n => by simp [gEs, gEs_len g r]
theorem gEs_get (g : α → V) : ∀ (kv : List (α × V)) (n i : Nat) (h : i < kv.length), (gEs g kv n)[i]? = some { key := (g kv[i].1).enc, val := kv[i].2.enc, born := n + i }
  | [], _, _, h => by simp at h
  | y :: r, n, 0, _ => by simp [gEs]
  | y :: r, n, i + 1, h => by
    have := gEs_get g r (n + 1) i (by simpa using h)
    simp only [gEs, List.getElem?_cons_succ, this, List.getElem_cons_succ]
    congr 2
    omega
theorem gEs_mem {g : α → V} : ∀ {kv : List (α × V)} {n : Nat} {x : MapEntry}, x ∈ gEs g kv n → n ≤ x.born ∧ x.born < n + kv.length
  | [], _, _, h => by simp [gEs] at h
  | y :: r, n, x, h => by
    simp only [gEs, List.mem_cons] at h
    rcases h with rfl | h
    · exact ⟨Nat.le_refl _, by simp⟩
    · obtain ⟨h1, h2⟩ := gEs_mem h
      exact ⟨by omega, by simp; omega⟩
theorem gEs_born (g : α → V) : ∀ (kv : List (α × V)) (n : Nat), ((gEs g kv n).map (·.born)).Nodup
  | [], _ => List.nodup_nil
  | y :: r, n => by
    simp only [gEs, List.map_cons]
    refine List.nodup_cons.2 ⟨fun hc => ?_, gEs_born g r (n + 1)⟩
    obtain ⟨x, hx, he⟩ := List.mem_map.1 hc
    have := (gEs_mem hx).1
    omega

theorem gIdx_get [DecidableEq α] (k : α) : ∀ (kv : List (α × V)) (i : Nat), (gIdx kv k i).map (·.2) = gGet kv k
  | [], _ => rfl
  | x :: r, i => by
    simp only [gIdx, gGet]
    by_cases h : x.1 = k
    · rw [if_pos h, if_pos h]; rfl
    · rw [if_neg h, if_neg h]; exact gIdx_get k r (i + 1)
theorem gIdx_some [DecidableEq α] {g : α → V} {k : α} : ∀ {kv : List (α × V)} {n i j : Nat} {v u : V}, gIdx kv k i = some (j, v) →
    ∃ q, j = i + q ∧ (∃ b, (gEs g kv n)[q]? = some { key := (g k).enc, val := v.enc, born := b }) ∧ (gEs g kv n).modify q (fun e => { e with key := (g k).enc, val := u.enc }) = gEs g (gPut kv k u) n ∧ (gPut kv k u).length = kv.length
  | [], _, _, _, _, _, h => by cases h
  | x :: r, n, i, j, v, u, h => by
    simp only [gIdx] at h
    by_cases hx : x.1 = k
    · rw [if_pos hx] at h
      cases h
      refine ⟨0, rfl, ⟨n, by simp [gEs, hx]⟩, ?_, ?_⟩ <;> simp [gEs, gPut, hx]
    · rw [if_neg hx] at h
      obtain ⟨q, hq, ⟨b, hb⟩, hm, hl⟩ := gIdx_some (g := g) (n := n + 1) (u := u) h
      refine ⟨q + 1, by omega, ⟨b, by simpa [gEs] using hb⟩, ?_, ?_⟩
      · simp [gEs, gPut, hx, hm]
      · simp [gPut, hx, hl]
theorem gIdx_none [DecidableEq α] {g : α → V} {k : α} : ∀ {kv : List (α × V)} {n i : Nat} {u : V}, gIdx kv k i = none →
    gEs g kv n ++ [{ key := (g k).enc, val := u.enc, born := n + kv.length }] = gEs g (gPut kv k u) n ∧ (gPut kv k u).length = kv.length + 1
  | [], n, _, u, _ => by simp [gEs, gPut]
  | x :: r, n, i, u, h => by
    simp only [gIdx] at h
    by_cases hx : x.1 = k
    · rw [if_pos hx] at h; cases h
    · rw [if_neg hx] at h
      obtain ⟨h1, h2⟩ := gIdx_none (g := g) (n := n + 1) (u := u) h
      have e : n + (r.length + 1) = n + 1 + r.length := by omega
      refine ⟨?_, by simp [gPut, hx, h2]⟩
      simp only [gEs, gPut, if_neg hx, List.cons_append, List.length_cons, e, h1]
end

/-! ### Keys that are structs -/

def plainC : C → Bool
  | .b _ | .i _ _ | .s _ => true
  | _ => false
theorem bytesSame (a : List UInt8) : ((⟨⟨a⟩⟩ : ByteArray) == ⟨⟨a⟩⟩) = true := by
  have e : ((⟨⟨a⟩⟩ : ByteArray) == ⟨⟨a⟩⟩) = ((⟨a⟩ : Array UInt8) == ⟨a⟩) := rfl
  rw [e, beq_self_eq_true]
theorem sameBits_plain {c : C} (h : plainC c = true) (n : Nat) : Instr.sameBits n c.enc c.enc = true := by
  cases c <;> simp only [plainC] at h <;> try (cases h; done)
  all_goals (cases n <;> simp [C.enc, Instr.sameBits, bytesSame])
theorem sameBits_agg {cs : List C} (h : ∀ c ∈ cs, plainC c = true) (n : Nat) : Instr.sameBits (n + 1) (.agg (cs.map C.enc).toArray) (.agg (cs.map C.enc).toArray) = true := by
  simp only [Instr.sameBits, beq_self_eq_true, Bool.true_and]
  induction cs with
  | nil => rfl
  | cons c r ih =>
    simp only [List.map_cons, List.zip_cons_cons, List.all_cons, sameBits_plain (h c (by simp)), Bool.true_and]
    exact ih fun x hx => h x (by simp [hx])

theorem run_checkKey_eqTy {P : Program} {T : Ty} (hT : TyOK P T) (em : Bool) : ∀ (n d t : Nat) (xs ys : List C) (p : Prop) (w : World) (i : TyI), eqTy T n t xs ys = some p → find T t = some i →
    (Instr.checkKey em (d + n) t (valOf i.d xs)).run P w = .ok () w := by
  intro n
  induction n with
  | zero => intro d t xs ys p w i h; simp [eqTy] at h
  | succ n ih =>
    intro d t xs ys p w i h hi
    have hok := hT t i hi
    simp only [eqTy, hi] at h
    split at h
    · rename_i fs hd
      have hok' := hok.2.2.2
      rw [hd] at hok'
      obtain ⟨hu, hfs, hnb, hst, _⟩ := hok'
      rw [hd]
      simp only [valOf]
      rw [show d + (n + 1) = (d + n) + 1 from rfl, Instr.checkKey]
      simp only [Sem.run_bind, run_underlying hu, Result.andThen_ok]
      rw [← Array.forIn_toList]
      rw [← hfs] at h
      clear hfs hd hu
      generalize (P.fieldsOf t).toList = F at h hnb
      induction F generalizing p with
      | nil => simp
      | cons f F ihF =>
        simp only [List.map_cons, eqFs] at h
        simp only [List.all_cons, Bool.and_eq_true] at hnb
        cases hj : find T f.type with
        | none => simp [hj] at h
        | some j =>
          simp only [hj] at h
          split at h
          · rename_i p1 q1 hp1 hq1
            have hjok := hT _ _ hj
            obtain ⟨hl1, _, hoth⟩ := eqTy_lt hp1 hj
            have h2 := ih d f.type _ _ p1 w j hp1 hj
            have hnm : f.name ≠ "_" := by simpa using hnb.1
            simp only [List.forIn_cons, Sem.run_bind, hnm, ne_eq, not_false_eq_true, if_true, run_part hjok hoth _ _ hl1, Result.andThen_ok, h2, Sem.run_pure]
            exact ihF q1 hq1 hnb.2
          · cases h
    · rename_i dd hnst
      split at h
      · rename_i x y
        split at h
        · rename_i h1 h2
          have hok' := hok.2.2.2
          cases hd : i.d <;> rw [hd] at h1 hok' <;> cases x <;> simp only [isC] at h1 <;> try (cases h1; done)
          all_goals (simp only [TyD.ok] at hok'; simp [Instr.checkKey, run_underlying hok', valOf, C.enc])
        · cases h
      · cases h

/-- The keys are told apart by the cells that stand for them. -/
structure KeyP (T : Ty) (kt : Nat) {α : Type} (f : α → List C) : Prop where
  eq : ∃ n, n < 10000 ∧ ∀ a b, ∃ p, eqTy T n kt (f a) (f b) = some p ∧ (p ↔ a = b)
  pl : ∀ a, ∀ c ∈ f a, plainC c = true

def isSt : Option TyI → Bool
  | some i => match i.d with | .st _ => true | _ => false
  | none => false
theorem isSt_ok {P : Program} {T : Ty} (hT : TyOK P T) {e : Nat} (h : isSt (find T e) = true) : ∃ i fs F, find T e = some i ∧ i.d = .st fs ∧ P.underlying e = some (.struct F) := by
  unfold isSt at h
  split at h
  · rename_i i hi
    have hd' := (hT _ _ hi).2.2.2
    split at h
    · rename_i hd; rw [hd] at hd'; exact ⟨i, _, _, hi, hd, hd'.1⟩
    · cases h
  · cases h

section
variable {P : Program} {T : Ty} {α : Type} [DecidableEq α] {kt : Nat} {f : α → List C}
abbrev aggV (f : α → List C) : α → V := fun a => .agg (f a)

theorem run_checkKey_st (hT : TyOK P T) (hk : isSt (find T kt) = true) (hK : KeyP T kt f) (a : α) (em : Bool) (w : World) : (Instr.checkKey em 10000 kt (V.agg (f a)).enc).run P w = .ok () w := by
  obtain ⟨i, fs, F, hi, hd, _⟩ := isSt_ok hT hk
  obtain ⟨n, hn, hp⟩ := hK.eq
  obtain ⟨p, hp, _⟩ := hp a a
  have := run_checkKey_eqTy hT em n (10000 - n) kt (f a) (f a) p w i hp hi
  rw [hd] at this
  rwa [show 10000 - n + n = 10000 by omega] at this

theorem run_equal_st (hT : TyOK P T) (hk : isSt (find T kt) = true) (hK : KeyP T kt f) (a b : α) (w : World) : (Op.equal kt (V.agg (f a)).enc (V.agg (f b)).enc).run P w = .ok (decide (a = b)) w := by
  obtain ⟨i, fs, F, hi, hd, _⟩ := isSt_ok hT hk
  obtain ⟨n, hn, hp⟩ := hK.eq
  obtain ⟨p, hp, hpe⟩ := hp a b
  obtain ⟨r, hr, hre⟩ := run_eqTy hT n (10000 - n) kt (f a) (f b) p w i hp hi
  rw [hd, show 10000 - n + n = 10000 by omega] at hr
  have : r = decide (a = b) := by rw [Bool.eq_iff_iff, decide_eq_true_eq]; exact hre.trans hpe
  rw [← this]
  exact hr

theorem run_findAsking_st (hT : TyOK P T) (hk : isSt (find T kt) = true) (hK : KeyP T kt f) (w : World) (q : α) : ∀ (kv : List (α × V)) (n i : Nat), (Instr.findAsking kt (V.agg (f q)).enc (gEs (aggV f) kv n) i).run P w = .ok ((gIdx kv q i).map fun x => (x.1, x.2.enc)) w
  | [], _, _ => rfl
  | x :: r, n, i => by
    simp only [gEs, Instr.findAsking, Sem.run_bind, run_equal_st hT hk hK, Result.andThen_ok, gIdx, Sem.run_ite]
    by_cases h : x.1 = q
    · rw [if_pos (by simp [h]), if_pos h]; rfl
    · rw [if_neg (by simp only [decide_eq_true_eq]; exact fun hc => h hc.symm), if_neg h]; exact run_findAsking_st hT hk hK w q r (n + 1) (i + 1)

theorem run_findKey_st (hT : TyOK P T) (hk : isSt (find T kt) = true) (hK : KeyP T kt f) (w : World) (q : α) (kv : List (α × V)) : (Instr.findKey kt (V.agg (f q)).enc (gEs (aggV f) kv 0)).run P w = .ok ((gIdx kv q 0).map fun x => (x.1, x.2.enc)) w := by
  obtain ⟨i, fs, F, hi, hd, hu⟩ := isSt_ok hT hk
  cases kv with
  | nil => simp only [Instr.findKey, Sem.run_bind, run_underlying hu, Result.andThen_ok, gEs, Instr.findNow, Sem.run_pure, gIdx, Option.map_none]
  | cons x r =>
    have h := run_findAsking_st hT hk hK w q (x :: r) 0 0
    have hn : Instr.findNow (.struct F) (V.agg (f q)).enc (gEs (aggV f) (x :: r) 0) 0 = none := by
      simp only [gEs, Instr.findNow, V.enc, Instr.sameNow]
    simp only [Instr.findKey, Sem.run_bind, run_underlying hu, Result.andThen_ok, hn]
    exact h
end

inductive LookG (T : Ty) (kt : Nat) (es : Array MapEntry) (c : Nat) (key : List C) (A : V → Prop) (B : Prop) : Prop where
  | mk (α : Type) (dec : DecidableEq α) (f : α → List C) (kv : List (α × V)) (q : α) (h : es = (gEs (aggV f) kv 0).toArray) (hc : c = kv.length) (hq : key = f q) (hk : KeyP T kt f) (t : ∀ v, gGet kv q = some v → A v) (n : gGet kv q = none → B)
inductive UpdG (T : Ty) (kt : Nat) (es : Array MapEntry) (c : Nat) (key : List C) (v : V) (K : Obj → Prop) : Prop where
  | mk (α : Type) (dec : DecidableEq α) (f : α → List C) (kv : List (α × V)) (q : α) (h : es = (gEs (aggV f) kv 0).toArray) (hc : c = kv.length) (hq : key = f q) (hk : KeyP T kt f) (k : K (gO (aggV f) (gPut kv q v)))

/-! ### Ranges over maps -/

inductive NextE (L : List Chunk) (m since : Nat) (seen : Array Nat) (last : Nat) (A : V → V → Array Nat → Nat → Prop) (B : Prop) : Prop where
  | mk (idm : Nat) (α : Type) (g : α → V) (kv : List (α × V)) (h : Chunk.obj idm m (gO g kv) ∈ L) (h1 : since = kv.length) (h2 : last = kv.length) (t : ∀ i (hi : i < kv.length), i ∉ seen.toList → A (g kv[i].1) kv[i].2 (seen.push i) kv.length) (f : (∀ i, i < kv.length → i ∈ seen.toList) → B)
inductive EntE (L : List Chunk) (m : Nat) (seen : Array Nat) (last : Nat) (K : V → V → Prop) : Prop where
  | mk (idm : Nat) (α : Type) (g : α → V) (kv : List (α × V)) (h : Chunk.obj idm m (gO g kv) ∈ L) (h2 : last = kv.length) (pre : Array Nat) (i : Nat) (hs : seen = pre.push i) (hi : i < kv.length) (k : K (g kv[i].1) kv[i].2)

theorem nextE_sound {P : Program} {G : Ent} {w : World} {L : List Chunk} {D : List Fact} {m since last r ty : Nat} {seen : Array Nat} {A : V → V → Array Nat → Nat → Prop} {B : Prop} (h : NextE L m since seen last A B) (hs : SatW G w L D)
    (hr : w.heap[r]? = some (.mapIter (some m) since seen last)) :
    (B ∧ (Instr.next (.pointer (some ⟨r, 0, none⟩)) false ty).run P w = .ok (V.t1 (.c (.b false))).enc w) ∨
    ∃ k v seen' n w1, A k v seen' n ∧ (w1 = w ∨ w1 = w.drew) ∧ (Instr.next (.pointer (some ⟨r, 0, none⟩)) false ty).run P w = .ok (V.t3 (.c (.b true)) k v).enc (setBlk w1 r (.mapIter (some m) since seen' n)) := by
  obtain ⟨idm, α, g, kv, hm, rfl, rfl, ht, hf⟩ := h
  obtain ⟨_, hh, _⟩ := hs
  have hb : w.heap[m]? = some (.map (gEs g kv 0).toArray kv.length) := allOk_mem hh.ok hm
  rcases run_next_at (P := P) w ty r m kv.length kv.length seen (gEs g kv 0).toArray kv.length hr hb (fun x hx => by have := gEs_mem (by simpa using hx : x ∈ gEs g kv 0); omega) (Nat.le_refl _) with ⟨h1, h2⟩ | ⟨e, he, w1, h1, h2⟩
  · refine .inl ⟨hf fun i hi => ?_, h2⟩
    have h3 := gEs_get g kv 0 i hi
    by_cases hc : i ∈ seen.toList
    · exact hc
    · exfalso
      have h4 := List.mem_of_getElem? h3
      unfold leftOf at h1
      have h5 : { key := (g kv[i].1).enc, val := kv[i].2.enc, born := 0 + i } ∈ ((gEs g kv 0).toArray.filter fun e => !seen.contains e.born) := by
        rw [Array.mem_filter]
        refine ⟨by simpa using h4, ?_⟩
        simpa using hc
      have := Array.eq_empty_of_size_eq_zero h1
      rw [this] at h5
      simp at h5
  · unfold leftOf at he
    have he' : e ∈ (gEs g kv 0).toArray.filter fun e => !seen.contains e.born := by simpa using he
    rw [Array.mem_filter] at he'
    obtain ⟨he1, he2⟩ := he'
    obtain ⟨i, hi0⟩ := List.getElem?_of_mem (by simpa using he1 : e ∈ gEs g kv 0)
    have hi : i < kv.length := by
      have := (List.getElem?_eq_some_iff.1 hi0).1
      rwa [gEs_len] at this
    rw [gEs_get g kv 0 i hi, Option.some.injEq] at hi0
    subst hi0
    rw [Nat.zero_add] at h2 he2
    exact .inr ⟨_, _, _, _, w1, ht i hi (by simpa using he2), h1, h2⟩

theorem entE_sound {P : Program} {G : Ent} {w : World} {L : List Chunk} {D : List Fact} {m since last r : Nat} {seen : Array Nat} {K : V → V → Prop} (h : EntE L m seen last K) (hs : SatW G w L D)
    (hr : w.heap[r]? = some (.mapIter (some m) since seen last)) : ∃ k v, K k v ∧ (Instr.entry (.pointer (some ⟨r, 0, none⟩))).run P w = .ok (V.t2 k v).enc w := by
  obtain ⟨idm, α, g, kv, hm, rfl, pre, i, rfl, hi, k⟩ := h
  obtain ⟨_, hh, _⟩ := hs
  have hb : w.heap[m]? = some (.map (gEs g kv 0).toArray kv.length) := allOk_mem hh.ok hm
  have h3 := gEs_get g kv 0 i hi
  rw [Nat.zero_add] at h3
  exact ⟨_, _, k, run_entry_at w r m since pre (gEs g kv 0).toArray kv.length { key := (g kv[i].1).enc, val := kv[i].2.enc, born := i } hr hb (by simpa using List.mem_of_getElem? h3) (by simpa using gEs_born g kv 0)⟩

end Go.X
