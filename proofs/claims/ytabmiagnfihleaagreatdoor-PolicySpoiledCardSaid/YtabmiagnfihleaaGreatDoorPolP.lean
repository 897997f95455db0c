/- This text says in plain Lean what valid policies are and which texts they have. -/
import Derived.Test.YtabmiagnfihleaaGreatDoorPolS
set_option linter.all false

namespace Go.X

theorem firstErr_zero : ∀ l : List Int, firstErr l = 0 ↔ ∀ e ∈ l, e = 0
  | [] => by simp [firstErr]
  | e :: r => by
    have ih := firstErr_zero r
    unfold firstErr
    by_cases h : e = 0
    · rw [if_pos h, ih]; simp [h]
    · rw [if_neg h]; simp [h]

def nms (gs : GP) : List Bs := gs.map (·.1)

/-- A valid policy. -/
structure PV (q : P3) : Prop where
  gl : q.1.length ≤ 24
  rl : q.2.1.length ≤ 64
  xl : q.2.2.length ≤ 64
  g : ∀ (i : Nat) (h : i < q.1.length), grpErr (nms q.1) ((nms q.1).take i) q.1[i].1 q.1[i].2 = 0
  r : ∀ r ∈ q.2.1, rulErr (nms q.1) r = 0
  x : ∀ x ∈ q.2.2, grdErr (nms q.1) x = 0

theorem valid_iff (q : P3) : validateT q.1 q.2.1 q.2.2 = 0 ↔ PV q := by
  unfold validateT
  by_cases hbig : 24 < (q.1.length : Int) ∨ 64 < (q.2.1.length : Int) ∨ 64 < (q.2.2.length : Int)
  · rw [if_pos hbig]
    refine ⟨fun h => by simp at h, fun h => ?_⟩
    have h1 := h.gl
    have h2 := h.rl
    have h3 := h.xl
    omega
  · rw [if_neg hbig, firstErr_zero]
    constructor
    · intro h
      refine ⟨by omega, by omega, by omega, fun i hi => h _ ?_, fun r hr => h _ ?_, fun x hx => h _ ?_⟩
      · simp only [List.mem_append]
        refine .inl (.inl ?_)
        unfold grpErrs
        rw [List.mem_mapIdx]
        exact ⟨i, hi, rfl⟩
      · simp only [List.mem_append]
        exact .inl (.inr (List.mem_map_of_mem hr))
      · simp only [List.mem_append]
        exact .inr (List.mem_map_of_mem hx)
    · intro h e he
      simp only [List.mem_append] at he
      rcases he with (he | he) | he
      · unfold grpErrs at he
        rw [List.mem_mapIdx] at he
        obtain ⟨i, hi, rfl⟩ := he
        exact h.g i hi
      · obtain ⟨r, hr, rfl⟩ := List.mem_map.1 he
        exact h.r r hr
      · obtain ⟨x, hx, rfl⟩ := List.mem_map.1 he
        exact h.x x hx

theorem memErr_zero (ns : List Bs) : ∀ l : List Bs, memErr ns l = 0 ↔ ∀ m ∈ l, isNameT (Lib.trimPrefix m [64]) = true ∧ (Lib.hasPrefix m [64] = true → existsT ns (Lib.trimPrefix m [64]) = true)
  | [] => by simp [memErr]
  | m :: r => by
    have ih := memErr_zero ns r
    rw [memErr]
    cases h1 : isNameT (Lib.trimPrefix m [64]) with
    | false => simp [h1]
    | true =>
      rw [if_neg (by simp)]
      by_cases h2 : Lib.hasPrefix m [64] = true ∧ existsT ns (Lib.trimPrefix m [64]) = false
      · rw [if_pos h2]
        simp [h1, h2.1, h2.2]
      · rw [if_neg h2, ih]
        simp only [List.mem_cons, forall_eq_or_imp, h1, true_and]
        constructor
        · intro h
          refine ⟨fun h3 => ?_, h⟩
          cases h4 : existsT ns (Lib.trimPrefix m [64]) with
          | true => rfl
          | false => exact absurd ⟨h3, h4⟩ h2
        · exact fun h => h.2

theorem grpErr_zero {ns ahead : List Bs} {n : Bs} {mem : List Bs} : grpErr ns ahead n mem = 0 ↔ isNameT n = true ∧ existsT ahead n = false ∧ mem.length ≤ 24 ∧ memErr ns mem = 0 := by
  unfold grpErr
  cases h1 : isNameT n with
  | false => simp
  | true =>
    rw [if_neg (by simp)]
    cases h2 : existsT ahead n with
    | true => simp
    | false =>
      rw [if_neg (by simp)]
      by_cases h3 : 24 < (mem.length : Int)
      · rw [if_pos h3]
        simp; omega
      · rw [if_neg h3]
        simp; omega

theorem isName_len {s : Bs} (h : isNameT s = true) : 1 ≤ s.length ∧ s.length ≤ 30 := by
  unfold isNameT at h
  simp only [Bool.and_eq_true, Bool.not_eq_true', decide_eq_false_iff_not] at h
  omega
theorem isName_all {s : Bs} (h : isNameT s = true) : ∀ c ∈ s, nameB c = true := by
  unfold isNameT at h
  simp only [Bool.and_eq_true, List.all_eq_true] at h
  exact h.2
theorem nameB_range {c : UInt8} (h : nameB c = true) : (97 ≤ c.toNat ∧ c.toNat ≤ 122) ∨ (48 ≤ c.toNat ∧ c.toNat ≤ 57) ∨ c.toNat = 45 ∨ c.toNat = 95 := by
  unfold nameB at h
  simp only [Bool.not_eq_true', Bool.and_eq_false_iff, Bool.or_eq_false_iff, decide_eq_false_iff_not, Bool.not_eq_false', decide_eq_true_eq] at h
  omega
theorem isName_head {s : Bs} (h : isNameT s = true) : 97 ≤ (s.getD 0 0).toNat ∧ (s.getD 0 0).toNat ≤ 122 := by
  unfold isNameT at h
  simp only [Bool.and_eq_true, Bool.not_eq_true', decide_eq_false_iff_not] at h
  omega

theorem trimPrefix_len (m : Bs) : m.length ≤ (Lib.trimPrefix m [64]).length + 1 := by
  unfold Lib.trimPrefix
  split
  · simp; omega
  · omega

theorem exists_len {ns : List Bs} (hn : ∀ n ∈ ns, isNameT n = true) {s : Bs} (h : existsT ns s = true) : isNameT s = true := by
  unfold existsT builtT at h
  simp only [Bool.or_eq_true, decide_eq_true_eq, List.any_eq_true] at h
  rcases h with (h | h) | ⟨x, hx, h⟩
  · rw [h]; decide
  · rw [h]; decide
  · rw [← h]; exact hn x hx

theorem PV.names {q : P3} (h : PV q) : ∀ n ∈ nms q.1, isNameT n = true := fun n hn => by
  obtain ⟨g, hg, rfl⟩ := List.mem_map.1 hn
  obtain ⟨i, hi, rfl⟩ := List.getElem_of_mem hg
  exact (grpErr_zero.1 (h.g i hi)).1
theorem PV.grp {q : P3} (h : PV q) {g : Bs × List Bs} (hg : g ∈ q.1) : isNameT g.1 = true ∧ g.2.length ≤ 24 ∧ ∀ m ∈ g.2, isNameT (Lib.trimPrefix m [64]) = true := by
  obtain ⟨i, hi, rfl⟩ := List.getElem_of_mem hg
  obtain ⟨h1, _, h3, h4⟩ := grpErr_zero.1 (h.g i hi)
  exact ⟨h1, h3, fun m hm => ((memErr_zero _ _).1 h4 m hm).1⟩
theorem PV.rul {q : P3} (h : PV q) {r : Rul} (hr : r ∈ q.2.1) : 1 ≤ r.right ∧ r.right ≤ 5 ∧ isNameT r.group = true ∧ scopeOK r.kind r.sp r.nm = true := by
  have h1 := h.r r hr
  unfold rulErr at h1
  split at h1
  · simp at h1
  · rename_i h2
    split at h1
    · simp at h1
    · rename_i h3
      split at h1
      · simp at h1
      · rename_i h4
        exact ⟨by omega, by omega, exists_len h.names (by simpa using h3), by simpa using h4⟩
theorem PV.grd {q : P3} (h : PV q) {x : Grd} (hx : x ∈ q.2.2) : isNameT x.group = true ∧ validT x.sp x.nm = true ∧ sectOK x.sect = true := by
  have h1 := h.x x hx
  unfold grdErr at h1
  split at h1
  · simp at h1
  · rename_i h3
    split at h1
    · simp at h1
    · rename_i h4
      simp only [Bool.and_eq_false_iff, not_or, Bool.not_eq_false] at h4
      exact ⟨exists_len h.names (by simpa using h3), h4.1, h4.2⟩
theorem sectOK_len {s : Bs} (h : sectOK s = true) : s.length ≤ 100 := by
  unfold sectOK at h
  simp only [Bool.and_eq_true, Bool.not_eq_true', decide_eq_false_iff_not] at h
  omega

/-! ### Texts -/

def memText (m : Bs) : Bs := [32] ++ m
def grpLine (g : Bs × List Bs) : Bs := [103, 114, 111, 117, 112, 32] ++ g.1 ++ g.2.flatMap memText
def scopeText (k sp : Int) (nm : Bs) : Bs := if k = 1 then wAll else if k = 2 then spacesL.getD sp.toNat [] else formatT sp nm
def verbR (al : Bool) : Bs := if al = true then [97, 108, 108, 111, 119, 32] else [100, 101, 110, 121, 32]
def ruleLine (r : Rul) : Bs := verbR r.allow ++ rightsL.getD (r.right - 1).toNat [] ++ [32] ++ r.group ++ [32] ++ scopeText r.kind r.sp r.nm
def verbX (st : Bool) : Bs := if st = true then [115, 116, 114, 105, 99, 116, 32] else [103, 117, 97, 114, 100, 32]
def sectText (s : Bs) : Bs := if s = [] then [] else [32, 124, 32] ++ s
def grdLine (x : Grd) : Bs := verbX x.strict ++ x.group ++ [32] ++ formatT x.sp x.nm ++ sectText x.sect
def nl (l : Bs) : Bs := l ++ [10]
def fmtG (gs : GP) : Bs := gs.flatMap fun g => nl (grpLine g)
def fmtR (rs : List Rul) : Bs := rs.flatMap fun r => nl (ruleLine r)
def fmtX (xs : List Grd) : Bs := xs.flatMap fun x => nl (grdLine x)
def fmtT (q : P3) : Bs := fmtG q.1 ++ fmtR q.2.1 ++ fmtX q.2.2

/-- The text of a policy, or the error. -/
def polFormatT (q : P3) : Bs × Int :=
  if validateT q.1 q.2.1 q.2.2 ≠ 0 then ([], validateT q.1 q.2.1 q.2.2) else if 8192 < ((fmtT q).length : Int) then ([], 3) else (fmtT q, 0)

theorem flat_le {α : Type} {F : α → Bs} {B : Nat} : ∀ {l : List α}, (∀ x ∈ l, (F x).length ≤ B) → (l.flatMap F).length ≤ l.length * B
  | [], _ => by simp
  | x :: r, h => by
    have h1 := h x (by simp)
    have h2 := flat_le (F := F) (l := r) fun y hy => h y (by simp [hy])
    rw [List.flatMap_cons, List.length_append, List.length_cons, Nat.succ_mul]
    omega
theorem flat_snoc {α : Type} {F : α → Bs} {l : List α} {i : Nat} (h : i < l.length) : (l.take (i + 1)).flatMap F = (l.take i).flatMap F ++ F l[i] := by
  rw [List.take_succ_eq_append_getElem h, List.flatMap_append]; simp
theorem spaces_le : ∀ k, (spacesL.getD k []).length ≤ 10 := by
  intro k
  by_cases h : k < 6
  · have : ∀ k, k < 6 → (spacesL.getD k []).length ≤ 10 := by decide
    exact this k h
  · rw [List.getD_eq_getElem?_getD, List.getElem?_eq_none (by show 6 ≤ k; omega)]; simp
theorem rights_le : ∀ k, (rightsL.getD k []).length ≤ 6 := by
  intro k
  by_cases h : k < 5
  · have : ∀ k, k < 5 → (rightsL.getD k []).length ≤ 6 := by decide
    exact this k h
  · rw [List.getD_eq_getElem?_getD, List.getElem?_eq_none (by show 5 ≤ k; omega)]; simp
theorem scopeText_le (k sp : Int) (nm : Bs) : (scopeText k sp nm).length ≤ 109 := by
  unfold scopeText
  split
  · decide
  · split
    · have := spaces_le sp.toNat; omega
    · exact formatT_le sp nm

theorem mem_le {m : Bs} (h : isNameT (Lib.trimPrefix m [64]) = true) : m.length ≤ 31 := by
  have h1 := isName_len h
  have h2 := trimPrefix_len m
  omega
theorem grpLine_le {q : P3} (h : PV q) {g : Bs × List Bs} (hg : g ∈ q.1) : (grpLine g).length ≤ 1000 := by
  obtain ⟨h1, h2, h3⟩ := h.grp hg
  have h4 := isName_len h1
  have h5 : (g.2.flatMap memText).length ≤ g.2.length * 32 := flat_le fun m hm => by
    have := mem_le (h3 m hm)
    simp [memText]; omega
  simp only [grpLine, List.length_append, List.length_cons, List.length_nil]
  omega
theorem ruleLine_le {r : Rul} (h : isNameT r.group = true) : (ruleLine r).length ≤ 200 := by
  have h1 := isName_len h
  have h2 := scopeText_le r.kind r.sp r.nm
  have h3 := rights_le (r.right - 1).toNat
  have h4 : (verbR r.allow).length ≤ 6 := by unfold verbR; split <;> decide
  simp only [ruleLine, List.length_append, List.length_cons, List.length_nil]
  omega
theorem grdLine_le {x : Grd} (h : isNameT x.group = true) (hs : x.sect.length ≤ 100) : (grdLine x).length ≤ 300 := by
  have h1 := isName_len h
  have h2 := formatT_le x.sp x.nm
  have h4 : (verbX x.strict).length ≤ 7 := by unfold verbX; split <;> decide
  have h5 : (sectText x.sect).length ≤ 103 := by
    unfold sectText; split
    · simp
    · simp; omega
  simp only [grdLine, List.length_append, List.length_cons, List.length_nil]
  omega

theorem scopeOK_cases {k sp : Int} {nm : Bs} (h : scopeOK k sp nm = true) : (k = 1 ∧ sp = 0 ∧ nm = []) ∨ (k = 2 ∧ 0 ≤ sp ∧ sp < 6 ∧ nm = []) ∨ (k = 3 ∧ validT sp nm = true) := by
  unfold scopeOK at h
  split at h
  · rename_i hk
    rw [decide_eq_true_eq] at h
    exact .inl ⟨hk, h⟩
  · split at h
    · rename_i hk
      simp only [Bool.and_eq_true, decide_eq_true_eq] at h
      exact .inr (.inl ⟨hk, h.1.1, h.1.2, h.2⟩)
    · split at h
      · rename_i hk
        exact .inr (.inr ⟨hk, h⟩)
      · cases h

end Go.X
