/- This text gives the contract of strings.FieldsFunc at the test for a blank, and the words of a string. -/
import Derived.Test.YthknndkjnglegaaGreatI11
import Derived.Test.YthknndkjnglegaaGreatI09
import Derived.Test.YthknndkjnglegaaGreatI07
import Derived.Lib.SlTrimSet
import Derived.Lib.IndexAny
set_option linter.all false

namespace Go.X
open Go
/-- The words of a string: what lies between bytes of the kind p. -/
def wordsGo (p : UInt8 → Bool) : List UInt8 → List UInt8 → List (List UInt8)
  | cur, [] => if cur = [] then [] else [cur]
  | cur, b :: r => match p b with
    | true => if cur = [] then wordsGo p [] r else cur :: wordsGo p [] r
    | false => wordsGo p (cur ++ [b]) r
def wordsT (p : UInt8 → Bool) (s : List UInt8) : List (List UInt8) := wordsGo p [] s
theorem wordsGo_run {p : UInt8 → Bool} (b : List UInt8) : ∀ (cur r : List UInt8), (∀ x ∈ b, p x = false) → wordsGo p cur (b ++ r) = wordsGo p (cur ++ b) r := by
  induction b with
  | nil => intro cur r _; simp
  | cons x b ih =>
    intro cur r h
    rw [List.cons_append, wordsGo, h x (by simp)]
    show wordsGo p (cur ++ [x]) (b ++ r) = _
    rw [ih _ _ fun y hy => h y (by simp [hy]), List.append_assoc]; rfl
/-- The part of s from i to j. -/
def part (s : List UInt8) (i j : Nat) : List UInt8 := (s.take j).drop i
theorem part_nil (s : List UInt8) (i : Nat) : part s i i = [] := by
  unfold part; rw [List.drop_eq_nil_of_le]; simp; omega
theorem part_add {s : List UInt8} {i j k : Nat} (h1 : i ≤ j) (h2 : j ≤ k) (h3 : k ≤ s.length) : part s i k = part s i j ++ part s j k := by
  unfold part
  have e : s.take k = s.take j ++ (s.take k).drop j := by
    conv => lhs; rw [← List.take_append_drop j (s.take k)]
    rw [List.take_take, Nat.min_eq_left h2]
  conv => lhs; rw [e]
  exact List.drop_append_of_le_length (by simp; omega)
theorem part_len {s : List UInt8} {i j : Nat} (h1 : i ≤ j) (h2 : j ≤ s.length) : (part s i j).length = j - i := by
  unfold part; simp; omega
/-- Whole pieces that are found and the words that are still to come. -/
structure FInv (p : UInt8 → Bool) (s : List UInt8) (pos : Nat) (sp : List (Nat × Nat)) (st : Int) : Prop where
  ple : pos ≤ s.length
  spl : ∀ x ∈ sp, x.1 ≤ x.2 ∧ x.2 ≤ s.length
  len : sp.length ≤ pos
  lo : -1 - (s.length : Int) ≤ st
  hi : st < pos ∨ st < 0
  w : sp.map (fun x => part s x.1 x.2) ++ wordsGo p (if 0 ≤ st then part s st.toNat pos else []) (s.drop pos) = wordsT p s
theorem FInv.start (p : UInt8 → Bool) (s : List UInt8) : FInv p s 0 [] (-1) :=
  ⟨Nat.zero_le _, (fun x hx => by cases hx), Nat.le_refl _, by omega, .inr (by omega), by simp [wordsT]⟩
theorem FInv.skip {p : UInt8 → Bool} {s : List UInt8} {pos : Nat} {sp : List (Nat × Nat)} {st : Int} (h : FInv p s pos sp st) (hl : pos < s.length) (hb : p (s.getD pos 0) = true) (hs : ¬ 0 ≤ st) : FInv p s (pos + 1) sp st := by
  have hw := h.w
  have hd : s.drop pos = s.getD pos 0 :: s.drop (pos + 1) := by rw [List.drop_eq_getElem_cons hl]; simp [hl]
  rw [if_neg hs, hd, wordsGo, hb] at hw
  refine ⟨by omega, h.spl, by have := h.len; omega, h.lo, .inr (by omega), ?_⟩
  rw [if_neg hs]
  simpa using hw
theorem FInv.done {p : UInt8 → Bool} {s : List UInt8} {sp : List (Nat × Nat)} {st : Int} (h : FInv p s s.length sp st) :
    if 0 ≤ st then (sp ++ [(st.toNat, s.length)]).map (fun x => part s x.1 x.2) = wordsT p s else sp.map (fun x => part s x.1 x.2) = wordsT p s := by
  have hw := h.w
  split
  · rename_i hs
    have h1 : st < s.length := by rcases h.hi with h1 | h1 <;> omega
    have hne : part s st.toNat s.length ≠ [] := fun hc => by
      have := part_len (s := s) (show st.toNat ≤ s.length by omega) (Nat.le_refl _)
      rw [hc] at this
      simp at this; omega
    rw [if_pos hs, List.drop_length, wordsGo, if_neg hne] at hw
    rw [List.map_append]
    exact hw
  · rename_i hs
    rw [if_neg hs, List.drop_length, wordsGo, if_pos rfl, List.append_nil] at hw
    exact hw
def blankB (c : UInt8) : Bool := c == 32 || c == 9
end Go.X
namespace Go.Proofs
open Go Go.X Go.RowKit Go.Shelf
set_option maxRecDepth 100000
end Go.Proofs

/- This text says in plain Lean what the functions on policies compute: names, groups, rules, guards and the first error of a policy. -/
namespace Go.X
abbrev Bs := List UInt8
/-- A group as it lies in memory. -/
structure GrpM where
  name : Bs
  a : Option Addr
  c : Nat
  mem : List Bs
structure Rul where
  allow : Bool
  right : Int
  group : Bs
  kind : Int
  sp : Int
  nm : Bs
structure Grd where
  strict : Bool
  group : Bs
  sp : Int
  nm : Bs
  sect : Bs
def GrpM.cells (g : GrpM) : List C := [.s g.name, .sl g.a g.mem.length g.c]
def Rul.cells (r : Rul) : List C := [.b r.allow, .i .i64 r.right, .s r.group, .i .i64 r.kind, .i .i64 r.sp, .s r.nm]
def Grd.cells (g : Grd) : List C := [.b g.strict, .s g.group, .i .i64 g.sp, .s g.nm, .s g.sect]
def gsC (l : List GrpM) : List C := l.flatMap GrpM.cells
def rsC (l : List Rul) : List C := l.flatMap Rul.cells
def xsC (l : List Grd) : List C := l.flatMap Grd.cells
/-- The members of all groups lie in memory that stays. -/
def memsF (gs : List GrpM) : Fact :=
  ⟨fun m => ∀ g ∈ gs, SlF m 0 1 g.a g.mem.length (g.mem.map C.s), fun m m' hm h g hg => (slFact 0 1 g.a g.mem.length (g.mem.map C.s)).mono m m' hm (h g hg)⟩
/-! ### Names -/
def nameB (c : UInt8) : Bool :=
  !((decide ((c.toNat : Int) < 97) || decide (122 < (c.toNat : Int))) && (decide ((c.toNat : Int) < 48) || decide (57 < (c.toNat : Int))) && !decide ((c.toNat : Int) = 45) && !decide ((c.toNat : Int) = 95))
def isNameT (s : Bs) : Bool :=
  !decide ((s.length : Int) < 1) && !decide (30 < (s.length : Int)) && !decide (((s.getD 0 0).toNat : Int) < 97) && !decide (122 < ((s.getD 0 0).toNat : Int)) && s.all nameB
def bAll : Bs := [97, 108, 108]
def bUsers : Bs := [117, 115, 101, 114, 115]
def builtT (s : Bs) : Bool := decide (s = bAll) || decide (s = bUsers)
def existsT (ns : List Bs) (s : Bs) : Bool := builtT s || ns.any fun x => decide (x = s)
/-- The first error among the members of a group. -/
def memErr (ns : List Bs) : List Bs → Int
  | [] => 0
  | m :: r => if isNameT (Lib.trimPrefix m [64]) = false then 1 else if Lib.hasPrefix m [64] = true ∧ existsT ns (Lib.trimPrefix m [64]) = false then 4 else memErr ns r
def grpErr (ns ahead : List Bs) (name : Bs) (mem : List Bs) : Int :=
  if isNameT name = false then 1 else if existsT ahead name = true then 5 else if 24 < (mem.length : Int) then 3 else memErr ns mem
def scopeOK (kind sp : Int) (nm : Bs) : Bool :=
  if kind = 1 then decide (sp = 0 ∧ nm = []) else if kind = 2 then decide (0 ≤ sp) && decide (sp < 6) && decide (nm = []) else if kind = 3 then validT sp nm else false
def rulErr (ns : List Bs) (r : Rul) : Int :=
  if r.right < 1 ∨ 5 < r.right then 2 else if existsT ns r.group = false then 4 else if scopeOK r.kind r.sp r.nm = false then 7 else 0
/-- Without blanks at both ends. -/
def trimT (s : Bs) : Bs := Lib.trimS s [32, 9]
def sectOK (s : Bs) : Bool := !decide (100 < (s.length : Int)) && !s.any (fun c => c == 10 || c == 124) && decide (trimT s = s)
def grdErr (ns : List Bs) (g : Grd) : Int :=
  if existsT ns g.group = false then 4 else if (validT g.sp g.nm && sectOK g.sect) = false then 7 else 0
/-- The first number other than 0. -/
def firstErr : List Int → Int
  | [] => 0
  | e :: r => if e = 0 then firstErr r else e
/-- The names of groups, with their members. -/
abbrev GP := List (Bs × List Bs)
def grpErrs (gs : GP) : List Int := gs.mapIdx fun i g => grpErr (gs.map (·.1)) ((gs.map (·.1)).take i) g.1 g.2
def validateT (gs : GP) (rs : List Rul) (xs : List Grd) : Int :=
  if 24 < (gs.length : Int) ∨ 64 < (rs.length : Int) ∨ 64 < (xs.length : Int) then 3
  else firstErr (grpErrs gs ++ rs.map (rulErr (gs.map (·.1))) ++ xs.map (grdErr (gs.map (·.1))))
def gpOf (gs : List GrpM) : GP := gs.map fun g => (g.name, g.mem)
end Go.X

/- This text says in plain Lean what the reading of policy texts computes: words, groups, rules, guards, lines, whole texts. -/
namespace Go.X
theorem trimS_le (s cs : Bs) : (Lib.trimS s cs).length ≤ s.length := by
  unfold Lib.trimS Lib.trimLeftS Lib.trimRightS
  refine Nat.le_trans (List.dropWhile_sublist _).length_le ?_
  rw [List.length_reverse]
  refine Nat.le_trans (List.dropWhile_sublist _).length_le ?_
  rw [List.length_reverse]; exact Nat.le_refl _
theorem trimT_le (s : Bs) : (trimT s).length ≤ s.length := trimS_le s _
/-- The first word of a line and the rest. -/
def nextT (s : Bs) : Bs × Bs :=
  if Lib.indexAny (trimT s) [32, 9] < 0 then (trimT s, []) else ((trimT s).take (Lib.indexAny (trimT s) [32, 9]).toNat, trimT ((trimT s).drop (Lib.indexAny (trimT s) [32, 9]).toNat))
theorem nextT_le (s : Bs) : (nextT s).1.length ≤ s.length ∧ (nextT s).2.length ≤ s.length := by
  have h := trimS_le s [32, 9]
  unfold nextT
  split
  · exact ⟨h, Nat.zero_le _⟩
  · refine ⟨?_, ?_⟩
    · exact Nat.le_trans (by rw [List.length_take]; exact Nat.min_le_right _ _) h
    · refine Nat.le_trans (trimS_le _ _) (Nat.le_trans ?_ h)
      rw [List.length_drop]; exact Nat.sub_le _ _
/-- The place of a word in a list; -1 if it is not there. -/
def idxS : List Bs → Bs → Int
  | [], _ => -1
  | y :: r, x => if x = y then 0 else if idxS r x < 0 then -1 else idxS r x + 1
theorem idxS_lt (xs : List Bs) (x : Bs) : -1 ≤ idxS xs x ∧ idxS xs x < xs.length := by
  induction xs with
  | nil => exact ⟨Int.le_refl _, by show (-1 : Int) < _; simp⟩
  | cons y r ih =>
    rw [idxS]
    split
    · simp
    · split
      · simp; omega
      · simp; omega
def rightsL : List Bs := [[114, 101, 97, 100], [101, 100, 105, 116], [109, 111, 118, 101], [100, 101, 108, 101, 116, 101], [114, 101, 118, 105, 101, 119]]
def spacesL : List Bs := [[60, 77, 97, 105, 110, 62], [60, 84, 97, 108, 107, 62], [60, 85, 115, 101, 114, 62], [60, 84, 101, 109, 112, 108, 97, 116, 101, 62], [60, 67, 97, 116, 101, 103, 111, 114, 121, 62], [60, 80, 114, 111, 106, 101, 99, 116, 62]]
def wAll : Bs := [60, 97, 108, 108, 62]
/-- What a policy says, without places. -/
abbrev P3 := GP × List Rul × List Grd
def groupT (q : P3) (rest : Bs) : Bool × P3 :=
  (!decide ((nextT rest).1 = []), (q.1 ++ [((nextT rest).1, wordsT blankB (nextT rest).2)], q.2.1, q.2.2))
/-- The scope of a text. -/
def scopeT (s : Bs) : Option (Int × Int × Bs) :=
  if s = wAll then some (1, 0, []) else if 0 ≤ idxS spacesL s then some (2, idxS spacesL s, []) else if (parseT s).2.2 = 0 then some (3, (parseT s).1, (parseT s).2.1) else none
def ruleT (q : P3) (rest : Bs) (allow : Bool) : Bool × P3 :=
  let w := nextT rest
  let n := nextT w.2
  if idxS rightsL w.1 + 1 = 0 then (false, q) else match scopeT n.2 with
    | none => (false, q)
    | some (k, sp, nm) => (true, (q.1, q.2.1 ++ [⟨allow, idxS rightsL w.1 + 1, n.1, k, sp, nm⟩], q.2.2))
def guardT (q : P3) (rest : Bs) (strict : Bool) : Bool × P3 :=
  let w := nextT rest
  let c := cutAt 124 w.2
  let t := parseT (trimT c.1)
  if t.2.2 ≠ 0 ∨ (c.2.2 = true ∧ trimT c.2.1 = []) then (false, q) else (true, (q.1, q.2.1, q.2.2 ++ [⟨strict, w.1, t.1, t.2.1, trimT c.2.1⟩]))
def wGroup : Bs := [103, 114, 111, 117, 112]
def wAllow : Bs := [97, 108, 108, 111, 119]
def wDeny : Bs := [100, 101, 110, 121]
def wGuard : Bs := [103, 117, 97, 114, 100]
def wStrict : Bs := [115, 116, 114, 105, 99, 116]
def stmtT (q : P3) (line : Bs) : Bool × P3 :=
  let w := nextT line
  if w.1 = [] ∨ w.1.getD 0 0 = 35 then (true, q)
  else if w.1 = wGroup then groupT q w.2
  else if w.1 = wAllow ∨ w.1 = wDeny then ruleT q w.2 (decide (w.1 = wAllow))
  else if w.1 = wGuard ∨ w.1 = wStrict then guardT q w.2 (decide (w.1 = wStrict))
  else (false, q)
/-! ### Words and trimmed texts -/
def dropL (s : Bs) : Bs := s.dropWhile blankB
def dropE (s : Bs) : Bs := (s.reverse.dropWhile blankB).reverse
def nb (c : UInt8) : Bool := !blankB c
theorem contains_blank (c : UInt8) : ([32, 9] : Bs).contains c = blankB c := by
  unfold blankB
  simp only [List.contains_cons, List.contains_nil, Bool.or_false]
theorem trimT_eq (s : Bs) : trimT s = dropL (dropE s) := by
  unfold trimT Lib.trimS Lib.trimLeftS Lib.trimRightS dropL dropE
  rw [show (([32, 9] : Bs).contains ·) = blankB from funext contains_blank]
theorem dropWhile_all {p : UInt8 → Bool} {a b : Bs} (h : ∀ x ∈ a, p x = true) : (a ++ b).dropWhile p = b.dropWhile p := by
  induction a with
  | nil => rfl
  | cons x r ih => rw [List.cons_append, List.dropWhile_cons, if_pos (h x (by simp)), ih fun y hy => h y (by simp [hy])]
theorem dropWhile_none {p : UInt8 → Bool} {a : Bs} (h : ∀ x ∈ a, p x = false) : a.dropWhile p = a := by
  cases a with
  | nil => rfl
  | cons x r => rw [List.dropWhile_cons, if_neg (by rw [h x (by simp)]; simp)]
theorem takeWhile_mem {p : UInt8 → Bool} {a : Bs} {x : UInt8} (h : x ∈ a.takeWhile p) : p x = true := by
  induction a with
  | nil => cases h
  | cons y r ih =>
    rw [List.takeWhile_cons] at h
    split at h
    · rcases List.mem_cons.1 h with rfl | h
      · assumption
      · exact ih h
    · cases h
theorem dropWhile_head {p : UInt8 → Bool} (a : Bs) : a.dropWhile p = [] ∨ ∃ x r, a.dropWhile p = x :: r ∧ p x = false := by
  induction a with
  | nil => exact .inl rfl
  | cons y r ih =>
    rw [List.dropWhile_cons]
    split
    · exact ih
    · rename_i h; exact .inr ⟨y, r, rfl, by simpa using h⟩
theorem dropE_app {w : Bs} (h : ∀ x ∈ w, blankB x = false) (x : Bs) : dropE (w ++ x) = w ++ dropE x := by
  unfold dropE
  rw [List.reverse_append, List.dropWhile_append]
  split
  · rename_i he
    rw [dropWhile_none fun y hy => h y (by simpa using hy)]
    simp at he
    rw [List.reverse_reverse, show x.reverse.dropWhile blankB = [] from by simpa using he]; simp
  · rw [List.reverse_append, List.reverse_reverse]
theorem dropE_split (s : Bs) : ∃ B, s = dropE s ++ B ∧ ∀ x ∈ B, blankB x = true := by
  refine ⟨(s.reverse.takeWhile blankB).reverse, ?_, fun x hx => takeWhile_mem (by simpa using hx)⟩
  unfold dropE
  rw [← List.reverse_append, List.takeWhile_append_dropWhile, List.reverse_reverse]
theorem dropL_split (s : Bs) : ∃ A, s = A ++ dropL s ∧ ∀ x ∈ A, blankB x = true := ⟨s.takeWhile blankB, (List.takeWhile_append_dropWhile).symm, fun _ h => takeWhile_mem h⟩
theorem dropE_blank {s : Bs} (h : ∀ x ∈ s, blankB x = true) : dropE s = [] := by
  unfold dropE
  have := dropWhile_all (p := blankB) (a := s.reverse) (b := []) (fun x hx => h x (by simpa using hx))
  rw [List.append_nil] at this
  rw [this]; rfl
theorem dropE_idem (s : Bs) : dropE (dropE s) = dropE s := by
  unfold dropE
  rw [List.reverse_reverse]
  rcases dropWhile_head (p := blankB) s.reverse with h | ⟨x, r, h, hx⟩
  · rw [h]; rfl
  · rw [h, List.dropWhile_cons, if_neg (by rw [hx]; simp)]
theorem dropL_idem (s : Bs) : dropL (dropL s) = dropL s := by
  unfold dropL
  rcases dropWhile_head (p := blankB) s with h | ⟨x, r, h, hx⟩
  · rw [h]; rfl
  · rw [h, List.dropWhile_cons, if_neg (by rw [hx]; simp)]
/-- The ends do not matter to one another. -/
theorem dropLE (s : Bs) : dropL (dropE s) = dropE (dropL s) := by
  obtain ⟨A, hA, hb⟩ := dropL_split s
  rcases dropWhile_head (p := blankB) s with h | ⟨x, r, h, hx⟩
  · have hs : dropL s = [] := h
    rw [hs] at hA ⊢
    rw [List.append_nil] at hA
    rw [hA, dropE_blank hb]; rfl
  · have hs : dropL s = x :: r := h
    rw [hs] at hA ⊢
    have h1 : dropE (x :: r) = x :: dropE r := dropE_app (w := [x]) (fun y hy => by simp at hy; rw [hy]; exact hx) r
    have h2 : dropE (A ++ (x :: r)) = A ++ dropE (x :: r) := by
      rw [h1]
      unfold dropE
      rw [List.reverse_append, List.dropWhile_append, if_neg, List.reverse_append, List.reverse_reverse]
      · have h3 := h1
        unfold dropE at h3
        rw [h3]
      · intro he
        have h3 := h1
        unfold dropE at h3
        have h4 : (x :: r).reverse.dropWhile blankB = [] := by simpa using he
        rw [h4] at h3
        cases h3
    rw [hA, h2, h1]
    unfold dropL
    rw [dropWhile_all hb, List.dropWhile_cons, if_neg (by rw [hx]; simp)]
theorem trimT_idem (s : Bs) : trimT (trimT s) = trimT s := by
  rw [trimT_eq, trimT_eq s, dropLE s, dropE_idem, dropLE, dropL_idem]
theorem trimT_dropE (s : Bs) : trimT (dropE s) = trimT s := by rw [trimT_eq, trimT_eq, dropE_idem]
theorem words_blank {A : Bs} (h : ∀ x ∈ A, blankB x = true) (x : Bs) : wordsGo blankB [] (A ++ x) = wordsGo blankB [] x := by
  induction A with
  | nil => rfl
  | cons a A ih => rw [List.cons_append, wordsGo, h a (by simp)]; exact ih fun y hy => h y (by simp [hy])
theorem words_blankE {B : Bs} (h : ∀ x ∈ B, blankB x = true) (x : Bs) : ∀ cur, wordsGo blankB cur (x ++ B) = wordsGo blankB cur x := by
  induction x with
  | nil =>
    intro cur
    cases B with
    | nil => rfl
    | cons b B =>
      have := words_blank (A := B) (fun y hy => h y (by simp [hy])) []
      rw [List.append_nil] at this
      have e : wordsGo blankB cur (b :: B) = if cur = [] then wordsGo blankB [] B else cur :: wordsGo blankB [] B := by rw [wordsGo, h b (by simp)]
      rw [List.nil_append, e, this]
      by_cases hc : cur = [] <;> simp [wordsGo, hc]
  | cons y x ih =>
    intro cur
    rw [List.cons_append, wordsGo, wordsGo, ih, ih]
theorem words_trim (s : Bs) : wordsT blankB (trimT s) = wordsT blankB s := by
  rw [trimT_eq]
  obtain ⟨B, hB, hb⟩ := dropE_split s
  obtain ⟨A, hA, ha⟩ := dropL_split (dropE s)
  unfold wordsT
  conv => rhs; rw [hB, words_blankE hb, hA, words_blank ha]
theorem indexAny_run {w : Bs} (h : ∀ x ∈ w, blankB x = false) {x : UInt8} (hx : blankB x = true) (r : Bs) : Lib.indexAny (w ++ x :: r) [32, 9] = w.length := by
  induction w with
  | nil => rw [List.nil_append, Lib.indexAny, if_pos (by rw [contains_blank]; exact hx)]; rfl
  | cons y w ih =>
    have := ih fun z hz => h z (by simp [hz])
    rw [List.cons_append, Lib.indexAny, if_neg (by rw [contains_blank, h y (by simp)]; simp), this, if_neg (by simp), List.length_cons]
    omega
theorem indexAny_none {w : Bs} (h : ∀ x ∈ w, blankB x = false) : Lib.indexAny w [32, 9] = -1 := by
  induction w with
  | nil => rfl
  | cons y w ih =>
    have := ih fun z hz => h z (by simp [hz])
    rw [Lib.indexAny, if_neg (by rw [contains_blank, h y (by simp)]; simp), this, if_pos (by simp)]
/-- The first word, and what comes behind it. -/
def wd (s : Bs) : Bs := (dropL s).takeWhile nb
def behindW (s : Bs) : Bs := (dropL s).dropWhile nb
theorem wd_nb {s : Bs} {x : UInt8} (h : x ∈ wd s) : blankB x = false := by
  have := takeWhile_mem h
  simpa [nb] using this
theorem trimT_wd (s : Bs) : trimT s = wd s ++ dropE (behindW s) := by
  rw [trimT_eq, dropLE]
  conv => lhs; rw [← List.takeWhile_append_dropWhile (p := nb) (l := dropL s)]
  exact dropE_app (fun x hx => wd_nb hx) _
theorem dropE_head {s : Bs} (h : s = [] ∨ ∃ x r, s = x :: r ∧ blankB x = true) : dropE s = [] ∨ ∃ x r, dropE s = x :: r ∧ blankB x = true := by
  obtain ⟨B, hB, _⟩ := dropE_split s
  rcases h with h | ⟨x, r, h, hx⟩
  · subst h; exact .inl rfl
  · cases hd : dropE s with
    | nil => exact .inl rfl
    | cons y q =>
      rw [hd, h] at hB
      injection hB with h1 _
      exact .inr ⟨y, q, rfl, by rw [← h1]; exact hx⟩
theorem behindW_head (s : Bs) : behindW s = [] ∨ ∃ x r, behindW s = x :: r ∧ blankB x = true := by
  rcases dropWhile_head (p := nb) (dropL s) with h | ⟨x, r, h, hx⟩
  · exact .inl h
  · exact .inr ⟨x, r, h, by simpa [nb] using hx⟩
theorem nextT_eq (s : Bs) : nextT s = (wd s, trimT (behindW s)) := by
  unfold nextT
  rw [trimT_wd s]
  rcases dropE_head (behindW_head s) with h | ⟨x, r, h, hx⟩
  · rw [h, List.append_nil, if_pos (by rw [indexAny_none fun x hx => wd_nb hx]; decide)]
    rw [← trimT_dropE, h]; rfl
  · rw [h, indexAny_run (fun x hx => wd_nb hx) hx, if_neg (by omega), Int.toNat_natCast, List.take_left', List.drop_left', ← h, trimT_dropE]
    · rfl
    · rfl
theorem words_next (s : Bs) : wordsT blankB s = if (nextT s).1 = [] then [] else (nextT s).1 :: wordsT blankB (nextT s).2 := by
  rw [nextT_eq]
  show _ = if wd s = [] then [] else wd s :: wordsT blankB (trimT (behindW s))
  rw [words_trim]
  obtain ⟨A, hA, ha⟩ := dropL_split s
  have h1 : wordsT blankB s = wordsGo blankB (wd s) (behindW s) := by
    unfold wordsT
    conv => lhs; rw [hA, words_blank ha, ← List.takeWhile_append_dropWhile (p := nb) (l := dropL s)]
    have := wordsGo_run (p := blankB) (wd s) [] (behindW s) (fun x hx => wd_nb hx)
    rw [List.nil_append] at this
    exact this
  rw [h1]
  rcases behindW_head s with h | ⟨x, r, h, hx⟩
  · rw [h]; unfold wordsT wordsGo; rfl
  · rw [h]
    unfold wordsT
    rw [wordsGo, wordsGo, hx]
    simp only [if_true]
    split
    · rename_i hw
      exfalso
      have h2 : dropL s = wd s ++ behindW s := (List.takeWhile_append_dropWhile).symm
      rw [hw, h, List.nil_append] at h2
      rcases dropWhile_head (p := blankB) s with h3 | ⟨y, q, h3, hy⟩
      · rw [show dropL s = [] from h3] at h2; cases h2
      · rw [show dropL s = y :: q from h3] at h2
        injection h2 with h4 _
        rw [h4, hx] at hy; cases hy
    · rfl
/-- The text without its first n words. -/
def restT : Bs → Nat → Bs
  | s, 0 => trimT s
  | s, n + 1 => restT ((trimT s).dropWhile nb) n
theorem restT_trim (s : Bs) : ∀ n, restT (trimT s) n = restT s n
  | 0 => trimT_idem s
  | n + 1 => by rw [restT, restT, trimT_idem]
theorem restT_next (s : Bs) (n : Nat) : restT s (n + 1) = restT (nextT s).2 n := by
  rw [restT, nextT_eq, trimT_wd]
  show _ = restT (trimT (behindW s)) n
  rw [restT_trim]
  have h : (wd s ++ dropE (behindW s)).dropWhile nb = dropE (behindW s) := by
    rw [dropWhile_all fun x hx => by have := wd_nb hx; simp [nb, this]]
    rcases dropE_head (behindW_head s) with h | ⟨x, r, h, hx⟩
    · rw [h]; rfl
    · rw [h, List.dropWhile_cons, if_neg (by simp [nb, hx])]
  rw [h, ← restT_trim, trimT_dropE, restT_trim]
theorem restT_le (s : Bs) : ∀ n, (restT s n).length ≤ s.length := by
  intro n
  induction n generalizing s with
  | zero => exact trimT_le s
  | succ n ih =>
    rw [restT]
    exact Nat.le_trans (ih _) (Nat.le_trans (List.dropWhile_sublist _).length_le (trimT_le s))
theorem nextT_trim (s : Bs) : trimT (nextT s).2 = (nextT s).2 := by rw [nextT_eq]; exact trimT_idem _
theorem restT_one (s : Bs) : restT s 1 = (nextT s).2 := by rw [restT_next, restT, nextT_trim]
theorem restT_two (s : Bs) : restT s 2 = (nextT (nextT s).2).2 := by rw [restT_next, restT_one]
theorem restT_three (s : Bs) : restT s 3 = (nextT (nextT (nextT s).2).2).2 := by rw [restT_next, restT_two]
/-! ### Lines by their words -/
theorem wd_nil {s : Bs} (h : wd s = []) : dropL s = [] := by
  have h2 : dropL s = wd s ++ behindW s := (List.takeWhile_append_dropWhile).symm
  rw [h, List.nil_append] at h2
  rcases dropWhile_head (p := blankB) s with h3 | ⟨y, q, h3, hy⟩
  · exact h3
  · rcases behindW_head s with h4 | ⟨x, r, h4, hx⟩
    · rw [h2, h4]
    · rw [h4, show dropL s = y :: q from h3] at h2
      injection h2 with h5 _
      rw [h5, hx] at hy; cases hy
theorem words_cases (s : Bs) : (wordsT blankB s = [] ∧ (nextT s).1 = [] ∧ (nextT s).2 = []) ∨ ((nextT s).1 ≠ [] ∧ wordsT blankB s = (nextT s).1 :: wordsT blankB (nextT s).2) := by
  have h := words_next s
  by_cases hw : (nextT s).1 = []
  · rw [if_pos hw] at h
    refine .inl ⟨h, hw, ?_⟩
    rw [nextT_eq] at hw ⊢
    have h2 := wd_nil hw
    show trimT (behindW s) = []
    unfold behindW
    rw [h2]; rfl
  · rw [if_neg hw] at h
    exact .inr ⟨hw, h⟩
theorem parseT_nil : (parseT []).2.2 ≠ 0 := by
  have hv : validT (spaceP []) (nameP []) = false := by
    cases h : validT (spaceP []) (nameP []) with
    | false => rfl
    | true =>
      have h1 := validT_bounds h
      have h2 := nameP_le []
      simp at h2
      rw [h2] at h1
      simp at h1
  have hn := nameP_le []
  unfold parseT
  rw [hv]
  split <;> simp
theorem scopeT_nil : scopeT [] = none := by
  unfold scopeT
  rw [if_neg (by decide), if_neg (by decide), if_neg parseT_nil]
theorem stmt_none {q : P3} {s : Bs} (h : wordsT blankB s = []) : stmtT q s = (true, q) := by
  rcases words_cases s with ⟨_, h1, _⟩ | ⟨_, h2⟩
  · unfold stmtT; simp only; rw [if_pos (.inl h1)]
  · rw [h] at h2; cases h2
theorem stmt_word {s a : Bs} {w : List Bs} (h : wordsT blankB s = a :: w) : a ≠ [] ∧ (nextT s).1 = a ∧ wordsT blankB (nextT s).2 = w := by
  rcases words_cases s with ⟨h1, _⟩ | ⟨h1, h2⟩
  · rw [h] at h1; cases h1
  · rw [h] at h2
    injection h2 with h3 h4
    exact ⟨h3 ▸ h1, h3.symm, h4.symm⟩
theorem stmt_hash {q : P3} {s a : Bs} {w : List Bs} (h : wordsT blankB s = a :: w) (ha : a.getD 0 0 = 35) : stmtT q s = (true, q) := by
  obtain ⟨_, h1, _⟩ := stmt_word h
  unfold stmtT; simp only; rw [if_pos (.inr (by rw [h1]; exact ha))]
theorem stmt_group {q : P3} {s : Bs} {w : List Bs} (h : wordsT blankB s = wGroup :: w) : stmtT q s = (!decide (w = []), (q.1 ++ [(w.getD 0 [], w.drop 1)], q.2.1, q.2.2)) := by
  obtain ⟨_, h1, h2⟩ := stmt_word h
  unfold stmtT
  simp only [h1]
  rw [if_neg (by decide), if_pos trivial]
  unfold groupT
  rcases words_cases (nextT s).2 with ⟨h3, h4, h5⟩ | ⟨h3, h4⟩
  · rw [h2] at h3
    subst h3
    rw [h4, h5]; rfl
  · rw [h2] at h4
    subst h4
    simp [h3]
def ruleW (q : P3) (allow : Bool) (w : List Bs) (x : Bs) : Bool × P3 :=
  if w.length < 3 ∨ idxS rightsL (w.getD 0 []) + 1 = 0 then (false, q) else match scopeT x with
    | none => (false, q)
    | some (k, sp, nm) => (true, (q.1, q.2.1 ++ [⟨allow, idxS rightsL (w.getD 0 []) + 1, w.getD 1 [], k, sp, nm⟩], q.2.2))
def guardW (q : P3) (strict : Bool) (w : List Bs) (x : Bs) : Bool × P3 :=
  if w.length < 2 then (false, q) else
  let c := cutAt 124 x
  let t := parseT (trimT c.1)
  if t.2.2 ≠ 0 ∨ (c.2.2 = true ∧ trimT c.2.1 = []) then (false, q) else (true, (q.1, q.2.1, q.2.2 ++ [⟨strict, w.getD 0 [], t.1, t.2.1, trimT c.2.1⟩]))
theorem trimT_nil : trimT [] = [] := rfl
theorem stmt_rule {q : P3} {s a : Bs} {w : List Bs} (h : wordsT blankB s = a :: w) (ha : a = wAllow ∨ a = wDeny) : stmtT q s = ruleW q (decide (a = wAllow)) w (restT s 3) := by
  obtain ⟨_, h1, h2⟩ := stmt_word h
  have hx : a.getD 0 0 ≠ 35 ∧ a ≠ wGroup := by rcases ha with rfl | rfl <;> decide
  unfold stmtT
  simp only [h1]
  rw [if_neg (fun hc => hc.elim (fun h0 => by rcases ha with rfl | rfl <;> cases h0) hx.1), if_neg hx.2, if_pos ha, restT_three]
  unfold ruleT ruleW
  simp only
  rcases words_cases (nextT s).2 with ⟨h3, h4, h5⟩ | ⟨h3, h4⟩
  · rw [h2] at h3; subst h3
    rw [h4, h5, if_pos (by decide), if_pos (by simp)]
  rw [h2] at h4
  have e0 : w.getD 0 [] = (nextT (nextT s).2).1 := by rw [h4]; rfl
  rw [e0]
  generalize nextT (nextT s).2 = n1 at *
  obtain ⟨w1, r1⟩ := n1
  simp only at *
  by_cases hi : idxS rightsL w1 + 1 = 0
  · rw [if_pos hi, if_pos (.inr hi)]
  rw [if_neg hi]
  rcases words_cases r1 with ⟨h5, h6, h7⟩ | ⟨h5, h6⟩
  · rw [if_pos (.inl (by rw [h4, h5]; simp)), h7, scopeT_nil]
  rcases words_cases (nextT r1).2 with ⟨h7, h8, h9⟩ | ⟨h7, h8⟩
  · rw [if_pos (.inl (by rw [h4, h6, h7]; simp))]
    have : (nextT r1).2 = [] := by
      have := nextT_trim r1
      have h10 := trimT_wd (nextT r1).2
      rw [nextT_eq] at h8
      have h11 := wd_nil h8
      rw [← this, trimT_eq, dropLE, h11]; rfl
    rw [this, scopeT_nil]
  · have hl : ¬ (w.length < 3 ∨ idxS rightsL w1 + 1 = 0) := by
      rw [h4, h6, h8]; simp; omega
    rw [if_neg hl]
    have e1 : w.getD 1 [] = (nextT r1).1 := by rw [h4, h6]; rfl
    rw [e1]
theorem stmt_guard {q : P3} {s a : Bs} {w : List Bs} (h : wordsT blankB s = a :: w) (ha : a = wGuard ∨ a = wStrict) : stmtT q s = guardW q (decide (a = wStrict)) w (restT s 2) := by
  obtain ⟨_, h1, h2⟩ := stmt_word h
  have hx : a.getD 0 0 ≠ 35 ∧ a ≠ wGroup ∧ a ≠ wAllow ∧ a ≠ wDeny ∧ a ≠ [] := by rcases ha with rfl | rfl <;> decide
  unfold stmtT
  simp only [h1]
  rw [if_neg (by intro hc; exact hc.elim hx.2.2.2.2 hx.1), if_neg hx.2.1, if_neg (by intro hc; exact hc.elim hx.2.2.1 hx.2.2.2.1), if_pos ha, restT_two]
  unfold guardT guardW
  simp only
  rcases words_cases (nextT s).2 with ⟨h3, h4, h5⟩ | ⟨h3, h4⟩
  · rw [h2] at h3; subst h3
    rw [h5, if_pos (show ([] : List Bs).length < 2 by decide), if_pos (.inl parseT_nil)]
  rw [h2] at h4
  have e0 : w.getD 0 [] = (nextT (nextT s).2).1 := by rw [h4]; rfl
  rw [e0]
  generalize hn : nextT (nextT s).2 = n1 at *
  obtain ⟨w1, r1⟩ := n1
  simp only at *
  rcases words_cases r1 with ⟨h5, h6, h7⟩ | ⟨h5, h6⟩
  · rw [if_pos (show w.length < 2 by rw [h4, h5]; simp)]
    have : r1 = [] := by
      have := nextT_trim (nextT s).2
      rw [hn] at this
      rw [nextT_eq] at h6
      have h11 := wd_nil h6
      simp only at this
      rw [← this, trimT_eq, dropLE, h11]; rfl
    rw [this, if_pos (.inl parseT_nil)]
  · rw [if_neg (show ¬ w.length < 2 by rw [h4, h6]; simp)]
theorem stmt_other {q : P3} {s a : Bs} {w : List Bs} (h : wordsT blankB s = a :: w) (h0 : a.getD 0 0 ≠ 35) (h1 : a ≠ wGroup) (h2 : a ≠ wAllow) (h3 : a ≠ wDeny) (h4 : a ≠ wGuard) (h5 : a ≠ wStrict) : stmtT q s = (false, q) := by
  obtain ⟨h7, h6, _⟩ := stmt_word h
  unfold stmtT
  simp only [h6]
  rw [if_neg (not_or.2 ⟨h7, h0⟩), if_neg h1, if_neg (not_or.2 ⟨h2, h3⟩), if_neg (not_or.2 ⟨h4, h5⟩)]
/-! ### Sizes -/
theorem words_le {p : UInt8 → Bool} (r : Bs) : ∀ cur w, w ∈ wordsGo p cur r → w.length ≤ cur.length + r.length := by
  induction r with
  | nil =>
    intro cur w h
    rw [wordsGo] at h
    split at h
    · cases h
    · rw [List.mem_singleton.1 h]; simp
  | cons b r ih =>
    intro cur w h
    rw [wordsGo] at h
    split at h
    · split at h
      · have := ih _ _ h; simp at this ⊢; omega
      · rcases List.mem_cons.1 h with rfl | h
        · omega
        · have := ih _ _ h; simp at this ⊢; omega
    · have := ih _ _ h; simp at this ⊢; omega
theorem words_len {p : UInt8 → Bool} (r : Bs) : ∀ cur, (wordsGo p cur r).length ≤ r.length + 1 := by
  induction r with
  | nil => intro cur; rw [wordsGo]; split <;> simp
  | cons b r ih =>
    intro cur
    rw [wordsGo]
    split
    · split
      · have := ih []; simp; omega
      · have := ih []; simp; omega
    · have := ih (cur ++ [b]); simp; omega
theorem parseT_le (s : Bs) : (parseT s).2.1.length ≤ s.length := by
  have := nameP_le s
  unfold parseT
  split
  · exact Nat.zero_le _
  · split
    · exact this
    · exact Nat.zero_le _
structure P3B (B n : Nat) (q : P3) : Prop where
  gl : q.1.length ≤ n
  rl : q.2.1.length ≤ n
  xl : q.2.2.length ≤ n
  gb : ∀ g ∈ q.1, g.1.length ≤ B ∧ g.2.length ≤ B + 1 ∧ ∀ m ∈ g.2, m.length ≤ B
  rb : ∀ r ∈ q.2.1, r.nm.length ≤ B
  xb : ∀ x ∈ q.2.2, x.nm.length ≤ B ∧ x.sect.length ≤ B
theorem P3B.nil (B : Nat) : P3B B 0 ([], [], []) := ⟨Nat.le_refl _, Nat.le_refl _, Nat.le_refl _, fun _ h => (by cases h), fun _ h => (by cases h), fun _ h => (by cases h)⟩
theorem P3B.more {B n m : Nat} {q : P3} (h : P3B B n q) (hm : n ≤ m) : P3B B m q := ⟨Nat.le_trans h.gl hm, Nat.le_trans h.rl hm, Nat.le_trans h.xl hm, h.gb, h.rb, h.xb⟩
theorem P3B.group {B n : Nat} {q : P3} (h : P3B B n q) {s : Bs} (hs : s.length ≤ B) : P3B B (n + 1) (groupT q s).2 := by
  have hn := nextT_le s
  refine ⟨by simp [groupT]; exact h.gl, by have := h.rl; simp only [groupT]; omega, by have := h.xl; simp only [groupT]; omega, fun g hg => ?_, h.rb, h.xb⟩
  rcases List.mem_append.1 hg with hg | hg
  · exact h.gb g hg
  · rw [List.mem_singleton.1 hg]
    refine ⟨by simp only; omega, ?_, fun m hm => ?_⟩
    · have := words_len (p := blankB) (nextT s).2 []
      simp only; unfold wordsT; omega
    · have := words_le (p := blankB) (nextT s).2 [] m hm
      simp at this; omega
theorem scopeT_le {s : Bs} {k sp : Int} {nm : Bs} (h : scopeT s = some (k, sp, nm)) : nm.length ≤ s.length := by
  unfold scopeT at h
  have := parseT_le s
  split at h
  · cases h; simp
  · split at h
    · cases h; simp
    · split at h
      · cases h; exact this
      · cases h
theorem P3B.rule {B n : Nat} {q : P3} (h : P3B B n q) {s : Bs} (hs : s.length ≤ B) (al : Bool) : P3B B (n + 1) (ruleT q s al).2 := by
  have hn := nextT_le s
  have hn2 := nextT_le (nextT s).2
  have h1 := h.more (Nat.le_succ n)
  unfold ruleT
  simp only
  split
  · exact h1
  · split
    · exact h1
    · rename_i k sp nm hsc
      have := scopeT_le hsc
      refine ⟨h1.gl, by simp; exact h.rl, h1.xl, h.gb, fun r hr => ?_, h.xb⟩
      rcases List.mem_append.1 hr with hr | hr
      · exact h.rb r hr
      · rw [List.mem_singleton.1 hr]; simp only; omega
theorem P3B.guard {B n : Nat} {q : P3} (h : P3B B n q) {s : Bs} (hs : s.length ≤ B) (st : Bool) : P3B B (n + 1) (guardT q s st).2 := by
  have hn := nextT_le s
  have hc1 := cutAt_len1 124 (nextT s).2
  have hc2 := cutAt_len2 124 (nextT s).2
  have h1 := h.more (Nat.le_succ n)
  unfold guardT
  simp only
  split
  · exact h1
  · refine ⟨h1.gl, h1.rl, by simp; exact h.xl, h.gb, h.rb, fun x hx => ?_⟩
    rcases List.mem_append.1 hx with hx | hx
    · exact h.xb x hx
    · rw [List.mem_singleton.1 hx]
      have h2 := parseT_le (trimT (cutAt 124 (nextT s).2).1)
      have h3 := trimT_le (cutAt 124 (nextT s).2).1
      have h4 := trimT_le (cutAt 124 (nextT s).2).2.1
      exact ⟨by simp only; omega, by simp only; omega⟩
theorem P3B.stmt {B n : Nat} {q : P3} (h : P3B B n q) {s : Bs} (hs : s.length ≤ B) : P3B B (n + 1) (stmtT q s).2 := by
  have hn := nextT_le s
  have h1 := h.more (Nat.le_succ n)
  unfold stmtT
  simp only
  split
  · exact h1
  · split
    · exact h.group (by omega)
    · split
      · exact h.rule (by omega) _
      · split
        · exact h.guard (by omega) _
        · exact h1
/-! ### Whole texts -/
/-- What the lines of a text give: the policy, or the number of the line that is none. -/
def linesT : P3 → Nat → List Bs → P3 × Nat
  | q, _, [] => (q, 0)
  | q, i, l :: r => if (stmtT q l).1 = true then linesT (stmtT q l).2 (i + 1) r else (([], [], []), i + 1)
def finT (r : P3 × Nat) : P3 × Int × Int :=
  if r.2 ≠ 0 then (([], [], []), (r.2 : Int), 1) else if validateT r.1.1 r.1.2.1 r.1.2.2 ≠ 0 then (([], [], []), 0, validateT r.1.1 r.1.2.1 r.1.2.2) else (r.1, 0, 0)
def polParseT (s : Bs) : P3 × Int × Int :=
  if 8192 < (s.length : Int) then (([], [], []), 0, 3) else finT (linesT ([], [], []) 0 (splitOn 10 s))
end Go.X

/- This text holds the plain form of the states of chapter 27, of changes, and of the functions on them. -/
namespace Go.X
open Go Go.Lib
/-- A revision. -/
structure RV where
  num : Int
  user : Bs
  note : Bs
  text : Bs
  min : Int
  seq : Int
  deriving DecidableEq
instance : Inhabited RV := ⟨⟨0, [], [], [], 0, 0⟩⟩
def RV.cells (r : RV) : List C := [.i .i64 r.num, .s r.user, .s r.note, .s r.text, .i .i64 r.min, .i .i64 r.seq]
def rvC (l : List RV) : List C := l.flatMap RV.cells
/-- A page. -/
structure SP where
  sp : Int
  nm : Bs
  hist : List RV
  deriving DecidableEq
instance : Inhabited SP := ⟨⟨0, [], []⟩⟩
/-- A proposal. -/
structure PP where
  id : Int
  user : Bs
  note : Bs
  sp : Int
  nm : Bs
  base : Int
  text : Bs
  min : Int
  deriving DecidableEq
def PP.cells (p : PP) : List C := [.i .i64 p.id, .s p.user, .s p.note, .i .i64 p.sp, .s p.nm, .i .i64 p.base, .s p.text, .i .i64 p.min]
def ppC (l : List PP) : List C := l.flatMap PP.cells
/-- An entry of a watch list. -/
structure WT where
  user : Bs
  sp : Int
  nm : Bs
  deriving DecidableEq
def WT.cells (p : WT) : List C := [.s p.user, .i .i64 p.sp, .s p.nm]
def wtC (l : List WT) : List C := l.flatMap WT.cells
/-- The last transaction of a user. -/
structure LU where
  user : Bs
  seq : Int
  deriving DecidableEq
def LU.cells (p : LU) : List C := [.s p.user, .i .i64 p.seq]
def ltC (l : List LU) : List C := l.flatMap LU.cells
/-- A state. -/
structure ST where
  seq : Int
  clk : Int
  pages : List SP
  gone : List SP
  props : List PP
  proposed : Int
  watches : List WT
  lasts : List LU
  deriving DecidableEq
def ST.nil : ST := ⟨0, 0, [], [], [], 0, [], []⟩
/-- A change. -/
structure CH where
  kind : Int
  user : Bs
  note : Bs
  sp : Int
  nm : Bs
  tsp : Int
  tnm : Bs
  text : Bs
  n : Int
  hist : List RV
  deriving DecidableEq
def userT (s : Bs) : Bool := decide (s = []) || isNameT s
def policyNm : Bs := [80, 111, 108, 105, 99, 121]
/-- The place of the first element with a property, or -1. -/
def idxG {α : Type} (p : α → Bool) : List α → Int
  | [] => -1
  | x :: r => if p x = true then 0 else if idxG p r < 0 then -1 else idxG p r + 1
def atT (sp : Int) (nm : Bs) (p : SP) : Bool := decide (p.sp = sp ∧ p.nm = nm)
def insG {α : Type} (lt : α → Bool) (l : List α) (x : α) : List α := l.takeWhile lt ++ x :: l.dropWhile lt
def befT (sp : Int) (nm : Bs) (p : SP) : Bool := decide (compareT p.sp p.nm sp nm < 0)
/-! ### What is valid -/
def rvOK (clk sq i mi se : Int) (r : RV) : Bool :=
  decide (r.num = i + 1) && decide ((r.text.length : Int) ≤ 8192) && decide ((r.note.length : Int) ≤ 200) && userT r.user && decide (mi ≤ r.min) && decide (r.min ≤ clk) && decide (se ≤ r.seq) && decide (r.seq ≤ sq)
def histGo (clk sq : Int) : Int → Int → Int → List RV → Bool
  | _, _, _, [] => true
  | i, mi, se, r :: l => rvOK clk sq i mi se r && histGo clk sq (i + 1) r.min r.seq l
def histT (clk sq : Int) (l : List RV) : Bool := decide (1 ≤ (l.length : Int)) && decide ((l.length : Int) ≤ 40) && histGo clk sq 0 0 1 l
def pageOK (clk sq : Int) (p : SP) : Bool := validT p.sp p.nm && histT clk sq p.hist
/-- Strictly ascending by a comparison with the one ahead. -/
def ascG {α : Type} (lt : α → α → Bool) : List α → Bool
  | [] => true
  | [_] => true
  | x :: y :: r => lt x y && ascG lt (y :: r)
def ltP (a b : SP) : Bool := decide (compareT a.sp a.nm b.sp b.nm < 0)
def currentT (p : SP) : RV := p.hist.getLast?.getD default
def pageT (s : ST) (sp : Int) (nm : Bs) : Option SP := s.pages.find? (atT sp nm)
def ruledT (s : ST) : Bool :=
  match pageT s 5 policyNm with
  | none => true
  | some p => decide ((polParseT (currentT p).text).2.2 = 0)
def pagesT (s : ST) : Bool := decide ((s.pages.length : Int) ≤ 200) && decide ((s.gone.length : Int) ≤ 100) && s.pages.all (pageOK s.clk s.seq) && ascG ltP s.pages && s.gone.all (pageOK s.clk s.seq) && ruledT s
def ppOK (clk proposed last : Int) (p : PP) : Bool :=
  decide (last < p.id) && decide (p.id ≤ proposed) && userT p.user && validT p.sp p.nm && decide (0 ≤ p.base) && decide (p.base ≤ 40) && decide ((p.text.length : Int) ≤ 8192) && decide ((p.note.length : Int) ≤ 200) && decide (0 ≤ p.min) && decide (p.min ≤ clk)
def ppGo (clk proposed : Int) : Int → List PP → Bool
  | _, [] => true
  | last, p :: l => ppOK clk proposed last p && ppGo clk proposed p.id l
def propsT (s : ST) : Bool := decide ((s.props.length : Int) ≤ 40) && decide (0 ≤ s.proposed) && decide (s.proposed ≤ 1073741824) && ppGo s.clk s.proposed 0 s.props
/-- Byte strings in order. -/
def ltB (a b : Bs) : Bool := decide (Lib.compareBytes a b < 0)
def ltW (a b : WT) : Bool := ltB a.user b.user || (decide (a.user = b.user) && decide (compareT a.sp a.nm b.sp b.nm < 0))
def wtOK (w : WT) : Bool := isNameT w.user && validT w.sp w.nm
def ltOK (sq : Int) (x : LU) : Bool := isNameT x.user && decide (1 ≤ x.seq) && decide (x.seq ≤ sq)
def listsT (s : ST) : Bool := decide ((s.watches.length : Int) ≤ 100) && decide ((s.lasts.length : Int) ≤ 60) && s.watches.all wtOK && ascG ltW s.watches && s.lasts.all (ltOK s.seq) && ascG (fun a b => ltB a.user b.user) s.lasts
def validST (s : ST) : Bool := decide (0 ≤ s.seq) && decide (s.seq ≤ 1073741824) && decide (0 ≤ s.clk) && decide (s.clk ≤ 52595999) && pagesT s && propsT s && listsT s
/-! ### Valid changes -/
def noteK (c : CH) : Bool := decide (c.kind = 1) || decide (c.kind = 9)
def numK (c : CH) : Bool := decide (c.kind = 4) || decide (c.kind = 6) || decide (c.kind = 9) || decide (c.kind = 10)
def titleK (c : CH) : Bool := !decide (c.kind = 6) && !decide (c.kind = 10)
def formT (c : CH) : Bool :=
  decide (1 ≤ c.kind) && decide (c.kind ≤ 10) && (noteK c || (decide (c.note = []) && decide (c.text = []))) && (numK c || decide (c.n = 0)) && (titleK c || decide (c.sp = 0 ∧ c.nm = [])) && (!decide (c.kind = 6) || decide (c.user = [])) && (decide (c.kind = 4) || decide (c.tsp = 0 ∧ c.tnm = [])) && (decide (c.kind = 5) || decide (c.hist = []))
def chRvOK (i mi : Int) (r : RV) : Bool := decide (r.num = i + 1) && decide (r.seq = 0) && userT r.user && decide (0 ≤ r.min) && decide (r.min ≤ 52595999) && decide (mi ≤ r.min)
def chHistGo : Int → Int → List RV → Bool
  | _, _, [] => true
  | i, mi, r :: l => chRvOK i mi r && chHistGo (i + 1) r.min l
def chHistT (l : List RV) : Bool := decide (1 ≤ (l.length : Int)) && decide ((l.length : Int) ≤ 40) && chHistGo 0 0 l
def withinT (c : CH) : Bool :=
  (!titleK c || validT c.sp c.nm) && userT c.user &&
  (if c.kind = 7 ∨ c.kind = 8 then !decide (c.user = []) else if c.kind = 4 then validT c.tsp c.tnm && (decide (c.n = 0) || decide (c.n = 1)) else if c.kind = 6 then decide (1 ≤ c.n) && decide (c.n ≤ 52596000) else if c.kind = 9 then decide (0 ≤ c.n) && decide (c.n ≤ 40) else if c.kind = 10 then decide (1 ≤ c.n) && decide (c.n ≤ 1073741824) else if c.kind = 5 then chHistT c.hist else true)
def rvLong (r : RV) : Bool := decide (8192 < (r.text.length : Int)) || decide (200 < (r.note.length : Int))
def chValidT (c : CH) : Int :=
  if formT c = false then 7 else if withinT c = false then 2 else if 8192 < (c.text.length : Int) ∨ 200 < (c.note.length : Int) then 3 else if c.hist.any rvLong = true then 3 else 0
/-! ### Changes performed -/
def pageAt (s : ST) (i : Int) : SP := s.pages.getD i.toNat default
def putT27 (s : ST) (c : CH) (sq : Int) : ST × Int :=
  if idxG (atT c.sp c.nm) s.pages < 0 then
    (if 200 ≤ (s.pages.length : Int) then (s, 8) else ({ s with pages := insG (befT c.sp c.nm) s.pages ⟨c.sp, c.nm, [⟨1, c.user, c.note, c.text, s.clk, sq⟩]⟩ }, 0))
  else
    (if 40 ≤ ((pageAt s (idxG (atT c.sp c.nm) s.pages)).hist.length : Int) then (s, 8) else
      ({ s with pages := s.pages.modify (idxG (atT c.sp c.nm) s.pages).toNat fun p => { p with hist := p.hist ++ [⟨(p.hist.length : Int) + 1, c.user, c.note, c.text, s.clk, sq⟩] } }, 0))
def dropT (l : List PP) (sp : Int) (nm : Bs) : List PP := l.filter fun p => !decide (p.sp = sp ∧ p.nm = nm)
def removeT (s : ST) (c : CH) : ST × Int :=
  if idxG (atT c.sp c.nm) s.pages < 0 then (s, 4) else if 100 ≤ (s.gone.length : Int) then (s, 8) else
    ({ s with gone := s.gone ++ [pageAt s (idxG (atT c.sp c.nm) s.pages)], pages := s.pages.eraseIdx (idxG (atT c.sp c.nm) s.pages).toNat, props := dropT s.props c.sp c.nm }, 0)
/-- The place of the last element with a property, or -1. -/
def lastG {α : Type} (p : α → Bool) : List α → Int
  | [] => -1
  | x :: r => if 0 ≤ lastG p r then lastG p r + 1 else if p x = true then 0 else -1
def restoreT (s : ST) (c : CH) : ST × Int :=
  if 0 ≤ idxG (atT c.sp c.nm) s.pages then (s, 5) else if lastG (atT c.sp c.nm) s.gone < 0 then (s, 4) else if 200 ≤ (s.pages.length : Int) then (s, 8) else
    ({ s with pages := insG (befT c.sp c.nm) s.pages (s.gone.getD (lastG (atT c.sp c.nm) s.gone).toNat default), gone := s.gone.eraseIdx (lastG (atT c.sp c.nm) s.gone).toNat }, 0)
/-- The text of a redirect. -/
def redirT (sp : Int) (nm : Bs) : Bs := [35, 82, 69, 68, 73, 82, 69, 67, 84, 32, 91, 91] ++ formatT sp nm ++ [93, 93]
def moveT (s : ST) (c : CH) (sq : Int) : ST × Int :=
  if idxG (atT c.sp c.nm) s.pages < 0 then (s, 4) else if 0 ≤ idxG (atT c.tsp c.tnm) s.pages then (s, 5) else if c.n = 1 ∧ 200 ≤ (s.pages.length : Int) then (s, 8) else
    let l := insG (befT c.tsp c.tnm) (s.pages.eraseIdx (idxG (atT c.sp c.nm) s.pages).toNat) ⟨c.tsp, c.tnm, (pageAt s (idxG (atT c.sp c.nm) s.pages)).hist⟩
    ({ s with pages := if c.n = 1 then insG (befT c.sp c.nm) l ⟨c.sp, c.nm, [⟨1, c.user, [], redirT c.tsp c.tnm, s.clk, sq⟩]⟩ else l, props := dropT s.props c.sp c.nm }, 0)
def takeT (s : ST) (c : CH) (sq : Int) : ST × Int :=
  if 0 ≤ idxG (atT c.sp c.nm) s.pages then (s, 5) else if s.clk < (c.hist.getLast?.getD default).min then (s, 2) else if 200 ≤ (s.pages.length : Int) then (s, 8) else
    ({ s with pages := insG (befT c.sp c.nm) s.pages ⟨c.sp, c.nm, c.hist.map fun r => { r with seq := sq }⟩ }, 0)
def tickT (s : ST) (c : CH) : ST × Int := if 52595999 - s.clk < c.n then (s, 2) else ({ s with clk := s.clk + c.n }, 0)
def watchT (s : ST) (c : CH) : ST × Int :=
  let w : WT := ⟨c.user, c.sp, c.nm⟩
  let a := s.watches.takeWhile fun x => ltW x w
  let b := s.watches.dropWhile fun x => ltW x w
  if c.kind = 8 then (if b.head? = some w then ({ s with watches := a ++ b.tail }, 0) else (s, 4))
  else if b.head? = some w then (s, 5) else if 100 ≤ (s.watches.length : Int) then (s, 8) else ({ s with watches := a ++ w :: b }, 0)
def proposeT (s : ST) (c : CH) : ST × Int :=
  if 40 ≤ (s.props.length : Int) ∨ 1073741824 ≤ s.proposed then (s, 8) else
    ({ s with proposed := s.proposed + 1, props := s.props ++ [⟨s.proposed + 1, c.user, c.note, c.sp, c.nm, c.n, c.text, s.clk⟩] }, 0)
def shutT (s : ST) (c : CH) : ST × Int :=
  let l := s.props.filter fun p => !decide (p.id = c.n)
  if l.length = s.props.length then (s, 4) else ({ s with props := l }, 0)
def kindT (s : ST) (c : CH) (sq : Int) : ST × Int :=
  if c.kind = 1 then putT27 s c sq else if c.kind = 2 then removeT s c else if c.kind = 3 then restoreT s c else if c.kind = 4 then moveT s c sq else if c.kind = 5 then takeT s c sq else if c.kind = 6 then tickT s c else if c.kind = 7 ∨ c.kind = 8 then watchT s c else if c.kind = 9 then proposeT s c else shutT s c
def isPol (sp : Int) (nm : Bs) : Bool := decide (sp = 5 ∧ nm = policyNm)
def forbidT (c : CH) : Bool :=
  if c.kind = 1 then isPol c.sp c.nm && !decide ((polParseT c.text).2.2 = 0) else if c.kind = 2 ∨ c.kind = 3 ∨ c.kind = 5 then isPol c.sp c.nm else if c.kind = 4 then isPol c.sp c.nm || isPol c.tsp c.tnm else false
def notedT (s : ST) (user : Bs) (sq : Int) : ST × Int :=
  if user = [] then (s, 0) else
    let a := s.lasts.takeWhile fun x => ltB x.user user
    let b := s.lasts.dropWhile fun x => ltB x.user user
    if (b.head?.map (·.user)) = some user then ({ s with lasts := a ++ ⟨user, sq⟩ :: b.tail }, 0)
    else if 60 ≤ (s.lasts.length : Int) then (s, 8) else ({ s with lasts := a ++ ⟨user, sq⟩ :: b }, 0)
def stepT (s : ST) (c : CH) (sq : Int) : ST × Int :=
  if chValidT c ≠ 0 then (ST.nil, chValidT c) else if (kindT s c sq).2 ≠ 0 then (ST.nil, (kindT s c sq).2) else if forbidT c = true then (ST.nil, 7) else
    if (notedT (kindT s c sq).1 c.user sq).2 ≠ 0 then (ST.nil, (notedT (kindT s c sq).1 c.user sq).2) else notedT (kindT s c sq).1 c.user sq
def stepsT (sq : Int) : ST → List CH → ST × Int
  | s, [] => (s, 0)
  | s, c :: l => if (stepT s c sq).2 ≠ 0 then (ST.nil, (stepT s c sq).2) else stepsT sq (stepT s c sq).1 l
/-- A transaction. -/
def applyT (s : ST) (l : List CH) : ST × Int :=
  if validST s = false then (ST.nil, 11) else if (l.length : Int) < 1 ∨ 16 < (l.length : Int) then (ST.nil, 2) else
    if (stepsT (s.seq + 1) s l).2 ≠ 0 then (ST.nil, (stepsT (s.seq + 1) s l).2) else if 1073741824 < s.seq + 1 then (ST.nil, 8) else ({ (stepsT (s.seq + 1) s l).1 with seq := s.seq + 1 }, 0)
end Go.X

/- This text tells how states and changes lie in memory, and what is known of memory that does not change. -/
namespace Go.X
open Go Go.Lib
/-- A page in memory: its history is a slice. -/
structure PGM where
  sp : Int
  nm : Bs
  ha : Option Addr
  hc : Nat
  hist : List RV
instance : Inhabited PGM := ⟨⟨0, [], none, 0, []⟩⟩
def PGM.cells (p : PGM) : List C := [.i .i64 p.sp, .s p.nm, .sl p.ha p.hist.length p.hc]
def pgmC (l : List PGM) : List C := l.flatMap PGM.cells
def PGM.pl (p : PGM) : SP := ⟨p.sp, p.nm, p.hist⟩
/-- A state in memory. -/
structure STM where
  seq : Int
  clk : Int
  pa : Option Addr
  pc : Nat
  pages : List PGM
  ga : Option Addr
  gc : Nat
  gone : List PGM
  qa : Option Addr
  qc : Nat
  props : List PP
  proposed : Int
  wa : Option Addr
  wc : Nat
  watches : List WT
  la : Option Addr
  lc : Nat
  lasts : List LU
def STM.cells (s : STM) : List C := [.i .i64 s.seq, .i .i64 s.clk, .sl s.pa s.pages.length s.pc, .sl s.ga s.gone.length s.gc, .sl s.qa s.props.length s.qc, .i .i64 s.proposed, .sl s.wa s.watches.length s.wc, .sl s.la s.lasts.length s.lc]
def STM.pl (s : STM) : ST := ⟨s.seq, s.clk, s.pages.map PGM.pl, s.gone.map PGM.pl, s.props, s.proposed, s.watches, s.lasts⟩
def STM.nil : STM := ⟨0, 0, none, 0, [], none, 0, [], none, 0, [], 0, none, 0, [], none, 0, []⟩
/-- A change in memory. -/
structure CHM where
  kind : Int
  user : Bs
  note : Bs
  sp : Int
  nm : Bs
  tsp : Int
  tnm : Bs
  text : Bs
  n : Int
  ha : Option Addr
  hc : Nat
  hist : List RV
instance : Inhabited CHM := ⟨⟨0, [], [], 0, [], 0, [], [], 0, none, 0, []⟩⟩
def CHM.cells (c : CHM) : List C := [.i .i64 c.kind, .s c.user, .s c.note, .i .i64 c.sp, .s c.nm, .i .i64 c.tsp, .s c.tnm, .s c.text, .i .i64 c.n, .sl c.ha c.hist.length c.hc]
def CHM.pl (c : CHM) : CH := ⟨c.kind, c.user, c.note, c.sp, c.nm, c.tsp, c.tnm, c.text, c.n, c.hist⟩
def chmC (l : List CHM) : List C := l.flatMap CHM.cells
theorem SlF.mono {m m' : Im} {e z : Nat} {a : Option Addr} {n : Nat} {cs : List C} (hm : ∀ b o, m b = some o → m' b = some o) (h : SlF m e z a n cs) : SlF m' e z a n cs := (slFact e z a n cs).mono m m' hm h
theorem SlF.nil {m : Im} {e z : Nat} {a : Option Addr} : SlF m e z a 0 [] := ⟨fun x hx => (by cases hx), .inl ⟨rfl, rfl⟩⟩
theorem SlF.label {m : Im} {e e' z : Nat} {a : Option Addr} {n : Nat} {cs : List C} (h : SlF m e z a n cs) : SlF m e' z a n cs := h
/-- A slice that does not change, and its room. -/
def slcFact (z : Nat) (a : Option Addr) (n c : Nat) (cs : List C) : Fact := ⟨fun m => n ≤ c ∧ SlF m 0 z a n cs, fun _ _ hm h => ⟨h.1, h.2.mono hm⟩⟩
theorem Ents.toFactC {ety esz : Nat} {a : Option Addr} {n c : Nat} {cs : List C} {L : List Chunk} {D : List Fact} : Ents (.row ety esz a n c cs :: L) D L (slcFact esz a n c cs :: D) := fun G w hs => by
  have hn : n ≤ c := by
    obtain ⟨m, h1, _⟩ := id hs
    rcases (allOk_mem h1.ok (List.Mem.head _)).2 with ⟨_, rfl, rfl, _⟩ | ⟨g, _, cur, lo, hi, _, h2, _⟩
    · exact Nat.le_refl _
    · exact h2
  exact Ents.facts (D := slFact ety esz a n cs :: D) (D' := slcFact esz a n c cs :: D) (fun m h => ⟨⟨hn, h.1⟩, h.2⟩) G w (Ents.toFact G w hs)
/-- What the facts say beside memory. -/
theorem J_know {P : Program} {G : Ent} {N : Nat} {c0 : Code} {env : Env} {L : List Chunk} {D : List Fact} {nid : Nat} {K : Kt} {p : Prop} (hp : ∀ m, allD m D → p) (k : p → J P G N c0 env L D nid K) : J P G N c0 env L D nid K :=
  ⟨fun a w he hs => (k (by obtain ⟨m, h1, _⟩ := hs; exact hp m h1.d)).run a w he hs⟩
/-- The histories of pages lie there. -/
def pgsP (m : Im) (l : List PGM) : Prop := ∀ p ∈ l, SlF m 0 6 p.ha p.hist.length (rvC p.hist)
theorem pgsP.mono {m m' : Im} {l : List PGM} (hm : ∀ b o, m b = some o → m' b = some o) (h : pgsP m l) : pgsP m' l := fun p hp => (h p hp).mono hm
theorem pgsP.sub {m : Im} {l l' : List PGM} (h : pgsP m l) (hs : ∀ p ∈ l', p ∈ l) : pgsP m l' := fun p hp => h p (hs p hp)
/-- Pages lie there, with their histories. -/
structure PgP (m : Im) (a : Option Addr) (l : List PGM) : Prop where
  row : SlF m 0 3 a l.length (pgmC l)
  his : pgsP m l
/-- The room of a state's slices. -/
structure StC (s : STM) : Prop where
  pages : s.pages.length ≤ s.pc
  gone : s.gone.length ≤ s.gc
  props : s.props.length ≤ s.qc
  watches : s.watches.length ≤ s.wc
  lasts : s.lasts.length ≤ s.lc
/-- A state lies there. -/
structure StP (m : Im) (s : STM) : Prop where
  pages : PgP m s.pa s.pages
  gone : PgP m s.ga s.gone
  props : SlF m 0 8 s.qa s.props.length (ppC s.props)
  watches : SlF m 0 3 s.wa s.watches.length (wtC s.watches)
  lasts : SlF m 0 2 s.la s.lasts.length (ltC s.lasts)
  room : StC s
def stF (s : STM) : Fact := ⟨fun m => StP m s, fun _ _ hm h => ⟨⟨h.pages.row.mono hm, h.pages.his.mono hm⟩, ⟨h.gone.row.mono hm, h.gone.his.mono hm⟩, h.props.mono hm, h.watches.mono hm, h.lasts.mono hm, h.room⟩⟩
theorem StP.nil {m : Im} : StP m STM.nil := ⟨⟨SlF.nil, fun _ h => (by cases h)⟩, ⟨SlF.nil, fun _ h => (by cases h)⟩, SlF.nil, SlF.nil, SlF.nil, ⟨Nat.le_refl _, Nat.le_refl _, Nat.le_refl _, Nat.le_refl _, Nat.le_refl _⟩⟩
/-- Changes lie there. -/
def chsP (m : Im) (l : List CHM) : Prop := ∀ c ∈ l, SlF m 0 6 c.ha c.hist.length (rvC c.hist)
def chF (c : CHM) : Fact := slFact 0 6 c.ha c.hist.length (rvC c.hist)
structure ChsP (m : Im) (a : Option Addr) (l : List CHM) : Prop where
  row : SlF m 0 10 a l.length (chmC l)
  his : chsP m l
def chsF (a : Option Addr) (l : List CHM) : Fact := ⟨fun m => ChsP m a l, fun _ _ hm h => ⟨h.row.mono hm, fun c hc => (h.his c hc).mono hm⟩⟩
theorem rvC_len (l : List RV) : (rvC l).length = l.length * 6 := flat_len (F := RV.cells) (z := 6) (fun _ => rfl) l
theorem pgmC_len (l : List PGM) : (pgmC l).length = l.length * 3 := flat_len (F := PGM.cells) (z := 3) (fun _ => rfl) l
theorem ppC_len (l : List PP) : (ppC l).length = l.length * 8 := flat_len (F := PP.cells) (z := 8) (fun _ => rfl) l
theorem wtC_len (l : List WT) : (wtC l).length = l.length * 3 := flat_len (F := WT.cells) (z := 3) (fun _ => rfl) l
theorem ltC_len (l : List LU) : (ltC l).length = l.length * 2 := flat_len (F := LU.cells) (z := 2) (fun _ => rfl) l
theorem rv_get {l : List RV} {i : Nat} (h : i < l.length) : ((rvC l).drop (i * 6 + 0)).take 6 = [.i .i64 l[i].num, .s l[i].user, .s l[i].note, .s l[i].text, .i .i64 l[i].min, .i .i64 l[i].seq] := by
  rw [rvC, flat_get (F := RV.cells) (z := 6) (fun _ => rfl) h (by omega)]; rfl
theorem pgm_get {l : List PGM} {i : Nat} (h : i < l.length) : ((pgmC l).drop (i * 3 + 0)).take 3 = [.i .i64 l[i].sp, .s l[i].nm, .sl l[i].ha l[i].hist.length l[i].hc] := by
  rw [pgmC, flat_get (F := PGM.cells) (z := 3) (fun _ => rfl) h (by omega)]; rfl
theorem pgm_get2 {l : List PGM} {i : Nat} (h : i < l.length) : ((pgmC l).drop (i * 3 + 0)).take 2 = [.i .i64 l[i].sp, .s l[i].nm] := by
  rw [pgmC, flat_get (F := PGM.cells) (z := 3) (fun _ => rfl) h (by omega)]; rfl
theorem pgm_get1 {l : List PGM} {i : Nat} (h : i < l.length) : ((pgmC l).drop (i * 3 + 2)).take 1 = [.sl l[i].ha l[i].hist.length l[i].hc] := by
  rw [pgmC, flat_get (F := PGM.cells) (z := 3) (fun _ => rfl) h (by omega)]; rfl
theorem pp_get {l : List PP} {i : Nat} (h : i < l.length) : ((ppC l).drop (i * 8 + 0)).take 8 = [.i .i64 l[i].id, .s l[i].user, .s l[i].note, .i .i64 l[i].sp, .s l[i].nm, .i .i64 l[i].base, .s l[i].text, .i .i64 l[i].min] := by
  rw [ppC, flat_get (F := PP.cells) (z := 8) (fun _ => rfl) h (by omega)]; rfl
theorem wt_get {l : List WT} {i : Nat} (h : i < l.length) : ((wtC l).drop (i * 3 + 0)).take 3 = [.s l[i].user, .i .i64 l[i].sp, .s l[i].nm] := by
  rw [wtC, flat_get (F := WT.cells) (z := 3) (fun _ => rfl) h (by omega)]; rfl
theorem lt_get {l : List LU} {i : Nat} (h : i < l.length) : ((ltC l).drop (i * 2 + 0)).take 2 = [.s l[i].user, .i .i64 l[i].seq] := by
  rw [ltC, flat_get (F := LU.cells) (z := 2) (fun _ => rfl) h (by omega)]; rfl
theorem chm_get {l : List CHM} {i : Nat} (h : i < l.length) : ((chmC l).drop (i * 10 + 0)).take 10 = l[i].cells := by
  rw [chmC, flat_get (F := CHM.cells) (z := 10) (fun _ => rfl) h (by omega)]; rfl
end Go.X
