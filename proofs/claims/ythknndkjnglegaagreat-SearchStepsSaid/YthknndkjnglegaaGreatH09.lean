/- This text says in plain Lean what the functions on titles compute. -/
import Derived.Test.YthknndkjnglegaaGreatH08
import Derived.Lib.SlTrimSet
import Derived.Test.YthknndkjnglegaaGreatH01
import Derived.Sort.Statements
import Derived.Shelf.SlSortCmp.WholeK
import Derived.Test.YthknndkjnglegaaGreatH07
import Derived.Sort.Grow
set_option linter.all false

namespace Go.X
def lowB (b : UInt8) : UInt8 := if 65 ≤ b ∧ b ≤ 90 then b + 32 else b
theorem lowB_yes {b : UInt8} (h : 65 ≤ (b.toNat : Int)) (h' : (b.toNat : Int) ≤ 90) : ((lowB b).toNat : Int) = b.toNat + 32 := by
  have h1 : (65 : UInt8) ≤ b := by rw [UInt8.le_iff_toNat_le]; simp; omega
  have h2 : b ≤ (90 : UInt8) := by rw [UInt8.le_iff_toNat_le]; simp; omega
  unfold lowB
  rw [if_pos ⟨h1, h2⟩, UInt8.toNat_add]
  simp; omega
theorem lowB_no {b : UInt8} (h : ¬ (65 ≤ (b.toNat : Int) ∧ (b.toNat : Int) ≤ 90)) : lowB b = b := by
  unfold lowB
  rw [if_neg]
  rintro ⟨h1, h2⟩
  rw [UInt8.le_iff_toNat_le] at h1 h2
  simp at h1 h2
  omega
/-- The names of the namespaces. -/
def spName : Nat → List UInt8
  | 1 => [84, 97, 108, 107]
  | 2 => [85, 115, 101, 114]
  | 3 => [84, 101, 109, 112, 108, 97, 116, 101]
  | 4 => [67, 97, 116, 101, 103, 111, 114, 121]
  | 5 => [80, 114, 111, 106, 101, 99, 116]
  | _ => []
def spaceNo (p : List UInt8) : Nat :=
  if p.map lowB = (spName 1).map lowB then 1 else if p.map lowB = (spName 2).map lowB then 2 else if p.map lowB = (spName 3).map lowB then 3
  else if p.map lowB = (spName 4).map lowB then 4 else if p.map lowB = (spName 5).map lowB then 5 else 0
/-- Which namespace the front of a text names. -/
def colonNo (s : List UInt8) : Nat := if (cutAt 58 s).2.2 = true then spaceNo (Lib.trimSuffix (cutAt 58 s).1 [32]) else 0
/-- What lies behind its colon. -/
def behind (s : List UInt8) : List UInt8 := (cutAt 58 s).2.1
/-- A byte that a name must not have. -/
def badB (c : UInt8) : Bool := decide ((c.toNat : Int) < 32) || decide ((c.toNat : Int) = 127) || decide (0 ≤ Lib.indexByte [60, 62, 91, 93, 123, 125, 124, 35, 95] c)
/-- Only bytes that names may have, and no two blanks one behind the other; p: is there a blank ahead? -/
def cleanB : Bool → List UInt8 → Bool
  | _, [] => true
  | p, c :: r => !badB c && !(p && c.toNat == 32) && cleanB (c.toNat == 32) r
/-- A piece of a name. -/
def pieceOK (p : List UInt8) : Bool := !decide (p = []) && !decide (((p.getD 0 0).toNat : Int) = 32) && !decide (((p.getD ((p.length : Int) - 1).toNat 0).toNat : Int) = 32)
/-- The first byte is neither ":" nor a small letter. -/
def headOK (s : List UInt8) : Bool := !decide (((s.getD 0 0).toNat : Int) = 58) && !(decide (97 ≤ ((s.getD 0 0).toNat : Int)) && decide (((s.getD 0 0).toNat : Int) ≤ 122))
def validT (sp : Int) (s : List UInt8) : Bool :=
  !decide (sp < 0) && !decide (6 ≤ sp) && !decide ((s.length : Int) < 1) && !decide (100 < (s.length : Int)) && cleanB false s && (splitOn 47 s).all pieceOK && headOK s && (!decide (sp = 0) || !decide (colonNo s ≠ 0))
/-- One byte behind a text with single blanks. -/
def stepB (out : List UInt8) (c : UInt8) : List UInt8 :=
  if (!decide ((c.toNat : Int) = 32) || (decide (0 < (out.length : Int)) && !decide (((out.getD ((out.length : Int) - 1).toNat 0).toNat : Int) = 32))) = true then out ++ [c] else out
def outB (s : List UInt8) (i : Nat) : List UInt8 := (s.take i).foldl stepB []
theorem outB_succ {s : List UInt8} {i : Nat} (h : i < s.length) : outB s (i + 1) = stepB (outB s i) (s.getD i 0) := by
  unfold outB
  rw [List.take_succ_eq_append_getElem h, List.foldl_append]
  simp [h]
theorem outB_all (s : List UInt8) : outB s s.length = s.foldl stepB [] := by simp [outB]
theorem stepB_le (out : List UInt8) (c : UInt8) : (stepB out c).length ≤ out.length + 1 := by unfold stepB; split <;> simp
theorem outB_le {s : List UInt8} : ∀ {i : Nat}, i ≤ s.length → (outB s i).length ≤ i
  | 0, _ => by simp [outB]
  | i + 1, h => by
    have := outB_le (s := s) (i := i) (by omega)
    rw [outB_succ (by omega)]
    exact Nat.le_trans (stepB_le _ _) (by omega)
/-- Without blanks at both ends, and with one blank for each sequence of blanks. -/
def singleB (s : List UInt8) : List UInt8 := Lib.trimSuffix (s.foldl stepB []) [32]
/-- Piece i of n, without the blanks next to a "/". -/
def slP (n i : Nat) (p : List UInt8) : List UInt8 :=
  if (i : Int) < (n : Int) - 1 then Lib.trimRightB (if 0 < (i : Int) then Lib.trimLeftB p 32 else p) 32 else (if 0 < (i : Int) then Lib.trimLeftB p 32 else p)
def slashPieces (s : List UInt8) : List (List UInt8) := (splitOn 47 s).mapIdx fun i p => slP (splitOn 47 s).length i p
/-- Without the blanks directly before and after each "/". -/
def slashesB (s : List UInt8) : List UInt8 := joinOn 47 (slashPieces s)
theorem dropWhile_le {p : UInt8 → Bool} : ∀ l : List UInt8, (l.dropWhile p).length ≤ l.length
  | [] => by simp
  | x :: r => by
    have := dropWhile_le (p := p) r
    simp only [List.dropWhile_cons]; split <;> simp; omega
theorem trimLeftB_le (l : List UInt8) (c : UInt8) : (Lib.trimLeftB l c).length ≤ l.length := dropWhile_le l
theorem trimRightB_le (l : List UInt8) (c : UInt8) : (Lib.trimRightB l c).length ≤ l.length := by
  have := dropWhile_le (p := (· == c)) l.reverse
  simpa [Lib.trimRightB] using this
theorem slP_le (n i : Nat) (p : List UInt8) : (slP n i p).length ≤ p.length := by
  have h1 := trimLeftB_le p 32
  unfold slP
  split
  · split
    · exact Nat.le_trans (trimRightB_le _ _) h1
    · exact trimRightB_le _ _
  · split
    · exact h1
    · exact Nat.le_refl _
theorem slashPieces_len (s : List UInt8) : (slashPieces s).length = (splitOn 47 s).length := by simp [slashPieces]
theorem slashPieces_get (s : List UInt8) {i : Nat} (h : i < (slashPieces s).length) (h' : i < (splitOn 47 s).length) : (slashPieces s)[i] = slP (splitOn 47 s).length i (splitOn 47 s)[i] := by simp [slashPieces]
theorem slashesB_short (s : List UInt8) : (slashesB s).length ≤ s.length := by
  have h := joinOn_le 47 (slashPieces s) (splitOn 47 s) (slashPieces_len s) (fun i h h' => by rw [slashPieces_get s h h']; exact slP_le _ _ _)
  rwa [join_splitOn] at h
theorem trimSuffix_le (s p : List UInt8) : (Lib.trimSuffix s p).length ≤ s.length := by
  unfold Lib.trimSuffix; split
  · simp
  · exact Nat.le_refl _
theorem trimPrefix_le (s p : List UInt8) : (Lib.trimPrefix s p).length ≤ s.length := by
  unfold Lib.trimPrefix; split
  · simp
  · exact Nat.le_refl _
theorem cutAt_len1 (c : UInt8) : ∀ s : List UInt8, (cutAt c s).1.length ≤ s.length
  | [] => by simp [cutAt]
  | x :: r => by
    have := cutAt_len1 c r
    simp only [cutAt]; split <;> simp; omega
theorem cutAt_len2 (c : UInt8) : ∀ s : List UInt8, (cutAt c s).2.1.length ≤ s.length
  | [] => by simp [cutAt]
  | x :: r => by
    have := cutAt_len2 c r
    simp only [cutAt]; split <;> simp; omega
theorem behind_le (s : List UInt8) : (behind s).length ≤ s.length := cutAt_len2 58 s
theorem singleB_le (s : List UInt8) : (singleB s).length ≤ s.length := by
  have h := outB_le (s := s) (Nat.le_refl _)
  rw [outB_all] at h
  exact Nat.le_trans (trimSuffix_le _ _) h
/-- Each "_" as a blank. -/
def usc (s : List UInt8) : List UInt8 := s.map fun x => if x = 95 then 32 else x
/-- Without a ":" ahead. -/
def noColon (t : List UInt8) : List UInt8 := if ([58] : List UInt8).isPrefixOf t = true then Lib.trimPrefix (t.drop 1) [32] else t
/-- Without the name of a namespace ahead. -/
def noSpace (t : List UInt8) : List UInt8 := if decide (colonNo t ≠ 0) = true then Lib.trimPrefix (behind t) [32] else t
/-- With a large letter first. -/
def upB (t : List UInt8) : List UInt8 := if (!decide (t = []) && decide (97 ≤ ((t.getD 0 0).toNat : Int)) && decide (((t.getD 0 0).toNat : Int) ≤ 122)) = true then [t.getD 0 0 - 32] ++ t.drop 1 else t
def spaceP (s : List UInt8) : Nat := colonNo (noColon (singleB (usc s)))
def nameP (s : List UInt8) : List UInt8 := upB (slashesB (noSpace (noColon (singleB (usc s)))))
/-- The namespace, the name and the error that a text gives. -/
def parseT (s : List UInt8) : Int × List UInt8 × Int :=
  if decide (100 < ((nameP s).length : Int)) = true then (0, [], 3) else if validT (spaceP s) (nameP s) = true then (spaceP s, nameP s, 0) else (0, [], 1)
theorem upB_len (t : List UInt8) : (upB t).length = t.length := by
  unfold upB; split
  · rename_i h
    cases t with
    | nil => simp at h
    | cons a r => simp
  · rfl
theorem noColon_le (t : List UInt8) : (noColon t).length ≤ t.length := by
  unfold noColon; split
  · exact Nat.le_trans (trimPrefix_le _ _) (by simp)
  · exact Nat.le_refl _
theorem noSpace_le (t : List UInt8) : (noSpace t).length ≤ t.length := by
  unfold noSpace; split
  · exact Nat.le_trans (trimPrefix_le _ _) (behind_le _)
  · exact Nat.le_refl _
theorem nameP_le (s : List UInt8) : (nameP s).length ≤ s.length := by
  unfold nameP
  rw [upB_len]
  have h : (usc s).length = s.length := by simp [usc]
  exact Nat.le_trans (slashesB_short _) (Nat.le_trans (noSpace_le _) (Nat.le_trans (noColon_le _) (Nat.le_trans (singleB_le _) (by omega))))
theorem validT_bounds {sp : Int} {s : List UInt8} (h : validT sp s = true) : 0 ≤ sp ∧ sp < 6 ∧ 1 ≤ s.length ∧ s.length ≤ 100 := by
  unfold validT at h
  simp only [Bool.and_eq_true, Bool.not_eq_true', decide_eq_false_iff_not] at h
  omega
/-- The text of a valid title. -/
def formatT (sp : Int) (s : List UInt8) : List UInt8 := if validT sp s = true then (if sp = 0 then s else spName sp.toNat ++ [58] ++ s) else []
theorem spName_le (n : Nat) : (spName n).length ≤ 8 := by unfold spName; split <;> decide
theorem formatT_le (sp : Int) (s : List UInt8) : (formatT sp s).length ≤ 109 := by
  unfold formatT
  split
  · rename_i h
    have h1 := validT_bounds h
    have h2 := spName_le sp.toNat
    split <;> simp <;> omega
  · simp
/-- The order of titles. -/
def compareT (a : Int) (x : List UInt8) (b : Int) (y : List UInt8) : Int := if Lib.compareInt a b ≠ 0 then Lib.compareInt a b else Lib.compareBytes x y
attribute [irreducible] validT nameP spaceP parseT formatT
end Go.X

/- This text holds plain facts on the order of lists of bytes, and on that of titles. -/
namespace Go.X
open Go.Lib
theorem cmpB_range : ∀ a b : List UInt8, compareBytes a b = -1 ∨ compareBytes a b = 0 ∨ compareBytes a b = 1
  | [], [] => by simp [compareBytes]
  | [], _ :: _ => by simp [compareBytes]
  | _ :: _, [] => by simp [compareBytes]
  | x :: a, y :: b => by
    have := cmpB_range a b
    simp only [compareBytes]
    split
    · simp
    · split
      · simp
      · exact this
theorem u8_lt {x y : UInt8} : x < y ↔ x.toNat < y.toNat := UInt8.lt_iff_toNat_lt
theorem u8_eq {x y : UInt8} : x = y ↔ x.toNat = y.toNat := ⟨fun h => by rw [h], UInt8.toNat_inj.1⟩
theorem less_cmp : ∀ a b : List UInt8, Op.bytesLess a b = true ↔ compareBytes a b = -1
  | [], [] => by simp [compareBytes, Op.bytesLess]
  | [], _ :: _ => by simp [compareBytes, Op.bytesLess]
  | _ :: _, [] => by simp [compareBytes, Op.bytesLess]
  | x :: a, y :: b => by
    have ih := less_cmp a b
    simp only [Op.bytesLess, compareBytes, Bool.or_eq_true, decide_eq_true_eq, Bool.and_eq_true, beq_iff_eq, ih, u8_lt, u8_eq]
    split
    · simp_all
    · split
      · constructor
        · rintro (h | ⟨h, _⟩) <;> omega
        · intro h; omega
      · constructor
        · rintro (h | ⟨_, h⟩)
          · omega
          · exact h
        · intro h; exact .inr ⟨by omega, h⟩
theorem cmpB_eq : ∀ a b : List UInt8, compareBytes a b = 0 ↔ a = b
  | [], [] => by simp [compareBytes]
  | [], _ :: _ => by simp [compareBytes]
  | _ :: _, [] => by simp [compareBytes]
  | x :: a, y :: b => by
    have ih := cmpB_eq a b
    simp only [compareBytes, List.cons.injEq, u8_lt, u8_eq]
    split
    · constructor
      · intro h; omega
      · rintro ⟨h, _⟩; omega
    · split
      · constructor
        · intro h; omega
        · rintro ⟨h, _⟩; omega
      · rw [ih]
        exact ⟨fun h => ⟨by omega, h⟩, fun h => h.2⟩
theorem cmpB_swap : ∀ a b : List UInt8, compareBytes a b = - compareBytes b a
  | [], [] => by simp [compareBytes]
  | [], _ :: _ => by simp [compareBytes]
  | _ :: _, [] => by simp [compareBytes]
  | x :: a, y :: b => by
    have ih := cmpB_swap a b
    simp only [compareBytes, u8_lt]
    split
    · rw [if_neg (by omega)]
    · split
      · rfl
      · exact ih
theorem cmpB_trans : ∀ a b c : List UInt8, compareBytes a b ≤ 0 → compareBytes b c ≤ 0 → compareBytes a c ≤ 0
  | [], [], _, _, h => h
  | [], _ :: _, [], _, h => by simp [compareBytes] at h
  | [], _ :: _, _ :: _, _, _ => by simp [compareBytes]
  | _ :: _, [], _, h, _ => by simp [compareBytes] at h
  | _ :: _, _ :: _, [], _, h => by simp [compareBytes] at h
  | x :: a, y :: b, z :: c, h1, h2 => by
    have ih := cmpB_trans a b c
    simp only [compareBytes, u8_lt] at *
    split at h1
    · split at h2
      · rw [if_pos (by omega)]; omega
      · split at h2
        · omega
        · rw [if_pos (by omega)]; omega
    · split at h1
      · omega
      · split at h2
        · rw [if_pos (by omega)]; omega
        · split at h2
          · omega
          · rw [if_neg (by omega), if_neg (by omega)]; exact ih h1 h2
theorem cmpI (a b : Int) : (a < b ∧ compareInt a b = -1) ∨ (a = b ∧ compareInt a b = 0) ∨ (b < a ∧ compareInt a b = 1) := by
  unfold compareInt
  rcases Int.lt_trichotomy a b with h | h | h
  · rw [if_pos h]; exact .inl ⟨h, rfl⟩
  · rw [if_neg (by omega), if_neg (by omega)]; exact .inr (.inl ⟨h, rfl⟩)
  · rw [if_neg (by omega), if_pos h]; exact .inr (.inr ⟨h, rfl⟩)
theorem compareT_eq (a : Int) (x : List UInt8) (b : Int) (y : List UInt8) : compareT a x b y = 0 ↔ a = b ∧ x = y := by
  have h := cmpB_eq x y
  unfold compareT
  rcases cmpI a b with ⟨h0, h1⟩ | ⟨h0, h1⟩ | ⟨h0, h1⟩ <;> rw [h1] <;> simp
  · omega
  · rw [h]; exact ⟨fun e => ⟨h0, e⟩, fun e => e.2⟩
  · omega
theorem compareT_swap (a : Int) (x : List UInt8) (b : Int) (y : List UInt8) : compareT a x b y = - compareT b y a x := by
  have h := cmpB_swap x y
  unfold compareT
  rcases cmpI a b with ⟨h0, h1⟩ | ⟨h0, h1⟩ | ⟨h0, h1⟩ <;> rcases cmpI b a with ⟨h2, h3⟩ | ⟨h2, h3⟩ | ⟨h2, h3⟩ <;> rw [h1, h3] <;> simp <;> first | omega | exact h
theorem compareT_trans {a : Int} {x : List UInt8} {b : Int} {y : List UInt8} {c : Int} {z : List UInt8} (h1 : compareT a x b y ≤ 0) (h2 : compareT b y c z ≤ 0) : compareT a x c z ≤ 0 := by
  have h := cmpB_trans x y z
  unfold compareT at *
  rcases cmpI a b with ⟨p0, p1⟩ | ⟨p0, p1⟩ | ⟨p0, p1⟩ <;> rcases cmpI b c with ⟨q0, q1⟩ | ⟨q0, q1⟩ | ⟨q0, q1⟩ <;> rcases cmpI a c with ⟨r0, r1⟩ | ⟨r0, r1⟩ | ⟨r0, r1⟩ <;> rw [p1] at h1 <;> rw [q1] at h2 <;> rw [r1] <;> simp at * <;> first | omega | exact h h1 h2 | skip
end Go.X

/- This text holds the rows and hits of the search as plain data, and their orders. -/
namespace Go.X
open Go Go.Lib
/-- A row of the table of words. -/
structure WR where
  w : List UInt8
  sp : Int
  nm : List UInt8
  n : Int
  deriving DecidableEq
/-- A hit. -/
structure HT where
  sp : Int
  nm : List UInt8
  n : Int
  deriving DecidableEq
def WR.cells (x : WR) : List C := [.s x.w, .i .i64 x.sp, .s x.nm, .i .i64 x.n]
def HT.cells (x : HT) : List C := [.i .i64 x.sp, .s x.nm, .i .i64 x.n]
def wrC (l : List WR) : List C := l.flatMap WR.cells
def htC (l : List HT) : List C := l.flatMap HT.cells
def cmpWR (x y : WR) : Int := if Lib.compareBytes x.w y.w ≠ 0 then Lib.compareBytes x.w y.w else if compareT x.sp x.nm y.sp y.nm ≠ 0 then compareT x.sp x.nm y.sp y.nm else Lib.compareInt x.n y.n
def cmpHT (x y : HT) : Int := if Lib.compareInt y.n x.n ≠ 0 then Lib.compareInt y.n x.n else compareT x.sp x.nm y.sp y.nm
end Go.X

/- This text holds plain facts on orders that are put together of orders, and on sorted lists. -/
namespace Go.X
open Go Go.Lib Go.Proofs
/-- A total order, told by whole numbers. -/
structure Cmp {α : Type} (cf : α → α → Int) : Prop where
  swap : ∀ x y, cf x y = - cf y x
  trans : ∀ x y z, cf x y ≤ 0 → cf y z ≤ 0 → cf x z ≤ 0
def lexC {α : Type} (cf cg : α → α → Int) (x y : α) : Int := if cf x y ≠ 0 then cf x y else cg x y
theorem Cmp.lex {α : Type} {cf cg : α → α → Int} (hf : Cmp cf) (hg : Cmp cg) : Cmp (lexC cf cg) := by
  refine ⟨fun x y => ?_, fun x y z h1 h2 => ?_⟩
  · have := hf.swap x y
    have := hg.swap x y
    unfold lexC
    split <;> split <;> omega
  · unfold lexC at *
    have a1 := hf.swap x y; have a2 := hf.swap y z; have a3 := hf.swap x z
    have t1 := hf.trans x y z; have t2 := hf.trans z y x; have t3 := hf.trans y z x; have t4 := hf.trans z x y; have t5 := hf.trans x z y; have t6 := hf.trans y x z
    have g1 := hg.trans x y z
    split at h1 <;> split at h2 <;> split <;> omega
theorem Cmp.on {α β : Type} {cf : α → α → Int} (h : Cmp cf) (f : β → α) : Cmp fun x y => cf (f x) (f y) := ⟨fun x y => h.swap _ _, fun x y z => h.trans _ _ _⟩
theorem Cmp.flip {α : Type} {cf : α → α → Int} (h : Cmp cf) : Cmp fun x y => cf y x := ⟨fun x y => h.swap _ _, fun x y z h1 h2 => h.trans z y x h2 h1⟩
theorem cmp_int : Cmp Lib.compareInt := by
  refine ⟨fun x y => ?_, fun x y z h1 h2 => ?_⟩
  · unfold Lib.compareInt; split <;> split <;> omega
  · unfold Lib.compareInt at *
    split at h1 <;> split at h2 <;> split <;> first | omega | (split at h1 <;> split at h2 <;> split <;> omega) | (split <;> omega) | (split at h1 <;> split <;> omega) | (split at h2 <;> split <;> omega)
theorem cmp_title : Cmp fun x y : Int × List UInt8 => compareT x.1 x.2 y.1 y.2 := ⟨fun x y => compareT_swap _ _ _ _, fun x y z => compareT_trans⟩
theorem Cmp.swo {α : Type} {cf : α → α → Int} (h : Cmp cf) : Sort.SWO (ltOf cf) where
  irrefl x := by have := h.swap x x; unfold ltOf; rw [decide_eq_false_iff_not]; omega
  trans x y z h1 h2 := by
    unfold ltOf at *
    rw [decide_eq_true_eq] at *
    have a1 := h.swap x z; have a2 := h.swap y z; have a3 := h.swap x y
    have t1 := h.trans x y z (by omega) (by omega)
    have t2 := h.trans z x y
    omega
  ntrans x y z h1 h2 := by
    unfold ltOf at *
    rw [decide_eq_false_iff_not] at *
    have a1 := h.swap x z; have a2 := h.swap y z; have a3 := h.swap x y
    have t1 := h.trans z y x (by omega) (by omega)
    omega
/-- A list in order. -/
def OrdL {α : Type} (cf : α → α → Int) (l : List α) : Prop := l.Pairwise fun x y => cf x y ≤ 0
theorem ordL_of {α : Type} {cf : α → α → Int} (h : Cmp cf) {l : List α} (hl : l.Pairwise fun x y => ltOf cf y x = false) : OrdL cf l := hl.imp fun {x y} hxy => by
  have := h.swap x y
  unfold ltOf at hxy
  rw [decide_eq_false_iff_not] at hxy
  omega
theorem Cmp.refl {α : Type} {cf : α → α → Int} (h : Cmp cf) (x : α) : cf x x = 0 := by have := h.swap x x; omega
/-- Two lists in order that are permutations are one. -/
theorem ordL_eq {α : Type} {cf : α → α → Int} (h : Cmp cf) (he : ∀ x y, cf x y = 0 → x = y) : ∀ {l l' : List α}, OrdL cf l → OrdL cf l' → l.Perm l' → l = l'
  | [], l', _, _, hp => by rw [List.nil_perm.1 hp]
  | x :: r, [], _, _, hp => by have := hp.length_eq; simp at this
  | x :: r, y :: s, h1, h2, hp => by
    have h1' := List.pairwise_cons.1 h1
    have h2' := List.pairwise_cons.1 h2
    have hxy : x = y := by
      have a := hp.subset (List.mem_cons_self (a := x) (l := r))
      have b := hp.symm.subset (List.mem_cons_self (a := y) (l := s))
      rcases List.mem_cons.1 a with a | a
      · exact a
      rcases List.mem_cons.1 b with b | b
      · exact b.symm
      have c1 := h2'.1 x a
      have c2 := h1'.1 y b
      have := h.swap x y
      exact he x y (by omega)
    subst hxy
    rw [ordL_eq h he h1'.2 h2'.2 (List.Perm.cons_inv hp)]
end Go.X

/- This text walks through the functions by which rows and hits are compared, in any mode of the executor: in the strict one, what they leave of the world is known to the letter. -/
namespace Go.Y
open Go Go.X Go.Lib Go.Proofs
set_option maxRecDepth 100000
set_option maxHeartbeats 4000000
variable [Sm : Inhabited Manner]
/-- A strict contract tells the world to the letter: it has grown. -/
theorem exact_of {P : Program} {f : FuncId} {args : List V} {v : V} (hS : Sm.default = .strict) (h : FnS P f args [] [] (Is v)) (W : World) : Calls P f (args.map V.enc).toArray W fun e w' => e = .returned v.enc ∧ ∃ q os', w' = Sort.grow (W.drewN q) os' := by
  refine (h.run W (fun _ => none) ⟨List.nodup_nil, trivial, fun b o hb => (by cases hb), trivial⟩).mono ?_
  rintro e w' ⟨v', L', D', m', he, ⟨rfl, rfl, rfl⟩, _, hfr⟩
  refine ⟨he, w'.drawn - W.drawn, w'.heap.extract W.heap.size w'.heap.size, ?_⟩
  have hk := hfr.kept
  have hheap : w'.heap = W.heap ++ w'.heap.extract W.heap.size w'.heap.size := by
    apply Array.ext_getElem?
    intro b
    rw [Array.getElem?_append]
    split
    · rename_i hb
      exact hfr.same b hb (by simp [fps])
    · rename_i hb
      rw [Array.getElem?_extract]
      have := hfr.size
      by_cases hb2 : b < w'.heap.size
      · rw [if_pos (by omega), show W.heap.size + (b - W.heap.size) = b by omega]
      · rw [if_neg (by omega), Array.getElem?_eq_none (by omega)]
  have hd : w'.drawn = W.drawn + (w'.drawn - W.drawn) := by have := hk.drawn hS; omega
  obtain ⟨h1, h2, h3, h4, h5⟩ := w'
  obtain ⟨g1, g2, g3, g4, g5⟩ := W
  have e1 := hk.os; have e2 := hk.out; have e3 := hk.tape hS
  dsimp only at *
  subst e1 e2 e3
  simp only [Sort.grow, World.drewN]
  rw [← hheap, ← hd]
theorem stringsCompare_ok (a b : List UInt8) : FnS Tryz.prog 91 [.c (.s a), .c (.s b)] [] [] (Is (.c (.i .i64 (Lib.compareBytes a b)))) :=
  fn_pure ⟨_, Tryz.func91, by kernel_rfl, by kernel_rfl⟩ (Tryz.strings_Compare ⟨⟨a⟩⟩ ⟨⟨b⟩⟩)
theorem isNaN_ok (a : Int) : FnS Tryz.prog 90 [.c (.i .i64 a)] [] [] (Is ff) := by
  refine fn_of_J Tryz.tyOK 0 Tryz.func90 (by kernel_rfl) (c := Tryz.f90.body.getD .skip) (by kernel_rfl) Tryz.ntmps90 (rs := Tryz.f90.results.toList) rfl (by simp) (fun G => ?_)
  repeat' first | refine J_seq ?_ | refine J_region Tryz.tyOK ?_ | refine J_block ?_ | refine J_cond ?_ | refine J_ret ?_ | refine J_skip ?_ | refine J_exit ?_ | refine J_scope ?_ | refine CondP.y ?_ | refine CondP.n ?_ | refine CondP.mk (fun h => ?_) (fun h => ?_) | refine EqP.mk rfl ?_ | refine NewP.mk (fun ad => ?_) | refine ArP.x ?_ | refine SideP.a ?_ | refine FinE.is rfl | fail
theorem compareInt_ok (a b : Int) : FnS Tryz.prog 52 [.c (.i .i64 a), .c (.i .i64 b)] [] [] (Is (.c (.i .i64 (Lib.compareInt a b)))) := by
  have hq : ∃ q, Lib.compareInt a b = q := ⟨_, rfl⟩
  obtain ⟨q, hq⟩ := hq
  rw [hq]
  unfold Lib.compareInt at hq
  refine fn_of_J Tryz.tyOK 0 Tryz.func52 (by kernel_rfl) (c := Tryz.f52.body.getD .skip) (by kernel_rfl) Tryz.ntmps52 (rs := Tryz.f52.results.toList) rfl (by simp) (fun G => ?_)
  repeat' first | refine J_seq ?_ | refine J_region Tryz.tyOK ?_ | refine J_block ?_ | refine J_cond ?_ | refine J_ret ?_ | refine J_skip ?_ | refine J_exit ?_ | refine J_scope ?_ | refine CondP.y ?_ | refine CondP.n ?_ | refine CondP.mk (fun h => ?_) (fun h => ?_) | refine EqP.mk rfl ?_ | refine NewP.mk (fun ad => ?_) | refine ArP.x ?_ | refine SideP.a ?_ | refine CallP.is (isNaN_ok a) ?_ | refine CallP.is (isNaN_ok b) ?_ | refine FinE.int ?_ | fail
  all_goals (split at hq <;> first | omega | (split at hq <;> omega))
theorem or_ok (a : Option Addr) (c : Nat) (x y : Int) : FnS Tryz.prog 51 [.c (.sl a 2 c)] [.row 3 1 a 2 c [.i .i64 x, .i .i64 y]] [] (Is (.c (.i .i64 (if x ≠ 0 then x else y)))) := by
  have hrd : Reads [.row 3 1 a 2 c [.i .i64 x, .i .i64 y]] [] 3 1 a 2 [.i .i64 x, .i .i64 y] := .inl ⟨c, List.Mem.head _⟩
  refine fn_of_J Tryz.tyOK 0 Tryz.func51 (by kernel_rfl) (c := Tryz.f51.body.getD .skip) (by kernel_rfl) Tryz.ntmps51 (rs := Tryz.f51.results.toList) rfl (by simp) (fun G => ?_)
  repeat' first | refine J_seq ?_ | refine J_region Tryz.tyOK ?_ | refine J_block ?_ | refine J_cond ?_ | refine J_ret ?_ | refine J_skip ?_ | refine J_exit ?_ | refine J_scope ?_ | refine CondP.y ?_ | refine CondP.n ?_ | refine CondP.mk (fun h => ?_) (fun h => ?_) | refine EqP.mk rfl ?_ | refine NewP.mk (fun ad => ?_) | refine ArP.x ?_ | refine SideP.a ?_ | refine J_rounds 3 ?_ | refine JR_succ ?_ | refine IdxE.mk 3 1 _ hrd (by omega) (by omega) ?_ | refine LoadE.mk 3 _ _ _ hrd (by omega) (by omega) (by omega) rfl ?_ | refine FinE.int ?_ | fail
  all_goals simp [*]
theorem or3_ok (a : Option Addr) (c : Nat) (x y z : Int) : FnS Tryz.prog 51 [.c (.sl a 3 c)] [.row 3 1 a 3 c [.i .i64 x, .i .i64 y, .i .i64 z]] [] (Is (.c (.i .i64 (if x ≠ 0 then x else if y ≠ 0 then y else z)))) := by
  have hrd : Reads [.row 3 1 a 3 c [.i .i64 x, .i .i64 y, .i .i64 z]] [] 3 1 a 3 [.i .i64 x, .i .i64 y, .i .i64 z] := .inl ⟨c, List.Mem.head _⟩
  refine fn_of_J Tryz.tyOK 0 Tryz.func51 (by kernel_rfl) (c := Tryz.f51.body.getD .skip) (by kernel_rfl) Tryz.ntmps51 (rs := Tryz.f51.results.toList) rfl (by simp) (fun G => ?_)
  repeat' first | refine J_seq ?_ | refine J_region Tryz.tyOK ?_ | refine J_block ?_ | refine J_cond ?_ | refine J_ret ?_ | refine J_skip ?_ | refine J_exit ?_ | refine J_scope ?_ | refine CondP.y ?_ | refine CondP.n ?_ | refine CondP.mk (fun h => ?_) (fun h => ?_) | refine EqP.mk rfl ?_ | refine NewP.mk (fun ad => ?_) | refine ArP.x ?_ | refine SideP.a ?_ | refine J_rounds 4 ?_ | refine JR_succ ?_ | refine IdxE.mk 3 1 _ hrd (by omega) (by omega) ?_ | refine LoadE.mk 3 _ _ _ hrd (by omega) (by omega) (by omega) rfl ?_ | refine FinE.int ?_ | fail
  all_goals simp [*]
theorem compare_ok (a : Int) (x : List UInt8) (b : Int) (y : List UInt8) : FnS Tryz.prog 53 [.agg [.i .i64 a, .s x], .agg [.i .i64 b, .s y]] [] [] (Is (.c (.i .i64 (Go.X.compareT a x b y)))) := by
  refine fn_of_J Tryz.tyOK 0 Tryz.func53 (by kernel_rfl) (c := Tryz.f53.body.getD .skip) (by kernel_rfl) Tryz.ntmps53 (rs := Tryz.f53.results.toList) rfl (by simp) (fun G => ?_)
  repeat' first | refine J_seq ?_ | refine J_region Tryz.tyOK ?_ | refine J_block ?_ | refine J_cond ?_ | refine J_ret ?_ | refine J_skip ?_ | refine J_exit ?_ | refine J_scope ?_ | refine CondP.y ?_ | refine CondP.n ?_ | refine CondP.mk (fun h => ?_) (fun h => ?_) | refine EqP.mk rfl ?_ | refine NewP.mk (fun ad => ?_) | refine ArP.x ?_ | refine SideP.a ?_ | refine J_draw Tryz.tyOK (by kernel_rfl) [0, 1, 2, 3, 4, 5, 6, 7, 8, 9, 10, 11, 12] [10, 11] _ _ (by kernel_rfl) (Ents.refl _ _) ?_ | refine CallQ.mk [] _ (compareInt_ok a b) (fun _ _ => trivial) ?_ | refine CallQ.mk [] _ (stringsCompare_ok x y) (fun _ _ => trivial) ?_ | refine CallP.mk [_] _ [] _ (or_ok _ _ _ _) (List.Perm.refl _) (fun _ h => h) (fun v L' D' hp => ?_); obtain ⟨rfl, rfl, rfl⟩ := hp | refine EntP.mk (Ents.refl _ _) ?_ | refine EntP.mk Ents.drop ?_ | refine FinE.int ?_ | fail
  rfl
theorem compareRows_ok (x y : Go.X.WR) : FnS Tryz.prog 93 [.agg [.s x.w, .i .i64 x.sp, .s x.nm, .i .i64 x.n], .agg [.s y.w, .i .i64 y.sp, .s y.nm, .i .i64 y.n]] [] [] (Is (.c (.i .i64 (Go.X.cmpWR x y)))) := by
  refine fn_of_J Tryz.tyOK 0 Tryz.func93 (by kernel_rfl) (c := Tryz.f93.body.getD .skip) (by kernel_rfl) Tryz.ntmps93 (rs := Tryz.f93.results.toList) rfl (by simp) (fun G => ?_)
  repeat' first | refine J_seq ?_ | refine J_region Tryz.tyOK ?_ | refine J_block ?_ | refine J_cond ?_ | refine J_ret ?_ | refine J_skip ?_ | refine J_exit ?_ | refine J_scope ?_ | refine CondP.y ?_ | refine CondP.n ?_ | refine CondP.mk (fun h => ?_) (fun h => ?_) | refine EqP.mk rfl ?_ | refine NewP.mk (fun ad => ?_) | refine ArP.x ?_ | refine SideP.a ?_ | refine J_draw Tryz.tyOK (by kernel_rfl) [0, 1, 2, 3, 4, 5, 6, 7, 8, 9, 10, 11, 12, 13, 14, 15, 16, 17] [15, 16] _ _ (by kernel_rfl) (Ents.refl _ _) ?_ | refine CallQ.mk [] _ (compareInt_ok x.n y.n) (fun _ _ => trivial) ?_ | refine CallQ.mk [] _ (stringsCompare_ok x.w y.w) (fun _ _ => trivial) ?_ | refine CallQ.mk [] _ (compare_ok x.sp x.nm y.sp y.nm) (fun _ _ => trivial) ?_ | refine CallP.mk [_] _ [] _ (or3_ok _ _ _ _ _) (List.Perm.refl _) (fun _ h => h) (fun v L' D' hp => ?_); obtain ⟨rfl, rfl, rfl⟩ := hp | refine EntP.mk (Ents.refl _ _) ?_ | refine EntP.mk Ents.drop ?_ | refine FinE.int ?_ | fail
  rfl
theorem findCmp_ok (x y : Go.X.HT) : FnS Tryz.prog 50 [.agg [.i .i64 x.sp, .s x.nm, .i .i64 x.n], .agg [.i .i64 y.sp, .s y.nm, .i .i64 y.n]] [] [] (Is (.c (.i .i64 (Go.X.cmpHT x y)))) := by
  refine fn_of_J Tryz.tyOK 0 Tryz.func50 (by kernel_rfl) (c := Tryz.f50.body.getD .skip) (by kernel_rfl) Tryz.ntmps50 (rs := Tryz.f50.results.toList) rfl (by simp) (fun G => ?_)
  repeat' first | refine J_seq ?_ | refine J_region Tryz.tyOK ?_ | refine J_block ?_ | refine J_cond ?_ | refine J_ret ?_ | refine J_skip ?_ | refine J_exit ?_ | refine J_scope ?_ | refine CondP.y ?_ | refine CondP.n ?_ | refine CondP.mk (fun h => ?_) (fun h => ?_) | refine EqP.mk rfl ?_ | refine NewP.mk (fun ad => ?_) | refine ArP.x ?_ | refine SideP.a ?_ | refine J_draw Tryz.tyOK (by kernel_rfl) [0, 1, 2, 3, 4, 5, 6, 7, 8, 9, 10, 11, 12] [10, 11] _ _ (by kernel_rfl) (Ents.refl _ _) ?_ | refine CallQ.mk [] _ (compareInt_ok y.n x.n) (fun _ _ => trivial) ?_ | refine CallQ.mk [] _ (compare_ok x.sp x.nm y.sp y.nm) (fun _ _ => trivial) ?_ | refine CallP.mk [_] _ [] _ (or_ok _ _ _ _) (List.Perm.refl _) (fun _ h => h) (fun v L' D' hp => ?_); obtain ⟨rfl, rfl, rfl⟩ := hp | refine EntP.mk (Ents.refl _ _) ?_ | refine EntP.mk Ents.drop ?_ | refine FinE.int ?_ | fail
  rfl
end Go.Y

/- This text gives the contract of slices.SortFunc at rows of words and at hits. -/
namespace Go.X
open Go Go.Lib Go.Proofs
instance : Inhabited WR := ⟨⟨[], 0, [], 0⟩⟩
instance : Inhabited HT := ⟨⟨0, [], 0⟩⟩
theorem cmp_bytes : Cmp Lib.compareBytes := ⟨cmpB_swap, cmpB_trans⟩
theorem cmp_WR : Cmp cmpWR := ((cmp_bytes.on WR.w).lex ((cmp_title.on fun x : WR => (x.sp, x.nm)).lex (cmp_int.on WR.n)))
theorem cmp_HT : Cmp cmpHT := (((cmp_int.on HT.n).flip).lex (cmp_title.on fun x : HT => (x.sp, x.nm)))
end Go.X
namespace Go.Proofs
open Go Go.X
set_option maxRecDepth 100000
set_option maxHeartbeats 4000000
theorem bitsLen0_ok : FnS Tryz.prog 88 [.c (.i .u64 0)] [] [] (Is (.c (.i .i64 0))) :=
  fn_pure ⟨_, Tryz.func88, by kernel_rfl, by kernel_rfl⟩ (fun w => Tryz.bits_Len 0 w (by omega) (by omega))
theorem insRow0 (g : Nat) : FnS Tryz.prog 173 [.c (.sl none 0 0), .c (.i .i64 0), .c (.i .i64 0), .c (.fn g [])] [] [] (Is .t0) := by
  refine fn_of_J Tryz.tyOK 0 Tryz.func173 (by kernel_rfl) (c := Tryz.f173.body.getD .skip) (by kernel_rfl) Tryz.ntmps173 (rs := Tryz.f173.results.toList) rfl (by simp) (fun G => ?_)
  repeat' first | refine J_seq ?_ | refine J_region Tryz.tyOK ?_ | refine J_block ?_ | refine J_cond ?_ | refine J_ret ?_ | refine J_skip ?_ | refine J_exit ?_ | refine J_scope ?_ | refine CondP.y ?_ | refine CondP.n ?_ | refine CondP.mk (fun h => ?_) (fun h => ?_) | refine EqP.mk rfl ?_ | refine NewP.mk (fun ad => ?_) | refine ArP.x ?_ | refine SideP.a ?_ | refine J_rounds 1 ?_ | refine JR_succ ?_ | refine FinE.is rfl | fail
theorem pdqRow0 (g : Nat) : FnS Tryz.prog 139 [.c (.sl none 0 0), .c (.i .i64 0), .c (.i .i64 0), .c (.i .i64 0), .c (.fn g [])] [] [] (Is .t0) := by
  refine fn_of_J Tryz.tyOK 0 Tryz.func139 (by kernel_rfl) (c := Tryz.f139.body.getD .skip) (by kernel_rfl) Tryz.ntmps139 (rs := Tryz.f139.results.toList) rfl (by simp) (fun G => ?_)
  repeat' first | refine J_seq ?_ | refine J_region Tryz.tyOK ?_ | refine J_block ?_ | refine J_cond ?_ | refine J_ret ?_ | refine J_skip ?_ | refine J_exit ?_ | refine J_scope ?_ | refine CondP.y ?_ | refine CondP.n ?_ | refine CondP.mk (fun h => ?_) (fun h => ?_) | refine EqP.mk rfl ?_ | refine NewP.mk (fun ad => ?_) | refine ArP.x ?_ | refine SideP.a ?_ | refine J_rounds 1 ?_ | refine JR_succ ?_ | refine CallP.is (insRow0 g) ?_ | refine FinE.is rfl | fail
theorem sortRow0 (g : Nat) : FnS Tryz.prog 92 [.c (.sl none 0 0), .c (.fn g [])] [] [] (Is .t0) := by
  refine fn_of_J Tryz.tyOK 0 Tryz.func92 (by kernel_rfl) (c := Tryz.f92.body.getD .skip) (by kernel_rfl) Tryz.ntmps92 (rs := Tryz.f92.results.toList) rfl (by simp) (fun G => ?_)
  repeat' first | refine J_seq ?_ | refine J_region Tryz.tyOK ?_ | refine J_block ?_ | refine J_cond ?_ | refine J_ret ?_ | refine J_skip ?_ | refine J_exit ?_ | refine J_scope ?_ | refine CondP.y ?_ | refine CondP.n ?_ | refine CondP.mk (fun h => ?_) (fun h => ?_) | refine EqP.mk rfl ?_ | refine NewP.mk (fun ad => ?_) | refine ArP.x ?_ | refine SideP.a ?_ | refine CallP.is (pdqRow0 g) ?_ | refine CallP.is bitsLen0_ok ?_ | refine FinE.is rfl | fail
theorem sortRows_ok (a : Option Addr) (c : Nat) (l : List WR) (hl : l.length < 4611686018427387904) :
    FnS Tryz.prog 92 [.c (.sl a l.length c), .c (.fn 93 [])] [.row 60 4 a l.length c (wrC l)] []
      (fun v L D => ∃ l' : List WR, l'.Perm l ∧ l'.Pairwise (fun x y => ltOf cmpWR y x = false) ∧ v = .t0 ∧ L = [.row 60 4 a l.length c (wrC l')] ∧ D = []) :=
  fn_sort (F := WR.cells) (lt := ltOf cmpWR) (fun _ => rfl) (fun x y hy => by simp [WR.cells] at hy; rcases hy with rfl | rfl | rfl | rfl <;> rfl) (sortRow0 _)
    (fun blk cap d w hH hblk hsz => AnyQ.slices_SortFunc Tryz.sortF_WordRow 4 Tryz.isAgg60 Tryz.sizeOf60 (encF WR.cells) (fun _ => rfl) (fun x v hv => by simp [encF, WR.cells] at hv; rcases hv with rfl | rfl | rfl | rfl <;> rfl) cmpWR cmp_WR.swo 93 #[] blk 0 cap d w
      (enters_of Tryz.func93 (by kernel_rfl) rfl) (fun m os dk hs x y => Go.Y.exact_of (Sm := ⟨Manner.strict⟩) rfl (Go.Y.compareRows_ok (Sm := ⟨Manner.strict⟩) x y) _) hH hblk hsz) a c l hl
theorem insHit0 (g : Nat) : FnS Tryz.prog 130 [.c (.sl none 0 0), .c (.i .i64 0), .c (.i .i64 0), .c (.fn g [])] [] [] (Is .t0) := by
  refine fn_of_J Tryz.tyOK 0 Tryz.func130 (by kernel_rfl) (c := Tryz.f130.body.getD .skip) (by kernel_rfl) Tryz.ntmps130 (rs := Tryz.f130.results.toList) rfl (by simp) (fun G => ?_)
  repeat' first | refine J_seq ?_ | refine J_region Tryz.tyOK ?_ | refine J_block ?_ | refine J_cond ?_ | refine J_ret ?_ | refine J_skip ?_ | refine J_exit ?_ | refine J_scope ?_ | refine CondP.y ?_ | refine CondP.n ?_ | refine CondP.mk (fun h => ?_) (fun h => ?_) | refine EqP.mk rfl ?_ | refine NewP.mk (fun ad => ?_) | refine ArP.x ?_ | refine SideP.a ?_ | refine J_rounds 1 ?_ | refine JR_succ ?_ | refine FinE.is rfl | fail
theorem pdqHit0 (g : Nat) : FnS Tryz.prog 89 [.c (.sl none 0 0), .c (.i .i64 0), .c (.i .i64 0), .c (.i .i64 0), .c (.fn g [])] [] [] (Is .t0) := by
  refine fn_of_J Tryz.tyOK 0 Tryz.func89 (by kernel_rfl) (c := Tryz.f89.body.getD .skip) (by kernel_rfl) Tryz.ntmps89 (rs := Tryz.f89.results.toList) rfl (by simp) (fun G => ?_)
  repeat' first | refine J_seq ?_ | refine J_region Tryz.tyOK ?_ | refine J_block ?_ | refine J_cond ?_ | refine J_ret ?_ | refine J_skip ?_ | refine J_exit ?_ | refine J_scope ?_ | refine CondP.y ?_ | refine CondP.n ?_ | refine CondP.mk (fun h => ?_) (fun h => ?_) | refine EqP.mk rfl ?_ | refine NewP.mk (fun ad => ?_) | refine ArP.x ?_ | refine SideP.a ?_ | refine J_rounds 1 ?_ | refine JR_succ ?_ | refine CallP.is (insHit0 g) ?_ | refine FinE.is rfl | fail
theorem sortHit0 (g : Nat) : FnS Tryz.prog 49 [.c (.sl none 0 0), .c (.fn g [])] [] [] (Is .t0) := by
  refine fn_of_J Tryz.tyOK 0 Tryz.func49 (by kernel_rfl) (c := Tryz.f49.body.getD .skip) (by kernel_rfl) Tryz.ntmps49 (rs := Tryz.f49.results.toList) rfl (by simp) (fun G => ?_)
  repeat' first | refine J_seq ?_ | refine J_region Tryz.tyOK ?_ | refine J_block ?_ | refine J_cond ?_ | refine J_ret ?_ | refine J_skip ?_ | refine J_exit ?_ | refine J_scope ?_ | refine CondP.y ?_ | refine CondP.n ?_ | refine CondP.mk (fun h => ?_) (fun h => ?_) | refine EqP.mk rfl ?_ | refine NewP.mk (fun ad => ?_) | refine ArP.x ?_ | refine SideP.a ?_ | refine CallP.is (pdqHit0 g) ?_ | refine CallP.is bitsLen0_ok ?_ | refine FinE.is rfl | fail
theorem sortHits_ok (a : Option Addr) (c : Nat) (l : List HT) (hl : l.length < 4611686018427387904) :
    FnS Tryz.prog 49 [.c (.sl a l.length c), .c (.fn 50 [])] [.row 52 3 a l.length c (htC l)] []
      (fun v L D => ∃ l' : List HT, l'.Perm l ∧ l'.Pairwise (fun x y => ltOf cmpHT y x = false) ∧ v = .t0 ∧ L = [.row 52 3 a l.length c (htC l')] ∧ D = []) :=
  fn_sort (F := HT.cells) (lt := ltOf cmpHT) (fun _ => rfl) (fun x y hy => by simp [HT.cells] at hy; rcases hy with rfl | rfl | rfl <;> rfl) (sortHit0 _)
    (fun blk cap d w hH hblk hsz => AnyQ.slices_SortFunc Tryz.sortF_Hit 3 Tryz.isAgg52 Tryz.sizeOf52 (encF HT.cells) (fun _ => rfl) (fun x v hv => by simp [encF, HT.cells] at hv; rcases hv with rfl | rfl | rfl <;> rfl) cmpHT cmp_HT.swo 50 #[] blk 0 cap d w
      (enters_of Tryz.func50 (by kernel_rfl) rfl) (fun m os dk hs x y => Go.Y.exact_of (Sm := ⟨Manner.strict⟩) rfl (Go.Y.findCmp_ok (Sm := ⟨Manner.strict⟩) x y) _) hH hblk hsz) a c l hl
end Go.Proofs

/- This text walks through Clone, IndexFunc, DeleteFunc and Compact of the package slices at rows of words. -/
namespace Go.X
open Go Go.Lib
theorem resl0 (a : Option Addr) (c z : Nat) : resl a 0 c z = a := by
  unfold resl
  split
  · rfl
  · cases a <;> simp [Addr.add]
/-- A row of which only the first elements are wanted. -/
theorem Ents.rowPre {e z : Nat} {a : Option Addr} {n c k : Nat} {cs : List C} {L : List Chunk} {D : List Fact} (hk : k ≤ n) : Ents (.row e z a n c cs :: L) D (.row e z a k c (cs.take (k * z)) :: L) D := fun G w hs => by
  obtain ⟨m, h1, h2⟩ := hs
  have hok : (Chunk.row e z a k c (cs.take (k * z))).ok w := by
    refine ⟨fun x hx => h1.ok.1.1 x (List.mem_of_mem_take hx), ?_⟩
    rcases h1.ok.1.2 with ⟨h3, h4, h5, h6⟩ | ⟨g, hg, cur, lo, hi, h3, h4, h5, h6, h7, h8, h9⟩
    · exact .inl ⟨h3, by omega, h5, by rw [h6]; simp⟩
    · have hle : k * z ≤ n * z := Nat.mul_le_mul_right _ hk
      refine .inr ⟨g, hg, cur, lo, hi, h3, by omega, h5, h6, h7, by rw [List.length_take, h8]; omega, ?_⟩
      rw [List.map_take, ← h9, List.take_take, Nat.min_eq_left hle]
  exact ⟨m, ⟨h1.nd, ⟨hok, h1.ok.2⟩, h1.im, h1.d⟩, ⟨h2.size, h2.same, h2.own, h2.im, h2.new, h2.kept⟩⟩
theorem wrC_len (l : List WR) : (wrC l).length = l.length * 4 := flat_len (F := WR.cells) (z := 4) (fun _ => rfl) l
theorem wr_get {l : List WR} {i : Nat} (h : i < l.length) : ((wrC l).drop (i * 4 + 0)).take 4 = [.s l[i].w, .i .i64 l[i].sp, .s l[i].nm, .i .i64 l[i].n] := by
  rw [wrC, flat_get (F := WR.cells) (z := 4) (fun _ => rfl) h (by omega)]; rfl
theorem wrC_take (l : List WR) (k : Nat) : (wrC l).take (k * 4) = wrC (l.take k) := by
  induction l generalizing k with
  | nil => simp [wrC]
  | cons x r ih =>
    cases k with
    | zero => simp [wrC]
    | succ k =>
      have h := ih k
      simp only [wrC, List.flatMap_cons, List.take_succ_cons] at h ⊢
      rw [show (k + 1) * 4 = 4 + k * 4 by omega, List.take_append, show (WR.cells x).length = 4 from rfl, List.take_of_length_le (by show 4 ≤ _; omega), Nat.add_sub_cancel_left, h]
theorem wrC_set {l : List WR} {j : Nat} (hj : j < l.length) (x : WR) : setC (j * 4 + 0) x.cells (wrC l) = wrC (l.set j x) := by
  unfold wrC
  have key : ∀ (l : List WR) (j : Nat), j < l.length → setC (j * 4) x.cells (l.flatMap WR.cells) = (l.set j x).flatMap WR.cells := by
    intro l
    induction l with
    | nil => intro j h; simp at h
    | cons y r ih =>
      intro j h
      cases j with
      | zero =>
        simp only [List.flatMap_cons, List.set_cons_zero, Nat.zero_mul, setC, List.take_zero, List.nil_append, Nat.zero_add]
        rw [show (WR.cells x).length = (WR.cells y).length from rfl, List.drop_left]
      | succ j =>
        have := ih j (by simpa using h)
        simp only [List.flatMap_cons, List.set_cons_succ, ← this, setC]
        rw [show (j + 1) * 4 = (WR.cells y).length + j * 4 by show (j + 1) * 4 = 4 + j * 4; omega, List.take_append, List.take_of_length_le (by omega), Nat.add_sub_cancel_left, Nat.add_assoc, ← List.drop_drop, List.drop_left]
        simp
  exact key l j hj
/-- What the known facts imply. -/
theorem J_known {P : Program} {G : Ent} {N : Nat} {c0 : Code} {env : Env} {L : List Chunk} {D : List Fact} {nid : Nat} {K : Kt} {Q : Prop} (h : ∀ m, allD m D → Q) (k : Q → J P G N c0 env L D nid K) : J P G N c0 env L D nid K :=
  ⟨fun a w he hs => (k (by obtain ⟨m, h1, _⟩ := hs; exact h m h1.d)).run a w he hs⟩
/-- The place of the first row with a property, or -1. -/
def idxW (p : WR → Bool) : List WR → Int
  | [] => -1
  | x :: r => if p x = true then 0 else if idxW p r < 0 then -1 else idxW p r + 1
theorem setC_take {o : Nat} {vs cs : List C} (h : o ≤ cs.length) : (setC o vs cs).take o = cs.take o := by
  unfold setC
  rw [List.append_assoc, List.take_append_of_le_length (by rw [List.length_take]; omega), List.take_take, Nat.min_self]
theorem idxW_none {p : WR → Bool} : ∀ {l : List WR}, idxW p l < 0 → l.filter (fun x => !p x) = l
  | [], _ => rfl
  | x :: r, h => by
    simp only [idxW] at h
    by_cases hp : p x = true
    · rw [if_pos hp] at h; omega
    · rw [if_neg hp] at h
      have hr : idxW p r < 0 := by split at h <;> omega
      rw [List.filter_cons, if_pos (by simpa using hp), idxW_none hr]
theorem idxW_low {p : WR → Bool} : ∀ (l : List WR), -1 ≤ idxW p l
  | [] => by simp [idxW]
  | x :: r => by
    have := idxW_low (p := p) r
    simp only [idxW]
    split
    · omega
    · split <;> omega
theorem idxW_some {p : WR → Bool} : ∀ {l : List WR} {i : Nat}, idxW p l = i → ∃ h : i < l.length, p l[i] = true ∧ (l.take i).filter (fun x => !p x) = l.take i
  | [], i, h => by simp [idxW] at h
  | x :: r, i, h => by
    simp only [idxW] at h
    by_cases hp : p x = true
    · rw [if_pos hp] at h
      have : i = 0 := by omega
      subst this
      exact ⟨by simp, by simpa using hp, by simp⟩
    · rw [if_neg hp] at h
      split at h
      · omega
      · obtain ⟨k, rfl⟩ : ∃ k, i = k + 1 := ⟨i - 1, by omega⟩
        obtain ⟨h1, h2, h3⟩ := idxW_some (p := p) (l := r) (i := k) (by omega)
        refine ⟨by simpa using h1, by simpa using h2, ?_⟩
        rw [List.take_succ_cons, List.filter_cons, if_pos (by simpa using hp), h3]
end Go.X
namespace Go.Proofs
open Go Go.X
set_option maxRecDepth 100000
set_option maxHeartbeats 4000000
theorem putFn_ok (x : WR) (ad : Nat) (sp : Int) (nm : List UInt8) : FnS Tryz.prog 68 [.agg x.cells, .c (.p 0 ad 0)] [.box 0 ad 50 [.i .i64 sp, .s nm]] []
    (fun v L D => v = .c (.b (decide (x.sp = sp ∧ x.nm = nm))) ∧ L = [.box 0 ad 50 [.i .i64 sp, .s nm]] ∧ D = []) := by
  unfold WR.cells
  refine fn_of_J Tryz.tyOK 7000 Tryz.func68 (by kernel_rfl) (c := Tryz.f68.body.getD .skip) (by kernel_rfl) Tryz.ntmps68 (rs := Tryz.f68.results.toList) rfl (by simp) (fun G => ?_)
  repeat' first | refine J_seq ?_ | refine J_region Tryz.tyOK ?_ | refine J_block ?_ | refine J_cond ?_ | refine J_ret ?_ | refine J_skip ?_ | refine J_exit ?_ | refine J_scope ?_ | refine CondP.y ?_ | refine CondP.n ?_ | refine CondP.mk (fun h => ?_) (fun h => ?_) | refine EqP.mk rfl ?_ | refine NewP.mk (fun ad => ?_) | refine ArP.x ?_ | refine SideP.a ?_ | refine FinE.mk [_] [] ⟨?_, rfl, rfl⟩ Ents.drop | fail
  · rename_i h; rw [decide_eq_true (show x.sp = sp ∧ x.nm = nm from ⟨h.1, h.2.1⟩)]
  · rename_i h; rw [decide_eq_false (fun hh : x.sp = sp ∧ x.nm = nm => h ⟨hh.1, hh.2, trivial⟩)]
theorem cloneW_ok (e : Nat) (a : Option Addr) (c : Nat) (l : List WR) (hl : l.length ≤ 10000000) : FnS Tryz.prog 67 [.c (.sl a l.length c)] [] [slFact e 4 a l.length (wrC l)]
    (fun v L D => ∃ a' c', v = .c (.sl a' l.length c') ∧ L = [.row 60 4 a' l.length c' (wrC l)] ∧ D = []) := by
  refine fn_of_J Tryz.tyOK 0 Tryz.func67 (by kernel_rfl) (c := Tryz.f67.body.getD .skip) (by kernel_rfl) Tryz.ntmps67 (rs := Tryz.f67.results.toList) rfl (by simp) (fun G => ?_)
  refine J_known (Q := a = none → l = []) (fun m h ha => ?_) (fun hnil => ?_)
  · rcases h.1.2 with ⟨h1, _⟩ | ⟨g, off, cur, ty, lo, hi, h1, _⟩
    · exact List.eq_nil_of_length_eq_zero h1
    · rw [ha] at h1; cases h1
  cases a with
  | none =>
    have hl0 := hnil rfl
    subst hl0
    repeat' first | refine CondP.yes rfl ?_ | refine J_seq ?_ | refine J_region Tryz.tyOK ?_ | refine J_block ?_ | refine J_cond ?_ | refine J_ret ?_ | refine J_skip ?_ | refine J_exit ?_ | refine J_scope ?_ | refine CondP.y ?_ | refine CondP.n ?_ | refine CondP.mk (fun h => ?_) (fun h => ?_) | refine EqP.mk rfl ?_ | refine NewP.mk (fun ad => ?_) | refine ArP.x ?_ | refine SideP.a ?_ | refine FinE.mk [_] [] ⟨none, 0, rfl, rfl, rfl⟩ (Ents.nilRow.trans (Ents.facts fun _ _ => trivial)) | fail
  | some b =>
    repeat' first | refine CondP.no (by simp) ?_ | refine J_seq ?_ | refine J_region Tryz.tyOK ?_ | refine J_block ?_ | refine J_cond ?_ | refine J_ret ?_ | refine J_skip ?_ | refine J_exit ?_ | refine J_scope ?_ | refine CondP.y ?_ | refine CondP.n ?_ | refine CondP.mk (fun h => ?_) (fun h => ?_) | refine EqP.mk rfl ?_ | refine NewP.mk (fun ad => ?_) | refine ArP.x ?_ | refine SideP.a ?_ | refine AppE.row [] _ [] (wrC l) l.length rfl (SrcE.sl e 60 _ _ _ _ _ rfl rfl (.inr fun m h => h.1) (wrC_len l)) (by dsimp only; omega) (fun a' c' => ?_) | refine FinE.mk [_] [] ⟨a', c', by rw [Nat.zero_add], rfl, rfl⟩ ((Ents.of ?_).trans (Ents.facts fun _ _ => trivial)) | fail
    rw [Nat.zero_add]; rfl
theorem idxFn_ok (a : Option Addr) (c : Nat) (l : List WR) (f id ad off : Nat) (Lc : List Chunk) (p : WR → Bool) (hl : l.length ≤ 9223372036854775807)
    (hf : ∀ g ∈ l, FnS Tryz.prog f [.agg g.cells, .c (.p id ad off)] Lc [] (fun v L D => v = .c (.b (p g)) ∧ L = Lc ∧ D = [])) :
    FnS Tryz.prog 97 [.c (.sl a l.length c), .c (.fn f [(id, ad, off)])] (.row 60 4 a l.length c (wrC l) :: Lc) []
      (fun v L D => v = .c (.i .i64 (idxW p l)) ∧ L = .row 60 4 a l.length c (wrC l) :: Lc ∧ D = []) := by
  generalize hv : idxW p l = k
  refine fn_of_J Tryz.tyOK 5000 Tryz.func97 (by kernel_rfl) (c := Tryz.f97.body.getD .skip) (by kernel_rfl) Tryz.ntmps97 (rs := Tryz.f97.results.toList) rfl (by simp) (fun G => ?_)
  repeat' first | refine J_seq ?_ | refine J_region Tryz.tyOK ?_ | refine J_block ?_ | refine J_cond ?_ | refine J_ret ?_ | refine J_skip ?_ | refine J_exit ?_ | refine J_scope ?_ | refine CondP.y ?_ | refine CondP.n ?_ | refine CondP.mk (fun h => ?_) (fun h => ?_) | refine EqP.mk rfl ?_ | refine NewP.mk (fun ad => ?_) | refine ArP.x ?_ | refine SideP.a ?_ | fail
  refine J_loop (α := Nat) (fun i => [(0, .c (.sl a l.length c)), (1, .c (.fn f [(id, ad, off)])), (7, .c (.i .i64 l.length)), (8, .c (.i .i64 i))]) (fun _ => .row 60 4 a l.length c (wrC l) :: Lc) (fun _ => []) 5000
    (fun i => i ≤ l.length ∧ k = (if idxW p (l.drop i) < 0 then -1 else idxW p (l.drop i) + i)) (fun i => l.length - i) (InFam.mk 0 ⟨Nat.zero_le _, ?_⟩ SubE.a (Ents.refl _ _)) (fun i hi => ?_)
  · rw [List.drop_zero, hv]
    have : -1 ≤ k := by
      rw [← hv]
      clear hv hf hl
      induction l with
      | nil => simp [idxW]
      | cons x r ih =>
        simp only [idxW]
        split
        · omega
        · split <;> omega
    split <;> omega
  obtain ⟨hi, he⟩ := hi
  by_cases hlt : i < l.length
  · have hg := wr_get hlt
    have hfi := hf _ (List.getElem_mem hlt)
    rw [List.drop_eq_getElem_cons hlt] at he
    unfold WR.cells at hfi
    generalize l[i] = x at *
    have hx1 : p x = true → idxW p (x :: l.drop (i + 1)) = 0 := fun h => if_pos h
    have hx2 : p x = false → idxW p (x :: l.drop (i + 1)) = if idxW p (l.drop (i + 1)) < 0 then -1 else idxW p (l.drop (i + 1)) + 1 := fun h => if_neg (by rw [h]; simp)
    generalize idxW p (x :: l.drop (i + 1)) = q1 at *
    obtain ⟨w, sp, nm, n⟩ := x
    dsimp only at hg hfi
    cases hp : p ⟨w, sp, nm, n⟩ with
    | true =>
      rw [hp] at hfi
      have hq := hx1 hp
      subst hq
      repeat' first | refine J_seq ?_ | refine J_region Tryz.tyOK ?_ | refine J_block ?_ | refine J_cond ?_ | refine J_ret ?_ | refine J_skip ?_ | refine J_exit ?_ | refine J_scope ?_ | refine CondP.y ?_ | refine CondP.n ?_ | refine CondP.mk (fun h => ?_) (fun h => ?_) | refine EqP.mk rfl ?_ | refine NewP.mk (fun ad => ?_) | refine ArP.x ?_ | refine SideP.a ?_ | refine IdxE.mk 60 4 _ (.inl ⟨c, List.Mem.head _⟩) (by omega) (by omega) ?_ | refine LoadE.mk 60 _ _ _ (.inl ⟨c, List.Mem.head _⟩) (by omega) (by omega) (by first | omega | decide) hg ?_ | refine CallP.mk Lc [_] [] _ hfi (List.perm_append_comm (l₁ := [_]) (l₂ := Lc)) (fun _ _ => trivial) (fun v L' D' hq => ?_); obtain ⟨rfl, hLL, rfl⟩ := hq; rw [hLL] | refine FinE.mk _ [] ⟨?_, rfl, rfl⟩ (Ents.perm (List.perm_append_comm (l₁ := Lc) (l₂ := [_]))) | fail
      all_goals (rw [he, if_neg (by omega), Int.zero_add])
    | false =>
      rw [hp] at hfi
      have hq := hx2 hp
      have he2 : k = if idxW p (l.drop (i + 1)) < 0 then -1 else idxW p (l.drop (i + 1)) + ((i + 1 : Nat) : Int) := by rw [he, hq]; (repeat' split) <;> omega
      repeat' first | refine J_seq ?_ | refine J_region Tryz.tyOK ?_ | refine J_block ?_ | refine J_cond ?_ | refine J_ret ?_ | refine J_skip ?_ | refine J_exit ?_ | refine J_scope ?_ | refine CondP.y ?_ | refine CondP.n ?_ | refine CondP.mk (fun h => ?_) (fun h => ?_) | refine EqP.mk rfl ?_ | refine NewP.mk (fun ad => ?_) | refine ArP.x ?_ | refine SideP.a ?_ | refine IdxE.mk 60 4 _ (.inl ⟨c, List.Mem.head _⟩) (by omega) (by omega) ?_ | refine LoadE.mk 60 _ _ _ (.inl ⟨c, List.Mem.head _⟩) (by omega) (by omega) (by first | omega | decide) hg ?_ | refine CallP.mk Lc [_] [] _ hfi (List.perm_append_comm (l₁ := [_]) (l₂ := Lc)) (fun _ _ => trivial) (fun v L' D' hq => ?_); obtain ⟨rfl, hLL, rfl⟩ := hq; rw [hLL] | refine Round.mk (i + 1) (by omega) ⟨by omega, he2⟩ SubE.a (Ents.perm (List.perm_append_comm (l₁ := Lc) (l₂ := [_]))) | fail
  · have hil : i = l.length := by omega
    subst hil
    rw [List.drop_length] at he
    have he : k = -1 := he
    subst he
    repeat' first | refine J_seq ?_ | refine J_region Tryz.tyOK ?_ | refine J_block ?_ | refine J_cond ?_ | refine J_ret ?_ | refine J_skip ?_ | refine J_exit ?_ | refine J_scope ?_ | refine CondP.y ?_ | refine CondP.n ?_ | refine CondP.mk (fun h => ?_) (fun h => ?_) | refine EqP.mk rfl ?_ | refine NewP.mk (fun ad => ?_) | refine ArP.x ?_ | refine SideP.a ?_ | refine FinE.mk _ [] ⟨rfl, rfl, rfl⟩ (Ents.refl _ _) | fail
theorem delFn_ok (a : Option Addr) (c : Nat) (l : List WR) (f id ad off : Nat) (Lc : List Chunk) (p : WR → Bool) (hl : l.length ≤ 10000000)
    (hf : ∀ g ∈ l, FnS Tryz.prog f [.agg g.cells, .c (.p id ad off)] Lc [] (fun v L D => v = .c (.b (p g)) ∧ L = Lc ∧ D = [])) :
    FnS Tryz.prog 66 [.c (.sl a l.length c), .c (.fn f [(id, ad, off)])] (.row 60 4 a l.length c (wrC l) :: Lc) []
      (fun v L D => v = .c (.sl a (l.filter fun x => !p x).length c) ∧ L = .row 60 4 a (l.filter fun x => !p x).length c (wrC (l.filter fun x => !p x)) :: Lc ∧ D = []) := by
  have ci := idxFn_ok a c l f id ad off Lc p (by omega) hf
  have hlow := idxW_low (p := p) l
  by_cases h0 : idxW p l < 0
  · rw [idxW_none h0]
    have hk : idxW p l = -1 := by omega
    rw [hk] at ci
    refine fn_of_J Tryz.tyOK 9000 Tryz.func66 (by kernel_rfl) (c := Tryz.f66.body.getD .skip) (by kernel_rfl) Tryz.ntmps66 (rs := Tryz.f66.results.toList) rfl (by simp) (fun G => ?_)
    repeat' first | refine J_seq ?_ | refine J_region Tryz.tyOK ?_ | refine J_block ?_ | refine J_cond ?_ | refine J_ret ?_ | refine J_skip ?_ | refine J_exit ?_ | refine J_scope ?_ | refine CondP.y ?_ | refine CondP.n ?_ | refine CondP.mk (fun h => ?_) (fun h => ?_) | refine EqP.mk rfl ?_ | refine NewP.mk (fun ad => ?_) | refine ArP.x ?_ | refine SideP.a ?_ | refine CallP.mk (_ :: Lc) [] [] _ ci (by simp) (fun _ _ => trivial) (fun v L' D' hq => ?_); obtain ⟨rfl, hLL, rfl⟩ := hq; rw [hLL] | refine FinE.mk (_ :: Lc) [] ⟨rfl, rfl, rfl⟩ (Ents.of (by simp)) | fail
  · obtain ⟨i0, hi0⟩ : ∃ i0 : Nat, idxW p l = i0 := ⟨(idxW p l).toNat, by omega⟩
    obtain ⟨hlt0, hp0, hf0⟩ := idxW_some hi0
    rw [hi0] at ci
    generalize hq : l.filter (fun x => !p x) = q
    refine fn_of_J Tryz.tyOK 9000 Tryz.func66 (by kernel_rfl) (c := Tryz.f66.body.getD .skip) (by kernel_rfl) Tryz.ntmps66 (rs := Tryz.f66.results.toList) rfl (by simp) (fun G => ?_)
    refine J_cap (List.Mem.head _) (fun hnc _ _ => ?_)
    repeat' first | refine J_seq ?_ | refine J_region Tryz.tyOK ?_ | refine J_block ?_ | refine J_cond ?_ | refine J_ret ?_ | refine J_skip ?_ | refine J_exit ?_ | refine J_scope ?_ | refine CondP.y ?_ | refine CondP.n ?_ | refine CondP.mk (fun h => ?_) (fun h => ?_) | refine EqP.mk rfl ?_ | refine NewP.mk (fun ad => ?_) | refine ArP.x ?_ | refine SideP.a ?_ | refine CallP.mk (_ :: Lc) [] [] _ ci (by simp) (fun _ _ => trivial) (fun v L' D' hq => ?_); obtain ⟨rfl, hLL, rfl⟩ := hq; rw [hLL] | fail
    refine J_loop (α := Nat × Nat × List WR) (fun x => [(0, .c (.sl a l.length c)), (1, .c (.fn f [(id, ad, off)])), (5, .c (.i .i64 x.2.1)), (6, .c (.i .i64 x.1))]) (fun x => .row 60 4 a l.length c (wrC x.2.2) :: Lc) (fun _ => []) 9000
      (fun x => x.1 ≤ l.length ∧ x.2.1 < x.1 ∧ x.2.2.length = l.length ∧ x.2.2.take x.2.1 = (l.take x.1).filter (fun x => !p x) ∧ x.2.2.drop x.1 = l.drop x.1) (fun x => l.length - x.1) (InFam.mk (i0 + 1, i0, l) ⟨by dsimp only; omega, by dsimp only; omega, rfl, ?_, rfl⟩ SubE.a (Ents.of (by simp))) (fun x hx => ?_)
    · dsimp only
      rw [List.take_succ_eq_append_getElem hlt0, List.filter_append, hf0, List.filter_cons, if_neg (by rw [hp0]; simp)]
      simp
    obtain ⟨j, i, m⟩ := x
    dsimp only at hx ⊢
    obtain ⟨hj, hij, hml, htk, hdr⟩ := hx
    by_cases hlt : j < l.length
    · have hmj : m[j]'(by omega) = l[j] := by
        have := congrArg (fun x => x[0]?) hdr
        simpa [hlt, show j < m.length by omega] using this
      have hg := wr_get (l := m) (i := j) (by omega)
      rw [hmj] at hg
      have hfi := hf _ (List.getElem_mem hlt)
      have hst : setC (i * 4 + 0) l[j].cells (wrC m) = wrC (m.set i l[j]) := wrC_set (by omega) _
      have htk1 : p l[j] = true → m.take i = (l.take (j + 1)).filter (fun x => !p x) := fun h => by
        rw [List.take_succ_eq_append_getElem hlt, List.filter_append, ← htk, List.filter_cons, if_neg (by rw [h]; simp)]; simp
      have htk2 : p l[j] = false → (m.set i l[j]).take (i + 1) = (l.take (j + 1)).filter (fun x => !p x) := fun h => by
        rw [List.take_succ_eq_append_getElem hlt, List.filter_append, ← htk, List.filter_cons, if_pos (by rw [h]; rfl), List.take_succ_eq_append_getElem (by rw [List.length_set]; omega)]
        simp [List.take_set_of_le]
      have hdr2 : (m.set i l[j]).drop (j + 1) = l.drop (j + 1) := by
        rw [List.drop_set_of_lt (by omega), ← List.drop_drop, hdr, List.drop_drop]
      have hdr1 : m.drop (j + 1) = l.drop (j + 1) := by rw [← List.drop_drop, hdr, List.drop_drop]
      unfold WR.cells at hfi hst
      generalize l[j] = v at *
      obtain ⟨w, sp, nm, n⟩ := v
      dsimp only at hg hfi hst
      cases hp : p ⟨w, sp, nm, n⟩ with
      | true =>
        rw [hp] at hfi
        repeat' first | refine J_seq ?_ | refine J_region Tryz.tyOK ?_ | refine J_block ?_ | refine J_cond ?_ | refine J_ret ?_ | refine J_skip ?_ | refine J_exit ?_ | refine J_scope ?_ | refine CondP.y ?_ | refine CondP.n ?_ | refine CondP.mk (fun h => ?_) (fun h => ?_) | refine EqP.mk rfl ?_ | refine NewP.mk (fun ad => ?_) | refine ArP.x ?_ | refine SideP.a ?_ | refine IdxE.mk 60 4 _ (.inl ⟨c, List.Mem.head _⟩) (by omega) (by omega) ?_ | refine LoadE.mk 60 _ _ _ (.inl ⟨c, List.Mem.head _⟩) (by omega) (by omega) (by first | omega | decide) hg ?_ | refine CallP.mk Lc [_, _] [] _ hfi (List.perm_append_comm (l₁ := [_, _]) (l₂ := Lc)) (fun _ _ => trivial) (fun v L' D' hq => ?_); obtain ⟨rfl, hLL, rfl⟩ := hq; rw [hLL] | refine Round.mk (j + 1, i, m) (by dsimp only; omega) ⟨by dsimp only; omega, by dsimp only; omega, hml, htk1 hp, hdr1⟩ SubE.a ((Ents.perm (List.perm_append_comm (l₁ := Lc) (l₂ := [_, _]))).trans Ents.drop) | fail
      | false =>
        rw [hp] at hfi
        repeat' first | refine J_stop (c := .seq (.region 9 _ _) _) ?_ | refine J_seq ?_ | refine J_region Tryz.tyOK ?_ | refine J_block ?_ | refine J_cond ?_ | refine J_ret ?_ | refine J_skip ?_ | refine J_exit ?_ | refine J_scope ?_ | refine CondP.y ?_ | refine CondP.n ?_ | refine CondP.mk (fun h => ?_) (fun h => ?_) | refine EqP.mk rfl ?_ | refine NewP.mk (fun ad => ?_) | refine ArP.x ?_ | refine SideP.a ?_ | refine IdxE.mk 60 4 _ (.inl ⟨c, List.Mem.head _⟩) (by omega) (by omega) ?_ | refine LoadE.mk 60 _ _ _ (.inl ⟨c, List.Mem.head _⟩) (by omega) (by omega) (by first | omega | decide) hg ?_ | refine CallP.mk Lc [_, _] [] _ hfi (List.perm_append_comm (l₁ := [_, _]) (l₂ := Lc)) (fun _ _ => trivial) (fun v L' D' hq => ?_); obtain ⟨rfl, hLL, rfl⟩ := hq; rw [hLL] | fail
        refine ⟨?_⟩
        refine J_mem (n' := 9001) (Ents.perm ((List.perm_append_comm (l₁ := Lc) (l₂ := [_, _])).trans (List.Perm.swap _ _ _))) ?_
        repeat' first | refine J_seq ?_ | refine J_region Tryz.tyOK ?_ | refine J_block ?_ | refine J_cond ?_ | refine J_ret ?_ | refine J_skip ?_ | refine J_exit ?_ | refine J_scope ?_ | refine CondP.y ?_ | refine CondP.n ?_ | refine CondP.mk (fun h => ?_) (fun h => ?_) | refine EqP.mk rfl ?_ | refine NewP.mk (fun ad => ?_) | refine ArP.x ?_ | refine SideP.a ?_ | refine IdxE.mk 60 4 _ (.inl ⟨c, List.Mem.head _⟩) (by omega) (by omega) ?_ | refine StoreE.mk [] _ _ _ _ _ _ rfl (by omega) (by omega) (Nat.le_of_ble_eq_true rfl) hst ?_ | refine Round.mk (j + 1, i + 1, m.set i ⟨w, sp, nm, n⟩) (by dsimp only; omega) ⟨by dsimp only; omega, by dsimp only; omega, by rw [List.length_set]; exact hml, htk2 hp, hdr2⟩ SubE.a ((Ents.perm (List.Perm.swap _ _ _)).trans Ents.drop) | fail
    · have hjl : j = l.length := by omega
      subst hjl
      rw [List.take_length, hq] at htk
      have hql : q.length = i := by rw [← htk, List.length_take]; omega
      have hwl := wrC_len m
      repeat' first | refine J_seq ?_ | refine J_region Tryz.tyOK ?_ | refine J_block ?_ | refine J_cond ?_ | refine J_ret ?_ | refine J_skip ?_ | refine J_exit ?_ | refine J_scope ?_ | refine CondP.y ?_ | refine CondP.n ?_ | refine CondP.mk (fun h => ?_) (fun h => ?_) | refine EqP.mk rfl ?_ | refine NewP.mk (fun ad => ?_) | refine ArP.x ?_ | refine SideP.a ?_ | refine ClearE.mk [] _ _ _ _ (i : Int).toNat _ _ rfl (if_neg (by omega)) (by omega) ?_ | refine FinE.mk (_ :: Lc) [] ⟨?_, rfl, rfl⟩ ((Ents.rowPre (k := i) (by omega)).trans (Ents.of ?_)) | fail
      · show V.c (C.sl (resl a 0 c 4) (i : Int).toNat c) = _
        rw [resl0, hql, Int.toNat_natCast]
      · show Chunk.row _ 4 a i c ((setC ((i : Int).toNat * 4) (repC (l.length - (i : Int).toNat) [C.s [], C.i .i64 0, C.s [], C.i .i64 0]) (wrC m)).take (i * 4)) :: Lc = _
        rw [Int.toNat_natCast, setC_take (by omega), wrC_take, htk, hql]
end Go.Proofs
