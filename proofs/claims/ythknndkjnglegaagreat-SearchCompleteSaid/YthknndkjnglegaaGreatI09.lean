/- This text says in plain Lean what the functions on titles compute. -/
import Derived.Test.YthknndkjnglegaaGreatI08
import Derived.Lib.SlTrimSet
import Derived.Test.YthknndkjnglegaaGreatI01
import Derived.Sort.Statements
import Derived.Shelf.SlSortCmp.WholeK
import Derived.Test.YthknndkjnglegaaGreatI07
import Derived.Sort.Grow
set_option linter.all false

namespace Go.X
def lowB (b : UInt8) : UInt8 := if 65 ≤ b ∧ b ≤ 90 then b + 32 else b
theorem lowB_yes {b : UInt8} (h : 65 ≤ (b.toNat : Int)) (h' : (b.toNat : Int) ≤ 90) : ((lowB b).toNat : Int) = b.toNat + 32 := by
  have h1 : (65 : UInt8) ≤ b := by rw [UInt8.le_iff_toNat_le]; simp; omega
  have h2 : b ≤ (90 : UInt8) := by rw [UInt8.le_iff_toNat_le]; simp; omega
  unfold lowB
  rw [if_pos ⟨h1, h2⟩, UInt8.toNat_add]
  simp; omega
theorem lowB_no {b : UInt8} (h : ¬ (65 ≤ (b.toNat : Int) ∧ (b.toNat : Int) ≤ 90)) : lowB b = b := by
  unfold lowB
  rw [if_neg]
  rintro ⟨h1, h2⟩
  rw [UInt8.le_iff_toNat_le] at h1 h2
  simp at h1 h2
  omega
/-- The names of the namespaces. -/
def spName : Nat → List UInt8
  | 1 => [84, 97, 108, 107]
  | 2 => [85, 115, 101, 114]
  | 3 => [84, 101, 109, 112, 108, 97, 116, 101]
  | 4 => [67, 97, 116, 101, 103, 111, 114, 121]
  | 5 => [80, 114, 111, 106, 101, 99, 116]
  | _ => []
def spaceNo (p : List UInt8) : Nat :=
  if p.map lowB = (spName 1).map lowB then 1 else if p.map lowB = (spName 2).map lowB then 2 else if p.map lowB = (spName 3).map lowB then 3
  else if p.map lowB = (spName 4).map lowB then 4 else if p.map lowB = (spName 5).map lowB then 5 else 0
/-- Which namespace the front of a text names. -/
def colonNo (s : List UInt8) : Nat := if (cutAt 58 s).2.2 = true then spaceNo (Lib.trimSuffix (cutAt 58 s).1 [32]) else 0
/-- What lies behind its colon. -/
def behind (s : List UInt8) : List UInt8 := (cutAt 58 s).2.1
/-- A byte that a name must not have. -/
def badB (c : UInt8) : Bool := decide ((c.toNat : Int) < 32) || decide ((c.toNat : Int) = 127) || decide (0 ≤ Lib.indexByte [60, 62, 91, 93, 123, 125, 124, 35, 95] c)
/-- Only bytes that names may have, and no two blanks one behind the other; p: is there a blank ahead? -/
def cleanB : Bool → List UInt8 → Bool
  | _, [] => true
  | p, c :: r => !badB c && !(p && c.toNat == 32) && cleanB (c.toNat == 32) r
/-- A piece of a name. -/
def pieceOK (p : List UInt8) : Bool := !decide (p = []) && !decide (((p.getD 0 0).toNat : Int) = 32) && !decide (((p.getD ((p.length : Int) - 1).toNat 0).toNat : Int) = 32)
/-- The first byte is neither ":" nor a small letter. -/
def headOK (s : List UInt8) : Bool := !decide (((s.getD 0 0).toNat : Int) = 58) && !(decide (97 ≤ ((s.getD 0 0).toNat : Int)) && decide (((s.getD 0 0).toNat : Int) ≤ 122))
def validT (sp : Int) (s : List UInt8) : Bool :=
  !decide (sp < 0) && !decide (6 ≤ sp) && !decide ((s.length : Int) < 1) && !decide (100 < (s.length : Int)) && cleanB false s && (splitOn 47 s).all pieceOK && headOK s && (!decide (sp = 0) || !decide (colonNo s ≠ 0))
/-- One byte behind a text with single blanks. -/
def stepB (out : List UInt8) (c : UInt8) : List UInt8 :=
  if (!decide ((c.toNat : Int) = 32) || (decide (0 < (out.length : Int)) && !decide (((out.getD ((out.length : Int) - 1).toNat 0).toNat : Int) = 32))) = true then out ++ [c] else out
def outB (s : List UInt8) (i : Nat) : List UInt8 := (s.take i).foldl stepB []
theorem outB_succ {s : List UInt8} {i : Nat} (h : i < s.length) : outB s (i + 1) = stepB (outB s i) (s.getD i 0) := by
  unfold outB
  rw [List.take_succ_eq_append_getElem h, List.foldl_append]
  simp [h]
theorem outB_all (s : List UInt8) : outB s s.length = s.foldl stepB [] := by simp [outB]
theorem stepB_le (out : List UInt8) (c : UInt8) : (stepB out c).length ≤ out.length + 1 := by unfold stepB; split <;> simp
theorem outB_le {s : List UInt8} : ∀ {i : Nat}, i ≤ s.length → (outB s i).length ≤ i
  | 0, _ => by simp [outB]
  | i + 1, h => by
    have := outB_le (s := s) (i := i) (by omega)
    rw [outB_succ (by omega)]
    exact Nat.le_trans (stepB_le _ _) (by omega)
/-- Without blanks at both ends, and with one blank for each sequence of blanks. -/
def singleB (s : List UInt8) : List UInt8 := Lib.trimSuffix (s.foldl stepB []) [32]
/-- Piece i of n, without the blanks next to a "/". -/
def slP (n i : Nat) (p : List UInt8) : List UInt8 :=
  if (i : Int) < (n : Int) - 1 then Lib.trimRightB (if 0 < (i : Int) then Lib.trimLeftB p 32 else p) 32 else (if 0 < (i : Int) then Lib.trimLeftB p 32 else p)
def slashPieces (s : List UInt8) : List (List UInt8) := (splitOn 47 s).mapIdx fun i p => slP (splitOn 47 s).length i p
/-- Without the blanks directly before and after each "/". -/
def slashesB (s : List UInt8) : List UInt8 := joinOn 47 (slashPieces s)
theorem dropWhile_le {p : UInt8 → Bool} : ∀ l : List UInt8, (l.dropWhile p).length ≤ l.length
  | [] => by simp
  | x :: r => by
    have := dropWhile_le (p := p) r
    simp only [List.dropWhile_cons]; split <;> simp; omega
theorem trimLeftB_le (l : List UInt8) (c : UInt8) : (Lib.trimLeftB l c).length ≤ l.length := dropWhile_le l
theorem trimRightB_le (l : List UInt8) (c : UInt8) : (Lib.trimRightB l c).length ≤ l.length := by
  have := dropWhile_le (p := (· == c)) l.reverse
  simpa [Lib.trimRightB] using this
theorem slP_le (n i : Nat) (p : List UInt8) : (slP n i p).length ≤ p.length := by
  have h1 := trimLeftB_le p 32
  unfold slP
  split
  · split
    · exact Nat.le_trans (trimRightB_le _ _) h1
    · exact trimRightB_le _ _
  · split
    · exact h1
    · exact Nat.le_refl _
theorem slashPieces_len (s : List UInt8) : (slashPieces s).length = (splitOn 47 s).length := by simp [slashPieces]
theorem slashPieces_get (s : List UInt8) {i : Nat} (h : i < (slashPieces s).length) (h' : i < (splitOn 47 s).length) : (slashPieces s)[i] = slP (splitOn 47 s).length i (splitOn 47 s)[i] := by simp [slashPieces]
theorem slashesB_short (s : List UInt8) : (slashesB s).length ≤ s.length := by
  have h := joinOn_le 47 (slashPieces s) (splitOn 47 s) (slashPieces_len s) (fun i h h' => by rw [slashPieces_get s h h']; exact slP_le _ _ _)
  rwa [join_splitOn] at h
theorem trimSuffix_le (s p : List UInt8) : (Lib.trimSuffix s p).length ≤ s.length := by
  unfold Lib.trimSuffix; split
  · simp
  · exact Nat.le_refl _
theorem trimPrefix_le (s p : List UInt8) : (Lib.trimPrefix s p).length ≤ s.length := by
  unfold Lib.trimPrefix; split
  · simp
  · exact Nat.le_refl _
theorem cutAt_len1 (c : UInt8) : ∀ s : List UInt8, (cutAt c s).1.length ≤ s.length
  | [] => by simp [cutAt]
  | x :: r => by
    have := cutAt_len1 c r
    simp only [cutAt]; split <;> simp; omega
theorem cutAt_len2 (c : UInt8) : ∀ s : List UInt8, (cutAt c s).2.1.length ≤ s.length
  | [] => by simp [cutAt]
  | x :: r => by
    have := cutAt_len2 c r
    simp only [cutAt]; split <;> simp; omega
theorem behind_le (s : List UInt8) : (behind s).length ≤ s.length := cutAt_len2 58 s
theorem singleB_le (s : List UInt8) : (singleB s).length ≤ s.length := by
  have h := outB_le (s := s) (Nat.le_refl _)
  rw [outB_all] at h
  exact Nat.le_trans (trimSuffix_le _ _) h
/-- Each "_" as a blank. -/
def usc (s : List UInt8) : List UInt8 := s.map fun x => if x = 95 then 32 else x
/-- Without a ":" ahead. -/
def noColon (t : List UInt8) : List UInt8 := if ([58] : List UInt8).isPrefixOf t = true then Lib.trimPrefix (t.drop 1) [32] else t
/-- Without the name of a namespace ahead. -/
def noSpace (t : List UInt8) : List UInt8 := if decide (colonNo t ≠ 0) = true then Lib.trimPrefix (behind t) [32] else t
/-- With a large letter first. -/
def upB (t : List UInt8) : List UInt8 := if (!decide (t = []) && decide (97 ≤ ((t.getD 0 0).toNat : Int)) && decide (((t.getD 0 0).toNat : Int) ≤ 122)) = true then [t.getD 0 0 - 32] ++ t.drop 1 else t
def spaceP (s : List UInt8) : Nat := colonNo (noColon (singleB (usc s)))
def nameP (s : List UInt8) : List UInt8 := upB (slashesB (noSpace (noColon (singleB (usc s)))))
/-- The namespace, the name and the error that a text gives. -/
def parseT (s : List UInt8) : Int × List UInt8 × Int :=
  if decide (100 < ((nameP s).length : Int)) = true then (0, [], 3) else if validT (spaceP s) (nameP s) = true then (spaceP s, nameP s, 0) else (0, [], 1)
theorem upB_len (t : List UInt8) : (upB t).length = t.length := by
  unfold upB; split
  · rename_i h
    cases t with
    | nil => simp at h
    | cons a r => simp
  · rfl
theorem noColon_le (t : List UInt8) : (noColon t).length ≤ t.length := by
  unfold noColon; split
  · exact Nat.le_trans (trimPrefix_le _ _) (by simp)
  · exact Nat.le_refl _
theorem noSpace_le (t : List UInt8) : (noSpace t).length ≤ t.length := by
  unfold noSpace; split
  · exact Nat.le_trans (trimPrefix_le _ _) (behind_le _)
  · exact Nat.le_refl _
theorem nameP_le (s : List UInt8) : (nameP s).length ≤ s.length := by
  unfold nameP
  rw [upB_len]
  have h : (usc s).length = s.length := by simp [usc]
  exact Nat.le_trans (slashesB_short _) (Nat.le_trans (noSpace_le _) (Nat.le_trans (noColon_le _) (Nat.le_trans (singleB_le _) (by omega))))
theorem validT_bounds {sp : Int} {s : List UInt8} (h : validT sp s = true) : 0 ≤ sp ∧ sp < 6 ∧ 1 ≤ s.length ∧ s.length ≤ 100 := by
  unfold validT at h
  simp only [Bool.and_eq_true, Bool.not_eq_true', decide_eq_false_iff_not] at h
  omega
/-- The text of a valid title. -/
def formatT (sp : Int) (s : List UInt8) : List UInt8 := if validT sp s = true then (if sp = 0 then s else spName sp.toNat ++ [58] ++ s) else []
theorem spName_le (n : Nat) : (spName n).length ≤ 8 := by unfold spName; split <;> decide
theorem formatT_le (sp : Int) (s : List UInt8) : (formatT sp s).length ≤ 109 := by
  unfold formatT
  split
  · rename_i h
    have h1 := validT_bounds h
    have h2 := spName_le sp.toNat
    split <;> simp <;> omega
  · simp
/-- The order of titles. -/
def compareT (a : Int) (x : List UInt8) (b : Int) (y : List UInt8) : Int := if Lib.compareInt a b ≠ 0 then Lib.compareInt a b else Lib.compareBytes x y
/-- The texts ahead of each "/" among the first i bytes. -/
def ancL (s : List UInt8) : Nat → List (List UInt8)
  | 0 => []
  | i + 1 => if ((s.getD i 0).toNat : Int) = 47 then ancL s i ++ [s.take i] else ancL s i
def ancT (sp : Int) (s : List UInt8) : List (List UInt8) := if validT sp s = true then ancL s s.length else []
theorem ancL_le (s : List UInt8) : ∀ i, (ancL s i).length ≤ i
  | 0 => by simp [ancL]
  | i + 1 => by
    have := ancL_le s i
    simp only [ancL]; split
    · simp; omega
    · omega
attribute [irreducible] validT nameP spaceP parseT formatT
end Go.X

/- This text holds plain facts on the order of lists of bytes, and on that of titles. -/
namespace Go.X
open Go.Lib
theorem cmpB_range : ∀ a b : List UInt8, compareBytes a b = -1 ∨ compareBytes a b = 0 ∨ compareBytes a b = 1
  | [], [] => by simp [compareBytes]
  | [], _ :: _ => by simp [compareBytes]
  | _ :: _, [] => by simp [compareBytes]
  | x :: a, y :: b => by
    have := cmpB_range a b
    simp only [compareBytes]
    split
    · simp
    · split
      · simp
      · exact this
theorem u8_lt {x y : UInt8} : x < y ↔ x.toNat < y.toNat := UInt8.lt_iff_toNat_lt
theorem u8_eq {x y : UInt8} : x = y ↔ x.toNat = y.toNat := ⟨fun h => by rw [h], UInt8.toNat_inj.1⟩
theorem less_cmp : ∀ a b : List UInt8, Op.bytesLess a b = true ↔ compareBytes a b = -1
  | [], [] => by simp [compareBytes, Op.bytesLess]
  | [], _ :: _ => by simp [compareBytes, Op.bytesLess]
  | _ :: _, [] => by simp [compareBytes, Op.bytesLess]
  | x :: a, y :: b => by
    have ih := less_cmp a b
    simp only [Op.bytesLess, compareBytes, Bool.or_eq_true, decide_eq_true_eq, Bool.and_eq_true, beq_iff_eq, ih, u8_lt, u8_eq]
    split
    · simp_all
    · split
      · constructor
        · rintro (h | ⟨h, _⟩) <;> omega
        · intro h; omega
      · constructor
        · rintro (h | ⟨_, h⟩)
          · omega
          · exact h
        · intro h; exact .inr ⟨by omega, h⟩
theorem cmpB_eq : ∀ a b : List UInt8, compareBytes a b = 0 ↔ a = b
  | [], [] => by simp [compareBytes]
  | [], _ :: _ => by simp [compareBytes]
  | _ :: _, [] => by simp [compareBytes]
  | x :: a, y :: b => by
    have ih := cmpB_eq a b
    simp only [compareBytes, List.cons.injEq, u8_lt, u8_eq]
    split
    · constructor
      · intro h; omega
      · rintro ⟨h, _⟩; omega
    · split
      · constructor
        · intro h; omega
        · rintro ⟨h, _⟩; omega
      · rw [ih]
        exact ⟨fun h => ⟨by omega, h⟩, fun h => h.2⟩
theorem cmpB_swap : ∀ a b : List UInt8, compareBytes a b = - compareBytes b a
  | [], [] => by simp [compareBytes]
  | [], _ :: _ => by simp [compareBytes]
  | _ :: _, [] => by simp [compareBytes]
  | x :: a, y :: b => by
    have ih := cmpB_swap a b
    simp only [compareBytes, u8_lt]
    split
    · rw [if_neg (by omega)]
    · split
      · rfl
      · exact ih
theorem cmpB_trans : ∀ a b c : List UInt8, compareBytes a b ≤ 0 → compareBytes b c ≤ 0 → compareBytes a c ≤ 0
  | [], [], _, _, h => h
  | [], _ :: _, [], _, h => by simp [compareBytes] at h
  | [], _ :: _, _ :: _, _, _ => by simp [compareBytes]
  | _ :: _, [], _, h, _ => by simp [compareBytes] at h
  | _ :: _, _ :: _, [], _, h => by simp [compareBytes] at h
  | x :: a, y :: b, z :: c, h1, h2 => by
    have ih := cmpB_trans a b c
    simp only [compareBytes, u8_lt] at *
    split at h1
    · split at h2
      · rw [if_pos (by omega)]; omega
      · split at h2
        · omega
        · rw [if_pos (by omega)]; omega
    · split at h1
      · omega
      · split at h2
        · rw [if_pos (by omega)]; omega
        · split at h2
          · omega
          · rw [if_neg (by omega), if_neg (by omega)]; exact ih h1 h2
theorem cmpI (a b : Int) : (a < b ∧ compareInt a b = -1) ∨ (a = b ∧ compareInt a b = 0) ∨ (b < a ∧ compareInt a b = 1) := by
  unfold compareInt
  rcases Int.lt_trichotomy a b with h | h | h
  · rw [if_pos h]; exact .inl ⟨h, rfl⟩
  · rw [if_neg (by omega), if_neg (by omega)]; exact .inr (.inl ⟨h, rfl⟩)
  · rw [if_neg (by omega), if_pos h]; exact .inr (.inr ⟨h, rfl⟩)
theorem compareT_eq (a : Int) (x : List UInt8) (b : Int) (y : List UInt8) : compareT a x b y = 0 ↔ a = b ∧ x = y := by
  have h := cmpB_eq x y
  unfold compareT
  rcases cmpI a b with ⟨h0, h1⟩ | ⟨h0, h1⟩ | ⟨h0, h1⟩ <;> rw [h1] <;> simp
  · omega
  · rw [h]; exact ⟨fun e => ⟨h0, e⟩, fun e => e.2⟩
  · omega
theorem compareT_swap (a : Int) (x : List UInt8) (b : Int) (y : List UInt8) : compareT a x b y = - compareT b y a x := by
  have h := cmpB_swap x y
  unfold compareT
  rcases cmpI a b with ⟨h0, h1⟩ | ⟨h0, h1⟩ | ⟨h0, h1⟩ <;> rcases cmpI b a with ⟨h2, h3⟩ | ⟨h2, h3⟩ | ⟨h2, h3⟩ <;> rw [h1, h3] <;> simp <;> first | omega | exact h
theorem compareT_trans {a : Int} {x : List UInt8} {b : Int} {y : List UInt8} {c : Int} {z : List UInt8} (h1 : compareT a x b y ≤ 0) (h2 : compareT b y c z ≤ 0) : compareT a x c z ≤ 0 := by
  have h := cmpB_trans x y z
  unfold compareT at *
  rcases cmpI a b with ⟨p0, p1⟩ | ⟨p0, p1⟩ | ⟨p0, p1⟩ <;> rcases cmpI b c with ⟨q0, q1⟩ | ⟨q0, q1⟩ | ⟨q0, q1⟩ <;> rcases cmpI a c with ⟨r0, r1⟩ | ⟨r0, r1⟩ | ⟨r0, r1⟩ <;> rw [p1] at h1 <;> rw [q1] at h2 <;> rw [r1] <;> simp at * <;> first | omega | exact h h1 h2 | skip
end Go.X

/- This text holds the rows and hits of the search as plain data, and their orders. -/
namespace Go.X
open Go Go.Lib
/-- A row of the table of words. -/
structure WR where
  w : List UInt8
  sp : Int
  nm : List UInt8
  n : Int
  deriving DecidableEq
/-- A hit. -/
structure HT where
  sp : Int
  nm : List UInt8
  n : Int
  deriving DecidableEq
def WR.cells (x : WR) : List C := [.s x.w, .i .i64 x.sp, .s x.nm, .i .i64 x.n]
def HT.cells (x : HT) : List C := [.i .i64 x.sp, .s x.nm, .i .i64 x.n]
def wrC (l : List WR) : List C := l.flatMap WR.cells
def htC (l : List HT) : List C := l.flatMap HT.cells
def cmpWR (x y : WR) : Int := if Lib.compareBytes x.w y.w ≠ 0 then Lib.compareBytes x.w y.w else if compareT x.sp x.nm y.sp y.nm ≠ 0 then compareT x.sp x.nm y.sp y.nm else Lib.compareInt x.n y.n
def cmpHT (x y : HT) : Int := if Lib.compareInt y.n x.n ≠ 0 then Lib.compareInt y.n x.n else compareT x.sp x.nm y.sp y.nm
end Go.X

/- This text holds plain facts on orders that are put together of orders, and on sorted lists. -/
namespace Go.X
open Go Go.Lib Go.Proofs
/-- A total order, told by whole numbers. -/
structure Cmp {α : Type} (cf : α → α → Int) : Prop where
  swap : ∀ x y, cf x y = - cf y x
  trans : ∀ x y z, cf x y ≤ 0 → cf y z ≤ 0 → cf x z ≤ 0
def lexC {α : Type} (cf cg : α → α → Int) (x y : α) : Int := if cf x y ≠ 0 then cf x y else cg x y
theorem Cmp.lex {α : Type} {cf cg : α → α → Int} (hf : Cmp cf) (hg : Cmp cg) : Cmp (lexC cf cg) := by
  refine ⟨fun x y => ?_, fun x y z h1 h2 => ?_⟩
  · have := hf.swap x y
    have := hg.swap x y
    unfold lexC
    split <;> split <;> omega
  · unfold lexC at *
    have a1 := hf.swap x y; have a2 := hf.swap y z; have a3 := hf.swap x z
    have t1 := hf.trans x y z; have t2 := hf.trans z y x; have t3 := hf.trans y z x; have t4 := hf.trans z x y; have t5 := hf.trans x z y; have t6 := hf.trans y x z
    have g1 := hg.trans x y z
    split at h1 <;> split at h2 <;> split <;> omega
theorem Cmp.on {α β : Type} {cf : α → α → Int} (h : Cmp cf) (f : β → α) : Cmp fun x y => cf (f x) (f y) := ⟨fun x y => h.swap _ _, fun x y z => h.trans _ _ _⟩
theorem Cmp.flip {α : Type} {cf : α → α → Int} (h : Cmp cf) : Cmp fun x y => cf y x := ⟨fun x y => h.swap _ _, fun x y z h1 h2 => h.trans z y x h2 h1⟩
theorem cmp_int : Cmp Lib.compareInt := by
  refine ⟨fun x y => ?_, fun x y z h1 h2 => ?_⟩
  · unfold Lib.compareInt; split <;> split <;> omega
  · unfold Lib.compareInt at *
    split at h1 <;> split at h2 <;> split <;> first | omega | (split at h1 <;> split at h2 <;> split <;> omega) | (split <;> omega) | (split at h1 <;> split <;> omega) | (split at h2 <;> split <;> omega)
theorem cmp_title : Cmp fun x y : Int × List UInt8 => compareT x.1 x.2 y.1 y.2 := ⟨fun x y => compareT_swap _ _ _ _, fun x y z => compareT_trans⟩
theorem Cmp.swo {α : Type} {cf : α → α → Int} (h : Cmp cf) : Sort.SWO (ltOf cf) where
  irrefl x := by have := h.swap x x; unfold ltOf; rw [decide_eq_false_iff_not]; omega
  trans x y z h1 h2 := by
    unfold ltOf at *
    rw [decide_eq_true_eq] at *
    have a1 := h.swap x z; have a2 := h.swap y z; have a3 := h.swap x y
    have t1 := h.trans x y z (by omega) (by omega)
    have t2 := h.trans z x y
    omega
  ntrans x y z h1 h2 := by
    unfold ltOf at *
    rw [decide_eq_false_iff_not] at *
    have a1 := h.swap x z; have a2 := h.swap y z; have a3 := h.swap x y
    have t1 := h.trans z y x (by omega) (by omega)
    omega
/-- A list in order. -/
def OrdL {α : Type} (cf : α → α → Int) (l : List α) : Prop := l.Pairwise fun x y => cf x y ≤ 0
theorem ordL_of {α : Type} {cf : α → α → Int} (h : Cmp cf) {l : List α} (hl : l.Pairwise fun x y => ltOf cf y x = false) : OrdL cf l := hl.imp fun {x y} hxy => by
  have := h.swap x y
  unfold ltOf at hxy
  rw [decide_eq_false_iff_not] at hxy
  omega
theorem Cmp.refl {α : Type} {cf : α → α → Int} (h : Cmp cf) (x : α) : cf x x = 0 := by have := h.swap x x; omega
/-- Two lists in order that are permutations are one. -/
theorem ordL_eq {α : Type} {cf : α → α → Int} (h : Cmp cf) (he : ∀ x y, cf x y = 0 → x = y) : ∀ {l l' : List α}, OrdL cf l → OrdL cf l' → l.Perm l' → l = l'
  | [], l', _, _, hp => by rw [List.nil_perm.1 hp]
  | x :: r, [], _, _, hp => by have := hp.length_eq; simp at this
  | x :: r, y :: s, h1, h2, hp => by
    have h1' := List.pairwise_cons.1 h1
    have h2' := List.pairwise_cons.1 h2
    have hxy : x = y := by
      have a := hp.subset (List.mem_cons_self (a := x) (l := r))
      have b := hp.symm.subset (List.mem_cons_self (a := y) (l := s))
      rcases List.mem_cons.1 a with a | a
      · exact a
      rcases List.mem_cons.1 b with b | b
      · exact b.symm
      have c1 := h2'.1 x a
      have c2 := h1'.1 y b
      have := h.swap x y
      exact he x y (by omega)
    subst hxy
    rw [ordL_eq h he h1'.2 h2'.2 (List.Perm.cons_inv hp)]
end Go.X

/- This text walks through the functions by which rows and hits are compared, in any mode of the executor: in the strict one, what they leave of the world is known to the letter. -/
namespace Go.Y
open Go Go.X Go.Lib Go.Proofs
set_option maxRecDepth 100000
set_option maxHeartbeats 4000000
variable [Sm : Inhabited Manner]
/-- A strict contract tells the world to the letter: it has grown. -/
theorem exact_of {P : Program} {f : FuncId} {args : List V} {v : V} (hS : Sm.default = .strict) (h : FnS P f args [] [] (Is v)) (W : World) : Calls P f (args.map V.enc).toArray W fun e w' => e = .returned v.enc ∧ ∃ q os', w' = Sort.grow (W.drewN q) os' := by
  refine (h.run W (fun _ => none) ⟨List.nodup_nil, trivial, fun b o hb => (by cases hb), trivial⟩).mono ?_
  rintro e w' ⟨v', L', D', m', he, ⟨rfl, rfl, rfl⟩, _, hfr⟩
  refine ⟨he, w'.drawn - W.drawn, w'.heap.extract W.heap.size w'.heap.size, ?_⟩
  have hk := hfr.kept
  have hheap : w'.heap = W.heap ++ w'.heap.extract W.heap.size w'.heap.size := by
    apply Array.ext_getElem?
    intro b
    rw [Array.getElem?_append]
    split
    · rename_i hb
      exact hfr.same b hb (by simp [fps])
    · rename_i hb
      rw [Array.getElem?_extract]
      have := hfr.size
      by_cases hb2 : b < w'.heap.size
      · rw [if_pos (by omega), show W.heap.size + (b - W.heap.size) = b by omega]
      · rw [if_neg (by omega), Array.getElem?_eq_none (by omega)]
  have hd : w'.drawn = W.drawn + (w'.drawn - W.drawn) := by have := hk.drawn hS; omega
  obtain ⟨h1, h2, h3, h4, h5⟩ := w'
  obtain ⟨g1, g2, g3, g4, g5⟩ := W
  have e1 := hk.os; have e2 := hk.out; have e3 := hk.tape hS
  dsimp only at *
  subst e1 e2 e3
  simp only [Sort.grow, World.drewN]
  rw [← hheap, ← hd]
theorem stringsCompare_ok (a b : List UInt8) : FnS Tryz.prog 91 [.c (.s a), .c (.s b)] [] [] (Is (.c (.i .i64 (Lib.compareBytes a b)))) :=
  fn_pure ⟨_, Tryz.func91, by kernel_rfl, by kernel_rfl⟩ (Tryz.strings_Compare ⟨⟨a⟩⟩ ⟨⟨b⟩⟩)
theorem isNaN_ok (a : Int) : FnS Tryz.prog 90 [.c (.i .i64 a)] [] [] (Is ff) := by
  refine fn_of_J Tryz.tyOK 0 Tryz.func90 (by kernel_rfl) (c := Tryz.f90.body.getD .skip) (by kernel_rfl) Tryz.ntmps90 (rs := Tryz.f90.results.toList) rfl (by simp) (fun G => ?_)
  repeat' first | refine J_seq ?_ | refine J_region Tryz.tyOK ?_ | refine J_block ?_ | refine J_cond ?_ | refine J_ret ?_ | refine J_skip ?_ | refine J_exit ?_ | refine J_scope ?_ | refine CondP.y ?_ | refine CondP.n ?_ | refine CondP.mk (fun h => ?_) (fun h => ?_) | refine EqP.mk rfl ?_ | refine NewP.mk (fun ad => ?_) | refine ArP.x ?_ | refine SideP.a ?_ | refine FinE.is rfl | fail
theorem compareInt_ok (a b : Int) : FnS Tryz.prog 52 [.c (.i .i64 a), .c (.i .i64 b)] [] [] (Is (.c (.i .i64 (Lib.compareInt a b)))) := by
  have hq : ∃ q, Lib.compareInt a b = q := ⟨_, rfl⟩
  obtain ⟨q, hq⟩ := hq
  rw [hq]
  unfold Lib.compareInt at hq
  refine fn_of_J Tryz.tyOK 0 Tryz.func52 (by kernel_rfl) (c := Tryz.f52.body.getD .skip) (by kernel_rfl) Tryz.ntmps52 (rs := Tryz.f52.results.toList) rfl (by simp) (fun G => ?_)
  repeat' first | refine J_seq ?_ | refine J_region Tryz.tyOK ?_ | refine J_block ?_ | refine J_cond ?_ | refine J_ret ?_ | refine J_skip ?_ | refine J_exit ?_ | refine J_scope ?_ | refine CondP.y ?_ | refine CondP.n ?_ | refine CondP.mk (fun h => ?_) (fun h => ?_) | refine EqP.mk rfl ?_ | refine NewP.mk (fun ad => ?_) | refine ArP.x ?_ | refine SideP.a ?_ | refine CallP.is (isNaN_ok a) ?_ | refine CallP.is (isNaN_ok b) ?_ | refine FinE.int ?_ | fail
  all_goals (split at hq <;> first | omega | (split at hq <;> omega))
theorem or_ok (a : Option Addr) (c : Nat) (x y : Int) : FnS Tryz.prog 51 [.c (.sl a 2 c)] [.row 3 1 a 2 c [.i .i64 x, .i .i64 y]] [] (Is (.c (.i .i64 (if x ≠ 0 then x else y)))) := by
  have hrd : Reads [.row 3 1 a 2 c [.i .i64 x, .i .i64 y]] [] 3 1 a 2 [.i .i64 x, .i .i64 y] := .inl ⟨c, List.Mem.head _⟩
  refine fn_of_J Tryz.tyOK 0 Tryz.func51 (by kernel_rfl) (c := Tryz.f51.body.getD .skip) (by kernel_rfl) Tryz.ntmps51 (rs := Tryz.f51.results.toList) rfl (by simp) (fun G => ?_)
  repeat' first | refine J_seq ?_ | refine J_region Tryz.tyOK ?_ | refine J_block ?_ | refine J_cond ?_ | refine J_ret ?_ | refine J_skip ?_ | refine J_exit ?_ | refine J_scope ?_ | refine CondP.y ?_ | refine CondP.n ?_ | refine CondP.mk (fun h => ?_) (fun h => ?_) | refine EqP.mk rfl ?_ | refine NewP.mk (fun ad => ?_) | refine ArP.x ?_ | refine SideP.a ?_ | refine J_rounds 3 ?_ | refine JR_succ ?_ | refine IdxE.mk 3 1 _ hrd (by omega) (by omega) ?_ | refine LoadE.mk 3 _ _ _ hrd (by omega) (by omega) (by omega) rfl ?_ | refine FinE.int ?_ | fail
  all_goals simp [*]
theorem or3_ok (a : Option Addr) (c : Nat) (x y z : Int) : FnS Tryz.prog 51 [.c (.sl a 3 c)] [.row 3 1 a 3 c [.i .i64 x, .i .i64 y, .i .i64 z]] [] (Is (.c (.i .i64 (if x ≠ 0 then x else if y ≠ 0 then y else z)))) := by
  have hrd : Reads [.row 3 1 a 3 c [.i .i64 x, .i .i64 y, .i .i64 z]] [] 3 1 a 3 [.i .i64 x, .i .i64 y, .i .i64 z] := .inl ⟨c, List.Mem.head _⟩
  refine fn_of_J Tryz.tyOK 0 Tryz.func51 (by kernel_rfl) (c := Tryz.f51.body.getD .skip) (by kernel_rfl) Tryz.ntmps51 (rs := Tryz.f51.results.toList) rfl (by simp) (fun G => ?_)
  repeat' first | refine J_seq ?_ | refine J_region Tryz.tyOK ?_ | refine J_block ?_ | refine J_cond ?_ | refine J_ret ?_ | refine J_skip ?_ | refine J_exit ?_ | refine J_scope ?_ | refine CondP.y ?_ | refine CondP.n ?_ | refine CondP.mk (fun h => ?_) (fun h => ?_) | refine EqP.mk rfl ?_ | refine NewP.mk (fun ad => ?_) | refine ArP.x ?_ | refine SideP.a ?_ | refine J_rounds 4 ?_ | refine JR_succ ?_ | refine IdxE.mk 3 1 _ hrd (by omega) (by omega) ?_ | refine LoadE.mk 3 _ _ _ hrd (by omega) (by omega) (by omega) rfl ?_ | refine FinE.int ?_ | fail
  all_goals simp [*]
theorem compare_ok (a : Int) (x : List UInt8) (b : Int) (y : List UInt8) : FnS Tryz.prog 53 [.agg [.i .i64 a, .s x], .agg [.i .i64 b, .s y]] [] [] (Is (.c (.i .i64 (Go.X.compareT a x b y)))) := by
  refine fn_of_J Tryz.tyOK 0 Tryz.func53 (by kernel_rfl) (c := Tryz.f53.body.getD .skip) (by kernel_rfl) Tryz.ntmps53 (rs := Tryz.f53.results.toList) rfl (by simp) (fun G => ?_)
  repeat' first | refine J_seq ?_ | refine J_region Tryz.tyOK ?_ | refine J_block ?_ | refine J_cond ?_ | refine J_ret ?_ | refine J_skip ?_ | refine J_exit ?_ | refine J_scope ?_ | refine CondP.y ?_ | refine CondP.n ?_ | refine CondP.mk (fun h => ?_) (fun h => ?_) | refine EqP.mk rfl ?_ | refine NewP.mk (fun ad => ?_) | refine ArP.x ?_ | refine SideP.a ?_ | refine J_draw Tryz.tyOK (by kernel_rfl) [0, 1, 2, 3, 4, 5, 6, 7, 8, 9, 10, 11, 12] [10, 11] _ _ (by kernel_rfl) (Ents.refl _ _) ?_ | refine CallQ.mk [] _ (compareInt_ok a b) (fun _ _ => trivial) ?_ | refine CallQ.mk [] _ (stringsCompare_ok x y) (fun _ _ => trivial) ?_ | refine CallP.mk [_] _ [] _ (or_ok _ _ _ _) (List.Perm.refl _) (fun _ h => h) (fun v L' D' hp => ?_); obtain ⟨rfl, rfl, rfl⟩ := hp | refine EntP.mk (Ents.refl _ _) ?_ | refine EntP.mk Ents.drop ?_ | refine FinE.int ?_ | fail
  rfl
theorem compareRows_ok (x y : Go.X.WR) : FnS Tryz.prog 93 [.agg [.s x.w, .i .i64 x.sp, .s x.nm, .i .i64 x.n], .agg [.s y.w, .i .i64 y.sp, .s y.nm, .i .i64 y.n]] [] [] (Is (.c (.i .i64 (Go.X.cmpWR x y)))) := by
  refine fn_of_J Tryz.tyOK 0 Tryz.func93 (by kernel_rfl) (c := Tryz.f93.body.getD .skip) (by kernel_rfl) Tryz.ntmps93 (rs := Tryz.f93.results.toList) rfl (by simp) (fun G => ?_)
  repeat' first | refine J_seq ?_ | refine J_region Tryz.tyOK ?_ | refine J_block ?_ | refine J_cond ?_ | refine J_ret ?_ | refine J_skip ?_ | refine J_exit ?_ | refine J_scope ?_ | refine CondP.y ?_ | refine CondP.n ?_ | refine CondP.mk (fun h => ?_) (fun h => ?_) | refine EqP.mk rfl ?_ | refine NewP.mk (fun ad => ?_) | refine ArP.x ?_ | refine SideP.a ?_ | refine J_draw Tryz.tyOK (by kernel_rfl) [0, 1, 2, 3, 4, 5, 6, 7, 8, 9, 10, 11, 12, 13, 14, 15, 16, 17] [15, 16] _ _ (by kernel_rfl) (Ents.refl _ _) ?_ | refine CallQ.mk [] _ (compareInt_ok x.n y.n) (fun _ _ => trivial) ?_ | refine CallQ.mk [] _ (stringsCompare_ok x.w y.w) (fun _ _ => trivial) ?_ | refine CallQ.mk [] _ (compare_ok x.sp x.nm y.sp y.nm) (fun _ _ => trivial) ?_ | refine CallP.mk [_] _ [] _ (or3_ok _ _ _ _ _) (List.Perm.refl _) (fun _ h => h) (fun v L' D' hp => ?_); obtain ⟨rfl, rfl, rfl⟩ := hp | refine EntP.mk (Ents.refl _ _) ?_ | refine EntP.mk Ents.drop ?_ | refine FinE.int ?_ | fail
  rfl
theorem findCmp_ok (x y : Go.X.HT) : FnS Tryz.prog 50 [.agg [.i .i64 x.sp, .s x.nm, .i .i64 x.n], .agg [.i .i64 y.sp, .s y.nm, .i .i64 y.n]] [] [] (Is (.c (.i .i64 (Go.X.cmpHT x y)))) := by
  refine fn_of_J Tryz.tyOK 0 Tryz.func50 (by kernel_rfl) (c := Tryz.f50.body.getD .skip) (by kernel_rfl) Tryz.ntmps50 (rs := Tryz.f50.results.toList) rfl (by simp) (fun G => ?_)
  repeat' first | refine J_seq ?_ | refine J_region Tryz.tyOK ?_ | refine J_block ?_ | refine J_cond ?_ | refine J_ret ?_ | refine J_skip ?_ | refine J_exit ?_ | refine J_scope ?_ | refine CondP.y ?_ | refine CondP.n ?_ | refine CondP.mk (fun h => ?_) (fun h => ?_) | refine EqP.mk rfl ?_ | refine NewP.mk (fun ad => ?_) | refine ArP.x ?_ | refine SideP.a ?_ | refine J_draw Tryz.tyOK (by kernel_rfl) [0, 1, 2, 3, 4, 5, 6, 7, 8, 9, 10, 11, 12] [10, 11] _ _ (by kernel_rfl) (Ents.refl _ _) ?_ | refine CallQ.mk [] _ (compareInt_ok y.n x.n) (fun _ _ => trivial) ?_ | refine CallQ.mk [] _ (compare_ok x.sp x.nm y.sp y.nm) (fun _ _ => trivial) ?_ | refine CallP.mk [_] _ [] _ (or_ok _ _ _ _) (List.Perm.refl _) (fun _ h => h) (fun v L' D' hp => ?_); obtain ⟨rfl, rfl, rfl⟩ := hp | refine EntP.mk (Ents.refl _ _) ?_ | refine EntP.mk Ents.drop ?_ | refine FinE.int ?_ | fail
  rfl
end Go.Y

/- This text gives the contract of slices.SortFunc at rows of words and at hits. -/
namespace Go.X
open Go Go.Lib Go.Proofs
instance : Inhabited WR := ⟨⟨[], 0, [], 0⟩⟩
instance : Inhabited HT := ⟨⟨0, [], 0⟩⟩
theorem cmp_bytes : Cmp Lib.compareBytes := ⟨cmpB_swap, cmpB_trans⟩
theorem cmp_WR : Cmp cmpWR := ((cmp_bytes.on WR.w).lex ((cmp_title.on fun x : WR => (x.sp, x.nm)).lex (cmp_int.on WR.n)))
theorem cmp_HT : Cmp cmpHT := (((cmp_int.on HT.n).flip).lex (cmp_title.on fun x : HT => (x.sp, x.nm)))
end Go.X
namespace Go.Proofs
open Go Go.X
set_option maxRecDepth 100000
set_option maxHeartbeats 4000000
theorem bitsLen0_ok : FnS Tryz.prog 88 [.c (.i .u64 0)] [] [] (Is (.c (.i .i64 0))) :=
  fn_pure ⟨_, Tryz.func88, by kernel_rfl, by kernel_rfl⟩ (fun w => Tryz.bits_Len 0 w (by omega) (by omega))
theorem insRow0 (g : Nat) : FnS Tryz.prog 173 [.c (.sl none 0 0), .c (.i .i64 0), .c (.i .i64 0), .c (.fn g [])] [] [] (Is .t0) := by
  refine fn_of_J Tryz.tyOK 0 Tryz.func173 (by kernel_rfl) (c := Tryz.f173.body.getD .skip) (by kernel_rfl) Tryz.ntmps173 (rs := Tryz.f173.results.toList) rfl (by simp) (fun G => ?_)
  repeat' first | refine J_seq ?_ | refine J_region Tryz.tyOK ?_ | refine J_block ?_ | refine J_cond ?_ | refine J_ret ?_ | refine J_skip ?_ | refine J_exit ?_ | refine J_scope ?_ | refine CondP.y ?_ | refine CondP.n ?_ | refine CondP.mk (fun h => ?_) (fun h => ?_) | refine EqP.mk rfl ?_ | refine NewP.mk (fun ad => ?_) | refine ArP.x ?_ | refine SideP.a ?_ | refine J_rounds 1 ?_ | refine JR_succ ?_ | refine FinE.is rfl | fail
theorem pdqRow0 (g : Nat) : FnS Tryz.prog 139 [.c (.sl none 0 0), .c (.i .i64 0), .c (.i .i64 0), .c (.i .i64 0), .c (.fn g [])] [] [] (Is .t0) := by
  refine fn_of_J Tryz.tyOK 0 Tryz.func139 (by kernel_rfl) (c := Tryz.f139.body.getD .skip) (by kernel_rfl) Tryz.ntmps139 (rs := Tryz.f139.results.toList) rfl (by simp) (fun G => ?_)
  repeat' first | refine J_seq ?_ | refine J_region Tryz.tyOK ?_ | refine J_block ?_ | refine J_cond ?_ | refine J_ret ?_ | refine J_skip ?_ | refine J_exit ?_ | refine J_scope ?_ | refine CondP.y ?_ | refine CondP.n ?_ | refine CondP.mk (fun h => ?_) (fun h => ?_) | refine EqP.mk rfl ?_ | refine NewP.mk (fun ad => ?_) | refine ArP.x ?_ | refine SideP.a ?_ | refine J_rounds 1 ?_ | refine JR_succ ?_ | refine CallP.is (insRow0 g) ?_ | refine FinE.is rfl | fail
theorem sortRow0 (g : Nat) : FnS Tryz.prog 92 [.c (.sl none 0 0), .c (.fn g [])] [] [] (Is .t0) := by
  refine fn_of_J Tryz.tyOK 0 Tryz.func92 (by kernel_rfl) (c := Tryz.f92.body.getD .skip) (by kernel_rfl) Tryz.ntmps92 (rs := Tryz.f92.results.toList) rfl (by simp) (fun G => ?_)
  repeat' first | refine J_seq ?_ | refine J_region Tryz.tyOK ?_ | refine J_block ?_ | refine J_cond ?_ | refine J_ret ?_ | refine J_skip ?_ | refine J_exit ?_ | refine J_scope ?_ | refine CondP.y ?_ | refine CondP.n ?_ | refine CondP.mk (fun h => ?_) (fun h => ?_) | refine EqP.mk rfl ?_ | refine NewP.mk (fun ad => ?_) | refine ArP.x ?_ | refine SideP.a ?_ | refine CallP.is (pdqRow0 g) ?_ | refine CallP.is bitsLen0_ok ?_ | refine FinE.is rfl | fail
theorem sortRows_ok (a : Option Addr) (c : Nat) (l : List WR) (hl : l.length < 4611686018427387904) :
    FnS Tryz.prog 92 [.c (.sl a l.length c), .c (.fn 93 [])] [.row 60 4 a l.length c (wrC l)] []
      (fun v L D => ∃ l' : List WR, l'.Perm l ∧ l'.Pairwise (fun x y => ltOf cmpWR y x = false) ∧ v = .t0 ∧ L = [.row 60 4 a l.length c (wrC l')] ∧ D = []) :=
  fn_sort (F := WR.cells) (lt := ltOf cmpWR) (fun _ => rfl) (fun x y hy => by simp [WR.cells] at hy; rcases hy with rfl | rfl | rfl | rfl <;> rfl) (sortRow0 _)
    (fun blk cap d w hH hblk hsz => AnyQ.slices_SortFunc Tryz.sortF_WordRow 4 Tryz.isAgg60 Tryz.sizeOf60 (encF WR.cells) (fun _ => rfl) (fun x v hv => by simp [encF, WR.cells] at hv; rcases hv with rfl | rfl | rfl | rfl <;> rfl) cmpWR cmp_WR.swo 93 #[] blk 0 cap d w
      (enters_of Tryz.func93 (by kernel_rfl) rfl) (fun m os dk hs x y => Go.Y.exact_of (Sm := ⟨Manner.strict⟩) rfl (Go.Y.compareRows_ok (Sm := ⟨Manner.strict⟩) x y) _) hH hblk hsz) a c l hl
theorem insHit0 (g : Nat) : FnS Tryz.prog 130 [.c (.sl none 0 0), .c (.i .i64 0), .c (.i .i64 0), .c (.fn g [])] [] [] (Is .t0) := by
  refine fn_of_J Tryz.tyOK 0 Tryz.func130 (by kernel_rfl) (c := Tryz.f130.body.getD .skip) (by kernel_rfl) Tryz.ntmps130 (rs := Tryz.f130.results.toList) rfl (by simp) (fun G => ?_)
  repeat' first | refine J_seq ?_ | refine J_region Tryz.tyOK ?_ | refine J_block ?_ | refine J_cond ?_ | refine J_ret ?_ | refine J_skip ?_ | refine J_exit ?_ | refine J_scope ?_ | refine CondP.y ?_ | refine CondP.n ?_ | refine CondP.mk (fun h => ?_) (fun h => ?_) | refine EqP.mk rfl ?_ | refine NewP.mk (fun ad => ?_) | refine ArP.x ?_ | refine SideP.a ?_ | refine J_rounds 1 ?_ | refine JR_succ ?_ | refine FinE.is rfl | fail
theorem pdqHit0 (g : Nat) : FnS Tryz.prog 89 [.c (.sl none 0 0), .c (.i .i64 0), .c (.i .i64 0), .c (.i .i64 0), .c (.fn g [])] [] [] (Is .t0) := by
  refine fn_of_J Tryz.tyOK 0 Tryz.func89 (by kernel_rfl) (c := Tryz.f89.body.getD .skip) (by kernel_rfl) Tryz.ntmps89 (rs := Tryz.f89.results.toList) rfl (by simp) (fun G => ?_)
  repeat' first | refine J_seq ?_ | refine J_region Tryz.tyOK ?_ | refine J_block ?_ | refine J_cond ?_ | refine J_ret ?_ | refine J_skip ?_ | refine J_exit ?_ | refine J_scope ?_ | refine CondP.y ?_ | refine CondP.n ?_ | refine CondP.mk (fun h => ?_) (fun h => ?_) | refine EqP.mk rfl ?_ | refine NewP.mk (fun ad => ?_) | refine ArP.x ?_ | refine SideP.a ?_ | refine J_rounds 1 ?_ | refine JR_succ ?_ | refine CallP.is (insHit0 g) ?_ | refine FinE.is rfl | fail
theorem sortHit0 (g : Nat) : FnS Tryz.prog 49 [.c (.sl none 0 0), .c (.fn g [])] [] [] (Is .t0) := by
  refine fn_of_J Tryz.tyOK 0 Tryz.func49 (by kernel_rfl) (c := Tryz.f49.body.getD .skip) (by kernel_rfl) Tryz.ntmps49 (rs := Tryz.f49.results.toList) rfl (by simp) (fun G => ?_)
  repeat' first | refine J_seq ?_ | refine J_region Tryz.tyOK ?_ | refine J_block ?_ | refine J_cond ?_ | refine J_ret ?_ | refine J_skip ?_ | refine J_exit ?_ | refine J_scope ?_ | refine CondP.y ?_ | refine CondP.n ?_ | refine CondP.mk (fun h => ?_) (fun h => ?_) | refine EqP.mk rfl ?_ | refine NewP.mk (fun ad => ?_) | refine ArP.x ?_ | refine SideP.a ?_ | refine CallP.is (pdqHit0 g) ?_ | refine CallP.is bitsLen0_ok ?_ | refine FinE.is rfl | fail
theorem sortHits_ok (a : Option Addr) (c : Nat) (l : List HT) (hl : l.length < 4611686018427387904) :
    FnS Tryz.prog 49 [.c (.sl a l.length c), .c (.fn 50 [])] [.row 52 3 a l.length c (htC l)] []
      (fun v L D => ∃ l' : List HT, l'.Perm l ∧ l'.Pairwise (fun x y => ltOf cmpHT y x = false) ∧ v = .t0 ∧ L = [.row 52 3 a l.length c (htC l')] ∧ D = []) :=
  fn_sort (F := HT.cells) (lt := ltOf cmpHT) (fun _ => rfl) (fun x y hy => by simp [HT.cells] at hy; rcases hy with rfl | rfl | rfl <;> rfl) (sortHit0 _)
    (fun blk cap d w hH hblk hsz => AnyQ.slices_SortFunc Tryz.sortF_Hit 3 Tryz.isAgg52 Tryz.sizeOf52 (encF HT.cells) (fun _ => rfl) (fun x v hv => by simp [encF, HT.cells] at hv; rcases hv with rfl | rfl | rfl <;> rfl) cmpHT cmp_HT.swo 50 #[] blk 0 cap d w
      (enters_of Tryz.func50 (by kernel_rfl) rfl) (fun m os dk hs x y => Go.Y.exact_of (Sm := ⟨Manner.strict⟩) rfl (Go.Y.findCmp_ok (Sm := ⟨Manner.strict⟩) x y) _) hH hblk hsz) a c l hl
end Go.Proofs

/- This text walks through Clone, IndexFunc, DeleteFunc and Compact of the package slices at rows of words. -/
namespace Go.X
open Go Go.Lib
theorem resl0 (a : Option Addr) (c z : Nat) : resl a 0 c z = a := by
  unfold resl
  split
  · rfl
  · cases a <;> simp [Addr.add]
/-- A row of which only the first elements are wanted. -/
theorem Ents.rowPre {e z : Nat} {a : Option Addr} {n c k : Nat} {cs : List C} {L : List Chunk} {D : List Fact} (hk : k ≤ n) : Ents (.row e z a n c cs :: L) D (.row e z a k c (cs.take (k * z)) :: L) D := fun G w hs => by
  obtain ⟨m, h1, h2⟩ := hs
  have hok : (Chunk.row e z a k c (cs.take (k * z))).ok w := by
    refine ⟨fun x hx => h1.ok.1.1 x (List.mem_of_mem_take hx), ?_⟩
    rcases h1.ok.1.2 with ⟨h3, h4, h5, h6⟩ | ⟨g, hg, cur, lo, hi, h3, h4, h5, h6, h7, h8, h9⟩
    · exact .inl ⟨h3, by omega, h5, by rw [h6]; simp⟩
    · have hle : k * z ≤ n * z := Nat.mul_le_mul_right _ hk
      refine .inr ⟨g, hg, cur, lo, hi, h3, by omega, h5, h6, h7, by rw [List.length_take, h8]; omega, ?_⟩
      rw [List.map_take, ← h9, List.take_take, Nat.min_eq_left hle]
  exact ⟨m, ⟨h1.nd, ⟨hok, h1.ok.2⟩, h1.im, h1.d⟩, ⟨h2.size, h2.same, h2.own, h2.im, h2.new, h2.kept⟩⟩
theorem wrC_len (l : List WR) : (wrC l).length = l.length * 4 := flat_len (F := WR.cells) (z := 4) (fun _ => rfl) l
theorem wr_get {l : List WR} {i : Nat} (h : i < l.length) : ((wrC l).drop (i * 4 + 0)).take 4 = [.s l[i].w, .i .i64 l[i].sp, .s l[i].nm, .i .i64 l[i].n] := by
  rw [wrC, flat_get (F := WR.cells) (z := 4) (fun _ => rfl) h (by omega)]; rfl
theorem wrC_take (l : List WR) (k : Nat) : (wrC l).take (k * 4) = wrC (l.take k) := by
  induction l generalizing k with
  | nil => simp [wrC]
  | cons x r ih =>
    cases k with
    | zero => simp [wrC]
    | succ k =>
      have h := ih k
      simp only [wrC, List.flatMap_cons, List.take_succ_cons] at h ⊢
      rw [show (k + 1) * 4 = 4 + k * 4 by omega, List.take_append, show (WR.cells x).length = 4 from rfl, List.take_of_length_le (by show 4 ≤ _; omega), Nat.add_sub_cancel_left, h]
theorem wrC_set {l : List WR} {j : Nat} (hj : j < l.length) (x : WR) : setC (j * 4 + 0) x.cells (wrC l) = wrC (l.set j x) := by
  unfold wrC
  have key : ∀ (l : List WR) (j : Nat), j < l.length → setC (j * 4) x.cells (l.flatMap WR.cells) = (l.set j x).flatMap WR.cells := by
    intro l
    induction l with
    | nil => intro j h; simp at h
    | cons y r ih =>
      intro j h
      cases j with
      | zero =>
        simp only [List.flatMap_cons, List.set_cons_zero, Nat.zero_mul, setC, List.take_zero, List.nil_append, Nat.zero_add]
        rw [show (WR.cells x).length = (WR.cells y).length from rfl, List.drop_left]
      | succ j =>
        have := ih j (by simpa using h)
        simp only [List.flatMap_cons, List.set_cons_succ, ← this, setC]
        rw [show (j + 1) * 4 = (WR.cells y).length + j * 4 by show (j + 1) * 4 = 4 + j * 4; omega, List.take_append, List.take_of_length_le (by omega), Nat.add_sub_cancel_left, Nat.add_assoc, ← List.drop_drop, List.drop_left]
        simp
  exact key l j hj
theorem setC_take {o : Nat} {vs cs : List C} (h : o ≤ cs.length) : (setC o vs cs).take o = cs.take o := by
  unfold setC
  rw [List.append_assoc, List.take_append_of_le_length (by rw [List.length_take]; omega), List.take_take, Nat.min_self]
end Go.X
namespace Go.Proofs
open Go Go.X
set_option maxRecDepth 100000
set_option maxHeartbeats 4000000
end Go.Proofs

/- This text walks through Compact of the package slices at rows of words. -/
namespace Go.X
open Go Go.Lib
def cmptGo : WR → List WR → List WR
  | _, [] => []
  | p, y :: r => if y = p then cmptGo p r else y :: cmptGo y r
/-- The rows without equal neighbours. -/
def cmpt : List WR → List WR
  | [] => []
  | x :: r => x :: cmptGo x r
def nthW (l : List WR) (i : Nat) : WR := l.getD i default
theorem nthW_eq {l : List WR} {i : Nat} (h : i < l.length) : nthW l i = l[i] := by
  unfold nthW; rw [List.getD_eq_getElem?_getD, List.getElem?_eq_getElem h]; rfl
theorem wrC_drop (l : List WR) (k : Nat) : (wrC l).drop (k * 4) = wrC (l.drop k) := by
  have h := List.take_append_drop (k * 4) (wrC l)
  rw [wrC_take] at h
  have h2 : wrC l = wrC (l.take k) ++ wrC (l.drop k) := by
    unfold wrC
    rw [← List.flatMap_append, List.take_append_drop]
  have h3 : wrC (l.take k) ++ (wrC l).drop (k * 4) = wrC (l.take k) ++ wrC (l.drop k) := h.trans h2
  exact List.append_cancel_left h3
theorem wr_ext {x y : WR} (h : x.w = y.w ∧ (x.sp = y.sp ∧ x.nm = y.nm ∧ True) ∧ x.n = y.n ∧ True) : x = y := by
  obtain ⟨a, b, c, d⟩ := x
  obtain ⟨a', b', c', d'⟩ := y
  obtain ⟨h1, ⟨h2, h3, _⟩, h4, _⟩ := h
  dsimp only at h1 h2 h3 h4
  subst h1 h2 h3 h4
  rfl
theorem wr_ne {x y : WR} (h : ¬ (x.w = y.w ∧ (x.sp = y.sp ∧ x.nm = y.nm ∧ True) ∧ x.n = y.n ∧ True)) : ¬ x = y := fun e => h (by subst e; exact ⟨rfl, ⟨rfl, rfl, trivial⟩, rfl, trivial⟩)
theorem drop_at {m l : List WR} {d i : Nat} (h : m.drop d = l.drop d) (hi : d ≤ i) (h1 : i < m.length) (h2 : i < l.length) : m[i] = l[i] := by
  have := congrArg (fun x => x[i - d]?) h
  simp only [List.getElem?_drop, show d + (i - d) = i by omega, List.getElem?_eq_getElem h1, List.getElem?_eq_getElem h2] at this
  exact Option.some.inj this
theorem rsub {e : Nat} {a : Option Addr} {n c k : Nat} {m : List WR} {L : List Chunk} {D : List Fact} (hm : Chunk.row e 4 a n c (wrC m) ∈ L) (hn : m.length = n) (hk : k < n) (hc : n ≤ c) : Reads L D e 4 (resl a k c 4) (n - k) (wrC (m.drop k)) := by
  refine .sub a k n c (wrC m) hm ?_ (by omega) ?_
  · exact if_neg (by omega)
  · rw [wrC_drop, List.take_of_length_le]
    rw [wrC_len, List.length_drop]; omega
theorem wr_sub {m : List WR} {k i : Nat} (h : k + i < m.length) : ((wrC (m.drop k)).drop (i * 4 + 0)).take 4 = [.s m[k + i].w, .i .i64 m[k + i].sp, .s m[k + i].nm, .i .i64 m[k + i].n] := by
  rw [wr_get (l := m.drop k) (i := i) (by rw [List.length_drop]; omega)]
  simp
end Go.X
namespace Go.Proofs
open Go Go.X
set_option maxRecDepth 100000
set_option maxHeartbeats 8000000
theorem cptW_ok (a : Option Addr) (c : Nat) (l : List WR) (hl : l.length ≤ 10000000) :
    FnS Tryz.prog 94 [.c (.sl a l.length c)] [.row 60 4 a l.length c (wrC l)] []
      (fun v L D => v = .c (.sl a (cmpt l).length c) ∧ L = [.row 60 4 a (cmpt l).length c (wrC (cmpt l))] ∧ D = []) := by
  by_cases h2 : l.length < 2
  · have he : cmpt l = l := by
      match l, h2 with
      | [], _ => rfl
      | [x], _ => rfl
      | x :: y :: r, h => simp at h; omega
    rw [he]
    refine fn_of_J Tryz.tyOK 0 Tryz.func94 (by kernel_rfl) (c := Tryz.f94.body.getD .skip) (by kernel_rfl) Tryz.ntmps94 (rs := Tryz.f94.results.toList) rfl (by simp) (fun G => ?_)
    repeat' first | refine J_seq ?_ | refine J_region Tryz.tyOK ?_ | refine J_block ?_ | refine J_cond ?_ | refine J_ret ?_ | refine J_skip ?_ | refine J_exit ?_ | refine J_scope ?_ | refine CondP.y ?_ | refine CondP.n ?_ | refine CondP.mk (fun h => ?_) (fun h => ?_) | refine EqP.mk rfl ?_ | refine NewP.mk (fun ad => ?_) | refine ArP.x ?_ | refine SideP.a ?_ | refine FinE.mk [_] [] ⟨rfl, rfl, rfl⟩ (Ents.refl _ _) | fail
  · generalize hq : cmpt l = q
    refine fn_of_J Tryz.tyOK 0 Tryz.func94 (by kernel_rfl) (c := Tryz.f94.body.getD .skip) (by kernel_rfl) Tryz.ntmps94 (rs := Tryz.f94.results.toList) rfl (by simp) (fun G => ?_)
    refine J_cap (List.Mem.head _) (fun hnc _ _ => ?_)
    repeat' first | refine J_seq ?_ | refine J_region Tryz.tyOK ?_ | refine J_block ?_ | refine J_cond ?_ | refine J_ret ?_ | refine J_skip ?_ | refine J_exit ?_ | refine J_scope ?_ | refine CondP.y ?_ | refine CondP.n ?_ | refine CondP.mk (fun h => ?_) (fun h => ?_) | refine EqP.mk rfl ?_ | refine NewP.mk (fun ad => ?_) | refine ArP.x ?_ | refine SideP.a ?_ | fail
    refine J_loop (α := Nat) (fun k => [(0, .c (.sl a l.length c)), (3, .c (.i .i64 k))]) (fun _ => [.row 60 4 a l.length c (wrC l)]) (fun _ => []) 0
      (fun k => 1 ≤ k ∧ k ≤ l.length ∧ q = l.take k ++ cmptGo (nthW l (k - 1)) (l.drop k)) (fun k => l.length - k) (InFam.mk 1 ⟨Nat.le_refl _, by omega, ?_⟩ SubE.a (Ents.refl _ _)) (fun k hx => ?_)
    · rw [← hq]
      match l, h2 with
      | [], h => simp at h
      | x :: r, _ => rfl
    obtain ⟨hk1, hkn, he⟩ := hx
    by_cases hlt : k < l.length
    · have hg := wr_get hlt
      have hkk : ((k : Int) - 1).toNat = k - 1 := by omega
      have hg1 : ((wrC l).drop (((k : Int) - 1).toNat * 4 + 0)).take 4 = [.s l[k - 1].w, .i .i64 l[k - 1].sp, .s l[k - 1].nm, .i .i64 l[k - 1].n] := by rw [hkk]; exact wr_get (by omega)
      have hn1 : nthW l (k - 1) = l[k - 1] := nthW_eq (by omega)
      have hyes : l[k] = l[k - 1] → q = l.take k ++ cmptGo (nthW l k) (l.drop (k + 1)) := fun h => by
        rw [he, List.drop_eq_getElem_cons hlt, cmptGo, hn1, if_pos h, nthW_eq hlt, h]
      have hno : ¬ l[k] = l[k - 1] → q = l.take (k + 1) ++ cmptGo (nthW l k) (l.drop (k + 1)) := fun h => by
        rw [he, List.drop_eq_getElem_cons hlt, cmptGo, hn1, if_neg h, nthW_eq hlt, List.take_succ_eq_append_getElem hlt, List.append_assoc]
        rfl
      repeat' first | refine J_stop (c := .seq (.region 7 _ _) _) ?_ | refine J_seq ?_ | refine J_region Tryz.tyOK ?_ | refine J_block ?_ | refine J_cond ?_ | refine J_ret ?_ | refine J_skip ?_ | refine J_exit ?_ | refine J_scope ?_ | refine CondP.y ?_ | refine CondP.n ?_ | refine CondP.mk (fun h => ?_) (fun h => ?_) | refine EqP.mk rfl ?_ | refine NewP.mk (fun ad => ?_) | refine ArP.x ?_ | refine SideP.a ?_ | refine J_drawS (id := 6) Tryz.tyOK (by kernel_rfl) [0, 0, 3, 7, 0, 0, 32, 112, 240, 511] [0, 1, 2, 3, 4, 5, 6, 7, 8, 9] [] [18, 23] true (by kernel_rfl) ?_ | refine J_drawS (id := 11) Tryz.tyOK (by kernel_rfl) [0, 0, 3, 7, 0, 0, 32, 112, 240, 511] [0, 1, 2, 3, 4, 5, 6, 7, 8, 9] [] [37, 42] true (by kernel_rfl) ?_ | refine EntP.mk Ents.a ?_ | refine IdxE.mk 60 4 _ (.inl ⟨c, List.Mem.head _⟩) (by omega) (by omega) ?_ | refine LoadE.mk 60 _ _ _ (.inl ⟨c, List.Mem.head _⟩) (by omega) (by omega) (by first | omega | decide) hg ?_ | refine LoadE.mk 60 _ _ _ (.inl ⟨c, List.Mem.head _⟩) (by omega) (by omega) (by first | omega | decide) hg1 ?_ | refine Round.mk (k + 1) (by omega) ⟨by omega, by omega, ?_⟩ SubE.a (Ents.refl _ _) | fail
      · have hxy := wr_ext h
        have hq0 := hyes hxy
        clear hyes hno hg hg1 hn1 hkk he
        refine ⟨?_⟩
        refine J_ent (n' := 0) (env' := [(0, .c (.sl a l.length c)), (3, .c (.i .i64 k))]) SubE.a (Ents.refl _ _) ?_
        repeat' first | refine J_seq ?_ | refine J_region Tryz.tyOK ?_ | refine J_block ?_ | refine J_cond ?_ | refine J_ret ?_ | refine J_skip ?_ | refine J_exit ?_ | refine J_scope ?_ | refine CondP.y ?_ | refine CondP.n ?_ | refine CondP.mk (fun h => ?_) (fun h => ?_) | refine EqP.mk rfl ?_ | refine NewP.mk (fun ad => ?_) | refine ArP.x ?_ | refine SideP.a ?_ | fail
        refine J_loop (α := Nat × Nat × List WR) (fun x => [(0, .c (.sl a l.length c)), (3, .c (.i .i64 x.2.1)), (4, .c (.sl (resl a k c 4) (l.length - k) (c - k))), (5, .c (.i .i64 x.1))]) (fun x => [.row 60 4 a l.length c (wrC x.2.2)]) (fun _ => []) 0
          (fun x => 1 ≤ x.1 ∧ x.1 ≤ l.length - k ∧ k ≤ x.2.1 ∧ x.2.1 ≤ k + x.1 - 1 ∧ x.2.2.length = l.length ∧ x.2.2.drop (k + x.1 - 1) = l.drop (k + x.1 - 1) ∧ q = x.2.2.take x.2.1 ++ cmptGo (nthW l (k + x.1 - 1)) (l.drop (k + x.1))) (fun x => l.length - x.1) (InFam.mk (1, k, l) ⟨Nat.le_refl _, by dsimp only; omega, Nat.le_refl _, by dsimp only; omega, rfl, rfl, by dsimp only; exact hq0⟩ SubE.a (Ents.refl _ _)) (fun x hx => ?_)
        obtain ⟨j, i, m⟩ := x
        dsimp only at hx ⊢
        obtain ⟨hj1, hj2, hki, hij, hml, hdr, hq1⟩ := hx
        have hR : Reads [.row 60 4 a l.length c (wrC m)] [] 60 4 (resl a k c 4) (l.length - k) (wrC (m.drop k)) := rsub (List.Mem.head _) hml (by omega) hnc
        by_cases hjl : j < l.length - k
        · have e1 := drop_at hdr (i := k + j) (by omega) (by omega) (by omega)
          have e2 := drop_at hdr (i := k + (j - 1)) (by omega) (by omega) (by omega)
          have hg := wr_sub (m := m) (k := k) (i := j) (by omega)
          rw [e1] at hg
          have hg1 : ((wrC (m.drop k)).drop (((j : Int) - 1).toNat * 4 + 0)).take 4 = [.s l[k + (j - 1)].w, .i .i64 l[k + (j - 1)].sp, .s l[k + (j - 1)].nm, .i .i64 l[k + (j - 1)].n] := by
            rw [show ((j : Int) - 1).toNat = j - 1 by omega]
            have := wr_sub (m := m) (k := k) (i := j - 1) (by omega)
            rw [e2] at this
            exact this
          have hst : setC (i * 4 + 0) (WR.cells l[k + j]) (wrC m) = wrC (m.set i l[k + j]) := wrC_set (by omega) _
          have hn1 : nthW l (k + j - 1) = l[k + (j - 1)] := by rw [nthW_eq (by omega)]; simp only [show k + j - 1 = k + (j - 1) by omega]
          have hyes : l[k + j] = l[k + (j - 1)] → q = m.take i ++ cmptGo (nthW l (k + (j + 1) - 1)) (l.drop (k + (j + 1))) := fun h => by
            rw [hq1, List.drop_eq_getElem_cons (show k + j < l.length by omega), cmptGo, hn1, if_pos h, show k + (j + 1) - 1 = k + j by omega, nthW_eq (by omega), h]
            rfl
          have hno : ¬ l[k + j] = l[k + (j - 1)] → q = (m.set i l[k + j]).take (i + 1) ++ cmptGo (nthW l (k + (j + 1) - 1)) (l.drop (k + (j + 1))) := fun h => by
            rw [hq1, List.drop_eq_getElem_cons (show k + j < l.length by omega), cmptGo, hn1, if_neg h, show k + (j + 1) - 1 = k + j by omega, nthW_eq (by omega), List.take_succ_eq_append_getElem (by rw [List.length_set]; omega), List.append_assoc]
            simp [List.take_set_of_le]
            rfl
          have hdr1 : m.drop (k + (j + 1) - 1) = l.drop (k + (j + 1) - 1) := by
            rw [show k + (j + 1) - 1 = (k + j - 1) + 1 by omega, ← List.drop_drop, hdr, List.drop_drop]
          have hdr2 : (m.set i l[k + j]).drop (k + (j + 1) - 1) = l.drop (k + (j + 1) - 1) := by
            rw [List.drop_set_of_lt (by omega)]; exact hdr1
          repeat' first | refine J_seq ?_ | refine J_region Tryz.tyOK ?_ | refine J_block ?_ | refine J_cond ?_ | refine J_ret ?_ | refine J_skip ?_ | refine J_exit ?_ | refine J_scope ?_ | refine CondP.y ?_ | refine CondP.n ?_ | refine CondP.mk (fun h => ?_) (fun h => ?_) | refine EqP.mk rfl ?_ | refine NewP.mk (fun ad => ?_) | refine ArP.x ?_ | refine SideP.a ?_ | refine J_drawS (id := 6) Tryz.tyOK (by kernel_rfl) [0, 0, 3, 7, 0, 0, 32, 112, 240, 511] [0, 1, 2, 3, 4, 5, 6, 7, 8, 9] [] [18, 23] true (by kernel_rfl) ?_ | refine J_drawS (id := 11) Tryz.tyOK (by kernel_rfl) [0, 0, 3, 7, 0, 0, 32, 112, 240, 511] [0, 1, 2, 3, 4, 5, 6, 7, 8, 9] [] [37, 42] true (by kernel_rfl) ?_ | refine EntP.mk Ents.a ?_ | refine IdxE.mk 60 4 _ hR (by omega) (by omega) ?_ | refine IdxE.mk 60 4 _ (.inl ⟨c, List.Mem.head _⟩) (by omega) (by omega) ?_ | refine LoadE.mk 60 _ _ _ hR (by omega) (by omega) (by first | omega | decide) hg ?_ | refine LoadE.mk 60 _ _ _ hR (by omega) (by omega) (by first | omega | decide) hg1 ?_ | refine StoreE.mk [] _ _ _ _ _ _ rfl (by omega) (by omega) (Nat.le_of_ble_eq_true rfl) hst ?_ | refine Round.mk (j + 1, i, m) (by dsimp only; omega) ⟨by dsimp only; omega, by dsimp only; omega, hki, by dsimp only; omega, hml, hdr1, hyes (wr_ext (by assumption))⟩ SubE.a (Ents.refl _ _) | refine Round.mk (j + 1, i + 1, m.set i l[k + j]) (by dsimp only; omega) ⟨by dsimp only; omega, by dsimp only; omega, by dsimp only; omega, by dsimp only; omega, by rw [List.length_set]; exact hml, hdr2, hno (wr_ne (by assumption))⟩ SubE.a (Ents.refl _ _) | fail
        · have hjn : j = l.length - k := by omega
          subst hjn
          rw [show l.drop (k + (l.length - k)) = [] from List.drop_eq_nil_of_le (by omega)] at hq1
          have hq1 : q = m.take i ++ [] := hq1
          rw [List.append_nil] at hq1
          have hql : q.length = i := by rw [hq1, List.length_take]; omega
          have hwl := wrC_len m
          repeat' first | refine J_seq ?_ | refine J_region Tryz.tyOK ?_ | refine J_block ?_ | refine J_cond ?_ | refine J_ret ?_ | refine J_skip ?_ | refine J_exit ?_ | refine J_scope ?_ | refine CondP.y ?_ | refine CondP.n ?_ | refine CondP.mk (fun h => ?_) (fun h => ?_) | refine EqP.mk rfl ?_ | refine NewP.mk (fun ad => ?_) | refine ArP.x ?_ | refine SideP.a ?_ | refine ClearE.mk [] _ _ _ _ (i : Int).toNat _ _ rfl (if_neg (by omega)) (by omega) ?_ | refine FinE.mk [_] [] ⟨?_, rfl, rfl⟩ ((Ents.rowPre (k := i) (by omega)).trans (Ents.of ?_)) | fail
          · show V.c (C.sl (resl a 0 c 4) (i : Int).toNat c) = _
            rw [resl0, hql, Int.toNat_natCast]
          · show [Chunk.row _ 4 a i c ((setC ((i : Int).toNat * 4) (repC (l.length - (i : Int).toNat) [C.s [], C.i .i64 0, C.s [], C.i .i64 0]) (wrC m)).take (i * 4))] = _
            rw [Int.toNat_natCast, setC_take (by omega), wrC_take, ← hq1, hql]
      · exact hno (wr_ne h)
    · have hkl : k = l.length := by omega
      subst hkl
      rw [List.take_length, List.drop_length] at he
      have he : q = l ++ [] := he
      rw [List.append_nil] at he
      subst he
      repeat' first | refine J_seq ?_ | refine J_region Tryz.tyOK ?_ | refine J_block ?_ | refine J_cond ?_ | refine J_ret ?_ | refine J_skip ?_ | refine J_exit ?_ | refine J_scope ?_ | refine CondP.y ?_ | refine CondP.n ?_ | refine CondP.mk (fun h => ?_) (fun h => ?_) | refine EqP.mk rfl ?_ | refine NewP.mk (fun ad => ?_) | refine ArP.x ?_ | refine SideP.a ?_ | refine FinE.mk [_] [] ⟨rfl, rfl, rfl⟩ (Ents.refl _ _) | fail
end Go.Proofs

/- This text walks through the function Put of the package search. This text holds the plain law of ordered lists: rows added one by one to an ordered list are the rows sorted, without equal ones. -/
namespace Go.X
open Go Go.Lib Go.Proofs
theorem cmpWR_eq (x y : WR) (h : cmpWR x y = 0) : x = y := by
  unfold cmpWR at h
  split at h
  · rename_i h1; exact absurd h h1
  · rename_i h1
    split at h
    · rename_i h2; exact absurd h h2
    · rename_i h2
      have e1 := (cmpB_eq _ _).1 (Classical.not_not.1 h1)
      have e2 := (compareT_eq _ _ _ _).1 (Classical.not_not.1 h2)
      have e3 : x.n = y.n := by 
        unfold Lib.compareInt at h
        split at h
        · omega
        · split at h
          · omega
          · omega
      obtain ⟨a, b, c, d⟩ := x
      obtain ⟨a', b', c', d'⟩ := y
      dsimp only at e1 e2 e3
      obtain ⟨e4, e5⟩ := e2
      subst e1 e4 e5 e3
      rfl
def leW (x y : WR) : Bool := decide (cmpWR x y ≤ 0)
/-- The rows in order, without duplicates. -/
def ordW (l : List WR) : List WR := cmpt (l.mergeSort leW)
theorem leW_total (x y : WR) : (leW x y || leW y x) = true := by
  have := cmp_WR.swap x y
  simp only [leW, Bool.or_eq_true, decide_eq_true_eq]
  omega
theorem leW_trans (x y z : WR) (h1 : leW x y = true) (h2 : leW y z = true) : leW x z = true := by
  simp only [leW, decide_eq_true_eq] at *
  exact cmp_WR.trans x y z h1 h2
theorem sorted_is {l l' : List WR} (hp : l'.Perm l) (hs : l'.Pairwise fun x y => ltOf cmpWR y x = false) : l' = l.mergeSort leW := by
  refine ordL_eq cmp_WR cmpWR_eq (ordL_of cmp_WR hs) ?_ (hp.trans (List.mergeSort_perm l leW).symm)
  refine (List.pairwise_mergeSort leW_trans leW_total l).imp fun {x y} h => ?_
  simpa [leW] using h
theorem cmptGo_len : ∀ (r : List WR) (p : WR), (cmptGo p r).length ≤ r.length
  | [], _ => Nat.le_refl _
  | y :: r, p => by
    simp only [cmptGo]
    split
    · have := cmptGo_len r p; simp; omega
    · have := cmptGo_len r y; simp; omega
theorem cmpt_len (l : List WR) : (cmpt l).length ≤ l.length := by
  cases l with
  | nil => exact Nat.le_refl _
  | cons x r => have := cmptGo_len r x; simp [cmpt]; omega
theorem ordW_len (l : List WR) : (ordW l).length ≤ l.length := by
  have := cmpt_len (l.mergeSort leW)
  rwa [List.length_mergeSort] at this
end Go.X
namespace Go.Proofs
open Go Go.X
set_option maxRecDepth 100000
set_option maxHeartbeats 4000000
theorem ordered_ok (a : Option Addr) (c : Nat) (l : List WR) (hl : l.length ≤ 10000000) :
    FnS Tryz.prog 60 [.c (.sl a l.length c)] [.row 60 4 a l.length c (wrC l)] []
      (fun v L D => v = .c (.sl a (ordW l).length c) ∧ L = [.row 60 4 a (ordW l).length c (wrC (ordW l))] ∧ D = []) := by
  have cs := sortRows_ok a c l (by omega)
  have cc := cptW_ok a c (l.mergeSort leW) (by rw [List.length_mergeSort]; exact hl)
  rw [List.length_mergeSort] at cc
  refine fn_of_J Tryz.tyOK 0 Tryz.func60 (by kernel_rfl) (c := Tryz.f60.body.getD .skip) (by kernel_rfl) Tryz.ntmps60 (rs := Tryz.f60.results.toList) rfl (by simp) (fun G => ?_)
  repeat' first | refine J_seq ?_ | refine J_region Tryz.tyOK ?_ | refine J_block ?_ | refine J_cond ?_ | refine J_ret ?_ | refine J_skip ?_ | refine J_exit ?_ | refine J_scope ?_ | refine CondP.y ?_ | refine CondP.n ?_ | refine CondP.mk (fun h => ?_) (fun h => ?_) | refine EqP.mk rfl ?_ | refine NewP.mk (fun ad => ?_) | refine ArP.x ?_ | refine SideP.a ?_ | refine CallP.mk [_] [] [] _ cs (List.Perm.refl _) (fun _ _ => trivial) (fun v L' D' hq => ?_); obtain ⟨l', hp, hs, rfl, rfl, rfl⟩ := hq; rw [sorted_is hp hs] | refine CallP.mk [_] [] [] _ cc (List.Perm.refl _) (fun _ _ => trivial) (fun v L' D' hq => ?_); obtain ⟨rfl, rfl, rfl⟩ := hq | refine FinE.mk [_] [] ⟨rfl, rfl, rfl⟩ (Ents.refl _ _) | fail
end Go.Proofs
namespace Go.X
open Go Go.Lib Go.Proofs
/-- A list in strict order. -/
def StrL {α : Type} (cf : α → α → Int) (l : List α) : Prop := l.Pairwise fun x y => cf x y < 0
theorem strL_eq {α : Type} {cf : α → α → Int} (h : Cmp cf) : ∀ {l l' : List α}, StrL cf l → StrL cf l' → (∀ x, x ∈ l ↔ x ∈ l') → l = l'
  | [], [], _, _, _ => rfl
  | [], y :: s, _, _, hm => by have := (hm y).2 (List.mem_cons_self ..); cases this
  | x :: r, [], _, _, hm => by have := (hm x).1 (List.mem_cons_self ..); cases this
  | x :: r, y :: s, h1, h2, hm => by
    have h1' := List.pairwise_cons.1 h1
    have h2' := List.pairwise_cons.1 h2
    have hxy : x = y := by
      rcases List.mem_cons.1 ((hm x).1 (List.mem_cons_self ..)) with a | a
      · exact a
      rcases List.mem_cons.1 ((hm y).2 (List.mem_cons_self ..)) with b | b
      · exact b.symm
      have c1 := h2'.1 x a
      have c2 := h1'.1 y b
      have := h.swap x y
      omega
    subst hxy
    rw [strL_eq h h1'.2 h2'.2 (fun z => ⟨fun hz => ?_, fun hz => ?_⟩)]
    · rcases List.mem_cons.1 ((hm z).1 (List.mem_cons_of_mem _ hz)) with e | e
      · subst e; have := h1'.1 z hz; have := h.refl z; omega
      · exact e
    · rcases List.mem_cons.1 ((hm z).2 (List.mem_cons_of_mem _ hz)) with e | e
      · subst e; have := h2'.1 z hz; have := h.refl z; omega
      · exact e
theorem Cmp.lt_trans {α : Type} {cf : α → α → Int} (h : Cmp cf) {x y z : α} (h1 : cf x y < 0) (h2 : cf y z ≤ 0) : cf x z < 0 := by
  have a1 := h.swap x z; have a2 := h.swap y z; have a3 := h.swap x y
  have t1 := h.trans x y z (by omega) (by omega)
  have t2 := h.trans y z x
  omega
theorem cmptGo_str : ∀ (r : List WR) (p : WR), (p :: r).Pairwise (fun x y => cmpWR x y ≤ 0) → StrL cmpWR (p :: cmptGo p r) ∧ ∀ z, z ∈ p :: cmptGo p r ↔ z ∈ p :: r
  | [], p, _ => ⟨List.pairwise_cons.2 ⟨fun _ h => (by cases h), List.Pairwise.nil⟩, fun z => Iff.rfl⟩
  | y :: r, p, h => by
    have h' := List.pairwise_cons.1 h
    simp only [cmptGo]
    split
    · rename_i e
      subst e
      obtain ⟨a, b⟩ := cmptGo_str r y h'.2
      refine ⟨a, fun z => ?_⟩
      rw [b]; simp
    · rename_i e
      obtain ⟨a, b⟩ := cmptGo_str r y h'.2
      have hpy : cmpWR p y < 0 := by
        have := h'.1 y (List.mem_cons_self ..)
        have : cmpWR p y ≠ 0 := fun e' => e (cmpWR_eq p y e').symm
        omega
      refine ⟨List.pairwise_cons.2 ⟨fun z hz => ?_, a⟩, fun z => ?_⟩
      · rcases List.mem_cons.1 hz with hz | hz
        · rw [hz]; exact hpy
        · exact cmp_WR.lt_trans hpy (by have := (List.pairwise_cons.1 a).1 z hz; omega)
      · rw [List.mem_cons, b]; exact List.mem_cons.symm
theorem ordW_str (l : List WR) : StrL cmpWR (ordW l) ∧ ∀ z, z ∈ ordW l ↔ z ∈ l := by
  have hs : (l.mergeSort leW).Pairwise fun x y => cmpWR x y ≤ 0 := (List.pairwise_mergeSort leW_trans leW_total l).imp fun {x y} h => by simpa [leW] using h
  have hm : ∀ z, z ∈ l.mergeSort leW ↔ z ∈ l := fun z => (List.mergeSort_perm l leW).mem_iff
  unfold ordW
  generalize l.mergeSort leW = s at *
  cases s with
  | nil => exact ⟨List.Pairwise.nil, fun z => by rw [← hm]; exact Iff.rfl⟩
  | cons x r =>
    obtain ⟨a, b⟩ := cmptGo_str r x hs
    exact ⟨a, fun z => by rw [← hm]; exact b z⟩
theorem ordW_of_str {l : List WR} (h : StrL cmpWR l) : ordW l = l := by
  obtain ⟨a, b⟩ := ordW_str l
  exact strL_eq cmp_WR a h b
end Go.X
