/- This text says in plain Lean what the functions on titles compute. -/
import Derived.Test.YtdnkeinjfddmnaaGreatDoorStr
import Derived.Lib.SlTrimSet
set_option linter.all false

namespace Go.X

def lowB (b : UInt8) : UInt8 := if 65 ≤ b ∧ b ≤ 90 then b + 32 else b

theorem lowB_yes {b : UInt8} (h : 65 ≤ (b.toNat : Int)) (h' : (b.toNat : Int) ≤ 90) : ((lowB b).toNat : Int) = b.toNat + 32 := by
  have h1 : (65 : UInt8) ≤ b := by rw [UInt8.le_iff_toNat_le]; simp; omega
  have h2 : b ≤ (90 : UInt8) := by rw [UInt8.le_iff_toNat_le]; simp; omega
  unfold lowB
  rw [if_pos ⟨h1, h2⟩, UInt8.toNat_add]
  simp; omega
theorem lowB_no {b : UInt8} (h : ¬ (65 ≤ (b.toNat : Int) ∧ (b.toNat : Int) ≤ 90)) : lowB b = b := by
  unfold lowB
  rw [if_neg]
  rintro ⟨h1, h2⟩
  rw [UInt8.le_iff_toNat_le] at h1 h2
  simp at h1 h2
  omega

/-- The names of the namespaces. -/
def spName : Nat → List UInt8
  | 1 => [84, 97, 108, 107]
  | 2 => [85, 115, 101, 114]
  | 3 => [84, 101, 109, 112, 108, 97, 116, 101]
  | 4 => [67, 97, 116, 101, 103, 111, 114, 121]
  | 5 => [80, 114, 111, 106, 101, 99, 116]
  | _ => []

def spaceNo (p : List UInt8) : Nat :=
  if p.map lowB = (spName 1).map lowB then 1 else if p.map lowB = (spName 2).map lowB then 2 else if p.map lowB = (spName 3).map lowB then 3
  else if p.map lowB = (spName 4).map lowB then 4 else if p.map lowB = (spName 5).map lowB then 5 else 0

/-- Which namespace the front of a text names. -/
def colonNo (s : List UInt8) : Nat := if (cutAt 58 s).2.2 = true then spaceNo (Lib.trimSuffix (cutAt 58 s).1 [32]) else 0

/-- What lies behind its colon. -/
def behind (s : List UInt8) : List UInt8 := (cutAt 58 s).2.1

/-- A byte that a name must not have. -/
def badB (c : UInt8) : Bool := decide ((c.toNat : Int) < 32) || decide ((c.toNat : Int) = 127) || decide (0 ≤ Lib.indexByte [60, 62, 91, 93, 123, 125, 124, 35, 95] c)

/-- Only bytes that names may have, and no two blanks one behind the other; p: is there a blank ahead? -/
def cleanB : Bool → List UInt8 → Bool
  | _, [] => true
  | p, c :: r => !badB c && !(p && c.toNat == 32) && cleanB (c.toNat == 32) r

/-- A piece of a name. -/
def pieceOK (p : List UInt8) : Bool := !decide (p = []) && !decide (((p.getD 0 0).toNat : Int) = 32) && !decide (((p.getD ((p.length : Int) - 1).toNat 0).toNat : Int) = 32)

/-- The first byte is neither ":" nor a small letter. -/
def headOK (s : List UInt8) : Bool := !decide (((s.getD 0 0).toNat : Int) = 58) && !(decide (97 ≤ ((s.getD 0 0).toNat : Int)) && decide (((s.getD 0 0).toNat : Int) ≤ 122))

def validT (sp : Int) (s : List UInt8) : Bool :=
  !decide (sp < 0) && !decide (6 ≤ sp) && !decide ((s.length : Int) < 1) && !decide (100 < (s.length : Int)) && cleanB false s && (splitOn 47 s).all pieceOK && headOK s && (!decide (sp = 0) || !decide (colonNo s ≠ 0))

/-- One byte behind a text with single blanks. -/
def stepB (out : List UInt8) (c : UInt8) : List UInt8 :=
  if (!decide ((c.toNat : Int) = 32) || (decide (0 < (out.length : Int)) && !decide (((out.getD ((out.length : Int) - 1).toNat 0).toNat : Int) = 32))) = true then out ++ [c] else out

def outB (s : List UInt8) (i : Nat) : List UInt8 := (s.take i).foldl stepB []

theorem outB_succ {s : List UInt8} {i : Nat} (h : i < s.length) : outB s (i + 1) = stepB (outB s i) (s.getD i 0) := by
  unfold outB
  rw [List.take_succ_eq_append_getElem h, List.foldl_append]
  simp [h]
theorem outB_all (s : List UInt8) : outB s s.length = s.foldl stepB [] := by simp [outB]
theorem stepB_le (out : List UInt8) (c : UInt8) : (stepB out c).length ≤ out.length + 1 := by unfold stepB; split <;> simp
theorem outB_le {s : List UInt8} : ∀ {i : Nat}, i ≤ s.length → (outB s i).length ≤ i
  | 0, _ => by simp [outB]
  | i + 1, h => by
    have := outB_le (s := s) (i := i) (by omega)
    rw [outB_succ (by omega)]
    exact Nat.le_trans (stepB_le _ _) (by omega)

/-- Without blanks at both ends, and with one blank for each sequence of blanks. -/
def singleB (s : List UInt8) : List UInt8 := Lib.trimSuffix (s.foldl stepB []) [32]

/-- Piece i of n, without the blanks next to a "/". -/
def slP (n i : Nat) (p : List UInt8) : List UInt8 :=
  if (i : Int) < (n : Int) - 1 then Lib.trimRightB (if 0 < (i : Int) then Lib.trimLeftB p 32 else p) 32 else (if 0 < (i : Int) then Lib.trimLeftB p 32 else p)

def slashPieces (s : List UInt8) : List (List UInt8) := (splitOn 47 s).mapIdx fun i p => slP (splitOn 47 s).length i p

/-- Without the blanks directly before and after each "/". -/
def slashesB (s : List UInt8) : List UInt8 := joinOn 47 (slashPieces s)

theorem dropWhile_le {p : UInt8 → Bool} : ∀ l : List UInt8, (l.dropWhile p).length ≤ l.length
  | [] => by simp
  | x :: r => by
    have := dropWhile_le (p := p) r
    simp only [List.dropWhile_cons]; split <;> simp; omega
theorem trimLeftB_le (l : List UInt8) (c : UInt8) : (Lib.trimLeftB l c).length ≤ l.length := dropWhile_le l
theorem trimRightB_le (l : List UInt8) (c : UInt8) : (Lib.trimRightB l c).length ≤ l.length := by
  have := dropWhile_le (p := (· == c)) l.reverse
  simpa [Lib.trimRightB] using this
theorem slP_le (n i : Nat) (p : List UInt8) : (slP n i p).length ≤ p.length := by
  have h1 := trimLeftB_le p 32
  unfold slP
  split
  · split
    · exact Nat.le_trans (trimRightB_le _ _) h1
    · exact trimRightB_le _ _
  · split
    · exact h1
    · exact Nat.le_refl _
theorem slashPieces_len (s : List UInt8) : (slashPieces s).length = (splitOn 47 s).length := by simp [slashPieces]
theorem slashPieces_get (s : List UInt8) {i : Nat} (h : i < (slashPieces s).length) (h' : i < (splitOn 47 s).length) : (slashPieces s)[i] = slP (splitOn 47 s).length i (splitOn 47 s)[i] := by simp [slashPieces]
theorem slashPieces_mem (s p : List UInt8) (h : p ∈ slashPieces s) : p.length ≤ s.length := by
  obtain ⟨i, hi, rfl⟩ := List.getElem_of_mem h
  have hi' : i < (splitOn 47 s).length := by rw [← slashPieces_len]; exact hi
  rw [slashPieces_get s hi hi']
  exact Nat.le_trans (slP_le _ _ _) (mem_splitOn_le 47 s _ (List.getElem_mem hi'))
theorem slashesB_le (s : List UInt8) : (slashesB s).length ≤ (s.length + 1) * (s.length + 1) := by
  refine Nat.le_trans (joinOn_length_le 47 s.length _ (slashPieces_mem s)) (Nat.mul_le_mul_right _ ?_)
  rw [slashPieces_len]; exact splitOn_length_le 47 s

theorem slashesB_short (s : List UInt8) : (slashesB s).length ≤ s.length := by
  have h := joinOn_le 47 (slashPieces s) (splitOn 47 s) (slashPieces_len s) (fun i h h' => by rw [slashPieces_get s h h']; exact slP_le _ _ _)
  rwa [join_splitOn] at h

theorem trimSuffix_le (s p : List UInt8) : (Lib.trimSuffix s p).length ≤ s.length := by
  unfold Lib.trimSuffix; split
  · simp
  · exact Nat.le_refl _
theorem trimPrefix_le (s p : List UInt8) : (Lib.trimPrefix s p).length ≤ s.length := by
  unfold Lib.trimPrefix; split
  · simp
  · exact Nat.le_refl _
theorem cutAt_len1 (c : UInt8) : ∀ s : List UInt8, (cutAt c s).1.length ≤ s.length
  | [] => by simp [cutAt]
  | x :: r => by
    have := cutAt_len1 c r
    simp only [cutAt]; split <;> simp; omega
theorem cutAt_len2 (c : UInt8) : ∀ s : List UInt8, (cutAt c s).2.1.length ≤ s.length
  | [] => by simp [cutAt]
  | x :: r => by
    have := cutAt_len2 c r
    simp only [cutAt]; split <;> simp; omega
theorem behind_le (s : List UInt8) : (behind s).length ≤ s.length := cutAt_len2 58 s
theorem singleB_le (s : List UInt8) : (singleB s).length ≤ s.length := by
  have h := outB_le (s := s) (Nat.le_refl _)
  rw [outB_all] at h
  exact Nat.le_trans (trimSuffix_le _ _) h

/-- Each "_" as a blank. -/
def usc (s : List UInt8) : List UInt8 := s.map fun x => if x = 95 then 32 else x
/-- Without a ":" ahead. -/
def noColon (t : List UInt8) : List UInt8 := if ([58] : List UInt8).isPrefixOf t = true then Lib.trimPrefix (t.drop 1) [32] else t
/-- Without the name of a namespace ahead. -/
def noSpace (t : List UInt8) : List UInt8 := if decide (colonNo t ≠ 0) = true then Lib.trimPrefix (behind t) [32] else t
/-- With a large letter first. -/
def upB (t : List UInt8) : List UInt8 := if (!decide (t = []) && decide (97 ≤ ((t.getD 0 0).toNat : Int)) && decide (((t.getD 0 0).toNat : Int) ≤ 122)) = true then [t.getD 0 0 - 32] ++ t.drop 1 else t

def spaceP (s : List UInt8) : Nat := colonNo (noColon (singleB (usc s)))
def nameP (s : List UInt8) : List UInt8 := upB (slashesB (noSpace (noColon (singleB (usc s)))))

/-- The namespace, the name and the error that a text gives. -/
def parseT (s : List UInt8) : Int × List UInt8 × Int :=
  if decide (100 < ((nameP s).length : Int)) = true then (0, [], 3) else if validT (spaceP s) (nameP s) = true then (spaceP s, nameP s, 0) else (0, [], 1)

theorem upB_len (t : List UInt8) : (upB t).length = t.length := by
  unfold upB; split
  · rename_i h
    cases t with
    | nil => simp at h
    | cons a r => simp
  · rfl
theorem noColon_le (t : List UInt8) : (noColon t).length ≤ t.length := by
  unfold noColon; split
  · exact Nat.le_trans (trimPrefix_le _ _) (by simp)
  · exact Nat.le_refl _
theorem noSpace_le (t : List UInt8) : (noSpace t).length ≤ t.length := by
  unfold noSpace; split
  · exact Nat.le_trans (trimPrefix_le _ _) (behind_le _)
  · exact Nat.le_refl _
theorem nameP_le (s : List UInt8) : (nameP s).length ≤ s.length := by
  unfold nameP
  rw [upB_len]
  have h : (usc s).length = s.length := by simp [usc]
  exact Nat.le_trans (slashesB_short _) (Nat.le_trans (noSpace_le _) (Nat.le_trans (noColon_le _) (Nat.le_trans (singleB_le _) (by omega))))

theorem validT_bounds {sp : Int} {s : List UInt8} (h : validT sp s = true) : 0 ≤ sp ∧ sp < 6 ∧ 1 ≤ s.length ∧ s.length ≤ 100 := by
  unfold validT at h
  simp only [Bool.and_eq_true, Bool.not_eq_true', decide_eq_false_iff_not] at h
  omega

/-- The text of a valid title. -/
def formatT (sp : Int) (s : List UInt8) : List UInt8 := if validT sp s = true then (if sp = 0 then s else spName sp.toNat ++ [58] ++ s) else []

theorem spName_le (n : Nat) : (spName n).length ≤ 8 := by unfold spName; split <;> decide
theorem formatT_le (sp : Int) (s : List UInt8) : (formatT sp s).length ≤ 109 := by
  unfold formatT
  split
  · rename_i h
    have h1 := validT_bounds h
    have h2 := spName_le sp.toNat
    split <;> simp <;> omega
  · simp

/-- The order of titles. -/
def compareT (a : Int) (x : List UInt8) (b : Int) (y : List UInt8) : Int := if Lib.compareInt a b ≠ 0 then Lib.compareInt a b else Lib.compareBytes x y

/-- The title that a text names, which may begin at a base. -/
def resolveT (sp : Int) (n s : List UInt8) : Int × List UInt8 × Int :=
  if ([47] : List UInt8).isPrefixOf (Lib.trimLeftS s [32, 95]) = true then parseT (formatT sp n ++ Lib.trimLeftS s [32, 95]) else parseT s

/-- The texts ahead of each "/" among the first i bytes. -/
def ancL (s : List UInt8) : Nat → List (List UInt8)
  | 0 => []
  | i + 1 => if ((s.getD i 0).toNat : Int) = 47 then ancL s i ++ [s.take i] else ancL s i

def ancT (sp : Int) (s : List UInt8) : List (List UInt8) := if validT sp s = true then ancL s s.length else []

theorem ancL_le (s : List UInt8) : ∀ i, (ancL s i).length ≤ i
  | 0 => by simp [ancL]
  | i + 1 => by
    have := ancL_le s i
    simp only [ancL]; split
    · simp; omega
    · omega

attribute [irreducible] validT nameP spaceP parseT formatT resolveT

end Go.X
