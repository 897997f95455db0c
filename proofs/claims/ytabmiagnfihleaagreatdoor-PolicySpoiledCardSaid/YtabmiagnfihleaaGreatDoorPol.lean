/- This text says in plain Lean what the functions on policies compute: names, groups, rules, guards and the first error of a policy. -/
import Derived.Test.YtabmiagnfihleaaGreatDoorTitle
import Derived.Test.YtabmiagnfihleaaGreatDoorFields
import Derived.Test.YtabmiagnfihleaaGreatDoorLib
import Derived.Lib.SlTrimSet
set_option linter.all false

namespace Go.X

abbrev Bs := List UInt8

/-- A group as it lies in memory. -/
structure GrpM where
  name : Bs
  a : Option Addr
  c : Nat
  mem : List Bs
structure Rul where
  allow : Bool
  right : Int
  group : Bs
  kind : Int
  sp : Int
  nm : Bs
structure Grd where
  strict : Bool
  group : Bs
  sp : Int
  nm : Bs
  sect : Bs

def GrpM.cells (g : GrpM) : List C := [.s g.name, .sl g.a g.mem.length g.c]
def Rul.cells (r : Rul) : List C := [.b r.allow, .i .i64 r.right, .s r.group, .i .i64 r.kind, .i .i64 r.sp, .s r.nm]
def Grd.cells (g : Grd) : List C := [.b g.strict, .s g.group, .i .i64 g.sp, .s g.nm, .s g.sect]

def gsC (l : List GrpM) : List C := l.flatMap GrpM.cells
def rsC (l : List Rul) : List C := l.flatMap Rul.cells
def xsC (l : List Grd) : List C := l.flatMap Grd.cells

/-- The members of all groups lie in memory that stays. -/
def memsF (gs : List GrpM) : Fact :=
  ⟨fun m => ∀ g ∈ gs, SlF m 0 1 g.a g.mem.length (g.mem.map C.s), fun m m' hm h g hg => (slFact 0 1 g.a g.mem.length (g.mem.map C.s)).mono m m' hm (h g hg)⟩

/-! ### Names -/

def nameB (c : UInt8) : Bool :=
  !((decide ((c.toNat : Int) < 97) || decide (122 < (c.toNat : Int))) && (decide ((c.toNat : Int) < 48) || decide (57 < (c.toNat : Int))) && !decide ((c.toNat : Int) = 45) && !decide ((c.toNat : Int) = 95))
def isNameT (s : Bs) : Bool :=
  !decide ((s.length : Int) < 1) && !decide (30 < (s.length : Int)) && !decide (((s.getD 0 0).toNat : Int) < 97) && !decide (122 < ((s.getD 0 0).toNat : Int)) && s.all nameB

def bAll : Bs := [97, 108, 108]
def bUsers : Bs := [117, 115, 101, 114, 115]
def builtT (s : Bs) : Bool := decide (s = bAll) || decide (s = bUsers)
def existsT (ns : List Bs) (s : Bs) : Bool := builtT s || ns.any fun x => decide (x = s)

/-- The first error among the members of a group. -/
def memErr (ns : List Bs) : List Bs → Int
  | [] => 0
  | m :: r => if isNameT (Lib.trimPrefix m [64]) = false then 1 else if Lib.hasPrefix m [64] = true ∧ existsT ns (Lib.trimPrefix m [64]) = false then 4 else memErr ns r

def grpErr (ns ahead : List Bs) (name : Bs) (mem : List Bs) : Int :=
  if isNameT name = false then 1 else if existsT ahead name = true then 5 else if 24 < (mem.length : Int) then 3 else memErr ns mem

def scopeOK (kind sp : Int) (nm : Bs) : Bool :=
  if kind = 1 then decide (sp = 0 ∧ nm = []) else if kind = 2 then decide (0 ≤ sp) && decide (sp < 6) && decide (nm = []) else if kind = 3 then validT sp nm else false

def rulErr (ns : List Bs) (r : Rul) : Int :=
  if r.right < 1 ∨ 5 < r.right then 2 else if existsT ns r.group = false then 4 else if scopeOK r.kind r.sp r.nm = false then 7 else 0

/-- Without blanks at both ends. -/
def trimT (s : Bs) : Bs := Lib.trimS s [32, 9]

def sectOK (s : Bs) : Bool := !decide (100 < (s.length : Int)) && !s.any (fun c => c == 10 || c == 124) && decide (trimT s = s)

def grdErr (ns : List Bs) (g : Grd) : Int :=
  if existsT ns g.group = false then 4 else if (validT g.sp g.nm && sectOK g.sect) = false then 7 else 0

/-- The first number other than 0. -/
def firstErr : List Int → Int
  | [] => 0
  | e :: r => if e = 0 then firstErr r else e

theorem firstErr_app (a b : List Int) : firstErr (a ++ b) = if firstErr a = 0 then firstErr b else firstErr a := by
  induction a with
  | nil => simp [firstErr]
  | cons e r ih =>
    by_cases h : e = 0
    · simp [firstErr, h, ih]
    · simp [firstErr, h]

/-- The names of groups, with their members. -/
abbrev GP := List (Bs × List Bs)
def grpErrs (gs : GP) : List Int := gs.mapIdx fun i g => grpErr (gs.map (·.1)) ((gs.map (·.1)).take i) g.1 g.2

def validateT (gs : GP) (rs : List Rul) (xs : List Grd) : Int :=
  if 24 < (gs.length : Int) ∨ 64 < (rs.length : Int) ∨ 64 < (xs.length : Int) then 3
  else firstErr (grpErrs gs ++ rs.map (rulErr (gs.map (·.1))) ++ xs.map (grdErr (gs.map (·.1))))

def gpOf (gs : List GrpM) : GP := gs.map fun g => (g.name, g.mem)

end Go.X
