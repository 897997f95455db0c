/- This text holds the rows and hits of the search as plain data, and their orders. -/
import Derived.Test.YtcnbkappedemeaaOrd
set_option linter.all false

namespace Go.X
open Go Go.Lib

/-- A row of the table of words. -/
structure WR where
  w : List UInt8
  sp : Int
  nm : List UInt8
  n : Int
  deriving DecidableEq
/-- A hit. -/
structure HT where
  sp : Int
  nm : List UInt8
  n : Int
  deriving DecidableEq
def WR.cells (x : WR) : List C := [.s x.w, .i .i64 x.sp, .s x.nm, .i .i64 x.n]
def HT.cells (x : HT) : List C := [.i .i64 x.sp, .s x.nm, .i .i64 x.n]
def wrC (l : List WR) : List C := l.flatMap WR.cells
def htC (l : List HT) : List C := l.flatMap HT.cells
def cmpWR (x y : WR) : Int := if Lib.compareBytes x.w y.w ≠ 0 then Lib.compareBytes x.w y.w else if compareT x.sp x.nm y.sp y.nm ≠ 0 then compareT x.sp x.nm y.sp y.nm else Lib.compareInt x.n y.n
def cmpHT (x y : HT) : Int := if Lib.compareInt y.n x.n ≠ 0 then Lib.compareInt y.n x.n else compareT x.sp x.nm y.sp y.nm

end Go.X
