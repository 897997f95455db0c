/- This text opens arguments of the type Title. -/
import Derived.Test.YtimekkilmffpiaaDoorBase
set_option linter.all false

namespace Go.Proofs.YtimekkilmffpiaaDoor
open Go Go.X
set_option maxRecDepth 100000

theorem open_title {w : World} : OpenS Tryd.prog w 24 (fun g : Int × List UInt8 × Unit => [.i .i64 g.1] ++ ([.s g.2.1] ++ [])) (fun g => inR .i64 g.1 ∧ g.2.1.length ≤ maxLen ∧ True) :=
  openS_struct (okTy (t := 24) rfl).2.2.2 (cellsOf_ty (okTy (t := 24) rfl))
    (openF_cons (cellsOf_ty (okTy (t := 3) rfl)) (openS_int Tryd.underlying3) (openF_cons (cellsOf_ty (okTy (t := 9) rfl)) (openS_str Tryd.underlying9) openF_nil (by decide)) (by decide))
end Go.Proofs.YtimekkilmffpiaaDoor
