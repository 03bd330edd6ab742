/-
  Facts of the whole program, once for all statements of a seat.
-/
import Derived.Test.YtcafpgpahbplaaaGreatRows
import Derived.Test.YtcafpgpahbplaaaGreatJoin
import Derived.Test.YtcafpgpahbplaaaGreatChecked
import Derived.ProofKit
import Derived.OpenShut
namespace Go.Proofs.YtcafpgpahbplaaaGreat
open Go Go.Eng Go.RowKit Go.ChangeShapes Go.WideShapes Go.ChangeAt
theorem sk25 : Tryz.prog.mayEnter = true := by kernel_rfl
theorem sk26 : (Rows.topAsksRow.lifted == Tryz.prog.liftsFinal) = true := by kernel_rfl
theorem sk27 : (Tryz.prog.make == some Rows.topAsksRow.make) = true := by kernel_rfl
end Go.Proofs.YtcafpgpahbplaaaGreat
