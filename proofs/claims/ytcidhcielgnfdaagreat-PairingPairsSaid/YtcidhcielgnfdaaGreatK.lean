/-
  Facts of the whole program, once for all statements of a seat.
-/
import Derived.Test.YtcidhcielgnfdaaGreatRows
import Derived.Test.YtcidhcielgnfdaaGreatJoin
import Derived.Test.YtcidhcielgnfdaaGreatChecked
import Derived.ProofKit
import Derived.OpenShut
namespace Go.Proofs.YtcidhcielgnfdaaGreat
open Go Go.Eng Go.RowKit Go.ChangeShapes Go.WideShapes Go.ChangeAt
theorem sk25 : Tryz.prog.mayEnter = true := by kernel_rfl
theorem sk26 : (Rows.pairingFinalsRow.lifted == Tryz.prog.liftsFinal) = true := by kernel_rfl
theorem sk27 : (Tryz.prog.make == some Rows.pairingFinalsRow.make) = true := by kernel_rfl
end Go.Proofs.YtcidhcielgnfdaaGreat
