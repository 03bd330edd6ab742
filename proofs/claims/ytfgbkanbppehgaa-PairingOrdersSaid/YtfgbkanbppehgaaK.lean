/-
  Facts of the whole program, once for all statements of a seat.
-/
import Derived.Test.YtfgbkanbppehgaaRows
import Derived.Test.YtfgbkanbppehgaaJoin
import Derived.Test.YtfgbkanbppehgaaChecked
import Derived.ProofKit
import Derived.OpenShut
namespace Go.Proofs.Ytfgbkanbppehgaa
open Go Go.Eng Go.RowKit Go.ChangeShapes Go.WideShapes Go.ChangeAt
theorem sk25 : Try.prog.mayEnter = true := by kernel_rfl
theorem sk26 : (Rows.pairingNamesRow.lifted == Try.prog.liftsFinal) = true := by kernel_rfl
theorem sk27 : (Try.prog.make == some Rows.pairingNamesRow.make) = true := by kernel_rfl
end Go.Proofs.Ytfgbkanbppehgaa
