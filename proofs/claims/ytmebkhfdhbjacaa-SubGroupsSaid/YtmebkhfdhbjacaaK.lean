/-
  Facts of the whole program, once for all statements of a seat.
-/
import Derived.Test.YtmebkhfdhbjacaaRows
import Derived.Test.YtmebkhfdhbjacaaJoin
import Derived.Test.YtmebkhfdhbjacaaChecked
import Derived.ProofKit
import Derived.OpenShut
namespace Go.Proofs.Ytmebkhfdhbjacaa
open Go Go.Eng Go.RowKit Go.ChangeShapes Go.WideShapes Go.ChangeAt
theorem sk25 : Try.prog.mayEnter = true := by kernel_rfl
theorem sk26 : (Rows.millerNoneRow.lifted == Try.prog.liftsFinal) = true := by kernel_rfl
theorem sk27 : (Try.prog.make == some Rows.millerNoneRow.make) = true := by kernel_rfl
end Go.Proofs.Ytmebkhfdhbjacaa
