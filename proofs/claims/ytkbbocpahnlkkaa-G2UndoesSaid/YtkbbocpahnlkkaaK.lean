/-
  Facts of the whole program, once for all statements of a seat.
-/
import Derived.Test.YtkbbocpahnlkkaaRows
import Derived.Test.YtkbbocpahnlkkaaJoin
import Derived.Test.YtkbbocpahnlkkaaChecked
import Derived.ProofKit
import Derived.OpenShut
namespace Go.Proofs.Ytkbbocpahnlkkaa
open Go Go.Eng Go.RowKit Go.ChangeShapes Go.WideShapes Go.ChangeAt
theorem sk25 : Try.prog.mayEnter = true := by kernel_rfl
theorem sk26 : (Rows.frobSquaresRow.lifted == Try.prog.liftsFinal) = true := by kernel_rfl
theorem sk27 : (Try.prog.make == some Rows.frobSquaresRow.make) = true := by kernel_rfl
end Go.Proofs.Ytkbbocpahnlkkaa
