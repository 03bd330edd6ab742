/-
  Facts of the whole program, once for all statements of a seat.
-/
import Derived.Test.YthceokldlinjlaaRows
import Derived.Test.YthceokldlinjlaaJoin
import Derived.Test.YthceokldlinjlaaChecked
import Derived.ProofKit
import Derived.OpenShut
namespace Go.Proofs.Ythceokldlinjlaa
open Go Go.Eng Go.RowKit Go.ChangeShapes Go.WideShapes Go.ChangeAt
theorem sk25 : Try.prog.mayEnter = true := by kernel_rfl
theorem sk26 : (Rows.subOrdersRow.lifted == Try.prog.liftsFinal) = true := by kernel_rfl
theorem sk27 : (Try.prog.make == some Rows.subOrdersRow.make) = true := by kernel_rfl
end Go.Proofs.Ythceokldlinjlaa
