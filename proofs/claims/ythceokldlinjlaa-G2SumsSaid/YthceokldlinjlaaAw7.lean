/-
  The head of the laws of chapter 7: true.
-/
import Derived.Test.YthceokldlinjlaaFf
namespace Go.Proofs.Ythceokldlinjlaa
open Go Go.Eng Go.RowKit Go.Wd Go.Alg Go.Pr

theorem sm_of {l : List Nat} (h : l.all (fun n => decide (n < M6)) = true) : ∀ n ∈ l, n < M6 := by
  intro n hn
  simpa using List.all_eq_true.1 h n hn
end Go.Proofs.Ythceokldlinjlaa
