/-
  The laws of chapter 10 with the document's answer: what they compute.
-/
import Derived.Test.YtkbbocpahnlkkaaAw10
import Derived.Test.YtkbbocpahnlkkaaRg10
namespace Go.Proofs.Ytkbbocpahnlkkaa
open Go Go.Eng Go.RowKit Go.Wd Go.Alg Go.Pr

noncomputable def T10R : CallT := orT (tableT rows10) (tableT rowsG10)
theorem T10R_ok : CallOk Try.prog T10R := orT_ok T10_ok (tableT_ok rowsG10_ok)
theorem fp12Sums_run (a b : N12) : run1 T10R 5 [wN a, wN b] (allT 100) = some (vB true, [eqW (red12 a) (red12 a) true, eqW (add12 a b) (add12 a b) true, eqW (sub12 a b) (sub12 a b) true,
    eqW (neg12 a) (neg12 a) true, eqW (conj12 a) (conj12 a) true]) := by kernel_rfl
theorem fp12Sums_gives (a : N12) (_ : Sm a) (b : N12) (_ : Sm b) (w : World) : Gives Try.prog 5 #[wv a, wv b] (.bool true) w := by
  refine gives_of_run1 T10R_ok (fp12Sums_run a b) ?_ (vals2 a b) val_true w
  simp only [List.forall_mem_cons, List.not_mem_nil, false_imp_iff, implies_true, and_true]
  exact ⟨eqW_of rfl, eqW_of rfl, eqW_of rfl, eqW_of rfl, eqW_of rfl⟩
theorem fp12Products_run (a b : N12) : run1 T10R 15 [wN a, wN b] (allT 100) = some (vB true, [eqW (mul12 a b) (mul12 a b) true, eqW (inve12 a) (inve12 a) true]) := by kernel_rfl
theorem fp12Products_gives (a : N12) (_ : Sm a) (b : N12) (_ : Sm b) (w : World) : Gives Try.prog 15 #[wv a, wv b] (.bool true) w := by
  refine gives_of_run1 T10R_ok (fp12Products_run a b) ?_ (vals2 a b) val_true w
  simp only [List.forall_mem_cons, List.not_mem_nil, false_imp_iff, implies_true, and_true]
  exact ⟨eqW_of rfl, eqW_of rfl⟩
end Go.Proofs.Ytkbbocpahnlkkaa
