/-
  The laws of chapter 9 with the document's answer: what they compute.
-/
import Derived.Test.YtkbbocpahnlkkaaAw9
import Derived.Test.YtkbbocpahnlkkaaRg9
namespace Go.Proofs.Ytkbbocpahnlkkaa
open Go Go.Eng Go.RowKit Go.Wd Go.Alg Go.Pr

noncomputable def T09R : CallT := orT (tableT rows09) (tableT rowsH9)
theorem T09R_ok : CallOk Try.prog T09R := orT_ok T09_ok (tableT_ok rowsH9_ok)
theorem fp6Sums_run (a b : N6) (k : N2) : run1 T09R 12 [wN a, wN b, wN k] (allT 100) = some (vB true, [eqW (red6 a) (red6 a) true, eqW (add6 a b) (add6 a b) true, eqW (sub6 a b) (sub6 a b) true,
    eqW (neg6 a) (neg6 a) true, eqW (scale6 a k) (scale6 a k) true]) := by kernel_rfl
theorem fp6Sums_gives (a : N6) (_ : Sm a) (b : N6) (_ : Sm b) (k : N2) (_ : Sm k) (w : World) : Gives Try.prog 12 #[wv a, wv b, wv k] (.bool true) w := by
  refine gives_of_run1 T09R_ok (fp6Sums_run a b k) ?_ (vals3 a b k) val_true w
  simp only [List.forall_mem_cons, List.not_mem_nil, false_imp_iff, implies_true, and_true]
  exact ⟨eqW_of rfl, eqW_of rfl, eqW_of rfl, eqW_of rfl, eqW_of rfl⟩
theorem fp6Products_run (a b : N6) : run1 T09R 11 [wN a, wN b] (allT 100) = some (vB true, [eqW (mul6 a b) (mul6 a b) true, eqW (inve6 a) (inve6 a) true, eqW (v6 a) (v6 a) true]) := by kernel_rfl
theorem fp6Products_gives (a : N6) (_ : Sm a) (b : N6) (_ : Sm b) (w : World) : Gives Try.prog 11 #[wv a, wv b] (.bool true) w := by
  refine gives_of_run1 T09R_ok (fp6Products_run a b) ?_ (vals2 a b) val_true w
  simp only [List.forall_mem_cons, List.not_mem_nil, false_imp_iff, implies_true, and_true]
  exact ⟨eqW_of rfl, eqW_of rfl, eqW_of rfl⟩
end Go.Proofs.Ytkbbocpahnlkkaa
