/-
  The laws of chapter 7 with the document's answer: what they compute.
-/
import Derived.Test.YtkpihidjolfkoaaLa7
import Derived.Test.YtkpihidjolfkoaaRg7
namespace Go.Proofs.Ytkpihidjolfkoaa
open Go Go.Eng Go.RowKit Go.Wd Go.Alg Go.Pr

theorem T07R_ok : CallOk Try.prog (orT (tableT rows07) (tableT rowsG7)) := orT_ok T07_ok (tableT_ok rowsG7_ok)
theorem fp2Sums_run (a b : N2) (k : Nat) : run1 (orT (tableT rows07) (tableT rowsG7)) 14 [wN a, wN b, wN k] (allT 100) = some (vB true, [eqW (red2 a) (red2 a) true, eqW (add2 a b) (add2 a b) true, eqW (sub2 a b) (sub2 a b) true,
    eqW (neg2 a) (neg2 a) true, eqW (conj2 a) (conj2 a) true, eqW (scale2 a k) (scale2 a k) true]) := by kernel_rfl
theorem fp2Sums_gives (a : N2) (_ : Sm a) (b : N2) (_ : Sm b) (k : Nat) (_ : Sm k) (w : World) : Gives Try.prog 14 #[wv a, wv b, wv k] (.bool true) w := by
  refine gives_of_run1 T07R_ok (fp2Sums_run a b k) ?_ (vals3 a b k) val_true w
  simp only [List.forall_mem_cons, List.not_mem_nil, false_imp_iff, implies_true, and_true]
  exact ⟨eqW_of rfl, eqW_of rfl, eqW_of rfl, eqW_of rfl, eqW_of rfl, eqW_of rfl⟩
end Go.Proofs.Ytkpihidjolfkoaa
