/-
  The head of the laws of chapter 9: true.
-/
import Derived.Test.YtkbbocpahnlkkaaFf
namespace Go.Proofs.Ytkbbocpahnlkkaa
open Go Go.Eng Go.RowKit Go.Wd Go.Alg Go.Pr

def y6 (a b c : Nat) : N6 := ((a, 0), (b, 0), (c, 0))
def xi6 : N6 := ((1, 1), (0, 0), (0, 0))
theorem aw09_run : run1 (tableT rows05) 55 [] (allT 100) = some (vB true, [eqW (mul6 (y6 0 1 0) (y6 0 1 0)) (y6 0 0 1) true, eqW (mul6 (y6 0 1 0) (y6 0 0 1)) xi6 true, eqW (v6 (y6 0 0 1)) xi6 true, eqW (inve6 (y6 0 0 0)) (y6 0 0 0) true,
    eqW (mul6 (inve6 (y6 0 1 0)) (y6 0 1 0)) (y6 1 0 0) true]) := by kernel_rfl
theorem y6_0 : y6 0 0 0 = κ6 0 := κz6
theorem y6_1 : y6 1 0 0 = κ6 1 := κo6
theorem ιy6_0 : ι6 (y6 0 0 0) = 0 := by rw [y6_0, ικ6]
theorem ιy6_1 : ι6 (y6 1 0 0) = 1 := by rw [y6_1, ικ6]
theorem ιy6_v : ι6 (y6 0 1 0) ≠ 0 := by
  intro h
  have : κ6 (ι6 (y6 0 1 0)) = κ6 0 := by rw [h]
  revert this
  decide +kernel
theorem aw09 : Pure Try.prog 55 [] (.bool true) := by
  refine pureB_of_run (tableT_ok rows05_ok) aw09_run ?_ vals0
  simp only [List.forall_mem_cons, List.not_mem_nil, false_imp_iff, implies_true, and_true]
  refine ⟨eqW_of (by decide +kernel), eqW_of (by decide +kernel), eqW_of (by decide +kernel), eqW_of ?_, eqW_of ?_⟩
  · unfold inve6
    rw [ιy6_0, inv_zero, y6_0]
  · unfold mul6 inve6
    rw [ικ6, mul_comm, mul_inv ιy6_v, y6_1]
noncomputable def rows09 : List Row := rowB0 55 :: rows05
theorem rows09_ok : ∀ r ∈ rows09, RowOk Try.prog r := by
  simp only [rows09, List.forall_mem_cons]
  exact ⟨rowB0_ok aw09, rows05_ok⟩
theorem T09_ok : CallOk Try.prog (tableT rows09) := tableT_ok rows09_ok
theorem add_sub_cancel' {R : Type} [CRing R] (a b : R) : a + b - b = a := ident (env [a, b]) (x0 + x1 - x1) x0 (by decide +kernel)
end Go.Proofs.Ytkbbocpahnlkkaa
