/-
  The head of the laws of chapter 7: true.
-/
import Derived.Test.YtkbbocpahnlkkaaFf
namespace Go.Proofs.Ytkbbocpahnlkkaa
open Go Go.Eng Go.RowKit Go.Wd Go.Alg Go.Pr

theorem sm_of {l : List Nat} (h : l.all (fun n => decide (n < M6)) = true) : ∀ n ∈ l, n < M6 := by
  intro n hn
  simpa using List.all_eq_true.1 h n hn
theorem aw07_run : run1 (tableT rows03) 38 [] (allT 100) = some (vB true, [eqW (mul2 (0, 1) (0, 1)) (neg2 (1, 0)) true, eqW (xi2 (1, 0)) ((1, 1) : N2) true, eqW (inve2 (0, 1)) (neg2 (0, 1)) true,
    eqW (mul2 (xi2 (1, 0)) (conj2 (xi2 (1, 0)))) ((2, 0) : N2) true, eqW (inve2 (0, 0)) ((0, 0) : N2) true]) := by kernel_rfl
theorem aw07 : Pure Try.prog 38 [] (.bool true) := by
  refine pureB_of_run (tableT_ok rows03_ok) aw07_run ?_ vals0
  simp only [List.forall_mem_cons, List.not_mem_nil, false_imp_iff, implies_true, and_true]
  refine ⟨eqW_of (by decide +kernel), eqW_of (by decide +kernel), eqW_of ?_, eqW_of (by decide +kernel), eqW_of ?_⟩
  · exact congrArg κ2 (inv_eq (κ2_inj (by decide +kernel)))
  · have : ι2 (0, 0) = 0 := κ2_inj (by decide +kernel)
    unfold inve2
    rw [this, inv_zero]; decide +kernel
noncomputable def rows07 : List Row := rowB0 38 :: rows03
theorem rows07_ok : ∀ r ∈ rows07, RowOk Try.prog r := by
  simp only [rows07, List.forall_mem_cons]
  exact ⟨rowB0_ok aw07, rows03_ok⟩
theorem T07_ok : CallOk Try.prog (tableT rows07) := tableT_ok rows07_ok
end Go.Proofs.Ytkbbocpahnlkkaa
