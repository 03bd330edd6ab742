/-
  Numbers with w: differences, inverses.
-/
import Derived.Test.YtlkeeafhiijhdaaF6b
namespace Go.Proofs.Ytlkeeafhiijhdaa
open Go Go.Eng Go.RowKit Go.Wd Go.Alg Go.Pr

/-! ### fp12: difference, inverse -/
theorem fp12_sub_run (x y : N12) : run1 TF6 50 [wN x, wN y] [] = some (.one (wN (sub6 x.1 y.1, sub6 x.2 y.2)), []) := by kernel_rfl
theorem fp12_sub (x y : N12) : Pure Try.prog 50 [wv x, wv y] (wv (sub12 x y)) := pureN_of_run TF6_ok (fp12_sub_run x y) (fun _ h => by cases h) (vals2 x y) (n12_eq rfl rfl)
def nrm12 (x : N12) : N6 := sub6 (mul6 x.1 x.1) (v6 (mul6 x.2 x.2))
theorem fp12_inv_run (x : N12) : run1 (tableT rows05) 44 [wN x] [] = some (.one (wN (mul6 x.1 (inve6 (nrm12 x)), neg6 (mul6 x.2 (inve6 (nrm12 x))))), []) := by kernel_rfl
theorem ι_nrm12 (x : N12) : ι6 (nrm12 x) = (ι12 x).norm := by
  unfold nrm12 sub6 mul6 v6
  rw [ικ6, ικ6, ικ6, ικ6]
  exact ident (env [ι6 x.1, ι6 x.2, vv]) (x0 * x0 - x1 * x1 * x2) (x0 * x0 - x2 * (x1 * x1)) (by decide +kernel)
theorem fp12_inv (x : N12) : Pure Try.prog 44 [wv x] (wv (inve12 x)) := by
  refine pureN_of_run (tableT_ok rows05_ok) (fp12_inv_run x) (fun _ h => by cases h) (vals1 x) ?_
  unfold inve12
  rw [Quad.inv_eq' no_root6]
  unfold mul6 neg6 inve6
  rw [ικ6, ικ6, ι_nrm12]
  refine n12_eq (congrArg κ6 ?_) (congrArg κ6 ?_)
  · exact ident (env [ι6 x.1, ι6 x.2, inv (ι12 x).norm, vv]) (x0 * x2) (x0 * x2 + x3 * (-x1 * 0)) (by decide +kernel)
  · exact ident (env [ι6 x.1, ι6 x.2, inv (ι12 x).norm, vv]) (-(x1 * x2)) (x0 * 0 + -x1 * x2) (by decide +kernel)
noncomputable def rows065 : List Row := rowN2 50 sub12 :: rowN1 44 inve12 :: rows05
theorem rows065_ok : ∀ r ∈ rows065, RowOk Try.prog r := by
  simp only [rows065, List.forall_mem_cons]
  exact ⟨rowN2_ok fp12_sub, rowN1_ok fp12_inv, rows05_ok⟩
end Go.Proofs.Ytlkeeafhiijhdaa
