/-
  Numbers with v: multiples and inverses.
-/
import Derived.Test.YtlkeeafhiijhdaaF12
namespace Go.Proofs.Ytlkeeafhiijhdaa
open Go Go.Eng Go.RowKit Go.Wd Go.Alg Go.Pr

theorem fp6_scale_run (x : N6) (k : N2) : run1 TF2 31 [wN x, wN k] [] = some (.one (wN (mul2 x.1 k, mul2 x.2.1 k, mul2 x.2.2 k)), []) := by kernel_rfl
theorem fp6_scale (x : N6) (k : N2) : Pure Try.prog 31 [wv x, wv k] (wv (scale6 x k)) := by
  refine pureN_of_run TF2_ok (fp6_scale_run x k) (fun _ h => by cases h) (vals2 x k) (n6_eq ?_ ?_ ?_)
  · exact congrArg κ2 (ident (env [ι2 x.1, ι2 x.2.1, ι2 x.2.2, ι2 k, ξ]) (x0 * x3) (x0 * x3 + x4 * (x1 * 0 + x2 * 0)) (by decide +kernel))
  · exact congrArg κ2 (ident (env [ι2 x.1, ι2 x.2.1, ι2 x.2.2, ι2 k, ξ]) (x1 * x3) (x0 * 0 + x1 * x3 + x4 * (x2 * 0)) (by decide +kernel))
  · exact congrArg κ2 (ident (env [ι2 x.1, ι2 x.2.1, ι2 x.2.2, ι2 k, ξ]) (x2 * x3) (x0 * 0 + x1 * 0 + x2 * x3) (by decide +kernel))
noncomputable def rows045 : List Row := rowN2 31 scale6 :: rows04
theorem rows045_ok : ∀ r ∈ rows045, RowOk Try.prog r := by
  simp only [rows045, List.forall_mem_cons]
  exact ⟨rowN2_ok fp6_scale, rows04_ok⟩
def cof6 (x : N6) : N6 := (sub2 (mul2 x.1 x.1) (xi2 (mul2 x.2.1 x.2.2)), sub2 (xi2 (mul2 x.2.2 x.2.2)) (mul2 x.1 x.2.1), sub2 (mul2 x.2.1 x.2.1) (mul2 x.1 x.2.2))
theorem fp6_inv_run (x : N6) : run1 (tableT rows045) 33 [wN x] [] = some (.one (wN (scale6 (cof6 x) (inve2 (add2 (add2 (0, 0) (mul2 x.1 (cof6 x).1)) (xi2 (add2 (add2 (0, 0) (mul2 x.2.2 (cof6 x).2.1)) (mul2 x.2.1 (cof6 x).2.2))))))), []) := by kernel_rfl
theorem ι_cof6 (x : N6) : ι6 (cof6 x) = (ι6 x).cof := by
  unfold cof6
  refine Cub.ext' ?_ ?_ ?_
  · show ι2 (sub2 _ _) = _
    simp only [sub2, mul2, xi2, ικ2]
    exact ident (env [ι2 x.1, ι2 x.2.1, ι2 x.2.2, ξ]) (x0 * x0 - x1 * x2 * x3) (x0 * x0 - x3 * (x1 * x2)) (by decide +kernel)
  · show ι2 (sub2 _ _) = _
    simp only [sub2, mul2, xi2, ικ2]
    exact ident (env [ι2 x.1, ι2 x.2.1, ι2 x.2.2, ξ]) (x2 * x2 * x3 - x0 * x1) (x3 * (x2 * x2) - x0 * x1) (by decide +kernel)
  · show ι2 (sub2 _ _) = _
    simp only [sub2, mul2, ικ2]; rfl
theorem fp6_inv (x : N6) : Pure Try.prog 33 [wv x] (wv (inve6 x)) := by
  refine pureN_of_run (tableT_ok rows045_ok) (fp6_inv_run x) (fun _ h => by cases h) (vals1 x) ?_
  unfold scale6 inve6
  congr 1
  rw [Cub.inv_eq' no_cube, ι_cof6]
  congr 1
  unfold up2 inve2
  rw [ικ2]
  have hc : ι2 (cof6 x).1 = (ι6 x).cof.a ∧ ι2 (cof6 x).2.1 = (ι6 x).cof.b ∧ ι2 (cof6 x).2.2 = (ι6 x).cof.c := by
    have h := ι_cof6 x
    exact ⟨congrArg Cub.a h, congrArg Cub.b h, congrArg Cub.c h⟩
  simp only [add2, mul2, xi2, ικ2, zero2, hc.1, hc.2.1, hc.2.2]
  have : (ι6 x).norm = 0 + ι2 x.1 * (ι6 x).cof.a + (0 + ι2 x.2.2 * (ι6 x).cof.b + ι2 x.2.1 * (ι6 x).cof.c) * ξ :=
    ident (env [ι2 x.1, ι2 x.2.1, ι2 x.2.2, (ι6 x).cof.a, (ι6 x).cof.b, (ι6 x).cof.c, ξ]) (x0 * x3 + x6 * (x2 * x4 + x1 * x5)) (0 + x0 * x3 + (0 + x2 * x4 + x1 * x5) * x6) (by decide +kernel)
  rw [this]
noncomputable def rows05 : List Row := rowN1 33 inve6 :: rowN2 31 scale6 :: rows06
theorem rows05_ok : ∀ r ∈ rows05, RowOk Try.prog r := by
  simp only [rows05, List.forall_mem_cons]
  exact ⟨rowN1_ok fp6_inv, rowN2_ok fp6_scale, rows06_ok⟩
end Go.Proofs.Ytlkeeafhiijhdaa
