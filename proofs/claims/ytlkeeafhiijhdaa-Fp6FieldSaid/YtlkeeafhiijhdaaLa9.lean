/-
  The laws of chapter 9 without the document's answer: what they compute. And fp12's difference and inverse.
-/
import Derived.Test.YtlkeeafhiijhdaaF6b
namespace Go.Proofs.Ytlkeeafhiijhdaa
open Go Go.Eng Go.RowKit Go.Wd Go.Alg Go.Pr

def y6 (a b c : Nat) : N6 := ((a, 0), (b, 0), (c, 0))
def xi6 : N6 := ((1, 1), (0, 0), (0, 0))
theorem aw09_run : run1 (tableT rows05) 27 [] (allT 100) = some (vB true, [eqW (mul6 (y6 0 1 0) (y6 0 1 0)) (y6 0 0 1) true, eqW (mul6 (y6 0 1 0) (y6 0 0 1)) xi6 true, eqW (v6 (y6 0 0 1)) xi6 true, eqW (inve6 (y6 0 0 0)) (y6 0 0 0) true,
    eqW (mul6 (inve6 (y6 0 1 0)) (y6 0 1 0)) (y6 1 0 0) true]) := by kernel_rfl
theorem y6_0 : y6 0 0 0 = κ6 0 := κz6
theorem y6_1 : y6 1 0 0 = κ6 1 := κo6
theorem ιy6_0 : ι6 (y6 0 0 0) = 0 := by rw [y6_0, ικ6]
theorem ιy6_1 : ι6 (y6 1 0 0) = 1 := by rw [y6_1, ικ6]
theorem ιy6_v : ι6 (y6 0 1 0) ≠ 0 := by
  intro h
  have : κ6 (ι6 (y6 0 1 0)) = κ6 0 := by rw [h]
  revert this
  decide +kernel
theorem aw09 : Pure Try.prog 27 [] (.bool true) := by
  refine pureB_of_run (tableT_ok rows05_ok) aw09_run ?_ vals0
  simp only [List.forall_mem_cons, List.not_mem_nil, false_imp_iff, implies_true, and_true]
  refine ⟨eqW_of (by decide +kernel), eqW_of (by decide +kernel), eqW_of (by decide +kernel), eqW_of ?_, eqW_of ?_⟩
  · unfold inve6
    rw [ιy6_0, inv_zero, y6_0]
  · unfold mul6 inve6
    rw [ικ6, mul_comm, mul_inv ιy6_v, y6_1]
noncomputable def rows09 : List Row := rowB0 27 :: rows05
theorem rows09_ok : ∀ r ∈ rows09, RowOk Try.prog r := by
  simp only [rows09, List.forall_mem_cons]
  exact ⟨rowB0_ok aw09, rows05_ok⟩
theorem T09_ok : CallOk Try.prog (tableT rows09) := tableT_ok rows09_ok
theorem add_sub_cancel' {R : Type} [CRing R] (a b : R) : a + b - b = a := ident (env [a, b]) (x0 + x1 - x1) x0 (by decide +kernel)

/-! ### Fp6Field -/
theorem fp6Field_run (a b c : N6) : run1 (tableT rows09) 8 [wN a, wN b, wN c] (allT 100) = some (vB true, [eqW (add6 a b) (add6 b a) true, eqW (mul6 a b) (mul6 b a) true, eqW (add6 (add6 a b) c) (add6 a (add6 b c)) true,
    eqW (mul6 (mul6 a b) c) (mul6 a (mul6 b c)) true, eqW (mul6 a (add6 b c)) (add6 (mul6 a b) (mul6 a c)) true, eqW (mul6 a (y6 1 0 0)) (red6 a) true, eqW (sub6 (add6 a b) b) (red6 a) true]) := by kernel_rfl
theorem fp6Field_gives (a : N6) (_ : Sm a) (b : N6) (_ : Sm b) (c : N6) (_ : Sm c) (w : World) : Gives Try.prog 8 #[wv a, wv b, wv c] (.bool true) w := by
  refine gives_of_run1 T09_ok (fp6Field_run a b c) ?_ (vals3 a b c) val_true w
  simp only [List.forall_mem_cons, List.not_mem_nil, false_imp_iff, implies_true, and_true]
  simp only [add6, mul6, sub6, red6, ικ6, ιy6_1]
  exact ⟨eqW_of (congrArg κ6 (add_comm _ _)), eqW_of (congrArg κ6 (mul_comm _ _)), eqW_of (congrArg κ6 (add_assoc _ _ _)), eqW_of (congrArg κ6 (mul_assoc _ _ _)), eqW_of (congrArg κ6 (mul_add _ _ _)), eqW_of (congrArg κ6 (mul_one _)), eqW_of (congrArg κ6 (add_sub_cancel' _ _))⟩

/-! ### Fp6Inverse -/
theorem fp6Inverse_runA (a b : N6) : run1 (tableT rows09) 6 [wN a, wN b] (hF 100 []) = some (vB true, [eqW (red6 a) (y6 0 0 0) true, eqW (inve6 a) (y6 0 0 0) true, eqW (mul6 a b) (y6 0 0 0) true, eqW (red6 a) (y6 0 0 0) true]) := by kernel_rfl
theorem fp6Inverse_runB (a b : N6) : run1 (tableT rows09) 6 [wN a, wN b] (hF 100 [19, 28, 56]) = some (vB true, [eqW (red6 a) (y6 0 0 0) false, eqW (red6 a) (y6 0 0 0) false, eqW (mul6 a (inve6 a)) (y6 1 0 0) true, eqW (inve6 (inve6 a)) (red6 a) true,
    eqW (mul6 a b) (y6 0 0 0) true, eqW (red6 a) (y6 0 0 0) false, eqW (red6 b) (y6 0 0 0) true]) := by kernel_rfl
theorem fp6Inverse_runC (a b : N6) : run1 (tableT rows09) 6 [wN a, wN b] (hF 100 [19, 28, 47, 56, 61]) = some (vB true, [eqW (red6 a) (y6 0 0 0) false, eqW (red6 a) (y6 0 0 0) false, eqW (mul6 a (inve6 a)) (y6 1 0 0) true, eqW (inve6 (inve6 a)) (red6 a) true,
    eqW (mul6 a b) (y6 0 0 0) false, eqW (red6 a) (y6 0 0 0) false, eqW (red6 b) (y6 0 0 0) false]) := by kernel_rfl
theorem fp6Inverse_gives (a : N6) (_ : Sm a) (b : N6) (_ : Sm b) (w : World) : Gives Try.prog 6 #[wv a, wv b] (.bool true) w := by
  by_cases ha : ι6 a = 0
  · refine gives_of_run1 T09_ok (fp6Inverse_runA a b) ?_ (vals2 a b) val_true w
    simp only [List.forall_mem_cons, List.not_mem_nil, false_imp_iff, implies_true, and_true]
    simp only [mul6, red6, inve6, y6_0, ha, inv_zero, zero_mul]
    exact ⟨eqK6 (iff_t rfl), eqK6 (iff_t rfl), eqK6 (iff_t rfl), eqK6 (iff_t rfl)⟩
  · by_cases hb : ι6 b = 0
    · refine gives_of_run1 T09_ok (fp6Inverse_runB a b) ?_ (vals2 a b) val_true w
      simp only [List.forall_mem_cons, List.not_mem_nil, false_imp_iff, implies_true, and_true]
      simp only [mul6, red6, inve6, ικ6, y6_0, y6_1, hb, mul_zero, mul_inv ha, inv_inv]
      exact ⟨eqK6 (iff_f ha), eqK6 (iff_f ha), eqK6 (iff_t rfl), eqK6 (iff_t rfl), eqK6 (iff_t rfl), eqK6 (iff_f ha), eqK6 (iff_t rfl)⟩
    · refine gives_of_run1 T09_ok (fp6Inverse_runC a b) ?_ (vals2 a b) val_true w
      simp only [List.forall_mem_cons, List.not_mem_nil, false_imp_iff, implies_true, and_true]
      simp only [mul6, red6, inve6, ικ6, y6_0, y6_1, mul_inv ha, inv_inv]
      exact ⟨eqK6 (iff_f ha), eqK6 (iff_f ha), eqK6 (iff_t rfl), eqK6 (iff_t rfl), eqK6 (iff_f (mul_ne_zero ha hb)), eqK6 (iff_f ha), eqK6 (iff_f hb)⟩

/-! ### Fp6Turns -/
theorem fp6Turns_run (a : N6) (k : N2) : run1 (tableT rows09) 5 [wN a, wN k] (allT 100) = some (vB true, [eqW (v6 a) ((xi2 a.2.2, red2 a.1, red2 a.2.1) : N6) true, eqW (v6 (v6 (v6 a))) (scale6 a (1, 1)) true, eqW (scale6 a k) (mul6 a (k, (0, 0), (0, 0))) true]) := by kernel_rfl
theorem v_v_v : vv * vv * vv = up2 ξ := by
  have h2 : vv * vv = ⟨0, 0, 1⟩ := Cub.ext' (ident (env [ξ]) (0 * 0 + x0 * (1 * 0 + 0 * 1)) 0 (by decide +kernel)) (ident (env [ξ]) (0 * 1 + 1 * 0 + x0 * (0 * 0)) 0 (by decide +kernel)) (ident (env [ξ]) (0 * 0 + 1 * 1 + 0 * 0) 1 (by decide +kernel))
  rw [h2]
  exact Cub.ext' (ident (env [ξ]) (0 * 0 + x0 * (0 * 0 + 1 * 1)) x0 (by decide +kernel)) (ident (env [ξ]) (0 * 1 + 0 * 0 + x0 * (1 * 0)) 0 (by decide +kernel)) (ident (env [ξ]) (0 * 0 + 0 * 1 + 1 * 0) 0 (by decide +kernel))
theorem ι_k00 (k : N2) : ι6 (k, (0, 0), (0, 0)) = up2 (ι2 k) := Cub.ext' rfl zero2 zero2
theorem fp6Turns_gives (a : N6) (_ : Sm a) (k : N2) (_ : Sm k) (w : World) : Gives Try.prog 5 #[wv a, wv k] (.bool true) w := by
  refine gives_of_run1 T09_ok (fp6Turns_run a k) ?_ (vals2 a k) val_true w
  simp only [List.forall_mem_cons, List.not_mem_nil, false_imp_iff, implies_true, and_true]
  refine ⟨eqW_of ?_, eqW_of ?_, eqW_of ?_⟩
  · refine (n6_eq ?_ ?_ ?_).symm
    · exact congrArg κ2 (ident (env [ι2 a.1, ι2 a.2.1, ι2 a.2.2, ξ]) (x2 * x3) (x0 * 0 + x3 * (x1 * 0 + x2 * 1)) (by decide +kernel))
    · exact congrArg κ2 (ident (env [ι2 a.1, ι2 a.2.1, ι2 a.2.2, ξ]) x0 (x0 * 1 + x1 * 0 + x3 * (x2 * 0)) (by decide +kernel))
    · exact congrArg κ2 (ident (env [ι2 a.1, ι2 a.2.1, ι2 a.2.2, ξ]) x1 (x0 * 0 + x1 * 1 + x2 * 0) (by decide +kernel))
  · unfold v6 scale6
    rw [ικ6, ικ6, show ι2 (1, 1) = ξ from κ2_inj (by decide +kernel), ← v_v_v, mul_assoc, mul_assoc, mul_assoc]
  · unfold scale6 mul6; rw [ι_k00]

/-! ### Fp6Within -/
theorem fp6Within_run (a b : N2) : run1 (tableT rows09) 7 [wN a, wN b] (allT 100) = some (vB true, [eqW (add6 (a, (0, 0), (0, 0)) (b, (0, 0), (0, 0))) ((add2 a b, (0, 0), (0, 0)) : N6) true, eqW (mul6 (a, (0, 0), (0, 0)) (b, (0, 0), (0, 0))) ((mul2 a b, (0, 0), (0, 0)) : N6) true,
    eqW (inve6 (a, (0, 0), (0, 0))) ((inve2 a, (0, 0), (0, 0)) : N6) true, eqW (neg6 (a, (0, 0), (0, 0))) ((neg2 a, (0, 0), (0, 0)) : N6) true]) := by kernel_rfl
theorem κ_up2 (z : F2) : ((κ2 z, (0, 0), (0, 0)) : N6) = κ6 (up2 z) := n6_eq rfl κz2 κz2
theorem inv_up2 (z : F2) : inv (up2 z) = up2 (inv z) := by
  by_cases h : z = 0
  · subst h
    rw [inv_zero, show up2 0 = 0 from rfl, inv_zero]
  · refine inv_eq ?_
    have := Cub.coe_mul (k := ξ) z (inv z)
    rw [mul_inv h] at this
    exact this
theorem fp6Within_gives (a : N2) (_ : Sm a) (b : N2) (_ : Sm b) (w : World) : Gives Try.prog 7 #[wv a, wv b] (.bool true) w := by
  refine gives_of_run1 T09_ok (fp6Within_run a b) ?_ (vals2 a b) val_true w
  simp only [List.forall_mem_cons, List.not_mem_nil, false_imp_iff, implies_true, and_true]
  simp only [add6, mul6, neg6, inve6, add2, mul2, neg2, inve2, ι_k00, κ_up2]
  refine ⟨eqW_of (congrArg κ6 ?_), eqW_of (congrArg κ6 ?_), eqW_of (congrArg κ6 (inv_up2 _)), eqW_of (congrArg κ6 ?_)⟩
  · exact Cub.ext' rfl (add_zero 0) (add_zero 0)
  · exact Cub.coe_mul _ _
  · exact Cub.ext' rfl neg_zero neg_zero

end Go.Proofs.Ytlkeeafhiijhdaa
