/-
  The laws of chapter 7 without the document's answer: what they compute.
-/
import Derived.Test.YtkpihidjolfkoaaF2
namespace Go.Proofs.Ytkpihidjolfkoaa
open Go Go.Eng Go.RowKit Go.Wd Go.Alg Go.Pr

theorem sm_of {l : List Nat} (h : l.all (fun n => decide (n < M6)) = true) : ∀ n ∈ l, n < M6 := by
  intro n hn
  simpa using List.all_eq_true.1 h n hn
theorem val_lt6 (z : F) : z.val < M6 := Nat.lt_trans z.lt pN_lt
theorem sm_κ2 (z : F2) : Sm (κ2 z) := by
  intro n hn
  have : n = z.a.val ∨ n = z.b.val := by simpa [Nm.toL, κ2] using hn
  rcases this with rfl | rfl <;> exact val_lt6 _
theorem aw07_run : run1 (tableT rows03) 27 [] (allT 100) = some (vB true, [eqW (mul2 (0, 1) (0, 1)) (neg2 (1, 0)) true, eqW (xi2 (1, 0)) ((1, 1) : N2) true, eqW (inve2 (0, 1)) (neg2 (0, 1)) true,
    eqW (mul2 (xi2 (1, 0)) (conj2 (xi2 (1, 0)))) ((2, 0) : N2) true, eqW (inve2 (0, 0)) ((0, 0) : N2) true]) := by kernel_rfl
theorem aw07 : Pure Try.prog 27 [] (.bool true) := by
  refine pureB_of_run (tableT_ok rows03_ok) aw07_run ?_ vals0
  simp only [List.forall_mem_cons, List.not_mem_nil, false_imp_iff, implies_true, and_true]
  refine ⟨eqW_of (by decide +kernel), eqW_of (by decide +kernel), eqW_of ?_, eqW_of (by decide +kernel), eqW_of ?_⟩
  · exact congrArg κ2 (inv_eq (κ2_inj (by decide +kernel)))
  · have : ι2 (0, 0) = 0 := κ2_inj (by decide +kernel)
    unfold inve2
    rw [this, inv_zero]; decide +kernel
noncomputable def rows07 : List Row := rowB0 27 :: rows03
theorem rows07_ok : ∀ r ∈ rows07, RowOk Try.prog r := by
  simp only [rows07, List.forall_mem_cons]
  exact ⟨rowB0_ok aw07, rows03_ok⟩
theorem T07_ok : CallOk Try.prog (tableT rows07) := tableT_ok rows07_ok
theorem one2 : ι2 (1, 0) = 1 := κ2_inj (by decide +kernel)
theorem zero2 : ι2 (0, 0) = 0 := κ2_inj (by decide +kernel)

/-! ### Fp2Field -/
theorem fp2Field_run (a b c : N2) : run1 (tableT rows07) 11 [wN a, wN b, wN c] (allT 100) = some (vB true, [eqW (add2 a b) (add2 b a) true, eqW (mul2 a b) (mul2 b a) true, eqW (add2 (add2 a b) c) (add2 a (add2 b c)) true,
    eqW (mul2 (mul2 a b) c) (mul2 a (mul2 b c)) true, eqW (mul2 a (add2 b c)) (add2 (mul2 a b) (mul2 a c)) true, eqW (mul2 a (1, 0)) (red2 a) true, eqW (sub2 (add2 a b) b) (red2 a) true]) := by kernel_rfl
theorem add_sub_cancel {R : Type} [CRing R] (a b : R) : a + b - b = a := ident (env [a, b]) (x0 + x1 - x1) x0 (by decide +kernel)
theorem fp2Field_gives (a : N2) (_ : Sm a) (b : N2) (_ : Sm b) (c : N2) (_ : Sm c) (w : World) : Gives Try.prog 11 #[wv a, wv b, wv c] (.bool true) w := by
  refine gives_of_run1 T07_ok (fp2Field_run a b c) ?_ (vals3 a b c) val_true w
  simp only [List.forall_mem_cons, List.not_mem_nil, false_imp_iff, implies_true, and_true]
  simp only [add2, mul2, sub2, red2, ικ2, one2]
  exact ⟨eqW_of (congrArg κ2 (add_comm _ _)), eqW_of (congrArg κ2 (mul_comm _ _)), eqW_of (congrArg κ2 (add_assoc _ _ _)), eqW_of (congrArg κ2 (mul_assoc _ _ _)), eqW_of (congrArg κ2 (mul_add _ _ _)), eqW_of (congrArg κ2 (mul_one _)), eqW_of (congrArg κ2 (add_sub_cancel _ _))⟩
end Go.Proofs.Ytkpihidjolfkoaa
