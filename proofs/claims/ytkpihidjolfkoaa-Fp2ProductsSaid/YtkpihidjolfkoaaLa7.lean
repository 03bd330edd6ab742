/-
  The laws of chapter 7 without the document's answer: what they compute.
-/
import Derived.Test.YtkpihidjolfkoaaF12
namespace Go.Proofs.Ytkpihidjolfkoaa
open Go Go.Eng Go.RowKit Go.Wd Go.Alg Go.Pr

theorem sm_of {l : List Nat} (h : l.all (fun n => decide (n < M6)) = true) : ∀ n ∈ l, n < M6 := by
  intro n hn
  simpa using List.all_eq_true.1 h n hn
theorem aw07_run : run1 (tableT rows03) 27 [] (allT 100) = some (vB true, [eqW (mul2 (0, 1) (0, 1)) (neg2 (1, 0)) true, eqW (xi2 (1, 0)) ((1, 1) : N2) true, eqW (inve2 (0, 1)) (neg2 (0, 1)) true,
    eqW (mul2 (xi2 (1, 0)) (conj2 (xi2 (1, 0)))) ((2, 0) : N2) true, eqW (inve2 (0, 0)) ((0, 0) : N2) true]) := by kernel_rfl
theorem aw07 : Pure Try.prog 27 [] (.bool true) := by
  refine pureB_of_run (tableT_ok rows03_ok) aw07_run ?_ vals0
  simp only [List.forall_mem_cons, List.not_mem_nil, false_imp_iff, implies_true, and_true]
  refine ⟨eqW_of (by decide +kernel), eqW_of (by decide +kernel), eqW_of ?_, eqW_of (by decide +kernel), eqW_of ?_⟩
  · exact congrArg κ2 (inv_eq (κ2_inj (by decide +kernel)))
  · have : ι2 (0, 0) = 0 := κ2_inj (by decide +kernel)
    unfold inve2
    rw [this, inv_zero]; decide +kernel
noncomputable def rows07 : List Row := rowB0 27 :: rows03
theorem rows07_ok : ∀ r ∈ rows07, RowOk Try.prog r := by
  simp only [rows07, List.forall_mem_cons]
  exact ⟨rowB0_ok aw07, rows03_ok⟩
theorem T07_ok : CallOk Try.prog (tableT rows07) := tableT_ok rows07_ok

/-! ### Fp2Field -/
theorem fp2Field_run (a b c : N2) : run1 (tableT rows07) 11 [wN a, wN b, wN c] (allT 100) = some (vB true, [eqW (add2 a b) (add2 b a) true, eqW (mul2 a b) (mul2 b a) true, eqW (add2 (add2 a b) c) (add2 a (add2 b c)) true,
    eqW (mul2 (mul2 a b) c) (mul2 a (mul2 b c)) true, eqW (mul2 a (add2 b c)) (add2 (mul2 a b) (mul2 a c)) true, eqW (mul2 a (1, 0)) (red2 a) true, eqW (sub2 (add2 a b) b) (red2 a) true]) := by kernel_rfl
theorem add_sub_cancel {R : Type} [CRing R] (a b : R) : a + b - b = a := ident (env [a, b]) (x0 + x1 - x1) x0 (by decide +kernel)
theorem fp2Field_gives (a : N2) (_ : Sm a) (b : N2) (_ : Sm b) (c : N2) (_ : Sm c) (w : World) : Gives Try.prog 11 #[wv a, wv b, wv c] (.bool true) w := by
  refine gives_of_run1 T07_ok (fp2Field_run a b c) ?_ (vals3 a b c) val_true w
  simp only [List.forall_mem_cons, List.not_mem_nil, false_imp_iff, implies_true, and_true]
  simp only [add2, mul2, sub2, red2, ικ2, one2]
  exact ⟨eqW_of (congrArg κ2 (add_comm _ _)), eqW_of (congrArg κ2 (mul_comm _ _)), eqW_of (congrArg κ2 (add_assoc _ _ _)), eqW_of (congrArg κ2 (mul_assoc _ _ _)), eqW_of (congrArg κ2 (mul_add _ _ _)), eqW_of (congrArg κ2 (mul_one _)), eqW_of (congrArg κ2 (add_sub_cancel _ _))⟩

/-! ### Fp2Inverse -/
theorem fp2Inverse_runA (a b : N2) : run1 (tableT rows07) 9 [wN a, wN b] (hF 100 []) = some (vB true, [eqW (red2 a) (0, 0) true, eqW (inve2 a) (0, 0) true, eqW (mul2 a b) (0, 0) true, eqW (red2 a) (0, 0) true]) := by kernel_rfl
theorem fp2Inverse_runB (a b : N2) : run1 (tableT rows07) 9 [wN a, wN b] (hF 100 [19, 28, 56]) = some (vB true, [eqW (red2 a) (0, 0) false, eqW (red2 a) (0, 0) false, eqW (mul2 a (inve2 a)) (1, 0) true, eqW (inve2 (inve2 a)) (red2 a) true,
    eqW (mul2 a b) (0, 0) true, eqW (red2 a) (0, 0) false, eqW (red2 b) (0, 0) true]) := by kernel_rfl
theorem fp2Inverse_runC (a b : N2) : run1 (tableT rows07) 9 [wN a, wN b] (hF 100 [19, 28, 47, 56, 61]) = some (vB true, [eqW (red2 a) (0, 0) false, eqW (red2 a) (0, 0) false, eqW (mul2 a (inve2 a)) (1, 0) true, eqW (inve2 (inve2 a)) (red2 a) true,
    eqW (mul2 a b) (0, 0) false, eqW (red2 a) (0, 0) false, eqW (red2 b) (0, 0) false]) := by kernel_rfl
theorem fp2Inverse_gives (a : N2) (_ : Sm a) (b : N2) (_ : Sm b) (w : World) : Gives Try.prog 9 #[wv a, wv b] (.bool true) w := by
  by_cases ha : ι2 a = 0
  · refine gives_of_run1 T07_ok (fp2Inverse_runA a b) ?_ (vals2 a b) val_true w
    simp only [List.forall_mem_cons, List.not_mem_nil, false_imp_iff, implies_true, and_true]
    simp only [mul2, red2, inve2, κz2, ha, inv_zero, zero_mul]
    exact ⟨eqK2 (iff_t rfl), eqK2 (iff_t rfl), eqK2 (iff_t rfl), eqK2 (iff_t rfl)⟩
  · by_cases hb : ι2 b = 0
    · refine gives_of_run1 T07_ok (fp2Inverse_runB a b) ?_ (vals2 a b) val_true w
      simp only [List.forall_mem_cons, List.not_mem_nil, false_imp_iff, implies_true, and_true]
      simp only [mul2, red2, inve2, ικ2, κz2, κo2, hb, mul_zero, mul_inv ha, inv_inv]
      exact ⟨eqK2 (iff_f ha), eqK2 (iff_f ha), eqK2 (iff_t rfl), eqK2 (iff_t rfl), eqK2 (iff_t rfl), eqK2 (iff_f ha), eqK2 (iff_t rfl)⟩
    · refine gives_of_run1 T07_ok (fp2Inverse_runC a b) ?_ (vals2 a b) val_true w
      simp only [List.forall_mem_cons, List.not_mem_nil, false_imp_iff, implies_true, and_true]
      simp only [mul2, red2, inve2, ικ2, κz2, κo2, mul_inv ha, inv_inv]
      exact ⟨eqK2 (iff_f ha), eqK2 (iff_f ha), eqK2 (iff_t rfl), eqK2 (iff_t rfl), eqK2 (iff_f (mul_ne_zero ha hb)), eqK2 (iff_f ha), eqK2 (iff_f hb)⟩

/-! ### Fp2Conjugates -/
def normN (a : N2) : Nat := addF (mulF a.1 a.1) (mulF a.2 a.2)
theorem fp2Conjugates_runA (a b : N2) : run1 (tableT rows07) 10 [wN a, wN b] (hF 100 []) = some (vB true, [eqW (conj2 (add2 a b)) (add2 (conj2 a) (conj2 b)) true, eqW (conj2 (mul2 a b)) (mul2 (conj2 a) (conj2 b)) true,
    eqW (conj2 (conj2 a)) (red2 a) true, eqW (mul2 a (conj2 a)) (normN a, 0) true, eqW (normN a) 0 true, eqW (red2 a) (0, 0) true]) := by kernel_rfl
theorem fp2Conjugates_runB (a b : N2) : run1 (tableT rows07) 10 [wN a, wN b] (hF 100 [70, 74]) = some (vB true, [eqW (conj2 (add2 a b)) (add2 (conj2 a) (conj2 b)) true, eqW (conj2 (mul2 a b)) (mul2 (conj2 a) (conj2 b)) true,
    eqW (conj2 (conj2 a)) (red2 a) true, eqW (mul2 a (conj2 a)) (normN a, 0) true, eqW (normN a) 0 false, eqW (red2 a) (0, 0) false]) := by kernel_rfl
section
variable {R : Type} [CRing R] {c : R}
theorem conj_add (x y : Quad R c) : (x + y).conj = x.conj + y.conj := Quad.ext' rfl (neg_add_rev _ _)
theorem conj_mul (x y : Quad R c) : (x * y).conj = x.conj * y.conj := Quad.ext'
  (ident (env [x.a, x.b, y.a, y.b, c]) (x0 * x2 + x4 * (x1 * x3)) (x0 * x2 + x4 * (-x1 * -x3)) (by decide +kernel)) (ident (env [x.a, x.b, y.a, y.b, c]) (-(x0 * x3 + x1 * x2)) (x0 * -x3 + -x1 * x2) (by decide +kernel))
theorem conj_conj (x : Quad R c) : x.conj.conj = x := Quad.ext' rfl (neg_neg _)
end
theorem fp2Conjugates_gives (a : N2) (_ : Sm a) (b : N2) (_ : Sm b) (w : World) : Gives Try.prog 10 #[wv a, wv b] (.bool true) w := by
  have hn : normN a = (ι2 a).norm.val := by
    unfold normN addF mulF
    rw [φ_val, φ_val]
    exact congrArg Z.val (ident (env [φ a.1, φ a.2]) (x0 * x0 + x1 * x1) (x0 * x0 - -1 * (x1 * x1)) (by decide +kernel))
  have h4 : mul2 a (conj2 a) = (normN a, 0) := by
    unfold mul2 conj2
    rw [ικ2, Quad.mul_conj, hn]; rfl
  by_cases ha : ι2 a = 0
  · refine gives_of_run1 T07_ok (fp2Conjugates_runA a b) ?_ (vals2 a b) val_true w
    simp only [List.forall_mem_cons, List.not_mem_nil, false_imp_iff, implies_true, and_true]
    refine ⟨eqW_of ?_, eqW_of ?_, eqW_of ?_, eqW_of h4, eqW_of ?_, eqW_of ?_⟩
    · simp only [add2, conj2, ικ2]; rw [conj_add]
    · simp only [mul2, conj2, ικ2]; rw [conj_mul]
    · simp only [red2, conj2, ικ2]; rw [conj_conj]
    · rw [hn, ha]; decide +kernel
    · unfold red2; rw [ha, κz2]
  · refine gives_of_run1 T07_ok (fp2Conjugates_runB a b) ?_ (vals2 a b) val_true w
    simp only [List.forall_mem_cons, List.not_mem_nil, false_imp_iff, implies_true, and_true]
    refine ⟨eqW_of ?_, eqW_of ?_, eqW_of ?_, eqW_of h4, ?_, ?_⟩
    · simp only [add2, conj2, ικ2]; rw [conj_add]
    · simp only [mul2, conj2, ικ2]; rw [conj_mul]
    · simp only [red2, conj2, ικ2]; rw [conj_conj]
    · rw [hn]
      refine eqW_iff (sm_val _) (by intro n hn; simp [Nm.toL] at hn; subst hn; exact M6_pos) (iff_f fun e => Quad.norm_ne no_root ha (Z.ext e))
    · unfold red2; rw [κz2]; exact eqK2 (iff_f ha)

/-! ### Fp2Parts -/
theorem fp2Parts_run (a : N2) (k : Nat) : run1 (tableT rows07) 7 [wN a, wN k] (hF 100 []) = some (vB true, [eqW (scale2 a k) (mul2 a (k, 0)) true, eqW (xi2 a) (mul2 a (1, 1)) true,
    eqW (xi2 a).1 (subF a.1 a.2) true, eqW (xi2 a).2 (addF a.1 a.2) true]) := by kernel_rfl
theorem fp2Parts_gives (a : N2) (_ : Sm a) (k : Nat) (_ : Sm k) (w : World) : Gives Try.prog 7 #[wv a, wv k] (.bool true) w := by
  refine gives_of_run1 T07_ok (fp2Parts_run a k) ?_ (vals2 a k) val_true w
  simp only [List.forall_mem_cons, List.not_mem_nil, false_imp_iff, implies_true, and_true]
  have e1 : ι2 (k, 0) = up1 (φ k) := Quad.ext' rfl (by show φ 0 = 0; exact Z.ext (by decide +kernel))
  have e2 : ι2 (1, 1) = ξ := κ2_inj (by decide +kernel)
  refine ⟨eqW_of ?_, eqW_of ?_, eqW_of ?_, eqW_of ?_⟩
  · unfold scale2 mul2; rw [e1]
  · unfold xi2 mul2; rw [e2]
  · exact congrArg Z.val (ident (env [φ a.1, φ a.2]) (x0 * 1 + -1 * (x1 * 1)) (x0 - x1) (by decide +kernel))
  · exact congrArg Z.val (ident (env [φ a.1, φ a.2]) (x0 * 1 + x1 * 1) (x0 + x1) (by decide +kernel))
end Go.Proofs.Ytkpihidjolfkoaa
