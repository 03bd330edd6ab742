/-
  The laws of chapter 10 without the document's answer: what they compute.
-/
import Derived.Test.YtlkeeafhiijhdaaF12b
import Derived.Test.YtlkeeafhiijhdaaPwB
import Derived.Test.YtlkeeafhiijhdaaFrP
namespace Go.Proofs.Ytlkeeafhiijhdaa
open Go Go.Eng Go.RowKit Go.Wd Go.Alg Go.Pr

def yz : N6 := ((0, 0), (0, 0), (0, 0))
def yo : N6 := ((1, 0), (0, 0), (0, 0))
theorem ι_yz : ι6 yz = 0 := κ6_inj (by decide +kernel)
theorem κ_yz : yz = κ6 0 := by decide +kernel
noncomputable def T10a : CallT := orT (tableT rows065) (rowSA 61 pow12)
theorem T10a_ok : CallOk Try.prog T10a := orT_ok (tableT_ok rows065_ok) fp12_pow_row
theorem aw10_run : run1 T10a 43 [] (allT 60) = some (vB true, [eqW (mul12 (yz, yo) (yz, yo)) ((((0, 0), (1, 0), (0, 0)), yz) : N12) true, 1 < 4294967296, (0 : Int) ≤ 6 ∧ (6 : Int) < 18446744073709551616,
    eqW (pow12 (yz, yo) (6 % pw 1)) ((((1, 1), (0, 0), (0, 0)), yz) : N12) true, eqW (inve12 (yz, yz)) ((yz, yz) : N12) true, eqW (mul12 (inve12 (yz, yo)) (yz, yo)) ((yo, yz) : N12) true]) := by kernel_rfl
theorem ι_yw : ι12 (yz, yo) = ww := κ12_inj (by decide +kernel)
theorem ww_ne : ww ≠ 0 := by
  intro h
  have h2 : pow ww 6 = 0 := by rw [h]; exact zero_pow (by omega)
  rw [ww6] at h2
  exact ξ_ne (congrArg (fun z : F12 => z.a.a) h2)
theorem ι_y0 : ι12 (yz, yz) = 0 := κ12_inj (by decide +kernel)
theorem κ_y0 : ((yz, yz) : N12) = κ12 0 := by decide +kernel
theorem κ_y1 : ((yo, yz) : N12) = κ12 1 := by decide +kernel
theorem ι_y1 : ι12 (yo, yz) = 1 := κ12_inj (by decide +kernel)
theorem six_pw : 6 % pw 1 = 6 := by decide +kernel
theorem aw10 : Pure Try.prog 43 [] (.bool true) := by
  refine pureB_of_run T10a_ok aw10_run (fun p hp => ?_) vals0
  rcases List.mem_cons.1 hp with rfl | hp
  · exact eqW_of (by decide +kernel)
  rcases List.mem_cons.1 hp with rfl | hp
  · omega
  rcases List.mem_cons.1 hp with rfl | hp
  · omega
  rcases List.mem_cons.1 hp with rfl | hp
  · refine eqW_of ?_
    unfold pow12
    rw [ι_yw, six_pw, ww6]
    decide +kernel
  rcases List.mem_cons.1 hp with rfl | hp
  · refine eqW_of ?_
    unfold inve12
    rw [ι_y0, inv_zero, κ_y0]
  rcases List.mem_cons.1 hp with rfl | hp
  · refine eqW_of ?_
    unfold mul12 inve12
    rw [ικ12, ι_yw, mul_comm, mul_inv ww_ne, κ_y1]
  · cases hp
noncomputable def rows10 : List Row := rowB0 43 :: rows065
theorem rows10_ok : ∀ r ∈ rows10, RowOk Try.prog r := by
  simp only [rows10, List.forall_mem_cons]
  exact ⟨rowB0_ok aw10, rows065_ok⟩
theorem T10_ok : CallOk Try.prog (tableT rows10) := tableT_ok rows10_ok
theorem add_sub_cancelT {R : Type} [CRing R] (a b : R) : a + b - b = a := ident (env [a, b]) (x0 + x1 - x1) x0 (by decide +kernel)

/-! ### Fp12Field -/
theorem fp12Field_run (a b c : N12) : run1 (tableT rows10) 11 [wN a, wN b, wN c] (allT 100) = some (vB true, [eqW (add12 a b) (add12 b a) true, eqW (mul12 a b) (mul12 b a) true, eqW (add12 (add12 a b) c) (add12 a (add12 b c)) true,
    eqW (mul12 (mul12 a b) c) (mul12 a (mul12 b c)) true, eqW (mul12 a (add12 b c)) (add12 (mul12 a b) (mul12 a c)) true, eqW (mul12 a (yo, yz)) (red12 a) true, eqW (sub12 (add12 a b) b) (red12 a) true]) := by kernel_rfl
theorem fp12Field_gives (a : N12) (_ : Sm a) (b : N12) (_ : Sm b) (c : N12) (_ : Sm c) (w : World) : Gives Try.prog 11 #[wv a, wv b, wv c] (.bool true) w := by
  refine gives_of_run1 T10_ok (fp12Field_run a b c) ?_ (vals3 a b c) val_true w
  simp only [List.forall_mem_cons, List.not_mem_nil, false_imp_iff, implies_true, and_true]
  simp only [add12, mul12, sub12, red12, ικ12, ι_y1]
  exact ⟨eqW_of (congrArg κ12 (add_comm _ _)), eqW_of (congrArg κ12 (mul_comm _ _)), eqW_of (congrArg κ12 (add_assoc _ _ _)), eqW_of (congrArg κ12 (mul_assoc _ _ _)), eqW_of (congrArg κ12 (mul_add _ _ _)), eqW_of (congrArg κ12 (mul_one _)), eqW_of (congrArg κ12 (add_sub_cancelT _ _))⟩

/-! ### Fp12Inverse -/
theorem fp12Inverse_runA (a b : N12) : run1 (tableT rows10) 9 [wN a, wN b] (hF 100 []) = some (vB true, [eqW (red12 a) (yz, yz) true, eqW (inve12 a) (yz, yz) true, eqW (mul12 a b) (yz, yz) true, eqW (red12 a) (yz, yz) true]) := by kernel_rfl
theorem fp12Inverse_runB (a b : N12) : run1 (tableT rows10) 9 [wN a, wN b] (hF 100 [19, 28, 56]) = some (vB true, [eqW (red12 a) (yz, yz) false, eqW (red12 a) (yz, yz) false, eqW (mul12 a (inve12 a)) (yo, yz) true, eqW (inve12 (inve12 a)) (red12 a) true,
    eqW (mul12 a b) (yz, yz) true, eqW (red12 a) (yz, yz) false, eqW (red12 b) (yz, yz) true]) := by kernel_rfl
theorem fp12Inverse_runC (a b : N12) : run1 (tableT rows10) 9 [wN a, wN b] (hF 100 [19, 28, 47, 56, 61]) = some (vB true, [eqW (red12 a) (yz, yz) false, eqW (red12 a) (yz, yz) false, eqW (mul12 a (inve12 a)) (yo, yz) true, eqW (inve12 (inve12 a)) (red12 a) true,
    eqW (mul12 a b) (yz, yz) false, eqW (red12 a) (yz, yz) false, eqW (red12 b) (yz, yz) false]) := by kernel_rfl
theorem fp12Inverse_gives (a : N12) (_ : Sm a) (b : N12) (_ : Sm b) (w : World) : Gives Try.prog 9 #[wv a, wv b] (.bool true) w := by
  by_cases ha : ι12 a = 0
  · refine gives_of_run1 T10_ok (fp12Inverse_runA a b) ?_ (vals2 a b) val_true w
    simp only [List.forall_mem_cons, List.not_mem_nil, false_imp_iff, implies_true, and_true]
    simp only [mul12, red12, inve12, κ_y0, ha, inv_zero, zero_mul]
    exact ⟨eqK12 (iff_t rfl), eqK12 (iff_t rfl), eqK12 (iff_t rfl), eqK12 (iff_t rfl)⟩
  · by_cases hb : ι12 b = 0
    · refine gives_of_run1 T10_ok (fp12Inverse_runB a b) ?_ (vals2 a b) val_true w
      simp only [List.forall_mem_cons, List.not_mem_nil, false_imp_iff, implies_true, and_true]
      simp only [mul12, red12, inve12, ικ12, κ_y0, κ_y1, hb, mul_zero, mul_inv ha, inv_inv]
      exact ⟨eqK12 (iff_f ha), eqK12 (iff_f ha), eqK12 (iff_t rfl), eqK12 (iff_t rfl), eqK12 (iff_t rfl), eqK12 (iff_f ha), eqK12 (iff_t rfl)⟩
    · refine gives_of_run1 T10_ok (fp12Inverse_runC a b) ?_ (vals2 a b) val_true w
      simp only [List.forall_mem_cons, List.not_mem_nil, false_imp_iff, implies_true, and_true]
      simp only [mul12, red12, inve12, ικ12, κ_y0, κ_y1, mul_inv ha, inv_inv]
      exact ⟨eqK12 (iff_f ha), eqK12 (iff_f ha), eqK12 (iff_t rfl), eqK12 (iff_t rfl), eqK12 (iff_f (mul_ne_zero ha hb)), eqK12 (iff_f ha), eqK12 (iff_f hb)⟩

/-! ### Fp12Conjugates -/
def nrmL (a : N12) : N6 := sub6 (mul6 a.1 a.1) (v6 (mul6 a.2 a.2))
theorem fp12Conjugates_run (a b : N12) : run1 (tableT rows10) 12 [wN a, wN b] (hF 100 []) = some (vB true, [eqW (conj12 (add12 a b)) (add12 (conj12 a) (conj12 b)) true, eqW (conj12 (mul12 a b)) (mul12 (conj12 a) (conj12 b)) true,
    eqW (conj12 (conj12 a)) (red12 a) true, eqW (mul12 a (conj12 a)) ((nrmL a, yz) : N12) true]) := by kernel_rfl
theorem conj_add12 {R : Type} [CRing R] {c : R} (x y : Quad R c) : (x + y).conj = x.conj + y.conj := Quad.ext' rfl (neg_add_rev _ _)
theorem fp12Conjugates_gives (a : N12) (_ : Sm a) (b : N12) (_ : Sm b) (w : World) : Gives Try.prog 12 #[wv a, wv b] (.bool true) w := by
  refine gives_of_run1 T10_ok (fp12Conjugates_run a b) ?_ (vals2 a b) val_true w
  simp only [List.forall_mem_cons, List.not_mem_nil, false_imp_iff, implies_true, and_true]
  refine ⟨eqW_of ?_, eqW_of ?_, eqW_of ?_, eqW_of ?_⟩
  · simp only [add12, conj12, ικ12]; rw [conj_add12]
  · simp only [mul12, conj12, ικ12]; rw [conj_mul']
  · simp only [red12, conj12, ικ12]; rw [conj_conj']
  · unfold mul12 conj12
    rw [ικ12, Quad.mul_conj]
    refine (n12_eq ?_ κ_yz).symm
    unfold nrmL sub6 mul6 v6
    rw [ικ6, ικ6, ικ6]
    exact congrArg κ6 (ident (env [ι6 a.1, ι6 a.2, vv]) (x0 * x0 - x1 * x1 * x2) (x0 * x0 - x2 * (x1 * x1)) (by decide +kernel))

/-! ### Fp12Within -/
theorem fp12Within_run (a b : N6) : run1 (tableT rows10) 10 [wN a, wN b] (hF 100 []) = some (vB true, [eqW (add12 (a, yz) (b, yz)) ((add6 a b, yz) : N12) true, eqW (mul12 (a, yz) (b, yz)) ((mul6 a b, yz) : N12) true,
    eqW (inve12 (a, yz)) ((inve6 a, yz) : N12) true, eqW (conj12 (a, yz)) ((red6 a, yz) : N12) true]) := by kernel_rfl
def upW (z : F6) : F12 := ⟨z, 0⟩
theorem ι_upW (a : N6) : ι12 (a, yz) = upW (ι6 a) := Quad.ext' rfl ι_yz
theorem κ_upW (z : F6) : ((κ6 z, yz) : N12) = κ12 (upW z) := n12_eq rfl κ_yz
theorem inv_upW (z : F6) : inv (upW z) = upW (inv z) := by
  by_cases h : z = 0
  · subst h
    rw [inv_zero, show upW 0 = 0 from rfl, inv_zero]
  · refine inv_eq ?_
    have := Quad.coe_mul (c := vv) z (inv z)
    rw [mul_inv h] at this
    exact this
theorem fp12Within_gives (a : N6) (_ : Sm a) (b : N6) (_ : Sm b) (w : World) : Gives Try.prog 10 #[wv a, wv b] (.bool true) w := by
  refine gives_of_run1 T10_ok (fp12Within_run a b) ?_ (vals2 a b) val_true w
  simp only [List.forall_mem_cons, List.not_mem_nil, false_imp_iff, implies_true, and_true]
  simp only [add12, mul12, conj12, inve12, add6, mul6, red6, inve6, ι_upW, κ_upW]
  refine ⟨eqW_of (congrArg κ12 ?_), eqW_of (congrArg κ12 ?_), eqW_of (congrArg κ12 (inv_upW _)), eqW_of (congrArg κ12 ?_)⟩
  · exact Quad.ext' rfl (add_zero 0)
  · exact Quad.coe_mul _ _
  · exact Quad.ext' rfl neg_zero
end Go.Proofs.Ytlkeeafhiijhdaa
