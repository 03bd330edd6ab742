/-
  The head of the laws of chapter 10: true.
-/
import Derived.Test.YthceokldlinjlaaFf
import Derived.Test.YthceokldlinjlaaPwB
import Derived.Test.YthceokldlinjlaaFrP
namespace Go.Proofs.Ythceokldlinjlaa
open Go Go.Eng Go.RowKit Go.Wd Go.Alg Go.Pr

def yz : N6 := ((0, 0), (0, 0), (0, 0))
def yo : N6 := ((1, 0), (0, 0), (0, 0))
theorem ι_yz : ι6 yz = 0 := κ6_inj (by decide +kernel)
theorem κ_yz : yz = κ6 0 := by decide +kernel
noncomputable def T10a : CallT := orT (tableT rows065) (rowSA 14 pow12)
theorem T10a_ok : CallOk Try.prog T10a := orT_ok (tableT_ok rows065_ok) fp12_pow_row
theorem aw10_run : run1 T10a 12 [] (allT 60) = some (vB true, [eqW (mul12 (yz, yo) (yz, yo)) ((((0, 0), (1, 0), (0, 0)), yz) : N12) true, 1 < 4294967296, (0 : Int) ≤ 6 ∧ (6 : Int) < 18446744073709551616,
    eqW (pow12 (yz, yo) (6 % pw 1)) ((((1, 1), (0, 0), (0, 0)), yz) : N12) true, eqW (inve12 (yz, yz)) ((yz, yz) : N12) true, eqW (mul12 (inve12 (yz, yo)) (yz, yo)) ((yo, yz) : N12) true]) := by kernel_rfl
theorem ι_yw : ι12 (yz, yo) = ww := κ12_inj (by decide +kernel)
theorem ww_ne : ww ≠ 0 := by
  intro h
  have h2 : pow ww 6 = 0 := by rw [h]; exact zero_pow (by omega)
  rw [ww6] at h2
  exact ξ_ne (congrArg (fun z : F12 => z.a.a) h2)
theorem ι_y0 : ι12 (yz, yz) = 0 := κ12_inj (by decide +kernel)
theorem κ_y0 : ((yz, yz) : N12) = κ12 0 := by decide +kernel
theorem κ_y1 : ((yo, yz) : N12) = κ12 1 := by decide +kernel
theorem ι_y1 : ι12 (yo, yz) = 1 := κ12_inj (by decide +kernel)
theorem six_pw : 6 % pw 1 = 6 := by decide +kernel
theorem aw10 : Pure Try.prog 12 [] (.bool true) := by
  refine pureB_of_run T10a_ok aw10_run (fun p hp => ?_) vals0
  rcases List.mem_cons.1 hp with rfl | hp
  · exact eqW_of (by decide +kernel)
  rcases List.mem_cons.1 hp with rfl | hp
  · omega
  rcases List.mem_cons.1 hp with rfl | hp
  · omega
  rcases List.mem_cons.1 hp with rfl | hp
  · refine eqW_of ?_
    unfold pow12
    rw [ι_yw, six_pw, ww6]
    decide +kernel
  rcases List.mem_cons.1 hp with rfl | hp
  · refine eqW_of ?_
    unfold inve12
    rw [ι_y0, inv_zero, κ_y0]
  rcases List.mem_cons.1 hp with rfl | hp
  · refine eqW_of ?_
    unfold mul12 inve12
    rw [ικ12, ι_yw, mul_comm, mul_inv ww_ne, κ_y1]
  · cases hp
noncomputable def rows10 : List Row := rowB0 12 :: rows065
theorem rows10_ok : ∀ r ∈ rows10, RowOk Try.prog r := by
  simp only [rows10, List.forall_mem_cons]
  exact ⟨rowB0_ok aw10, rows065_ok⟩
theorem T10_ok : CallOk Try.prog (tableT rows10) := tableT_ok rows10_ok
theorem add_sub_cancelT {R : Type} [CRing R] (a b : R) : a + b - b = a := ident (env [a, b]) (x0 + x1 - x1) x0 (by decide +kernel)
end Go.Proofs.Ythceokldlinjlaa
