/-
  The head of the laws of chapter 13: true.
-/
import Derived.Test.YthceokldlinjlaaB2
namespace Go.Proofs.Ythceokldlinjlaa
open Go Go.Eng Go.RowKit Go.Wd Go.Alg Go.Pr

theorem aw13_run : run1 TP2 18 [] (allT 100) = some (vB true, [1 < 4294967296, (0 : Int) ≤ 2 ∧ (2 : Int) < 18446744073709551616, 1 < 4294967296, (0 : Int) ≤ 1 ∧ (1 : Int) < 18446744073709551616,
    eqP' (addP2 base2 (negP2 base2)) noneP2 true, eqP' (addP2 base2 base2) (mulR2 base2 (2 % pw 1)).1 true, (mulR2 base2 (2 % pw 1)).2 = 0 ↔ true = true, (mulR2 zP2 (1 % pw 1)).2 = 120 ↔ true = true]) := by kernel_rfl
theorem mod_pw1 {a : Nat} (h : a < 18446744073709551616) : a % pw 1 = a := Nat.mod_eq_of_lt h
theorem aw13 : Pure Try.prog 18 [] (.bool true) := by
  refine pureB_of_run TP2_ok aw13_run ?_ vals0
  refine all_cons (by omega) (all_cons (by omega) (all_cons (by omega) (all_cons (by omega) (all_cons (eqP_of ?_) (all_cons (eqP_of ?_) (all_cons (iff_t ?_) (all_cons (iff_t ?_) all_nil)))))))
  · unfold addP2 negP2
    rw [ικP2, add_neg_pt cv2]; rfl
  · rw [mulR2_on base2_on, mod_pw1 (by omega)]
    show κP2 _ = κP2 (padd (padd .inf (ιP2 base2)) (ιP2 base2))
    rw [inf_add]
  · rw [mulR2_on base2_on]
  · rw [mulR2_off zero2_off]
noncomputable def rowsL13 : List Row := rowB0 18 :: rowsP2
theorem rowsL13_ok : ∀ r ∈ rowsL13, RowOk Try.prog r := by
  simp only [rowsL13, List.forall_mem_cons]
  exact ⟨rowB0_ok aw13, rowsP2_ok⟩
noncomputable def T13 : CallT := orT (tableT rowsL13) (rowSB (kdP A2) rsM2 20 mulR2)
theorem T13_ok : CallOk Try.prog T13 := orT_ok (tableT_ok rowsL13_ok) g2_mul_row
/-- The table in which all points that are asked are on the curve, or none. -/
noncomputable def rowsO13 (b : Bool) : List Row := rowK1 (kdP A2) kdB.rs 23 (fun _ => b) (fun x => onB2 x = b) :: rowsL13
theorem rowsO13_ok (b : Bool) : ∀ r ∈ rowsO13 b, RowOk Try.prog r := by
  simp only [rowsO13, List.forall_mem_cons]
  exact ⟨rowK1_ok fun x hx => by rw [← hx]; exact g2_on x, rowsL13_ok⟩
noncomputable def TO13 (b : Bool) : CallT := orT (tableT (rowsO13 b)) (rowSB (kdP A2) rsM2 20 mulR2)
theorem TO13_ok (b : Bool) : CallOk Try.prog (TO13 b) := orT_ok (tableT_ok (rowsO13_ok b)) g2_mul_row
end Go.Proofs.Ythceokldlinjlaa
