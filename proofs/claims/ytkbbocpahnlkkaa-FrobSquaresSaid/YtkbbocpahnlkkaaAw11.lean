/-
  The head of the laws of chapter 11: true.
-/
import Derived.Test.YtkbbocpahnlkkaaFrob
namespace Go.Proofs.Ytkbbocpahnlkkaa
open Go Go.Eng Go.RowKit Go.Wd Go.Alg Go.Pr

def o6 : N6 := ((1, 0), (0, 0), (0, 0))
theorem aw11_run : run1 (tableT rowsFr) 20 [] (allT 100) = some (vB true, [eqW (fr2 (0, 1) 1) (neg2 (0, 1)) true, eqW (fr2 (0, 1) 2) ((0, 1) : N2) true, eqW (fr12 (z6, o6) 6) (neg12 (z6, o6)) true, eqW (fr12 (z6, o6) 12) ((z6, o6) : N12) true]) := by kernel_rfl
theorem ι_w : ι12 (z6, o6) = ww := κ12_inj (by decide +kernel)
theorem w_κ : ((z6, o6) : N12) = κ12 ww := by decide +kernel
theorem conj_ww : ww.conj = -ww := κ12_inj (by decide +kernel)
theorem aw11 : Pure Try.prog 20 [] (.bool true) := by
  refine pureB_of_run (tableT_ok rowsFr_ok) aw11_run ?_ vals0
  simp only [List.forall_mem_cons, List.not_mem_nil, false_imp_iff, implies_true, and_true]
  refine ⟨eqW_of (by decide +kernel), eqW_of (by decide +kernel), eqW_of ?_, eqW_of ?_⟩
  · unfold fr12 neg12
    rw [ι_w, show ((6 : Int)) = ((6 : Nat) : Int) from rfl, σI_nat, σ6, conj_ww]
  · unfold fr12
    rw [ι_w, show ((12 : Int)) = ((12 : Nat) : Int) from rfl, σI_nat, σ12, w_κ]
/-- The document's remainder. -/
def tmR (n m : Int) : Int := IntKind.i64.wrap (n.tmod m + m)
theorem timesR_run1 (n : Int) : ∀ m, m = 2 ∨ m = 6 ∨ m = 12 → run1 none1 88 [iN n, iN m] [(9, true)] = some (vI .i64 (tmR n m), [n.tmod m < 0 ↔ true = true]) := by
  rintro m (rfl | rfl | rfl) <;> kernel_rfl
theorem timesR_run0 (n : Int) : ∀ m, m = 2 ∨ m = 6 ∨ m = 12 → run1 none1 88 [iN n, iN m] [(9, false)] = some (vI .i64 (n.tmod m), [n.tmod m < 0 ↔ false = true]) := by
  rintro m (rfl | rfl | rfl) <;> kernel_rfl
theorem timesR_pure (n m : Int) (h : m = 2 ∨ m = 6 ∨ m = 12) : Pure Try.prog 88 [.int .i64 n, .int .i64 m] (.int .i64 (n % m)) := by
  have h0 : 0 < m := by omega
  have a1 := Int.emod_nonneg n (show m ≠ 0 by omega)
  have a2 := Int.emod_lt_of_pos n h0
  have hm : m.natAbs = m := by omega
  have e1 : (n.tmod m = n % m) ∨ n.tmod m = n % m - m := by
    rw [Int.tmod_eq_emod]
    split
    · left; omega
    · right; rw [hm]
  by_cases hn : n.tmod m < 0
  · have e : n % m = tmR n m := by
      unfold tmR
      rw [wrap_small (by omega) (by omega)]; omega
    rw [e]
    refine pureI_of_run none1_ok (timesR_run1 n m h) ?_ (vals_i2 n m)
    intro p hp
    rw [List.mem_singleton] at hp
    subst hp
    exact iff_t hn
  · have e : n % m = n.tmod m := by omega
    rw [e]
    refine pureI_of_run none1_ok (timesR_run0 n m h) ?_ (vals_i2 n m)
    intro p hp
    rw [List.mem_singleton] at hp
    subst hp
    exact iff_f hn
def timesR : Row where
  f := 88
  ans := fun
    | [⟨false, [.v (.int .i64 n)]⟩, ⟨false, [.v (.int .i64 m)]⟩] => match m with
      | .ofNat 2 => some (vI .i64 (n % 2), [])
      | .ofNat 6 => some (vI .i64 (n % 6), [])
      | .ofNat 12 => some (vI .i64 (n % 12), [])
      | _ => none
    | _ => none
theorem timesR_ok : RowOk Try.prog timesR := by
  intro args s ob ha hob ρ vs hv
  unfold timesR at ha
  simp only at ha
  split at ha
  · rename_i n m
    rw [vals_i2' (n := n) (m := m) hv]
    split at ha
    · cases ha; exact ⟨_, vI_val _ _ _, timesR_pure n 2 (by omega)⟩
    · cases ha; exact ⟨_, vI_val _ _ _, timesR_pure n 6 (by omega)⟩
    · cases ha; exact ⟨_, vI_val _ _ _, timesR_pure n 12 (by omega)⟩
    · cases ha
  · cases ha
noncomputable def rows11 : List Row := rowB0 20 :: timesR :: rowsFr
theorem rows11_ok : ∀ r ∈ rows11, RowOk Try.prog r := by
  simp only [rows11, List.forall_mem_cons]
  exact ⟨rowB0_ok aw11, timesR_ok, rowsFr_ok⟩
theorem T11_ok : CallOk Try.prog (tableT rows11) := tableT_ok rows11_ok
end Go.Proofs.Ytkbbocpahnlkkaa
