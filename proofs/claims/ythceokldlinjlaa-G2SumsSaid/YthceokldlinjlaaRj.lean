/-
  The document's inverse in the base field: the power of p - 2.
-/
import Derived.Test.YthceokldlinjlaaRp4
import Derived.Test.YthceokldlinjlaaRg7
import Derived.Test.YthceokldlinjlaaAw7
namespace Go.Proofs.Ythceokldlinjlaa
open Go Go.Eng Go.RowKit Go.Wd Go.Alg Go.Pr

def iNum (q : Nat) : Nat := (IntKind.u64.wrap (wI q 0 - 2)).toNat + ((wI q 1).toNat + ((wI q 2).toNat + ((wI q 3).toNat + ((wI q 4).toNat + ((wI q 5).toNat + 0 * 18446744073709551616) * 18446744073709551616) * 18446744073709551616) * 18446744073709551616) * 18446744073709551616) * 18446744073709551616
noncomputable def TI4 (q : Nat) : CallT := orT (tableT [rPQ q]) (rowSA 144 powF)
theorem TI4_ok (q : Nat) : CallOk Try.prog (TI4 q) := orT_ok (tableT_ok (by
  simp only [List.forall_mem_cons, List.not_mem_nil, false_imp_iff, implies_true, and_true]
  exact rPQ_ok q)) R4_row
def iOb (x : Int) : Prop := 0 ≤ x ∧ x < 18446744073709551616
theorem r4Inv_run (x q : Nat) : run1 (TI4 q) 118 [wN x] [] = some (.one (wN (powF x (iNum q % pw 6))), [q = pN, 6 < 4294967296, iOb (IntKind.u64.wrap (wI q 0 - 2)), iOb (wI q 1), iOb (wI q 2), iOb (wI q 3), iOb (wI q 4), iOb (wI q 5)]) := by kernel_rfl
theorem iNum_p : iNum pN % pw 6 = pN - 2 := by decide +kernel
theorem pow_p_two (z : F) : pow z (pN - 2) = inv z := by
  by_cases h : z = 0
  · subst h
    have e : pN - 2 = (pN - 3) + 1 := by decide +kernel
    rw [inv_zero, e, pow_succ, mul_zero]
  · have e : pN = (pN - 2) + 1 + 1 := by decide +kernel
    have key : ∀ m, m = (pN - 2) + 1 + 1 → pow z m = z → pow z (pN - 2) * z * z = z := by
      intro m hm hz
      subst hm
      exact hz
    have hp := key pN e (pow_p z)
    refine (inv_eq ?_).symm
    refine mul_cancel h ?_
    rw [mul_one]
    rw [mul_comm z (pow z (pN - 2)), mul_comm z (pow z (pN - 2) * z)]
    exact hp
theorem rInv (x : Nat) : Pure Try.prog 118 [wv x] (wv (invF x)) := by
  refine pureN_of_run (TI4_ok pN) (r4Inv_run x pN) (fun p hp => ?_) (vals1 x) ?_
  · have hd := dg_lt pN
    simp only [List.mem_cons, List.not_mem_nil, or_false] at hp
    rcases hp with rfl | rfl | rfl | rfl | rfl | rfl | rfl | rfl
    · trivial
    · decide
    · unfold iOb; decide +kernel
    · have := hd 1; unfold iOb wI; omega
    · have := hd 2; unfold iOb wI; omega
    · have := hd 3; unfold iOb wI; omega
    · have := hd 4; unfold iOb wI; omega
    · have := hd 5; unfold iOb wI; omega
  · unfold powF invF
    rw [iNum_p, pow_p_two]
noncomputable def rowsI4 : List Row := rowN1 118 invF :: rowsG7
theorem rowsI4_ok : ∀ r ∈ rowsI4, RowOk Try.prog r := by
  simp only [rowsI4, List.forall_mem_cons]
  exact ⟨rowN1_ok rInv, rowsG7_ok⟩
theorem ref2_inv_run (x : N2) : run1 (tableT rowsI4) 77 [wN x] [] = some (.one (wN (scale2 (conj2 x) (invF (mul2 x (conj2 x)).1))), []) := by kernel_rfl
theorem ref2_inv (x : N2) : Pure Try.prog 77 [wv x] (wv (inve2 x)) := by
  refine pureN_of_run (tableT_ok rowsI4_ok) (ref2_inv_run x) (fun _ h => by cases h) (vals1 x) ?_
  unfold scale2 conj2 inve2 mul2
  congr 1
  rw [Quad.inv_eq' no_root, ικ2]
  unfold invF
  rw [show φ (κ2 (ι2 x * (ι2 x).conj)).1 = (ι2 x * (ι2 x).conj).a from φ_val _]
  have : (ι2 x).norm = (ι2 x * (ι2 x).conj).a := ident (env [φ x.1, φ x.2]) (x0 * x0 - -1 * (x1 * x1)) (x0 * x0 + -1 * (x1 * -x1)) (by decide +kernel)
  rw [this, φ_val]; rfl
noncomputable def rowsI7 : List Row := rowN1 77 inve2 :: rowsI4
theorem rowsI7_ok : ∀ r ∈ rowsI7, RowOk Try.prog r := by
  simp only [rowsI7, List.forall_mem_cons]
  exact ⟨rowN1_ok ref2_inv, rowsI4_ok⟩
end Go.Proofs.Ythceokldlinjlaa
