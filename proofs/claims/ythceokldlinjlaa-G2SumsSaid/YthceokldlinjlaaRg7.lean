/-
  The document's numbers with u: rows of sigilref07.
-/
import Derived.Test.YthceokldlinjlaaRd
import Derived.Test.YthceokldlinjlaaFf
namespace Go.Proofs.Ythceokldlinjlaa
open Go Go.Eng Go.RowKit Go.Wd Go.Alg Go.Pr

noncomputable def rowsG4 : List Row := [rowN1 87 rdN, rowN2 120 addF, rowN2 119 subF, rowN2 85 mulF, rowN1 121 negF]
theorem rowsG4_ok : ∀ r ∈ rowsG4, RowOk Try.prog r := by
  simp only [rowsG4, List.forall_mem_cons, List.not_mem_nil, false_imp_iff, implies_true, and_true]
  exact ⟨rowN1_ok rReduce, rowN2_ok rAdd, rowN2_ok rSub, rowN2_ok rMul, rowN1_ok rNeg⟩
noncomputable def TG : CallT := tableT rowsG4
theorem TG_ok : CallOk Try.prog TG := tableT_ok rowsG4_ok
theorem ref2_reduce_run (x : N2) : run1 TG 142 [wN x] [] = some (.one (wN (rdN x.1, rdN x.2)), []) := by kernel_rfl
theorem ref2_reduce (x : N2) : Pure Try.prog 142 [wv x] (wv (red2 x)) := pureN_of_run TG_ok (ref2_reduce_run x) (fun _ h => by cases h) (vals1 x) (n2_eq rfl rfl)
theorem ref2_add_run (x y : N2) : run1 TG 140 [wN x, wN y] [] = some (.one (wN (addF x.1 y.1, addF x.2 y.2)), []) := by kernel_rfl
theorem ref2_add (x y : N2) : Pure Try.prog 140 [wv x, wv y] (wv (add2 x y)) := pureN_of_run TG_ok (ref2_add_run x y) (fun _ h => by cases h) (vals2 x y) (n2_eq rfl rfl)
theorem ref2_neg_run (x : N2) : run1 TG 143 [wN x] [] = some (.one (wN (negF x.1, negF x.2)), []) := by kernel_rfl
theorem ref2_neg (x : N2) : Pure Try.prog 143 [wv x] (wv (neg2 x)) := pureN_of_run TG_ok (ref2_neg_run x) (fun _ h => by cases h) (vals1 x) (n2_eq rfl rfl)
theorem ref2_conj_run (x : N2) : run1 TG 82 [wN x] [] = some (.one (wN (rdN x.1, negF x.2)), []) := by kernel_rfl
theorem ref2_conj (x : N2) : Pure Try.prog 82 [wv x] (wv (conj2 x)) := pureN_of_run TG_ok (ref2_conj_run x) (fun _ h => by cases h) (vals1 x) (n2_eq rfl rfl)
theorem ref2_mul_run (x y : N2) : run1 TG 81 [wN x, wN y] [] = some (.one (wN (subF (mulF x.1 y.1) (mulF x.2 y.2), addF (mulF x.1 y.2) (mulF x.2 y.1))), []) := by kernel_rfl
theorem ref2_mul (x y : N2) : Pure Try.prog 81 [wv x, wv y] (wv (mul2 x y)) := by
  refine pureN_of_run TG_ok (ref2_mul_run x y) (fun _ h => by cases h) (vals2 x y) (n2_eq ?_ ?_)
  · simp only [subF, mulF, φ_val]
    exact congrArg Z.val (ident (env [φ x.1, φ x.2, φ y.1, φ y.2]) (x0 * x2 - x1 * x3) (x0 * x2 + -1 * (x1 * x3)) (by decide +kernel))
  · simp only [mulF, addF, φ_val]
    exact congrArg Z.val (ident (env [φ x.1, φ x.2, φ y.1, φ y.2]) (x0 * x3 + x1 * x2) (x0 * x3 + x1 * x2) (by decide +kernel))
theorem ref2_scale_run (x : N2) (k : Nat) : run1 TG 117 [wN x, wN k] [] = some (.one (wN (mulF x.1 k, mulF x.2 k)), []) := by kernel_rfl
theorem ref2_scale (x : N2) (k : Nat) : Pure Try.prog 117 [wv x, wv k] (wv (scale2 x k)) := by
  refine pureN_of_run TG_ok (ref2_scale_run x k) (fun _ h => by cases h) (vals2 x k) (n2_eq ?_ ?_)
  · exact congrArg Z.val (ident (env [φ x.1, φ x.2, φ k]) (x0 * x2) (x0 * x2 + -1 * (x1 * 0)) (by decide +kernel))
  · exact congrArg Z.val (ident (env [φ x.1, φ x.2, φ k]) (x1 * x2) (x0 * 0 + x1 * x2) (by decide +kernel))
noncomputable def rowsG7a : List Row := rowN1 142 red2 :: rowN2 140 add2 :: rowN1 143 neg2 :: rowN1 82 conj2 :: rowN2 81 mul2 :: rowN2 117 scale2 :: rowsG4
theorem rowsG7a_ok : ∀ r ∈ rowsG7a, RowOk Try.prog r := by
  simp only [rowsG7a, List.forall_mem_cons]
  exact ⟨rowN1_ok ref2_reduce, rowN2_ok ref2_add, rowN1_ok ref2_neg, rowN1_ok ref2_conj, rowN2_ok ref2_mul, rowN2_ok ref2_scale, rowsG4_ok⟩
theorem ref2_sub_run (x y : N2) : run1 (tableT rowsG7a) 115 [wN x, wN y] [] = some (.one (wN (add2 x (neg2 y))), []) := by kernel_rfl
theorem ref2_sub (x y : N2) : Pure Try.prog 115 [wv x, wv y] (wv (sub2 x y)) := by
  refine pureN_of_run (tableT_ok rowsG7a_ok) (ref2_sub_run x y) (fun _ h => by cases h) (vals2 x y) ?_
  unfold add2 neg2 sub2
  rw [ικ2]; rfl
noncomputable def rowsG7 : List Row := rowN2 115 sub2 ::
  rowsG7a
theorem rowsG7_ok : ∀ r ∈ rowsG7, RowOk Try.prog r := by
  refine List.forall_mem_cons.2 ⟨rowN2_ok ref2_sub, ?_⟩
  exact rowsG7a_ok
end Go.Proofs.Ythceokldlinjlaa
