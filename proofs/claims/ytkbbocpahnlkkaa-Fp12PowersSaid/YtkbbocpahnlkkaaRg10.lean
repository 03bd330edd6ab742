/-
  The document's numbers with w: rows of sigilref10.
-/
import Derived.Test.YtkbbocpahnlkkaaRg9
namespace Go.Proofs.Ytkbbocpahnlkkaa
open Go Go.Eng Go.RowKit Go.Wd Go.Alg Go.Pr

noncomputable def TG6 : CallT := tableT rowsH9
theorem TG6_ok : CallOk Try.prog TG6 := tableT_ok rowsH9_ok
theorem ref12_reduce_run (x : N12) : run1 TG6 29 [wN x] [] = some (.one (wN (red6 x.1, red6 x.2)), []) := by kernel_rfl
theorem ref12_reduce (x : N12) : Pure Try.prog 29 [wv x] (wv (red12 x)) := pureN_of_run TG6_ok (ref12_reduce_run x) (fun _ h => by cases h) (vals1 x) (n12_eq rfl rfl)
theorem ref12_add_run (x y : N12) : run1 TG6 31 [wN x, wN y] [] = some (.one (wN (add6 x.1 y.1, add6 x.2 y.2)), []) := by kernel_rfl
theorem ref12_add (x y : N12) : Pure Try.prog 31 [wv x, wv y] (wv (add12 x y)) := pureN_of_run TG6_ok (ref12_add_run x y) (fun _ h => by cases h) (vals2 x y) (n12_eq rfl rfl)
theorem ref12_neg_run (x : N12) : run1 TG6 35 [wN x] [] = some (.one (wN (neg6 x.1, neg6 x.2)), []) := by kernel_rfl
theorem ref12_neg (x : N12) : Pure Try.prog 35 [wv x] (wv (neg12 x)) := pureN_of_run TG6_ok (ref12_neg_run x) (fun _ h => by cases h) (vals1 x) (n12_eq rfl rfl)
theorem ref12_conj_run (x : N12) : run1 TG6 37 [wN x] [] = some (.one (wN (red6 x.1, neg6 x.2)), []) := by kernel_rfl
theorem ref12_conj (x : N12) : Pure Try.prog 37 [wv x] (wv (conj12 x)) := pureN_of_run TG6_ok (ref12_conj_run x) (fun _ h => by cases h) (vals1 x) (n12_eq rfl rfl)
theorem ref12_mul_run (x y : N12) : run1 TG6 73 [wN x, wN y] [] = some (.one (wN (add6 (mul6 x.1 y.1) (v6 (mul6 x.2 y.2)), add6 (mul6 x.1 y.2) (mul6 x.2 y.1))), []) := by kernel_rfl
theorem ref12_mul (x y : N12) : Pure Try.prog 73 [wv x, wv y] (wv (mul12 x y)) := by
  refine pureN_of_run TG6_ok (ref12_mul_run x y) (fun _ h => by cases h) (vals2 x y) (n12_eq ?_ ?_)
  · simp only [add6, mul6, v6, ικ6]
    exact congrArg κ6 (ident (env [ι6 x.1, ι6 x.2, ι6 y.1, ι6 y.2, vv]) (x0 * x2 + x1 * x3 * x4) (x0 * x2 + x4 * (x1 * x3)) (by decide +kernel))
  · simp only [add6, mul6, ικ6]
    exact congrArg κ6 (ident (env [ι6 x.1, ι6 x.2, ι6 y.1, ι6 y.2]) (x0 * x3 + x1 * x2) (x0 * x3 + x1 * x2) (by decide +kernel))
noncomputable def rowsG10a : List Row := rowN1 29 red12 :: rowN2 31 add12 :: rowN1 35 neg12 :: rowN1 37 conj12 :: rowN2 73 mul12 :: rowsH9
theorem rowsG10a_ok : ∀ r ∈ rowsG10a, RowOk Try.prog r := by
  simp only [rowsG10a, List.forall_mem_cons]
  exact ⟨rowN1_ok ref12_reduce, rowN2_ok ref12_add, rowN1_ok ref12_neg, rowN1_ok ref12_conj, rowN2_ok ref12_mul, rowsH9_ok⟩
theorem ref12_sub_run (x y : N12) : run1 (tableT rowsG10a) 33 [wN x, wN y] [] = some (.one (wN (add12 x (neg12 y))), []) := by kernel_rfl
theorem ref12_sub (x y : N12) : Pure Try.prog 33 [wv x, wv y] (wv (sub12 x y)) := by
  refine pureN_of_run (tableT_ok rowsG10a_ok) (ref12_sub_run x y) (fun _ h => by cases h) (vals2 x y) ?_
  unfold add12 neg12 sub12
  rw [ικ12]; rfl
theorem ref12_inv_run (x : N12) : run1 (tableT rowsG10a) 75 [wN x] [] = some (.one (wN (mul6 (conj12 x).1 (inve6 (mul12 x (conj12 x)).1), mul6 (conj12 x).2 (inve6 (mul12 x (conj12 x)).1))), []) := by kernel_rfl
theorem ref12_inv (x : N12) : Pure Try.prog 75 [wv x] (wv (inve12 x)) := by
  refine pureN_of_run (tableT_ok rowsG10a_ok) (ref12_inv_run x) (fun _ h => by cases h) (vals1 x) ?_
  have hn : ι6 (mul12 x (conj12 x)).1 = (ι12 x).norm := by
    unfold mul12 conj12
    rw [show ι6 (κ12 (ι12 x * ι12 (κ12 (ι12 x).conj))).1 = (ι12 x * ι12 (κ12 (ι12 x).conj)).a from ικ6 _, ικ12]
    exact ident (env [ι6 x.1, ι6 x.2, vv]) (x0 * x0 + x2 * (x1 * -x1)) (x0 * x0 - x2 * (x1 * x1)) (by decide +kernel)
  have h1 : ι6 (conj12 x).1 = ι6 x.1 := ικ6 _
  have h2 : ι6 (conj12 x).2 = -ι6 x.2 := ικ6 _
  unfold inve12
  rw [Quad.inv_eq' no_root6]
  unfold mul6 inve6
  rw [ικ6, hn, h1, h2]
  refine n12_eq (congrArg κ6 ?_) (congrArg κ6 ?_)
  · exact ident (env [ι6 x.1, ι6 x.2, inv (ι12 x).norm, vv]) (x0 * x2) (x0 * x2 + x3 * (-x1 * 0)) (by decide +kernel)
  · exact ident (env [ι6 x.1, ι6 x.2, inv (ι12 x).norm, vv]) (-x1 * x2) (x0 * 0 + -x1 * x2) (by decide +kernel)
noncomputable def rowsG10 : List Row := rowN2 33 sub12 :: rowN1 75 inve12 :: rowsG10a
theorem rowsG10_ok : ∀ r ∈ rowsG10, RowOk Try.prog r := by
  simp only [rowsG10, List.forall_mem_cons]
  exact ⟨rowN2_ok ref12_sub, rowN1_ok ref12_inv, rowsG10a_ok⟩
end Go.Proofs.Ytkbbocpahnlkkaa
