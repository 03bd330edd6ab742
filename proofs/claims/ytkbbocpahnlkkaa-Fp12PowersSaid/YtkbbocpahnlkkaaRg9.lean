/-
  The document's numbers with v: rows of sigilref09.
-/
import Derived.Test.YtkbbocpahnlkkaaRj
import Derived.Test.YtkbbocpahnlkkaaFf
namespace Go.Proofs.Ytkbbocpahnlkkaa
open Go Go.Eng Go.RowKit Go.Wd Go.Alg Go.Pr

noncomputable def TG2 : CallT := tableT rowsI7
theorem TG2_ok : CallOk Try.prog TG2 := tableT_ok rowsI7_ok
theorem ref6_reduce_run (x : N6) : run1 TG2 63 [wN x] [] = some (.one (wN (red2 x.1, red2 x.2.1, red2 x.2.2)), []) := by kernel_rfl
theorem ref6_reduce (x : N6) : Pure Try.prog 63 [wv x] (wv (red6 x)) := pureN_of_run TG2_ok (ref6_reduce_run x) (fun _ h => by cases h) (vals1 x) (n6_eq rfl rfl rfl)
theorem ref6_add_run (x y : N6) : run1 TG2 65 [wN x, wN y] [] = some (.one (wN (add2 x.1 y.1, add2 x.2.1 y.2.1, add2 x.2.2 y.2.2)), []) := by kernel_rfl
theorem ref6_add (x y : N6) : Pure Try.prog 65 [wv x, wv y] (wv (add6 x y)) := pureN_of_run TG2_ok (ref6_add_run x y) (fun _ h => by cases h) (vals2 x y) (n6_eq rfl rfl rfl)
theorem ref6_neg_run (x : N6) : run1 TG2 69 [wN x] [] = some (.one (wN (neg2 x.1, neg2 x.2.1, neg2 x.2.2)), []) := by kernel_rfl
theorem ref6_neg (x : N6) : Pure Try.prog 69 [wv x] (wv (neg6 x)) := pureN_of_run TG2_ok (ref6_neg_run x) (fun _ h => by cases h) (vals1 x) (n6_eq rfl rfl rfl)
theorem ref6_mul_run (x y : N6) : run1 TG2 57 [wN x, wN y] [] = some (.one (wN (
    add2 (add2 (0, 0) (mul2 x.1 y.1)) (xi2 (add2 (add2 (0, 0) (mul2 x.2.1 y.2.2)) (mul2 x.2.2 y.2.1))),
    add2 (add2 (add2 (0, 0) (mul2 x.1 y.2.1)) (mul2 x.2.1 y.1)) (xi2 (add2 (0, 0) (mul2 x.2.2 y.2.2))),
    add2 (add2 (add2 (0, 0) (mul2 x.1 y.2.2)) (mul2 x.2.1 y.2.1)) (mul2 x.2.2 y.1))), []) := by kernel_rfl
theorem ref6_mul (x y : N6) : Pure Try.prog 57 [wv x, wv y] (wv (mul6 x y)) := by
  refine pureN_of_run TG2_ok (ref6_mul_run x y) (fun _ h => by cases h) (vals2 x y) (n6_eq ?_ ?_ ?_)
  · simp only [add2, mul2, xi2, ικ2, zero2]
    exact congrArg κ2 (ident (env [ι2 x.1, ι2 x.2.1, ι2 x.2.2, ι2 y.1, ι2 y.2.1, ι2 y.2.2, ξ]) (0 + x0 * x3 + (0 + x1 * x5 + x2 * x4) * x6) (t 0 1 2 6 * t 3 4 5 6).a (by decide +kernel))
  · simp only [add2, mul2, xi2, ικ2, zero2]
    exact congrArg κ2 (ident (env [ι2 x.1, ι2 x.2.1, ι2 x.2.2, ι2 y.1, ι2 y.2.1, ι2 y.2.2, ξ]) (0 + x0 * x4 + x1 * x3 + (0 + x2 * x5) * x6) (t 0 1 2 6 * t 3 4 5 6).b (by decide +kernel))
  · simp only [add2, mul2, ικ2, zero2]
    exact congrArg κ2 (ident (env [ι2 x.1, ι2 x.2.1, ι2 x.2.2, ι2 y.1, ι2 y.2.1, ι2 y.2.2, ξ]) (0 + x0 * x5 + x1 * x4 + x2 * x3) (t 0 1 2 6 * t 3 4 5 6).c (by decide +kernel))
noncomputable def rowsG9a : List Row := rowN1 63 red6 :: rowN2 65 add6 :: rowN1 69 neg6 :: rowN2 57 mul6 :: rowsI7
theorem rowsG9a_ok : ∀ r ∈ rowsG9a, RowOk Try.prog r := by
  simp only [rowsG9a, List.forall_mem_cons]
  exact ⟨rowN1_ok ref6_reduce, rowN2_ok ref6_add, rowN1_ok ref6_neg, rowN2_ok ref6_mul, rowsI7_ok⟩
theorem ref6_sub_run (x y : N6) : run1 (tableT rowsG9a) 67 [wN x, wN y] [] = some (.one (wN (add6 x (neg6 y))), []) := by kernel_rfl
theorem ref6_sub (x y : N6) : Pure Try.prog 67 [wv x, wv y] (wv (sub6 x y)) := by
  refine pureN_of_run (tableT_ok rowsG9a_ok) (ref6_sub_run x y) (fun _ h => by cases h) (vals2 x y) ?_
  unfold add6 neg6 sub6
  rw [ικ6]; rfl
theorem ref6_v_run (x : N6) : run1 (tableT rowsG9a) 61 [wN x] [] = some (.one (wN (mul6 x ((0, 0), (1, 0), (0, 0)))), []) := by kernel_rfl
theorem ref6_v (x : N6) : Pure Try.prog 61 [wv x] (wv (v6 x)) := by
  refine pureN_of_run (tableT_ok rowsG9a_ok) (ref6_v_run x) (fun _ h => by cases h) (vals1 x) ?_
  have : ι6 ((0, 0), (1, 0), (0, 0)) = vv := κ6_inj (by decide +kernel)
  unfold v6 mul6
  rw [this]
theorem ref6_scale_run (x : N6) (k : N2) : run1 (tableT rowsG9a) 71 [wN x, wN k] [] = some (.one (wN (mul2 x.1 k, mul2 x.2.1 k, mul2 x.2.2 k)), []) := by kernel_rfl
theorem scale6_parts (x : N6) (k : N2) : (mul2 x.1 k, mul2 x.2.1 k, mul2 x.2.2 k) = scale6 x k := by
  refine n6_eq ?_ ?_ ?_
  · exact congrArg κ2 (ident (env [ι2 x.1, ι2 x.2.1, ι2 x.2.2, ι2 k, ξ]) (x0 * x3) (x0 * x3 + x4 * (x1 * 0 + x2 * 0)) (by decide +kernel))
  · exact congrArg κ2 (ident (env [ι2 x.1, ι2 x.2.1, ι2 x.2.2, ι2 k, ξ]) (x1 * x3) (x0 * 0 + x1 * x3 + x4 * (x2 * 0)) (by decide +kernel))
  · exact congrArg κ2 (ident (env [ι2 x.1, ι2 x.2.1, ι2 x.2.2, ι2 k, ξ]) (x2 * x3) (x0 * 0 + x1 * 0 + x2 * x3) (by decide +kernel))
theorem ref6_scale (x : N6) (k : N2) : Pure Try.prog 71 [wv x, wv k] (wv (scale6 x k)) :=
  pureN_of_run (tableT_ok rowsG9a_ok) (ref6_scale_run x k) (fun _ h => by cases h) (vals2 x k) (scale6_parts x k)
noncomputable def rowsG9 : List Row := rowN2 67 sub6 :: rowN1 61 v6 :: rowN2 71 scale6 :: rowsG9a
theorem rowsG9_ok : ∀ r ∈ rowsG9, RowOk Try.prog r := by
  simp only [rowsG9, List.forall_mem_cons]
  exact ⟨rowN2_ok ref6_sub, rowN1_ok ref6_v, rowN2_ok ref6_scale, rowsG9a_ok⟩
theorem ref6_inv_run (x : N6) : run1 (tableT rowsG9) 59 [wN x] [] = some (.one (wN (scale6 (cof6 x) (inve2 (mul6 x (cof6 x)).1))), []) := by kernel_rfl
theorem ref6_inv (x : N6) : Pure Try.prog 59 [wv x] (wv (inve6 x)) := by
  refine pureN_of_run (tableT_ok rowsG9_ok) (ref6_inv_run x) (fun _ h => by cases h) (vals1 x) ?_
  unfold scale6 inve6 mul6
  congr 1
  rw [Cub.inv_eq' no_cube, ι_cof6]
  congr 1
  unfold up2 inve2
  rw [show ι2 (κ6 (ι6 x * (ι6 x).cof)).1 = (ι6 x * (ι6 x).cof).a from ικ2 _, ικ2]
  have : (ι6 x).norm = (ι6 x * (ι6 x).cof).a :=
    ident (env [ι2 x.1, ι2 x.2.1, ι2 x.2.2, (ι6 x).cof.a, (ι6 x).cof.b, (ι6 x).cof.c, ξ]) (x0 * x3 + x6 * (x2 * x4 + x1 * x5)) (t 0 1 2 6 * t 3 4 5 6).a (by decide +kernel)
  rw [this]
noncomputable def rowsH9 : List Row := rowN1 59 inve6 :: rowsG9
theorem rowsH9_ok : ∀ r ∈ rowsH9, RowOk Try.prog r := by
  simp only [rowsH9, List.forall_mem_cons]
  exact ⟨rowN1_ok ref6_inv, rowsG9_ok⟩
end Go.Proofs.Ytkbbocpahnlkkaa
