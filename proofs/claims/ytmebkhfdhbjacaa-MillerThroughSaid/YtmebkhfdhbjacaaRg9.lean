/-
  The document's numbers with v: rows of sigilref09.
-/
import Derived.Test.YtmebkhfdhbjacaaRj
import Derived.Test.YtmebkhfdhbjacaaFf
namespace Go.Proofs.Ytmebkhfdhbjacaa
open Go Go.Eng Go.RowKit Go.Wd Go.Alg Go.Pr

noncomputable def TG2 : CallT := tableT rowsI7
theorem TG2_ok : CallOk Try.prog TG2 := tableT_ok rowsI7_ok
theorem ref6_reduce_run (x : N6) : run1 TG2 163 [wN x] [] = some (.one (wN (red2 x.1, red2 x.2.1, red2 x.2.2)), []) := by kernel_rfl
theorem ref6_reduce (x : N6) : Pure Try.prog 163 [wv x] (wv (red6 x)) := pureN_of_run TG2_ok (ref6_reduce_run x) (fun _ h => by cases h) (vals1 x) (n6_eq rfl rfl rfl)
theorem ref6_add_run (x y : N6) : run1 TG2 160 [wN x, wN y] [] = some (.one (wN (add2 x.1 y.1, add2 x.2.1 y.2.1, add2 x.2.2 y.2.2)), []) := by kernel_rfl
theorem ref6_add (x y : N6) : Pure Try.prog 160 [wv x, wv y] (wv (add6 x y)) := pureN_of_run TG2_ok (ref6_add_run x y) (fun _ h => by cases h) (vals2 x y) (n6_eq rfl rfl rfl)
theorem ref6_neg_run (x : N6) : run1 TG2 164 [wN x] [] = some (.one (wN (neg2 x.1, neg2 x.2.1, neg2 x.2.2)), []) := by kernel_rfl
theorem ref6_neg (x : N6) : Pure Try.prog 164 [wv x] (wv (neg6 x)) := pureN_of_run TG2_ok (ref6_neg_run x) (fun _ h => by cases h) (vals1 x) (n6_eq rfl rfl rfl)
theorem ref6_mul_run (x y : N6) : run1 TG2 161 [wN x, wN y] [] = some (.one (wN (
    add2 (add2 (0, 0) (mul2 x.1 y.1)) (xi2 (add2 (add2 (0, 0) (mul2 x.2.1 y.2.2)) (mul2 x.2.2 y.2.1))),
    add2 (add2 (add2 (0, 0) (mul2 x.1 y.2.1)) (mul2 x.2.1 y.1)) (xi2 (add2 (0, 0) (mul2 x.2.2 y.2.2))),
    add2 (add2 (add2 (0, 0) (mul2 x.1 y.2.2)) (mul2 x.2.1 y.2.1)) (mul2 x.2.2 y.1))), []) := by kernel_rfl
theorem ref6_mul (x y : N6) : Pure Try.prog 161 [wv x, wv y] (wv (mul6 x y)) := by
  refine pureN_of_run TG2_ok (ref6_mul_run x y) (fun _ h => by cases h) (vals2 x y) (n6_eq ?_ ?_ ?_)
  · simp only [add2, mul2, xi2, ικ2, zero2]
    exact congrArg κ2 (ident (env [ι2 x.1, ι2 x.2.1, ι2 x.2.2, ι2 y.1, ι2 y.2.1, ι2 y.2.2, ξ]) (0 + x0 * x3 + (0 + x1 * x5 + x2 * x4) * x6) (t 0 1 2 6 * t 3 4 5 6).a (by decide +kernel))
  · simp only [add2, mul2, xi2, ικ2, zero2]
    exact congrArg κ2 (ident (env [ι2 x.1, ι2 x.2.1, ι2 x.2.2, ι2 y.1, ι2 y.2.1, ι2 y.2.2, ξ]) (0 + x0 * x4 + x1 * x3 + (0 + x2 * x5) * x6) (t 0 1 2 6 * t 3 4 5 6).b (by decide +kernel))
  · simp only [add2, mul2, ικ2, zero2]
    exact congrArg κ2 (ident (env [ι2 x.1, ι2 x.2.1, ι2 x.2.2, ι2 y.1, ι2 y.2.1, ι2 y.2.2, ξ]) (0 + x0 * x5 + x1 * x4 + x2 * x3) (t 0 1 2 6 * t 3 4 5 6).c (by decide +kernel))
noncomputable def rowsG9a : List Row := rowN1 163 red6 :: rowN2 160 add6 :: rowN1 164 neg6 :: rowN2 161 mul6 :: rowsI7
theorem rowsG9a_ok : ∀ r ∈ rowsG9a, RowOk Try.prog r := by
  simp only [rowsG9a, List.forall_mem_cons]
  exact ⟨rowN1_ok ref6_reduce, rowN2_ok ref6_add, rowN1_ok ref6_neg, rowN2_ok ref6_mul, rowsI7_ok⟩
theorem ref6_v_run (x : N6) : run1 (tableT rowsG9a) 162 [wN x] [] = some (.one (wN (mul6 x ((0, 0), (1, 0), (0, 0)))), []) := by kernel_rfl
theorem ref6_v (x : N6) : Pure Try.prog 162 [wv x] (wv (v6 x)) := by
  refine pureN_of_run (tableT_ok rowsG9a_ok) (ref6_v_run x) (fun _ h => by cases h) (vals1 x) ?_
  have : ι6 ((0, 0), (1, 0), (0, 0)) = vv := κ6_inj (by decide +kernel)
  unfold v6 mul6
  rw [this]
theorem scale6_parts (x : N6) (k : N2) : (mul2 x.1 k, mul2 x.2.1 k, mul2 x.2.2 k) = scale6 x k := by
  refine n6_eq ?_ ?_ ?_
  · exact congrArg κ2 (ident (env [ι2 x.1, ι2 x.2.1, ι2 x.2.2, ι2 k, ξ]) (x0 * x3) (x0 * x3 + x4 * (x1 * 0 + x2 * 0)) (by decide +kernel))
  · exact congrArg κ2 (ident (env [ι2 x.1, ι2 x.2.1, ι2 x.2.2, ι2 k, ξ]) (x1 * x3) (x0 * 0 + x1 * x3 + x4 * (x2 * 0)) (by decide +kernel))
  · exact congrArg κ2 (ident (env [ι2 x.1, ι2 x.2.1, ι2 x.2.2, ι2 k, ξ]) (x2 * x3) (x0 * 0 + x1 * 0 + x2 * x3) (by decide +kernel))
noncomputable def rowsG9 : List Row :=
  rowN1 162 v6 :: rowsG9a
theorem rowsG9_ok : ∀ r ∈ rowsG9, RowOk Try.prog r := by
  unfold rowsG9
  simp only [List.forall_mem_cons]
  exact ⟨rowN1_ok ref6_v, rowsG9a_ok⟩
noncomputable def rowsH9 : List Row :=
  rowsG9
theorem rowsH9_ok : ∀ r ∈ rowsH9, RowOk Try.prog r := by
  unfold rowsH9
  exact rowsG9_ok
end Go.Proofs.Ytmebkhfdhbjacaa
