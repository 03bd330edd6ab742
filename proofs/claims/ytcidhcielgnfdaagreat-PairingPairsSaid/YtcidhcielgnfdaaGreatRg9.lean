/-
  The document's numbers with v: rows of sigilref09.
-/
import Derived.Test.YtcidhcielgnfdaaGreatRj
import Derived.Test.YtcidhcielgnfdaaGreatFf
import Derived.Test.YtcidhcielgnfdaaGreatPwB
namespace Go.Proofs.YtcidhcielgnfdaaGreat
open Go Go.Eng Go.RowKit Go.Wd Go.Alg Go.Pr

noncomputable def TG2 : CallT := tableT rowsI7
theorem TG2_ok : CallOk Tryz.prog TG2 := tableT_ok rowsI7_ok
theorem ref6_reduce_run (x : N6) : run1 TG2 45 [wN x] [] = some (.one (wN (red2 x.1, red2 x.2.1, red2 x.2.2)), []) := by kernel_rfl
theorem ref6_reduce (x : N6) : Pure Tryz.prog 45 [wv x] (wv (red6 x)) := pureN_of_run TG2_ok (ref6_reduce_run x) (fun _ h => by cases h) (vals1 x) (n6_eq rfl rfl rfl)
theorem ref6_add_run (x y : N6) : run1 TG2 42 [wN x, wN y] [] = some (.one (wN (add2 x.1 y.1, add2 x.2.1 y.2.1, add2 x.2.2 y.2.2)), []) := by kernel_rfl
theorem ref6_add (x y : N6) : Pure Tryz.prog 42 [wv x, wv y] (wv (add6 x y)) := pureN_of_run TG2_ok (ref6_add_run x y) (fun _ h => by cases h) (vals2 x y) (n6_eq rfl rfl rfl)
theorem ref6_neg_run (x : N6) : run1 TG2 46 [wN x] [] = some (.one (wN (neg2 x.1, neg2 x.2.1, neg2 x.2.2)), []) := by kernel_rfl
theorem ref6_neg (x : N6) : Pure Tryz.prog 46 [wv x] (wv (neg6 x)) := pureN_of_run TG2_ok (ref6_neg_run x) (fun _ h => by cases h) (vals1 x) (n6_eq rfl rfl rfl)
theorem ref6_mul_run (x y : N6) : run1 TG2 43 [wN x, wN y] [] = some (.one (wN (
    add2 (add2 (0, 0) (mul2 x.1 y.1)) (xi2 (add2 (add2 (0, 0) (mul2 x.2.1 y.2.2)) (mul2 x.2.2 y.2.1))),
    add2 (add2 (add2 (0, 0) (mul2 x.1 y.2.1)) (mul2 x.2.1 y.1)) (xi2 (add2 (0, 0) (mul2 x.2.2 y.2.2))),
    add2 (add2 (add2 (0, 0) (mul2 x.1 y.2.2)) (mul2 x.2.1 y.2.1)) (mul2 x.2.2 y.1))), []) := by kernel_rfl
theorem ref6_mul (x y : N6) : Pure Tryz.prog 43 [wv x, wv y] (wv (mul6 x y)) := by
  refine pureN_of_run TG2_ok (ref6_mul_run x y) (fun _ h => by cases h) (vals2 x y) (n6_eq ?_ ?_ ?_)
  · simp only [add2, mul2, xi2, ικ2, zero2]
    exact congrArg κ2 (ident (env [ι2 x.1, ι2 x.2.1, ι2 x.2.2, ι2 y.1, ι2 y.2.1, ι2 y.2.2, ξ]) (0 + x0 * x3 + (0 + x1 * x5 + x2 * x4) * x6) (t 0 1 2 6 * t 3 4 5 6).a (by decide +kernel))
  · simp only [add2, mul2, xi2, ικ2, zero2]
    exact congrArg κ2 (ident (env [ι2 x.1, ι2 x.2.1, ι2 x.2.2, ι2 y.1, ι2 y.2.1, ι2 y.2.2, ξ]) (0 + x0 * x4 + x1 * x3 + (0 + x2 * x5) * x6) (t 0 1 2 6 * t 3 4 5 6).b (by decide +kernel))
  · simp only [add2, mul2, ικ2, zero2]
    exact congrArg κ2 (ident (env [ι2 x.1, ι2 x.2.1, ι2 x.2.2, ι2 y.1, ι2 y.2.1, ι2 y.2.2, ξ]) (0 + x0 * x5 + x1 * x4 + x2 * x3) (t 0 1 2 6 * t 3 4 5 6).c (by decide +kernel))
noncomputable def rowsG9a : List Row := rowN1 45 red6 :: rowN2 42 add6 :: rowN1 46 neg6 :: rowN2 43 mul6 :: rowsI7
theorem rowsG9a_ok : ∀ r ∈ rowsG9a, RowOk Tryz.prog r := by
  simp only [rowsG9a, List.forall_mem_cons]
  exact ⟨rowN1_ok ref6_reduce, rowN2_ok ref6_add, rowN1_ok ref6_neg, rowN2_ok ref6_mul, rowsI7_ok⟩
theorem ref6_v_run (x : N6) : run1 (tableT rowsG9a) 44 [wN x] [] = some (.one (wN (mul6 x ((0, 0), (1, 0), (0, 0)))), []) := by kernel_rfl
theorem ref6_v (x : N6) : Pure Tryz.prog 44 [wv x] (wv (v6 x)) := by
  refine pureN_of_run (tableT_ok rowsG9a_ok) (ref6_v_run x) (fun _ h => by cases h) (vals1 x) ?_
  have : ι6 ((0, 0), (1, 0), (0, 0)) = vv := κ6_inj (by decide +kernel)
  unfold v6 mul6
  rw [this]
theorem ref6_scale_run (x : N6) (k : N2) : run1 (tableT rowsG9a) 92 [wN x, wN k] [] = some (.one (wN (mul2 x.1 k, mul2 x.2.1 k, mul2 x.2.2 k)), []) := by kernel_rfl
theorem scale6_parts (x : N6) (k : N2) : (mul2 x.1 k, mul2 x.2.1 k, mul2 x.2.2 k) = scale6 x k := by
  refine n6_eq ?_ ?_ ?_
  · exact congrArg κ2 (ident (env [ι2 x.1, ι2 x.2.1, ι2 x.2.2, ι2 k, ξ]) (x0 * x3) (x0 * x3 + x4 * (x1 * 0 + x2 * 0)) (by decide +kernel))
  · exact congrArg κ2 (ident (env [ι2 x.1, ι2 x.2.1, ι2 x.2.2, ι2 k, ξ]) (x1 * x3) (x0 * 0 + x1 * x3 + x4 * (x2 * 0)) (by decide +kernel))
  · exact congrArg κ2 (ident (env [ι2 x.1, ι2 x.2.1, ι2 x.2.2, ι2 k, ξ]) (x2 * x3) (x0 * 0 + x1 * 0 + x2 * x3) (by decide +kernel))
theorem ref6_scale (x : N6) (k : N2) : Pure Tryz.prog 92 [wv x, wv k] (wv (scale6 x k)) :=
  pureN_of_run (tableT_ok rowsG9a_ok) (ref6_scale_run x k) (fun _ h => by cases h) (vals2 x k) (scale6_parts x k)
noncomputable def rowsG9 : List Row :=
  rowN2 92 scale6 ::
  rowN1 44 v6 :: rowsG9a
theorem rowsG9_ok : ∀ r ∈ rowsG9, RowOk Tryz.prog r := by
  unfold rowsG9
  refine List.forall_mem_cons.2 ⟨rowN2_ok ref6_scale, ?_⟩
  simp only [List.forall_mem_cons]
  exact ⟨rowN1_ok ref6_v, rowsG9a_ok⟩
theorem ref6_inv_run (x : N6) : run1 (tableT rowsG9) 47 [wN x] [] = some (.one (wN (scale6 (cof6 x) (inve2 (mul6 x (cof6 x)).1))), []) := by kernel_rfl
theorem ref6_inv (x : N6) : Pure Tryz.prog 47 [wv x] (wv (inve6 x)) := by
  refine pureN_of_run (tableT_ok rowsG9_ok) (ref6_inv_run x) (fun _ h => by cases h) (vals1 x) ?_
  unfold scale6 inve6 mul6
  congr 1
  rw [Cub.inv_eq' no_cube, ι_cof6]
  congr 1
  unfold up2 inve2
  rw [show ι2 (κ6 (ι6 x * (ι6 x).cof)).1 = (ι6 x * (ι6 x).cof).a from ικ2 _, ικ2]
  have : (ι6 x).norm = (ι6 x * (ι6 x).cof).a :=
    ident (env [ι2 x.1, ι2 x.2.1, ι2 x.2.2, (ι6 x).cof.a, (ι6 x).cof.b, (ι6 x).cof.c, ξ]) (x0 * x3 + x6 * (x2 * x4 + x1 * x5)) (t 0 1 2 6 * t 3 4 5 6).a (by decide +kernel)
  rw [this]
noncomputable def rowsH9 : List Row :=
  rowN1 47 inve6 ::
  rowsG9
theorem rowsH9_ok : ∀ r ∈ rowsH9, RowOk Tryz.prog r := by
  unfold rowsH9
  refine List.forall_mem_cons.2 ⟨rowN1_ok ref6_inv, ?_⟩
  exact rowsG9_ok
end Go.Proofs.YtcidhcielgnfdaaGreat
/-
  The document's numbers with w: rows of sigilref10.
-/
namespace Go.Proofs.YtcidhcielgnfdaaGreat
open Go Go.Eng Go.RowKit Go.Wd Go.Alg Go.Pr

noncomputable def TG6 : CallT := tableT rowsH9
theorem TG6_ok : CallOk Tryz.prog TG6 := tableT_ok rowsH9_ok
theorem ref12_conj_run (x : N12) : run1 TG6 21 [wN x] [] = some (.one (wN (red6 x.1, neg6 x.2)), []) := by kernel_rfl
theorem ref12_conj (x : N12) : Pure Tryz.prog 21 [wv x] (wv (conj12 x)) := pureN_of_run TG6_ok (ref12_conj_run x) (fun _ h => by cases h) (vals1 x) (n12_eq rfl rfl)
theorem ref12_mul_run (x y : N12) : run1 TG6 20 [wN x, wN y] [] = some (.one (wN (add6 (mul6 x.1 y.1) (v6 (mul6 x.2 y.2)), add6 (mul6 x.1 y.2) (mul6 x.2 y.1))), []) := by kernel_rfl
theorem ref12_mul (x y : N12) : Pure Tryz.prog 20 [wv x, wv y] (wv (mul12 x y)) := by
  refine pureN_of_run TG6_ok (ref12_mul_run x y) (fun _ h => by cases h) (vals2 x y) (n12_eq ?_ ?_)
  · simp only [add6, mul6, v6, ικ6]
    exact congrArg κ6 (ident (env [ι6 x.1, ι6 x.2, ι6 y.1, ι6 y.2, vv]) (x0 * x2 + x1 * x3 * x4) (x0 * x2 + x4 * (x1 * x3)) (by decide +kernel))
  · simp only [add6, mul6, ικ6]
    exact congrArg κ6 (ident (env [ι6 x.1, ι6 x.2, ι6 y.1, ι6 y.2]) (x0 * x3 + x1 * x2) (x0 * x3 + x1 * x2) (by decide +kernel))
noncomputable def rowsG10a : List Row :=
  rowN1 21 conj12 :: rowN2 20 mul12 :: rowsH9
theorem rowsG10a_ok : ∀ r ∈ rowsG10a, RowOk Tryz.prog r := by
  unfold rowsG10a
  simp only [List.forall_mem_cons]
  exact ⟨rowN1_ok ref12_conj, rowN2_ok ref12_mul, rowsH9_ok⟩
theorem ref12_inv_run (x : N12) : run1 (tableT rowsG10a) 22 [wN x] [] = some (.one (wN (mul6 (conj12 x).1 (inve6 (mul12 x (conj12 x)).1), mul6 (conj12 x).2 (inve6 (mul12 x (conj12 x)).1))), []) := by kernel_rfl
theorem ref12_inv (x : N12) : Pure Tryz.prog 22 [wv x] (wv (inve12 x)) := by
  refine pureN_of_run (tableT_ok rowsG10a_ok) (ref12_inv_run x) (fun _ h => by cases h) (vals1 x) ?_
  have hn : ι6 (mul12 x (conj12 x)).1 = (ι12 x).norm := by
    unfold mul12 conj12
    rw [show ι6 (κ12 (ι12 x * ι12 (κ12 (ι12 x).conj))).1 = (ι12 x * ι12 (κ12 (ι12 x).conj)).a from ικ6 _, ικ12]
    exact ident (env [ι6 x.1, ι6 x.2, vv]) (x0 * x0 + x2 * (x1 * -x1)) (x0 * x0 - x2 * (x1 * x1)) (by decide +kernel)
  have h1 : ι6 (conj12 x).1 = ι6 x.1 := ικ6 _
  have h2 : ι6 (conj12 x).2 = -ι6 x.2 := ικ6 _
  unfold inve12
  rw [Quad.inv_eq' no_root6]
  unfold mul6 inve6
  rw [ικ6, hn, h1, h2]
  refine n12_eq (congrArg κ6 ?_) (congrArg κ6 ?_)
  · exact ident (env [ι6 x.1, ι6 x.2, inv (ι12 x).norm, vv]) (x0 * x2) (x0 * x2 + x3 * (-x1 * 0)) (by decide +kernel)
  · exact ident (env [ι6 x.1, ι6 x.2, inv (ι12 x).norm, vv]) (-x1 * x2) (x0 * 0 + -x1 * x2) (by decide +kernel)
noncomputable def rowsG10 : List Row :=
  rowN1 22 inve12 ::
  rowsG10a
theorem rowsG10_ok : ∀ r ∈ rowsG10, RowOk Tryz.prog r := by
  unfold rowsG10
  refine List.forall_mem_cons.2 ⟨rowN1_ok ref12_inv, ?_⟩
  exact rowsG10a_ok
theorem ref12_one_run : run1 (tableT rowsG10) 10 [] [] = some (.one ⟨true, one72⟩, []) := by kernel_rfl
theorem ref12_one : Pure Tryz.prog 10 [] (wv (κ12 1)) := by
  refine pure_of_run1 (tableT_ok rowsG10_ok) ref12_one_run (fun p hp => by cases hp) vals0 fun ρ u hu => ?_
  obtain ⟨vs, h1, h2⟩ := AV.cells (x := ⟨true, one72⟩) (by exact hu)
  have h3 := one72_conc ρ vs h1
  rw [conc_ws] at h3
  rcases h2 with ⟨_, rfl⟩ | ⟨h2, _⟩
  · cases h3; rfl
  · cases h2
noncomputable def rowsH10 : List Row := rowN0 10 (κ12 1) :: rowsG10
theorem rowsH10_ok : ∀ r ∈ rowsH10, RowOk Tryz.prog r := by
  simp only [rowsH10, List.forall_mem_cons]
  exact ⟨rowN0_ok ref12_one, rowsG10_ok⟩
end Go.Proofs.YtcidhcielgnfdaaGreat
