/-
  Numbers with u: the rows of fp2.
-/
import Derived.Test.YtkpihidjolfkoaaN
import Derived.Test.YtkpihidjolfkoaaFld
namespace Go.Proofs.Ytkpihidjolfkoaa
open Go Go.Eng Go.RowKit Go.Wd Go.Alg Go.Pr

abbrev F2 := Quad F (-1)
abbrev N2 := Nat × Nat
def ι2 (x : N2) : F2 := ⟨φ x.1, φ x.2⟩
def κ2 (z : F2) : N2 := (z.a.val, z.b.val)
theorem ικ2 (z : F2) : ι2 (κ2 z) = z := Quad.ext' (φ_val _) (φ_val _)
theorem κ2_inj {x y : F2} (h : κ2 x = κ2 y) : x = y := by rw [← ικ2 x, h, ικ2]
theorem two_ne : (1 : F) + 1 ≠ 0 := by
  intro h
  have : (1 % pN + 1 % pN) % pN = 0 % pN := congrArg Z.val h
  revert this
  decide +kernel
theorem pow_p (t : F) : pow t pN = t := by have := fermat pN_prime t.val; rwa [Z.of_val] at this
theorem neg_one_pow (m : Nat) : pow (-1 : F) (2 * m) = 1 := by
  rw [pow_mul]
  have : pow (-1 : F) 2 = 1 := by rw [pow_succ, pow_one, neg_mul, mul_neg, neg_neg, mul_one]
  rw [this, one_pow]
theorem no_root (t : F) : t * t ≠ -1 := by
  intro h
  obtain ⟨m, hm⟩ : ∃ m, pN = 2 * (2 * m + 1) + 1 := ⟨pN / 4, by decide +kernel⟩
  have h1 := pow_p t
  have e : pow t pN = pow t (2 * (2 * m + 1) + 1) := congrArg (pow t) hm
  have e2 : pow t 2 = -1 := by rw [pow_succ, pow_one]; exact h
  rw [e, pow_succ, pow_mul, e2, pow_succ, neg_one_pow, one_mul, neg_mul, one_mul] at h1
  have h2 : t * (1 + 1) = 0 := by
    rw [mul_add, mul_one]
    have : t + t = -t + t := by rw [h1]
    rw [this, neg_add]
  rcases mul_eq_zero.1 h2 with h3 | h3
  · rw [h3, mul_zero] at h
    have : (1 : F) = 0 := by rw [← neg_neg (1 : F), ← h, neg_zero]
    exact one_ne_zero this
  · exact two_ne h3
instance : IsField F2 := quad_field no_root
/-- A number without u. -/
def up1 (k : F) : F2 := ⟨k, 0⟩
def ξ : F2 := ⟨1, 1⟩
def red2 (x : N2) : N2 := κ2 (ι2 x)
def add2 (x y : N2) : N2 := κ2 (ι2 x + ι2 y)
def sub2 (x y : N2) : N2 := κ2 (ι2 x - ι2 y)
def mul2 (x y : N2) : N2 := κ2 (ι2 x * ι2 y)
def neg2 (x : N2) : N2 := κ2 (-ι2 x)
def conj2 (x : N2) : N2 := κ2 (ι2 x).conj
def scale2 (x : N2) (k : Nat) : N2 := κ2 (ι2 x * up1 (φ k))
noncomputable def inve2 (x : N2) : N2 := κ2 (inv (ι2 x))
def xi2 (x : N2) : N2 := κ2 (ι2 x * ξ)

/-- By the parts. -/
theorem n2_eq {z : F2} {m n : Nat} (h1 : m = z.a.val) (h2 : n = z.b.val) : (m, n) = κ2 z := by rw [h1, h2]; rfl
noncomputable def TF : CallT := tableT rows01
theorem TF_ok : CallOk Try.prog TF := tableT_ok rows01_ok
theorem fp2_reduce_run (x : N2) : run1 TF 25 [wN x] [] = some (.one (wN (rdN x.1, rdN x.2)), []) := by kernel_rfl
theorem fp2_reduce (x : N2) : Pure Try.prog 25 [wv x] (wv (red2 x)) := pureN_of_run TF_ok (fp2_reduce_run x) (fun _ h => by cases h) (vals1 x) (n2_eq rfl rfl)
theorem fp2_add_run (x y : N2) : run1 TF 37 [wN x, wN y] [] = some (.one (wN (addF x.1 y.1, addF x.2 y.2)), []) := by kernel_rfl
theorem fp2_add (x y : N2) : Pure Try.prog 37 [wv x, wv y] (wv (add2 x y)) := pureN_of_run TF_ok (fp2_add_run x y) (fun _ h => by cases h) (vals2 x y) (n2_eq rfl rfl)
theorem fp2_sub_run (x y : N2) : run1 TF 39 [wN x, wN y] [] = some (.one (wN (subF x.1 y.1, subF x.2 y.2)), []) := by kernel_rfl
theorem fp2_sub (x y : N2) : Pure Try.prog 39 [wv x, wv y] (wv (sub2 x y)) := pureN_of_run TF_ok (fp2_sub_run x y) (fun _ h => by cases h) (vals2 x y) (n2_eq rfl rfl)
theorem fp2_neg_run (x : N2) : run1 TF 46 [wN x] [] = some (.one (wN (negF x.1, negF x.2)), []) := by kernel_rfl
theorem fp2_neg (x : N2) : Pure Try.prog 46 [wv x] (wv (neg2 x)) := pureN_of_run TF_ok (fp2_neg_run x) (fun _ h => by cases h) (vals1 x) (n2_eq rfl rfl)
theorem fp2_conj_run (x : N2) : run1 TF 19 [wN x] [] = some (.one (wN (rdN x.1, negF x.2)), []) := by kernel_rfl
theorem fp2_conj (x : N2) : Pure Try.prog 19 [wv x] (wv (conj2 x)) := pureN_of_run TF_ok (fp2_conj_run x) (fun _ h => by cases h) (vals1 x) (n2_eq rfl rfl)
theorem fp2_mul_run (x y : N2) : run1 TF 30 [wN x, wN y] [] = some (.one (wN (subF (mulF x.1 y.1) (mulF x.2 y.2), subF (mulF (addF x.1 x.2) (addF y.1 y.2)) (addF (mulF x.1 y.1) (mulF x.2 y.2)))), []) := by kernel_rfl
theorem fp2_mul (x y : N2) : Pure Try.prog 30 [wv x, wv y] (wv (mul2 x y)) := by
  refine pureN_of_run TF_ok (fp2_mul_run x y) (fun _ h => by cases h) (vals2 x y) (n2_eq ?_ ?_)
  · simp only [subF, mulF, φ_val]
    exact congrArg Z.val (ident (env [φ x.1, φ x.2, φ y.1, φ y.2]) (x0 * x2 - x1 * x3) (x0 * x2 + -1 * (x1 * x3)) (by decide +kernel))
  · simp only [subF, mulF, addF, φ_val]
    exact congrArg Z.val (ident (env [φ x.1, φ x.2, φ y.1, φ y.2]) ((x0 + x1) * (x2 + x3) - (x0 * x2 + x1 * x3)) (x0 * x3 + x1 * x2) (by decide +kernel))
theorem fp2_scale_run (x : N2) (k : Nat) : run1 TF 29 [wN x, wN k] [] = some (.one (wN (mulF x.1 k, mulF x.2 k)), []) := by kernel_rfl
theorem fp2_scale (x : N2) (k : Nat) : Pure Try.prog 29 [wv x, wv k] (wv (scale2 x k)) := by
  refine pureN_of_run TF_ok (fp2_scale_run x k) (fun _ h => by cases h) (vals2 x k) (n2_eq ?_ ?_)
  · exact congrArg Z.val (ident (env [φ x.1, φ x.2, φ k]) (x0 * x2) (x0 * x2 + -1 * (x1 * 0)) (by decide +kernel))
  · exact congrArg Z.val (ident (env [φ x.1, φ x.2, φ k]) (x1 * x2) (x0 * 0 + x1 * x2) (by decide +kernel))
theorem fp2_xi_run (x : N2) : run1 TF 28 [wN x] [] = some (.one (wN (subF x.1 x.2, addF x.1 x.2)), []) := by kernel_rfl
theorem fp2_xi (x : N2) : Pure Try.prog 28 [wv x] (wv (xi2 x)) := by
  refine pureN_of_run TF_ok (fp2_xi_run x) (fun _ h => by cases h) (vals1 x) (n2_eq ?_ ?_)
  · exact congrArg Z.val (ident (env [φ x.1, φ x.2]) (x0 - x1) (x0 * 1 + -1 * (x1 * 1)) (by decide +kernel))
  · exact congrArg Z.val (ident (env [φ x.1, φ x.2]) (x0 + x1) (x0 * 1 + x1 * 1) (by decide +kernel))
noncomputable def rows02 : List Row := rowN1 25 red2 :: rowN2 37 add2 :: rowN2 39 sub2 :: rowN1 46 neg2 :: rowN1 19 conj2 :: rowN2 30 mul2 :: rowN2 29 scale2 :: rowN1 28 xi2 :: rows01
theorem rows02_ok : ∀ r ∈ rows02, RowOk Try.prog r := by
  simp only [rows02, List.forall_mem_cons]
  exact ⟨rowN1_ok fp2_reduce, rowN2_ok fp2_add, rowN2_ok fp2_sub, rowN1_ok fp2_neg, rowN1_ok fp2_conj, rowN2_ok fp2_mul, rowN2_ok fp2_scale, rowN1_ok fp2_xi, rows01_ok⟩
theorem fp2_inv_run (x : N2) : run1 (tableT rows02) 35 [wN x] [] = some (.one (wN (scale2 (conj2 x) (invF (addF (mulF x.1 x.1) (mulF x.2 x.2))))), []) := by kernel_rfl
theorem fp2_inv (x : N2) : Pure Try.prog 35 [wv x] (wv (inve2 x)) := by
  refine pureN_of_run (tableT_ok rows02_ok) (fp2_inv_run x) (fun _ h => by cases h) (vals1 x) ?_
  unfold scale2 conj2 inve2
  congr 1
  rw [Quad.inv_eq' no_root, ικ2]
  unfold invF addF mulF
  rw [φ_val, φ_val, φ_val, φ_val]
  have : (ι2 x).norm = φ x.1 * φ x.1 + φ x.2 * φ x.2 := ident (env [φ x.1, φ x.2]) (x0 * x0 - -1 * (x1 * x1)) (x0 * x0 + x1 * x1) (by decide +kernel)
  rw [this]; rfl
noncomputable def rows03 : List Row := rowN1 35 inve2 :: rows02
theorem rows03_ok : ∀ r ∈ rows03, RowOk Try.prog r := by
  simp only [rows03, List.forall_mem_cons]
  exact ⟨rowN1_ok fp2_inv, rows02_ok⟩
end Go.Proofs.Ytkpihidjolfkoaa
