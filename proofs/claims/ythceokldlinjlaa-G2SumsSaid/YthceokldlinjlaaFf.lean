/-
  Numbers with u: the rows of fp2.
-/
import Derived.Test.YthceokldlinjlaaN
import Derived.Test.YthceokldlinjlaaMa
namespace Go.Proofs.Ythceokldlinjlaa
open Go Go.Eng Go.RowKit Go.Wd Go.Alg Go.Pr

abbrev F2 := Quad F (-1)
abbrev N2 := Nat × Nat
def ι2 (x : N2) : F2 := ⟨φ x.1, φ x.2⟩
def κ2 (z : F2) : N2 := (z.a.val, z.b.val)
theorem ικ2 (z : F2) : ι2 (κ2 z) = z := Quad.ext' (φ_val _) (φ_val _)
theorem κ2_inj {x y : F2} (h : κ2 x = κ2 y) : x = y := by rw [← ικ2 x, h, ικ2]
theorem two_ne : (1 : F) + 1 ≠ 0 := by
  intro h
  have : (1 % pN + 1 % pN) % pN = 0 % pN := congrArg Z.val h
  revert this
  decide +kernel
theorem pow_p (t : F) : pow t pN = t := by have := fermat pN_prime t.val; rwa [Z.of_val] at this
theorem neg_one_pow (m : Nat) : pow (-1 : F) (2 * m) = 1 := by
  rw [pow_mul]
  have : pow (-1 : F) 2 = 1 := by rw [pow_succ, pow_one, neg_mul, mul_neg, neg_neg, mul_one]
  rw [this, one_pow]
theorem no_root (t : F) : t * t ≠ -1 := by
  intro h
  obtain ⟨m, hm⟩ : ∃ m, pN = 2 * (2 * m + 1) + 1 := ⟨pN / 4, by decide +kernel⟩
  have h1 := pow_p t
  have e : pow t pN = pow t (2 * (2 * m + 1) + 1) := congrArg (pow t) hm
  have e2 : pow t 2 = -1 := by rw [pow_succ, pow_one]; exact h
  rw [e, pow_succ, pow_mul, e2, pow_succ, neg_one_pow, one_mul, neg_mul, one_mul] at h1
  have h2 : t * (1 + 1) = 0 := by
    rw [mul_add, mul_one]
    have : t + t = -t + t := by rw [h1]
    rw [this, neg_add]
  rcases mul_eq_zero.1 h2 with h3 | h3
  · rw [h3, mul_zero] at h
    have : (1 : F) = 0 := by rw [← neg_neg (1 : F), ← h, neg_zero]
    exact one_ne_zero this
  · exact two_ne h3
instance : IsField F2 := quad_field no_root
/-- A number without u. -/
def up1 (k : F) : F2 := ⟨k, 0⟩
def ξ : F2 := ⟨1, 1⟩
def red2 (x : N2) : N2 := κ2 (ι2 x)
def add2 (x y : N2) : N2 := κ2 (ι2 x + ι2 y)
def sub2 (x y : N2) : N2 := κ2 (ι2 x - ι2 y)
def mul2 (x y : N2) : N2 := κ2 (ι2 x * ι2 y)
def neg2 (x : N2) : N2 := κ2 (-ι2 x)
def conj2 (x : N2) : N2 := κ2 (ι2 x).conj
def scale2 (x : N2) (k : Nat) : N2 := κ2 (ι2 x * up1 (φ k))
noncomputable def inve2 (x : N2) : N2 := κ2 (inv (ι2 x))
def xi2 (x : N2) : N2 := κ2 (ι2 x * ξ)

/-- By the parts. -/
theorem n2_eq {z : F2} {m n : Nat} (h1 : m = z.a.val) (h2 : n = z.b.val) : (m, n) = κ2 z := by rw [h1, h2]; rfl
noncomputable def TF : CallT := tableT rows01
theorem TF_ok : CallOk Try.prog TF := tableT_ok rows01_ok
theorem fp2_reduce_run (x : N2) : run1 TF 102 [wN x] [] = some (.one (wN (rdN x.1, rdN x.2)), []) := by kernel_rfl
theorem fp2_reduce (x : N2) : Pure Try.prog 102 [wv x] (wv (red2 x)) := pureN_of_run TF_ok (fp2_reduce_run x) (fun _ h => by cases h) (vals1 x) (n2_eq rfl rfl)
theorem fp2_add_run (x y : N2) : run1 TF 63 [wN x, wN y] [] = some (.one (wN (addF x.1 y.1, addF x.2 y.2)), []) := by kernel_rfl
theorem fp2_add (x y : N2) : Pure Try.prog 63 [wv x, wv y] (wv (add2 x y)) := pureN_of_run TF_ok (fp2_add_run x y) (fun _ h => by cases h) (vals2 x y) (n2_eq rfl rfl)
theorem fp2_sub_run (x y : N2) : run1 TF 61 [wN x, wN y] [] = some (.one (wN (subF x.1 y.1, subF x.2 y.2)), []) := by kernel_rfl
theorem fp2_sub (x y : N2) : Pure Try.prog 61 [wv x, wv y] (wv (sub2 x y)) := pureN_of_run TF_ok (fp2_sub_run x y) (fun _ h => by cases h) (vals2 x y) (n2_eq rfl rfl)
theorem fp2_neg_run (x : N2) : run1 TF 92 [wN x] [] = some (.one (wN (negF x.1, negF x.2)), []) := by kernel_rfl
theorem fp2_neg (x : N2) : Pure Try.prog 92 [wv x] (wv (neg2 x)) := pureN_of_run TF_ok (fp2_neg_run x) (fun _ h => by cases h) (vals1 x) (n2_eq rfl rfl)
theorem fp2_conj_run (x : N2) : run1 TF 76 [wN x] [] = some (.one (wN (rdN x.1, negF x.2)), []) := by kernel_rfl
theorem fp2_conj (x : N2) : Pure Try.prog 76 [wv x] (wv (conj2 x)) := pureN_of_run TF_ok (fp2_conj_run x) (fun _ h => by cases h) (vals1 x) (n2_eq rfl rfl)
theorem fp2_mul_run (x y : N2) : run1 TF 62 [wN x, wN y] [] = some (.one (wN (subF (mulF x.1 y.1) (mulF x.2 y.2), subF (mulF (addF x.1 x.2) (addF y.1 y.2)) (addF (mulF x.1 y.1) (mulF x.2 y.2)))), []) := by kernel_rfl
theorem fp2_mul (x y : N2) : Pure Try.prog 62 [wv x, wv y] (wv (mul2 x y)) := by
  refine pureN_of_run TF_ok (fp2_mul_run x y) (fun _ h => by cases h) (vals2 x y) (n2_eq ?_ ?_)
  · simp only [subF, mulF, φ_val]
    exact congrArg Z.val (ident (env [φ x.1, φ x.2, φ y.1, φ y.2]) (x0 * x2 - x1 * x3) (x0 * x2 + -1 * (x1 * x3)) (by decide +kernel))
  · simp only [subF, mulF, addF, φ_val]
    exact congrArg Z.val (ident (env [φ x.1, φ x.2, φ y.1, φ y.2]) ((x0 + x1) * (x2 + x3) - (x0 * x2 + x1 * x3)) (x0 * x3 + x1 * x2) (by decide +kernel))
theorem fp2_scale_run (x : N2) (k : Nat) : run1 TF 104 [wN x, wN k] [] = some (.one (wN (mulF x.1 k, mulF x.2 k)), []) := by kernel_rfl
theorem fp2_scale (x : N2) (k : Nat) : Pure Try.prog 104 [wv x, wv k] (wv (scale2 x k)) := by
  refine pureN_of_run TF_ok (fp2_scale_run x k) (fun _ h => by cases h) (vals2 x k) (n2_eq ?_ ?_)
  · exact congrArg Z.val (ident (env [φ x.1, φ x.2, φ k]) (x0 * x2) (x0 * x2 + -1 * (x1 * 0)) (by decide +kernel))
  · exact congrArg Z.val (ident (env [φ x.1, φ x.2, φ k]) (x1 * x2) (x0 * 0 + x1 * x2) (by decide +kernel))
theorem fp2_xi_run (x : N2) : run1 TF 101 [wN x] [] = some (.one (wN (subF x.1 x.2, addF x.1 x.2)), []) := by kernel_rfl
theorem fp2_xi (x : N2) : Pure Try.prog 101 [wv x] (wv (xi2 x)) := by
  refine pureN_of_run TF_ok (fp2_xi_run x) (fun _ h => by cases h) (vals1 x) (n2_eq ?_ ?_)
  · exact congrArg Z.val (ident (env [φ x.1, φ x.2]) (x0 - x1) (x0 * 1 + -1 * (x1 * 1)) (by decide +kernel))
  · exact congrArg Z.val (ident (env [φ x.1, φ x.2]) (x0 + x1) (x0 * 1 + x1 * 1) (by decide +kernel))
noncomputable def rows02 : List Row := rowN1 102 red2 :: rowN2 63 add2 :: rowN2 61 sub2 :: rowN1 92 neg2 :: rowN1 76 conj2 :: rowN2 62 mul2 :: rowN2 104 scale2 :: rowN1 101 xi2 :: rows01
theorem rows02_ok : ∀ r ∈ rows02, RowOk Try.prog r := by
  simp only [rows02, List.forall_mem_cons]
  exact ⟨rowN1_ok fp2_reduce, rowN2_ok fp2_add, rowN2_ok fp2_sub, rowN1_ok fp2_neg, rowN1_ok fp2_conj, rowN2_ok fp2_mul, rowN2_ok fp2_scale, rowN1_ok fp2_xi, rows01_ok⟩
theorem fp2_inv_run (x : N2) : run1 (tableT rows02) 64 [wN x] [] = some (.one (wN (scale2 (conj2 x) (invF (addF (mulF x.1 x.1) (mulF x.2 x.2))))), []) := by kernel_rfl
theorem fp2_inv (x : N2) : Pure Try.prog 64 [wv x] (wv (inve2 x)) := by
  refine pureN_of_run (tableT_ok rows02_ok) (fp2_inv_run x) (fun _ h => by cases h) (vals1 x) ?_
  unfold scale2 conj2 inve2
  congr 1
  rw [Quad.inv_eq' no_root, ικ2]
  unfold invF addF mulF
  rw [φ_val, φ_val, φ_val, φ_val]
  have : (ι2 x).norm = φ x.1 * φ x.1 + φ x.2 * φ x.2 := ident (env [φ x.1, φ x.2]) (x0 * x0 - -1 * (x1 * x1)) (x0 * x0 + x1 * x1) (by decide +kernel)
  rw [this]; rfl
noncomputable def rows03 : List Row := rowN1 64 inve2 :: rows02
theorem rows03_ok : ∀ r ∈ rows03, RowOk Try.prog r := by
  simp only [rows03, List.forall_mem_cons]
  exact ⟨rowN1_ok fp2_inv, rows02_ok⟩
end Go.Proofs.Ythceokldlinjlaa
/-
  Numbers with v: the rows of fp6.
-/
namespace Go.Proofs.Ythceokldlinjlaa
open Go Go.Eng Go.RowKit Go.Wd Go.Alg Go.Pr

abbrev F6 := Cub F2 ξ
abbrev N6 := N2 × N2 × N2
def ι6 (x : N6) : F6 := ⟨ι2 x.1, ι2 x.2.1, ι2 x.2.2⟩
def κ6 (z : F6) : N6 := (κ2 z.a, κ2 z.b, κ2 z.c)
theorem ικ6 (z : F6) : ι6 (κ6 z) = z := Cub.ext' (ικ2 _) (ικ2 _) (ικ2 _)
theorem κ6_inj {x y : F6} (h : κ6 x = κ6 y) : x = y := by rw [← ικ6 x, h, ικ6]
/-- A power, by squares: for closed numbers. -/
def powB {R : Type} [Ops R] (one : R) (a : R) : Nat → Nat → R
  | 0, _ => one
  | n + 1, e => match Nat.beq (e / 2 ^ n % 2) 1 with
    | true => powB (Ops.mul (Ops.mul one one) a) a n e
    | false => powB (Ops.mul one one) a n e
theorem powB_spec {R : Type} [CRing R] (a : R) : ∀ n e (acc : R) k, acc = pow a k → powB acc a n e = pow a (k * 2 ^ n + e % 2 ^ n) := by
  intro n
  induction n with
  | zero => intro e acc k h; rw [powB, h, Nat.pow_zero, Nat.mul_one, Nat.mod_one, Nat.add_zero]
  | succ n ih =>
    intro e acc k h
    have hs : acc * acc = pow a (k + k) := by rw [h, pow_add]
    rw [powB]
    have e1 : e % 2 ^ (n + 1) = e % 2 ^ n + 2 ^ n * (e / 2 ^ n % 2) := by rw [Nat.pow_succ, Nat.mod_mul]
    by_cases hb : e / 2 ^ n % 2 = 1
    · have : Nat.beq (e / 2 ^ n % 2) 1 = true := by rw [hb]; rfl
      rw [this]
      show powB (acc * acc * a) a n e = _
      rw [ih e _ (k + k + 1) (by rw [pow_succ, hs])]
      congr 1
      rw [e1, hb, Nat.pow_succ, Nat.add_mul, Nat.add_mul, ← Nat.mul_assoc, Nat.mul_two]; omega
    · have h0 : e / 2 ^ n % 2 = 0 := by omega
      have : Nat.beq (e / 2 ^ n % 2) 1 = false := by rw [h0]; rfl
      rw [this]
      show powB (acc * acc) a n e = _
      rw [ih e _ (k + k) hs]
      congr 1
      rw [e1, h0, Nat.pow_succ, Nat.add_mul, ← Nat.mul_assoc, Nat.mul_two]; omega
theorem powB_eq {R : Type} [CRing R] (a : R) (n e : Nat) (h : e < 2 ^ n) : powB 1 a n e = pow a e := by
  rw [powB_spec a n e 1 0 rfl, Nat.zero_mul, Nat.zero_add, Nat.mod_eq_of_lt h]

/-! ### 1 + u is no cube -/
theorem nat_p2 : (nat pN : F2) = 0 := by
  have h1 : ∀ n : Nat, (nat n : F2) = ⟨nat n, 0⟩ := by
    intro n
    induction n with
    | zero => rfl
    | succ n ih => show nat n + 1 = _; rw [ih]; exact Quad.ext' rfl (add_zero 0)
  rw [h1, nat_of, Z.of_n]; rfl
/-- z to the p is the conjugate. -/
theorem frob2 (z : F2) : pow z pN = z.conj := by
  have e : z = ⟨z.a, 0⟩ + ⟨z.b, 0⟩ * ⟨0, 1⟩ := Quad.ext' (ident (env [z.a, z.b]) x0 (x0 + (x1 * 0 + -1 * (0 * 1))) (by decide +kernel)) (ident (env [z.a, z.b]) x1 (0 + (x1 * 1 + 0 * 0)) (by decide +kernel))
  have hc : ∀ (t : F) (n : Nat), pow (⟨t, 0⟩ : F2) n = ⟨pow t n, 0⟩ := by
    intro t n
    induction n with
    | zero => rfl
    | succ n ih => rw [pow_succ, ih, Quad.coe_mul]; rfl
  have hu : pow (⟨0, 1⟩ : F2) pN = ⟨0, -1⟩ := by
    obtain ⟨m, hm⟩ : ∃ m, pN = 2 * (2 * m + 1) + 1 := ⟨pN / 4, by decide +kernel⟩
    have e : pow (⟨0, 1⟩ : F2) pN = pow ⟨0, 1⟩ (2 * (2 * m + 1) + 1) := congrArg (pow _) hm
    have e2 : pow (⟨0, 1⟩ : F2) 2 = ⟨-1, 0⟩ := by
      rw [pow_succ, pow_one]
      exact Quad.ext' (ident (env []) (0 * 0 + -1 * (1 * 1)) (-1) (by decide +kernel)) (ident (env []) (0 * 1 + 1 * 0) 0 (by decide +kernel))
    rw [e, pow_succ, pow_mul, e2, hc, pow_succ, neg_one_pow]
    exact Quad.ext' (ident (env []) (1 * -1 * 0 + -1 * (0 * 1)) 0 (by decide +kernel)) (ident (env []) (1 * -1 * 1 + 0 * 0) (-1) (by decide +kernel))
  have e3 : pow z pN = pow (⟨z.a, 0⟩ + ⟨z.b, 0⟩ * ⟨0, 1⟩) pN := congrArg (fun x => pow x pN) e
  rw [e3, dream pN_prime nat_p2, mul_pow, hc, hc, pow_p, pow_p, hu]
  exact Quad.ext' (ident (env [z.a, z.b]) (x0 + (x1 * 0 + -1 * (0 * -1))) x0 (by decide +kernel)) (ident (env [z.a, z.b]) (0 + (x1 * -1 + 0 * 0)) (-x1) (by decide +kernel))
theorem pow_p2 (z : F2) : pow z (pN * pN) = z := by
  rw [pow_mul, frob2, frob2]
  exact Quad.ext' rfl (neg_neg _)

theorem pow_p2_1 {z : F2} (hz : z ≠ 0) : pow z (pN * pN - 1) = 1 := by
  have h := pow_p2 z
  have e : pow z (pN * pN) = pow z (pN * pN - 1 + 1) := congrArg (pow z) (by have := pN_pos; have : 0 < pN * pN := Nat.mul_pos pN_pos pN_pos; omega)
  rw [e, pow_succ] at h
  refine mul_cancel hz ?_
  rw [mul_comm, h, mul_one]
def third2 : Nat := (pN * pN - 1) / 3
def half2b : Nat := (pN * pN - 1) / 2
theorem third2_ok : pN * pN - 1 = 3 * third2 := by decide +kernel
theorem half2b_ok : pN * pN - 1 = 2 * half2b := by decide +kernel
theorem ξ_third : pow ξ third2 ≠ 1 := by
  rw [← powB_eq ξ 762 third2 (by decide +kernel)]
  intro h
  have : (powB (1 : F2) ξ 762 third2).a.val = (1 : F2).a.val := by rw [h]
  revert this
  decide +kernel
theorem ξ_half : pow ξ half2b ≠ 1 := by
  rw [← powB_eq ξ 762 half2b (by decide +kernel)]
  intro h
  have : (powB (1 : F2) ξ 762 half2b).a.val = (1 : F2).a.val := by rw [h]
  revert this
  decide +kernel
theorem ξ_ne : ξ ≠ 0 := fun h => by
  have : (1 : F) = 0 := congrArg Quad.a h
  exact one_ne_zero this
theorem no_cube (t : F2) : t * t * t ≠ ξ := by
  intro h
  have ht : t ≠ 0 := fun e => ξ_ne (by rw [← h, e, mul_zero])
  apply ξ_third
  have e : pow t 3 = ξ := by rw [← h, pow_succ, pow_succ, pow_one]
  rw [← e, ← pow_mul, ← third2_ok]
  exact pow_p2_1 ht
instance : IsField F6 := cub_field no_cube
theorem no_square (t : F2) : t * t ≠ ξ := by
  intro h
  have ht : t ≠ 0 := fun e => ξ_ne (by rw [← h, e, mul_zero])
  apply ξ_half
  have e : pow t 2 = ξ := by rw [← h, pow_succ, pow_one]
  rw [← e, ← pow_mul, ← half2b_ok]
  exact pow_p2_1 ht
/-- v. -/
def vv : F6 := ⟨0, 1, 0⟩
theorem cub_norm_mul {R : Type} [CRing R] {k : R} (x y : Cub R k) : (x * y).norm = x.norm * y.norm := by
  unfold Cub.norm Cub.cof
  exact ident (env [x.a, x.b, x.c, y.a, y.b, y.c, k]) (t 0 1 2 6 * t 3 4 5 6 |> fun z => z.a * (z.a * z.a - x6 * (z.b * z.c)) + x6 * (z.c * (x6 * (z.c * z.c) - z.a * z.b) + z.b * (z.b * z.b - z.a * z.c)))
    ((x0 * (x0 * x0 - x6 * (x1 * x2)) + x6 * (x2 * (x6 * (x2 * x2) - x0 * x1) + x1 * (x1 * x1 - x0 * x2))) * (x3 * (x3 * x3 - x6 * (x4 * x5)) + x6 * (x5 * (x6 * (x5 * x5) - x3 * x4) + x4 * (x4 * x4 - x3 * x5)))) (by decide +kernel)
theorem vv_norm : vv.norm = ξ := ident (env [ξ]) (0 * (0 * 0 - x0 * (1 * 0)) + x0 * (0 * (x0 * (0 * 0) - 0 * 1) + 1 * (1 * 1 - 0 * 0))) x0 (by decide +kernel)
theorem no_root6 (t : F6) : t * t ≠ vv := by
  intro h
  have := cub_norm_mul t t
  rw [h, vv_norm] at this
  exact no_square _ this.symm

def red6 (x : N6) : N6 := κ6 (ι6 x)
def add6 (x y : N6) : N6 := κ6 (ι6 x + ι6 y)
def sub6 (x y : N6) : N6 := κ6 (ι6 x - ι6 y)
def mul6 (x y : N6) : N6 := κ6 (ι6 x * ι6 y)
def neg6 (x : N6) : N6 := κ6 (-ι6 x)
def up2 (k : F2) : F6 := ⟨k, 0, 0⟩
def scale6 (x : N6) (k : N2) : N6 := κ6 (ι6 x * up2 (ι2 k))
noncomputable def inve6 (x : N6) : N6 := κ6 (inv (ι6 x))
def v6 (x : N6) : N6 := κ6 (ι6 x * vv)
theorem n6_eq {z : F6} {m n k : N2} (h1 : m = κ2 z.a) (h2 : n = κ2 z.b) (h3 : k = κ2 z.c) : (m, n, k) = κ6 z := by rw [h1, h2, h3]; rfl
theorem zero2 : ι2 (0, 0) = 0 := κ2_inj (by decide +kernel)
noncomputable def TF2 : CallT := tableT rows03
theorem TF2_ok : CallOk Try.prog TF2 := tableT_ok rows03_ok
theorem fp6_add_run (x y : N6) : run1 TF2 53 [wN x, wN y] [] = some (.one (wN (add2 x.1 y.1, add2 x.2.1 y.2.1, add2 x.2.2 y.2.2)), []) := by kernel_rfl
theorem fp6_add (x y : N6) : Pure Try.prog 53 [wv x, wv y] (wv (add6 x y)) := pureN_of_run TF2_ok (fp6_add_run x y) (fun _ h => by cases h) (vals2 x y) (n6_eq rfl rfl rfl)
theorem fp6_mul_run (x y : N6) : run1 TF2 51 [wN x, wN y] [] = some (.one (wN (
    add2 (add2 (0, 0) (mul2 x.1 y.1)) (xi2 (sub2 (mul2 (add2 x.2.1 x.2.2) (add2 y.2.1 y.2.2)) (add2 (mul2 x.2.1 y.2.1) (mul2 x.2.2 y.2.2)))),
    add2 (add2 (0, 0) (sub2 (mul2 (add2 x.1 x.2.1) (add2 y.1 y.2.1)) (add2 (mul2 x.1 y.1) (mul2 x.2.1 y.2.1)))) (xi2 (mul2 x.2.2 y.2.2)),
    add2 (add2 (0, 0) (sub2 (mul2 (add2 x.1 x.2.2) (add2 y.1 y.2.2)) (add2 (mul2 x.1 y.1) (mul2 x.2.2 y.2.2)))) (mul2 x.2.1 y.2.1))), []) := by kernel_rfl
theorem fp6_mul (x y : N6) : Pure Try.prog 51 [wv x, wv y] (wv (mul6 x y)) := by
  refine pureN_of_run TF2_ok (fp6_mul_run x y) (fun _ h => by cases h) (vals2 x y) (n6_eq ?_ ?_ ?_)
  · simp only [add2, sub2, mul2, xi2, ικ2, zero2]
    exact congrArg κ2 (ident (env [ι2 x.1, ι2 x.2.1, ι2 x.2.2, ι2 y.1, ι2 y.2.1, ι2 y.2.2, ξ]) (0 + x0 * x3 + ((x1 + x2) * (x4 + x5) - (x1 * x4 + x2 * x5)) * x6) (t 0 1 2 6 * t 3 4 5 6).a (by decide +kernel))
  · simp only [add2, sub2, mul2, xi2, ικ2, zero2]
    exact congrArg κ2 (ident (env [ι2 x.1, ι2 x.2.1, ι2 x.2.2, ι2 y.1, ι2 y.2.1, ι2 y.2.2, ξ]) (0 + ((x0 + x1) * (x3 + x4) - (x0 * x3 + x1 * x4)) + x2 * x5 * x6) (t 0 1 2 6 * t 3 4 5 6).b (by decide +kernel))
  · simp only [add2, sub2, mul2, ικ2, zero2]
    exact congrArg κ2 (ident (env [ι2 x.1, ι2 x.2.1, ι2 x.2.2, ι2 y.1, ι2 y.2.1, ι2 y.2.2, ξ]) (0 + ((x0 + x2) * (x3 + x5) - (x0 * x3 + x2 * x5)) + x1 * x4) (t 0 1 2 6 * t 3 4 5 6).c (by decide +kernel))
theorem fp6_sub_run (x y : N6) : run1 TF2 55 [wN x, wN y] [] = some (.one (wN (sub2 x.1 y.1, sub2 x.2.1 y.2.1, sub2 x.2.2 y.2.2)), []) := by kernel_rfl
theorem fp6_sub (x y : N6) : Pure Try.prog 55 [wv x, wv y] (wv (sub6 x y)) := pureN_of_run TF2_ok (fp6_sub_run x y) (fun _ h => by cases h) (vals2 x y) (n6_eq rfl rfl rfl)
theorem fp6_neg_run (x : N6) : run1 TF2 97 [wN x] [] = some (.one (wN (neg2 x.1, neg2 x.2.1, neg2 x.2.2)), []) := by kernel_rfl
theorem fp6_neg (x : N6) : Pure Try.prog 97 [wv x] (wv (neg6 x)) := pureN_of_run TF2_ok (fp6_neg_run x) (fun _ h => by cases h) (vals1 x) (n6_eq rfl rfl rfl)
theorem fp6_v_run (x : N6) : run1 TF2 54 [wN x] [] = some (.one (wN (xi2 x.2.2, red2 x.1, red2 x.2.1)), []) := by kernel_rfl
theorem fp6_v (x : N6) : Pure Try.prog 54 [wv x] (wv (v6 x)) := by
  refine pureN_of_run TF2_ok (fp6_v_run x) (fun _ h => by cases h) (vals1 x) (n6_eq ?_ ?_ ?_)
  · exact congrArg κ2 (ident (env [ι2 x.1, ι2 x.2.1, ι2 x.2.2, ξ]) (x2 * x3) (x0 * 0 + x3 * (x1 * 0 + x2 * 1)) (by decide +kernel))
  · exact congrArg κ2 (ident (env [ι2 x.1, ι2 x.2.1, ι2 x.2.2, ξ]) x0 (x0 * 1 + x1 * 0 + x3 * (x2 * 0)) (by decide +kernel))
  · exact congrArg κ2 (ident (env [ι2 x.1, ι2 x.2.1, ι2 x.2.2, ξ]) x1 (x0 * 0 + x1 * 1 + x2 * 0) (by decide +kernel))
noncomputable def rows04 : List Row :=
  rowN2 53 add6 :: rowN2 55 sub6 :: rowN1 97 neg6 :: rowN2 51 mul6 :: rowN1 54 v6 :: rows03
theorem rows04_ok : ∀ r ∈ rows04, RowOk Try.prog r := by
  unfold rows04
  simp only [List.forall_mem_cons]
  exact ⟨rowN2_ok fp6_add, rowN2_ok fp6_sub, rowN1_ok fp6_neg, rowN2_ok fp6_mul, rowN1_ok fp6_v, rows03_ok⟩
end Go.Proofs.Ythceokldlinjlaa
/-
  Numbers with w: the rows of fp12.
-/
namespace Go.Proofs.Ythceokldlinjlaa
open Go Go.Eng Go.RowKit Go.Wd Go.Alg Go.Pr

abbrev F12 := Quad F6 vv
abbrev N12 := N6 × N6
def ι12 (x : N12) : F12 := ⟨ι6 x.1, ι6 x.2⟩
def κ12 (z : F12) : N12 := (κ6 z.a, κ6 z.b)
theorem ικ12 (z : F12) : ι12 (κ12 z) = z := Quad.ext' (ικ6 _) (ικ6 _)
theorem κ12_inj {x y : F12} (h : κ12 x = κ12 y) : x = y := by rw [← ικ12 x, h, ικ12]
instance : IsField F12 := quad_field no_root6
def red12 (x : N12) : N12 := κ12 (ι12 x)
def add12 (x y : N12) : N12 := κ12 (ι12 x + ι12 y)
def sub12 (x y : N12) : N12 := κ12 (ι12 x - ι12 y)
def mul12 (x y : N12) : N12 := κ12 (ι12 x * ι12 y)
def neg12 (x : N12) : N12 := κ12 (-ι12 x)
def conj12 (x : N12) : N12 := κ12 (ι12 x).conj
noncomputable def inve12 (x : N12) : N12 := κ12 (inv (ι12 x))
theorem n12_eq {z : F12} {m n : N6} (h1 : m = κ6 z.a) (h2 : n = κ6 z.b) : (m, n) = κ12 z := by rw [h1, h2]; rfl
noncomputable def TF6 : CallT := tableT rows04
theorem TF6_ok : CallOk Try.prog TF6 := tableT_ok rows04_ok
theorem fp12_mul_run (x y : N12) : run1 TF6 15 [wN x, wN y] [] = some (.one (wN (add6 (mul6 x.1 y.1) (v6 (mul6 x.2 y.2)), sub6 (mul6 (add6 x.1 x.2) (add6 y.1 y.2)) (add6 (mul6 x.1 y.1) (mul6 x.2 y.2)))), []) := by kernel_rfl
theorem fp12_mul (x y : N12) : Pure Try.prog 15 [wv x, wv y] (wv (mul12 x y)) := by
  refine pureN_of_run TF6_ok (fp12_mul_run x y) (fun _ h => by cases h) (vals2 x y) (n12_eq ?_ ?_)
  · simp only [add6, mul6, v6, ικ6]
    exact congrArg κ6 (ident (env [ι6 x.1, ι6 x.2, ι6 y.1, ι6 y.2, vv]) (x0 * x2 + x1 * x3 * x4) (x0 * x2 + x4 * (x1 * x3)) (by decide +kernel))
  · simp only [add6, sub6, mul6, ικ6]
    exact congrArg κ6 (ident (env [ι6 x.1, ι6 x.2, ι6 y.1, ι6 y.2]) ((x0 + x1) * (x2 + x3) - (x0 * x2 + x1 * x3)) (x0 * x3 + x1 * x2) (by decide +kernel))
noncomputable def rows06 : List Row :=
  rowN2 15 mul12 :: rows04
theorem rows06_ok : ∀ r ∈ rows06, RowOk Try.prog r := by
  unfold rows06
  simp only [List.forall_mem_cons]
  exact ⟨rowN2_ok fp12_mul, rows04_ok⟩
/-- What a single bool owes nothing for. -/
theorem sm_append {A B : Type} [Nm A] [Nm B] {x : A × B} (h1 : Sm x.1) (h2 : Sm x.2) : Sm x := by
  intro n hn
  rcases List.mem_append.1 hn with h | h
  · exact h1 n h
  · exact h2 n h
theorem val_lt6 (z : F) : z.val < M6 := Nat.lt_trans z.lt pN_lt
theorem sm_κ2 (z : F2) : Sm (κ2 z) := by
  intro n hn
  have : n = z.a.val ∨ n = z.b.val := by simpa [Nm.toL, κ2] using hn
  rcases this with rfl | rfl <;> exact val_lt6 _
theorem sm_κ6 (z : F6) : Sm (κ6 z) := sm_append (sm_κ2 _) (sm_append (sm_κ2 _) (sm_κ2 _))
theorem sm_κ12 (z : F12) : Sm (κ12 z) := sm_append (sm_κ6 _) (sm_κ6 _)
theorem sm_val (z : F) : Sm z.val := by
  intro n hn
  have : n = z.val := by simpa [Nm.toL] using hn
  rw [this]; exact val_lt6 z
theorem eqK2 {x y : F2} {b : Bool} (h : x = y ↔ b = true) : eqW (κ2 x) (κ2 y) b := eqW_iff (sm_κ2 x) (sm_κ2 y) ⟨fun e => h.1 (κ2_inj e), fun e => by rw [h.2 e]⟩
theorem eqK6 {x y : F6} {b : Bool} (h : x = y ↔ b = true) : eqW (κ6 x) (κ6 y) b := eqW_iff (sm_κ6 x) (sm_κ6 y) ⟨fun e => h.1 (κ6_inj e), fun e => by rw [h.2 e]⟩
theorem eqK12 {x y : F12} {b : Bool} (h : x = y ↔ b = true) : eqW (κ12 x) (κ12 y) b := eqW_iff (sm_κ12 x) (sm_κ12 y) ⟨fun e => h.1 (κ12_inj e), fun e => by rw [h.2 e]⟩
theorem iff_t {p : Prop} (h : p) : p ↔ true = true := ⟨fun _ => rfl, fun _ => h⟩
theorem iff_f {p : Prop} (h : ¬ p) : p ↔ false = true := ⟨fun e => absurd e h, fun e => by cases e⟩
/-- Hints: some comparisons are false, all others true. -/
def hF (n : Nat) (fs : List Nat) : List (Nat × Bool) := fs.map (fun i => (i, false)) ++ allT n
theorem κz2 : ((0, 0) : N2) = κ2 0 := by decide +kernel
theorem κo2 : ((1, 0) : N2) = κ2 1 := by decide +kernel
theorem κz6 : (((0, 0), (0, 0), (0, 0)) : N6) = κ6 0 := by decide +kernel
theorem κo6 : (((1, 0), (0, 0), (0, 0)) : N6) = κ6 1 := by decide +kernel
theorem κz12 : ((((0, 0), (0, 0), (0, 0)), ((0, 0), (0, 0), (0, 0))) : N12) = κ12 0 := by decide +kernel
theorem κo12 : ((((1, 0), (0, 0), (0, 0)), ((0, 0), (0, 0), (0, 0))) : N12) = κ12 1 := by decide +kernel
theorem one2 : ι2 (1, 0) = 1 := κ2_inj (by decide +kernel)
end Go.Proofs.Ythceokldlinjlaa
/-
  Numbers with v: multiples and inverses.
-/
namespace Go.Proofs.Ythceokldlinjlaa
open Go Go.Eng Go.RowKit Go.Wd Go.Alg Go.Pr

theorem fp6_scale_run (x : N6) (k : N2) : run1 TF2 137 [wN x, wN k] [] = some (.one (wN (mul2 x.1 k, mul2 x.2.1 k, mul2 x.2.2 k)), []) := by kernel_rfl
theorem fp6_scale (x : N6) (k : N2) : Pure Try.prog 137 [wv x, wv k] (wv (scale6 x k)) := by
  refine pureN_of_run TF2_ok (fp6_scale_run x k) (fun _ h => by cases h) (vals2 x k) (n6_eq ?_ ?_ ?_)
  · exact congrArg κ2 (ident (env [ι2 x.1, ι2 x.2.1, ι2 x.2.2, ι2 k, ξ]) (x0 * x3) (x0 * x3 + x4 * (x1 * 0 + x2 * 0)) (by decide +kernel))
  · exact congrArg κ2 (ident (env [ι2 x.1, ι2 x.2.1, ι2 x.2.2, ι2 k, ξ]) (x1 * x3) (x0 * 0 + x1 * x3 + x4 * (x2 * 0)) (by decide +kernel))
  · exact congrArg κ2 (ident (env [ι2 x.1, ι2 x.2.1, ι2 x.2.2, ι2 k, ξ]) (x2 * x3) (x0 * 0 + x1 * 0 + x2 * x3) (by decide +kernel))
noncomputable def rows045 : List Row := rowN2 137 scale6 :: rows04
theorem rows045_ok : ∀ r ∈ rows045, RowOk Try.prog r := by
  simp only [rows045, List.forall_mem_cons]
  exact ⟨rowN2_ok fp6_scale, rows04_ok⟩
def cof6 (x : N6) : N6 := (sub2 (mul2 x.1 x.1) (xi2 (mul2 x.2.1 x.2.2)), sub2 (xi2 (mul2 x.2.2 x.2.2)) (mul2 x.1 x.2.1), sub2 (mul2 x.2.1 x.2.1) (mul2 x.1 x.2.2))
theorem fp6_inv_run (x : N6) : run1 (tableT rows045) 96 [wN x] [] = some (.one (wN (scale6 (cof6 x) (inve2 (add2 (add2 (0, 0) (mul2 x.1 (cof6 x).1)) (xi2 (add2 (add2 (0, 0) (mul2 x.2.2 (cof6 x).2.1)) (mul2 x.2.1 (cof6 x).2.2))))))), []) := by kernel_rfl
theorem ι_cof6 (x : N6) : ι6 (cof6 x) = (ι6 x).cof := by
  unfold cof6
  refine Cub.ext' ?_ ?_ ?_
  · show ι2 (sub2 _ _) = _
    simp only [sub2, mul2, xi2, ικ2]
    exact ident (env [ι2 x.1, ι2 x.2.1, ι2 x.2.2, ξ]) (x0 * x0 - x1 * x2 * x3) (x0 * x0 - x3 * (x1 * x2)) (by decide +kernel)
  · show ι2 (sub2 _ _) = _
    simp only [sub2, mul2, xi2, ικ2]
    exact ident (env [ι2 x.1, ι2 x.2.1, ι2 x.2.2, ξ]) (x2 * x2 * x3 - x0 * x1) (x3 * (x2 * x2) - x0 * x1) (by decide +kernel)
  · show ι2 (sub2 _ _) = _
    simp only [sub2, mul2, ικ2]; rfl
theorem fp6_inv (x : N6) : Pure Try.prog 96 [wv x] (wv (inve6 x)) := by
  refine pureN_of_run (tableT_ok rows045_ok) (fp6_inv_run x) (fun _ h => by cases h) (vals1 x) ?_
  unfold scale6 inve6
  congr 1
  rw [Cub.inv_eq' no_cube, ι_cof6]
  congr 1
  unfold up2 inve2
  rw [ικ2]
  have hc : ι2 (cof6 x).1 = (ι6 x).cof.a ∧ ι2 (cof6 x).2.1 = (ι6 x).cof.b ∧ ι2 (cof6 x).2.2 = (ι6 x).cof.c := by
    have h := ι_cof6 x
    exact ⟨congrArg Cub.a h, congrArg Cub.b h, congrArg Cub.c h⟩
  simp only [add2, mul2, xi2, ικ2, zero2, hc.1, hc.2.1, hc.2.2]
  have : (ι6 x).norm = 0 + ι2 x.1 * (ι6 x).cof.a + (0 + ι2 x.2.2 * (ι6 x).cof.b + ι2 x.2.1 * (ι6 x).cof.c) * ξ :=
    ident (env [ι2 x.1, ι2 x.2.1, ι2 x.2.2, (ι6 x).cof.a, (ι6 x).cof.b, (ι6 x).cof.c, ξ]) (x0 * x3 + x6 * (x2 * x4 + x1 * x5)) (0 + x0 * x3 + (0 + x2 * x4 + x1 * x5) * x6) (by decide +kernel)
  rw [this]
noncomputable def rows05 : List Row := rowN1 96 inve6 :: rowN2 137 scale6 :: rows06
theorem rows05_ok : ∀ r ∈ rows05, RowOk Try.prog r := by
  simp only [rows05, List.forall_mem_cons]
  exact ⟨rowN1_ok fp6_inv, rowN2_ok fp6_scale, rows06_ok⟩
end Go.Proofs.Ythceokldlinjlaa
/-
  Numbers with w: differences, inverses.
-/
namespace Go.Proofs.Ythceokldlinjlaa
open Go Go.Eng Go.RowKit Go.Wd Go.Alg Go.Pr

/-! ### fp12: difference, inverse -/
def nrm12 (x : N12) : N6 := sub6 (mul6 x.1 x.1) (v6 (mul6 x.2 x.2))
theorem fp12_inv_run (x : N12) : run1 (tableT rows05) 47 [wN x] [] = some (.one (wN (mul6 x.1 (inve6 (nrm12 x)), neg6 (mul6 x.2 (inve6 (nrm12 x))))), []) := by kernel_rfl
theorem ι_nrm12 (x : N12) : ι6 (nrm12 x) = (ι12 x).norm := by
  unfold nrm12 sub6 mul6 v6
  rw [ικ6, ικ6, ικ6, ικ6]
  exact ident (env [ι6 x.1, ι6 x.2, vv]) (x0 * x0 - x1 * x1 * x2) (x0 * x0 - x2 * (x1 * x1)) (by decide +kernel)
theorem fp12_inv (x : N12) : Pure Try.prog 47 [wv x] (wv (inve12 x)) := by
  refine pureN_of_run (tableT_ok rows05_ok) (fp12_inv_run x) (fun _ h => by cases h) (vals1 x) ?_
  unfold inve12
  rw [Quad.inv_eq' no_root6]
  unfold mul6 neg6 inve6
  rw [ικ6, ικ6, ι_nrm12]
  refine n12_eq (congrArg κ6 ?_) (congrArg κ6 ?_)
  · exact ident (env [ι6 x.1, ι6 x.2, inv (ι12 x).norm, vv]) (x0 * x2) (x0 * x2 + x3 * (-x1 * 0)) (by decide +kernel)
  · exact ident (env [ι6 x.1, ι6 x.2, inv (ι12 x).norm, vv]) (-(x1 * x2)) (x0 * 0 + -x1 * x2) (by decide +kernel)
noncomputable def rows065 : List Row :=
  rowN1 47 inve12 :: rows05
theorem rows065_ok : ∀ r ∈ rows065, RowOk Try.prog r := by
  unfold rows065
  simp only [List.forall_mem_cons]
  exact ⟨rowN1_ok fp12_inv, rows05_ok⟩
end Go.Proofs.Ythceokldlinjlaa
