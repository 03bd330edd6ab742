/-
  Numbers with v: the rows of fp6.
-/
import Derived.Test.YtkpihidjolfkoaaF2
namespace Go.Proofs.Ytkpihidjolfkoaa
open Go Go.Eng Go.RowKit Go.Wd Go.Alg Go.Pr

abbrev F6 := Cub F2 ξ
abbrev N6 := N2 × N2 × N2
def ι6 (x : N6) : F6 := ⟨ι2 x.1, ι2 x.2.1, ι2 x.2.2⟩
def κ6 (z : F6) : N6 := (κ2 z.a, κ2 z.b, κ2 z.c)
theorem ικ6 (z : F6) : ι6 (κ6 z) = z := Cub.ext' (ικ2 _) (ικ2 _) (ικ2 _)
theorem κ6_inj {x y : F6} (h : κ6 x = κ6 y) : x = y := by rw [← ικ6 x, h, ικ6]
/-- A power, by squares: for closed numbers. -/
def powB {R : Type} [Ops R] (one : R) (a : R) : Nat → Nat → R
  | 0, _ => one
  | n + 1, e => match Nat.beq (e / 2 ^ n % 2) 1 with
    | true => powB (Ops.mul (Ops.mul one one) a) a n e
    | false => powB (Ops.mul one one) a n e
theorem powB_spec {R : Type} [CRing R] (a : R) : ∀ n e (acc : R) k, acc = pow a k → powB acc a n e = pow a (k * 2 ^ n + e % 2 ^ n) := by
  intro n
  induction n with
  | zero => intro e acc k h; rw [powB, h, Nat.pow_zero, Nat.mul_one, Nat.mod_one, Nat.add_zero]
  | succ n ih =>
    intro e acc k h
    have hs : acc * acc = pow a (k + k) := by rw [h, pow_add]
    rw [powB]
    have e1 : e % 2 ^ (n + 1) = e % 2 ^ n + 2 ^ n * (e / 2 ^ n % 2) := by rw [Nat.pow_succ, Nat.mod_mul]
    by_cases hb : e / 2 ^ n % 2 = 1
    · have : Nat.beq (e / 2 ^ n % 2) 1 = true := by rw [hb]; rfl
      rw [this]
      show powB (acc * acc * a) a n e = _
      rw [ih e _ (k + k + 1) (by rw [pow_succ, hs])]
      congr 1
      rw [e1, hb, Nat.pow_succ, Nat.add_mul, Nat.add_mul, ← Nat.mul_assoc, Nat.mul_two]; omega
    · have h0 : e / 2 ^ n % 2 = 0 := by omega
      have : Nat.beq (e / 2 ^ n % 2) 1 = false := by rw [h0]; rfl
      rw [this]
      show powB (acc * acc) a n e = _
      rw [ih e _ (k + k) hs]
      congr 1
      rw [e1, h0, Nat.pow_succ, Nat.add_mul, ← Nat.mul_assoc, Nat.mul_two]; omega
theorem powB_eq {R : Type} [CRing R] (a : R) (n e : Nat) (h : e < 2 ^ n) : powB 1 a n e = pow a e := by
  rw [powB_spec a n e 1 0 rfl, Nat.zero_mul, Nat.zero_add, Nat.mod_eq_of_lt h]

/-! ### 1 + u is no cube -/
theorem nat_p2 : (nat pN : F2) = 0 := by
  have h1 : ∀ n : Nat, (nat n : F2) = ⟨nat n, 0⟩ := by
    intro n
    induction n with
    | zero => rfl
    | succ n ih => show nat n + 1 = _; rw [ih]; exact Quad.ext' rfl (add_zero 0)
  rw [h1, nat_of, Z.of_n]; rfl
/-- z to the p is the conjugate. -/
theorem frob2 (z : F2) : pow z pN = z.conj := by
  have e : z = ⟨z.a, 0⟩ + ⟨z.b, 0⟩ * ⟨0, 1⟩ := Quad.ext' (ident (env [z.a, z.b]) x0 (x0 + (x1 * 0 + -1 * (0 * 1))) (by decide +kernel)) (ident (env [z.a, z.b]) x1 (0 + (x1 * 1 + 0 * 0)) (by decide +kernel))
  have hc : ∀ (t : F) (n : Nat), pow (⟨t, 0⟩ : F2) n = ⟨pow t n, 0⟩ := by
    intro t n
    induction n with
    | zero => rfl
    | succ n ih => rw [pow_succ, ih, Quad.coe_mul]; rfl
  have hu : pow (⟨0, 1⟩ : F2) pN = ⟨0, -1⟩ := by
    obtain ⟨m, hm⟩ : ∃ m, pN = 2 * (2 * m + 1) + 1 := ⟨pN / 4, by decide +kernel⟩
    have e : pow (⟨0, 1⟩ : F2) pN = pow ⟨0, 1⟩ (2 * (2 * m + 1) + 1) := congrArg (pow _) hm
    have e2 : pow (⟨0, 1⟩ : F2) 2 = ⟨-1, 0⟩ := by
      rw [pow_succ, pow_one]
      exact Quad.ext' (ident (env []) (0 * 0 + -1 * (1 * 1)) (-1) (by decide +kernel)) (ident (env []) (0 * 1 + 1 * 0) 0 (by decide +kernel))
    rw [e, pow_succ, pow_mul, e2, hc, pow_succ, neg_one_pow]
    exact Quad.ext' (ident (env []) (1 * -1 * 0 + -1 * (0 * 1)) 0 (by decide +kernel)) (ident (env []) (1 * -1 * 1 + 0 * 0) (-1) (by decide +kernel))
  have e3 : pow z pN = pow (⟨z.a, 0⟩ + ⟨z.b, 0⟩ * ⟨0, 1⟩) pN := congrArg (fun x => pow x pN) e
  rw [e3, dream pN_prime nat_p2, mul_pow, hc, hc, pow_p, pow_p, hu]
  exact Quad.ext' (ident (env [z.a, z.b]) (x0 + (x1 * 0 + -1 * (0 * -1))) x0 (by decide +kernel)) (ident (env [z.a, z.b]) (0 + (x1 * -1 + 0 * 0)) (-x1) (by decide +kernel))
theorem pow_p2 (z : F2) : pow z (pN * pN) = z := by
  rw [pow_mul, frob2, frob2]
  exact Quad.ext' rfl (neg_neg _)

theorem pow_p2_1 {z : F2} (hz : z ≠ 0) : pow z (pN * pN - 1) = 1 := by
  have h := pow_p2 z
  have e : pow z (pN * pN) = pow z (pN * pN - 1 + 1) := congrArg (pow z) (by have := pN_pos; have : 0 < pN * pN := Nat.mul_pos pN_pos pN_pos; omega)
  rw [e, pow_succ] at h
  refine mul_cancel hz ?_
  rw [mul_comm, h, mul_one]
def third2 : Nat := (pN * pN - 1) / 3
def half2b : Nat := (pN * pN - 1) / 2
theorem third2_ok : pN * pN - 1 = 3 * third2 := by decide +kernel
theorem half2b_ok : pN * pN - 1 = 2 * half2b := by decide +kernel
theorem ξ_third : pow ξ third2 ≠ 1 := by
  rw [← powB_eq ξ 762 third2 (by decide +kernel)]
  intro h
  have : (powB (1 : F2) ξ 762 third2).a.val = (1 : F2).a.val := by rw [h]
  revert this
  decide +kernel
theorem ξ_half : pow ξ half2b ≠ 1 := by
  rw [← powB_eq ξ 762 half2b (by decide +kernel)]
  intro h
  have : (powB (1 : F2) ξ 762 half2b).a.val = (1 : F2).a.val := by rw [h]
  revert this
  decide +kernel
theorem ξ_ne : ξ ≠ 0 := fun h => by
  have : (1 : F) = 0 := congrArg Quad.a h
  exact one_ne_zero this
theorem no_cube (t : F2) : t * t * t ≠ ξ := by
  intro h
  have ht : t ≠ 0 := fun e => ξ_ne (by rw [← h, e, mul_zero])
  apply ξ_third
  have e : pow t 3 = ξ := by rw [← h, pow_succ, pow_succ, pow_one]
  rw [← e, ← pow_mul, ← third2_ok]
  exact pow_p2_1 ht
instance : IsField F6 := cub_field no_cube
theorem no_square (t : F2) : t * t ≠ ξ := by
  intro h
  have ht : t ≠ 0 := fun e => ξ_ne (by rw [← h, e, mul_zero])
  apply ξ_half
  have e : pow t 2 = ξ := by rw [← h, pow_succ, pow_one]
  rw [← e, ← pow_mul, ← half2b_ok]
  exact pow_p2_1 ht
/-- v. -/
def vv : F6 := ⟨0, 1, 0⟩
theorem cub_norm_mul {R : Type} [CRing R] {k : R} (x y : Cub R k) : (x * y).norm = x.norm * y.norm := by
  unfold Cub.norm Cub.cof
  exact ident (env [x.a, x.b, x.c, y.a, y.b, y.c, k]) (t 0 1 2 6 * t 3 4 5 6 |> fun z => z.a * (z.a * z.a - x6 * (z.b * z.c)) + x6 * (z.c * (x6 * (z.c * z.c) - z.a * z.b) + z.b * (z.b * z.b - z.a * z.c)))
    ((x0 * (x0 * x0 - x6 * (x1 * x2)) + x6 * (x2 * (x6 * (x2 * x2) - x0 * x1) + x1 * (x1 * x1 - x0 * x2))) * (x3 * (x3 * x3 - x6 * (x4 * x5)) + x6 * (x5 * (x6 * (x5 * x5) - x3 * x4) + x4 * (x4 * x4 - x3 * x5)))) (by decide +kernel)
theorem vv_norm : vv.norm = ξ := ident (env [ξ]) (0 * (0 * 0 - x0 * (1 * 0)) + x0 * (0 * (x0 * (0 * 0) - 0 * 1) + 1 * (1 * 1 - 0 * 0))) x0 (by decide +kernel)
theorem no_root6 (t : F6) : t * t ≠ vv := by
  intro h
  have := cub_norm_mul t t
  rw [h, vv_norm] at this
  exact no_square _ this.symm

def red6 (x : N6) : N6 := κ6 (ι6 x)
def add6 (x y : N6) : N6 := κ6 (ι6 x + ι6 y)
def sub6 (x y : N6) : N6 := κ6 (ι6 x - ι6 y)
def mul6 (x y : N6) : N6 := κ6 (ι6 x * ι6 y)
def neg6 (x : N6) : N6 := κ6 (-ι6 x)
def up2 (k : F2) : F6 := ⟨k, 0, 0⟩
def scale6 (x : N6) (k : N2) : N6 := κ6 (ι6 x * up2 (ι2 k))
noncomputable def inve6 (x : N6) : N6 := κ6 (inv (ι6 x))
def v6 (x : N6) : N6 := κ6 (ι6 x * vv)
theorem n6_eq {z : F6} {m n k : N2} (h1 : m = κ2 z.a) (h2 : n = κ2 z.b) (h3 : k = κ2 z.c) : (m, n, k) = κ6 z := by rw [h1, h2, h3]; rfl
theorem zero2 : ι2 (0, 0) = 0 := κ2_inj (by decide +kernel)
noncomputable def TF2 : CallT := tableT rows03
theorem TF2_ok : CallOk Try.prog TF2 := tableT_ok rows03_ok
theorem fp6_reduce_run (x : N6) : run1 TF2 53 [wN x] [] = some (.one (wN (red2 x.1, red2 x.2.1, red2 x.2.2)), []) := by kernel_rfl
theorem fp6_reduce (x : N6) : Pure Try.prog 53 [wv x] (wv (red6 x)) := pureN_of_run TF2_ok (fp6_reduce_run x) (fun _ h => by cases h) (vals1 x) (n6_eq rfl rfl rfl)
theorem fp6_add_run (x y : N6) : run1 TF2 62 [wN x, wN y] [] = some (.one (wN (add2 x.1 y.1, add2 x.2.1 y.2.1, add2 x.2.2 y.2.2)), []) := by kernel_rfl
theorem fp6_add (x y : N6) : Pure Try.prog 62 [wv x, wv y] (wv (add6 x y)) := pureN_of_run TF2_ok (fp6_add_run x y) (fun _ h => by cases h) (vals2 x y) (n6_eq rfl rfl rfl)
theorem fp6_mul_run (x y : N6) : run1 TF2 26 [wN x, wN y] [] = some (.one (wN (
    add2 (add2 (0, 0) (mul2 x.1 y.1)) (xi2 (sub2 (mul2 (add2 x.2.1 x.2.2) (add2 y.2.1 y.2.2)) (add2 (mul2 x.2.1 y.2.1) (mul2 x.2.2 y.2.2)))),
    add2 (add2 (0, 0) (sub2 (mul2 (add2 x.1 x.2.1) (add2 y.1 y.2.1)) (add2 (mul2 x.1 y.1) (mul2 x.2.1 y.2.1)))) (xi2 (mul2 x.2.2 y.2.2)),
    add2 (add2 (0, 0) (sub2 (mul2 (add2 x.1 x.2.2) (add2 y.1 y.2.2)) (add2 (mul2 x.1 y.1) (mul2 x.2.2 y.2.2)))) (mul2 x.2.1 y.2.1))), []) := by kernel_rfl
theorem fp6_mul (x y : N6) : Pure Try.prog 26 [wv x, wv y] (wv (mul6 x y)) := by
  refine pureN_of_run TF2_ok (fp6_mul_run x y) (fun _ h => by cases h) (vals2 x y) (n6_eq ?_ ?_ ?_)
  · simp only [add2, sub2, mul2, xi2, ικ2, zero2]
    exact congrArg κ2 (ident (env [ι2 x.1, ι2 x.2.1, ι2 x.2.2, ι2 y.1, ι2 y.2.1, ι2 y.2.2, ξ]) (0 + x0 * x3 + ((x1 + x2) * (x4 + x5) - (x1 * x4 + x2 * x5)) * x6) (t 0 1 2 6 * t 3 4 5 6).a (by decide +kernel))
  · simp only [add2, sub2, mul2, xi2, ικ2, zero2]
    exact congrArg κ2 (ident (env [ι2 x.1, ι2 x.2.1, ι2 x.2.2, ι2 y.1, ι2 y.2.1, ι2 y.2.2, ξ]) (0 + ((x0 + x1) * (x3 + x4) - (x0 * x3 + x1 * x4)) + x2 * x5 * x6) (t 0 1 2 6 * t 3 4 5 6).b (by decide +kernel))
  · simp only [add2, sub2, mul2, ικ2, zero2]
    exact congrArg κ2 (ident (env [ι2 x.1, ι2 x.2.1, ι2 x.2.2, ι2 y.1, ι2 y.2.1, ι2 y.2.2, ξ]) (0 + ((x0 + x2) * (x3 + x5) - (x0 * x3 + x2 * x5)) + x1 * x4) (t 0 1 2 6 * t 3 4 5 6).c (by decide +kernel))
theorem fp6_sub_run (x y : N6) : run1 TF2 65 [wN x, wN y] [] = some (.one (wN (sub2 x.1 y.1, sub2 x.2.1 y.2.1, sub2 x.2.2 y.2.2)), []) := by kernel_rfl
theorem fp6_sub (x y : N6) : Pure Try.prog 65 [wv x, wv y] (wv (sub6 x y)) := pureN_of_run TF2_ok (fp6_sub_run x y) (fun _ h => by cases h) (vals2 x y) (n6_eq rfl rfl rfl)
theorem fp6_neg_run (x : N6) : run1 TF2 54 [wN x] [] = some (.one (wN (neg2 x.1, neg2 x.2.1, neg2 x.2.2)), []) := by kernel_rfl
theorem fp6_neg (x : N6) : Pure Try.prog 54 [wv x] (wv (neg6 x)) := pureN_of_run TF2_ok (fp6_neg_run x) (fun _ h => by cases h) (vals1 x) (n6_eq rfl rfl rfl)
theorem fp6_v_run (x : N6) : run1 TF2 64 [wN x] [] = some (.one (wN (xi2 x.2.2, red2 x.1, red2 x.2.1)), []) := by kernel_rfl
theorem fp6_v (x : N6) : Pure Try.prog 64 [wv x] (wv (v6 x)) := by
  refine pureN_of_run TF2_ok (fp6_v_run x) (fun _ h => by cases h) (vals1 x) (n6_eq ?_ ?_ ?_)
  · exact congrArg κ2 (ident (env [ι2 x.1, ι2 x.2.1, ι2 x.2.2, ξ]) (x2 * x3) (x0 * 0 + x3 * (x1 * 0 + x2 * 1)) (by decide +kernel))
  · exact congrArg κ2 (ident (env [ι2 x.1, ι2 x.2.1, ι2 x.2.2, ξ]) x0 (x0 * 1 + x1 * 0 + x3 * (x2 * 0)) (by decide +kernel))
  · exact congrArg κ2 (ident (env [ι2 x.1, ι2 x.2.1, ι2 x.2.2, ξ]) x1 (x0 * 0 + x1 * 1 + x2 * 0) (by decide +kernel))
noncomputable def rows04 : List Row := rowN1 53 red6 :: rowN2 62 add6 :: rowN2 65 sub6 :: rowN1 54 neg6 :: rowN2 26 mul6 :: rowN1 64 v6 :: rows03
theorem rows04_ok : ∀ r ∈ rows04, RowOk Try.prog r := by
  simp only [rows04, List.forall_mem_cons]
  exact ⟨rowN1_ok fp6_reduce, rowN2_ok fp6_add, rowN2_ok fp6_sub, rowN1_ok fp6_neg, rowN2_ok fp6_mul, rowN1_ok fp6_v, rows03_ok⟩
end Go.Proofs.Ytkpihidjolfkoaa
