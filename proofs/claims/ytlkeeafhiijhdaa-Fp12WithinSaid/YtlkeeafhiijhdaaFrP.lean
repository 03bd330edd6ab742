/-
  Powers of p, by parts: no program in sight.
-/
import Derived.Test.YtlkeeafhiijhdaaF12
import Derived.Test.YtlkeeafhiijhdaaSl
namespace Go.Proofs.Ytlkeeafhiijhdaa
open Go Go.Eng Go.RowKit Go.Wd Go.Alg Go.Pr

theorem nat_p6 : (nat pN : F6) = 0 := by
  have h1 : ∀ n : Nat, (nat n : F6) = ⟨nat n, 0, 0⟩ := by
    intro n
    induction n with
    | zero => rfl
    | succ n ih => show nat n + 1 = _; rw [ih]; exact Cub.ext' rfl (add_zero 0) (add_zero 0)
  rw [h1, nat_p2]; rfl
theorem nat_p12 : (nat pN : F12) = 0 := by
  have h1 : ∀ n : Nat, (nat n : F12) = ⟨nat n, 0⟩ := by
    intro n
    induction n with
    | zero => rfl
    | succ n ih => show nat n + 1 = _; rw [ih]; exact Quad.ext' rfl (add_zero 0)
  rw [h1, nat_p6]; rfl
/-! ### by parts, over any ring -/
section
variable {R : Type} [CRing R] {k : R}
def upG (x : R) : Quad (Cub R k) ⟨0, 1, 0⟩ := ⟨⟨x, 0, 0⟩, 0⟩
def wG : Quad (Cub R k) ⟨0, 1, 0⟩ := ⟨0, 1⟩
theorem upG_smul (x a b c d e f : R) : (upG x * ⟨⟨a, b, c⟩, ⟨d, e, f⟩⟩ : Quad (Cub R k) ⟨0, 1, 0⟩) = ⟨⟨x * a, x * b, x * c⟩, ⟨x * d, x * e, x * f⟩⟩ := by
  have h : ∀ y : Cub R k, (⟨x, 0, 0⟩ : Cub R k) * y = ⟨x * y.a, x * y.b, x * y.c⟩ := fun y => Cub.ext'
    (ident (env [x, y.a, y.b, y.c, k]) (x0 * x1 + x4 * (0 * x3 + 0 * x2)) (x0 * x1) (by decide +kernel)) (ident (env [x, y.a, y.b, y.c, k]) (x0 * x2 + 0 * x1 + x4 * (0 * x3)) (x0 * x2) (by decide +kernel)) (ident (env [x, y.a, y.b, y.c, k]) (x0 * x3 + 0 * x2 + 0 * x1) (x0 * x3) (by decide +kernel))
  refine Quad.ext' ?_ ?_
  · show (⟨x, 0, 0⟩ : Cub R k) * ⟨a, b, c⟩ + ⟨0, 1, 0⟩ * (0 * ⟨d, e, f⟩) = _
    rw [zero_mul, mul_zero, add_zero, h]
  · show (⟨x, 0, 0⟩ : Cub R k) * ⟨d, e, f⟩ + 0 * ⟨a, b, c⟩ = _
    rw [zero_mul, add_zero, h]
theorem w_step (a b c d e f : R) : (⟨⟨a, b, c⟩, ⟨d, e, f⟩⟩ * wG : Quad (Cub R k) ⟨0, 1, 0⟩) = ⟨⟨k * f, d, e⟩, ⟨a, b, c⟩⟩ := by
  refine Quad.ext' ?_ ?_
  · show (⟨a, b, c⟩ : Cub R k) * 0 + ⟨0, 1, 0⟩ * (⟨d, e, f⟩ * 1) = _
    rw [mul_zero, zero_add, mul_one]
    exact Cub.ext' (ident (env [d, e, f, k]) (0 * x0 + x3 * (1 * x2 + 0 * x1)) (x3 * x2) (by decide +kernel)) (ident (env [d, e, f, k]) (0 * x1 + 1 * x0 + x3 * (0 * x2)) x0 (by decide +kernel)) (ident (env [d, e, f, k]) (0 * x2 + 1 * x1 + 0 * x0) x1 (by decide +kernel))
  · show (⟨a, b, c⟩ : Cub R k) * 1 + ⟨d, e, f⟩ * 0 = _
    rw [mul_zero, add_zero, mul_one]
theorem w1G : (wG : Quad (Cub R k) ⟨0, 1, 0⟩) = ⟨⟨0, 0, 0⟩, ⟨1, 0, 0⟩⟩ := rfl
theorem w2G : (wG * wG : Quad (Cub R k) ⟨0, 1, 0⟩) = ⟨⟨0, 1, 0⟩, ⟨0, 0, 0⟩⟩ := by
  have := w_step (k := k) (0 : R) 0 0 1 0 0
  rw [← w1G, mul_zero] at this; exact this
theorem w3G : (wG * wG * wG : Quad (Cub R k) ⟨0, 1, 0⟩) = ⟨⟨0, 0, 0⟩, ⟨0, 1, 0⟩⟩ := by rw [w2G, w_step, mul_zero]
theorem w4G : (wG * wG * wG * wG : Quad (Cub R k) ⟨0, 1, 0⟩) = ⟨⟨0, 0, 1⟩, ⟨0, 0, 0⟩⟩ := by rw [w3G, w_step, mul_zero]
theorem w5G : (wG * wG * wG * wG * wG : Quad (Cub R k) ⟨0, 1, 0⟩) = ⟨⟨0, 0, 0⟩, ⟨0, 0, 1⟩⟩ := by rw [w4G, w_step, mul_zero]
theorem by_partsG (z : Quad (Cub R k) ⟨0, 1, 0⟩) : z = upG z.a.a + upG z.b.a * wG + upG z.a.b * (wG * wG) + upG z.b.b * (wG * wG * wG) + upG z.a.c * (wG * wG * wG * wG) + upG z.b.c * (wG * wG * wG * wG * wG) := by
  obtain ⟨⟨a, b, c⟩, ⟨d, e, f⟩⟩ := z
  rw [w5G, w4G, w3G, w2G, w1G, upG_smul, upG_smul, upG_smul, upG_smul, upG_smul]
  simp only [mul_zero, mul_one]
  refine Quad.ext' (Cub.ext' ?_ ?_ ?_) (Cub.ext' ?_ ?_ ?_)
  · show a = a + 0 + 0 + 0 + 0 + 0; simp only [add_zero]
  · show b = 0 + 0 + b + 0 + 0 + 0; simp only [add_zero, zero_add]
  · show c = 0 + 0 + 0 + 0 + c + 0; simp only [add_zero, zero_add]
  · show d = 0 + d + 0 + 0 + 0 + 0; simp only [add_zero, zero_add]
  · show e = 0 + 0 + 0 + e + 0 + 0; simp only [add_zero, zero_add]
  · show f = 0 + 0 + 0 + 0 + 0 + f; simp only [zero_add]
theorem w6G : pow (wG : Quad (Cub R k) ⟨0, 1, 0⟩) 6 = upG k := by
  rw [pow_succ, pow_succ, pow_succ, pow_succ, pow_succ, pow_one, w5G, w_step, mul_one]
  rfl
theorem upG_mul (x y : R) : (upG x * upG y : Quad (Cub R k) ⟨0, 1, 0⟩) = upG (x * y) := by
  unfold upG
  rw [Quad.coe_mul, Cub.coe_mul]
end
/-- A number without v and w. -/
def up (k : F2) : F12 := upG k
def ww : F12 := wG
theorem up_mul (x y : F2) : up x * up y = up (x * y) := upG_mul x y
theorem up_one : up 1 = 1 := rfl
theorem up_succ (x : F2) (n : Nat) : up (pow x n) * up x = up (pow x (n + 1)) := up_mul _ _
theorem up_pow (x : F2) (n : Nat) : pow (up x) n = up (pow x n) := by
  induction n with
  | zero => rfl
  | succ n ih => rw [pow_succ, ih, up_succ]
/-- A number by its six parts. -/
theorem by_parts (z : F12) : z = up z.a.a + up z.b.a * ww + up z.a.b * (ww * ww) + up z.b.b * (ww * ww * ww) + up z.a.c * (ww * ww * ww * ww) + up z.b.c * (ww * ww * ww * ww * ww) := by_partsG z
theorem ww6 : pow ww 6 = up ξ := w6G
def sixth1 : Nat := (pN - 1) / 6
/-- 1 + u to the power of (p - 1) / 6. -/
noncomputable def g1 : F2 := powB 1 ξ 381 sixth1
set_option maxRecDepth 100000 in
theorem sixth_ex : ∃ m, pN = 6 * m + 1 ∧ pow ξ m = g1 := ⟨sixth1, by decide +kernel, (powB_eq ξ 381 sixth1 (by decide +kernel)).symm⟩
theorem ww_p : pow ww pN = up g1 * ww := by
  obtain ⟨m, hm, hg⟩ := sixth_ex
  have e : pow ww pN = pow ww (6 * m + 1) := congrArg (pow ww) hm
  rw [e, pow_succ, pow_mul, ww6, up_pow, hg]
/-- The step: conjugates, each times a power of g1. -/
def stepF (f : Nat → F2) (z : F12) : F12 := ⟨⟨z.a.a.conj * f 0, z.a.b.conj * f 2, z.a.c.conj * f 4⟩, ⟨z.b.a.conj * f 1, z.b.b.conj * f 3, z.b.c.conj * f 5⟩⟩
def pwF (G : F2) (i : Nat) : F2 := match i with
  | 0 => 1
  | 1 => G
  | 2 => G * G
  | 3 => G * G * G
  | 4 => G * G * G * G
  | _ => G * G * G * G * G
noncomputable def facF (i : Nat) : F2 := pwF g1 i
noncomputable def σ (z : F12) : F12 := stepF facF z
theorem frob_id {R : Type} [CRing R] (a b c d e f w g : R) :
    a + b * (g * w) + c * (g * w * (g * w)) + d * (g * w * (g * w) * (g * w)) + e * (g * w * (g * w) * (g * w) * (g * w)) + f * (g * w * (g * w) * (g * w) * (g * w) * (g * w)) =
    a + b * g * w + c * (g * g) * (w * w) + d * (g * g * g) * (w * w * w) + e * (g * g * g * g) * (w * w * w * w) + f * (g * g * g * g * g) * (w * w * w * w * w) :=
  ident (env [a, b, c, d, e, f, w, g])
    (x0 + x1 * (x7 * x6) + x2 * (x7 * x6 * (x7 * x6)) + x3 * (x7 * x6 * (x7 * x6) * (x7 * x6)) + x4 * (x7 * x6 * (x7 * x6) * (x7 * x6) * (x7 * x6)) + x5 * (x7 * x6 * (x7 * x6) * (x7 * x6) * (x7 * x6) * (x7 * x6)))
    (x0 + x1 * x7 * x6 + x2 * (x7 * x7) * (x6 * x6) + x3 * (x7 * x7 * x7) * (x6 * x6 * x6) + x4 * (x7 * x7 * x7 * x7) * (x6 * x6 * x6 * x6) + x5 * (x7 * x7 * x7 * x7 * x7) * (x6 * x6 * x6 * x6 * x6)) (by decide +kernel)
theorem frob_by {n : Nat} (hp : ∀ x y : F12, pow (x + y) n = pow x n + pow y n) (hu : ∀ k : F2, pow (up k) n = up k.conj) {G : F2} (hw : pow ww n = up G * ww) (z : F12) : pow z n = stepF (pwF G) z := by
  have e : pow z n = pow (up z.a.a + up z.b.a * ww + up z.a.b * (ww * ww) + up z.b.b * (ww * ww * ww) + up z.a.c * (ww * ww * ww * ww) + up z.b.c * (ww * ww * ww * ww * ww)) n := congrArg (fun x => pow x n) (by_parts z)
  rw [e]
  simp only [hp, mul_pow, hu, hw]
  rw [by_parts (stepF (pwF G) z)]
  have h2 : ∀ a b : F2, up (a * b) = up a * up b := fun a b => (up_mul a b).symm
  simp only [stepF, pwF, h2, mul_one]
  generalize up z.a.a.conj = a
  generalize up z.b.a.conj = b
  generalize up z.a.b.conj = c
  generalize up z.b.b.conj = d
  generalize up z.a.c.conj = e
  generalize up z.b.c.conj = f
  generalize ww = w
  generalize up G = g
  exact frob_id a b c d e f w g
theorem up_p (k : F2) : pow (up k) pN = up k.conj := by rw [up_pow, frob2]
theorem frob12 (z : F12) : pow z pN = σ z := frob_by (dream pN_prime nat_p12) up_p ww_p z
theorem σ_add (x y : F12) : σ (x + y) = σ x + σ y := by rw [← frob12, ← frob12, ← frob12]; exact dream pN_prime nat_p12 x y
theorem σ_mul (x y : F12) : σ (x * y) = σ x * σ y := by rw [← frob12, ← frob12, ← frob12]; exact mul_pow x y pN
noncomputable def σn : Nat → F12 → F12
  | 0, z => z
  | n + 1, z => σ (σn n z)
theorem σn_add (m n : Nat) (z : F12) : σn (m + n) z = σn m (σn n z) := by
  induction m with
  | zero => rw [Nat.zero_add]; rfl
  | succ m ih => rw [Nat.add_right_comm]; show σ (σn (m + n) z) = σ (σn m (σn n z)); rw [ih]
theorem σn_sum (n : Nat) (x y : F12) : σn n (x + y) = σn n x + σn n y := by
  induction n with
  | zero => rfl
  | succ n ih => show σ (σn n (x + y)) = σ (σn n x) + σ (σn n y); rw [ih, σ_add]
theorem σn_prod (n : Nat) (x y : F12) : σn n (x * y) = σn n x * σn n y := by
  induction n with
  | zero => rfl
  | succ n ih => show σ (σn n (x * y)) = σ (σn n x) * σ (σn n y); rw [ih, σ_mul]
/-- By a number of the base's own. -/
def scF (f : Nat → F2) (z : F12) : F12 := ⟨⟨z.a.a * f 0, z.a.b * f 2, z.a.c * f 4⟩, ⟨z.b.a * f 1, z.b.b * f 3, z.b.c * f 5⟩⟩
theorem conj_conj' {R : Type} [CRing R] {c : R} (x : Quad R c) : x.conj.conj = x := Quad.ext' rfl (neg_neg _)
theorem conj_mul' {R : Type} [CRing R] {c : R} (x y : Quad R c) : (x * y).conj = x.conj * y.conj := Quad.ext'
  (ident (env [x.a, x.b, y.a, y.b, c]) (x0 * x2 + x4 * (x1 * x3)) (x0 * x2 + x4 * (-x1 * -x3)) (by decide +kernel)) (ident (env [x.a, x.b, y.a, y.b, c]) (-(x0 * x3 + x1 * x2)) (x0 * -x3 + -x1 * x2) (by decide +kernel))
theorem σσ (z : F12) : σ (σ z) = scF (fun i => (facF i).conj * facF i) z := by
  unfold σ stepF scF
  simp only [conj_mul', conj_conj', mul_assoc]
theorem scF_scF (f g : Nat → F2) (z : F12) : scF f (scF g z) = scF (fun i => g i * f i) z := by
  unfold scF
  simp only [mul_assoc]
theorem scF_one (f : Nat → F2) (h : ∀ i, i < 6 → f i = 1) (z : F12) : scF f z = z := by
  unfold scF
  rw [h 0 (by omega), h 1 (by omega), h 2 (by omega), h 3 (by omega), h 4 (by omega), h 5 (by omega)]
  simp only [mul_one]
noncomputable def nF (i : Nat) : F2 := (facF i).conj * facF i
def sgn (i : Nat) : F2 := match i % 2 with
  | 0 => 1
  | _ => -1
theorem nF3 : ∀ i, i < 6 → κ2 (nF i * (nF i * nF i)) = κ2 (sgn i) := by decide +kernel
theorem σ6 (z : F12) : σn 6 z = z.conj := by
  show σ (σ (σ (σ (σ (σ z))))) = _
  rw [σσ, σσ, σσ, scF_scF, scF_scF]
  have h : ∀ i, i < 6 → nF i * (nF i * nF i) = sgn i := fun i hi => κ2_inj (nF3 i hi)
  show scF (fun i => nF i * (nF i * nF i)) z = _
  have hb : scF (fun i => nF i * (nF i * nF i)) z = ⟨⟨z.a.a * (nF 0 * (nF 0 * nF 0)), z.a.b * (nF 2 * (nF 2 * nF 2)), z.a.c * (nF 4 * (nF 4 * nF 4))⟩, ⟨z.b.a * (nF 1 * (nF 1 * nF 1)), z.b.b * (nF 3 * (nF 3 * nF 3)), z.b.c * (nF 5 * (nF 5 * nF 5))⟩⟩ := rfl
  rw [hb]
  rw [h 0 (by omega), h 1 (by omega), h 2 (by omega), h 3 (by omega), h 4 (by omega), h 5 (by omega)]
  have s0 : sgn 0 = 1 := rfl
  have s1 : sgn 1 = -1 := rfl
  have s2 : sgn 2 = 1 := rfl
  have s3 : sgn 3 = -1 := rfl
  have s4 : sgn 4 = 1 := rfl
  have s5 : sgn 5 = -1 := rfl
  rw [s0, s1, s2, s3, s4, s5]
  simp only [mul_one, mul_neg]
  rfl
theorem σ12 (z : F12) : σn 12 z = z := by
  rw [show 12 = 6 + 6 from rfl, σn_add, σ6, σ6]
  exact conj_conj' z
theorem σn_mod (n : Nat) (z : F12) : σn n z = σn (n % 12) z := by
  have h : ∀ k m : Nat, σn (12 * k + m) z = σn m z := by
    intro k
    induction k with
    | zero => intro m; rw [Nat.mul_zero, Nat.zero_add]
    | succ k ih => intro m; rw [show 12 * (k + 1) + m = 12 + (12 * k + m) by omega, σn_add, σ12]; exact ih m
  have e : n = 12 * (n / 12) + n % 12 := by omega
  conv => lhs; rw [e]
  exact h _ _
/-- A power of p's power of n, for every whole n. -/
noncomputable def σI (n : Int) (z : F12) : F12 := σn (n % 12).toNat z
theorem σI_nat (n : Nat) (z : F12) : σI n z = σn n z := by
  unfold σI
  rw [σn_mod n]
  congr 1
theorem σI_add (m n : Int) (z : F12) : σI (m + n) z = σI m (σI n z) := by
  unfold σI
  rw [← σn_add, σn_mod ((m % 12).toNat + (n % 12).toNat)]
  congr 1
  omega
end Go.Proofs.Ytlkeeafhiijhdaa
