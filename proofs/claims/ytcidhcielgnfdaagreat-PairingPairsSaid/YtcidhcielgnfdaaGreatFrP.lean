/-
  Powers of p, by parts: no program in sight.
-/
import Derived.Test.YtcidhcielgnfdaaGreatFf
import Derived.Test.YtcidhcielgnfdaaGreatPx
namespace Go.Proofs.YtcidhcielgnfdaaGreat
open Go Go.Eng Go.RowKit Go.Wd Go.Alg Go.Pr

theorem nat_p6 : (nat pN : F6) = 0 := by
  have h1 : ∀ n : Nat, (nat n : F6) = ⟨nat n, 0, 0⟩ := by
    intro n
    induction n with
    | zero => rfl
    | succ n ih => show nat n + 1 = _; rw [ih]; exact Cub.ext' rfl (add_zero 0) (add_zero 0)
  rw [h1, nat_p2]; rfl
theorem nat_p12 : (nat pN : F12) = 0 := by
  have h1 : ∀ n : Nat, (nat n : F12) = ⟨nat n, 0⟩ := by
    intro n
    induction n with
    | zero => rfl
    | succ n ih => show nat n + 1 = _; rw [ih]; exact Quad.ext' rfl (add_zero 0)
  rw [h1, nat_p6]; rfl
/-! ### by parts, over any ring -/
section
variable {R : Type} [CRing R] {k : R}
def upG (x : R) : Quad (Cub R k) ⟨0, 1, 0⟩ := ⟨⟨x, 0, 0⟩, 0⟩
def wG : Quad (Cub R k) ⟨0, 1, 0⟩ := ⟨0, 1⟩
theorem upG_smul (x a b c d e f : R) : (upG x * ⟨⟨a, b, c⟩, ⟨d, e, f⟩⟩ : Quad (Cub R k) ⟨0, 1, 0⟩) = ⟨⟨x * a, x * b, x * c⟩, ⟨x * d, x * e, x * f⟩⟩ := by
  have h : ∀ y : Cub R k, (⟨x, 0, 0⟩ : Cub R k) * y = ⟨x * y.a, x * y.b, x * y.c⟩ := fun y => Cub.ext'
    (ident (env [x, y.a, y.b, y.c, k]) (x0 * x1 + x4 * (0 * x3 + 0 * x2)) (x0 * x1) (by decide +kernel)) (ident (env [x, y.a, y.b, y.c, k]) (x0 * x2 + 0 * x1 + x4 * (0 * x3)) (x0 * x2) (by decide +kernel)) (ident (env [x, y.a, y.b, y.c, k]) (x0 * x3 + 0 * x2 + 0 * x1) (x0 * x3) (by decide +kernel))
  refine Quad.ext' ?_ ?_
  · show (⟨x, 0, 0⟩ : Cub R k) * ⟨a, b, c⟩ + ⟨0, 1, 0⟩ * (0 * ⟨d, e, f⟩) = _
    rw [zero_mul, mul_zero, add_zero, h]
  · show (⟨x, 0, 0⟩ : Cub R k) * ⟨d, e, f⟩ + 0 * ⟨a, b, c⟩ = _
    rw [zero_mul, add_zero, h]
theorem w_step (a b c d e f : R) : (⟨⟨a, b, c⟩, ⟨d, e, f⟩⟩ * wG : Quad (Cub R k) ⟨0, 1, 0⟩) = ⟨⟨k * f, d, e⟩, ⟨a, b, c⟩⟩ := by
  refine Quad.ext' ?_ ?_
  · show (⟨a, b, c⟩ : Cub R k) * 0 + ⟨0, 1, 0⟩ * (⟨d, e, f⟩ * 1) = _
    rw [mul_zero, zero_add, mul_one]
    exact Cub.ext' (ident (env [d, e, f, k]) (0 * x0 + x3 * (1 * x2 + 0 * x1)) (x3 * x2) (by decide +kernel)) (ident (env [d, e, f, k]) (0 * x1 + 1 * x0 + x3 * (0 * x2)) x0 (by decide +kernel)) (ident (env [d, e, f, k]) (0 * x2 + 1 * x1 + 0 * x0) x1 (by decide +kernel))
  · show (⟨a, b, c⟩ : Cub R k) * 1 + ⟨d, e, f⟩ * 0 = _
    rw [mul_zero, add_zero, mul_one]
theorem w1G : (wG : Quad (Cub R k) ⟨0, 1, 0⟩) = ⟨⟨0, 0, 0⟩, ⟨1, 0, 0⟩⟩ := rfl
theorem w2G : (wG * wG : Quad (Cub R k) ⟨0, 1, 0⟩) = ⟨⟨0, 1, 0⟩, ⟨0, 0, 0⟩⟩ := by
  have := w_step (k := k) (0 : R) 0 0 1 0 0
  rw [← w1G, mul_zero] at this; exact this
theorem w3G : (wG * wG * wG : Quad (Cub R k) ⟨0, 1, 0⟩) = ⟨⟨0, 0, 0⟩, ⟨0, 1, 0⟩⟩ := by rw [w2G, w_step, mul_zero]
theorem w4G : (wG * wG * wG * wG : Quad (Cub R k) ⟨0, 1, 0⟩) = ⟨⟨0, 0, 1⟩, ⟨0, 0, 0⟩⟩ := by rw [w3G, w_step, mul_zero]
theorem w5G : (wG * wG * wG * wG * wG : Quad (Cub R k) ⟨0, 1, 0⟩) = ⟨⟨0, 0, 0⟩, ⟨0, 0, 1⟩⟩ := by rw [w4G, w_step, mul_zero]
theorem by_partsG (z : Quad (Cub R k) ⟨0, 1, 0⟩) : z = upG z.a.a + upG z.b.a * wG + upG z.a.b * (wG * wG) + upG z.b.b * (wG * wG * wG) + upG z.a.c * (wG * wG * wG * wG) + upG z.b.c * (wG * wG * wG * wG * wG) := by
  obtain ⟨⟨a, b, c⟩, ⟨d, e, f⟩⟩ := z
  rw [w5G, w4G, w3G, w2G, w1G, upG_smul, upG_smul, upG_smul, upG_smul, upG_smul]
  simp only [mul_zero, mul_one]
  refine Quad.ext' (Cub.ext' ?_ ?_ ?_) (Cub.ext' ?_ ?_ ?_)
  · show a = a + 0 + 0 + 0 + 0 + 0; simp only [add_zero]
  · show b = 0 + 0 + b + 0 + 0 + 0; simp only [add_zero, zero_add]
  · show c = 0 + 0 + 0 + 0 + c + 0; simp only [add_zero, zero_add]
  · show d = 0 + d + 0 + 0 + 0 + 0; simp only [add_zero, zero_add]
  · show e = 0 + 0 + 0 + e + 0 + 0; simp only [add_zero, zero_add]
  · show f = 0 + 0 + 0 + 0 + 0 + f; simp only [zero_add]
theorem w6G : pow (wG : Quad (Cub R k) ⟨0, 1, 0⟩) 6 = upG k := by
  rw [pow_succ, pow_succ, pow_succ, pow_succ, pow_succ, pow_one, w5G, w_step, mul_one]
  rfl
theorem upG_mul (x y : R) : (upG x * upG y : Quad (Cub R k) ⟨0, 1, 0⟩) = upG (x * y) := by
  unfold upG
  rw [Quad.coe_mul, Cub.coe_mul]
end
/-- A number without v and w. -/
def up (k : F2) : F12 := upG k
def ww : F12 := wG
theorem up_mul (x y : F2) : up x * up y = up (x * y) := upG_mul x y
theorem up_one : up 1 = 1 := rfl
theorem up_succ (x : F2) (n : Nat) : up (pow x n) * up x = up (pow x (n + 1)) := up_mul _ _
theorem up_pow (x : F2) (n : Nat) : pow (up x) n = up (pow x n) := by
  induction n with
  | zero => rfl
  | succ n ih => rw [pow_succ, ih, up_succ]
/-- A number by its six parts. -/
theorem by_parts (z : F12) : z = up z.a.a + up z.b.a * ww + up z.a.b * (ww * ww) + up z.b.b * (ww * ww * ww) + up z.a.c * (ww * ww * ww * ww) + up z.b.c * (ww * ww * ww * ww * ww) := by_partsG z
theorem ww6 : pow ww 6 = up ξ := w6G
def sixth1 : Nat := (pN - 1) / 6
/-- 1 + u to the power of (p - 1) / 6. -/
noncomputable def g1 : F2 := powB 1 ξ 381 sixth1
set_option maxRecDepth 100000 in
theorem sixth_ex : ∃ m, pN = 6 * m + 1 ∧ pow ξ m = g1 := ⟨sixth1, by decide +kernel, (powB_eq ξ 381 sixth1 (by decide +kernel)).symm⟩
theorem ww_p : pow ww pN = up g1 * ww := by
  obtain ⟨m, hm, hg⟩ := sixth_ex
  have e : pow ww pN = pow ww (6 * m + 1) := congrArg (pow ww) hm
  rw [e, pow_succ, pow_mul, ww6, up_pow, hg]
/-- The step: conjugates, each times a power of g1. -/
def stepF (f : Nat → F2) (z : F12) : F12 := ⟨⟨z.a.a.conj * f 0, z.a.b.conj * f 2, z.a.c.conj * f 4⟩, ⟨z.b.a.conj * f 1, z.b.b.conj * f 3, z.b.c.conj * f 5⟩⟩
def pwF (G : F2) (i : Nat) : F2 := match i with
  | 0 => 1
  | 1 => G
  | 2 => G * G
  | 3 => G * G * G
  | 4 => G * G * G * G
  | _ => G * G * G * G * G
noncomputable def facF (i : Nat) : F2 := pwF g1 i
noncomputable def σ (z : F12) : F12 := stepF facF z
theorem frob_id {R : Type} [CRing R] (a b c d e f w g : R) :
    a + b * (g * w) + c * (g * w * (g * w)) + d * (g * w * (g * w) * (g * w)) + e * (g * w * (g * w) * (g * w) * (g * w)) + f * (g * w * (g * w) * (g * w) * (g * w) * (g * w)) =
    a + b * g * w + c * (g * g) * (w * w) + d * (g * g * g) * (w * w * w) + e * (g * g * g * g) * (w * w * w * w) + f * (g * g * g * g * g) * (w * w * w * w * w) :=
  ident (env [a, b, c, d, e, f, w, g])
    (x0 + x1 * (x7 * x6) + x2 * (x7 * x6 * (x7 * x6)) + x3 * (x7 * x6 * (x7 * x6) * (x7 * x6)) + x4 * (x7 * x6 * (x7 * x6) * (x7 * x6) * (x7 * x6)) + x5 * (x7 * x6 * (x7 * x6) * (x7 * x6) * (x7 * x6) * (x7 * x6)))
    (x0 + x1 * x7 * x6 + x2 * (x7 * x7) * (x6 * x6) + x3 * (x7 * x7 * x7) * (x6 * x6 * x6) + x4 * (x7 * x7 * x7 * x7) * (x6 * x6 * x6 * x6) + x5 * (x7 * x7 * x7 * x7 * x7) * (x6 * x6 * x6 * x6 * x6)) (by decide +kernel)
theorem frob_by {n : Nat} (hp : ∀ x y : F12, pow (x + y) n = pow x n + pow y n) (hu : ∀ k : F2, pow (up k) n = up k.conj) {G : F2} (hw : pow ww n = up G * ww) (z : F12) : pow z n = stepF (pwF G) z := by
  have e : pow z n = pow (up z.a.a + up z.b.a * ww + up z.a.b * (ww * ww) + up z.b.b * (ww * ww * ww) + up z.a.c * (ww * ww * ww * ww) + up z.b.c * (ww * ww * ww * ww * ww)) n := congrArg (fun x => pow x n) (by_parts z)
  rw [e]
  simp only [hp, mul_pow, hu, hw]
  rw [by_parts (stepF (pwF G) z)]
  have h2 : ∀ a b : F2, up (a * b) = up a * up b := fun a b => (up_mul a b).symm
  simp only [stepF, pwF, h2, mul_one]
  generalize up z.a.a.conj = a
  generalize up z.b.a.conj = b
  generalize up z.a.b.conj = c
  generalize up z.b.b.conj = d
  generalize up z.a.c.conj = e
  generalize up z.b.c.conj = f
  generalize ww = w
  generalize up G = g
  exact frob_id a b c d e f w g
theorem up_p (k : F2) : pow (up k) pN = up k.conj := by rw [up_pow, frob2]
theorem frob12 (z : F12) : pow z pN = σ z := frob_by (dream pN_prime nat_p12) up_p ww_p z
theorem σ_add (x y : F12) : σ (x + y) = σ x + σ y := by rw [← frob12, ← frob12, ← frob12]; exact dream pN_prime nat_p12 x y
theorem σ_mul (x y : F12) : σ (x * y) = σ x * σ y := by rw [← frob12, ← frob12, ← frob12]; exact mul_pow x y pN
noncomputable def σn : Nat → F12 → F12
  | 0, z => z
  | n + 1, z => σ (σn n z)
theorem σn_add (m n : Nat) (z : F12) : σn (m + n) z = σn m (σn n z) := by
  induction m with
  | zero => rw [Nat.zero_add]; rfl
  | succ m ih => rw [Nat.add_right_comm]; show σ (σn (m + n) z) = σ (σn m (σn n z)); rw [ih]
theorem σn_sum (n : Nat) (x y : F12) : σn n (x + y) = σn n x + σn n y := by
  induction n with
  | zero => rfl
  | succ n ih => show σ (σn n (x + y)) = σ (σn n x) + σ (σn n y); rw [ih, σ_add]
theorem σn_prod (n : Nat) (x y : F12) : σn n (x * y) = σn n x * σn n y := by
  induction n with
  | zero => rfl
  | succ n ih => show σ (σn n (x * y)) = σ (σn n x) * σ (σn n y); rw [ih, σ_mul]
/-- By a number of the base's own. -/
def scF (f : Nat → F2) (z : F12) : F12 := ⟨⟨z.a.a * f 0, z.a.b * f 2, z.a.c * f 4⟩, ⟨z.b.a * f 1, z.b.b * f 3, z.b.c * f 5⟩⟩
theorem conj_conj' {R : Type} [CRing R] {c : R} (x : Quad R c) : x.conj.conj = x := Quad.ext' rfl (neg_neg _)
theorem conj_mul' {R : Type} [CRing R] {c : R} (x y : Quad R c) : (x * y).conj = x.conj * y.conj := Quad.ext'
  (ident (env [x.a, x.b, y.a, y.b, c]) (x0 * x2 + x4 * (x1 * x3)) (x0 * x2 + x4 * (-x1 * -x3)) (by decide +kernel)) (ident (env [x.a, x.b, y.a, y.b, c]) (-(x0 * x3 + x1 * x2)) (x0 * -x3 + -x1 * x2) (by decide +kernel))
theorem σσ (z : F12) : σ (σ z) = scF (fun i => (facF i).conj * facF i) z := by
  unfold σ stepF scF
  simp only [conj_mul', conj_conj', mul_assoc]
theorem scF_scF (f g : Nat → F2) (z : F12) : scF f (scF g z) = scF (fun i => g i * f i) z := by
  unfold scF
  simp only [mul_assoc]
theorem scF_one (f : Nat → F2) (h : ∀ i, i < 6 → f i = 1) (z : F12) : scF f z = z := by
  unfold scF
  rw [h 0 (by omega), h 1 (by omega), h 2 (by omega), h 3 (by omega), h 4 (by omega), h 5 (by omega)]
  simp only [mul_one]
noncomputable def nF (i : Nat) : F2 := (facF i).conj * facF i
def sgn (i : Nat) : F2 := match i % 2 with
  | 0 => 1
  | _ => -1
theorem nF3 : ∀ i, i < 6 → κ2 (nF i * (nF i * nF i)) = κ2 (sgn i) := by decide +kernel
theorem σ6 (z : F12) : σn 6 z = z.conj := by
  show σ (σ (σ (σ (σ (σ z))))) = _
  rw [σσ, σσ, σσ, scF_scF, scF_scF]
  have h : ∀ i, i < 6 → nF i * (nF i * nF i) = sgn i := fun i hi => κ2_inj (nF3 i hi)
  show scF (fun i => nF i * (nF i * nF i)) z = _
  have hb : scF (fun i => nF i * (nF i * nF i)) z = ⟨⟨z.a.a * (nF 0 * (nF 0 * nF 0)), z.a.b * (nF 2 * (nF 2 * nF 2)), z.a.c * (nF 4 * (nF 4 * nF 4))⟩, ⟨z.b.a * (nF 1 * (nF 1 * nF 1)), z.b.b * (nF 3 * (nF 3 * nF 3)), z.b.c * (nF 5 * (nF 5 * nF 5))⟩⟩ := rfl
  rw [hb]
  rw [h 0 (by omega), h 1 (by omega), h 2 (by omega), h 3 (by omega), h 4 (by omega), h 5 (by omega)]
  have s0 : sgn 0 = 1 := rfl
  have s1 : sgn 1 = -1 := rfl
  have s2 : sgn 2 = 1 := rfl
  have s3 : sgn 3 = -1 := rfl
  have s4 : sgn 4 = 1 := rfl
  have s5 : sgn 5 = -1 := rfl
  rw [s0, s1, s2, s3, s4, s5]
  simp only [mul_one, mul_neg]
  rfl
theorem σ12 (z : F12) : σn 12 z = z := by
  rw [show 12 = 6 + 6 from rfl, σn_add, σ6, σ6]
  exact conj_conj' z
theorem σn_mod (n : Nat) (z : F12) : σn n z = σn (n % 12) z := by
  have h : ∀ k m : Nat, σn (12 * k + m) z = σn m z := by
    intro k
    induction k with
    | zero => intro m; rw [Nat.mul_zero, Nat.zero_add]
    | succ k ih => intro m; rw [show 12 * (k + 1) + m = 12 + (12 * k + m) by omega, σn_add, σ12]; exact ih m
  have e : n = 12 * (n / 12) + n % 12 := by omega
  conv => lhs; rw [e]
  exact h _ _
/-- A power of p's power of n, for every whole n. -/
noncomputable def σI (n : Int) (z : F12) : F12 := σn (n % 12).toNat z
theorem σI_nat (n : Nat) (z : F12) : σI n z = σn n z := by
  unfold σI
  rw [σn_mod n]
  congr 1
theorem σI_add (m n : Int) (z : F12) : σI (m + n) z = σI m (σI n z) := by
  unfold σI
  rw [← σn_add, σn_mod ((m % 12).toNat + (n % 12).toNat)]
  congr 1
  omega
end Go.Proofs.YtcidhcielgnfdaaGreat
/-
  Powers of p: the rows of frob.
-/
namespace Go.Proofs.YtcidhcielgnfdaaGreat
open Go Go.Eng Go.RowKit Go.Wd Go.Alg Go.Pr

/-- An integer's slot. -/
def iN (n : Int) : AV := ⟨false, [.v (.int .i64 n)]⟩
theorem val_iN (ρ : Rho) (n : Int) : (iN n).val ρ = some (.int .i64 n) := AV.val_v (ρ := ρ) (x := .int .i64 n) rfl
def tmI (n m : Int) : Int := (IntKind.i64.wrap (n.tmod m + m)).tmod m
theorem tmI_eq {n m : Int} (h0 : 0 < m) (h1 : m < 1000) : tmI n m = n % m := by
  have a1 := Int.emod_nonneg n (show m ≠ 0 by omega)
  have a2 := Int.emod_lt_of_pos n h0
  have hm : m.natAbs = m := by omega
  unfold tmI
  have e1 : n.tmod m = n % m ∨ n.tmod m = n % m - m := by
    rw [Int.tmod_eq_emod]
    split
    · left; omega
    · right; rw [hm]
  rcases e1 with e1 | e1
  · rw [e1, wrap_small (by omega) (by omega), Int.tmod_eq_emod_of_nonneg (by omega), Int.add_emod_right, Int.emod_emod_of_dvd _ (Int.dvd_refl m)]
  · rw [e1]
    have e : n % m - m + m = n % m := by omega
    rw [e, wrap_small (by omega) (by omega), Int.tmod_eq_emod_of_nonneg a1, Int.emod_emod_of_dvd _ (Int.dvd_refl m)]
theorem vals_i2 (n m : Int) : vals rho0 [iN n, iN m] = some [.int .i64 n, .int .i64 m] := by simp only [vals, val_iN]
theorem pureI_of_run {T : CallT} (hT : CallOk Tryz.prog T) {f : FuncId} {args : List AV} {vs : List Value} {hints : List (Nat × Bool)} {r : Int} {ob : List Prop} (h : run1 T f args hints = some (vI .i64 r, ob)) (hob : ∀ p ∈ ob, p)
    (hv : vals rho0 args = some vs) : Pure Tryz.prog f vs (.int .i64 r) := pure_of_run1 hT h hob hv fun ρ u hu => by
  rw [vI_val] at hu
  cases hu; rfl
theorem times2_run (n : Int) : run1 none1 40 [iN n, iN 2] [] = some (vI .i64 (tmI n 2), []) := by kernel_rfl
theorem times6_run (n : Int) : run1 none1 40 [iN n, iN 6] [] = some (vI .i64 (tmI n 6), []) := by kernel_rfl
theorem times12_run (n : Int) : run1 none1 40 [iN n, iN 12] [] = some (vI .i64 (tmI n 12), []) := by kernel_rfl
/-- The row for a remainder that is known: owed that it is so. -/
def timesQ (q : Int → Int → Int) : Row where
  f := 40
  ans := fun
    | [⟨false, [.v (.int .i64 n)]⟩, ⟨false, [.v (.int .i64 m)]⟩] => match m with
      | .ofNat 2 => some (vI .i64 (q n 2), [q n 2 = n % 2])
      | .ofNat 6 => some (vI .i64 (q n 6), [q n 6 = n % 6])
      | .ofNat 12 => some (vI .i64 (q n 12), [q n 12 = n % 12])
      | _ => none
    | _ => none
theorem vals_i2' {ρ : Rho} {n m : Int} {vs : List Value} (h : vals ρ [iN n, iN m] = some vs) : vs = [.int .i64 n, .int .i64 m] := by
  simp only [vals, val_iN, Option.some.injEq] at h
  exact h.symm
theorem timesQ_ok (q : Int → Int → Int) : RowOk Tryz.prog (timesQ q) := by
  intro args s ob ha hob ρ vs hv
  unfold timesQ at ha
  simp only at ha
  split at ha
  · rename_i n m
    rw [vals_i2' (n := n) (m := m) hv]
    split at ha
    · cases ha
      have h := hob _ (List.mem_singleton.2 rfl)
      exact ⟨_, vI_val _ _ _, by rw [h, ← tmI_eq (n := n) (m := 2) (by omega) (by omega)]; exact pureI_of_run none1_ok (times2_run n) (fun _ h => by cases h) (vals_i2 n 2)⟩
    · cases ha
      have h := hob _ (List.mem_singleton.2 rfl)
      exact ⟨_, vI_val _ _ _, by rw [h, ← tmI_eq (n := n) (m := 6) (by omega) (by omega)]; exact pureI_of_run none1_ok (times6_run n) (fun _ h => by cases h) (vals_i2 n 6)⟩
    · cases ha
      have h := hob _ (List.mem_singleton.2 rfl)
      exact ⟨_, vI_val _ _ _, by rw [h, ← tmI_eq (n := n) (m := 12) (by omega) (by omega)]; exact pureI_of_run none1_ok (times12_run n) (fun _ h => by cases h) (vals_i2 n 12)⟩
    · cases ha
  · cases ha

/-! ### step -/
noncomputable def fstN (x : N12) : N12 := κ12 (σ (ι12 x))
def facC (i : Nat) : N2 := match i with
  | 0 => (1, 0)
  | 1 => (0x1904d3bf02bb0667c231beb4202c0d1f0fd603fd3cbd5f4f7b2443d784bab9c4f67ea53d63e7813d8d0775ed92235fb8, 0x00fc3e2b36c4e03288e9e902231f9fb854a14787b6c7b36fec0c8ec971f63c5f282d5ac14d6c7ec22cf78a126ddc4af3)
  | 2 => (0, 0x1a0111ea397fe699ec02408663d4de85aa0d857d89759ad4897d29650fb85f9b409427eb4f49fffd8bfd00000000aaac)
  | 3 => (0x06af0e0437ff400b6831e36d6bd17ffe48395dabc2d3435e77f76e17009241c5ee67992f72ec05f4c81084fbede3cc09, 0x06af0e0437ff400b6831e36d6bd17ffe48395dabc2d3435e77f76e17009241c5ee67992f72ec05f4c81084fbede3cc09)
  | 4 => (0x1a0111ea397fe699ec02408663d4de85aa0d857d89759ad4897d29650fb85f9b409427eb4f49fffd8bfd00000000aaad, 0)
  | _ => (0x05b2cfd9013a5fd8df47fa6b48b1e045f39816240c0b8fee8beadf4d8e9c0566c63a3e6e257f87329b18fae980078116, 0x144e4211384586c16bd3ad4afa99cc9170df3560e77982d0db45f3536814f0bd5871c1908bd478cd1ee605167ff82995)
theorem facC_ok : ∀ i, i < 6 → κ2 (ι2 (facC i)) = κ2 (facF i) := by decide +kernel
noncomputable def TS : CallT := tableT rows06
theorem TS_ok : CallOk Tryz.prog TS := tableT_ok rows06_ok
def pt (x : N2) (i : Nat) : N2 := mul2 (conj2 x) (facC i)
theorem step_run (x : N12) : run1 TS 41 [wN x] [] = some (.one (wN ((pt x.1.1 0, pt x.1.2.1 2, pt x.1.2.2 4), (pt x.2.1 1, pt x.2.2.1 3, pt x.2.2.2 5))), []) := by kernel_rfl
theorem step_pure (x : N12) : Pure Tryz.prog 41 [wv x] (wv (fstN x)) := by
  refine pureN_of_run TS_ok (step_run x) (fun _ h => by cases h) (vals1 x) ?_
  have e : ∀ (y : N2) i, i < 6 → pt y i = κ2 ((ι2 y).conj * facF i) := by
    intro y i hi
    unfold pt mul2 conj2
    rw [ικ2, κ2_inj (facC_ok i hi)]
  rw [e _ 0 (by omega), e _ 1 (by omega), e _ 2 (by omega), e _ 3 (by omega), e _ 4 (by omega), e _ 5 (by omega)]
  rfl

/-! ### frob.Fp12, Fp6, Fp2 -/
noncomputable def itS : Nat → N12 → N12
  | 0, x => x
  | k + 1, x => fstN (itS k x)
theorem ι_itS (k : Nat) (x : N12) : ι12 (itS k x) = σn k (ι12 x) := by
  induction k with
  | zero => rfl
  | succ k ih => show ι12 (fstN (itS k x)) = σ (σn k (ι12 x)); unfold fstN; rw [ικ12, ih]
theorem κ_itS (k : Nat) (x : N12) : itS k (red12 x) = κ12 (σn k (ι12 x)) := by
  induction k with
  | zero => rfl
  | succ k ih => show fstN (itS k (red12 x)) = κ12 (σ (σn k (ι12 x))); rw [ih]; unfold fstN; rw [ικ12]
noncomputable def rowsQ (q : Int → Int → Int) : List Row := timesQ q :: rowN1 41 fstN :: rows06
theorem rowsQ_ok (q : Int → Int → Int) : ∀ r ∈ rowsQ q, RowOk Tryz.prog r := by
  simp only [rowsQ, List.forall_mem_cons]
  exact ⟨timesQ_ok q, rowN1_ok step_pure, rows06_ok⟩
def qk (k : Nat) (_ _ : Int) : Int := (k : Int)
theorem frun0 (x : N12) (n : Int) : run1 (tableT (rowsQ (qk 0))) 17 [wN x, iN n] [] = some (.one (wN (itS 0 (red12 x))), [((0 : Nat) : Int) = n % 12]) := by kernel_rfl
theorem frun1 (x : N12) (n : Int) : run1 (tableT (rowsQ (qk 1))) 17 [wN x, iN n] [] = some (.one (wN (itS 1 (red12 x))), [((1 : Nat) : Int) = n % 12]) := by kernel_rfl
theorem frun2 (x : N12) (n : Int) : run1 (tableT (rowsQ (qk 2))) 17 [wN x, iN n] [] = some (.one (wN (itS 2 (red12 x))), [((2 : Nat) : Int) = n % 12]) := by kernel_rfl
theorem frun3 (x : N12) (n : Int) : run1 (tableT (rowsQ (qk 3))) 17 [wN x, iN n] [] = some (.one (wN (itS 3 (red12 x))), [((3 : Nat) : Int) = n % 12]) := by kernel_rfl
theorem frun4 (x : N12) (n : Int) : run1 (tableT (rowsQ (qk 4))) 17 [wN x, iN n] [] = some (.one (wN (itS 4 (red12 x))), [((4 : Nat) : Int) = n % 12]) := by kernel_rfl
theorem frun5 (x : N12) (n : Int) : run1 (tableT (rowsQ (qk 5))) 17 [wN x, iN n] [] = some (.one (wN (itS 5 (red12 x))), [((5 : Nat) : Int) = n % 12]) := by kernel_rfl
theorem frun6 (x : N12) (n : Int) : run1 (tableT (rowsQ (qk 6))) 17 [wN x, iN n] [] = some (.one (wN (itS 6 (red12 x))), [((6 : Nat) : Int) = n % 12]) := by kernel_rfl
theorem frun7 (x : N12) (n : Int) : run1 (tableT (rowsQ (qk 7))) 17 [wN x, iN n] [] = some (.one (wN (itS 7 (red12 x))), [((7 : Nat) : Int) = n % 12]) := by kernel_rfl
theorem frun8 (x : N12) (n : Int) : run1 (tableT (rowsQ (qk 8))) 17 [wN x, iN n] [] = some (.one (wN (itS 8 (red12 x))), [((8 : Nat) : Int) = n % 12]) := by kernel_rfl
theorem frun9 (x : N12) (n : Int) : run1 (tableT (rowsQ (qk 9))) 17 [wN x, iN n] [] = some (.one (wN (itS 9 (red12 x))), [((9 : Nat) : Int) = n % 12]) := by kernel_rfl
theorem frun10 (x : N12) (n : Int) : run1 (tableT (rowsQ (qk 10))) 17 [wN x, iN n] [] = some (.one (wN (itS 10 (red12 x))), [((10 : Nat) : Int) = n % 12]) := by kernel_rfl
theorem frun11 (x : N12) (n : Int) : run1 (tableT (rowsQ (qk 11))) 17 [wN x, iN n] [] = some (.one (wN (itS 11 (red12 x))), [((11 : Nat) : Int) = n % 12]) := by kernel_rfl
theorem frob12_run (x : N12) (n : Int) : ∀ k, k < 12 → run1 (tableT (rowsQ (qk k))) 17 [wN x, iN n] [] = some (.one (wN (itS k (red12 x))), [(k : Int) = n % 12])
  | 0, _ => frun0 x n
  | 1, _ => frun1 x n
  | 2, _ => frun2 x n
  | 3, _ => frun3 x n
  | 4, _ => frun4 x n
  | 5, _ => frun5 x n
  | 6, _ => frun6 x n
  | 7, _ => frun7 x n
  | 8, _ => frun8 x n
  | 9, _ => frun9 x n
  | 10, _ => frun10 x n
  | 11, _ => frun11 x n
noncomputable def fr12 (x : N12) (n : Int) : N12 := κ12 (σI n (ι12 x))
theorem vals_Ni {A : Type} [Nm A] (a : A) (n : Int) : vals rho0 [wN a, iN n] = some [wv a, .int .i64 n] := by simp only [vals, val_wN, val_iN]
theorem frob12_pure (x : N12) (n : Int) : Pure Tryz.prog 17 [wv x, .int .i64 n] (wv (fr12 x n)) := by
  have h1 := Int.emod_nonneg n (show (12 : Int) ≠ 0 by omega)
  have h2 := Int.emod_lt_of_pos n (show (0 : Int) < 12 by omega)
  have hk : (((n % 12).toNat : Nat) : Int) = n % 12 := Int.toNat_of_nonneg h1
  refine pureN_of_run (tableT_ok (rowsQ_ok _)) (frob12_run x n (n % 12).toNat (by omega)) ?_ (vals_Ni x n) ?_
  · intro p hp
    rw [List.mem_singleton] at hp
    subst hp; exact hk
  · rw [κ_itS]; rfl
/-- A row that takes an integer besides. -/
def rowNI {A B : Type} [Nm A] [Nm B] (f : FuncId) (g : A → Int → B) : Row where
  f := f
  ans := fun
    | [x, ⟨false, [.v (.int .i64 n)]⟩] => match asN A x with
      | some a => some (.one (wN (g a n)), [])
      | none => none
    | _ => none
theorem rowNI_ok {A B : Type} [Nm A] [Nm B] {f : FuncId} {g : A → Int → B} (h : ∀ a n, Pure Tryz.prog f [wv a, .int .i64 n] (wv (g a n))) : RowOk Tryz.prog (rowNI f g) := by
  intro args s ob ha hob ρ vs hv
  unfold rowNI at ha
  simp only at ha
  split at ha
  · rename_i x n
    split at ha
    · rename_i a hn
      cases ha
      obtain ⟨v1, us, h1, h2, rfl⟩ := vals_cons hv
      obtain ⟨v2, us', h3, h4, rfl⟩ := vals_cons h2
      cases h4
      have e : AV.val ρ (iN n) = some v2 := h3
      rw [val_iN] at e
      cases e
      rw [asN_ok hn h1]
      exact ⟨_, val_wN _ _, h a n⟩
    · cases ha
  · cases ha
def qm (n m : Int) : Int := n % m
noncomputable def rowsR : List Row := rowNI 17 fr12 :: timesQ qm :: rows06
theorem rowsR_ok : ∀ r ∈ rowsR, RowOk Tryz.prog r := by
  simp only [rowsR, List.forall_mem_cons]
  exact ⟨rowNI_ok frob12_pure, timesQ_ok qm, rows06_ok⟩
def z6 : N6 := ((0, 0), (0, 0), (0, 0))
/-- A number without w. -/
def up6 (z : F6) : F12 := ⟨z, 0⟩
theorem ι_z6 : ι6 z6 = 0 := κ6_inj (by decide +kernel)
theorem ι_up6 (x : N6) : ι12 (x, z6) = up6 (ι6 x) := Quad.ext' rfl ι_z6
noncomputable def fr6 (x : N6) (n : Int) : N6 := κ6 (σI (n % 6) (up6 (ι6 x))).a
def fr2 (x : N2) (n : Int) : N2 := κ2 (if n % 2 = 1 then (ι2 x).conj else ι2 x)
noncomputable def rowsFr : List Row :=
  rowNI 17 fr12 :: timesQ qm :: rows06
theorem rowsFr_ok : ∀ r ∈ rowsFr, RowOk Tryz.prog r := by
  unfold rowsFr
  simp only [List.forall_mem_cons]
  exact ⟨rowNI_ok frob12_pure, timesQ_ok qm, rows06_ok⟩
end Go.Proofs.YtcidhcielgnfdaaGreat
