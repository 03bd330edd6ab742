/-
  Where there is no square root, or no cube root, the larger ring is a field.
-/
import Derived.Test.YtkpihidjolfkoaaTow
namespace Go.Alg
abbrev x0 : Ex := .v 0
abbrev x1 : Ex := .v 1
abbrev x2 : Ex := .v 2
abbrev x3 : Ex := .v 3
abbrev x4 : Ex := .v 4
abbrev x5 : Ex := .v 5
abbrev x6 : Ex := .v 6
abbrev x7 : Ex := .v 7
abbrev x8 : Ex := .v 8
abbrev x9 : Ex := .v 9
section
variable {R : Type} [CRing R] {c k : R}
def Quad.conj (x : Quad R c) : Quad R c := ⟨x.a, -x.b⟩
def Quad.norm (x : Quad R c) : R := x.a * x.a - c * (x.b * x.b)
theorem Quad.mul_conj (x : Quad R c) : x * x.conj = ⟨x.norm, 0⟩ := Quad.ext'
  (ident (env [x.a, x.b, c]) (x0 * x0 + x2 * (x1 * -x1)) (x0 * x0 - x2 * (x1 * x1)) (by decide +kernel))
  (ident (env [x.a, x.b, c]) (x0 * -x1 + x1 * x0) 0 (by decide +kernel))
def Cub.cof (x : Cub R k) : Cub R k := ⟨x.a * x.a - k * (x.b * x.c), k * (x.c * x.c) - x.a * x.b, x.b * x.b - x.a * x.c⟩
def Cub.norm (x : Cub R k) : R := x.a * x.cof.a + k * (x.c * x.cof.b + x.b * x.cof.c)
theorem Cub.mul_cof (x : Cub R k) : x * x.cof = ⟨x.norm, 0, 0⟩ := Cub.ext'
  (ident (env [x.a, x.b, x.c, k]) (x0 * (x0 * x0 - x3 * (x1 * x2)) + x3 * (x1 * (x1 * x1 - x0 * x2) + x2 * (x3 * (x2 * x2) - x0 * x1))) (x0 * (x0 * x0 - x3 * (x1 * x2)) + x3 * (x2 * (x3 * (x2 * x2) - x0 * x1) + x1 * (x1 * x1 - x0 * x2))) (by decide +kernel))
  (ident (env [x.a, x.b, x.c, k]) (x0 * (x3 * (x2 * x2) - x0 * x1) + x1 * (x0 * x0 - x3 * (x1 * x2)) + x3 * (x2 * (x1 * x1 - x0 * x2))) 0 (by decide +kernel))
  (ident (env [x.a, x.b, x.c, k]) (x0 * (x1 * x1 - x0 * x2) + x1 * (x3 * (x2 * x2) - x0 * x1) + x2 * (x0 * x0 - x3 * (x1 * x2))) 0 (by decide +kernel))
theorem Quad.coe_mul (s t : R) : (⟨s, 0⟩ : Quad R c) * ⟨t, 0⟩ = ⟨s * t, 0⟩ := Quad.ext'
  (ident (env [s, t, c]) (x0 * x1 + x2 * (0 * 0)) (x0 * x1) (by decide +kernel)) (ident (env [s, t, c]) (x0 * 0 + 0 * x1) 0 (by decide +kernel))
theorem Cub.coe_mul (s t : R) : (⟨s, 0, 0⟩ : Cub R k) * ⟨t, 0, 0⟩ = ⟨s * t, 0, 0⟩ := Cub.ext'
  (ident (env [s, t, k]) (x0 * x1 + x2 * (0 * 0 + 0 * 0)) (x0 * x1) (by decide +kernel)) (ident (env [s, t, k]) (x0 * 0 + 0 * x1 + x2 * (0 * 0)) 0 (by decide +kernel)) (ident (env [s, t, k]) (x0 * 0 + 0 * 0 + 0 * x1) 0 (by decide +kernel))
variable [IsField R]
theorem sq_eq_zero {a : R} (h : a * a = 0) : a = 0 := by rcases mul_eq_zero.1 h with h | h <;> exact h
theorem Quad.norm_ne (h : ∀ t : R, t * t ≠ c) {x : Quad R c} (hx : x ≠ 0) : x.norm ≠ 0 := by
  intro h0
  by_cases hb : x.b = 0
  · refine hx (Quad.ext' ?_ hb)
    unfold norm at h0
    rw [hb, mul_zero, mul_zero, sub_def, neg_zero, add_zero] at h0
    exact sq_eq_zero h0
  · have h1 : x.a * x.a = c * (x.b * x.b) := sub_eq_zero.1 h0
    refine h (x.a * inv x.b) ?_
    have e : x.a * inv x.b * (x.a * inv x.b) = x.a * x.a * (inv x.b * inv x.b) := ident (env [x.a, inv x.b]) (x0 * x1 * (x0 * x1)) (x0 * x0 * (x1 * x1)) (by decide +kernel)
    have e2 : c * (x.b * x.b) * (inv x.b * inv x.b) = c * ((x.b * inv x.b) * (x.b * inv x.b)) := ident (env [c, x.b, inv x.b]) (x0 * (x1 * x1) * (x2 * x2)) (x0 * ((x1 * x2) * (x1 * x2))) (by decide +kernel)
    rw [e, h1, e2, mul_inv hb, mul_one, mul_one]
/-- The inverse: the conjugate through the norm. -/
theorem Quad.inv_ex (h : ∀ t : R, t * t ≠ c) {x : Quad R c} (hx : x ≠ 0) : x * (x.conj * ⟨inv x.norm, 0⟩) = 1 := by
  rw [← mul_assoc, mul_conj, coe_mul, mul_inv (norm_ne h hx)]; rfl
theorem quad_field (h : ∀ t : R, t * t ≠ c) : IsField (Quad R c) where
  ne e := one_ne_zero (R := R) (congrArg Quad.a e)
  ex _ hx := ⟨_, Quad.inv_ex h hx⟩
theorem Quad.inv_eq' (h : ∀ t : R, t * t ≠ c) (x : Quad R c) : inv x = x.conj * ⟨inv x.norm, 0⟩ := by
  haveI := quad_field h
  by_cases hx : x = 0
  · subst hx
    rw [inv_zero]
    have : (0 : Quad R c).conj = 0 := Quad.ext' rfl neg_zero
    rw [this, zero_mul]
  · exact inv_eq (inv_ex h hx)
theorem Cub.norm_ne (h : ∀ t : R, t * t * t ≠ k) {x : Cub R k} (hx : x ≠ 0) : x.norm ≠ 0 := by
  intro h0
  have hk : k ≠ 0 := fun e => h 0 (by rw [e, mul_zero])
  have root : ∀ s t : R, t ≠ 0 → s * s * s = k * (t * t * t) → False := by
    intro s t ht e
    refine h (s * inv t) ?_
    have e1 : s * inv t * (s * inv t) * (s * inv t) = s * s * s * (inv t * inv t * inv t) := ident (env [s, inv t]) (x0 * x1 * (x0 * x1) * (x0 * x1)) (x0 * x0 * x0 * (x1 * x1 * x1)) (by decide +kernel)
    have e2 : k * (t * t * t) * (inv t * inv t * inv t) = k * ((t * inv t) * (t * inv t) * (t * inv t)) := ident (env [k, t, inv t]) (x0 * (x1 * x1 * x1) * (x2 * x2 * x2)) (x0 * ((x1 * x2) * (x1 * x2) * (x1 * x2))) (by decide +kernel)
    rw [e1, e, e2, mul_inv ht, mul_one, mul_one, mul_one]
  have e0 : k * (x.cof.c * x.cof.c * x.cof.c) - x.cof.b * x.cof.b * x.cof.b = x.norm * (x.b * x.b * x.b - k * (x.c * x.c * x.c)) :=
    ident (env [x.a, x.b, x.c, k]) (x3 * ((x1 * x1 - x0 * x2) * (x1 * x1 - x0 * x2) * (x1 * x1 - x0 * x2)) - (x3 * (x2 * x2) - x0 * x1) * (x3 * (x2 * x2) - x0 * x1) * (x3 * (x2 * x2) - x0 * x1))
      ((x0 * (x0 * x0 - x3 * (x1 * x2)) + x3 * (x2 * (x3 * (x2 * x2) - x0 * x1) + x1 * (x1 * x1 - x0 * x2))) * (x1 * x1 * x1 - x3 * (x2 * x2 * x2))) (by decide +kernel)
  rw [h0, zero_mul] at e0
  have hC : x.cof.c = 0 := by
    refine Classical.byContradiction fun hn => root x.cof.b x.cof.c hn (sub_eq_zero.1 e0).symm
  have hB : x.cof.b = 0 := by
    rw [hC, mul_zero, mul_zero] at e0
    have : x.cof.b * x.cof.b * x.cof.b = 0 := (sub_eq_zero.1 e0).symm
    rcases mul_eq_zero.1 this with h | h
    · exact sq_eq_zero h
    · exact h
  have hA : x.a * x.cof.a = 0 := by
    unfold norm at h0
    rw [hB, hC, mul_zero, mul_zero, add_zero, mul_zero, add_zero] at h0
    exact h0
  have h1 : k * (x.c * x.c) = x.a * x.b := sub_eq_zero.1 hB
  have h2 : x.b * x.b = x.a * x.c := sub_eq_zero.1 hC
  have fin : x.c = 0 → x.b = 0 → x.a = 0 → False := fun hc hb ha => hx (Cub.ext' ha hb hc)
  rcases mul_eq_zero.1 hA with ha | ha
  · have hb : x.b = 0 := sq_eq_zero (by rw [h2, ha, zero_mul])
    have hc : x.c = 0 := sq_eq_zero (by
      have : k * (x.c * x.c) = 0 := by rw [h1, ha, zero_mul]
      exact (mul_eq_zero.1 this).resolve_left hk)
    exact fin hc hb ha
  · have h3 : x.a * x.a = k * (x.b * x.c) := sub_eq_zero.1 ha
    by_cases hc : x.c = 0
    · have hb : x.b = 0 := sq_eq_zero (by rw [h2, hc, mul_zero])
      have hA' : x.a = 0 := sq_eq_zero (by rw [h3, hc, mul_zero, mul_zero])
      exact fin hc hb hA'
    · refine root x.b x.c hc ?_
      have e1 : k * (x.c * x.c * x.c) = k * (x.c * x.c) * x.c := ident (env [k, x.c]) (x0 * (x1 * x1 * x1)) (x0 * (x1 * x1) * x1) (by decide +kernel)
      have e2 : x.a * x.b * x.c = x.a * x.c * x.b := ident (env [x.a, x.b, x.c]) (x0 * x1 * x2) (x0 * x2 * x1) (by decide +kernel)
      rw [e1, h1, e2, ← h2]
theorem Cub.inv_ex (h : ∀ t : R, t * t * t ≠ k) {x : Cub R k} (hx : x ≠ 0) : x * (x.cof * ⟨inv x.norm, 0, 0⟩) = 1 := by
  rw [← mul_assoc, mul_cof, coe_mul, mul_inv (norm_ne h hx)]; rfl
theorem cub_field (h : ∀ t : R, t * t * t ≠ k) : IsField (Cub R k) where
  ne e := one_ne_zero (R := R) (congrArg Cub.a e)
  ex _ hx := ⟨_, Cub.inv_ex h hx⟩
theorem Cub.inv_eq' (h : ∀ t : R, t * t * t ≠ k) (x : Cub R k) : inv x = x.cof * ⟨inv x.norm, 0, 0⟩ := by
  haveI := cub_field h
  by_cases hx : x = 0
  · subst hx
    rw [inv_zero]
    have z1 : (0 : R) * 0 - k * (0 * 0) = 0 := ident (env [k]) (0 * 0 - x0 * (0 * 0)) 0 (by decide +kernel)
    have z2 : k * (0 * 0) - (0 : R) * 0 = 0 := ident (env [k]) (x0 * (0 * 0) - 0 * 0) 0 (by decide +kernel)
    have z3 : (0 : R) * 0 - 0 * 0 = 0 := ident (env [k]) (0 * 0 - 0 * 0) 0 (by decide +kernel)
    have : (0 : Cub R k).cof = 0 := Cub.ext' z1 z2 z3
    rw [this, zero_mul]
  · exact inv_eq (inv_ex h hx)
end
end Go.Alg
