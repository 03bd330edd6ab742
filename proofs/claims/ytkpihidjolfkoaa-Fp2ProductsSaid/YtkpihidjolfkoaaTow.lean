/-
  Rings with a square root, rings with a cube root; inverses.
-/
import Derived.Test.YtkpihidjolfkoaaNf
namespace Go.Alg

/-- a + b u, with u u = c. -/
structure Quad (R : Type) (c : R) where
  a : R
  b : R
theorem Quad.ext' {R : Type} {c : R} {x y : Quad R c} (h1 : x.a = y.a) (h2 : x.b = y.b) : x = y := by
  cases x; cases y; cases h1; cases h2; rfl
instance (priority := low) {R : Type} [Ops R] {c : R} : Ops (Quad R c) where
  zero := ⟨0, 0⟩
  one := ⟨1, 0⟩
  add x y := ⟨x.a + y.a, x.b + y.b⟩
  mul x y := ⟨x.a * y.a + c * (x.b * y.b), x.a * y.b + x.b * y.a⟩
  neg x := ⟨-x.a, -x.b⟩
/-- a + b v + c v v, with v v v = k. -/
structure Cub (R : Type) (k : R) where
  a : R
  b : R
  c : R
theorem Cub.ext' {R : Type} {k : R} {x y : Cub R k} (h1 : x.a = y.a) (h2 : x.b = y.b) (h3 : x.c = y.c) : x = y := by
  cases x; cases y; cases h1; cases h2; cases h3; rfl
instance (priority := low) {R : Type} [Ops R] {k : R} : Ops (Cub R k) where
  zero := ⟨0, 0, 0⟩
  one := ⟨1, 0, 0⟩
  add x y := ⟨x.a + y.a, x.b + y.b, x.c + y.c⟩
  mul x y := ⟨x.a * y.a + k * (x.b * y.c + x.c * y.b), x.a * y.b + x.b * y.a + k * (x.c * y.c), x.a * y.c + x.b * y.b + x.c * y.a⟩
  neg x := ⟨-x.a, -x.b, -x.c⟩
abbrev q (i j k : Nat) : Quad Ex (.v k) := ⟨.v i, .v j⟩
abbrev t (i j l k : Nat) : Cub Ex (.v k) := ⟨.v i, .v j, .v l⟩
instance {R : Type} [CRing R] {c : R} : CRing (Quad R c) where
  add_comm x y := Quad.ext' (add_comm x.a y.a) (add_comm x.b y.b)
  add_assoc x y z := Quad.ext' (add_assoc x.a y.a z.a) (add_assoc x.b y.b z.b)
  add_zero x := Quad.ext' (add_zero x.a) (add_zero x.b)
  add_neg x := Quad.ext' (add_neg x.a) (add_neg x.b)
  mul_comm x y := Quad.ext'
    (ident (env [x.a, x.b, y.a, y.b, c]) (q 0 1 4 * q 2 3 4).a (q 2 3 4 * q 0 1 4).a (by decide +kernel))
    (ident (env [x.a, x.b, y.a, y.b, c]) (q 0 1 4 * q 2 3 4).b (q 2 3 4 * q 0 1 4).b (by decide +kernel))
  mul_assoc x y z := Quad.ext'
    (ident (env [x.a, x.b, y.a, y.b, z.a, z.b, c]) (q 0 1 6 * q 2 3 6 * q 4 5 6).a (q 0 1 6 * (q 2 3 6 * q 4 5 6)).a (by decide +kernel))
    (ident (env [x.a, x.b, y.a, y.b, z.a, z.b, c]) (q 0 1 6 * q 2 3 6 * q 4 5 6).b (q 0 1 6 * (q 2 3 6 * q 4 5 6)).b (by decide +kernel))
  mul_one x := Quad.ext'
    (ident (env [x.a, x.b, c]) (q 0 1 2 * 1).a (.v 0) (by decide +kernel))
    (ident (env [x.a, x.b, c]) (q 0 1 2 * 1).b (.v 1) (by decide +kernel))
  mul_add x y z := Quad.ext'
    (ident (env [x.a, x.b, y.a, y.b, z.a, z.b, c]) (q 0 1 6 * (q 2 3 6 + q 4 5 6)).a (q 0 1 6 * q 2 3 6 + q 0 1 6 * q 4 5 6).a (by decide +kernel))
    (ident (env [x.a, x.b, y.a, y.b, z.a, z.b, c]) (q 0 1 6 * (q 2 3 6 + q 4 5 6)).b (q 0 1 6 * q 2 3 6 + q 0 1 6 * q 4 5 6).b (by decide +kernel))
instance {R : Type} [CRing R] {k : R} : CRing (Cub R k) where
  add_comm x y := Cub.ext' (add_comm x.a y.a) (add_comm x.b y.b) (add_comm x.c y.c)
  add_assoc x y z := Cub.ext' (add_assoc x.a y.a z.a) (add_assoc x.b y.b z.b) (add_assoc x.c y.c z.c)
  add_zero x := Cub.ext' (add_zero x.a) (add_zero x.b) (add_zero x.c)
  add_neg x := Cub.ext' (add_neg x.a) (add_neg x.b) (add_neg x.c)
  mul_comm x y := Cub.ext'
    (ident (env [x.a, x.b, x.c, y.a, y.b, y.c, k]) (t 0 1 2 6 * t 3 4 5 6).a (t 3 4 5 6 * t 0 1 2 6).a (by decide +kernel))
    (ident (env [x.a, x.b, x.c, y.a, y.b, y.c, k]) (t 0 1 2 6 * t 3 4 5 6).b (t 3 4 5 6 * t 0 1 2 6).b (by decide +kernel))
    (ident (env [x.a, x.b, x.c, y.a, y.b, y.c, k]) (t 0 1 2 6 * t 3 4 5 6).c (t 3 4 5 6 * t 0 1 2 6).c (by decide +kernel))
  mul_assoc x y z := Cub.ext'
    (ident (env [x.a, x.b, x.c, y.a, y.b, y.c, z.a, z.b, z.c, k]) (t 0 1 2 9 * t 3 4 5 9 * t 6 7 8 9).a (t 0 1 2 9 * (t 3 4 5 9 * t 6 7 8 9)).a (by decide +kernel))
    (ident (env [x.a, x.b, x.c, y.a, y.b, y.c, z.a, z.b, z.c, k]) (t 0 1 2 9 * t 3 4 5 9 * t 6 7 8 9).b (t 0 1 2 9 * (t 3 4 5 9 * t 6 7 8 9)).b (by decide +kernel))
    (ident (env [x.a, x.b, x.c, y.a, y.b, y.c, z.a, z.b, z.c, k]) (t 0 1 2 9 * t 3 4 5 9 * t 6 7 8 9).c (t 0 1 2 9 * (t 3 4 5 9 * t 6 7 8 9)).c (by decide +kernel))
  mul_one x := Cub.ext'
    (ident (env [x.a, x.b, x.c, k]) (t 0 1 2 3 * 1).a (.v 0) (by decide +kernel))
    (ident (env [x.a, x.b, x.c, k]) (t 0 1 2 3 * 1).b (.v 1) (by decide +kernel))
    (ident (env [x.a, x.b, x.c, k]) (t 0 1 2 3 * 1).c (.v 2) (by decide +kernel))
  mul_add x y z := Cub.ext'
    (ident (env [x.a, x.b, x.c, y.a, y.b, y.c, z.a, z.b, z.c, k]) (t 0 1 2 9 * (t 3 4 5 9 + t 6 7 8 9)).a (t 0 1 2 9 * t 3 4 5 9 + t 0 1 2 9 * t 6 7 8 9).a (by decide +kernel))
    (ident (env [x.a, x.b, x.c, y.a, y.b, y.c, z.a, z.b, z.c, k]) (t 0 1 2 9 * (t 3 4 5 9 + t 6 7 8 9)).b (t 0 1 2 9 * t 3 4 5 9 + t 0 1 2 9 * t 6 7 8 9).b (by decide +kernel))
    (ident (env [x.a, x.b, x.c, y.a, y.b, y.c, z.a, z.b, z.c, k]) (t 0 1 2 9 * (t 3 4 5 9 + t 6 7 8 9)).c (t 0 1 2 9 * t 3 4 5 9 + t 0 1 2 9 * t 6 7 8 9).c (by decide +kernel))

/-! ### inverses -/
section
variable {R : Type} [CRing R]
open Classical in
/-- An inverse, where there is one; else 0. -/
noncomputable def inv (a : R) : R := if h : ∃ b, a * b = 1 then h.choose else 0
theorem inv_unique {a b c : R} (h1 : a * b = 1) (h2 : a * c = 1) : b = c := by
  rw [← mul_one b, ← h2, ← mul_assoc, mul_comm b a, h1, one_mul]
theorem inv_eq {a b : R} (h : a * b = 1) : inv a = b := by
  unfold inv
  have hx : ∃ b, a * b = 1 := ⟨b, h⟩
  rw [dif_pos hx]
  exact inv_unique hx.choose_spec h
theorem inv_zero_of {a : R} (h : ¬ ∃ b, a * b = 1) : inv a = 0 := by unfold inv; rw [dif_neg h]
theorem mul_inv_of {a : R} (h : ∃ b, a * b = 1) : a * inv a = 1 := by
  obtain ⟨b, hb⟩ := h
  rw [inv_eq hb]; exact hb
/-- 0 and 1 part, and all but 0 has an inverse. -/
class IsField (R : Type) [CRing R] : Prop where
  ne : (1 : R) ≠ 0
  ex : ∀ a : R, a ≠ 0 → ∃ b, a * b = 1
variable [IsField R]
theorem one_ne_zero : (1 : R) ≠ 0 := IsField.ne
theorem mul_inv {a : R} (h : a ≠ 0) : a * inv a = 1 := mul_inv_of (IsField.ex a h)
theorem inv_zero : inv (0 : R) = 0 := inv_zero_of fun ⟨b, hb⟩ => one_ne_zero (R := R) (by rw [← hb, zero_mul])
theorem inv_ne_zero {a : R} (h : a ≠ 0) : inv a ≠ 0 := fun e => one_ne_zero (R := R) (by rw [← mul_inv h, e, mul_zero])
theorem inv_inv (a : R) : inv (inv a) = a := by
  by_cases h : a = 0
  · rw [h, inv_zero, inv_zero]
  · exact inv_eq (by rw [mul_comm]; exact mul_inv h)
theorem mul_eq_zero {a b : R} : a * b = 0 ↔ a = 0 ∨ b = 0 := by
  constructor
  · intro h
    by_cases ha : a = 0
    · exact .inl ha
    · refine .inr ?_
      have : inv a * (a * b) = 0 := by rw [h, mul_zero]
      rwa [← mul_assoc, mul_comm (inv a), mul_inv ha, one_mul] at this
  · rintro (rfl | rfl)
    · exact zero_mul b
    · exact mul_zero a
theorem mul_ne_zero {a b : R} (ha : a ≠ 0) (hb : b ≠ 0) : a * b ≠ 0 := fun h => by rcases mul_eq_zero.1 h with h | h <;> contradiction
theorem inv_mul (a b : R) : inv (a * b) = inv a * inv b := by
  by_cases ha : a = 0
  · rw [ha, zero_mul, inv_zero, zero_mul]
  by_cases hb : b = 0
  · rw [hb, mul_zero, inv_zero, mul_zero]
  refine inv_eq ?_
  rw [mul_assoc, mul_left_comm b, ← mul_assoc, mul_inv ha, mul_inv hb, mul_one]
theorem mul_cancel {a b c : R} (ha : a ≠ 0) (h : a * b = a * c) : b = c := by
  have : inv a * (a * b) = inv a * (a * c) := by rw [h]
  rwa [← mul_assoc, ← mul_assoc, mul_comm (inv a), mul_inv ha, one_mul, one_mul] at this
end
end Go.Alg
