/-
  Rings that commute, and a check of their identities by numbers.
-/
namespace Go.Alg

/-- The operations alone. -/
class Ops (R : Type) where
  zero : R
  one : R
  add : R → R → R
  mul : R → R → R
  neg : R → R
instance (priority := low) {R : Type} [Ops R] : Add R := ⟨Ops.add⟩
instance (priority := low) {R : Type} [Ops R] : Mul R := ⟨Ops.mul⟩
instance (priority := low) {R : Type} [Ops R] : Neg R := ⟨Ops.neg⟩
instance (priority := low) {R : Type} [Ops R] : Sub R := ⟨fun a b => Ops.add a (Ops.neg b)⟩
instance (priority := low) {R : Type} [Ops R] : OfNat R 0 := ⟨Ops.zero⟩
instance (priority := low) {R : Type} [Ops R] : OfNat R 1 := ⟨Ops.one⟩
/-- A commutative ring. -/
class CRing (R : Type) extends Ops R where
  add_comm : ∀ a b : R, a + b = b + a
  add_assoc : ∀ a b c : R, a + b + c = a + (b + c)
  add_zero : ∀ a : R, a + 0 = a
  add_neg : ∀ a : R, a + -a = 0
  mul_comm : ∀ a b : R, a * b = b * a
  mul_assoc : ∀ a b c : R, a * b * c = a * (b * c)
  mul_one : ∀ a : R, a * 1 = a
  mul_add : ∀ a b c : R, a * (b + c) = a * b + a * c

section basics
variable {R : Type} [CRing R]
theorem add_comm (a b : R) : a + b = b + a := CRing.add_comm a b
theorem add_assoc (a b c : R) : a + b + c = a + (b + c) := CRing.add_assoc a b c
theorem add_zero (a : R) : a + 0 = a := CRing.add_zero a
theorem zero_add (a : R) : 0 + a = a := by rw [add_comm, add_zero]
theorem add_neg (a : R) : a + -a = 0 := CRing.add_neg a
theorem neg_add (a : R) : -a + a = 0 := by rw [add_comm, add_neg]
theorem mul_comm (a b : R) : a * b = b * a := CRing.mul_comm a b
theorem mul_assoc (a b c : R) : a * b * c = a * (b * c) := CRing.mul_assoc a b c
theorem mul_one (a : R) : a * 1 = a := CRing.mul_one a
theorem one_mul (a : R) : 1 * a = a := by rw [mul_comm, mul_one]
theorem mul_add (a b c : R) : a * (b + c) = a * b + a * c := CRing.mul_add a b c
theorem add_mul (a b c : R) : (a + b) * c = a * c + b * c := by rw [mul_comm, mul_add, mul_comm c, mul_comm c]
theorem add_left_comm (a b c : R) : a + (b + c) = b + (a + c) := by rw [← add_assoc, add_comm a b, add_assoc]
theorem mul_left_comm (a b c : R) : a * (b * c) = b * (a * c) := by rw [← mul_assoc, mul_comm a b, mul_assoc]
theorem add_left_cancel {a b c : R} (h : a + b = a + c) : b = c := by
  have : -a + (a + b) = -a + (a + c) := by rw [h]
  rwa [← add_assoc, ← add_assoc, neg_add, zero_add, zero_add] at this
theorem mul_zero (a : R) : a * 0 = 0 := by
  have : a * 0 + a * 0 = a * 0 + 0 := by rw [← mul_add, add_zero, add_zero]
  exact add_left_cancel this
theorem zero_mul (a : R) : 0 * a = 0 := by rw [mul_comm, mul_zero]
theorem neg_unique {a b : R} (h : a + b = 0) : b = -a := add_left_cancel (h.trans (add_neg a).symm)
theorem neg_neg (a : R) : - -a = a := (neg_unique (neg_add a)).symm
theorem neg_zero : -(0 : R) = 0 := (neg_unique (add_zero 0)).symm
theorem neg_mul (a b : R) : -a * b = -(a * b) := neg_unique (by rw [← add_mul, add_neg, zero_mul])
theorem mul_neg (a b : R) : a * -b = -(a * b) := by rw [mul_comm, neg_mul, mul_comm]
theorem neg_add_rev (a b : R) : -(a + b) = -a + -b := (neg_unique (by rw [add_assoc, add_left_comm b, ← add_assoc, add_neg, zero_add, add_neg])).symm
theorem sub_def (a b : R) : a - b = a + -b := rfl
theorem sub_self (a : R) : a - a = 0 := add_neg a
theorem sub_eq_zero {a b : R} : a - b = 0 ↔ a = b := by
  constructor
  · intro h
    have : a + -b = 0 := h
    have h2 := neg_unique (a := -b) (b := a) (by rw [add_comm]; exact this)
    rw [h2, neg_neg]
  · intro h; rw [h]; exact sub_self b
end basics
end Go.Alg
