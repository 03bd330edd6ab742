/-
  Numbers modulo n.
-/
import Derived.Test.YtkpihidjolfkoaaNf
namespace Go.Alg
/-- A number below n. -/
structure Z (n : Nat) where
  val : Nat
  lt : val < n
theorem Z.ext {n : Nat} {a b : Z n} (h : a.val = b.val) : a = b := by
  cases a; cases b; cases h; rfl
class Pos (n : Nat) : Prop where
  pos : 0 < n
def Z.of (n : Nat) [Pos n] (k : Nat) : Z n := ⟨k % n, Nat.mod_lt _ Pos.pos⟩
instance (priority := low) {n : Nat} [Pos n] : Ops (Z n) where
  zero := Z.of n 0
  one := Z.of n 1
  add a b := Z.of n (a.val + b.val)
  mul a b := Z.of n (a.val * b.val)
  neg a := Z.of n (n - a.val)
theorem Z.of_val {n : Nat} [Pos n] (a : Z n) : Z.of n a.val = a := Z.ext (Nat.mod_eq_of_lt a.lt)
theorem Z.of_eq {n : Nat} [Pos n] {a b : Nat} : Z.of n a = Z.of n b ↔ a % n = b % n := ⟨fun h => congrArg Z.val h, fun h => Z.ext h⟩
theorem Z.of_add {n : Nat} [Pos n] (a b : Nat) : Z.of n (a + b) = Z.of n a + Z.of n b := Z.ext (Nat.add_mod a b n)
theorem Z.of_mul {n : Nat} [Pos n] (a b : Nat) : Z.of n (a * b) = Z.of n a * Z.of n b := Z.ext (Nat.mul_mod a b n)
theorem Z.of_n {n : Nat} [Pos n] : Z.of n n = 0 := Z.ext (by show n % n = 0 % n; rw [Nat.mod_self, Nat.zero_mod])
theorem Z.neg_def {n : Nat} [Pos n] (a : Z n) : -a = Z.of n (n - a.val) := rfl
instance {n : Nat} [Pos n] : CRing (Z n) where
  add_comm a b := Z.ext (by show (a.val + b.val) % n = (b.val + a.val) % n; rw [Nat.add_comm])
  add_assoc a b c := by rw [← Z.of_val a, ← Z.of_val b, ← Z.of_val c, ← Z.of_add, ← Z.of_add, ← Z.of_add, ← Z.of_add, Nat.add_assoc]
  add_zero a := by
    show a + Z.of n 0 = a
    rw [← Z.of_val a, ← Z.of_add, Nat.add_zero]
  add_neg a := by
    rw [Z.neg_def, ← Z.of_val a, ← Z.of_add]
    have := a.lt
    rw [Z.of_val, show a.val + (n - a.val) = n by omega, Z.of_n]
  mul_comm a b := Z.ext (by show a.val * b.val % n = b.val * a.val % n; rw [Nat.mul_comm])
  mul_assoc a b c := by rw [← Z.of_val a, ← Z.of_val b, ← Z.of_val c, ← Z.of_mul, ← Z.of_mul, ← Z.of_mul, ← Z.of_mul, Nat.mul_assoc]
  mul_one a := by
    show a * Z.of n 1 = a
    rw [← Z.of_val a, ← Z.of_mul, Nat.mul_one]
  mul_add a b c := by rw [← Z.of_val a, ← Z.of_val b, ← Z.of_val c, ← Z.of_add, ← Z.of_mul, ← Z.of_mul, ← Z.of_mul, ← Z.of_add, Nat.mul_add]
end Go.Alg
