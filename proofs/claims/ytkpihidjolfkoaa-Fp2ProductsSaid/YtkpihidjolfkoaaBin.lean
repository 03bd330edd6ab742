/-
  Powers; the power of a prime of a sum, where that prime is 0.
-/
import Derived.Test.YtkpihidjolfkoaaZn
import Derived.Test.YtkpihidjolfkoaaPrA
namespace Go.Alg
open Go.Pr
section pows
variable {R : Type} [CRing R]
def pow (a : R) : Nat → R
  | 0 => 1
  | n + 1 => pow a n * a
theorem pow_zero (a : R) : pow a 0 = 1 := rfl
theorem pow_succ (a : R) (n : Nat) : pow a (n + 1) = pow a n * a := rfl
theorem pow_one (a : R) : pow a 1 = a := one_mul a
theorem pow_add (a : R) (m n : Nat) : pow a (m + n) = pow a m * pow a n := by
  induction n with
  | zero => exact (mul_one _).symm
  | succ n ih => show pow a (m + n) * a = _; rw [ih, pow_succ, mul_assoc]
theorem pow_mul (a : R) (m n : Nat) : pow a (m * n) = pow (pow a m) n := by
  induction n with
  | zero => rfl
  | succ n ih => rw [Nat.mul_succ, pow_add, ih, pow_succ]
theorem one_pow (n : Nat) : pow (1 : R) n = 1 := by
  induction n with
  | zero => rfl
  | succ n ih => rw [pow_succ, ih, mul_one]
theorem zero_pow {n : Nat} (h : n ≠ 0) : pow (0 : R) n = 0 := by
  cases n with
  | zero => exact absurd rfl h
  | succ n => rw [pow_succ, mul_zero]
theorem mul_pow (a b : R) (n : Nat) : pow (a * b) n = pow a n * pow b n := by
  induction n with
  | zero => exact (mul_one _).symm
  | succ n ih => rw [pow_succ, pow_succ, pow_succ, ih, mul_assoc, mul_assoc, mul_left_comm (pow b n)]
def sum (f : Nat → R) : Nat → R
  | 0 => 0
  | n + 1 => sum f n + f n
theorem sum_add (f g : Nat → R) (n : Nat) : sum (fun k => f k + g k) n = sum f n + sum g n := by
  induction n with
  | zero => exact (add_zero _).symm
  | succ n ih => show sum _ n + (f n + g n) = sum f n + f n + (sum g n + g n); rw [ih, add_assoc, add_assoc, add_left_comm (sum g n)]
theorem sum_mul (f : Nat → R) (c : R) (n : Nat) : c * sum f n = sum (fun k => c * f k) n := by
  induction n with
  | zero => exact mul_zero c
  | succ n ih => show c * (sum f n + f n) = _ + _; rw [mul_add, ih]
theorem sum_congr {f g : Nat → R} (n : Nat) (h : ∀ k, k < n → f k = g k) : sum f n = sum g n := by
  induction n with
  | zero => rfl
  | succ n ih => show sum f n + f n = sum g n + g n; rw [ih fun k hk => h k (by omega), h n (by omega)]
theorem sum_first (f : Nat → R) (n : Nat) : sum f (n + 1) = f 0 + sum (fun k => f (k + 1)) n := by
  induction n with
  | zero => exact add_comm _ _
  | succ n ih => show sum f (n + 1) + f (n + 1) = _; rw [ih, add_assoc]; rfl
theorem sum_zero {f : Nat → R} (n : Nat) (h : ∀ k, k < n → f k = 0) : sum f n = 0 := by
  induction n with
  | zero => rfl
  | succ n ih => show sum f n + f n = 0; rw [ih fun k hk => h k (by omega), h n (by omega), add_zero]
end pows
def choose : Nat → Nat → Nat
  | _, 0 => 1
  | 0, _ + 1 => 0
  | n + 1, k + 1 => choose n k + choose n (k + 1)
theorem choose_zero (n : Nat) : choose n 0 = 1 := by cases n <;> rfl
theorem choose_big : ∀ n k, n < k → choose n k = 0 := by
  intro n
  induction n with
  | zero => intro k h; cases k with
    | zero => omega
    | succ k => rfl
  | succ n ih => intro k h; cases k with
    | zero => omega
    | succ k => show choose n k + choose n (k + 1) = 0; rw [ih k (by omega), ih (k + 1) (by omega)]
theorem choose_self (n : Nat) : choose n n = 1 := by
  induction n with
  | zero => rfl
  | succ n ih => show choose n n + choose n (n + 1) = 1; rw [ih, choose_big n (n + 1) (by omega)]
theorem choose_absorb : ∀ n k, (k + 1) * choose (n + 1) (k + 1) = (n + 1) * choose n k := by
  intro n
  induction n with
  | zero => intro k; cases k with
    | zero => rfl
    | succ k => show (k + 2) * (choose 0 (k + 1) + choose 0 (k + 2)) = 1 * choose 0 (k + 1); simp [choose]
  | succ n ih =>
    intro k
    show (k + 1) * (choose (n + 1) k + choose (n + 1) (k + 1)) = (n + 2) * choose (n + 1) k
    rw [Nat.mul_add, ih k]
    cases k with
    | zero => rw [choose_zero, choose_zero]; omega
    | succ k =>
      have := ih k
      show (k + 2) * choose (n + 1) (k + 1) + (n + 1) * choose n (k + 1) = (n + 2) * choose (n + 1) (k + 1)
      have e : choose (n + 1) (k + 1) = choose n k + choose n (k + 1) := rfl
      have h1 : (k + 2) * choose (n + 1) (k + 1) = (k + 1) * choose (n + 1) (k + 1) + choose (n + 1) (k + 1) := by rw [show k + 2 = k + 1 + 1 from rfl, Nat.add_mul (k + 1), Nat.one_mul]
      have h2 : (n + 2) * choose (n + 1) (k + 1) = (n + 1) * choose (n + 1) (k + 1) + choose (n + 1) (k + 1) := by rw [show n + 2 = n + 1 + 1 from rfl, Nat.add_mul (n + 1), Nat.one_mul]
      have h3 : (n + 1) * choose (n + 1) (k + 1) = (n + 1) * choose n k + (n + 1) * choose n (k + 1) := by rw [e, Nat.mul_add]
      omega
theorem prime_choose {p k : Nat} (hp : Prime p) (h0 : 0 < k) (h1 : k < p) : p ∣ choose p k := by
  obtain ⟨q, rfl⟩ : ∃ q, p = q + 1 := ⟨p - 1, by omega⟩
  obtain ⟨j, rfl⟩ : ∃ j, k = j + 1 := ⟨k - 1, by omega⟩
  have h := choose_absorb q j
  have hd : q + 1 ∣ (j + 1) * choose (q + 1) (j + 1) := ⟨choose q j, h⟩
  rcases hp.dvd_mul hd with e | e
  · have := Nat.le_of_dvd (by omega) e; omega
  · exact e
section bin
variable {R : Type} [CRing R]
def term (a b : R) (n k : Nat) : R := nat (choose n k) * (pow a k * pow b (n - k))
theorem binomial (a b : R) (n : Nat) : pow (a + b) n = sum (term a b n) (n + 1) := by
  induction n with
  | zero => show (1 : R) = 0 + (nat 1) * (1 * 1); rw [zero_add, mul_one, mul_one]; exact (zero_add _).symm
  | succ n ih =>
    rw [pow_succ, ih, mul_comm, add_mul, sum_mul, sum_mul, sum_first (term a b (n + 1)) (n + 1)]
    have e1 : sum (fun k => term a b (n + 1) (k + 1)) (n + 1) = sum (fun k => a * term a b n k) (n + 1) + sum (fun k => nat (choose n (k + 1)) * (pow a (k + 1) * pow b (n - k))) (n + 1) := by
      rw [← sum_add]
      refine sum_congr _ fun k hk => ?_
      show nat (choose n k + choose n (k + 1)) * (pow a (k + 1) * pow b (n + 1 - (k + 1))) = _
      rw [nat_add, add_mul, show n + 1 - (k + 1) = n - k by omega]
      congr 1
      unfold term
      rw [pow_succ, mul_left_comm a, mul_comm (pow a k) a, mul_assoc]
    have e2 : sum (fun k => b * term a b n k) (n + 1) = term a b (n + 1) 0 + sum (fun k => nat (choose n (k + 1)) * (pow a (k + 1) * pow b (n - k))) (n + 1) := by
      rw [sum_first (fun k => b * term a b n k) n]
      show _ = _ + (sum _ n + nat (choose n (n + 1)) * _)
      rw [choose_big n (n + 1) (by omega)]
      show _ = _ + (sum _ n + 0 * _)
      rw [zero_mul, add_zero]
      congr 1
      · unfold term
        rw [choose_zero, choose_zero, pow_zero, Nat.sub_zero, Nat.sub_zero, pow_succ, one_mul, one_mul, mul_left_comm b, mul_comm b]
      · refine sum_congr _ fun k hk => ?_
        show b * (nat (choose n (k + 1)) * (pow a (k + 1) * pow b (n - (k + 1)))) = _
        have : n - k = n - (k + 1) + 1 := by omega
        rw [this, pow_succ b, mul_left_comm b, mul_left_comm b, mul_comm b]
    rw [e1, e2, add_left_comm]
theorem nat_dvd {p c : Nat} (h0 : (nat p : R) = 0) (h : p ∣ c) : (nat c : R) = 0 := by
  obtain ⟨d, rfl⟩ := h
  rw [nat_mul, h0, zero_mul]
/-- The power of a prime that is 0, of a sum. -/
theorem dream {p : Nat} (hp : Prime p) (h0 : (nat p : R) = 0) (a b : R) : pow (a + b) p = pow a p + pow b p := by
  obtain ⟨q, rfl⟩ : ∃ q, p = q + 1 := ⟨p - 1, by have := hp.two_le; omega⟩
  rw [binomial]
  show sum (term a b (q + 1)) (q + 1) + term a b (q + 1) (q + 1) = _
  rw [sum_first, sum_zero q fun k hk => ?_]
  · unfold term
    rw [choose_zero, choose_self, add_zero, pow_zero, Nat.sub_self, Nat.sub_zero, pow_zero, add_comm]
    show nat 1 * _ + nat 1 * _ = _
    have e : (nat 1 : R) = 1 := zero_add 1
    rw [e, one_mul, one_mul, one_mul, mul_one]
  · unfold term
    rw [nat_dvd h0 (prime_choose hp (by omega) (by omega)), zero_mul]
end bin
end Go.Alg
