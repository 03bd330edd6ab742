/-
  Fermat's little theorem and Pocklington's step.
-/
import Derived.Test.YtkpihidjolfkoaaBin
namespace Go.Pr
open Go.Alg
/-- Powers modulo n, reckoned by bits from the highest. -/
theorem pos_of_prime {p : Nat} (h : Prime p) : 0 < p := by have := h.two_le; omega
theorem nat_of {n : Nat} [Pos n] (k : Nat) : (nat k : Z n) = Z.of n k := by
  induction k with
  | zero => rfl
  | succ k ih => show nat k + 1 = _; rw [ih, Z.of_add]; rfl
/-- Fermat. -/
theorem fermat {p : Nat} (hp : Prime p) [Pos p] : ∀ k, pow (Z.of p k) p = Z.of p k := by
  intro k
  induction k with
  | zero => exact zero_pow (by have := hp.two_le; omega)
  | succ k ih =>
    rw [Z.of_add, dream hp (by rw [nat_of, Z.of_n]), ih]
    congr 1
    exact one_pow p
theorem of_eq_zero {n : Nat} [Pos n] {k : Nat} : Z.of n k = 0 ↔ n ∣ k := by
  constructor
  · intro h
    have : k % n = 0 % n := congrArg Z.val h
    rw [Nat.zero_mod] at this
    exact Nat.dvd_of_mod_eq_zero this
  · intro h
    refine Z.ext ?_
    show k % n = 0 % n
    rw [Nat.mod_eq_zero_of_dvd h, Nat.zero_mod]
/-- Every number but 0 has an inverse. -/
theorem inv_exists {p : Nat} (hp : Prime p) [Pos p] (a : Z p) (ha : a ≠ 0) : a * pow a (p - 2) = 1 := by
  have h2 := hp.two_le
  have hf : pow a p = a := by have := fermat hp a.val; rwa [Z.of_val] at this
  have e : a * (a * pow a (p - 2) - 1) = 0 := by
    rw [sub_def, mul_add, mul_neg, mul_one, ← mul_assoc]
    have : pow a p = a * a * pow a (p - 2) := by
      have e : pow a p = pow a (p - 2 + 1 + 1) := congrArg (pow a) (by omega)
      rw [e, pow_succ, pow_succ, mul_comm _ a, mul_comm _ a, mul_assoc]
    rw [← this, hf, add_neg]
  -- no two numbers but 0 have the product 0
  have hd : ∀ x y : Z p, x * y = 0 → x = 0 ∨ y = 0 := by
    intro x y h
    rw [← Z.of_val x, ← Z.of_val y, ← Z.of_mul, of_eq_zero] at h
    rcases hp.dvd_mul h with h | h
    · left; rw [← Z.of_val x]; exact of_eq_zero.2 h
    · right; rw [← Z.of_val y]; exact of_eq_zero.2 h
  rcases hd _ _ e with h | h
  · exact absurd h ha
  · exact sub_eq_zero.1 h
theorem pow_gcd {n : Nat} [Pos n] {b : Z n} (m k : Nat) (h1 : pow b m = 1) (h2 : pow b k = 1) : pow b (Nat.gcd m k) = 1 := by
  induction m, k using Nat.gcd.induction with
  | H0 k => rw [Nat.gcd_zero_left]; exact h2
  | H1 m k hm ih =>
    rw [Nat.gcd_rec]
    refine ih ?_ h1
    have e := Nat.div_add_mod k m
    have : pow b k = pow b (m * (k / m)) * pow b (k % m) := by rw [← pow_add, e]
    rw [this, pow_mul, h1, one_pow, one_mul] at h2
    exact h2
/-- Powers modulo n, by squares. -/
def powm (n : Nat) : Nat → Nat → Nat → Nat → Nat
  | 0, _, _, acc => acc
  | f + 1, a, e, acc => powm n f (a * a % n) (e / 2) (match Nat.beq (e % 2) 1 with
    | true => acc * a % n
    | false => acc)
theorem of_mod {n : Nat} [Pos n] (k : Nat) : Z.of n (k % n) = Z.of n k := Z.ext (Nat.mod_mod k n)
theorem powm_spec {n : Nat} [Pos n] : ∀ f a e acc, e < 2 ^ f → Z.of n (powm n f a e acc) = Z.of n acc * pow (Z.of n a) e := by
  intro f
  induction f with
  | zero => intro a e acc h; simp at h; subst h; exact (mul_one _).symm
  | succ f ih =>
    intro a e acc h
    rw [powm, ih _ _ _ (by rw [Nat.pow_succ] at h; omega), of_mod, Z.of_mul]
    have e2 : pow (Z.of n a * Z.of n a) (e / 2) = pow (Z.of n a) (2 * (e / 2)) := by rw [pow_mul, pow_succ, pow_one]
    rw [e2]
    by_cases hb : e % 2 = 1
    · have : Nat.beq (e % 2) 1 = true := by rw [hb]; rfl
      rw [this]
      show Z.of n (acc * a % n) * _ = _
      have e3 : pow (Z.of n a) e = pow (Z.of n a) (1 + 2 * (e / 2)) := congrArg _ (by omega)
      rw [of_mod, Z.of_mul, e3, pow_add, pow_one, mul_assoc]
    · have : Nat.beq (e % 2) 1 = false := by rw [show e % 2 = 0 by omega]; rfl
      rw [this]
      have e3 : pow (Z.of n a) e = pow (Z.of n a) (2 * (e / 2)) := congrArg _ (by omega)
      rw [e3]
theorem of_dvd {n r : Nat} [Pos n] [Pos r] (h : r ∣ n) {a b : Nat} (e : Z.of n a = Z.of n b) : Z.of r a = Z.of r b := by
  rw [Z.of_eq] at e ⊢
  rw [← Nat.mod_mod_of_dvd a h, e, Nat.mod_mod_of_dvd b h]
/-- Pocklington: each prime that divides N is 1 modulo Q. -/
theorem pock {N Q b g : Nat} (hN : 1 < N) (hQ : Prime Q) (hg : Q < 2 ^ g)
    (h1 : powm N g b Q 1 = 1) (h2 : Nat.gcd (b + (N - 1)) N = 1) {r : Nat} (hr : Prime r) (hd : r ∣ N) : Q ∣ r - 1 := by
  haveI : Pos N := ⟨by omega⟩
  haveI : Pos r := ⟨pos_of_prime hr⟩
  have hr2 := hr.two_le
  have e1 : pow (Z.of r b) Q = 1 := by
    rw [← one_mul (pow (Z.of r b) Q)]
    have := powm_spec (n := N) g b Q 1 hg
    rw [h1] at this
    have k := powm_spec (n := r) g b Q 1 hg
    -- the same powers, modulo r
    have hpow : ∀ (m : Nat) (x : Nat), pow (Z.of N x) m = Z.of N (x ^ m) ∧ pow (Z.of r x) m = Z.of r (x ^ m) := by
      intro m x
      induction m with
      | zero => exact ⟨rfl, rfl⟩
      | succ m ih => exact ⟨by rw [pow_succ, ih.1, ← Z.of_mul, Nat.pow_succ], by rw [pow_succ, ih.2, ← Z.of_mul, Nat.pow_succ]⟩
    rw [(hpow Q b).1, ← Z.of_mul] at this
    show Z.of r 1 * _ = Z.of r 1
    rw [(hpow Q b).2, ← Z.of_mul]
    exact (of_dvd hd this).symm
  have hne : Z.of r b ≠ 1 := by
    intro e
    have : Z.of r b = Z.of r 1 := e
    have h3 : r ∣ b + (N - 1) := by
      apply of_eq_zero.1
      rw [Z.of_add, this, ← Z.of_add, show 1 + (N - 1) = N by omega]
      exact of_eq_zero.2 hd
    have := Nat.dvd_gcd h3 hd
    rw [h2] at this
    have := Nat.le_of_dvd (by omega) this
    omega
  have h0 : Z.of r b ≠ 0 := by
    intro e
    rw [e, zero_pow (by have := hQ.two_le; omega)] at e1
    have : (0 : Nat) % r = 1 % r := congrArg Z.val e1
    rw [Nat.zero_mod, Nat.mod_eq_of_lt (by omega)] at this
    omega
  have e2 : pow (Z.of r b) (r - 1) = 1 := by
    have := inv_exists hr _ h0
    have e : pow (Z.of r b) (r - 1) = pow (Z.of r b) (1 + (r - 2)) := congrArg _ (by omega)
    rw [e, pow_add, pow_one]; exact this
  have e3 := pow_gcd Q (r - 1) e1 e2
  rcases hQ.2 _ (Nat.gcd_dvd_left Q (r - 1)) with e | e
  · rw [e, pow_one] at e3; exact absurd e3 hne
  · rw [← e]; exact Nat.gcd_dvd_right _ _
/-- Where each prime that divides N is above F and F*F is no less, N is prime. -/
theorem prime_of_large {N F : Nat} (hN : 1 < N) (hF : N ≤ F * F) (h : ∀ r, Prime r → r ∣ N → F < r) : Prime N := by
  refine ⟨hN, fun d hd => ?_⟩
  refine Classical.byContradiction fun hc => ?_
  have hd1 : d ≠ 1 := fun e => hc (.inl e)
  have hdN : d ≠ N := fun e => hc (.inr e)
  obtain ⟨e, rfl⟩ := hd
  have d0 : d ≠ 0 := by rintro rfl; simp at hN
  have e0 : e ≠ 0 := by rintro rfl; simp at hN
  have e1 : e ≠ 1 := by rintro rfl; simp at hdN
  obtain ⟨r, hr, hrd⟩ := exists_prime d (by omega)
  obtain ⟨s, hs, hse⟩ := exists_prime e (by omega)
  have k1 := h r hr (Nat.dvd_trans hrd (Nat.dvd_mul_right d e))
  have k2 := h s hs (Nat.dvd_trans hse (Nat.dvd_mul_left e d))
  have l1 := Nat.le_of_dvd (by omega) hrd
  have l2 := Nat.le_of_dvd (by omega) hse
  have : F * F < d * e := Nat.mul_lt_mul'' (by omega) (by omega)
  omega
/-- No number from 2 on, so many, divides it. -/
def noneDiv (N : Nat) : Nat → Bool
  | 0 => true
  | k + 1 => match Nat.beq (N % (k + 2)) 0 with
    | true => false
    | false => noneDiv N k
theorem noneDiv_spec {N : Nat} : ∀ k, noneDiv N k = true → ∀ d, 2 ≤ d → d < k + 2 → ¬ d ∣ N := by
  intro k
  induction k with
  | zero => intro _ d h1 h2; omega
  | succ k ih =>
    intro h d h1 h2 hd
    rw [noneDiv] at h
    split at h
    · cases h
    · rename_i e
      by_cases hk : d = k + 2
      · subst hk
        have : N % (k + 2) = 0 := Nat.mod_eq_zero_of_dvd hd
        rw [this] at e
        cases e
      · exact ih h d h1 (by omega) hd
theorem prime_trial {N k : Nat} (hN : 1 < N) (hF : N ≤ (k + 1) * (k + 1)) (h : noneDiv N k = true) : Prime N :=
  prime_of_large hN hF fun r hr hd => Nat.lt_of_not_le fun hle => noneDiv_spec k h r hr.two_le (by omega) hd
/-- One factor Q of N - 1 that is large enough. -/
theorem prime_step {N Q b g : Nat} (hN : 1 < N) (hQ : Prime Q) (hg : Q < 2 ^ g) (h1 : powm N g b Q 1 = 1) (h2 : Nat.gcd (b + (N - 1)) N = 1) (hF : N ≤ Q * Q) : Prime N :=
  prime_of_large hN hF fun r hr hd => by
    have h := pock hN hQ hg h1 h2 hr hd
    have h2 := hr.two_le
    have := Nat.le_of_dvd (by omega) h
    omega
/-- Two factors that have nothing in common. -/
theorem prime_two {N Q S : Nat} (hN : 1 < N) (hc : Nat.gcd Q S = 1) (h1 : ∀ r, Prime r → r ∣ N → Q ∣ r - 1) (h2 : ∀ r, Prime r → r ∣ N → S ∣ r - 1) (hF : N ≤ (Q * S) * (Q * S)) : Prime N :=
  prime_of_large hN hF fun r hr hd => by
    have h3 : Q * S ∣ r - 1 := Nat.Coprime.mul_dvd_of_dvd_of_dvd hc (h1 r hr hd) (h2 r hr hd)
    have h4 := hr.two_le
    have := Nat.le_of_dvd (by omega) h3
    omega
end Go.Pr
