/-
  Plain: numbers of many words: digits, sums with a carry, differences with a borrow. No program in sight.
-/
import Derived.Test.YthceokldlinjlaaEa
namespace Go.Wd
open Go Go.Eng

/-- 2^(64 k). -/
def pw (k : Nat) : Nat := 2 ^ (64 * k)
def dg (n i : Nat) : Nat := n / pw i % 2 ^ 64
def num (d : Nat → Nat) : Nat → Nat
  | 0 => 0
  | k + 1 => num d k + d k * pw k
theorem two64 : (2 : Nat) ^ 64 = 18446744073709551616 := by decide
theorem pw_zero : pw 0 = 1 := by unfold pw; simp
theorem pw_pos (k : Nat) : 0 < pw k := by unfold pw; exact Nat.two_pow_pos _
theorem pw_succ (k : Nat) : pw (k + 1) = pw k * 18446744073709551616 := by
  unfold pw
  rw [show 64 * (k + 1) = 64 * k + 64 by omega, Nat.pow_add, two64]
theorem pw_add (i j : Nat) : pw (i + j) = pw i * pw j := by
  unfold pw
  rw [show 64 * (i + j) = 64 * i + 64 * j by omega, Nat.pow_add]
theorem dg_lt (n i : Nat) : dg n i < 18446744073709551616 := by unfold dg; rw [two64]; exact Nat.mod_lt _ (by decide)
theorem num_dg (n : Nat) : ∀ k, num (dg n) k = n % pw k := by
  intro k
  induction k with
  | zero => simp [num, pw_zero, Nat.mod_one]
  | succ k ih =>
    simp only [num, ih, dg, two64]
    rw [pw_succ, Nat.mod_mul, Nat.mul_comm (n / pw k % 18446744073709551616)]
theorem num_lt {d : Nat → Nat} : ∀ k, (∀ i, i < k → d i < 18446744073709551616) → num d k < pw k := by
  intro k
  induction k with
  | zero => intro _; simp [num, pw_zero]
  | succ k ih =>
    intro h
    have h1 := ih fun i hi => h i (by omega)
    have h2 : (d k + 1) * pw k ≤ 18446744073709551616 * pw k := Nat.mul_le_mul_right _ (h k (by omega))
    rw [Nat.add_mul, Nat.one_mul] at h2
    simp only [num]
    rw [pw_succ, Nat.mul_comm (pw k)]
    omega
theorem num_congr {d e : Nat → Nat} : ∀ k, (∀ i, i < k → d i = e i) → num d k = num e k := by
  intro k
  induction k with
  | zero => intro _; rfl
  | succ k ih => intro h; simp only [num]; rw [ih fun i hi => h i (by omega), h k (by omega)]
theorem dg_num {d : Nat → Nat} : ∀ k, (∀ i, i < k → d i < 18446744073709551616) → ∀ i, i < k → dg (num d k) i = d i := by
  intro k
  induction k with
  | zero => intro _ i hi; omega
  | succ k ih =>
    intro h i hi
    have hlt := num_lt k fun i hi => h i (by omega)
    simp only [num]
    by_cases e : i = k
    · subst e
      unfold dg
      rw [Nat.add_mul_div_right _ _ (pw_pos _), Nat.div_eq_of_lt hlt, Nat.zero_add, two64]
      exact Nat.mod_eq_of_lt (h i (by omega))
    · have hik : i < k := by omega
      rw [← ih (fun i hi => h i (by omega)) i hik]
      unfold dg
      have : pw k = pw i * (18446744073709551616 * pw (k - i - 1)) := by
        rw [← Nat.mul_assoc, ← pw_succ, ← pw_add]; congr 1; omega
      rw [this, two64, show d k * (pw i * (18446744073709551616 * pw (k - i - 1))) = (d k * pw (k - i - 1) * 18446744073709551616) * pw i by
        rw [Nat.mul_comm (pw i), ← Nat.mul_assoc, Nat.mul_comm 18446744073709551616, ← Nat.mul_assoc], Nat.add_mul_div_right _ _ (pw_pos _), Nat.add_mul_mod_self_right]
theorem dg_mod (n k i : Nat) (h : i < k) : dg (n % pw k) i = dg n i := by
  rw [← num_dg n k, dg_num k (fun i _ => dg_lt n i) i h]
theorem word_dg (n i : Nat) : word n i = .int .u64 ((dg n i : Nat) : Int) := rfl
theorem words_map {d : Nat → Nat} (k : Nat) (h : ∀ i, i < k → d i < 18446744073709551616) : words k (num d k) = (List.range k).map fun i => Value.int .u64 ((d i : Nat) : Int) := by
  unfold words
  apply List.map_congr_left
  intro i hi
  rw [word_dg, dg_num k h i (by simpa using hi)]
theorem words_mod (k n : Nat) : words k (n % pw k) = words k n := by
  unfold words
  apply List.map_congr_left
  intro i hi
  rw [word_dg, word_dg, dg_mod n k i (by simpa using hi)]
theorem words_inj {k m n : Nat} (h : words k m = words k n) : m % pw k = n % pw k := by
  rw [← num_dg m k, ← num_dg n k]
  apply num_congr
  intro i hi
  have h1 := congrArg (fun l => l[i]?) h
  simp only [words, List.getElem?_map, List.getElem?_range hi, Option.map_some, Option.some.injEq, word_dg, Value.int.injEq, true_and] at h1
  omega

/-! ### a difference -/
def bw (x y : Nat → Nat) : Nat → Nat
  | 0 => 0
  | i + 1 => if x i < y i + bw x y i then 1 else 0
def bd (x y : Nat → Nat) (i : Nat) : Nat := (x i + 18446744073709551616 - y i - bw x y i) % 18446744073709551616
theorem bw_le (x y : Nat → Nat) : ∀ i, bw x y i ≤ 1 := by
  intro i
  cases i with
  | zero => exact Nat.zero_le _
  | succ i => simp only [bw]; split <;> omega
theorem bd_lt (x y : Nat → Nat) (i : Nat) : bd x y i < 18446744073709551616 := Nat.mod_lt _ (by decide)
theorem num_bd {x y : Nat → Nat} : ∀ k, (∀ i, i < k → x i < 18446744073709551616) → (∀ i, i < k → y i < 18446744073709551616) → num (bd x y) k + num y k = num x k + bw x y k * pw k := by
  intro k
  induction k with
  | zero => intro _ _; simp [num, bw]
  | succ k ih =>
    intro hx hy
    have h1 := ih (fun i hi => hx i (by omega)) (fun i hi => hy i (by omega))
    have hxk := hx k (by omega)
    have hyk := hy k (by omega)
    have hb := bw_le x y k
    have h2 : bd x y k + y k + bw x y k = x k + bw x y (k + 1) * 18446744073709551616 := by
      simp only [bd, bw]
      split <;> omega
    simp only [num]
    rw [pw_succ, Nat.mul_comm (pw k) 18446744073709551616, ← Nat.mul_assoc]
    have h3 : (bd x y k + y k + bw x y k) * pw k = (x k + bw x y (k + 1) * 18446744073709551616) * pw k := by rw [h2]
    rw [Nat.add_mul, Nat.add_mul, Nat.add_mul] at h3
    omega
/-! ### a sum -/
def cw (c : Nat) (x y : Nat → Nat) : Nat → Nat
  | 0 => c
  | i + 1 => (x i + y i + cw c x y i) / 18446744073709551616
def cd (c : Nat) (x y : Nat → Nat) (i : Nat) : Nat := (x i + y i + cw c x y i) % 18446744073709551616
theorem cw_le {c : Nat} (hc : c ≤ 1) {x y : Nat → Nat} : ∀ k, (∀ i, i < k → x i < 18446744073709551616) → (∀ i, i < k → y i < 18446744073709551616) → cw c x y k ≤ 1 := by
  intro k
  induction k with
  | zero => intro _ _; exact hc
  | succ k ih =>
    intro hx hy
    have h1 := ih (fun i hi => hx i (by omega)) (fun i hi => hy i (by omega))
    have hxk := hx k (by omega)
    have hyk := hy k (by omega)
    simp only [cw]; omega
theorem cd_lt (c : Nat) (x y : Nat → Nat) (i : Nat) : cd c x y i < 18446744073709551616 := Nat.mod_lt _ (by decide)
theorem num_cd {c : Nat} {x y : Nat → Nat} : ∀ k, num (cd c x y) k + cw c x y k * pw k = num x k + num y k + c := by
  intro k
  induction k with
  | zero => simp [num, cw, pw_zero]
  | succ k ih =>
    have h2 : cd c x y k + cw c x y (k + 1) * 18446744073709551616 = x k + y k + cw c x y k := by
      simp only [cd, cw]; omega
    simp only [num]
    rw [pw_succ, Nat.mul_comm (pw k) 18446744073709551616, ← Nat.mul_assoc]
    have h3 : (cd c x y k + cw c x y (k + 1) * 18446744073709551616) * pw k = (x k + y k + cw c x y k) * pw k := by rw [h2]
    rw [Nat.add_mul, Nat.add_mul, Nat.add_mul] at h3
    omega
end Go.Wd
