/-
  Leaves, 4: bits.Mul64; the inner step of Montgomery's product.
-/
import Derived.Test.YtkpihidjolfkoaaLf3
import Derived.Test.YtkpihidjolfkoaaEngL
namespace Go.Proofs.Ytkpihidjolfkoaa
open Go Go.Eng Go.RowKit Go.Wd

/-! ### words as the model reckons them -/
theorem wrap_mod (n : Nat) : IntKind.u64.wrap (n : Int) = ((n % 18446744073709551616 : Nat) : Int) := by
  unfold IntKind.wrap
  have : (IntKind.u64.signed && decide ((n : Int) % 2 ^ IntKind.u64.bits ≥ 2 ^ (IntKind.u64.bits - 1))) = false := rfl
  simp only [IntKind.signed, IntKind.bits, Bool.false_and, Bool.false_eq_true, if_false]
  omega
theorem wrap_nat {n : Nat} (h : n < 18446744073709551616) : IntKind.u64.wrap (n : Int) = (n : Int) := by
  rw [wrap_mod, Nat.mod_eq_of_lt h]
theorem and32 (x : Nat) : Eng.bits .and .u64 (x : Int) 4294967295 = ((x % 4294967296 : Nat) : Int) := by
  have e : (BitVec.ofInt IntKind.u64.bits (x : Int) &&& BitVec.ofInt IntKind.u64.bits 4294967295).toNat = x % 4294967296 := by
    show (BitVec.ofInt 64 (x : Int) &&& BitVec.ofInt 64 4294967295).toNat = x % 4294967296
    rw [BitVec.toNat_and, BitVec.toNat_ofInt, BitVec.toNat_ofInt]
    have h1 : ((x : Int) % ((2 ^ 64 : Nat) : Int)).toNat = x % 2 ^ 64 := by omega
    have h2 : ((4294967295 : Int) % ((2 ^ 64 : Nat) : Int)).toNat = 2 ^ 32 - 1 := by decide
    rw [h1, h2, Nat.and_two_pow_sub_one_eq_mod, Nat.mod_mod_of_dvd _ (by decide)]
  unfold Eng.bits
  simp only [e]
  exact wrap_nat (by omega)
theorem shr32 (x : Nat) : ((x : Nat) : Int).fdiv (2 ^ min (Int.toNat 32) IntKind.u64.bits) = ((x / 4294967296 : Nat) : Int) := by
  have : (2 : Int) ^ min (Int.toNat 32) IntKind.u64.bits = ((4294967296 : Nat) : Int) := by decide
  rw [this, ← Int.ofNat_fdiv]
/-- What Mul64 reckons for the upper word. -/
def mulHi (x y : Int) : Int :=
  let s (z : Int) : Int := z.fdiv (2 ^ min (Int.toNat 32) IntKind.u64.bits)
  let m (z : Int) : Int := Eng.bits .and .u64 z 4294967295
  let wr (z : Int) : Int := IntKind.u64.wrap z
  wr (wr (wr (s x * s y) + s (wr (wr (s x * m y) + s (wr (m x * m y))))) + s (wr (m (wr (wr (s x * m y) + s (wr (m x * m y)))) + wr (m x * s y))))
theorem mulHi_eq (x y : Nat) (hx : x < 18446744073709551616) (hy : y < 18446744073709551616) : mulHi x y = ((x * y / 18446744073709551616 : Nat) : Int) := by
  obtain ⟨h1, h2, h3, h4⟩ := Go.Lib.mul64_hi x y hx hy
  have hb : x * y / 18446744073709551616 < 18446744073709551616 := by
    rw [Nat.div_lt_iff_lt_mul (by decide)]
    exact Nat.mul_lt_mul'' hx hy
  have hxy : x / 4294967296 * (y / 4294967296) < 18446744073709551616 := by
    have := Go.Lib.half_mul_le (a := x / 4294967296) (b := y / 4294967296) (by omega) (by omega); omega
  have hxm : x / 4294967296 * (y % 4294967296) < 18446744073709551616 := by
    have := Go.Lib.half_mul_le (a := x / 4294967296) (b := y % 4294967296) (by omega) (by omega); omega
  have hmx : x % 4294967296 * (y / 4294967296) < 18446744073709551616 := by
    have := Go.Lib.half_mul_le (a := x % 4294967296) (b := y / 4294967296) (by omega) (by omega); omega
  unfold mulHi
  simp only [shr32, and32, ← Int.natCast_mul]
  rw [wrap_nat h1, wrap_nat hxy, wrap_nat hxm, wrap_nat hmx]
  simp only [shr32, ← Int.natCast_add]
  rw [wrap_nat h2]
  simp only [shr32, and32, ← Int.natCast_add]
  rw [wrap_nat h3]
  simp only [shr32]
  rw [wrap_nat (n := x / 4294967296 * (y / 4294967296) + (x / 4294967296 * (y % 4294967296) + x % 4294967296 * (y % 4294967296) / 4294967296) / 4294967296) (by
    generalize x / 4294967296 * (y / 4294967296) = a at *
    generalize x / 4294967296 * (y % 4294967296) = b at *
    omega)]
  rw [← Int.natCast_add, h4, wrap_nat hb]
theorem mul64_run (x y : Nat) : run1 none1 83 [uw x, uw y] [] = some (.tup [⟨false, [.v (.int .u64 (mulHi x y))]⟩, ⟨false, [.v (.int .u64 (IntKind.u64.wrap ((x : Int) * (y : Int))))]⟩], []) := by kernel_rfl
theorem tup2_val {ρ : Rho} {a b : Int} {u : Value} (h : SV.val ρ (.tup [⟨false, [.v (.int .u64 a)]⟩, ⟨false, [.v (.int .u64 b)]⟩]) = some u) : u = .tuple #[.int .u64 a, .int .u64 b] := by
  have e : ∀ z : Int, AV.val ρ ⟨false, [.v (.int .u64 z)]⟩ = some (.int .u64 z) := fun z => AV.val_v (ρ := ρ) (x := .int .u64 z) rfl
  simp only [SV.val, vals, e, Option.some.injEq] at h
  exact h.symm
theorem mul64_pure (x y : Nat) (hx : x < 18446744073709551616) (hy : y < 18446744073709551616) : Pure Try.prog 83 [uv x, uv y] (.tuple #[uv (x * y / 18446744073709551616), uv (x * y % 18446744073709551616)]) := by
  refine pure_of_run1 none1_ok (mul64_run x y) (fun p hp => by cases hp) (vs := [uv x, uv y]) ?_ fun ρ u hu => ?_
  · have e : ∀ n : Nat, AV.val rho0 (uw n) = some (uv n) := fun n => AV.val_v (ρ := rho0) (x := uv n) rfl
    simp only [vals, e]
  · rw [tup2_val hu, mulHi_eq x y hx hy, ← Int.natCast_mul, wrap_mod]; rfl
def mul64Row : Row where
  f := 83
  ans := fun
    | [⟨false, [.v (.int .u64 x)]⟩, ⟨false, [.v (.int .u64 y)]⟩] =>
      some (.tup [uw (x.toNat * y.toNat / 18446744073709551616), uw (x.toNat * y.toNat % 18446744073709551616)], [0 ≤ x ∧ x < 18446744073709551616 ∧ 0 ≤ y ∧ y < 18446744073709551616])
    | _ => none
theorem mul64_ok : RowOk Try.prog mul64Row := by
  intro args s ob h hob ρ vs hv
  unfold mul64Row at h
  simp only at h
  split at h
  · rename_i x y
    cases h
    obtain ⟨hx, hx', hy, hy'⟩ := hob _ (List.mem_singleton.2 rfl)
    obtain ⟨v1, us, h1, h2, rfl⟩ := vals_cons hv
    obtain ⟨v2, us', h3, h4, rfl⟩ := vals_cons h2
    cases h4
    rw [val_int h1, val_int h3]
    obtain ⟨x, rfl⟩ := Int.eq_ofNat_of_zero_le hx
    obtain ⟨y, rfl⟩ := Int.eq_ofNat_of_zero_le hy
    refine ⟨_, rfl, ?_⟩
    simp only [Int.toNat_natCast]
    exact mul64_pure x y (by omega) (by omega)
  · cases h
def rows5 : List Row := mul64Row :: rows4
theorem rows5_ok : ∀ r ∈ rows5, RowOk Try.prog r := by
  simp only [rows5, List.forall_mem_cons]
  exact ⟨mul64_ok, rows4_ok⟩
end Go.Proofs.Ytkpihidjolfkoaa
