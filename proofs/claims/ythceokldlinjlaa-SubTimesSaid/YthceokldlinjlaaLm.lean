/-
  What limb.Add and limb.Mul make of numbers of one word.
-/
import Derived.Test.YthceokldlinjlaaN
import Derived.Test.YthceokldlinjlaaPx
import Derived.Test.YthceokldlinjlaaSb
namespace Go.Proofs.Ythceokldlinjlaa
open Go Go.Eng Go.RowKit Go.Wd Go.Alg Go.Pr

def uS (k : Int) : AV := ⟨false, [.v (.int .u64 k)]⟩
theorem val_uS (ρ : Rho) (k : Int) : (uS k).val ρ = some (.int .u64 k) := AV.val_v (ρ := ρ) (x := .int .u64 k) rfl
def nS (k : Int) : Nat := numW [k] % pw 1
def uOk (k : Int) : Prop := 0 ≤ k ∧ k < 18446744073709551616
/-- What limb.Mul makes of two numbers of one word. -/
def lmHi (x y : Int) : Nat := x.toNat * y.toNat / 18446744073709551616
def lmLo (x y : Int) : Nat := x.toNat * y.toNat % 18446744073709551616
def lmS (x y : Int) : Nat := ((lmLo x y : Nat) : Int).toNat + (0 : Int).toNat + (0 : Int).toNat
def lmL (x y : Int) : Nat := lmS x y % 18446744073709551616
def lmT (x y : Int) : Nat := (0 : Int).toNat + ((lmL x y : Nat) : Int).toNat + (0 : Int).toNat
def lm0 (x y : Int) : Int := ((lmT x y % 18446744073709551616 : Nat) : Int)
def lm1' (x y : Int) : Int := IntKind.u64.wrap (IntKind.u64.wrap ((lmHi x y : Nat) + ((lmS x y / 18446744073709551616 : Nat) : Int)) + ((lmT x y / 18446744073709551616 : Nat) : Int))
def obLm (x y : Int) : List Prop := [0 ≤ x ∧ x < 18446744073709551616 ∧ 0 ≤ y ∧ y < 18446744073709551616, 0 ≤ ((lmLo x y : Nat) : Int) ∧ (0 : Int) ≤ 0 ∧ (0 : Int) ≤ 0 ∧ (0 : Int) ≤ 1,
  (0 : Int) ≤ 0 ∧ 0 ≤ ((lmL x y : Nat) : Int) ∧ (0 : Int) ≤ 0 ∧ (0 : Int) ≤ 1]
theorem nS_eq {x : Int} (h : uOk x) : nS x = x.toNat := by
  unfold nS numW numW uOk at *
  have : pw 1 = 18446744073709551616 := by decide +kernel
  rw [this]
  omega
theorem lm_ok {x y : Int} (hx : uOk x) (hy : uOk y) : uOk (lm0 x y) ∧ uOk (lm1' x y) ∧ numW [lm0 x y, lm1' x y] % pw 2 = nS x * nS y ∧ (∀ p ∈ obLm x y, p) := by
  rw [nS_eq hx, nS_eq hy]
  unfold uOk at hx hy
  have hp : pw 2 = 18446744073709551616 * 18446744073709551616 := by decide +kernel
  obtain ⟨a, rfl⟩ := Int.eq_ofNat_of_zero_le hx.1
  obtain ⟨b, rfl⟩ := Int.eq_ofNat_of_zero_le hy.1
  have ha : a < 18446744073709551616 := by omega
  have hb : b < 18446744073709551616 := by omega
  have hhi : a * b / 18446744073709551616 < 18446744073709551616 := by
    rw [Nat.div_lt_iff_lt_mul (by omega)]
    exact Nat.lt_of_le_of_lt (Nat.mul_le_mul (Nat.le_of_lt_succ (Nat.lt_succ_of_lt ha)) (Nat.le_refl b)) (by omega)
  have hlo : a * b % 18446744073709551616 < 18446744073709551616 := Nat.mod_lt _ (by omega)
  have hab := Nat.div_add_mod (a * b) 18446744073709551616
  have e1 : lmHi a b = a * b / 18446744073709551616 := by unfold lmHi; simp
  have e2 : lmLo a b = a * b % 18446744073709551616 := by unfold lmLo; simp
  have e3 : lmS a b = a * b % 18446744073709551616 := by unfold lmS; rw [e2, Int.toNat_natCast]; rfl
  have e4 : lmL a b = a * b % 18446744073709551616 := by unfold lmL; rw [e3, Nat.mod_mod]
  have e5 : lmT a b = a * b % 18446744073709551616 := by unfold lmT; rw [e4, Int.toNat_natCast]; exact Nat.zero_add _
  generalize a * b / 18446744073709551616 = hi at *
  generalize a * b % 18446744073709551616 = lo at *
  have d0 : lo / 18446744073709551616 = 0 := Nat.div_eq_of_lt hlo
  have w1 : IntKind.u64.wrap (hi : Int) = (hi : Int) := wrap_nat (by omega)
  have e6 : lm0 a b = (lo : Int) := by unfold lm0; rw [e5, Nat.mod_eq_of_lt hlo]
  have e7 : lm1' a b = (hi : Int) := by
    unfold lm1'
    rw [e1, e3, e5, d0]
    have z : ((0 : Nat) : Int) = 0 := rfl
    rw [z, Int.add_zero, Int.add_zero, w1, w1]
  rw [e6, e7]
  refine ⟨⟨by omega, by omega⟩, ⟨by omega, by omega⟩, ?_, ?_⟩
  · simp only [numW, Int.toNat_natCast]
    rw [hp, ← hab, Nat.mod_eq_of_lt]
    · omega
    · have : hi * 18446744073709551616 ≤ 18446744073709551615 * 18446744073709551616 := Nat.mul_le_mul (by omega) (Nat.le_refl _)
      omega
  · unfold obLm
    refine all_cons ⟨by omega, by omega, by omega, by omega⟩ (all_cons ⟨by omega, by omega, by omega, by omega⟩ (all_cons ⟨by omega, by omega, by omega, by omega⟩ all_nil))
/-- What limb.Add makes of two numbers of one word. -/
def laT (x y : Int) : Nat := x.toNat + y.toNat + (0 : Int).toNat
def la0 (x y : Int) : Int := ((laT x y % 18446744073709551616 : Nat) : Int)
def la1 (x y : Int) : Int := ((laT x y / 18446744073709551616 : Nat) : Int)
def obLa (x y : Int) : List Prop := [0 ≤ x ∧ 0 ≤ y ∧ (0 : Int) ≤ 0 ∧ (0 : Int) ≤ 1]
theorem la_ok {x y : Int} (hx : uOk x) (hy : uOk y) : uOk (la0 x y) ∧ uOk (la1 x y) ∧ numW [la0 x y, la1 x y] % pw 2 = nS x + nS y ∧ (∀ p ∈ obLa x y, p) := by
  rw [nS_eq hx, nS_eq hy]
  unfold uOk at *
  have hp : pw 2 = 18446744073709551616 * 18446744073709551616 := by decide +kernel
  obtain ⟨a, rfl⟩ := Int.eq_ofNat_of_zero_le hx.1
  obtain ⟨b, rfl⟩ := Int.eq_ofNat_of_zero_le hy.1
  have e : laT a b = a + b := by unfold laT; simp
  unfold la0 la1 obLa
  rw [e]
  refine ⟨⟨by omega, by omega⟩, ⟨by omega, by omega⟩, ?_, all_cons ⟨by omega, by omega, by omega, by omega⟩ all_nil⟩
  simp only [numW, Int.toNat_natCast]
  rw [hp]
  omega
theorem mul64_okL : ∀ r ∈ [mul64Row, add64Row], RowOk Try.prog r := List.forall_mem_cons.2 ⟨mul64_ok, List.forall_mem_cons.2 ⟨add64_ok, fun _ h => by cases h⟩⟩
noncomputable def TLm : CallT := tableT [mul64Row, add64Row]
theorem TLm_ok : CallOk Try.prog TLm := tableT_ok mul64_okL
end Go.Proofs.Ythceokldlinjlaa
