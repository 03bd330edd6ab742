/-
  Multiples of points, reckoned: by doubling and adding, with a test for 0 that can be reckoned. The base points are of order r.
-/
import Derived.Test.YthceokldlinjlaaSb
namespace Go.Alg

section
variable {K : Type} [CRing K]
def jaddT (tz : K → Bool) (f : Jc K) (qx qy : K) : Jc K := match tz f.z with
  | true => ⟨qx, qy, 1⟩
  | false => match tz (qx * (f.z * f.z) - f.x) with
    | true => match tz (qy * (f.z * f.z * f.z) - f.y) with
      | true => jdbl f
      | false => ⟨0, 0, 0⟩
    | false => jplus f qx qy
theorem jaddT_eq {tz : K → Bool} (ht : ∀ x, tz x = true ↔ x = 0) (f : Jc K) (qx qy : K) : jaddT tz f qx qy = jadd f qx qy := by
  unfold jaddT jadd
  have hf : ∀ x, tz x = false → ¬ x = 0 := fun x h e => by have := (ht x).2 e; rw [h] at this; cases this
  cases h1 : tz f.z with
  | true => rw [if_pos ((ht _).1 h1)]
  | false =>
    rw [if_neg (hf _ h1)]
    cases h2 : tz (qx * (f.z * f.z) - f.x) with
    | true =>
      rw [if_pos ((ht _).1 h2)]
      cases h3 : tz (qy * (f.z * f.z * f.z) - f.y) with
      | true => rw [if_pos ((ht _).1 h3)]
      | false => rw [if_neg (hf _ h3)]
    | false => rw [if_neg (hf _ h2)]
/-- So many times a point, from the bit below on. -/
def jmul (tz : K → Bool) (m : Nat) (qx qy : K) : Nat → Jc K → Jc K
  | 0, s => s
  | j + 1, s => jmul tz m qx qy j (match Nat.beq (m / 2 ^ j % 2) 1 with
    | true => jaddT tz (jdbl s) qx qy
    | false => jdbl s)
end
theorem half_eq (m j : Nat) : m / 2 ^ j = 2 * (m / 2 ^ (j + 1)) + m / 2 ^ j % 2 := by
  have : m / 2 ^ (j + 1) = m / 2 ^ j / 2 := by rw [Nat.pow_succ, Nat.div_div_eq_div_mul]
  omega
section
variable {K : Type} [CRing K] [IsField K] {b : K}
theorem jmul_rep (C : Cv K b) {tz : K → Bool} (ht : ∀ x, tz x = true ↔ x = 0) {m : Nat} {qx qy : K} (hq : On b (.aff qx qy)) : ∀ j s, Rep s (smul (m / 2 ^ j) (.aff qx qy)) → Rep (jmul tz m qx qy j s) (smul m (.aff qx qy)) := by
  intro j
  induction j with
  | zero => intro s h; rw [Nat.pow_zero, Nat.div_one] at h; exact h
  | succ j ih =>
    intro s h
    refine ih _ ?_
    have hd := rep_dbl C (on_smul C hq _) h
    rw [← smul_two C hq] at hd
    have e := half_eq m j
    rcases Nat.mod_two_eq_zero_or_one (m / 2 ^ j) with h0 | h0
    · have hb : Nat.beq (m / 2 ^ j % 2) 1 = false := by rw [h0]; rfl
      rw [hb, e, h0]
      exact hd
    · have hb : Nat.beq (m / 2 ^ j % 2) 1 = true := by rw [h0]; rfl
      rw [hb, e, h0]
      show Rep (jaddT tz (jdbl s) qx qy) (padd (smul (2 * (m / 2 ^ (j + 1))) _) _)
      rw [jaddT_eq ht]
      exact rep_add C (on_smul C hq _) hq hd
theorem jmul_of (C : Cv K b) {tz : K → Bool} (ht : ∀ x, tz x = true ↔ x = 0) {m : Nat} {qx qy : K} (hq : On b (.aff qx qy)) (g : Nat) (hg : m < 2 ^ g) : Rep (jmul tz m qx qy g ⟨0, 0, 0⟩) (smul m (.aff qx qy)) := by
  refine jmul_rep C ht hq g _ ?_
  rw [Nat.div_eq_of_lt hg]
  exact rfl
theorem jmul_inf (C : Cv K b) {tz : K → Bool} (ht : ∀ x, tz x = true ↔ x = 0) {m : Nat} {qx qy : K} (hq : On b (.aff qx qy)) (g : Nat) (hg : m < 2 ^ g) (h : tz (jmul tz m qx qy g ⟨0, 0, 0⟩).z = true) : smul m (.aff qx qy) = .inf := by
  have hr := jmul_of C ht hq g hg
  have hz := (ht _).1 h
  cases hs : smul m (.aff qx qy) with
  | inf => rfl
  | aff x y => rw [hs] at hr; exact absurd hz hr.1
theorem jmul_ne (C : Cv K b) {tz : K → Bool} (ht : ∀ x, tz x = true ↔ x = 0) {m : Nat} {qx qy : K} (hq : On b (.aff qx qy)) (g : Nat) (hg : m < 2 ^ g) (h : tz (jmul tz m qx qy g ⟨0, 0, 0⟩).z = false) : smul m (.aff qx qy) ≠ .inf := by
  intro e
  have hr := jmul_of C ht hq g hg
  rw [e] at hr
  have := (ht _).2 hr
  rw [h] at this; cases this
/-- Is a fraction this point? -/
def jis (tz : K → Bool) (f : Jc K) (x y : K) : Bool := !(tz f.z) && (tz (f.x - x * (f.z * f.z)) && tz (f.y - y * (f.z * f.z * f.z)))
theorem jmul_is (C : Cv K b) {tz : K → Bool} (ht : ∀ x, tz x = true ↔ x = 0) {m : Nat} {qx qy x y : K} (hq : On b (.aff qx qy)) (g : Nat) (hg : m < 2 ^ g) (h : jis tz (jmul tz m qx qy g ⟨0, 0, 0⟩) x y = true) : smul m (.aff qx qy) = .aff x y := by
  have hr := jmul_of C ht hq g hg
  generalize jmul tz m qx qy g ⟨0, 0, 0⟩ = f at h hr
  unfold jis at h
  rw [Bool.and_eq_true, Bool.and_eq_true, Bool.not_eq_true', ht, ht] at h
  obtain ⟨h1, h2, h3⟩ := h
  have hz : f.z ≠ 0 := fun e => by have := (ht _).2 e; rw [h1] at this; cases this
  have hr2 : Rep f (.aff x y) := ⟨hz, eq_of_sub h2, eq_of_sub h3⟩
  rw [← rep_pt hr, rep_pt hr2]
end
end Go.Alg
namespace Go.Proofs.Ythceokldlinjlaa
open Go Go.Eng Go.RowKit Go.Wd Go.Alg Go.Pr

def tz1 (x : F) : Bool := Nat.beq x.val 0
def tz2 (x : F2) : Bool := Nat.beq x.a.val 0 && Nat.beq x.b.val 0
theorem tz1_iff (x : F) : tz1 x = true ↔ x = 0 := by
  unfold tz1
  rw [Nat.beq_eq]
  exact ⟨fun h => κF1_inj (h.trans κz1z), fun h => by rw [h]; exact κz1z.symm⟩
theorem tz2_iff (x : F2) : tz2 x = true ↔ x = 0 := by
  unfold tz2
  rw [Bool.and_eq_true, Nat.beq_eq, Nat.beq_eq]
  constructor
  · intro h
    exact κ2_inj (by rw [← κz2z]; exact Prod.ext h.1 h.2)
  · intro h
    subst h
    have : κ2 0 = (0, 0) := κz2z.symm
    exact ⟨congrArg Prod.fst this, congrArg Prod.snd this⟩
def bx1 : F := φ base1.1.1
def by1 : F := φ base1.1.2
def bx2 : F2 := ι2 base2.1.1
def by2 : F2 := ι2 base2.1.2
theorem ιbase1 : ιP1 base1 = .aff bx1 by1 := rfl
theorem ιbase2 : ιP2 base2 = .aff bx2 by2 := rfl
theorem r_lt : rNum < 2 ^ 255 := by decide +kernel
theorem base1_r : smul rNum (ιP1 base1) = .inf := jmul_inf cv1 tz1_iff base1_On 255 r_lt (by decide +kernel)
theorem base2_r : smul rNum (ιP2 base2) = .inf := jmul_inf cv2 tz2_iff base2_On 255 r_lt (by decide +kernel)
theorem base1_in : inB1 base1 = true := (inB1_iff _).2 ⟨base1_On, base1_r⟩
theorem base2_in : inB2 base2 = true := (inB2_iff _).2 ⟨base2_On, base2_r⟩
end Go.Proofs.Ythceokldlinjlaa
