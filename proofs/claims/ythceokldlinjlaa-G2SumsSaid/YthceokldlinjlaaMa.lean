/-
  Plain numbers: primes, Fermat's little theorem, Pocklington's step.
-/

namespace Go.Pr

/-- A prime. -/
def Prime (p : Nat) : Prop := 2 ≤ p ∧ ∀ d, d ∣ p → d = 1 ∨ d = p
theorem Prime.two_le {p : Nat} (h : Prime p) : 2 ≤ p := h.1
theorem Prime.coprime {p a : Nat} (h : Prime p) (ha : ¬ p ∣ a) : Nat.Coprime p a := by
  rcases h.2 (Nat.gcd p a) (Nat.gcd_dvd_left p a) with e | e
  · exact e
  · exact absurd (e ▸ Nat.gcd_dvd_right p a) ha
theorem Prime.dvd_mul {p a b : Nat} (h : Prime p) (hd : p ∣ a * b) : p ∣ a ∨ p ∣ b := by
  by_cases ha : p ∣ a
  · exact .inl ha
  · exact .inr ((h.coprime ha).dvd_of_dvd_mul_left hd)
/-- Every number from 2 on has a prime that divides it. -/
theorem exists_prime : ∀ n, 2 ≤ n → ∃ r, Prime r ∧ r ∣ n := by
  intro n
  induction n using Nat.strongRecOn with
  | ind n ih =>
    intro hn
    by_cases h : Prime n
    · exact ⟨n, h, Nat.dvd_refl n⟩
    · have : ∃ d, d ∣ n ∧ d ≠ 1 ∧ d ≠ n := by
        refine Classical.byContradiction fun hc => h ⟨hn, fun d hd => ?_⟩
        refine Classical.byContradiction fun h2 => hc ⟨d, hd, fun e => h2 (.inl e), fun e => h2 (.inr e)⟩
      obtain ⟨d, hd, h1, h2⟩ := this
      have hpos : 0 < n := by omega
      have hle := Nat.le_of_dvd hpos hd
      have hd0 : 0 < d := Nat.pos_of_dvd_of_pos hd hpos
      obtain ⟨r, hr, hrd⟩ := ih d (by omega) (by omega)
      exact ⟨r, hr, Nat.dvd_trans hrd hd⟩
end Go.Pr
/-
  Rings that commute, and a check of their identities by numbers.
-/
namespace Go.Alg

/-- The operations alone. -/
class Ops (R : Type) where
  zero : R
  one : R
  add : R → R → R
  mul : R → R → R
  neg : R → R
instance (priority := low) {R : Type} [Ops R] : Add R := ⟨Ops.add⟩
instance (priority := low) {R : Type} [Ops R] : Mul R := ⟨Ops.mul⟩
instance (priority := low) {R : Type} [Ops R] : Neg R := ⟨Ops.neg⟩
instance (priority := low) {R : Type} [Ops R] : Sub R := ⟨fun a b => Ops.add a (Ops.neg b)⟩
instance (priority := low) {R : Type} [Ops R] : OfNat R 0 := ⟨Ops.zero⟩
instance (priority := low) {R : Type} [Ops R] : OfNat R 1 := ⟨Ops.one⟩
/-- A commutative ring. -/
class CRing (R : Type) extends Ops R where
  add_comm : ∀ a b : R, a + b = b + a
  add_assoc : ∀ a b c : R, a + b + c = a + (b + c)
  add_zero : ∀ a : R, a + 0 = a
  add_neg : ∀ a : R, a + -a = 0
  mul_comm : ∀ a b : R, a * b = b * a
  mul_assoc : ∀ a b c : R, a * b * c = a * (b * c)
  mul_one : ∀ a : R, a * 1 = a
  mul_add : ∀ a b c : R, a * (b + c) = a * b + a * c

section basics
variable {R : Type} [CRing R]
theorem add_comm (a b : R) : a + b = b + a := CRing.add_comm a b
theorem add_assoc (a b c : R) : a + b + c = a + (b + c) := CRing.add_assoc a b c
theorem add_zero (a : R) : a + 0 = a := CRing.add_zero a
theorem zero_add (a : R) : 0 + a = a := by rw [add_comm, add_zero]
theorem add_neg (a : R) : a + -a = 0 := CRing.add_neg a
theorem neg_add (a : R) : -a + a = 0 := by rw [add_comm, add_neg]
theorem mul_comm (a b : R) : a * b = b * a := CRing.mul_comm a b
theorem mul_assoc (a b c : R) : a * b * c = a * (b * c) := CRing.mul_assoc a b c
theorem mul_one (a : R) : a * 1 = a := CRing.mul_one a
theorem one_mul (a : R) : 1 * a = a := by rw [mul_comm, mul_one]
theorem mul_add (a b c : R) : a * (b + c) = a * b + a * c := CRing.mul_add a b c
theorem add_mul (a b c : R) : (a + b) * c = a * c + b * c := by rw [mul_comm, mul_add, mul_comm c, mul_comm c]
theorem add_left_comm (a b c : R) : a + (b + c) = b + (a + c) := by rw [← add_assoc, add_comm a b, add_assoc]
theorem mul_left_comm (a b c : R) : a * (b * c) = b * (a * c) := by rw [← mul_assoc, mul_comm a b, mul_assoc]
theorem add_left_cancel {a b c : R} (h : a + b = a + c) : b = c := by
  have : -a + (a + b) = -a + (a + c) := by rw [h]
  rwa [← add_assoc, ← add_assoc, neg_add, zero_add, zero_add] at this
theorem mul_zero (a : R) : a * 0 = 0 := by
  have : a * 0 + a * 0 = a * 0 + 0 := by rw [← mul_add, add_zero, add_zero]
  exact add_left_cancel this
theorem zero_mul (a : R) : 0 * a = 0 := by rw [mul_comm, mul_zero]
theorem neg_unique {a b : R} (h : a + b = 0) : b = -a := add_left_cancel (h.trans (add_neg a).symm)
theorem neg_neg (a : R) : - -a = a := (neg_unique (neg_add a)).symm
theorem neg_zero : -(0 : R) = 0 := (neg_unique (add_zero 0)).symm
theorem neg_mul (a b : R) : -a * b = -(a * b) := neg_unique (by rw [← add_mul, add_neg, zero_mul])
theorem mul_neg (a b : R) : a * -b = -(a * b) := by rw [mul_comm, neg_mul, mul_comm]
theorem neg_add_rev (a b : R) : -(a + b) = -a + -b := (neg_unique (by rw [add_assoc, add_left_comm b, ← add_assoc, add_neg, zero_add, add_neg])).symm
theorem sub_def (a b : R) : a - b = a + -b := rfl
theorem sub_self (a : R) : a - a = 0 := add_neg a
theorem sub_eq_zero {a b : R} : a - b = 0 ↔ a = b := by
  constructor
  · intro h
    have : a + -b = 0 := h
    have h2 := neg_unique (a := -b) (b := a) (by rw [add_comm]; exact this)
    rw [h2, neg_neg]
  · intro h; rw [h]; exact sub_self b
end basics
end Go.Alg
/-
  Identities of commutative rings, decided by numbers.
-/
namespace Go.Alg
section casts
variable {R : Type} [CRing R]
def nat : Nat → R
  | 0 => 0
  | n + 1 => nat n + 1
def int : Int → R
  | .ofNat n => nat n
  | .negSucc n => -(nat (n + 1))
theorem nat_add (a b : Nat) : (nat (a + b) : R) = nat a + nat b := by
  induction b with
  | zero => exact (add_zero _).symm
  | succ b ih => show nat (a + b) + 1 = nat a + (nat b + 1); rw [ih, add_assoc]
theorem nat_mul (a b : Nat) : (nat (a * b) : R) = nat a * nat b := by
  induction b with
  | zero => exact (mul_zero _).symm
  | succ b ih => rw [Nat.mul_succ, nat_add, ih]; show _ = nat a * (nat b + 1); rw [mul_add, mul_one]
theorem int_sub (a b : Nat) : (int (Int.subNatNat a b) : R) = nat a + -nat b := by
  unfold Int.subNatNat
  split
  · rename_i h
    have e : a = a - b + b := by omega
    show nat (a - b) = _
    rw [e, nat_add, Nat.add_sub_cancel, add_assoc, add_neg, add_zero]
  · rename_i k h
    have e : b = a + (k + 1) := by omega
    show -(nat (k + 1)) = _
    rw [e, nat_add a (k + 1), neg_add_rev, ← add_assoc, add_neg, zero_add]
theorem int_add (a b : Int) : (int (a + b) : R) = int a + int b := by
  cases a with
  | ofNat m => cases b with
    | ofNat n => exact nat_add m n
    | negSucc n => exact int_sub m (n + 1)
  | negSucc m => cases b with
    | ofNat n => show int (Int.subNatNat n (m + 1)) = _; rw [int_sub, add_comm]; rfl
    | negSucc n =>
      show -(nat (m + n + 1 + 1)) = -(nat (m + 1)) + -(nat (n + 1))
      rw [← neg_add_rev, ← nat_add, show m + n + 1 + 1 = m + 1 + (n + 1) by omega]
theorem int_negOfNat (n : Nat) : (int (Int.negOfNat n) : R) = -(nat n) := by
  cases n with
  | zero => show nat 0 = -(nat 0); exact neg_zero.symm
  | succ n => rfl
theorem int_mul (a b : Int) : (int (a * b) : R) = int a * int b := by
  cases a with
  | ofNat m => cases b with
    | ofNat n => exact nat_mul m n
    | negSucc n => show int (Int.negOfNat (m * (n + 1))) = nat m * -(nat (n + 1)); rw [int_negOfNat, nat_mul, mul_neg]
  | negSucc m => cases b with
    | ofNat n => show int (Int.negOfNat ((m + 1) * n)) = -(nat (m + 1)) * nat n; rw [int_negOfNat, nat_mul, neg_mul]
    | negSucc n => show nat ((m + 1) * (n + 1)) = -(nat (m + 1)) * -(nat (n + 1)); rw [nat_mul, neg_mul, mul_neg, neg_neg]
theorem int_neg (a : Int) : (int (-a) : R) = -(int a) := by
  have : (int (a + -a) : R) = int a + int (-a) := int_add a (-a)
  rw [Int.add_right_neg] at this
  exact neg_unique this.symm
theorem int_zero : (int 0 : R) = 0 := rfl
theorem int_one : (int 1 : R) = 1 := zero_add 1
end casts

/-- Expressions. -/
inductive Ex where
  | v (i : Nat)
  | zero
  | one
  | add (a b : Ex)
  | mul (a b : Ex)
  | neg (a : Ex)
instance : Ops Ex := ⟨.zero, .one, .add, .mul, .neg⟩
def Ex.den {R : Type} [Ops R] (ρ : Nat → R) : Ex → R
  | .v i => ρ i
  | .zero => Ops.zero
  | .one => Ops.one
  | .add a b => Ops.add (a.den ρ) (b.den ρ)
  | .mul a b => Ops.mul (a.den ρ) (b.den ρ)
  | .neg a => Ops.neg (a.den ρ)
def cmpM : List Nat → List Nat → Ordering
  | [], [] => .eq
  | [], _ :: _ => .lt
  | _ :: _, [] => .gt
  | a :: l, b :: m => match Nat.beq a b with
    | true => cmpM l m
    | false => match Nat.blt a b with
      | true => .lt
      | false => .gt
theorem cmpM_eq : ∀ l m, cmpM l m = .eq → l = m := by
  intro l
  induction l with
  | nil => intro m h; cases m with
    | nil => rfl
    | cons b m => cases h
  | cons a l ih => intro m h; cases m with
    | nil => cases h
    | cons b m =>
      simp only [cmpM] at h
      split at h
      · rename_i e; rw [Nat.eq_of_beq_eq_true e, ih m h]
      · split at h <;> cases h
def insM (i : Nat) : List Nat → List Nat
  | [] => [i]
  | j :: l => match Nat.blt j i with
    | true => j :: insM i l
    | false => i :: j :: l
def mulM (l m : List Nat) : List Nat := l.foldr insM m
abbrev Poly := List (Int × List Nat)
def isZ (c : Int) : Bool := match c with
  | .ofNat 0 => true
  | _ => false
theorem isZ_eq {c : Int} (h : isZ c = true) : c = 0 := by
  unfold isZ at h
  split at h
  · rfl
  · cases h
def ins (c : Int) (m : List Nat) : Poly → Poly
  | [] => match isZ c with
    | true => []
    | false => [(c, m)]
  | (d, k) :: p => match cmpM m k with
    | .eq => match isZ (c + d) with
      | true => p
      | false => (c + d, k) :: p
    | .lt => match isZ c with
      | true => (d, k) :: p
      | false => (c, m) :: (d, k) :: p
    | .gt => (d, k) :: ins c m p
def addP (p q : Poly) : Poly := p.foldr (fun t r => ins t.1 t.2 r) q
def mulT (c : Int) (m : List Nat) (q r : Poly) : Poly := q.foldr (fun t r => ins (c * t.1) (mulM m t.2) r) r
def mulP (p q : Poly) : Poly := p.foldr (fun t r => mulT t.1 t.2 q r) []
def negP (p : Poly) : Poly := p.map fun t => (-t.1, t.2)
def Ex.nf : Ex → Poly
  | .v i => [(1, [i])]
  | .zero => []
  | .one => [(1, [])]
  | .add a b => addP a.nf b.nf
  | .mul a b => mulP a.nf b.nf
  | .neg a => negP a.nf
def eqM : List Nat → List Nat → Bool
  | [], [] => true
  | a :: l, b :: m => Nat.beq a b && eqM l m
  | _, _ => false
def eqI : Int → Int → Bool
  | .ofNat a, .ofNat b => Nat.beq a b
  | .negSucc a, .negSucc b => Nat.beq a b
  | _, _ => false
def eqP : Poly → Poly → Bool
  | [], [] => true
  | (c, l) :: p, (d, m) :: q => eqI c d && (eqM l m && eqP p q)
  | _, _ => false
theorem eqM_eq : ∀ l m, eqM l m = true → l = m := by
  intro l
  induction l with
  | nil => intro m h; cases m with
    | nil => rfl
    | cons b m => cases h
  | cons a l ih => intro m h; cases m with
    | nil => cases h
    | cons b m =>
      simp only [eqM, Bool.and_eq_true] at h
      rw [Nat.eq_of_beq_eq_true h.1, ih m h.2]
theorem eqI_eq : ∀ a b, eqI a b = true → a = b := by
  intro a b h
  cases a <;> cases b <;> simp only [eqI] at h <;> first | (rw [Nat.eq_of_beq_eq_true h]) | cases h
theorem eqP_eq : ∀ p q, eqP p q = true → p = q := by
  intro p
  induction p with
  | nil => intro q h; cases q with
    | nil => rfl
    | cons b m => cases h
  | cons a l ih => intro q h; cases q with
    | nil => cases h
    | cons b m =>
      obtain ⟨c, k⟩ := a
      obtain ⟨d, n⟩ := b
      simp only [eqP, Bool.and_eq_true] at h
      rw [eqI_eq _ _ h.1, eqM_eq _ _ h.2.1, ih m h.2.2]

section sound
variable {R : Type} [CRing R] (ρ : Nat → R)
def denM (l : List Nat) : R := l.foldr (fun i r => ρ i * r) 1
def denP (p : Poly) : R := p.foldr (fun t r => int t.1 * denM ρ t.2 + r) 0
theorem denM_cons (i : Nat) (l : List Nat) : denM ρ (i :: l) = ρ i * denM ρ l := rfl
theorem denP_cons (t : Int × List Nat) (p : Poly) : denP ρ (t :: p) = int t.1 * denM ρ t.2 + denP ρ p := rfl
theorem den_insM (i : Nat) (l : List Nat) : denM ρ (insM i l) = ρ i * denM ρ l := by
  induction l with
  | nil => rfl
  | cons j l ih =>
    simp only [insM]
    split
    · rw [denM_cons, ih, denM_cons, mul_left_comm]
    · rfl
theorem den_mulM (l m : List Nat) : denM ρ (mulM l m) = denM ρ l * denM ρ m := by
  induction l with
  | nil => exact (one_mul _).symm
  | cons i l ih =>
    show denM ρ (insM i (mulM l m)) = _
    rw [den_insM, ih, denM_cons, mul_assoc]
theorem den_ins (c : Int) (m : List Nat) (p : Poly) : denP ρ (ins c m p) = int c * denM ρ m + denP ρ p := by
  induction p with
  | nil =>
    simp only [ins]
    split
    · rename_i h; rw [isZ_eq h, int_zero, zero_mul, zero_add]
    · rfl
  | cons t p ih =>
    obtain ⟨d, k⟩ := t
    simp only [ins]
    split
    · rename_i h
      have e := cmpM_eq _ _ h
      subst e
      split
      · rename_i h2
        rw [denP_cons, ← add_assoc, ← add_mul, ← int_add, isZ_eq h2, int_zero, zero_mul, zero_add]
      · rw [denP_cons, denP_cons, ← add_assoc, ← add_mul, ← int_add]
    · split
      · rename_i h2; rw [isZ_eq h2, int_zero, zero_mul, zero_add]
      · rfl
    · rw [denP_cons, ih, denP_cons, add_left_comm]
theorem den_addP (p q : Poly) : denP ρ (addP p q) = denP ρ p + denP ρ q := by
  induction p with
  | nil => exact (zero_add _).symm
  | cons t p ih =>
    show denP ρ (ins t.1 t.2 (addP p q)) = _
    rw [den_ins, ih, denP_cons, add_assoc]
theorem den_mulT (c : Int) (m : List Nat) (q r : Poly) : denP ρ (mulT c m q r) = int c * denM ρ m * denP ρ q + denP ρ r := by
  induction q with
  | nil => show denP ρ r = _ * 0 + _; rw [mul_zero, zero_add]
  | cons t q ih =>
    show denP ρ (ins (c * t.1) (mulM m t.2) (mulT c m q r)) = _
    rw [den_ins, ih, denP_cons, den_mulM, int_mul, mul_add, add_assoc]
    congr 1
    rw [mul_assoc, mul_assoc, mul_left_comm (int t.1)]
theorem den_mulP (p q : Poly) : denP ρ (mulP p q) = denP ρ p * denP ρ q := by
  induction p with
  | nil => exact (zero_mul _).symm
  | cons t p ih =>
    show denP ρ (mulT t.1 t.2 q (mulP p q)) = _
    rw [den_mulT, ih, denP_cons, add_mul]
theorem den_negP (p : Poly) : denP ρ (negP p) = -(denP ρ p) := by
  induction p with
  | nil => exact neg_zero.symm
  | cons t p ih =>
    show int (-t.1) * denM ρ t.2 + denP ρ (negP p) = _
    rw [ih, int_neg, neg_mul, denP_cons, neg_add_rev]
theorem den_nf (e : Ex) : e.den ρ = denP ρ e.nf := by
  induction e with
  | v i => show ρ i = int 1 * (ρ i * 1) + 0; rw [int_one, one_mul, mul_one, add_zero]
  | zero => rfl
  | one => show (1 : R) = int 1 * 1 + 0; rw [int_one, one_mul, add_zero]
  | add a b iha ihb => show a.den ρ + b.den ρ = _; rw [iha, ihb]; exact (den_addP ρ _ _).symm
  | mul a b iha ihb => show a.den ρ * b.den ρ = _; rw [iha, ihb]; exact (den_mulP ρ _ _).symm
  | neg a ih => show -(a.den ρ) = _; rw [ih]; exact (den_negP ρ _).symm
/-- An identity. -/
theorem ident (a b : Ex) (h : eqP a.nf b.nf = true) : a.den ρ = b.den ρ := by
  rw [den_nf, den_nf, eqP_eq _ _ h]
end sound
def env {R : Type} [Ops R] : List R → Nat → R
  | [], _ => Ops.zero
  | a :: _, 0 => a
  | _ :: l, i + 1 => env l i
end Go.Alg
/-
  Numbers modulo n.
-/
namespace Go.Alg
/-- A number below n. -/
structure Z (n : Nat) where
  val : Nat
  lt : val < n
theorem Z.ext {n : Nat} {a b : Z n} (h : a.val = b.val) : a = b := by
  cases a; cases b; cases h; rfl
class Pos (n : Nat) : Prop where
  pos : 0 < n
def Z.of (n : Nat) [Pos n] (k : Nat) : Z n := ⟨k % n, Nat.mod_lt _ Pos.pos⟩
instance (priority := low) {n : Nat} [Pos n] : Ops (Z n) where
  zero := Z.of n 0
  one := Z.of n 1
  add a b := Z.of n (a.val + b.val)
  mul a b := Z.of n (a.val * b.val)
  neg a := Z.of n (n - a.val)
theorem Z.of_val {n : Nat} [Pos n] (a : Z n) : Z.of n a.val = a := Z.ext (Nat.mod_eq_of_lt a.lt)
theorem Z.of_eq {n : Nat} [Pos n] {a b : Nat} : Z.of n a = Z.of n b ↔ a % n = b % n := ⟨fun h => congrArg Z.val h, fun h => Z.ext h⟩
theorem Z.of_add {n : Nat} [Pos n] (a b : Nat) : Z.of n (a + b) = Z.of n a + Z.of n b := Z.ext (Nat.add_mod a b n)
theorem Z.of_mul {n : Nat} [Pos n] (a b : Nat) : Z.of n (a * b) = Z.of n a * Z.of n b := Z.ext (Nat.mul_mod a b n)
theorem Z.of_n {n : Nat} [Pos n] : Z.of n n = 0 := Z.ext (by show n % n = 0 % n; rw [Nat.mod_self, Nat.zero_mod])
theorem Z.neg_def {n : Nat} [Pos n] (a : Z n) : -a = Z.of n (n - a.val) := rfl
instance {n : Nat} [Pos n] : CRing (Z n) where
  add_comm a b := Z.ext (by show (a.val + b.val) % n = (b.val + a.val) % n; rw [Nat.add_comm])
  add_assoc a b c := by rw [← Z.of_val a, ← Z.of_val b, ← Z.of_val c, ← Z.of_add, ← Z.of_add, ← Z.of_add, ← Z.of_add, Nat.add_assoc]
  add_zero a := by
    show a + Z.of n 0 = a
    rw [← Z.of_val a, ← Z.of_add, Nat.add_zero]
  add_neg a := by
    rw [Z.neg_def, ← Z.of_val a, ← Z.of_add]
    have := a.lt
    rw [Z.of_val, show a.val + (n - a.val) = n by omega, Z.of_n]
  mul_comm a b := Z.ext (by show a.val * b.val % n = b.val * a.val % n; rw [Nat.mul_comm])
  mul_assoc a b c := by rw [← Z.of_val a, ← Z.of_val b, ← Z.of_val c, ← Z.of_mul, ← Z.of_mul, ← Z.of_mul, ← Z.of_mul, Nat.mul_assoc]
  mul_one a := by
    show a * Z.of n 1 = a
    rw [← Z.of_val a, ← Z.of_mul, Nat.mul_one]
  mul_add a b c := by rw [← Z.of_val a, ← Z.of_val b, ← Z.of_val c, ← Z.of_add, ← Z.of_mul, ← Z.of_mul, ← Z.of_mul, ← Z.of_add, Nat.mul_add]
end Go.Alg
/-
  Powers; the power of a prime of a sum, where that prime is 0.
-/
namespace Go.Alg
open Go.Pr
section pows
variable {R : Type} [CRing R]
def pow (a : R) : Nat → R
  | 0 => 1
  | n + 1 => pow a n * a
theorem pow_zero (a : R) : pow a 0 = 1 := rfl
theorem pow_succ (a : R) (n : Nat) : pow a (n + 1) = pow a n * a := rfl
theorem pow_one (a : R) : pow a 1 = a := one_mul a
theorem pow_add (a : R) (m n : Nat) : pow a (m + n) = pow a m * pow a n := by
  induction n with
  | zero => exact (mul_one _).symm
  | succ n ih => show pow a (m + n) * a = _; rw [ih, pow_succ, mul_assoc]
theorem pow_mul (a : R) (m n : Nat) : pow a (m * n) = pow (pow a m) n := by
  induction n with
  | zero => rfl
  | succ n ih => rw [Nat.mul_succ, pow_add, ih, pow_succ]
theorem one_pow (n : Nat) : pow (1 : R) n = 1 := by
  induction n with
  | zero => rfl
  | succ n ih => rw [pow_succ, ih, mul_one]
theorem zero_pow {n : Nat} (h : n ≠ 0) : pow (0 : R) n = 0 := by
  cases n with
  | zero => exact absurd rfl h
  | succ n => rw [pow_succ, mul_zero]
theorem mul_pow (a b : R) (n : Nat) : pow (a * b) n = pow a n * pow b n := by
  induction n with
  | zero => exact (mul_one _).symm
  | succ n ih => rw [pow_succ, pow_succ, pow_succ, ih, mul_assoc, mul_assoc, mul_left_comm (pow b n)]
def sum (f : Nat → R) : Nat → R
  | 0 => 0
  | n + 1 => sum f n + f n
theorem sum_add (f g : Nat → R) (n : Nat) : sum (fun k => f k + g k) n = sum f n + sum g n := by
  induction n with
  | zero => exact (add_zero _).symm
  | succ n ih => show sum _ n + (f n + g n) = sum f n + f n + (sum g n + g n); rw [ih, add_assoc, add_assoc, add_left_comm (sum g n)]
theorem sum_mul (f : Nat → R) (c : R) (n : Nat) : c * sum f n = sum (fun k => c * f k) n := by
  induction n with
  | zero => exact mul_zero c
  | succ n ih => show c * (sum f n + f n) = _ + _; rw [mul_add, ih]
theorem sum_congr {f g : Nat → R} (n : Nat) (h : ∀ k, k < n → f k = g k) : sum f n = sum g n := by
  induction n with
  | zero => rfl
  | succ n ih => show sum f n + f n = sum g n + g n; rw [ih fun k hk => h k (by omega), h n (by omega)]
theorem sum_first (f : Nat → R) (n : Nat) : sum f (n + 1) = f 0 + sum (fun k => f (k + 1)) n := by
  induction n with
  | zero => exact add_comm _ _
  | succ n ih => show sum f (n + 1) + f (n + 1) = _; rw [ih, add_assoc]; rfl
theorem sum_zero {f : Nat → R} (n : Nat) (h : ∀ k, k < n → f k = 0) : sum f n = 0 := by
  induction n with
  | zero => rfl
  | succ n ih => show sum f n + f n = 0; rw [ih fun k hk => h k (by omega), h n (by omega), add_zero]
end pows
def choose : Nat → Nat → Nat
  | _, 0 => 1
  | 0, _ + 1 => 0
  | n + 1, k + 1 => choose n k + choose n (k + 1)
theorem choose_zero (n : Nat) : choose n 0 = 1 := by cases n <;> rfl
theorem choose_big : ∀ n k, n < k → choose n k = 0 := by
  intro n
  induction n with
  | zero => intro k h; cases k with
    | zero => omega
    | succ k => rfl
  | succ n ih => intro k h; cases k with
    | zero => omega
    | succ k => show choose n k + choose n (k + 1) = 0; rw [ih k (by omega), ih (k + 1) (by omega)]
theorem choose_self (n : Nat) : choose n n = 1 := by
  induction n with
  | zero => rfl
  | succ n ih => show choose n n + choose n (n + 1) = 1; rw [ih, choose_big n (n + 1) (by omega)]
theorem choose_absorb : ∀ n k, (k + 1) * choose (n + 1) (k + 1) = (n + 1) * choose n k := by
  intro n
  induction n with
  | zero => intro k; cases k with
    | zero => rfl
    | succ k => show (k + 2) * (choose 0 (k + 1) + choose 0 (k + 2)) = 1 * choose 0 (k + 1); simp [choose]
  | succ n ih =>
    intro k
    show (k + 1) * (choose (n + 1) k + choose (n + 1) (k + 1)) = (n + 2) * choose (n + 1) k
    rw [Nat.mul_add, ih k]
    cases k with
    | zero => rw [choose_zero, choose_zero]; omega
    | succ k =>
      have := ih k
      show (k + 2) * choose (n + 1) (k + 1) + (n + 1) * choose n (k + 1) = (n + 2) * choose (n + 1) (k + 1)
      have e : choose (n + 1) (k + 1) = choose n k + choose n (k + 1) := rfl
      have h1 : (k + 2) * choose (n + 1) (k + 1) = (k + 1) * choose (n + 1) (k + 1) + choose (n + 1) (k + 1) := by rw [show k + 2 = k + 1 + 1 from rfl, Nat.add_mul (k + 1), Nat.one_mul]
      have h2 : (n + 2) * choose (n + 1) (k + 1) = (n + 1) * choose (n + 1) (k + 1) + choose (n + 1) (k + 1) := by rw [show n + 2 = n + 1 + 1 from rfl, Nat.add_mul (n + 1), Nat.one_mul]
      have h3 : (n + 1) * choose (n + 1) (k + 1) = (n + 1) * choose n k + (n + 1) * choose n (k + 1) := by rw [e, Nat.mul_add]
      omega
theorem prime_choose {p k : Nat} (hp : Prime p) (h0 : 0 < k) (h1 : k < p) : p ∣ choose p k := by
  obtain ⟨q, rfl⟩ : ∃ q, p = q + 1 := ⟨p - 1, by omega⟩
  obtain ⟨j, rfl⟩ : ∃ j, k = j + 1 := ⟨k - 1, by omega⟩
  have h := choose_absorb q j
  have hd : q + 1 ∣ (j + 1) * choose (q + 1) (j + 1) := ⟨choose q j, h⟩
  rcases hp.dvd_mul hd with e | e
  · have := Nat.le_of_dvd (by omega) e; omega
  · exact e
section bin
variable {R : Type} [CRing R]
def term (a b : R) (n k : Nat) : R := nat (choose n k) * (pow a k * pow b (n - k))
theorem binomial (a b : R) (n : Nat) : pow (a + b) n = sum (term a b n) (n + 1) := by
  induction n with
  | zero => show (1 : R) = 0 + (nat 1) * (1 * 1); rw [zero_add, mul_one, mul_one]; exact (zero_add _).symm
  | succ n ih =>
    rw [pow_succ, ih, mul_comm, add_mul, sum_mul, sum_mul, sum_first (term a b (n + 1)) (n + 1)]
    have e1 : sum (fun k => term a b (n + 1) (k + 1)) (n + 1) = sum (fun k => a * term a b n k) (n + 1) + sum (fun k => nat (choose n (k + 1)) * (pow a (k + 1) * pow b (n - k))) (n + 1) := by
      rw [← sum_add]
      refine sum_congr _ fun k hk => ?_
      show nat (choose n k + choose n (k + 1)) * (pow a (k + 1) * pow b (n + 1 - (k + 1))) = _
      rw [nat_add, add_mul, show n + 1 - (k + 1) = n - k by omega]
      congr 1
      unfold term
      rw [pow_succ, mul_left_comm a, mul_comm (pow a k) a, mul_assoc]
    have e2 : sum (fun k => b * term a b n k) (n + 1) = term a b (n + 1) 0 + sum (fun k => nat (choose n (k + 1)) * (pow a (k + 1) * pow b (n - k))) (n + 1) := by
      rw [sum_first (fun k => b * term a b n k) n]
      show _ = _ + (sum _ n + nat (choose n (n + 1)) * _)
      rw [choose_big n (n + 1) (by omega)]
      show _ = _ + (sum _ n + 0 * _)
      rw [zero_mul, add_zero]
      congr 1
      · unfold term
        rw [choose_zero, choose_zero, pow_zero, Nat.sub_zero, Nat.sub_zero, pow_succ, one_mul, one_mul, mul_left_comm b, mul_comm b]
      · refine sum_congr _ fun k hk => ?_
        show b * (nat (choose n (k + 1)) * (pow a (k + 1) * pow b (n - (k + 1)))) = _
        have : n - k = n - (k + 1) + 1 := by omega
        rw [this, pow_succ b, mul_left_comm b, mul_left_comm b, mul_comm b]
    rw [e1, e2, add_left_comm]
theorem nat_dvd {p c : Nat} (h0 : (nat p : R) = 0) (h : p ∣ c) : (nat c : R) = 0 := by
  obtain ⟨d, rfl⟩ := h
  rw [nat_mul, h0, zero_mul]
/-- The power of a prime that is 0, of a sum. -/
theorem dream {p : Nat} (hp : Prime p) (h0 : (nat p : R) = 0) (a b : R) : pow (a + b) p = pow a p + pow b p := by
  obtain ⟨q, rfl⟩ : ∃ q, p = q + 1 := ⟨p - 1, by have := hp.two_le; omega⟩
  rw [binomial]
  show sum (term a b (q + 1)) (q + 1) + term a b (q + 1) (q + 1) = _
  rw [sum_first, sum_zero q fun k hk => ?_]
  · unfold term
    rw [choose_zero, choose_self, add_zero, pow_zero, Nat.sub_self, Nat.sub_zero, pow_zero, add_comm]
    show nat 1 * _ + nat 1 * _ = _
    have e : (nat 1 : R) = 1 := zero_add 1
    rw [e, one_mul, one_mul, one_mul, mul_one]
  · unfold term
    rw [nat_dvd h0 (prime_choose hp (by omega) (by omega)), zero_mul]
end bin
end Go.Alg
/-
  Fermat's little theorem and Pocklington's step.
-/
namespace Go.Pr
open Go.Alg
/-- Powers modulo n, reckoned by bits from the highest. -/
theorem pos_of_prime {p : Nat} (h : Prime p) : 0 < p := by have := h.two_le; omega
theorem nat_of {n : Nat} [Pos n] (k : Nat) : (nat k : Z n) = Z.of n k := by
  induction k with
  | zero => rfl
  | succ k ih => show nat k + 1 = _; rw [ih, Z.of_add]; rfl
/-- Fermat. -/
theorem fermat {p : Nat} (hp : Prime p) [Pos p] : ∀ k, pow (Z.of p k) p = Z.of p k := by
  intro k
  induction k with
  | zero => exact zero_pow (by have := hp.two_le; omega)
  | succ k ih =>
    rw [Z.of_add, dream hp (by rw [nat_of, Z.of_n]), ih]
    congr 1
    exact one_pow p
theorem of_eq_zero {n : Nat} [Pos n] {k : Nat} : Z.of n k = 0 ↔ n ∣ k := by
  constructor
  · intro h
    have : k % n = 0 % n := congrArg Z.val h
    rw [Nat.zero_mod] at this
    exact Nat.dvd_of_mod_eq_zero this
  · intro h
    refine Z.ext ?_
    show k % n = 0 % n
    rw [Nat.mod_eq_zero_of_dvd h, Nat.zero_mod]
/-- Every number but 0 has an inverse. -/
theorem inv_exists {p : Nat} (hp : Prime p) [Pos p] (a : Z p) (ha : a ≠ 0) : a * pow a (p - 2) = 1 := by
  have h2 := hp.two_le
  have hf : pow a p = a := by have := fermat hp a.val; rwa [Z.of_val] at this
  have e : a * (a * pow a (p - 2) - 1) = 0 := by
    rw [sub_def, mul_add, mul_neg, mul_one, ← mul_assoc]
    have : pow a p = a * a * pow a (p - 2) := by
      have e : pow a p = pow a (p - 2 + 1 + 1) := congrArg (pow a) (by omega)
      rw [e, pow_succ, pow_succ, mul_comm _ a, mul_comm _ a, mul_assoc]
    rw [← this, hf, add_neg]
  -- no two numbers but 0 have the product 0
  have hd : ∀ x y : Z p, x * y = 0 → x = 0 ∨ y = 0 := by
    intro x y h
    rw [← Z.of_val x, ← Z.of_val y, ← Z.of_mul, of_eq_zero] at h
    rcases hp.dvd_mul h with h | h
    · left; rw [← Z.of_val x]; exact of_eq_zero.2 h
    · right; rw [← Z.of_val y]; exact of_eq_zero.2 h
  rcases hd _ _ e with h | h
  · exact absurd h ha
  · exact sub_eq_zero.1 h
theorem pow_gcd {n : Nat} [Pos n] {b : Z n} (m k : Nat) (h1 : pow b m = 1) (h2 : pow b k = 1) : pow b (Nat.gcd m k) = 1 := by
  induction m, k using Nat.gcd.induction with
  | H0 k => rw [Nat.gcd_zero_left]; exact h2
  | H1 m k hm ih =>
    rw [Nat.gcd_rec]
    refine ih ?_ h1
    have e := Nat.div_add_mod k m
    have : pow b k = pow b (m * (k / m)) * pow b (k % m) := by rw [← pow_add, e]
    rw [this, pow_mul, h1, one_pow, one_mul] at h2
    exact h2
/-- Powers modulo n, by squares. -/
def powm (n : Nat) : Nat → Nat → Nat → Nat → Nat
  | 0, _, _, acc => acc
  | f + 1, a, e, acc => powm n f (a * a % n) (e / 2) (match Nat.beq (e % 2) 1 with
    | true => acc * a % n
    | false => acc)
theorem of_mod {n : Nat} [Pos n] (k : Nat) : Z.of n (k % n) = Z.of n k := Z.ext (Nat.mod_mod k n)
theorem powm_spec {n : Nat} [Pos n] : ∀ f a e acc, e < 2 ^ f → Z.of n (powm n f a e acc) = Z.of n acc * pow (Z.of n a) e := by
  intro f
  induction f with
  | zero => intro a e acc h; simp at h; subst h; exact (mul_one _).symm
  | succ f ih =>
    intro a e acc h
    rw [powm, ih _ _ _ (by rw [Nat.pow_succ] at h; omega), of_mod, Z.of_mul]
    have e2 : pow (Z.of n a * Z.of n a) (e / 2) = pow (Z.of n a) (2 * (e / 2)) := by rw [pow_mul, pow_succ, pow_one]
    rw [e2]
    by_cases hb : e % 2 = 1
    · have : Nat.beq (e % 2) 1 = true := by rw [hb]; rfl
      rw [this]
      show Z.of n (acc * a % n) * _ = _
      have e3 : pow (Z.of n a) e = pow (Z.of n a) (1 + 2 * (e / 2)) := congrArg _ (by omega)
      rw [of_mod, Z.of_mul, e3, pow_add, pow_one, mul_assoc]
    · have : Nat.beq (e % 2) 1 = false := by rw [show e % 2 = 0 by omega]; rfl
      rw [this]
      have e3 : pow (Z.of n a) e = pow (Z.of n a) (2 * (e / 2)) := congrArg _ (by omega)
      rw [e3]
theorem of_dvd {n r : Nat} [Pos n] [Pos r] (h : r ∣ n) {a b : Nat} (e : Z.of n a = Z.of n b) : Z.of r a = Z.of r b := by
  rw [Z.of_eq] at e ⊢
  rw [← Nat.mod_mod_of_dvd a h, e, Nat.mod_mod_of_dvd b h]
/-- Pocklington: each prime that divides N is 1 modulo Q. -/
theorem pock {N Q b g : Nat} (hN : 1 < N) (hQ : Prime Q) (hg : Q < 2 ^ g)
    (h1 : powm N g b Q 1 = 1) (h2 : Nat.gcd (b + (N - 1)) N = 1) {r : Nat} (hr : Prime r) (hd : r ∣ N) : Q ∣ r - 1 := by
  haveI : Pos N := ⟨by omega⟩
  haveI : Pos r := ⟨pos_of_prime hr⟩
  have hr2 := hr.two_le
  have e1 : pow (Z.of r b) Q = 1 := by
    rw [← one_mul (pow (Z.of r b) Q)]
    have := powm_spec (n := N) g b Q 1 hg
    rw [h1] at this
    have k := powm_spec (n := r) g b Q 1 hg
    -- the same powers, modulo r
    have hpow : ∀ (m : Nat) (x : Nat), pow (Z.of N x) m = Z.of N (x ^ m) ∧ pow (Z.of r x) m = Z.of r (x ^ m) := by
      intro m x
      induction m with
      | zero => exact ⟨rfl, rfl⟩
      | succ m ih => exact ⟨by rw [pow_succ, ih.1, ← Z.of_mul, Nat.pow_succ], by rw [pow_succ, ih.2, ← Z.of_mul, Nat.pow_succ]⟩
    rw [(hpow Q b).1, ← Z.of_mul] at this
    show Z.of r 1 * _ = Z.of r 1
    rw [(hpow Q b).2, ← Z.of_mul]
    exact (of_dvd hd this).symm
  have hne : Z.of r b ≠ 1 := by
    intro e
    have : Z.of r b = Z.of r 1 := e
    have h3 : r ∣ b + (N - 1) := by
      apply of_eq_zero.1
      rw [Z.of_add, this, ← Z.of_add, show 1 + (N - 1) = N by omega]
      exact of_eq_zero.2 hd
    have := Nat.dvd_gcd h3 hd
    rw [h2] at this
    have := Nat.le_of_dvd (by omega) this
    omega
  have h0 : Z.of r b ≠ 0 := by
    intro e
    rw [e, zero_pow (by have := hQ.two_le; omega)] at e1
    have : (0 : Nat) % r = 1 % r := congrArg Z.val e1
    rw [Nat.zero_mod, Nat.mod_eq_of_lt (by omega)] at this
    omega
  have e2 : pow (Z.of r b) (r - 1) = 1 := by
    have := inv_exists hr _ h0
    have e : pow (Z.of r b) (r - 1) = pow (Z.of r b) (1 + (r - 2)) := congrArg _ (by omega)
    rw [e, pow_add, pow_one]; exact this
  have e3 := pow_gcd Q (r - 1) e1 e2
  rcases hQ.2 _ (Nat.gcd_dvd_left Q (r - 1)) with e | e
  · rw [e, pow_one] at e3; exact absurd e3 hne
  · rw [← e]; exact Nat.gcd_dvd_right _ _
/-- Where each prime that divides N is above F and F*F is no less, N is prime. -/
theorem prime_of_large {N F : Nat} (hN : 1 < N) (hF : N ≤ F * F) (h : ∀ r, Prime r → r ∣ N → F < r) : Prime N := by
  refine ⟨hN, fun d hd => ?_⟩
  refine Classical.byContradiction fun hc => ?_
  have hd1 : d ≠ 1 := fun e => hc (.inl e)
  have hdN : d ≠ N := fun e => hc (.inr e)
  obtain ⟨e, rfl⟩ := hd
  have d0 : d ≠ 0 := by rintro rfl; simp at hN
  have e0 : e ≠ 0 := by rintro rfl; simp at hN
  have e1 : e ≠ 1 := by rintro rfl; simp at hdN
  obtain ⟨r, hr, hrd⟩ := exists_prime d (by omega)
  obtain ⟨s, hs, hse⟩ := exists_prime e (by omega)
  have k1 := h r hr (Nat.dvd_trans hrd (Nat.dvd_mul_right d e))
  have k2 := h s hs (Nat.dvd_trans hse (Nat.dvd_mul_left e d))
  have l1 := Nat.le_of_dvd (by omega) hrd
  have l2 := Nat.le_of_dvd (by omega) hse
  have : F * F < d * e := Nat.mul_lt_mul'' (by omega) (by omega)
  omega
/-- No number from 2 on, so many, divides it. -/
def noneDiv (N : Nat) : Nat → Bool
  | 0 => true
  | k + 1 => match Nat.beq (N % (k + 2)) 0 with
    | true => false
    | false => noneDiv N k
theorem noneDiv_spec {N : Nat} : ∀ k, noneDiv N k = true → ∀ d, 2 ≤ d → d < k + 2 → ¬ d ∣ N := by
  intro k
  induction k with
  | zero => intro _ d h1 h2; omega
  | succ k ih =>
    intro h d h1 h2 hd
    rw [noneDiv] at h
    split at h
    · cases h
    · rename_i e
      by_cases hk : d = k + 2
      · subst hk
        have : N % (k + 2) = 0 := Nat.mod_eq_zero_of_dvd hd
        rw [this] at e
        cases e
      · exact ih h d h1 (by omega) hd
theorem prime_trial {N k : Nat} (hN : 1 < N) (hF : N ≤ (k + 1) * (k + 1)) (h : noneDiv N k = true) : Prime N :=
  prime_of_large hN hF fun r hr hd => Nat.lt_of_not_le fun hle => noneDiv_spec k h r hr.two_le (by omega) hd
/-- One factor Q of N - 1 that is large enough. -/
theorem prime_step {N Q b g : Nat} (hN : 1 < N) (hQ : Prime Q) (hg : Q < 2 ^ g) (h1 : powm N g b Q 1 = 1) (h2 : Nat.gcd (b + (N - 1)) N = 1) (hF : N ≤ Q * Q) : Prime N :=
  prime_of_large hN hF fun r hr hd => by
    have h := pock hN hQ hg h1 h2 hr hd
    have h2 := hr.two_le
    have := Nat.le_of_dvd (by omega) h
    omega
/-- Two factors that have nothing in common. -/
theorem prime_two {N Q S : Nat} (hN : 1 < N) (hc : Nat.gcd Q S = 1) (h1 : ∀ r, Prime r → r ∣ N → Q ∣ r - 1) (h2 : ∀ r, Prime r → r ∣ N → S ∣ r - 1) (hF : N ≤ (Q * S) * (Q * S)) : Prime N :=
  prime_of_large hN hF fun r hr hd => by
    have h3 : Q * S ∣ r - 1 := Nat.Coprime.mul_dvd_of_dvd_of_dvd hc (h1 r hr hd) (h2 r hr hd)
    have h4 := hr.two_le
    have := Nat.le_of_dvd (by omega) h3
    omega
end Go.Pr
/-
  The modulus is a prime.
-/
namespace Go.Pr
theorem q5 : Prime 421987 := prime_trial (k := 650) (by decide +kernel) (by decide +kernel) (by decide +kernel)
theorem q6 : Prime 755057 := prime_trial (k := 869) (by decide +kernel) (by decide +kernel) (by decide +kernel)
theorem q4 : Prime 13090036741 := prime_step (Q := 421987) (b := 9676538530) (g := 19) (by decide +kernel) q5 (by decide +kernel) (by decide +kernel) (by decide +kernel) (by decide +kernel)
theorem q3 : Prime 3819663927398918131021 := prime_two (Q := 13090036741) (S := 755057) (by decide +kernel) (by decide +kernel)
  (fun _ hr hd => pock (N := 3819663927398918131021) (b := 2236669622039346762846) (g := 34) (by decide +kernel) q4 (by decide +kernel) (by decide +kernel) (by decide +kernel) hr hd)
  (fun _ hr hd => pock (N := 3819663927398918131021) (b := 3072291452636436773356) (g := 20) (by decide +kernel) q6 (by decide +kernel) (by decide +kernel) (by decide +kernel) hr hd) (by decide +kernel)
theorem q2 : Prime 1125266252156850182658904441386709967 := prime_step (Q := 3819663927398918131021) (b := 569094264676275985966734733593272495) (g := 72) (by decide +kernel) q3 (by decide +kernel) (by decide +kernel) (by decide +kernel) (by decide +kernel)
theorem q1 : Prime 15778400344354997994418419698270088123916926905054652752758194827714659 := prime_step (Q := 1125266252156850182658904441386709967) (b := 584602478677671312863650330581164049005241475155695537731613712292485) (g := 120) (by decide +kernel) q2 (by decide +kernel) (by decide +kernel) (by decide +kernel) (by decide +kernel)
theorem prime_p : Prime 4002409555221667393417789825735904156556882819939007885332058136124031650490837864442687629129015664037894272559787 := prime_step (Q := 15778400344354997994418419698270088123916926905054652752758194827714659) (b := 3857652229587791131170562170362777322661165158253241750951056708149380781976590789690115968560841332125271833377494) (g := 234) (by decide +kernel) q1 (by decide +kernel) (by decide +kernel) (by decide +kernel) (by decide +kernel)
end Go.Pr
/-
  Rings with a square root, rings with a cube root; inverses.
-/
namespace Go.Alg

/-- a + b u, with u u = c. -/
structure Quad (R : Type) (c : R) where
  a : R
  b : R
theorem Quad.ext' {R : Type} {c : R} {x y : Quad R c} (h1 : x.a = y.a) (h2 : x.b = y.b) : x = y := by
  cases x; cases y; cases h1; cases h2; rfl
instance (priority := low) {R : Type} [Ops R] {c : R} : Ops (Quad R c) where
  zero := ⟨0, 0⟩
  one := ⟨1, 0⟩
  add x y := ⟨x.a + y.a, x.b + y.b⟩
  mul x y := ⟨x.a * y.a + c * (x.b * y.b), x.a * y.b + x.b * y.a⟩
  neg x := ⟨-x.a, -x.b⟩
/-- a + b v + c v v, with v v v = k. -/
structure Cub (R : Type) (k : R) where
  a : R
  b : R
  c : R
theorem Cub.ext' {R : Type} {k : R} {x y : Cub R k} (h1 : x.a = y.a) (h2 : x.b = y.b) (h3 : x.c = y.c) : x = y := by
  cases x; cases y; cases h1; cases h2; cases h3; rfl
instance (priority := low) {R : Type} [Ops R] {k : R} : Ops (Cub R k) where
  zero := ⟨0, 0, 0⟩
  one := ⟨1, 0, 0⟩
  add x y := ⟨x.a + y.a, x.b + y.b, x.c + y.c⟩
  mul x y := ⟨x.a * y.a + k * (x.b * y.c + x.c * y.b), x.a * y.b + x.b * y.a + k * (x.c * y.c), x.a * y.c + x.b * y.b + x.c * y.a⟩
  neg x := ⟨-x.a, -x.b, -x.c⟩
abbrev q (i j k : Nat) : Quad Ex (.v k) := ⟨.v i, .v j⟩
abbrev t (i j l k : Nat) : Cub Ex (.v k) := ⟨.v i, .v j, .v l⟩
instance {R : Type} [CRing R] {c : R} : CRing (Quad R c) where
  add_comm x y := Quad.ext' (add_comm x.a y.a) (add_comm x.b y.b)
  add_assoc x y z := Quad.ext' (add_assoc x.a y.a z.a) (add_assoc x.b y.b z.b)
  add_zero x := Quad.ext' (add_zero x.a) (add_zero x.b)
  add_neg x := Quad.ext' (add_neg x.a) (add_neg x.b)
  mul_comm x y := Quad.ext'
    (ident (env [x.a, x.b, y.a, y.b, c]) (q 0 1 4 * q 2 3 4).a (q 2 3 4 * q 0 1 4).a (by decide +kernel))
    (ident (env [x.a, x.b, y.a, y.b, c]) (q 0 1 4 * q 2 3 4).b (q 2 3 4 * q 0 1 4).b (by decide +kernel))
  mul_assoc x y z := Quad.ext'
    (ident (env [x.a, x.b, y.a, y.b, z.a, z.b, c]) (q 0 1 6 * q 2 3 6 * q 4 5 6).a (q 0 1 6 * (q 2 3 6 * q 4 5 6)).a (by decide +kernel))
    (ident (env [x.a, x.b, y.a, y.b, z.a, z.b, c]) (q 0 1 6 * q 2 3 6 * q 4 5 6).b (q 0 1 6 * (q 2 3 6 * q 4 5 6)).b (by decide +kernel))
  mul_one x := Quad.ext'
    (ident (env [x.a, x.b, c]) (q 0 1 2 * 1).a (.v 0) (by decide +kernel))
    (ident (env [x.a, x.b, c]) (q 0 1 2 * 1).b (.v 1) (by decide +kernel))
  mul_add x y z := Quad.ext'
    (ident (env [x.a, x.b, y.a, y.b, z.a, z.b, c]) (q 0 1 6 * (q 2 3 6 + q 4 5 6)).a (q 0 1 6 * q 2 3 6 + q 0 1 6 * q 4 5 6).a (by decide +kernel))
    (ident (env [x.a, x.b, y.a, y.b, z.a, z.b, c]) (q 0 1 6 * (q 2 3 6 + q 4 5 6)).b (q 0 1 6 * q 2 3 6 + q 0 1 6 * q 4 5 6).b (by decide +kernel))
instance {R : Type} [CRing R] {k : R} : CRing (Cub R k) where
  add_comm x y := Cub.ext' (add_comm x.a y.a) (add_comm x.b y.b) (add_comm x.c y.c)
  add_assoc x y z := Cub.ext' (add_assoc x.a y.a z.a) (add_assoc x.b y.b z.b) (add_assoc x.c y.c z.c)
  add_zero x := Cub.ext' (add_zero x.a) (add_zero x.b) (add_zero x.c)
  add_neg x := Cub.ext' (add_neg x.a) (add_neg x.b) (add_neg x.c)
  mul_comm x y := Cub.ext'
    (ident (env [x.a, x.b, x.c, y.a, y.b, y.c, k]) (t 0 1 2 6 * t 3 4 5 6).a (t 3 4 5 6 * t 0 1 2 6).a (by decide +kernel))
    (ident (env [x.a, x.b, x.c, y.a, y.b, y.c, k]) (t 0 1 2 6 * t 3 4 5 6).b (t 3 4 5 6 * t 0 1 2 6).b (by decide +kernel))
    (ident (env [x.a, x.b, x.c, y.a, y.b, y.c, k]) (t 0 1 2 6 * t 3 4 5 6).c (t 3 4 5 6 * t 0 1 2 6).c (by decide +kernel))
  mul_assoc x y z := Cub.ext'
    (ident (env [x.a, x.b, x.c, y.a, y.b, y.c, z.a, z.b, z.c, k]) (t 0 1 2 9 * t 3 4 5 9 * t 6 7 8 9).a (t 0 1 2 9 * (t 3 4 5 9 * t 6 7 8 9)).a (by decide +kernel))
    (ident (env [x.a, x.b, x.c, y.a, y.b, y.c, z.a, z.b, z.c, k]) (t 0 1 2 9 * t 3 4 5 9 * t 6 7 8 9).b (t 0 1 2 9 * (t 3 4 5 9 * t 6 7 8 9)).b (by decide +kernel))
    (ident (env [x.a, x.b, x.c, y.a, y.b, y.c, z.a, z.b, z.c, k]) (t 0 1 2 9 * t 3 4 5 9 * t 6 7 8 9).c (t 0 1 2 9 * (t 3 4 5 9 * t 6 7 8 9)).c (by decide +kernel))
  mul_one x := Cub.ext'
    (ident (env [x.a, x.b, x.c, k]) (t 0 1 2 3 * 1).a (.v 0) (by decide +kernel))
    (ident (env [x.a, x.b, x.c, k]) (t 0 1 2 3 * 1).b (.v 1) (by decide +kernel))
    (ident (env [x.a, x.b, x.c, k]) (t 0 1 2 3 * 1).c (.v 2) (by decide +kernel))
  mul_add x y z := Cub.ext'
    (ident (env [x.a, x.b, x.c, y.a, y.b, y.c, z.a, z.b, z.c, k]) (t 0 1 2 9 * (t 3 4 5 9 + t 6 7 8 9)).a (t 0 1 2 9 * t 3 4 5 9 + t 0 1 2 9 * t 6 7 8 9).a (by decide +kernel))
    (ident (env [x.a, x.b, x.c, y.a, y.b, y.c, z.a, z.b, z.c, k]) (t 0 1 2 9 * (t 3 4 5 9 + t 6 7 8 9)).b (t 0 1 2 9 * t 3 4 5 9 + t 0 1 2 9 * t 6 7 8 9).b (by decide +kernel))
    (ident (env [x.a, x.b, x.c, y.a, y.b, y.c, z.a, z.b, z.c, k]) (t 0 1 2 9 * (t 3 4 5 9 + t 6 7 8 9)).c (t 0 1 2 9 * t 3 4 5 9 + t 0 1 2 9 * t 6 7 8 9).c (by decide +kernel))

/-! ### inverses -/
section
variable {R : Type} [CRing R]
open Classical in
/-- An inverse, where there is one; else 0. -/
noncomputable def inv (a : R) : R := if h : ∃ b, a * b = 1 then h.choose else 0
theorem inv_unique {a b c : R} (h1 : a * b = 1) (h2 : a * c = 1) : b = c := by
  rw [← mul_one b, ← h2, ← mul_assoc, mul_comm b a, h1, one_mul]
theorem inv_eq {a b : R} (h : a * b = 1) : inv a = b := by
  unfold inv
  have hx : ∃ b, a * b = 1 := ⟨b, h⟩
  rw [dif_pos hx]
  exact inv_unique hx.choose_spec h
theorem inv_zero_of {a : R} (h : ¬ ∃ b, a * b = 1) : inv a = 0 := by unfold inv; rw [dif_neg h]
theorem mul_inv_of {a : R} (h : ∃ b, a * b = 1) : a * inv a = 1 := by
  obtain ⟨b, hb⟩ := h
  rw [inv_eq hb]; exact hb
/-- 0 and 1 part, and all but 0 has an inverse. -/
class IsField (R : Type) [CRing R] : Prop where
  ne : (1 : R) ≠ 0
  ex : ∀ a : R, a ≠ 0 → ∃ b, a * b = 1
variable [IsField R]
theorem one_ne_zero : (1 : R) ≠ 0 := IsField.ne
theorem mul_inv {a : R} (h : a ≠ 0) : a * inv a = 1 := mul_inv_of (IsField.ex a h)
theorem inv_zero : inv (0 : R) = 0 := inv_zero_of fun ⟨b, hb⟩ => one_ne_zero (R := R) (by rw [← hb, zero_mul])
theorem inv_ne_zero {a : R} (h : a ≠ 0) : inv a ≠ 0 := fun e => one_ne_zero (R := R) (by rw [← mul_inv h, e, mul_zero])
theorem inv_inv (a : R) : inv (inv a) = a := by
  by_cases h : a = 0
  · rw [h, inv_zero, inv_zero]
  · exact inv_eq (by rw [mul_comm]; exact mul_inv h)
theorem mul_eq_zero {a b : R} : a * b = 0 ↔ a = 0 ∨ b = 0 := by
  constructor
  · intro h
    by_cases ha : a = 0
    · exact .inl ha
    · refine .inr ?_
      have : inv a * (a * b) = 0 := by rw [h, mul_zero]
      rwa [← mul_assoc, mul_comm (inv a), mul_inv ha, one_mul] at this
  · rintro (rfl | rfl)
    · exact zero_mul b
    · exact mul_zero a
theorem mul_ne_zero {a b : R} (ha : a ≠ 0) (hb : b ≠ 0) : a * b ≠ 0 := fun h => by rcases mul_eq_zero.1 h with h | h <;> contradiction
theorem inv_mul (a b : R) : inv (a * b) = inv a * inv b := by
  by_cases ha : a = 0
  · rw [ha, zero_mul, inv_zero, zero_mul]
  by_cases hb : b = 0
  · rw [hb, mul_zero, inv_zero, mul_zero]
  refine inv_eq ?_
  rw [mul_assoc, mul_left_comm b, ← mul_assoc, mul_inv ha, mul_inv hb, mul_one]
theorem mul_cancel {a b c : R} (ha : a ≠ 0) (h : a * b = a * c) : b = c := by
  have : inv a * (a * b) = inv a * (a * c) := by rw [h]
  rwa [← mul_assoc, ← mul_assoc, mul_comm (inv a), mul_inv ha, one_mul, one_mul] at this
end
end Go.Alg
/-
  Where there is no square root, or no cube root, the larger ring is a field.
-/
namespace Go.Alg
abbrev x0 : Ex := .v 0
abbrev x1 : Ex := .v 1
abbrev x2 : Ex := .v 2
abbrev x3 : Ex := .v 3
abbrev x4 : Ex := .v 4
abbrev x5 : Ex := .v 5
abbrev x6 : Ex := .v 6
abbrev x7 : Ex := .v 7
abbrev x8 : Ex := .v 8
abbrev x9 : Ex := .v 9
section
variable {R : Type} [CRing R] {c k : R}
def Quad.conj (x : Quad R c) : Quad R c := ⟨x.a, -x.b⟩
def Quad.norm (x : Quad R c) : R := x.a * x.a - c * (x.b * x.b)
theorem Quad.mul_conj (x : Quad R c) : x * x.conj = ⟨x.norm, 0⟩ := Quad.ext'
  (ident (env [x.a, x.b, c]) (x0 * x0 + x2 * (x1 * -x1)) (x0 * x0 - x2 * (x1 * x1)) (by decide +kernel))
  (ident (env [x.a, x.b, c]) (x0 * -x1 + x1 * x0) 0 (by decide +kernel))
def Cub.cof (x : Cub R k) : Cub R k := ⟨x.a * x.a - k * (x.b * x.c), k * (x.c * x.c) - x.a * x.b, x.b * x.b - x.a * x.c⟩
def Cub.norm (x : Cub R k) : R := x.a * x.cof.a + k * (x.c * x.cof.b + x.b * x.cof.c)
theorem Cub.mul_cof (x : Cub R k) : x * x.cof = ⟨x.norm, 0, 0⟩ := Cub.ext'
  (ident (env [x.a, x.b, x.c, k]) (x0 * (x0 * x0 - x3 * (x1 * x2)) + x3 * (x1 * (x1 * x1 - x0 * x2) + x2 * (x3 * (x2 * x2) - x0 * x1))) (x0 * (x0 * x0 - x3 * (x1 * x2)) + x3 * (x2 * (x3 * (x2 * x2) - x0 * x1) + x1 * (x1 * x1 - x0 * x2))) (by decide +kernel))
  (ident (env [x.a, x.b, x.c, k]) (x0 * (x3 * (x2 * x2) - x0 * x1) + x1 * (x0 * x0 - x3 * (x1 * x2)) + x3 * (x2 * (x1 * x1 - x0 * x2))) 0 (by decide +kernel))
  (ident (env [x.a, x.b, x.c, k]) (x0 * (x1 * x1 - x0 * x2) + x1 * (x3 * (x2 * x2) - x0 * x1) + x2 * (x0 * x0 - x3 * (x1 * x2))) 0 (by decide +kernel))
theorem Quad.coe_mul (s t : R) : (⟨s, 0⟩ : Quad R c) * ⟨t, 0⟩ = ⟨s * t, 0⟩ := Quad.ext'
  (ident (env [s, t, c]) (x0 * x1 + x2 * (0 * 0)) (x0 * x1) (by decide +kernel)) (ident (env [s, t, c]) (x0 * 0 + 0 * x1) 0 (by decide +kernel))
theorem Cub.coe_mul (s t : R) : (⟨s, 0, 0⟩ : Cub R k) * ⟨t, 0, 0⟩ = ⟨s * t, 0, 0⟩ := Cub.ext'
  (ident (env [s, t, k]) (x0 * x1 + x2 * (0 * 0 + 0 * 0)) (x0 * x1) (by decide +kernel)) (ident (env [s, t, k]) (x0 * 0 + 0 * x1 + x2 * (0 * 0)) 0 (by decide +kernel)) (ident (env [s, t, k]) (x0 * 0 + 0 * 0 + 0 * x1) 0 (by decide +kernel))
variable [IsField R]
theorem sq_eq_zero {a : R} (h : a * a = 0) : a = 0 := by rcases mul_eq_zero.1 h with h | h <;> exact h
theorem Quad.norm_ne (h : ∀ t : R, t * t ≠ c) {x : Quad R c} (hx : x ≠ 0) : x.norm ≠ 0 := by
  intro h0
  by_cases hb : x.b = 0
  · refine hx (Quad.ext' ?_ hb)
    unfold norm at h0
    rw [hb, mul_zero, mul_zero, sub_def, neg_zero, add_zero] at h0
    exact sq_eq_zero h0
  · have h1 : x.a * x.a = c * (x.b * x.b) := sub_eq_zero.1 h0
    refine h (x.a * inv x.b) ?_
    have e : x.a * inv x.b * (x.a * inv x.b) = x.a * x.a * (inv x.b * inv x.b) := ident (env [x.a, inv x.b]) (x0 * x1 * (x0 * x1)) (x0 * x0 * (x1 * x1)) (by decide +kernel)
    have e2 : c * (x.b * x.b) * (inv x.b * inv x.b) = c * ((x.b * inv x.b) * (x.b * inv x.b)) := ident (env [c, x.b, inv x.b]) (x0 * (x1 * x1) * (x2 * x2)) (x0 * ((x1 * x2) * (x1 * x2))) (by decide +kernel)
    rw [e, h1, e2, mul_inv hb, mul_one, mul_one]
/-- The inverse: the conjugate through the norm. -/
theorem Quad.inv_ex (h : ∀ t : R, t * t ≠ c) {x : Quad R c} (hx : x ≠ 0) : x * (x.conj * ⟨inv x.norm, 0⟩) = 1 := by
  rw [← mul_assoc, mul_conj, coe_mul, mul_inv (norm_ne h hx)]; rfl
theorem quad_field (h : ∀ t : R, t * t ≠ c) : IsField (Quad R c) where
  ne e := one_ne_zero (R := R) (congrArg Quad.a e)
  ex _ hx := ⟨_, Quad.inv_ex h hx⟩
theorem Quad.inv_eq' (h : ∀ t : R, t * t ≠ c) (x : Quad R c) : inv x = x.conj * ⟨inv x.norm, 0⟩ := by
  haveI := quad_field h
  by_cases hx : x = 0
  · subst hx
    rw [inv_zero]
    have : (0 : Quad R c).conj = 0 := Quad.ext' rfl neg_zero
    rw [this, zero_mul]
  · exact inv_eq (inv_ex h hx)
theorem Cub.norm_ne (h : ∀ t : R, t * t * t ≠ k) {x : Cub R k} (hx : x ≠ 0) : x.norm ≠ 0 := by
  intro h0
  have hk : k ≠ 0 := fun e => h 0 (by rw [e, mul_zero])
  have root : ∀ s t : R, t ≠ 0 → s * s * s = k * (t * t * t) → False := by
    intro s t ht e
    refine h (s * inv t) ?_
    have e1 : s * inv t * (s * inv t) * (s * inv t) = s * s * s * (inv t * inv t * inv t) := ident (env [s, inv t]) (x0 * x1 * (x0 * x1) * (x0 * x1)) (x0 * x0 * x0 * (x1 * x1 * x1)) (by decide +kernel)
    have e2 : k * (t * t * t) * (inv t * inv t * inv t) = k * ((t * inv t) * (t * inv t) * (t * inv t)) := ident (env [k, t, inv t]) (x0 * (x1 * x1 * x1) * (x2 * x2 * x2)) (x0 * ((x1 * x2) * (x1 * x2) * (x1 * x2))) (by decide +kernel)
    rw [e1, e, e2, mul_inv ht, mul_one, mul_one, mul_one]
  have e0 : k * (x.cof.c * x.cof.c * x.cof.c) - x.cof.b * x.cof.b * x.cof.b = x.norm * (x.b * x.b * x.b - k * (x.c * x.c * x.c)) :=
    ident (env [x.a, x.b, x.c, k]) (x3 * ((x1 * x1 - x0 * x2) * (x1 * x1 - x0 * x2) * (x1 * x1 - x0 * x2)) - (x3 * (x2 * x2) - x0 * x1) * (x3 * (x2 * x2) - x0 * x1) * (x3 * (x2 * x2) - x0 * x1))
      ((x0 * (x0 * x0 - x3 * (x1 * x2)) + x3 * (x2 * (x3 * (x2 * x2) - x0 * x1) + x1 * (x1 * x1 - x0 * x2))) * (x1 * x1 * x1 - x3 * (x2 * x2 * x2))) (by decide +kernel)
  rw [h0, zero_mul] at e0
  have hC : x.cof.c = 0 := by
    refine Classical.byContradiction fun hn => root x.cof.b x.cof.c hn (sub_eq_zero.1 e0).symm
  have hB : x.cof.b = 0 := by
    rw [hC, mul_zero, mul_zero] at e0
    have : x.cof.b * x.cof.b * x.cof.b = 0 := (sub_eq_zero.1 e0).symm
    rcases mul_eq_zero.1 this with h | h
    · exact sq_eq_zero h
    · exact h
  have hA : x.a * x.cof.a = 0 := by
    unfold norm at h0
    rw [hB, hC, mul_zero, mul_zero, add_zero, mul_zero, add_zero] at h0
    exact h0
  have h1 : k * (x.c * x.c) = x.a * x.b := sub_eq_zero.1 hB
  have h2 : x.b * x.b = x.a * x.c := sub_eq_zero.1 hC
  have fin : x.c = 0 → x.b = 0 → x.a = 0 → False := fun hc hb ha => hx (Cub.ext' ha hb hc)
  rcases mul_eq_zero.1 hA with ha | ha
  · have hb : x.b = 0 := sq_eq_zero (by rw [h2, ha, zero_mul])
    have hc : x.c = 0 := sq_eq_zero (by
      have : k * (x.c * x.c) = 0 := by rw [h1, ha, zero_mul]
      exact (mul_eq_zero.1 this).resolve_left hk)
    exact fin hc hb ha
  · have h3 : x.a * x.a = k * (x.b * x.c) := sub_eq_zero.1 ha
    by_cases hc : x.c = 0
    · have hb : x.b = 0 := sq_eq_zero (by rw [h2, hc, mul_zero])
      have hA' : x.a = 0 := sq_eq_zero (by rw [h3, hc, mul_zero, mul_zero])
      exact fin hc hb hA'
    · refine root x.b x.c hc ?_
      have e1 : k * (x.c * x.c * x.c) = k * (x.c * x.c) * x.c := ident (env [k, x.c]) (x0 * (x1 * x1 * x1)) (x0 * (x1 * x1) * x1) (by decide +kernel)
      have e2 : x.a * x.b * x.c = x.a * x.c * x.b := ident (env [x.a, x.b, x.c]) (x0 * x1 * x2) (x0 * x2 * x1) (by decide +kernel)
      rw [e1, h1, e2, ← h2]
theorem Cub.inv_ex (h : ∀ t : R, t * t * t ≠ k) {x : Cub R k} (hx : x ≠ 0) : x * (x.cof * ⟨inv x.norm, 0, 0⟩) = 1 := by
  rw [← mul_assoc, mul_cof, coe_mul, mul_inv (norm_ne h hx)]; rfl
theorem cub_field (h : ∀ t : R, t * t * t ≠ k) : IsField (Cub R k) where
  ne e := one_ne_zero (R := R) (congrArg Cub.a e)
  ex _ hx := ⟨_, Cub.inv_ex h hx⟩
theorem Cub.inv_eq' (h : ∀ t : R, t * t * t ≠ k) (x : Cub R k) : inv x = x.cof * ⟨inv x.norm, 0, 0⟩ := by
  haveI := cub_field h
  by_cases hx : x = 0
  · subst hx
    rw [inv_zero]
    have z1 : (0 : R) * 0 - k * (0 * 0) = 0 := ident (env [k]) (0 * 0 - x0 * (0 * 0)) 0 (by decide +kernel)
    have z2 : k * (0 * 0) - (0 : R) * 0 = 0 := ident (env [k]) (x0 * (0 * 0) - 0 * 0) 0 (by decide +kernel)
    have z3 : (0 : R) * 0 - 0 * 0 = 0 := ident (env [k]) (0 * 0 - 0 * 0) 0 (by decide +kernel)
    have : (0 : Cub R k).cof = 0 := Cub.ext' z1 z2 z3
    rw [this, zero_mul]
  · exact inv_eq (inv_ex h hx)
end
end Go.Alg
