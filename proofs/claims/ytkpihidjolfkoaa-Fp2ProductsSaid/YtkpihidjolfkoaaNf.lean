/-
  Identities of commutative rings, decided by numbers.
-/
import Derived.Test.YtkpihidjolfkoaaAlg
namespace Go.Alg
section casts
variable {R : Type} [CRing R]
def nat : Nat → R
  | 0 => 0
  | n + 1 => nat n + 1
def int : Int → R
  | .ofNat n => nat n
  | .negSucc n => -(nat (n + 1))
theorem nat_add (a b : Nat) : (nat (a + b) : R) = nat a + nat b := by
  induction b with
  | zero => exact (add_zero _).symm
  | succ b ih => show nat (a + b) + 1 = nat a + (nat b + 1); rw [ih, add_assoc]
theorem nat_mul (a b : Nat) : (nat (a * b) : R) = nat a * nat b := by
  induction b with
  | zero => exact (mul_zero _).symm
  | succ b ih => rw [Nat.mul_succ, nat_add, ih]; show _ = nat a * (nat b + 1); rw [mul_add, mul_one]
theorem int_sub (a b : Nat) : (int (Int.subNatNat a b) : R) = nat a + -nat b := by
  unfold Int.subNatNat
  split
  · rename_i h
    have e : a = a - b + b := by omega
    show nat (a - b) = _
    rw [e, nat_add, Nat.add_sub_cancel, add_assoc, add_neg, add_zero]
  · rename_i k h
    have e : b = a + (k + 1) := by omega
    show -(nat (k + 1)) = _
    rw [e, nat_add a (k + 1), neg_add_rev, ← add_assoc, add_neg, zero_add]
theorem int_add (a b : Int) : (int (a + b) : R) = int a + int b := by
  cases a with
  | ofNat m => cases b with
    | ofNat n => exact nat_add m n
    | negSucc n => exact int_sub m (n + 1)
  | negSucc m => cases b with
    | ofNat n => show int (Int.subNatNat n (m + 1)) = _; rw [int_sub, add_comm]; rfl
    | negSucc n =>
      show -(nat (m + n + 1 + 1)) = -(nat (m + 1)) + -(nat (n + 1))
      rw [← neg_add_rev, ← nat_add, show m + n + 1 + 1 = m + 1 + (n + 1) by omega]
theorem int_negOfNat (n : Nat) : (int (Int.negOfNat n) : R) = -(nat n) := by
  cases n with
  | zero => show nat 0 = -(nat 0); exact neg_zero.symm
  | succ n => rfl
theorem int_mul (a b : Int) : (int (a * b) : R) = int a * int b := by
  cases a with
  | ofNat m => cases b with
    | ofNat n => exact nat_mul m n
    | negSucc n => show int (Int.negOfNat (m * (n + 1))) = nat m * -(nat (n + 1)); rw [int_negOfNat, nat_mul, mul_neg]
  | negSucc m => cases b with
    | ofNat n => show int (Int.negOfNat ((m + 1) * n)) = -(nat (m + 1)) * nat n; rw [int_negOfNat, nat_mul, neg_mul]
    | negSucc n => show nat ((m + 1) * (n + 1)) = -(nat (m + 1)) * -(nat (n + 1)); rw [nat_mul, neg_mul, mul_neg, neg_neg]
theorem int_neg (a : Int) : (int (-a) : R) = -(int a) := by
  have : (int (a + -a) : R) = int a + int (-a) := int_add a (-a)
  rw [Int.add_right_neg] at this
  exact neg_unique this.symm
theorem int_zero : (int 0 : R) = 0 := rfl
theorem int_one : (int 1 : R) = 1 := zero_add 1
end casts

/-- Expressions. -/
inductive Ex where
  | v (i : Nat)
  | zero
  | one
  | add (a b : Ex)
  | mul (a b : Ex)
  | neg (a : Ex)
instance : Ops Ex := ⟨.zero, .one, .add, .mul, .neg⟩
def Ex.den {R : Type} [Ops R] (ρ : Nat → R) : Ex → R
  | .v i => ρ i
  | .zero => Ops.zero
  | .one => Ops.one
  | .add a b => Ops.add (a.den ρ) (b.den ρ)
  | .mul a b => Ops.mul (a.den ρ) (b.den ρ)
  | .neg a => Ops.neg (a.den ρ)
def cmpM : List Nat → List Nat → Ordering
  | [], [] => .eq
  | [], _ :: _ => .lt
  | _ :: _, [] => .gt
  | a :: l, b :: m => match Nat.beq a b with
    | true => cmpM l m
    | false => match Nat.blt a b with
      | true => .lt
      | false => .gt
theorem cmpM_eq : ∀ l m, cmpM l m = .eq → l = m := by
  intro l
  induction l with
  | nil => intro m h; cases m with
    | nil => rfl
    | cons b m => cases h
  | cons a l ih => intro m h; cases m with
    | nil => cases h
    | cons b m =>
      simp only [cmpM] at h
      split at h
      · rename_i e; rw [Nat.eq_of_beq_eq_true e, ih m h]
      · split at h <;> cases h
def insM (i : Nat) : List Nat → List Nat
  | [] => [i]
  | j :: l => match Nat.blt j i with
    | true => j :: insM i l
    | false => i :: j :: l
def mulM (l m : List Nat) : List Nat := l.foldr insM m
abbrev Poly := List (Int × List Nat)
def isZ (c : Int) : Bool := match c with
  | .ofNat 0 => true
  | _ => false
theorem isZ_eq {c : Int} (h : isZ c = true) : c = 0 := by
  unfold isZ at h
  split at h
  · rfl
  · cases h
def ins (c : Int) (m : List Nat) : Poly → Poly
  | [] => match isZ c with
    | true => []
    | false => [(c, m)]
  | (d, k) :: p => match cmpM m k with
    | .eq => match isZ (c + d) with
      | true => p
      | false => (c + d, k) :: p
    | .lt => match isZ c with
      | true => (d, k) :: p
      | false => (c, m) :: (d, k) :: p
    | .gt => (d, k) :: ins c m p
def addP (p q : Poly) : Poly := p.foldr (fun t r => ins t.1 t.2 r) q
def mulT (c : Int) (m : List Nat) (q r : Poly) : Poly := q.foldr (fun t r => ins (c * t.1) (mulM m t.2) r) r
def mulP (p q : Poly) : Poly := p.foldr (fun t r => mulT t.1 t.2 q r) []
def negP (p : Poly) : Poly := p.map fun t => (-t.1, t.2)
def Ex.nf : Ex → Poly
  | .v i => [(1, [i])]
  | .zero => []
  | .one => [(1, [])]
  | .add a b => addP a.nf b.nf
  | .mul a b => mulP a.nf b.nf
  | .neg a => negP a.nf
def eqM : List Nat → List Nat → Bool
  | [], [] => true
  | a :: l, b :: m => Nat.beq a b && eqM l m
  | _, _ => false
def eqI : Int → Int → Bool
  | .ofNat a, .ofNat b => Nat.beq a b
  | .negSucc a, .negSucc b => Nat.beq a b
  | _, _ => false
def eqP : Poly → Poly → Bool
  | [], [] => true
  | (c, l) :: p, (d, m) :: q => eqI c d && (eqM l m && eqP p q)
  | _, _ => false
theorem eqM_eq : ∀ l m, eqM l m = true → l = m := by
  intro l
  induction l with
  | nil => intro m h; cases m with
    | nil => rfl
    | cons b m => cases h
  | cons a l ih => intro m h; cases m with
    | nil => cases h
    | cons b m =>
      simp only [eqM, Bool.and_eq_true] at h
      rw [Nat.eq_of_beq_eq_true h.1, ih m h.2]
theorem eqI_eq : ∀ a b, eqI a b = true → a = b := by
  intro a b h
  cases a <;> cases b <;> simp only [eqI] at h <;> first | (rw [Nat.eq_of_beq_eq_true h]) | cases h
theorem eqP_eq : ∀ p q, eqP p q = true → p = q := by
  intro p
  induction p with
  | nil => intro q h; cases q with
    | nil => rfl
    | cons b m => cases h
  | cons a l ih => intro q h; cases q with
    | nil => cases h
    | cons b m =>
      obtain ⟨c, k⟩ := a
      obtain ⟨d, n⟩ := b
      simp only [eqP, Bool.and_eq_true] at h
      rw [eqI_eq _ _ h.1, eqM_eq _ _ h.2.1, ih m h.2.2]

section sound
variable {R : Type} [CRing R] (ρ : Nat → R)
def denM (l : List Nat) : R := l.foldr (fun i r => ρ i * r) 1
def denP (p : Poly) : R := p.foldr (fun t r => int t.1 * denM ρ t.2 + r) 0
theorem denM_cons (i : Nat) (l : List Nat) : denM ρ (i :: l) = ρ i * denM ρ l := rfl
theorem denP_cons (t : Int × List Nat) (p : Poly) : denP ρ (t :: p) = int t.1 * denM ρ t.2 + denP ρ p := rfl
theorem den_insM (i : Nat) (l : List Nat) : denM ρ (insM i l) = ρ i * denM ρ l := by
  induction l with
  | nil => rfl
  | cons j l ih =>
    simp only [insM]
    split
    · rw [denM_cons, ih, denM_cons, mul_left_comm]
    · rfl
theorem den_mulM (l m : List Nat) : denM ρ (mulM l m) = denM ρ l * denM ρ m := by
  induction l with
  | nil => exact (one_mul _).symm
  | cons i l ih =>
    show denM ρ (insM i (mulM l m)) = _
    rw [den_insM, ih, denM_cons, mul_assoc]
theorem den_ins (c : Int) (m : List Nat) (p : Poly) : denP ρ (ins c m p) = int c * denM ρ m + denP ρ p := by
  induction p with
  | nil =>
    simp only [ins]
    split
    · rename_i h; rw [isZ_eq h, int_zero, zero_mul, zero_add]
    · rfl
  | cons t p ih =>
    obtain ⟨d, k⟩ := t
    simp only [ins]
    split
    · rename_i h
      have e := cmpM_eq _ _ h
      subst e
      split
      · rename_i h2
        rw [denP_cons, ← add_assoc, ← add_mul, ← int_add, isZ_eq h2, int_zero, zero_mul, zero_add]
      · rw [denP_cons, denP_cons, ← add_assoc, ← add_mul, ← int_add]
    · split
      · rename_i h2; rw [isZ_eq h2, int_zero, zero_mul, zero_add]
      · rfl
    · rw [denP_cons, ih, denP_cons, add_left_comm]
theorem den_addP (p q : Poly) : denP ρ (addP p q) = denP ρ p + denP ρ q := by
  induction p with
  | nil => exact (zero_add _).symm
  | cons t p ih =>
    show denP ρ (ins t.1 t.2 (addP p q)) = _
    rw [den_ins, ih, denP_cons, add_assoc]
theorem den_mulT (c : Int) (m : List Nat) (q r : Poly) : denP ρ (mulT c m q r) = int c * denM ρ m * denP ρ q + denP ρ r := by
  induction q with
  | nil => show denP ρ r = _ * 0 + _; rw [mul_zero, zero_add]
  | cons t q ih =>
    show denP ρ (ins (c * t.1) (mulM m t.2) (mulT c m q r)) = _
    rw [den_ins, ih, denP_cons, den_mulM, int_mul, mul_add, add_assoc]
    congr 1
    rw [mul_assoc, mul_assoc, mul_left_comm (int t.1)]
theorem den_mulP (p q : Poly) : denP ρ (mulP p q) = denP ρ p * denP ρ q := by
  induction p with
  | nil => exact (zero_mul _).symm
  | cons t p ih =>
    show denP ρ (mulT t.1 t.2 q (mulP p q)) = _
    rw [den_mulT, ih, denP_cons, add_mul]
theorem den_negP (p : Poly) : denP ρ (negP p) = -(denP ρ p) := by
  induction p with
  | nil => exact neg_zero.symm
  | cons t p ih =>
    show int (-t.1) * denM ρ t.2 + denP ρ (negP p) = _
    rw [ih, int_neg, neg_mul, denP_cons, neg_add_rev]
theorem den_nf (e : Ex) : e.den ρ = denP ρ e.nf := by
  induction e with
  | v i => show ρ i = int 1 * (ρ i * 1) + 0; rw [int_one, one_mul, mul_one, add_zero]
  | zero => rfl
  | one => show (1 : R) = int 1 * 1 + 0; rw [int_one, one_mul, add_zero]
  | add a b iha ihb => show a.den ρ + b.den ρ = _; rw [iha, ihb]; exact (den_addP ρ _ _).symm
  | mul a b iha ihb => show a.den ρ * b.den ρ = _; rw [iha, ihb]; exact (den_mulP ρ _ _).symm
  | neg a ih => show -(a.den ρ) = _; rw [ih]; exact (den_negP ρ _).symm
/-- An identity. -/
theorem ident (a b : Ex) (h : eqP a.nf b.nf = true) : a.den ρ = b.den ρ := by
  rw [den_nf, den_nf, eqP_eq _ _ h]
end sound
def env {R : Type} [Ops R] : List R → Nat → R
  | [], _ => Ops.zero
  | a :: _, 0 => a
  | _ :: l, i + 1 => env l i
end Go.Alg
