/-
  Groups that commute: a subgroup, reckoned, that is more than a third of all there may be; so each element, twice, lies in it.
-/
import Derived.Test.YthceokldlinjlaaPs
namespace Go.Alg
open Go.Pr

/-- Pigeons. -/
theorem pigeon : ∀ (k m : Nat) (f : Nat → Nat), (∀ i, i < m → f i < k) → k < m → ∃ i j, i < j ∧ j < m ∧ f i = f j := by
  intro k
  induction k with
  | zero => intro m f h hm; exact absurd (h 0 hm) (Nat.not_lt_zero _)
  | succ k ih =>
    intro m f h hm
    by_cases hex : ∃ i0, i0 < m ∧ f i0 = k
    · obtain ⟨i0, h0, e0⟩ := hex
      by_cases hex2 : ∃ i1, i1 < m ∧ i1 ≠ i0 ∧ f i1 = k
      · obtain ⟨i1, h1, hne, e1⟩ := hex2
        rcases Nat.lt_or_gt_of_ne hne with hl | hl
        · exact ⟨i1, i0, hl, h0, by rw [e0, e1]⟩
        · exact ⟨i0, i1, hl, h1, by rw [e0, e1]⟩
      · have hs : ∀ i, i < m → i ≠ i0 → f i < k := fun i hi hn => by
          have h1 := h i hi
          have h2 : f i ≠ k := fun e => hex2 ⟨i, hi, hn, e⟩
          omega
        have hsk : ∀ i, i < m - 1 → (if i < i0 then i else i + 1) < m ∧ (if i < i0 then i else i + 1) ≠ i0 := fun i hi => by split <;> omega
        obtain ⟨i, j, hij, hj, e⟩ := ih (m - 1) (fun i => f (if i < i0 then i else i + 1)) (fun i hi => hs _ (hsk i hi).1 (hsk i hi).2) (by omega)
        exact ⟨_, _, by split <;> split <;> omega, (hsk j hj).1, e⟩
    · exact ih m f (fun i hi => by have h1 := h i hi; have h2 : f i ≠ k := fun e => hex ⟨i, hi, e⟩; omega) (by omega)

/-- A group that commutes. -/
class Ab (G : Type) where
  zero : G
  add : G → G → G
  neg : G → G
  add_comm : ∀ a b, add a b = add b a
  add_assoc : ∀ a b c, add (add a b) c = add a (add b c)
  add_zero : ∀ a, add a zero = a
  add_neg : ∀ a, add a (neg a) = zero
section
variable {G : Type} [Ab G]
theorem ab_zero_add (a : G) : Ab.add Ab.zero a = a := by rw [Ab.add_comm, Ab.add_zero]
theorem ab_cancel {a b c : G} (h : Ab.add a b = Ab.add a c) : b = c := by
  have := congrArg (Ab.add (Ab.neg a)) h
  rwa [← Ab.add_assoc, ← Ab.add_assoc, Ab.add_comm (Ab.neg a), Ab.add_neg, ab_zero_add, ab_zero_add] at this
theorem ab_left_comm (a b c : G) : Ab.add a (Ab.add b c) = Ab.add b (Ab.add a c) := by rw [← Ab.add_assoc, Ab.add_comm a b, Ab.add_assoc]
/-- Two sums of two, by parts. -/
theorem ab_four (a b c d : G) : Ab.add (Ab.add a b) (Ab.add c d) = Ab.add (Ab.add a c) (Ab.add b d) := by
  rw [Ab.add_assoc, Ab.add_assoc, ab_left_comm b c d]
def nsm : Nat → G → G
  | 0, _ => Ab.zero
  | n + 1, x => Ab.add (nsm n x) x
theorem nsm_zero (n : Nat) : nsm n (Ab.zero : G) = Ab.zero := by
  induction n with
  | zero => rfl
  | succ n ih => show Ab.add (nsm n Ab.zero) Ab.zero = _; rw [ih, Ab.add_zero]
theorem nsm_one (x : G) : nsm 1 x = x := ab_zero_add x
theorem nsm_add (m n : Nat) (x : G) : nsm (m + n) x = Ab.add (nsm m x) (nsm n x) := by
  induction n with
  | zero => exact (Ab.add_zero _).symm
  | succ n ih => show Ab.add (nsm (m + n) x) x = Ab.add (nsm m x) (Ab.add (nsm n x) x); rw [ih, Ab.add_assoc]
theorem nsm_mul (m n : Nat) (x : G) : nsm (m * n) x = nsm m (nsm n x) := by
  induction m with
  | zero => rw [Nat.zero_mul]; rfl
  | succ m ih => rw [Nat.succ_mul, nsm_add, ih]; rfl
theorem nsm_distr (n : Nat) (x y : G) : nsm n (Ab.add x y) = Ab.add (nsm n x) (nsm n y) := by
  induction n with
  | zero => exact (Ab.add_zero _).symm
  | succ n ih => show Ab.add (nsm n (Ab.add x y)) (Ab.add x y) = Ab.add (Ab.add (nsm n x) x) (Ab.add (nsm n y) y); rw [ih, ab_four]
theorem nsm_comm (m n : Nat) (x : G) : nsm m (nsm n x) = nsm n (nsm m x) := by rw [← nsm_mul, Nat.mul_comm, nsm_mul]
theorem nsm_dvd {n a : Nat} {x : G} (h : nsm n x = Ab.zero) (hd : n ∣ a) : nsm a x = Ab.zero := by
  obtain ⟨k, rfl⟩ := hd
  rw [Nat.mul_comm, nsm_mul, h, nsm_zero]
/-- An opposite, as a multiple. -/
theorem nsm_back {n : Nat} {x : G} (hn : 0 < n) (h : nsm n x = Ab.zero) (a : Nat) : Ab.add (nsm a x) (nsm ((n - 1) * a) x) = Ab.zero := by
  rw [← nsm_add]
  have : a + (n - 1) * a = n * a := by
    obtain ⟨k, rfl⟩ : ∃ k, n = k + 1 := ⟨n - 1, by omega⟩
    rw [Nat.add_sub_cancel, Nat.succ_mul, Nat.add_comm]
  rw [this, Nat.mul_comm, nsm_mul, h, nsm_zero]
theorem nsm_gcd {x : G} (m k : Nat) (h1 : nsm m x = Ab.zero) (h2 : nsm k x = Ab.zero) : nsm (Nat.gcd m k) x = Ab.zero := by
  induction m, k using Nat.gcd.induction with
  | H0 k => rw [Nat.gcd_zero_left]; exact h2
  | H1 m k hm ih =>
    rw [Nat.gcd_rec]
    refine ih ?_ h1
    have e := Nat.div_add_mod k m
    rw [← e, nsm_add, Nat.mul_comm, nsm_mul, h1, nsm_zero, ab_zero_add] at h2
    exact h2
/-- The order of an element: n, where n kills it, but no n / q does. -/
theorem order_of {x : G} {n : Nat} (hn0 : 0 < n) (hn : nsm n x = Ab.zero) (hq : ∀ q, Prime q → q ∣ n → nsm (n / q) x ≠ Ab.zero) {a : Nat} (ha : nsm a x = Ab.zero) : n ∣ a := by
  have hd := nsm_gcd a n ha hn
  obtain ⟨e, he⟩ := Nat.gcd_dvd_right a n
  have hg := Nat.gcd_dvd_left a n
  generalize Nat.gcd a n = d at hd he hg
  have hd0 : d ≠ 0 := by rintro rfl; rw [Nat.zero_mul] at he; omega
  by_cases h1 : e = 1
  · rw [h1, Nat.mul_one] at he; rw [he]; exact hg
  · have he0 : e ≠ 0 := by rintro rfl; rw [Nat.mul_zero] at he; omega
    obtain ⟨q, hp, hqe⟩ := exists_prime e (by omega)
    refine absurd ?_ (hq q hp (Nat.dvd_trans hqe ⟨d, by rw [he, Nat.mul_comm]⟩))
    obtain ⟨f, rfl⟩ := hqe
    have : n / q = f * d := by
      rw [he, show d * (q * f) = q * (f * d) by rw [Nat.mul_left_comm, Nat.mul_comm d f], Nat.mul_div_cancel_left _ (pos_of_prime hp)]
    rw [this, nsm_mul, hd, nsm_zero]
theorem back_eq {m n a c : Nat} (hn : 0 < n) (hmn : m ∣ n) (ha : a < m) (hc : c < m) (h : m ∣ a + (n - 1) * c) : a = c := by
  obtain ⟨k, rfl⟩ := hmn
  obtain ⟨j, hj⟩ := h
  have e1 : (m * k - 1) * c + c = m * (k * c) := by
    obtain ⟨t, ht⟩ : ∃ t, m * k = t + 1 := ⟨m * k - 1, by omega⟩
    rw [ht, Nat.add_sub_cancel, ← Nat.succ_mul, ← Nat.mul_assoc, ht]
  have e2 : a + m * (k * c) = c + m * j := by omega
  have e3 := congrArg (· % m) e2
  simp only [Nat.add_mul_mod_self_left] at e3
  rwa [Nat.mod_eq_of_lt ha, Nat.mod_eq_of_lt hc] at e3
/-- Each element, twice, is a sum of multiples of two, if these make more than a third of all. -/
theorem third_part (enc : G → Nat) (B : Nat) (henc : ∀ x, enc x < B) (inj : ∀ x y, enc x = enc y → x = y) (g h : G) (n m : Nat) (hn0 : 0 < n) (hmn : m ∣ n)
    (hg : nsm n g = Ab.zero) (hh : nsm n h = Ab.zero) (ind : ∀ a c, Ab.add (nsm a g) (nsm c h) = Ab.zero → m ∣ c) (ord : ∀ a, nsm a g = Ab.zero → n ∣ a) (hB : B < 3 * (n * m)) (q : G) :
    ∃ a c, nsm 2 q = Ab.add (nsm a g) (nsm c h) := by
  have hm0 : 0 < m := Nat.pos_of_dvd_of_pos hmn hn0
  obtain ⟨i, j, hij, hj, e⟩ := pigeon B (3 * (n * m)) (fun i => enc (Ab.add (nsm (i / (n * m)) q) (Ab.add (nsm (i % n) g) (nsm (i / n % m) h)))) (fun i _ => henc _) hB
  have e := inj _ _ e
  have hle : i / (n * m) ≤ j / (n * m) := Nat.div_le_div_right (Nat.le_of_lt hij)
  have hlt : j / (n * m) < 3 := Nat.div_lt_of_lt_mul (by rw [Nat.mul_comm]; exact hj)
  obtain ⟨d, hd⟩ : ∃ d, j / (n * m) = i / (n * m) + d := ⟨_, (Nat.add_sub_cancel' hle).symm⟩
  rw [hd, nsm_add, Ab.add_assoc] at e
  have e := ab_cancel e
  -- what is left, with the opposites of the second one's
  have e2 := congrArg (fun z => Ab.add z (Ab.add (nsm ((n - 1) * (j % n)) g) (nsm ((n - 1) * (j / n % m)) h))) e
  simp only [Ab.add_assoc (nsm d q)] at e2
  rw [ab_four, ab_four (nsm (j % n) g), nsm_back hn0 hg, nsm_back hn0 hh, Ab.add_zero, Ab.add_zero, ← nsm_add, ← nsm_add] at e2
  match d, hd with
  | 0, hd =>
    have e3 : Ab.add (nsm (i % n + (n - 1) * (j % n)) g) (nsm (i / n % m + (n - 1) * (j / n % m)) h) = Ab.zero := e2
    have hc := back_eq hn0 hmn (Nat.mod_lt _ hm0) (Nat.mod_lt _ hm0) (ind _ _ e3)
    have hz : nsm (i / n % m + (n - 1) * (j / n % m)) h = Ab.zero := by rw [hc, nsm_add]; exact nsm_back hn0 hh _
    rw [hz, Ab.add_zero] at e3
    have ha := back_eq hn0 (Nat.dvd_refl n) (Nat.mod_lt _ hn0) (Nat.mod_lt _ hn0) (ord _ e3)
    exfalso
    have k1 := Nat.div_add_mod i n
    have k2 := Nat.div_add_mod j n
    have k3 := Nat.div_add_mod (i / n) m
    have k4 := Nat.div_add_mod (j / n) m
    rw [Nat.div_div_eq_div_mul] at k3 k4
    rw [hd, Nat.add_zero, ← hc, k3] at k4
    rw [← k4, ← ha, k1] at k2
    omega
  | 1, _ => exact ⟨2 * (i % n + (n - 1) * (j % n)), 2 * (i / n % m + (n - 1) * (j / n % m)), by rw [nsm_mul 2, nsm_mul 2, ← nsm_distr, e2, nsm_one]⟩
  | 2, _ => exact ⟨_, _, e2.symm⟩
  | d + 3, hd => exact absurd (hd ▸ hlt) (Nat.not_lt.2 (Nat.le_trans (Nat.le_add_left 3 d) (Nat.le_add_left _ _)))
/-- A number that is no multiple of a prime has an inverse. -/
theorem inv_mod {l c : Nat} (hl : Prime l) (hc : ¬ l ∣ c) : ∃ c' t, c' * c = t * l + 1 := by
  haveI : Pos l := ⟨pos_of_prime hl⟩
  have h := inv_exists hl (Z.of l c) (fun e => hc (of_eq_zero.1 e))
  refine ⟨(pow (Z.of l c) (l - 2)).val, (c * (pow (Z.of l c) (l - 2)).val) / l, ?_⟩
  generalize pow (Z.of l c) (l - 2) = z at h ⊢
  rw [← Z.of_val z, ← Z.of_mul] at h
  have h1 : (c * z.val) % l = 1 % l := congrArg Z.val h
  rw [Nat.mod_eq_of_lt (show 1 < l from hl.two_le)] at h1
  have := Nat.div_add_mod (c * z.val) l
  rw [h1, Nat.mul_comm l] at this
  rw [this, Nat.mul_comm]
/-- At a prime: where the second is no multiple of the first, there is no sum that is 0 but of multiples. -/
theorem ind_at {l n : Nat} (hl : Prime l) (hln : l ∣ n) {g h : G} (hg : nsm n g = Ab.zero) (hh : nsm n h = Ab.zero) (hno : ∀ c, nsm (n / l) h ≠ nsm c (nsm (n / l) g)) {a c : Nat} (e : Ab.add (nsm a g) (nsm c h) = Ab.zero) : l ∣ c := by
  refine Classical.byContradiction fun hc => ?_
  obtain ⟨c', t, ht⟩ := inv_mod hl hc
  obtain ⟨k, rfl⟩ := hln
  have hl0 := pos_of_prime hl
  rw [Nat.mul_div_cancel_left _ hl0] at hno
  rw [nsm_mul] at hg hh
  have e1 := congrArg (nsm k) e
  rw [nsm_distr, nsm_zero, nsm_comm k a, nsm_comm k c] at e1
  generalize nsm k g = x at *
  generalize nsm k h = y at *
  have e2 := congrArg (nsm c') e1
  rw [nsm_distr, nsm_zero, ← nsm_mul, ← nsm_mul, ht, nsm_add, nsm_mul t l, hh, nsm_zero, ab_zero_add, nsm_one] at e2
  have e3 := nsm_back hl0 hg (c' * a)
  exact hno _ (ab_cancel (e2.trans e3.symm))
theorem inert11 (c : Nat) : ¬ 11 ∣ c * c + c + 1 := by
  intro h
  have h1 := Nat.mod_eq_zero_of_dvd h
  rw [Nat.add_mod, Nat.add_mod (c * c), Nat.mul_mod] at h1
  have h2 := Nat.mod_lt c (show 0 < 11 by decide)
  generalize c % 11 = x at h1 h2
  revert h1
  revert x
  decide
theorem inert23 (c : Nat) : ¬ 23 ∣ c * c + c + 1 := by
  intro h
  have h1 := Nat.mod_eq_zero_of_dvd h
  rw [Nat.add_mod, Nat.add_mod (c * c), Nat.mul_mod] at h1
  have h2 := Nat.mod_lt c (show 0 < 23 by decide)
  generalize c % 23 = x at h1 h2
  revert h1
  revert x
  decide
/-- Modulo a prime that is 2 modulo 3, no number but 1 has the cube 1. -/
theorem inert_of {l k : Nat} (hl : Prime l) (hk : l = 3 * k + 2) (h3 : ¬ l ∣ 3) (c : Nat) : ¬ l ∣ c * c + c + 1 := by
  intro h
  haveI : Pos l := ⟨pos_of_prime hl⟩
  have h0 : Z.of l c * Z.of l c + Z.of l c + 1 = 0 := by
    have := of_eq_zero.2 h
    rwa [Z.of_add, Z.of_add, Z.of_mul] at this
  generalize Z.of l c = z at h0
  have hz : pow z 3 = 1 := by
    rw [pow_succ, pow_succ, pow_one]
    have : z * z * z - 1 = 0 := by
      have := lin1 (env [z]) (v0 * v0 * v0 - 1) 0 (v0 - 1) (v0 * v0 + v0 + 1) 0 h0 (by decide +kernel)
      exact this
    exact eq_of_sub this
  have hne : z ≠ 0 := by
    intro e
    rw [e, zero_pow (by decide)] at hz
    have : (0 : Nat) % l = 1 % l := congrArg Z.val hz
    rw [Nat.zero_mod, Nat.mod_eq_of_lt hl.two_le] at this
    omega
  have hf := inv_exists hl z hne
  have e2 : z * pow z (l - 2) = z := by
    have : pow z (l - 2) = 1 := by
      rw [show l - 2 = 3 * k by omega, pow_mul, hz, one_pow]
    rw [this, mul_one]
  rw [hf] at e2
  rw [← e2, mul_one] at h0
  apply h3
  exact of_eq_zero.1 (show Z.of l 3 = 0 from (show Z.of l 3 = 1 + 1 + 1 from (Z.of_add 2 1).trans (congrArg (· + 1) (Z.of_add 1 1))).trans h0)
end

section
variable {G : Type} [Ab G]
/-- A map with f(f x) + f x + x = 0. -/
structure Om (f : G → G) : Prop where
  add : ∀ x y, f (Ab.add x y) = Ab.add (f x) (f y)
  zero : f Ab.zero = Ab.zero
  om : ∀ x, Ab.add (Ab.add (f (f x)) (f x)) x = Ab.zero
theorem Om.nsm {f : G → G} (H : Om f) (n : Nat) (x : G) : f (nsm n x) = Alg.nsm n (f x) := by
  induction n with
  | zero => exact H.zero
  | succ n ih => show f (Ab.add (Alg.nsm n x) x) = Ab.add (Alg.nsm n (f x)) (f x); rw [H.add, ih]
theorem Om.root {f : G → G} (H : Om f) {x : G} {c : Nat} (e : f x = Alg.nsm c x) : Alg.nsm (c * c + c + 1) x = Ab.zero := by
  have := H.om x
  rw [e, H.nsm, e, ← nsm_mul, ← nsm_add] at this
  exact this
theorem order_prime {l : Nat} (hl : Prime l) {x : G} (hx : nsm l x = Ab.zero) (h0 : x ≠ Ab.zero) {a : Nat} (ha : nsm a x = Ab.zero) : l ∣ a := by
  refine order_of (pos_of_prime hl) hx (fun q hq hd => ?_) ha
  have hql : q = l := by
    rcases hl.2 q hd with e | e
    · exact absurd hq.two_le (by omega)
    · exact e
  rw [hql, Nat.div_self (pos_of_prime hl), nsm_one]
  exact h0
/-- Where no number is a root modulo l, no multiple is the image. -/
theorem Om.inert {f : G → G} (H : Om f) {l : Nat} (hl : Prime l) {x : G} (hx : Alg.nsm l x = Ab.zero) (h0 : x ≠ Ab.zero) (hno : ∀ c, ¬ l ∣ c * c + c + 1) (c : Nat) : f x ≠ Alg.nsm c x :=
  fun e => hno c (order_prime hl hx h0 (H.root e))
/-- Where -s and -t are the roots modulo l. -/
theorem Om.split {f : G → G} (H : Om f) {l s t k : Nat} (hl : Prime l) {x : G} (hx : Alg.nsm l x = Ab.zero) (h0 : x ≠ Ab.zero) (hst : s + t = l + 1) (hp : s * t = l * k + 1)
    (h1 : Ab.add (f x) (Alg.nsm s x) ≠ Ab.zero) (h2 : Ab.add (f x) (Alg.nsm t x) ≠ Ab.zero) (c : Nat) : f x ≠ Alg.nsm c x := by
  intro e
  have hd := order_prime hl hx h0 (H.root e)
  have e2 : (c + s) * (c + t) = (c * c + c + 1) + l * (c + k) := by
    have : (c + s) * (c + t) = c * c + c * (s + t) + s * t := by
      rw [Nat.add_mul, Nat.mul_add, Nat.mul_add, Nat.mul_add, Nat.mul_comm s c]; omega
    rw [this, hst, hp, Nat.mul_add, Nat.mul_add, Nat.mul_comm c l]; omega
  have hd2 : l ∣ (c + s) * (c + t) := by rw [e2]; exact Nat.dvd_add hd ⟨_, rfl⟩
  rcases hl.dvd_mul hd2 with h | h
  · have := nsm_dvd hx h
    rw [nsm_add, ← e] at this
    exact h1 this
  · have := nsm_dvd hx h
    rw [nsm_add, ← e] at this
    exact h2 this
end

section
variable {G : Type} [Ab G]
theorem nsm_ll {l n : Nat} (hd : l ∣ n) {x : G} (h : nsm n x = Ab.zero) : nsm l (nsm (n / l) x) = Ab.zero := by
  rw [← nsm_mul, Nat.mul_div_cancel' hd]; exact h
/-- What r kills is a multiple of the base. -/
theorem cyc_of {f : G → G} (H : Om f) {g bb : G} {r h t w lam s : Nat} (hu : t * h = 1 + r * w) (hb : nsm h g = nsm h bb) (hl : f bb = nsm lam bb) (hr : r + 1 = s * 2) {q : G} (hq : nsm r q = Ab.zero) {a c : Nat}
    (e : nsm 2 q = Ab.add (nsm a g) (nsm c (f g))) : ∃ k, q = nsm k bb := by
  have e1 : nsm (t * h) (nsm 2 q) = nsm 2 q := by
    rw [hu, nsm_add, nsm_one, Nat.mul_comm, nsm_mul, nsm_comm r 2, hq, nsm_zero, nsm_zero, Ab.add_zero]
  have e2 : nsm 2 q = nsm (t * (a * h + c * (h * lam))) bb := by
    rw [← e1, e, nsm_mul, nsm_distr, nsm_comm h a, nsm_comm h c, hb, ← H.nsm, hb, H.nsm, hl, ← nsm_mul h, ← nsm_mul a, ← nsm_mul c, ← nsm_add, ← nsm_mul]
  refine ⟨s * (t * (a * h + c * (h * lam))), ?_⟩
  have e3 : nsm (r + 1) q = q := by rw [nsm_add, hq, ab_zero_add, nsm_one]
  rw [nsm_mul, ← e2, ← nsm_mul, ← hr, e3]
end

/-! ### the points of a curve -/
section
variable {K : Type} [CRing K]
def Gp (b : K) : Type := { p : Pt K // On b p }
theorem Gp.ext {b : K} {p q : Gp b} (h : p.1 = q.1) : p = q := Subtype.ext h
theorem on_of {b : K} {p : Gp b} {q : Pt K} (h : p.1 = q) : On b q := h ▸ p.2
def Gp.of {b : K} {p : Pt K} (h : On b p) : Gp b := ⟨p, h⟩
end
section
variable {K : Type} [CRing K] [IsField K] {b : K}
noncomputable instance [C : Cv K b] : Ab (Gp b) where
  zero := ⟨.inf, trivial⟩
  add p q := ⟨padd p.1 q.1, on_add C p.2 q.2⟩
  neg p := ⟨p.1.neg, on_neg p.2⟩
  add_comm p q := Gp.ext (add_comm_pt C p.2 q.2)
  add_assoc p q r := Gp.ext (add_assoc_pt C p.2 q.2 r.2)
  add_zero p := Gp.ext (add_inf p.1)
  add_neg p := Gp.ext (add_neg_pt C p.1)
theorem nsm_val [C : Cv K b] (n : Nat) (p : Gp b) : (nsm n p).1 = smul n p.1 := by
  induction n with
  | zero => rfl
  | succ n ih => show padd (nsm n p).1 p.1 = padd (smul n p.1) p.1; rw [ih]
theorem gp_zero [C : Cv K b] {p : Gp b} : p = Ab.zero ↔ p.1 = .inf := ⟨fun h => congrArg Subtype.val h, fun h => Gp.ext h⟩
/-- The map by a root of 1. -/
def omP (u : K) : Pt K → Pt K := mpP (fun x => x) u 1
theorem om_hm {u : K} (C : Cv K b) (hu : u * u + u + 1 = 0) : Hm b (fun x => x) u 1 where
  add _ _ := rfl
  mul _ _ := rfl
  neg _ := rfl
  inj _ _ h := h
  une h := by rw [h, mul_zero, add_zero, zero_add] at hu; exact absurd hu one_ne_zero
  uv := by
    have := lin1 (env [u]) (1 * 1) (v0 * v0 * v0) (-(v0 - 1)) (v0 * v0 + v0 + 1) 0 hu (by decide +kernel)
    exact this
  bb := by
    have := lin1 (env [u, b]) (v0 * v0 * v0 * v1) v1 ((v0 - 1) * v1) (v0 * v0 + v0 + 1) 0 hu (by decide +kernel)
    exact this
theorem om_three {u : K} (C : Cv K b) (hu : u * u + u + 1 = 0) {p : Pt K} (hp : On b p) : padd (padd (omP u (omP u p)) (omP u p)) p = .inf := by
  cases p with
  | inf => rfl
  | aff x y =>
    have hp : y * y = x * x * x + b := hp
    show padd (padd (.aff (x * u * u) (y * 1 * 1)) (.aff (x * u) (y * 1))) (.aff x y) = .inf
    rw [mul_one, mul_one]
    have hl : Ln b (x * u * u) y (x * u) y 0 := by
      refine ⟨?_, ?_, ?_⟩
      · have := lin2 (env [x, y, u, b]) (v1 * v1) (v0 * v2 * v2 * (v0 * v2 * v2) * (v0 * v2 * v2) + v3) 1 (v1 * v1) (v0 * v0 * v0 + v3) (-(v0 * v0 * v0 * (v2 - 1) * (v2 * v2 * v2 + 1))) (v2 * v2 + v2 + 1) 0 hp hu (by decide +kernel)
        exact this
      · exact ident (env [x, y, u]) v1 (v1 + 0 * (v0 * v2 - v0 * v2 * v2)) (by decide +kernel)
      · have := lin1 (env [x, y, u]) (0 * (v1 + v1)) (v0 * v2 * (v0 * v2) + v0 * v2 * v2 * (v0 * v2) + v0 * v2 * v2 * (v0 * v2 * v2)) (-(v0 * v0 * v2 * v2)) (v2 * v2 + v2 + 1) 0 hu (by decide +kernel)
        exact this
    have hn : ¬ (x * u * u = x * u ∧ y = -y) := by
      rintro ⟨e1, e2⟩
      have hy := neg_eq_self C e2
      have hu0 : u ≠ 0 := (om_hm (b := b) C hu).une
      have e3 : u * (x * (u - 1)) = 0 := by
        have := lin1 (env [x, u]) (v1 * (v0 * (v1 - 1))) 0 1 (v0 * v1 * v1) (v0 * v1) e1 (by decide +kernel)
        exact this
      rcases mul_eq_zero.1 e3 with h | h
      · exact hu0 h
      · rcases mul_eq_zero.1 h with h | h
        · rw [hy, h, mul_zero, mul_zero, zero_add] at hp
          exact C.bne hp.symm
        · have hu1 : u = 1 := eq_of_sub h
          rw [hu1, mul_one] at hu
          exact C.three hu
    rw [padd_ln C hl hn]
    have ex : (0 : K) * 0 - x * u * u - x * u = x := by
      have := lin1 (env [x, u]) (0 * 0 - v0 * v1 * v1 - v0 * v1) v0 (-v0) (v1 * v1 + v1 + 1) 0 hu (by decide +kernel)
      exact this
    unfold sumBy
    rw [ex, zero_mul]
    have ey : (0 : K) - y = -y := by rw [sub_def, zero_add]
    rw [ey]
    have := padd_opp x (-y) C
    rwa [neg_neg] at this
noncomputable def omG (u : K) (C : Cv K b) (hu : u * u + u + 1 = 0) (p : Gp b) : Gp b := ⟨omP u p.1, ((om_hm C hu).on p.1).2 p.2⟩
theorem omG_om {u : K} [C : Cv K b] (hu : u * u + u + 1 = 0) : Om (omG u C hu) where
  add p q := Gp.ext ((om_hm C hu).mp_add C p.2 q.2)
  zero := rfl
  om p := Gp.ext (om_three C hu p.2)
/-- Where -b is no cube, no point is its own opposite. -/
theorem no_two (C : Cv K b) (hb : ∀ x : K, x * x * x ≠ -b) {p : Pt K} (hp : On b p) (h : padd p p = .inf) : p = .inf := by
  cases p with
  | inf => rfl
  | aff x y =>
    have hp : y * y = x * x * x + b := hp
    rw [padd_aff, if_pos rfl] at h
    split at h
    · rename_i h2
      rcases h2 with h2 | h2
      · exact absurd rfl h2
      · rw [h2, mul_zero] at hp
        refine absurd ?_ (hb x)
        have := lin1 (env [x, b]) (v0 * v0 * v0) (-v1) (-1) 0 (v0 * v0 * v0 + v1) hp (by decide +kernel)
        exact this
    · cases h
theorem two_tor [C : Cv K b] (hb : ∀ x : K, x * x * x ≠ -b) {p : Gp b} (h : nsm 2 p = Ab.zero) : p = Ab.zero := by
  refine gp_zero.2 (no_two C hb p.2 ?_)
  have := congrArg Subtype.val h
  exact (congrArg (padd · p.1) (inf_add p.1)).symm.trans this
theorem jmul_isnt (C : Cv K b) {tz : K → Bool} (ht : ∀ x, tz x = true ↔ x = 0) {m : Nat} {qx qy x y : K} (hq : On b (.aff qx qy)) (g : Nat) (hg : m < 2 ^ g) (h : jis tz (jmul tz m qx qy g ⟨0, 0, 0⟩) x y = false) : smul m (.aff qx qy) ≠ .aff x y := by
  intro e
  have hr := jmul_of C ht hq g hg
  rw [e] at hr
  obtain ⟨h1, h2, h3⟩ := hr
  have : jis tz (jmul tz m qx qy g ⟨0, 0, 0⟩) x y = true := by
    unfold jis
    have hz : ∀ a c : K, a = c → tz (a - c) = true := fun a c e => (ht _).2 (by rw [e, sub_self])
    rw [hz _ _ h2, hz _ _ h3]
    cases h4 : tz (jmul tz m qx qy g ⟨0, 0, 0⟩).z with
    | true => exact absurd ((ht _).1 h4) h1
    | false => rfl
  rw [h] at this; cases this
/-- All of it: each point, twice, is a sum of multiples of g and of its image; n kills each. -/
theorem grp_all [C : Cv K b] {u : K} (hu : u * u + u + 1 = 0) (hb : ∀ x : K, x * x * x ≠ -b) (enc : Pt K → Nat) (B : Nat) (henc : ∀ p, On b p → enc p < B) (inj : ∀ p q, On b p → On b q → enc p = enc q → p = q)
    (g : Gp b) (n m : Nat) (hn0 : 0 < n) (hmn : m ∣ n) (hg : nsm n g = Ab.zero) (ind : ∀ a c, Ab.add (nsm a g) (nsm c (omG u C hu g)) = Ab.zero → m ∣ c) (ord : ∀ q, Prime q → q ∣ n → nsm (n / q) g ≠ Ab.zero) (hB : B < 3 * (n * m)) (q : Gp b) :
    nsm n q = Ab.zero ∧ ∃ a c, nsm 2 q = Ab.add (nsm a g) (nsm c (omG u C hu g)) := by
  have hh : nsm n (omG u C hu g) = Ab.zero := by rw [← (omG_om hu).nsm, hg]; rfl
  obtain ⟨a, c, e⟩ := third_part (fun p : Gp b => enc p.1) B (fun p => henc p.1 p.2) (fun p q h => Gp.ext (inj p.1 q.1 p.2 q.2 h)) g (omG u C hu g) n m hn0 hmn hg hh ind (fun a ha => order_of hn0 hg ord ha) hB q
  refine ⟨two_tor hb ?_, a, c, e⟩
  rw [nsm_comm, e, nsm_distr, nsm_comm n, hg, nsm_zero, nsm_comm n, hh, nsm_zero, Ab.add_zero]
theorem split_ne [C : Cv K b] {u : K} (hu : u * u + u + 1 = 0) {x : Gp b} {s : Nat} {gx gy : K} (hx : x.1 = .aff gx gy) (h : smul s (.aff gx gy) ≠ .aff (gx * u) (-gy)) : Ab.add (omG u C hu x) (nsm s x) ≠ Ab.zero := by
  intro e
  have e2 : nsm s x = Ab.neg (omG u C hu x) := by
    have := Ab.add_neg (omG u C hu x)
    exact ab_cancel (e.trans this.symm)
  have e3 := congrArg Subtype.val e2
  rw [nsm_val, hx] at e3
  apply h
  rw [e3]
  show (omP u x.1).neg = _
  rw [hx]
  show Pt.aff (gx * u) (-(gy * 1)) = _
  rw [mul_one]
theorem ne_of_aff [C : Cv K b] {x : Gp b} {gx gy : K} (hx : x.1 = .aff gx gy) : x ≠ Ab.zero := by
  intro e
  rw [gp_zero.1 e] at hx; cases hx
/-- What n kills, is of order r, c times, where n divides r * c. -/
theorem tor_gen (C : Cv K b) {n r c : Nat} (hd : n ∣ r * c) {q : Pt K} (hq : On b q) (ha : smul n q = .inf) : Go.Proofs.Ythceokldlinjlaa.Tor b r (smul c q) := ⟨on_smul C hq _, by
  obtain ⟨k, hk⟩ := hd
  rw [← smul_mul C hq, hk, Nat.mul_comm, smul_mul C hq, ha, smul_inf]⟩
end
end Go.Alg
