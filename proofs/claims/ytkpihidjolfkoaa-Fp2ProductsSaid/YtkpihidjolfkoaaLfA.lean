/-
  Leaves, 10: inverses by halving and taking away: the plain law.
-/
import Derived.Test.YtkpihidjolfkoaaLf9
namespace Go.Proofs.Ytkpihidjolfkoaa
open Go Go.Eng Go.RowKit Go.Wd

/-- One of the pair of numbers: u stands for x times a. -/
def Std (a u x : Nat) : Prop := u % pN = x * a % pN
theorem pN_odd : pN % 2 = 1 := by decide +kernel
def half2 : Nat := (pN + 1) / 2
theorem half2_ok : 2 * half2 % pN = 1 := by decide +kernel
theorem cancel2 {x y : Nat} (h : 2 * x % pN = 2 * y % pN) : x % pN = y % pN := by
  have h2 : half2 * (2 * x) % pN = half2 * (2 * y) % pN := by rw [Nat.mul_mod, h, ← Nat.mul_mod]
  rw [← Nat.mul_assoc, ← Nat.mul_assoc, Nat.mul_comm half2 2, Nat.mul_mod, half2_ok, Nat.one_mul, Nat.mod_mod, Nat.mul_mod (2 * half2) y, half2_ok, Nat.one_mul, Nat.mod_mod] at h2
  exact h2
theorem hv_spec {x : Nat} (h : x < pN) : hv x < pN ∧ 2 * hv x % pN = x % pN := by
  have ho := pN_odd
  unfold hv
  split
  · rename_i e
    have : 2 * (x / 2) = x := by omega
    exact ⟨by omega, by rw [this]⟩
  · rename_i e
    have : 2 * ((x + pN) / 2) = x + pN := by omega
    exact ⟨by omega, by rw [this, Nat.add_mod_right]⟩
theorem Std.half {a u x : Nat} (h : Std a u x) (he : u % 2 = 0) (hx : x < pN) : Std a (u / 2) (hv x) := by
  unfold Std at *
  apply cancel2
  have e1 : 2 * (u / 2) = u := by omega
  rw [e1, h, ← Nat.mul_assoc, Nat.mul_mod x, ← (hv_spec hx).2, ← Nat.mul_mod]
structure EvOut (a u u' x' : Nat) : Prop where
  pos : 0 < u'
  le : u' ≤ u
  dvd : u' ∣ u
  odd : u' % 2 = 1
  lt : x' < pN
  std : Std a u' x'
theorem ev_spec {a : Nat} : ∀ n u x, 0 < u → u < 2 ^ n → x < pN → Std a u x → EvOut a u (ev n u x).1 (ev n u x).2 := by
  intro n
  induction n with
  | zero => intro u x h0 h1; simp at h1; omega
  | succ n ih =>
    intro u x h0 h1 hx hs
    rw [ev]
    by_cases he : u % 2 = 0
    · have e : (u % 2 == 0) = true := by simpa using he
      rw [e]
      have hp : u / 2 < 2 ^ n := by rw [Nat.pow_succ] at h1; omega
      have := ih (u / 2) (hv x) (by omega) hp (hv_spec hx).1 (hs.half he hx)
      exact ⟨this.pos, Nat.le_trans this.le (Nat.div_le_self _ _), Nat.dvd_trans this.dvd ⟨2, by omega⟩, this.odd, this.lt, this.std⟩
    · have e : (u % 2 == 0) = false := by simpa using he
      rw [e]
      exact ⟨h0, Nat.le_refl _, Nat.dvd_refl _, by show u % 2 = 1; omega, hx, hs⟩
theorem ev_specP (k : Nat) {a u x : Nat} (h0 : 0 < u) (h1 : u < pw k) (hx : x < pN) (hs : Std a u x) : EvOut a u (ev (64 * k) u x).1 (ev (64 * k) u x).2 := ev_spec (64 * k) u x h0 h1 hx hs
theorem evN_spec {a u x : Nat} (h0 : 0 < u) (h1 : u < M6) (hx : x < pN) (hs : Std a u x) : EvOut a u (evN u x).1 (evN u x).2 := ev_specP 6 h0 h1 hx hs
theorem rd_small {x : Nat} (h : x < pN) : rd x = x := by
  have : pN < M6 := pN_lt
  have h2 : x < M6 := Nat.lt_trans h this
  unfold rd; rw [Nat.mod_eq_of_lt h2, Nat.mod_eq_of_lt h]
theorem subN_eq {x y : Nat} (hx : x < pN) (hy : y < pN) : subN x y = (x + (pN - y)) % pN := by
  have h2 : negN y % pN = (pN - y) % pN := by unfold negN; rw [rd_small hy, Nat.mod_mod]
  have h3 : negN y < pN := Nat.mod_lt _ pN_pos
  unfold subN addN
  rw [rd_small hx, rd_small h3, Nat.add_mod, h2, ← Nat.add_mod]
theorem subN_lt (x y : Nat) : subN x y < pN := Nat.mod_lt _ pN_pos
theorem Std.sub {a u v x y : Nat} (hu : Std a u x) (hv : Std a v y) (hx : x < pN) (hy : y < pN) (hvu : v ≤ u) : Std a (u - v) (subN x y) := by
  unfold Std at *
  rw [subN_eq hx hy]
  have key : (u - v + v) % pN = ((x + (pN - y)) % pN * a + y * a) % pN := by
    rw [Nat.sub_add_cancel hvu, hu, Nat.add_mod, Nat.mod_mul_mod, ← Nat.add_mod, ← Nat.add_mul]
    have : x + (pN - y) + y = x + pN := by omega
    rw [this, Nat.add_mul, Nat.mul_comm pN, Nat.add_mul_mod_self_right]
  have k2 : (u - v + v) % pN = (u - v + y * a) % pN := by rw [Nat.add_mod, hv, ← Nat.add_mod]
  rw [k2] at key
  have cancel : ∀ p q r : Nat, (p + r) % pN = (q + r) % pN → p % pN = q % pN := by
    intro p q r h
    have hr := Nat.mod_lt r pN_pos
    have h2 : (p + r + (pN - r % pN)) % pN = (q + r + (pN - r % pN)) % pN := by rw [Nat.add_mod, h, ← Nat.add_mod]
    have e : ∀ z, (z + r + (pN - r % pN)) % pN = z % pN := by
      intro z
      have : z + r + (pN - r % pN) = z + pN * (r / pN) + pN := by
        have := Nat.div_add_mod r pN
        omega
      rw [this, Nat.add_mod_right, Nat.add_mul_mod_self_left]
    rw [e, e] at h2
    exact h2
  exact cancel _ _ _ key
structure InvI (a u v x y : Nat) : Prop where
  upos : 0 < u
  vpos : 0 < v
  ult : u < M6
  vlt : v < M6
  xlt : x < pN
  ylt : y < pN
  us : Std a u x
  vs : Std a v y
  gcd : Nat.gcd u v = 1
theorem gcd_of_dvd {u v u' v' : Nat} (h : Nat.gcd u v = 1) (hu : u' ∣ u) (hv : v' ∣ v) : Nat.gcd u' v' = 1 := by
  have h1 : Nat.gcd u' v' ∣ Nat.gcd u v := Nat.dvd_gcd (Nat.dvd_trans (Nat.gcd_dvd_left _ _) hu) (Nat.dvd_trans (Nat.gcd_dvd_right _ _) hv)
  rw [h] at h1
  exact Nat.dvd_one.1 h1
theorem InvI.gt {a u v x y : Nat} (h : InvI a u v x y) (ho : ¬ (evN u x).1 = 1) (hle : (evN v y).1 ≤ (evN u x).1) : InvI a ((evN u x).1 - (evN v y).1) (evN v y).1 (subN (evN u x).2 (evN v y).2) (evN v y).2 ∧ (evN u x).1 - (evN v y).1 + (evN v y).1 < u + v := by
  have eu := evN_spec h.upos h.ult h.xlt h.us
  have ev' := evN_spec h.vpos h.vlt h.ylt h.vs
  have hg := gcd_of_dvd h.gcd eu.dvd ev'.dvd
  have hu := h.ult; have hv := h.vlt; have hv0 := h.vpos
  have u1 := eu.le; have v1 := ev'.le; have u0 := eu.pos; have v0 := ev'.pos
  have hne : (evN u x).1 ≠ (evN v y).1 := by
    intro e
    rw [← e, Nat.gcd_self] at hg
    exact ho hg
  refine ⟨⟨by omega, v0, by omega, by omega, subN_lt _ _, ev'.lt, eu.std.sub ev'.std eu.lt ev'.lt hle, ev'.std, ?_⟩, by omega⟩
  rw [Nat.gcd_sub_self_left hle, hg]
theorem InvI.lt {a u v x y : Nat} (h : InvI a u v x y) (hlt : (evN u x).1 < (evN v y).1) : InvI a (evN u x).1 ((evN v y).1 - (evN u x).1) (evN u x).2 (subN (evN v y).2 (evN u x).2) ∧ (evN u x).1 + ((evN v y).1 - (evN u x).1) < u + v := by
  have eu := evN_spec h.upos h.ult h.xlt h.us
  have ev' := evN_spec h.vpos h.vlt h.ylt h.vs
  have hg := gcd_of_dvd h.gcd eu.dvd ev'.dvd
  have hu := h.ult; have hv := h.vlt; have hu0 := h.upos
  have u1 := eu.le; have v1 := ev'.le; have u0 := eu.pos; have v0 := ev'.pos
  refine ⟨⟨u0, by omega, by omega, by omega, eu.lt, subN_lt _ _, eu.std, ev'.std.sub eu.std ev'.lt eu.lt (by omega), ?_⟩, by omega⟩
  rw [Nat.gcd_sub_self_right (by omega), hg]
/-- r is a's inverse. -/
def IsInv (a r : Nat) : Prop := r < pN ∧ r * a % pN = 1
theorem IsInv.unique {a r s : Nat} (h : IsInv a r) (k : IsInv a s) : r = s := by
  obtain ⟨h1, h2⟩ := h
  obtain ⟨k1, k2⟩ := k
  have e : r * a * s % pN = s * a * r % pN := by rw [Nat.mul_right_comm]; congr 1; rw [Nat.mul_comm (r * s), Nat.mul_comm s a, Nat.mul_assoc, Nat.mul_comm r s]
  rw [Nat.mul_mod, h2, Nat.mul_mod (s * a), k2, Nat.one_mul, Nat.one_mul, Nat.mod_mod, Nat.mod_mod, Nat.mod_eq_of_lt h1, Nat.mod_eq_of_lt k1] at e
  exact e.symm
theorem one_mod : 1 % pN = 1 := by decide +kernel
theorem isInv_of_std {a x : Nat} (h : Std a 1 x) (hx : x < pN) : IsInv a x := ⟨hx, by unfold Std at h; rw [← h, one_mod]⟩
open Classical in
/-- The inverse of a number; 0 where there is none. -/
noncomputable def invN (a : Nat) : Nat := if h : ∃ r, IsInv (rd a) r then h.choose else 0
theorem invN_eq {a r : Nat} (h : IsInv (rd a) r) : invN a = r := by
  unfold invN
  rw [dif_pos ⟨r, h⟩]
  exact (Exists.choose_spec ⟨r, h⟩ : IsInv (rd a) _).unique h
theorem invN_zero {a : Nat} (h : rd a = 0) : invN a = 0 := by
  unfold invN
  rw [dif_neg]
  rintro ⟨r, _, hr⟩
  rw [h, Nat.mul_zero, Nat.zero_mod] at hr
  omega
theorem invI_start {a : Nat} (h0 : rd a ≠ 0) (hg : Nat.gcd (rd a) pN = 1) : InvI (rd a) (rd a) pN 1 0 := by
  have := rd_lt a
  have hp : pN < M6 := pN_lt
  refine ⟨by omega, pN_pos, by omega, hp, by omega, pN_pos, ?_, ?_, hg⟩
  · unfold Std; rw [Nat.one_mul]
  · unfold Std; rw [Nat.zero_mul, Nat.mod_self, Nat.zero_mod]
end Go.Proofs.Ytkpihidjolfkoaa
