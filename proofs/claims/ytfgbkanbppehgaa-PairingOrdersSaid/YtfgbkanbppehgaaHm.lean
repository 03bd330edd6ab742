/-
  Maps of a curve to itself that keep lines: (x, y) to (s x * u, s y * v), with an automorphism s of the field.
-/
import Derived.Test.YtfgbkanbppehgaaEc
namespace Go.Alg

section
variable {K : Type} [CRing K]
structure Hm (b : K) (s : K → K) (u v : K) : Prop where
  add : ∀ x y, s (x + y) = s x + s y
  mul : ∀ x y, s (x * y) = s x * s y
  neg : ∀ x, s (-x) = -s x
  inj : ∀ x y, s x = s y → x = y
  une : u ≠ 0
  uv : v * v = u * u * u
  bb : u * u * u * s b = b
def mpP (s : K → K) (u v : K) : Pt K → Pt K
  | .inf => .inf
  | .aff x y => .aff (s x * u) (s y * v)
variable {b u v : K} {s : K → K}
theorem Hm.sub (H : Hm b s u v) (x y : K) : s (x - y) = s x - s y := by
  rw [sub_def, H.add, H.neg, ← sub_def]
theorem Hm.mp_neg (H : Hm b s u v) (p : Pt K) : mpP s u v p.neg = (mpP s u v p).neg := by
  cases p with
  | inf => rfl
  | aff x y =>
    show Pt.aff (s x * u) (s (-y) * v) = .aff (s x * u) (-(s y * v))
    rw [H.neg, neg_mul]
theorem mul_subM (a x y : K) : a * (x - y) = a * x - a * y := ident (env [a, x, y]) (v0 * (v1 - v2)) (v0 * v1 - v0 * v2) (by decide +kernel)
variable [IsField K]
theorem mul_right_cancelM {a x y : K} (ha : a ≠ 0) (h : x * a = y * a) : x = y := mul_cancel ha (by rw [mul_comm a x, mul_comm a y]; exact h)
theorem Hm.vne (H : Hm b s u v) : v ≠ 0 := by
  intro h
  have := H.uv
  rw [h, zero_mul] at this
  have h2 := this.symm
  rcases mul_eq_zero.1 h2 with h3 | h3
  · rcases mul_eq_zero.1 h3 with h4 | h4 <;> exact H.une h4
  · exact H.une h3
theorem Hm.on (H : Hm b s u v) (p : Pt K) : On b (mpP s u v p) ↔ On b p := by
  cases p with
  | inf => exact Iff.rfl
  | aff x y =>
    show s y * v * (s y * v) = s x * u * (s x * u) * (s x * u) + b ↔ y * y = x * x * x + b
    have e1 : s y * v * (s y * v) = u * u * u * s (y * y) := by
      rw [H.mul, ← H.uv]
      exact ident (env [s y, v]) (v0 * v1 * (v0 * v1)) (v1 * v1 * (v0 * v0)) (by decide +kernel)
    have e2 : s x * u * (s x * u) * (s x * u) + b = u * u * u * s (x * x * x + b) := by
      rw [H.add, H.mul, H.mul, mul_add, H.bb]
      exact congrArg (· + b) (ident (env [s x, u]) (v0 * v1 * (v0 * v1) * (v0 * v1)) (v1 * v1 * v1 * (v0 * v0 * v0)) (by decide +kernel))
    rw [e1, e2]
    constructor
    · intro h
      refine H.inj _ _ ?_
      have h0 : u * u * u ≠ 0 := by
        rw [← H.uv]
        intro h
        rcases mul_eq_zero.1 h with h4 | h4 <;> exact H.vne h4
      have := congrArg (fun z => z - u * u * u * s (x * x * x + b)) h
      simp only [sub_self, ← mul_subM] at this
      rcases mul_eq_zero.1 this with h3 | h3
      · exact absurd h3 h0
      · exact sub_eq_zero.1 h3
    · intro h; rw [h]
theorem Hm.ln (H : Hm b s u v) {x1 y1 x2 y2 l : K} (h : Ln b x1 y1 x2 y2 l) : Ln b (s x1 * u) (s y1 * v) (s x2 * u) (s y2 * v) (s l * (v * inv u)) := by
  have hm : u * inv u = 1 := mul_inv H.une
  have hmv : v * inv u * v = u * u := by
    have : v * inv u * v = v * v * inv u := ident (env [v, inv u]) (v0 * v1 * v0) (v0 * v0 * v1) (by decide +kernel)
    rw [this, H.uv]
    have : u * u * u * inv u = u * u * (u * inv u) := ident (env [u, inv u]) (v0 * v0 * v0 * v1) (v0 * v0 * (v0 * v1)) (by decide +kernel)
    rw [this, hm, mul_one]
  have hmu : v * inv u * u = v := by
    have : v * inv u * u = v * (u * inv u) := ident (env [v, inv u, u]) (v0 * v1 * v2) (v0 * (v2 * v1)) (by decide +kernel)
    rw [this, hm, mul_one]
  refine ⟨?_, ?_, ?_⟩
  · exact (H.on (.aff x1 y1)).2 h.on
  · have e := congrArg s h.h1
    rw [H.add, H.mul, H.sub] at e
    rw [e]
    exact lin1 (env [s y1, s l, s x1, s x2, v, inv u, u]) ((v0 + v1 * (v3 - v2)) * v4) (v0 * v4 + v1 * (v4 * v5) * (v3 * v6 - v2 * v6)) (-(v1 * (v3 - v2))) (v4 * v5 * v6) v4 hmu (by decide +kernel)
  · have e := congrArg s h.e1
    rw [H.mul, H.add, H.add, H.add, H.mul, H.mul, H.mul] at e
    exact lin2 (env [s y1, s y2, s l, s x1, s x2, v, inv u, u]) (v2 * (v5 * v6) * (v0 * v5 + v1 * v5)) (v4 * v7 * (v4 * v7) + v3 * v7 * (v4 * v7) + v3 * v7 * (v3 * v7)) (v2 * (v0 + v1)) (v5 * v6 * v5) (v7 * v7) (v7 * v7) (v2 * (v0 + v1)) (v4 * v4 + v3 * v4 + v3 * v3) hmv e (by decide +kernel)
theorem Hm.mp_add (C : Cv K b) (H : Hm b s u v) {p q : Pt K} (hp : On b p) (hq : On b q) : mpP s u v (padd p q) = padd (mpP s u v p) (mpP s u v q) := by
  cases p with
  | inf => rw [inf_add]; exact (inf_add _).symm
  | aff x1 y1 =>
    cases q with
    | inf => rw [add_inf]; exact (add_inf _).symm
    | aff x2 y2 =>
      by_cases hn : x1 = x2 ∧ y2 = -y1
      · obtain ⟨rfl, rfl⟩ := hn
        rw [padd_opp x1 y1 C]
        show Pt.inf = padd (.aff (s x1 * u) (s y1 * v)) (.aff (s x1 * u) (s (-y1) * v))
        rw [H.neg, neg_mul, padd_opp _ _ C]
      · obtain ⟨l, hl⟩ := ln_ex C hp hq hn
        have hn' : ¬ (s x1 * u = s x2 * u ∧ s y2 * v = -(s y1 * v)) := by
          rintro ⟨e1, e2⟩
          refine hn ⟨H.inj _ _ (mul_right_cancelM H.une e1), ?_⟩
          rw [← neg_mul, ← H.neg] at e2
          exact H.inj _ _ (mul_right_cancelM H.vne e2)
        rw [padd_ln C hl hn]
        show mpP s u v (sumBy l x1 y1 x2) = padd (.aff (s x1 * u) (s y1 * v)) (.aff (s x2 * u) (s y2 * v))
        rw [padd_ln C (H.ln hl) hn']
        have hm : u * inv u = 1 := mul_inv H.une
        have hmm : v * inv u * (v * inv u) = u := by
          have : v * inv u * (v * inv u) = v * v * (inv u * inv u) := ident (env [v, inv u]) (v0 * v1 * (v0 * v1)) (v0 * v0 * (v1 * v1)) (by decide +kernel)
          rw [this, H.uv]
          have : u * u * u * (inv u * inv u) = u * (u * inv u) * (u * inv u) := ident (env [u, inv u]) (v0 * v0 * v0 * (v1 * v1)) (v0 * (v0 * v1) * (v0 * v1)) (by decide +kernel)
          rw [this, hm, mul_one, mul_one]
        have hmu : v * inv u * u = v := by
          have : v * inv u * u = v * (u * inv u) := ident (env [v, inv u, u]) (v0 * v1 * v2) (v0 * (v2 * v1)) (by decide +kernel)
          rw [this, hm, mul_one]
        have ex : s (l * l - x1 - x2) * u = s l * (v * inv u) * (s l * (v * inv u)) - s x1 * u - s x2 * u := by
          rw [H.sub, H.sub, H.mul]
          exact lin1 (env [s l, s x1, s x2, v, inv u, u]) ((v0 * v0 - v1 - v2) * v5) (v0 * (v3 * v4) * (v0 * (v3 * v4)) - v1 * v5 - v2 * v5) (-(v0 * v0)) (v3 * v4 * (v3 * v4)) v5 hmm (by decide +kernel)
        unfold sumBy
        show Pt.aff _ _ = Pt.aff _ _
        rw [← ex]
        refine congrArg _ ?_
        rw [H.sub, H.mul, H.sub]
        exact lin1 (env [s l, s x1, s (l * l - x1 - x2), s y1, v, inv u, u]) ((v0 * (v1 - v2) - v3) * v4) (v0 * (v4 * v5) * (v1 * v6 - v2 * v6) - v3 * v4) (-(v0 * (v1 - v2))) (v4 * v5 * v6) v4 hmu (by decide +kernel)
theorem Hm.mp_smul (C : Cv K b) (H : Hm b s u v) {p : Pt K} (hp : On b p) (n : Nat) : mpP s u v (smul n p) = smul n (mpP s u v p) := by
  induction n with
  | zero => rfl
  | succ n ih =>
    show mpP s u v (padd (smul n p) p) = padd (smul n (mpP s u v p)) (mpP s u v p)
    rw [H.mp_add C (on_smul C hp n) hp, ih]
end
end Go.Alg
