/-
  Maps of a curve to itself that keep lines: (x, y) to (s x * u, s y * v), with an automorphism s of the field.
-/
import Derived.Test.YthceokldlinjlaaEc
import Derived.Test.YthceokldlinjlaaJm
namespace Go.Alg

section
variable {K : Type} [CRing K]
structure Hm (b : K) (s : K → K) (u v : K) : Prop where
  add : ∀ x y, s (x + y) = s x + s y
  mul : ∀ x y, s (x * y) = s x * s y
  neg : ∀ x, s (-x) = -s x
  inj : ∀ x y, s x = s y → x = y
  une : u ≠ 0
  uv : v * v = u * u * u
  bb : u * u * u * s b = b
def mpP (s : K → K) (u v : K) : Pt K → Pt K
  | .inf => .inf
  | .aff x y => .aff (s x * u) (s y * v)
variable {b u v : K} {s : K → K}
theorem Hm.sub (H : Hm b s u v) (x y : K) : s (x - y) = s x - s y := by
  rw [sub_def, H.add, H.neg, ← sub_def]
theorem Hm.mp_neg (H : Hm b s u v) (p : Pt K) : mpP s u v p.neg = (mpP s u v p).neg := by
  cases p with
  | inf => rfl
  | aff x y =>
    show Pt.aff (s x * u) (s (-y) * v) = .aff (s x * u) (-(s y * v))
    rw [H.neg, neg_mul]
theorem mul_subM (a x y : K) : a * (x - y) = a * x - a * y := ident (env [a, x, y]) (v0 * (v1 - v2)) (v0 * v1 - v0 * v2) (by decide +kernel)
variable [IsField K]
theorem mul_right_cancelM {a x y : K} (ha : a ≠ 0) (h : x * a = y * a) : x = y := mul_cancel ha (by rw [mul_comm a x, mul_comm a y]; exact h)
theorem Hm.vne (H : Hm b s u v) : v ≠ 0 := by
  intro h
  have := H.uv
  rw [h, zero_mul] at this
  have h2 := this.symm
  rcases mul_eq_zero.1 h2 with h3 | h3
  · rcases mul_eq_zero.1 h3 with h4 | h4 <;> exact H.une h4
  · exact H.une h3
theorem Hm.on (H : Hm b s u v) (p : Pt K) : On b (mpP s u v p) ↔ On b p := by
  cases p with
  | inf => exact Iff.rfl
  | aff x y =>
    show s y * v * (s y * v) = s x * u * (s x * u) * (s x * u) + b ↔ y * y = x * x * x + b
    have e1 : s y * v * (s y * v) = u * u * u * s (y * y) := by
      rw [H.mul, ← H.uv]
      exact ident (env [s y, v]) (v0 * v1 * (v0 * v1)) (v1 * v1 * (v0 * v0)) (by decide +kernel)
    have e2 : s x * u * (s x * u) * (s x * u) + b = u * u * u * s (x * x * x + b) := by
      rw [H.add, H.mul, H.mul, mul_add, H.bb]
      exact congrArg (· + b) (ident (env [s x, u]) (v0 * v1 * (v0 * v1) * (v0 * v1)) (v1 * v1 * v1 * (v0 * v0 * v0)) (by decide +kernel))
    rw [e1, e2]
    constructor
    · intro h
      refine H.inj _ _ ?_
      have h0 : u * u * u ≠ 0 := by
        rw [← H.uv]
        intro h
        rcases mul_eq_zero.1 h with h4 | h4 <;> exact H.vne h4
      have := congrArg (fun z => z - u * u * u * s (x * x * x + b)) h
      simp only [sub_self, ← mul_subM] at this
      rcases mul_eq_zero.1 this with h3 | h3
      · exact absurd h3 h0
      · exact sub_eq_zero.1 h3
    · intro h; rw [h]
theorem Hm.ln (H : Hm b s u v) {x1 y1 x2 y2 l : K} (h : Ln b x1 y1 x2 y2 l) : Ln b (s x1 * u) (s y1 * v) (s x2 * u) (s y2 * v) (s l * (v * inv u)) := by
  have hm : u * inv u = 1 := mul_inv H.une
  have hmv : v * inv u * v = u * u := by
    have : v * inv u * v = v * v * inv u := ident (env [v, inv u]) (v0 * v1 * v0) (v0 * v0 * v1) (by decide +kernel)
    rw [this, H.uv]
    have : u * u * u * inv u = u * u * (u * inv u) := ident (env [u, inv u]) (v0 * v0 * v0 * v1) (v0 * v0 * (v0 * v1)) (by decide +kernel)
    rw [this, hm, mul_one]
  have hmu : v * inv u * u = v := by
    have : v * inv u * u = v * (u * inv u) := ident (env [v, inv u, u]) (v0 * v1 * v2) (v0 * (v2 * v1)) (by decide +kernel)
    rw [this, hm, mul_one]
  refine ⟨?_, ?_, ?_⟩
  · exact (H.on (.aff x1 y1)).2 h.on
  · have e := congrArg s h.h1
    rw [H.add, H.mul, H.sub] at e
    rw [e]
    exact lin1 (env [s y1, s l, s x1, s x2, v, inv u, u]) ((v0 + v1 * (v3 - v2)) * v4) (v0 * v4 + v1 * (v4 * v5) * (v3 * v6 - v2 * v6)) (-(v1 * (v3 - v2))) (v4 * v5 * v6) v4 hmu (by decide +kernel)
  · have e := congrArg s h.e1
    rw [H.mul, H.add, H.add, H.add, H.mul, H.mul, H.mul] at e
    exact lin2 (env [s y1, s y2, s l, s x1, s x2, v, inv u, u]) (v2 * (v5 * v6) * (v0 * v5 + v1 * v5)) (v4 * v7 * (v4 * v7) + v3 * v7 * (v4 * v7) + v3 * v7 * (v3 * v7)) (v2 * (v0 + v1)) (v5 * v6 * v5) (v7 * v7) (v7 * v7) (v2 * (v0 + v1)) (v4 * v4 + v3 * v4 + v3 * v3) hmv e (by decide +kernel)
theorem Hm.mp_add (C : Cv K b) (H : Hm b s u v) {p q : Pt K} (hp : On b p) (hq : On b q) : mpP s u v (padd p q) = padd (mpP s u v p) (mpP s u v q) := by
  cases p with
  | inf => rw [inf_add]; exact (inf_add _).symm
  | aff x1 y1 =>
    cases q with
    | inf => rw [add_inf]; exact (add_inf _).symm
    | aff x2 y2 =>
      by_cases hn : x1 = x2 ∧ y2 = -y1
      · obtain ⟨rfl, rfl⟩ := hn
        rw [padd_opp x1 y1 C]
        show Pt.inf = padd (.aff (s x1 * u) (s y1 * v)) (.aff (s x1 * u) (s (-y1) * v))
        rw [H.neg, neg_mul, padd_opp _ _ C]
      · obtain ⟨l, hl⟩ := ln_ex C hp hq hn
        have hn' : ¬ (s x1 * u = s x2 * u ∧ s y2 * v = -(s y1 * v)) := by
          rintro ⟨e1, e2⟩
          refine hn ⟨H.inj _ _ (mul_right_cancelM H.une e1), ?_⟩
          rw [← neg_mul, ← H.neg] at e2
          exact H.inj _ _ (mul_right_cancelM H.vne e2)
        rw [padd_ln C hl hn]
        show mpP s u v (sumBy l x1 y1 x2) = padd (.aff (s x1 * u) (s y1 * v)) (.aff (s x2 * u) (s y2 * v))
        rw [padd_ln C (H.ln hl) hn']
        have hm : u * inv u = 1 := mul_inv H.une
        have hmm : v * inv u * (v * inv u) = u := by
          have : v * inv u * (v * inv u) = v * v * (inv u * inv u) := ident (env [v, inv u]) (v0 * v1 * (v0 * v1)) (v0 * v0 * (v1 * v1)) (by decide +kernel)
          rw [this, H.uv]
          have : u * u * u * (inv u * inv u) = u * (u * inv u) * (u * inv u) := ident (env [u, inv u]) (v0 * v0 * v0 * (v1 * v1)) (v0 * (v0 * v1) * (v0 * v1)) (by decide +kernel)
          rw [this, hm, mul_one, mul_one]
        have hmu : v * inv u * u = v := by
          have : v * inv u * u = v * (u * inv u) := ident (env [v, inv u, u]) (v0 * v1 * v2) (v0 * (v2 * v1)) (by decide +kernel)
          rw [this, hm, mul_one]
        have ex : s (l * l - x1 - x2) * u = s l * (v * inv u) * (s l * (v * inv u)) - s x1 * u - s x2 * u := by
          rw [H.sub, H.sub, H.mul]
          exact lin1 (env [s l, s x1, s x2, v, inv u, u]) ((v0 * v0 - v1 - v2) * v5) (v0 * (v3 * v4) * (v0 * (v3 * v4)) - v1 * v5 - v2 * v5) (-(v0 * v0)) (v3 * v4 * (v3 * v4)) v5 hmm (by decide +kernel)
        unfold sumBy
        show Pt.aff _ _ = Pt.aff _ _
        rw [← ex]
        refine congrArg _ ?_
        rw [H.sub, H.mul, H.sub]
        exact lin1 (env [s l, s x1, s (l * l - x1 - x2), s y1, v, inv u, u]) ((v0 * (v1 - v2) - v3) * v4) (v0 * (v4 * v5) * (v1 * v6 - v2 * v6) - v3 * v4) (-(v0 * (v1 - v2))) (v4 * v5 * v6) v4 hmu (by decide +kernel)
theorem Hm.mp_smul (C : Cv K b) (H : Hm b s u v) {p : Pt K} (hp : On b p) (n : Nat) : mpP s u v (smul n p) = smul n (mpP s u v p) := by
  induction n with
  | zero => rfl
  | succ n ih =>
    show mpP s u v (padd (smul n p) p) = padd (smul n (mpP s u v p)) (mpP s u v p)
    rw [H.mp_add C (on_smul C hp n) hp, ih]
end
end Go.Alg
/-
  The maps of the curves, phi and psi, keep sums.
-/
namespace Go.Proofs.Ythceokldlinjlaa
open Go Go.Eng Go.RowKit Go.Wd Go.Alg Go.Pr

theorem conj_conjM {R : Type} [CRing R] {c : R} (x : Quad R c) : x.conj.conj = x := Quad.ext' rfl (neg_neg _)
theorem conj_mulM {R : Type} [CRing R] {c : R} (x y : Quad R c) : (x * y).conj = x.conj * y.conj := Quad.ext'
  (ident (env [x.a, x.b, y.a, y.b, c]) (x0 * x2 + x4 * (x1 * x3)) (x0 * x2 + x4 * (-x1 * -x3)) (by decide +kernel)) (ident (env [x.a, x.b, y.a, y.b, c]) (-(x0 * x3 + x1 * x2)) (x0 * -x3 + -x1 * x2) (by decide +kernel))
/-- The base curve's map. -/
theorem hm1 : Hm b1 (fun x : F => x) (φ betaN) 1 where
  add _ _ := rfl
  mul _ _ := rfl
  neg _ := rfl
  inj _ _ h := h
  une h := by
    have : κF1 (φ betaN) = κF1 0 := by rw [h]
    revert this
    decide +kernel
  uv := κF1_inj (by decide +kernel)
  bb := κF1_inj (by decide +kernel)
theorem hm2 : Hm b2 (fun x : F2 => x.conj) (ι2 psX) (ι2 psY) where
  add x y := Quad.ext' rfl (neg_add_rev x.b y.b)
  mul x y := conj_mulM x y
  neg x := rfl
  inj x y h := by
    have := congrArg Quad.conj h
    rwa [conj_conjM, conj_conjM] at this
  une h := by
    have : κ2 (ι2 psX) = κ2 0 := by rw [h]
    revert this
    decide +kernel
  uv := κ2_inj (by decide +kernel)
  bb := κ2_inj (by decide +kernel)
theorem phiP_mp (p : Pt F) : phiP p = mpP (fun x : F => x) (φ betaN) 1 p := by
  cases p with
  | inf => rfl
  | aff x y => show Pt.aff (x * φ betaN) y = .aff (x * φ betaN) (y * 1); rw [mul_one]
theorem psiP_mp (p : Pt F2) : psiP p = mpP (fun x : F2 => x.conj) (ι2 psX) (ι2 psY) p := by cases p <;> rfl
theorem phi_on (p : Pt F) : On b1 (phiP p) ↔ On b1 p := by rw [phiP_mp]; exact hm1.on p
theorem psi_on (p : Pt F2) : On b2 (psiP p) ↔ On b2 p := by rw [psiP_mp]; exact hm2.on p
theorem phi_add {p q : Pt F} (hp : On b1 p) (hq : On b1 q) : phiP (padd p q) = padd (phiP p) (phiP q) := by rw [phiP_mp, phiP_mp, phiP_mp]; exact hm1.mp_add cv1 hp hq
theorem psi_add {p q : Pt F2} (hp : On b2 p) (hq : On b2 q) : psiP (padd p q) = padd (psiP p) (psiP q) := by rw [psiP_mp, psiP_mp, psiP_mp]; exact hm2.mp_add cv2 hp hq
theorem phiP_neg (p : Pt F) : phiP p.neg = (phiP p).neg := by cases p <;> rfl
theorem psiP_neg (p : Pt F2) : psiP p.neg = (psiP p).neg := by rw [psiP_mp, psiP_mp]; exact hm2.mp_neg p
theorem phi_smul {p : Pt F} (hp : On b1 p) (n : Nat) : phiP (smul n p) = smul n (phiP p) := by rw [phiP_mp, phiP_mp]; exact hm1.mp_smul cv1 hp n
theorem psi_smul {p : Pt F2} (hp : On b2 p) (n : Nat) : psiP (smul n p) = smul n (psiP p) := by rw [psiP_mp, psiP_mp]; exact hm2.mp_smul cv2 hp n
theorem bool_eq {a b : Bool} (h : a = true ↔ b = true) : a = b := by cases a <;> cases b <;> simp_all
theorem none1_on : onB1 noneP1 = true := by rw [onC1_eq]; decide +kernel
theorem none1_inf : ιP1 noneP1 = .inf := rfl
theorem none1_r : smul rNum (ιP1 noneP1) = .inf := by rw [none1_inf, smul_inf]
theorem fst1_1 (A : P1) (i : Int) : (A, i).1 = A := rfl
theorem snd1_1 (A : P1) (i : Int) : (A, i).2 = i := rfl
theorem fst1_2 (A : P2) (i : Int) : (A, i).1 = A := rfl
theorem snd1_2 (A : P2) (i : Int) : (A, i).2 = i := rfl
section
variable {K : Type} [CRing K] [IsField K] {b : K}
/-- A point of the curve, of order r. -/
structure Tor (b : K) (r : Nat) (p : Pt K) : Prop where
  on : On b p
  tor : smul r p = .inf
theorem Tor.add (C : Cv K b) {r : Nat} {p q : Pt K} (hp : Tor b r p) (hq : Tor b r q) : Tor b r (padd p q) := ⟨on_add C hp.on hq.on, by rw [smul_distr C hp.on hq.on, hp.tor, hq.tor]; rfl⟩
theorem Tor.smul (C : Cv K b) {r : Nat} {p : Pt K} (hp : Tor b r p) (n : Nat) : Tor b r (Alg.smul n p) := ⟨on_smul C hp.on n, by rw [← smul_mul C hp.on, Nat.mul_comm, smul_mul C hp.on, hp.tor, smul_inf]⟩
theorem Tor.neg (C : Cv K b) {r : Nat} {p : Pt K} (hp : Tor b r p) : Tor b r p.neg := ⟨on_neg hp.on, by rw [smul_neg C hp.on, hp.tor]; rfl⟩
end
section
variable {K : Type} [CRing K] {b : K}
theorem Tor.inf {r : Nat} : Tor b r .inf := ⟨trivial, smul_inf r⟩
end
theorem inB1_tor (p : P1) : inB1 p = true ↔ Tor b1 rNum (ιP1 p) := (inB1_iff p).trans ⟨fun h => ⟨h.1, h.2⟩, fun h => ⟨h.1, h.2⟩⟩
theorem inB2_tor (p : P2) : inB2 p = true ↔ Tor b2 rNum (ιP2 p) := (inB2_iff p).trans ⟨fun h => ⟨h.1, h.2⟩, fun h => ⟨h.1, h.2⟩⟩
theorem base1_tor : Tor b1 rNum (ιP1 base1) := ⟨base1_On, base1_r⟩
theorem base2_tor : Tor b2 rNum (ιP2 base2) := ⟨base2_On, base2_r⟩
theorem mul1_tor (n : Nat) : Tor b1 rNum (ιP1 (mulR1 base1 n).1) := by
  rw [mulR1_on base1_on, fst1_1, ικP1]; exact base1_tor.smul cv1 n
theorem mul2_tor (n : Nat) : Tor b2 rNum (ιP2 (mulR2 base2 n).1) := by
  rw [mulR2_on base2_on, fst1_2, ικP2]; exact base2_tor.smul cv2 n
theorem mul1_e (n : Nat) : (mulR1 base1 n).2 = 0 := by rw [mulR1_on base1_on, snd1_1]
theorem mul2_e (n : Nat) : (mulR2 base2 n).2 = 0 := by rw [mulR2_on base2_on, snd1_2]
theorem inB1_κ {p : Pt F} (h : Tor b1 rNum p) : inB1 (κP1 p) = true := (inB1_tor _).2 (by rw [ικP1]; exact h)
theorem inB2_κ {p : Pt F2} (h : Tor b2 rNum p) : inB2 (κP2 p) = true := (inB2_tor _).2 (by rw [ικP2]; exact h)
end Go.Proofs.Ythceokldlinjlaa
