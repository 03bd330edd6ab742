/-
  The maps of the curves, phi and psi, keep sums.
-/
import Derived.Test.YtfgbkanbppehgaaJm
import Derived.Test.YtfgbkanbppehgaaHm
namespace Go.Proofs.Ytfgbkanbppehgaa
open Go Go.Eng Go.RowKit Go.Wd Go.Alg Go.Pr

theorem conj_conjM {R : Type} [CRing R] {c : R} (x : Quad R c) : x.conj.conj = x := Quad.ext' rfl (neg_neg _)
theorem conj_mulM {R : Type} [CRing R] {c : R} (x y : Quad R c) : (x * y).conj = x.conj * y.conj := Quad.ext'
  (ident (env [x.a, x.b, y.a, y.b, c]) (x0 * x2 + x4 * (x1 * x3)) (x0 * x2 + x4 * (-x1 * -x3)) (by decide +kernel)) (ident (env [x.a, x.b, y.a, y.b, c]) (-(x0 * x3 + x1 * x2)) (x0 * -x3 + -x1 * x2) (by decide +kernel))
/-- The base curve's map. -/
theorem hm1 : Hm b1 (fun x : F => x) (φ betaN) 1 where
  add _ _ := rfl
  mul _ _ := rfl
  neg _ := rfl
  inj _ _ h := h
  une h := by
    have : κF1 (φ betaN) = κF1 0 := by rw [h]
    revert this
    decide +kernel
  uv := κF1_inj (by decide +kernel)
  bb := κF1_inj (by decide +kernel)
theorem hm2 : Hm b2 (fun x : F2 => x.conj) (ι2 psX) (ι2 psY) where
  add x y := Quad.ext' rfl (neg_add_rev x.b y.b)
  mul x y := conj_mulM x y
  neg x := rfl
  inj x y h := by
    have := congrArg Quad.conj h
    rwa [conj_conjM, conj_conjM] at this
  une h := by
    have : κ2 (ι2 psX) = κ2 0 := by rw [h]
    revert this
    decide +kernel
  uv := κ2_inj (by decide +kernel)
  bb := κ2_inj (by decide +kernel)
theorem phiP_mp (p : Pt F) : phiP p = mpP (fun x : F => x) (φ betaN) 1 p := by
  cases p with
  | inf => rfl
  | aff x y => show Pt.aff (x * φ betaN) y = .aff (x * φ betaN) (y * 1); rw [mul_one]
theorem psiP_mp (p : Pt F2) : psiP p = mpP (fun x : F2 => x.conj) (ι2 psX) (ι2 psY) p := by cases p <;> rfl
theorem phi_on (p : Pt F) : On b1 (phiP p) ↔ On b1 p := by rw [phiP_mp]; exact hm1.on p
theorem psi_on (p : Pt F2) : On b2 (psiP p) ↔ On b2 p := by rw [psiP_mp]; exact hm2.on p
theorem phi_add {p q : Pt F} (hp : On b1 p) (hq : On b1 q) : phiP (padd p q) = padd (phiP p) (phiP q) := by rw [phiP_mp, phiP_mp, phiP_mp]; exact hm1.mp_add cv1 hp hq
theorem psi_add {p q : Pt F2} (hp : On b2 p) (hq : On b2 q) : psiP (padd p q) = padd (psiP p) (psiP q) := by rw [psiP_mp, psiP_mp, psiP_mp]; exact hm2.mp_add cv2 hp hq
theorem phiP_neg (p : Pt F) : phiP p.neg = (phiP p).neg := by cases p <;> rfl
theorem psiP_neg (p : Pt F2) : psiP p.neg = (psiP p).neg := by rw [psiP_mp, psiP_mp]; exact hm2.mp_neg p
theorem phi_smul {p : Pt F} (hp : On b1 p) (n : Nat) : phiP (smul n p) = smul n (phiP p) := by rw [phiP_mp, phiP_mp]; exact hm1.mp_smul cv1 hp n
theorem psi_smul {p : Pt F2} (hp : On b2 p) (n : Nat) : psiP (smul n p) = smul n (psiP p) := by rw [psiP_mp, psiP_mp]; exact hm2.mp_smul cv2 hp n
theorem bool_eq {a b : Bool} (h : a = true ↔ b = true) : a = b := by cases a <;> cases b <;> simp_all
theorem none1_on : onB1 noneP1 = true := by rw [onC1_eq]; decide +kernel
theorem none1_inf : ιP1 noneP1 = .inf := rfl
theorem none1_r : smul rNum (ιP1 noneP1) = .inf := by rw [none1_inf, smul_inf]
theorem fst1_1 (A : P1) (i : Int) : (A, i).1 = A := rfl
theorem snd1_1 (A : P1) (i : Int) : (A, i).2 = i := rfl
theorem fst1_2 (A : P2) (i : Int) : (A, i).1 = A := rfl
theorem snd1_2 (A : P2) (i : Int) : (A, i).2 = i := rfl
section
variable {K : Type} [CRing K] [IsField K] {b : K}
/-- A point of the curve, of order r. -/
structure Tor (b : K) (r : Nat) (p : Pt K) : Prop where
  on : On b p
  tor : smul r p = .inf
theorem Tor.add (C : Cv K b) {r : Nat} {p q : Pt K} (hp : Tor b r p) (hq : Tor b r q) : Tor b r (padd p q) := ⟨on_add C hp.on hq.on, by rw [smul_distr C hp.on hq.on, hp.tor, hq.tor]; rfl⟩
theorem Tor.smul (C : Cv K b) {r : Nat} {p : Pt K} (hp : Tor b r p) (n : Nat) : Tor b r (Alg.smul n p) := ⟨on_smul C hp.on n, by rw [← smul_mul C hp.on, Nat.mul_comm, smul_mul C hp.on, hp.tor, smul_inf]⟩
theorem Tor.neg (C : Cv K b) {r : Nat} {p : Pt K} (hp : Tor b r p) : Tor b r p.neg := ⟨on_neg hp.on, by rw [smul_neg C hp.on, hp.tor]; rfl⟩
end
section
variable {K : Type} [CRing K] {b : K}
theorem Tor.inf {r : Nat} : Tor b r .inf := ⟨trivial, smul_inf r⟩
end
theorem inB1_tor (p : P1) : inB1 p = true ↔ Tor b1 rNum (ιP1 p) := (inB1_iff p).trans ⟨fun h => ⟨h.1, h.2⟩, fun h => ⟨h.1, h.2⟩⟩
theorem inB2_tor (p : P2) : inB2 p = true ↔ Tor b2 rNum (ιP2 p) := (inB2_iff p).trans ⟨fun h => ⟨h.1, h.2⟩, fun h => ⟨h.1, h.2⟩⟩
theorem base1_tor : Tor b1 rNum (ιP1 base1) := ⟨base1_On, base1_r⟩
theorem base2_tor : Tor b2 rNum (ιP2 base2) := ⟨base2_On, base2_r⟩
theorem mul1_tor (n : Nat) : Tor b1 rNum (ιP1 (mulR1 base1 n).1) := by
  rw [mulR1_on base1_on, fst1_1, ικP1]; exact base1_tor.smul cv1 n
theorem mul2_tor (n : Nat) : Tor b2 rNum (ιP2 (mulR2 base2 n).1) := by
  rw [mulR2_on base2_on, fst1_2, ικP2]; exact base2_tor.smul cv2 n
theorem mul1_e (n : Nat) : (mulR1 base1 n).2 = 0 := by rw [mulR1_on base1_on, snd1_1]
theorem mul2_e (n : Nat) : (mulR2 base2 n).2 = 0 := by rw [mulR2_on base2_on, snd1_2]
theorem inB1_κ {p : Pt F} (h : Tor b1 rNum p) : inB1 (κP1 p) = true := (inB1_tor _).2 (by rw [ικP1]; exact h)
theorem inB2_κ {p : Pt F2} (h : Tor b2 rNum p) : inB2 (κP2 p) = true := (inB2_tor _).2 (by rw [ικP2]; exact h)
end Go.Proofs.Ytfgbkanbppehgaa
