/-
  The head of the laws of chapter 14: true.
-/
import Derived.Test.YtmebkhfdhbjacaaJm
import Derived.Test.YtmebkhfdhbjacaaHm
import Derived.Test.YtmebkhfdhbjacaaV2
namespace Go.Proofs.Ytmebkhfdhbjacaa
open Go Go.Eng Go.RowKit Go.Wd Go.Alg Go.Pr

theorem conj_conjM {R : Type} [CRing R] {c : R} (x : Quad R c) : x.conj.conj = x := Quad.ext' rfl (neg_neg _)
theorem conj_mulM {R : Type} [CRing R] {c : R} (x y : Quad R c) : (x * y).conj = x.conj * y.conj := Quad.ext'
  (ident (env [x.a, x.b, y.a, y.b, c]) (x0 * x2 + x4 * (x1 * x3)) (x0 * x2 + x4 * (-x1 * -x3)) (by decide +kernel)) (ident (env [x.a, x.b, y.a, y.b, c]) (-(x0 * x3 + x1 * x2)) (x0 * -x3 + -x1 * x2) (by decide +kernel))
/-- The base curve's map. -/
theorem hm1 : Hm b1 (fun x : F => x) (φ betaN) 1 where
  add _ _ := rfl
  mul _ _ := rfl
  neg _ := rfl
  inj _ _ h := h
  une h := by
    have : κF1 (φ betaN) = κF1 0 := by rw [h]
    revert this
    decide +kernel
  uv := κF1_inj (by decide +kernel)
  bb := κF1_inj (by decide +kernel)
theorem hm2 : Hm b2 (fun x : F2 => x.conj) (ι2 psX) (ι2 psY) where
  add x y := Quad.ext' rfl (neg_add_rev x.b y.b)
  mul x y := conj_mulM x y
  neg x := rfl
  inj x y h := by
    have := congrArg Quad.conj h
    rwa [conj_conjM, conj_conjM] at this
  une h := by
    have : κ2 (ι2 psX) = κ2 0 := by rw [h]
    revert this
    decide +kernel
  uv := κ2_inj (by decide +kernel)
  bb := κ2_inj (by decide +kernel)
theorem phiP_mp (p : Pt F) : phiP p = mpP (fun x : F => x) (φ betaN) 1 p := by
  cases p with
  | inf => rfl
  | aff x y => show Pt.aff (x * φ betaN) y = .aff (x * φ betaN) (y * 1); rw [mul_one]
theorem psiP_mp (p : Pt F2) : psiP p = mpP (fun x : F2 => x.conj) (ι2 psX) (ι2 psY) p := by cases p <;> rfl
theorem phi_on (p : Pt F) : On b1 (phiP p) ↔ On b1 p := by rw [phiP_mp]; exact hm1.on p
theorem psi_on (p : Pt F2) : On b2 (psiP p) ↔ On b2 p := by rw [psiP_mp]; exact hm2.on p
theorem phi_add {p q : Pt F} (hp : On b1 p) (hq : On b1 q) : phiP (padd p q) = padd (phiP p) (phiP q) := by rw [phiP_mp, phiP_mp, phiP_mp]; exact hm1.mp_add cv1 hp hq
theorem psi_add {p q : Pt F2} (hp : On b2 p) (hq : On b2 q) : psiP (padd p q) = padd (psiP p) (psiP q) := by rw [psiP_mp, psiP_mp, psiP_mp]; exact hm2.mp_add cv2 hp hq
theorem phi_smul {p : Pt F} (hp : On b1 p) (n : Nat) : phiP (smul n p) = smul n (phiP p) := by rw [phiP_mp, phiP_mp]; exact hm1.mp_smul cv1 hp n
theorem psi_smul {p : Pt F2} (hp : On b2 p) (n : Nat) : psiP (smul n p) = smul n (psiP p) := by rw [psiP_mp, psiP_mp]; exact hm2.mp_smul cv2 hp n
theorem ιphiN (p : P1) : ιP1 (phiN p) = phiP (ιP1 p) := ικP1 _
theorem ιpsiN (p : P2) : ιP2 (psiN p) = psiP (ιP2 p) := ικP2 _
theorem bool_eq {a b : Bool} (h : a = true ↔ b = true) : a = b := by cases a <;> cases b <;> simp_all
theorem onB1_phi (p : P1) : onB1 (phiN p) = onB1 p := bool_eq (by rw [onB1_iff, onB1_iff, ιphiN]; exact phi_on _)
theorem onB2_psi (p : P2) : onB2 (psiN p) = onB2 p := bool_eq (by rw [onB2_iff, onB2_iff, ιpsiN]; exact psi_on _)

def gA1 (x : P1) : Bool := x.2 || !(Nat.beq x.1.1 0 && Nat.beq x.1.2 0)
noncomputable def rowsA14 : List Row := [rowK1 (kdP A1) kdB.rs 46 (fun _ => true) (fun x => onB1 x = true), rowK1 (kdP A2) kdB.rs 32 (fun _ => true) (fun x => onB2 x = true),
  rowK1 (kdP A1) kdB.rs 53 gA1 (fun x => inB1 x = gA1 x), rowK1 (kdP A2) kdB.rs 54 (fun _ => true) (fun x => inB2 x = true)]
theorem rowsA14_ok : ∀ r ∈ rowsA14, RowOk Try.prog r := by
  simp only [rowsA14, List.forall_mem_cons, List.not_mem_nil, false_imp_iff, implies_true, and_true]
  exact ⟨rowK1_ok fun x hx => by rw [← hx]; exact g1_on x, rowK1_ok fun x hx => by rw [← hx]; exact g2_on x, rowK1_ok fun x hx => by rw [← hx]; exact sub_in1 x, rowK1_ok fun x hx => by rw [← hx]; exact sub_in2 x⟩
noncomputable def T14a : CallT := orT (tableT rowsA14) TSb
theorem T14a_ok : CallOk Try.prog T14a := orT_ok (tableT_ok rowsA14_ok) TSb_ok
theorem aw14_run : run1 T14a 50 [] (hF 200 [51]) = some (vB true, [inB1 base1 = gA1 base1, inB2 base2 = true, inB1 noneP1 = gA1 noneP1, inB1 zP1 = gA1 zP1, (clr2 zP2).2 = 120 ↔ true = true, (clr1 base1).2 = 0 ↔ true = true,
  onB1 (clr1 base1).1 = true, onB2 (psiN base2) = true, eqP' (psiN base2) base2 false]) := by kernel_rfl
theorem none1_on : onB1 noneP1 = true := by rw [onC1_eq]; decide +kernel
theorem none1_inf : ιP1 noneP1 = .inf := rfl
theorem none1_r : smul rNum (ιP1 noneP1) = .inf := by rw [none1_inf, smul_inf]
theorem clr1_on {p : P1} (h : onB1 p = true) : clr1 p = (κP1 (smul c1Num (ιP1 p)), 0) := mulR1_on h _
theorem clr2_on {p : P2} (h : onB2 p = true) : clr2 p = (κP2 (smul c2Num (ιP2 p)), 0) := mulR2_on h _
theorem clr1_off {p : P1} (h : onB1 p = false) : clr1 p = (zP1, 120) := mulR1_off h _
theorem clr2_off {p : P2} (h : onB2 p = false) : clr2 p = (zP2, 120) := mulR2_off h _
theorem fst1_1 (A : P1) (i : Int) : (A, i).1 = A := rfl
theorem snd1_1 (A : P1) (i : Int) : (A, i).2 = i := rfl
theorem fst1_2 (A : P2) (i : Int) : (A, i).1 = A := rfl
theorem snd1_2 (A : P2) (i : Int) : (A, i).2 = i := rfl
theorem smP1 (p : Pt F) : Sm (κP1 p).1 := by
  cases p with
  | inf => exact sm_of (by decide +kernel)
  | aff x y => exact sm_append (sm_val _) (sm_val _)
theorem smP2 (p : Pt F2) : Sm (κP2 p).1 := by
  cases p with
  | inf => exact sm_of (by decide +kernel)
  | aff x y => exact sm_append (sm_κ2 _) (sm_κ2 _)
theorem onB1_κ {p : Pt F} (h : On b1 p) : onB1 (κP1 p) = true := (onB1_iff _).2 (by rw [ικP1]; exact h)
theorem onB2_κ {p : Pt F2} (h : On b2 p) : onB2 (κP2 p) = true := (onB2_iff _).2 (by rw [ικP2]; exact h)
theorem onB1_smul (n : Nat) {p : P1} (h : onB1 p = true) : onB1 (κP1 (smul n (ιP1 p))) = true := onB1_κ (on_smul cv1 ((onB1_iff p).1 h) n)
theorem onB2_smul (n : Nat) {p : P2} (h : onB2 p = true) : onB2 (κP2 (smul n (ιP2 p))) = true := onB2_κ (on_smul cv2 ((onB2_iff p).1 h) n)
theorem aw14 : Pure Try.prog 50 [] (.bool true) := by
  refine pureB_of_run T14a_ok aw14_run ?_ vals0
  refine all_cons base1_in (all_cons base2_in (all_cons ?_ (all_cons ?_ (all_cons (iff_t ?_) (all_cons (iff_t ?_) (all_cons ?_ (all_cons ?_ (all_cons ?_ all_nil))))))))
  · exact (inB1_iff _).2 ⟨(onB1_iff _).1 none1_on, none1_r⟩
  · refine bool_eq ⟨fun h => ?_, fun h => (by revert h; decide +kernel)⟩
    have := ((inB1_iff _).1 h).1
    have h2 := (onB1_iff zP1).2 this
    rw [zero1_off] at h2; cases h2
  · rw [clr2_off zero2_off]
  · rw [clr1_on base1_on, snd1_1]
  · rw [clr1_on base1_on, fst1_1]; exact onB1_smul c1Num base1_on
  · rw [onB2_psi]; exact base2_on
  · refine eqP_iff (smP2 _) (sm_of (by decide +kernel)) (iff_f ?_)
    intro h
    have : (psiN base2).1.1 = base2.1.1 := by rw [h]
    revert this
    decide +kernel
noncomputable def rowsL14 : List Row := [rowB0 50, mul64Row, add64Row, sub64Row]
theorem rowsL14_ok : ∀ r ∈ rowsL14, RowOk Try.prog r := by
  simp only [rowsL14, List.forall_mem_cons, List.not_mem_nil, false_imp_iff, implies_true, and_true]
  exact ⟨rowB0_ok aw14, mul64_ok, add64_ok, sub64_ok⟩
noncomputable def T14 : CallT := orT (tableT rowsL14) TSb
theorem T14_ok : CallOk Try.prog T14 := orT_ok (tableT_ok rowsL14_ok) TSb_ok
end Go.Proofs.Ytmebkhfdhbjacaa
