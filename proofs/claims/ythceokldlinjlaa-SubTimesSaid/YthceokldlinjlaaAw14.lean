/-
  The head of the laws of chapter 14: true.
-/
import Derived.Test.YthceokldlinjlaaJm
import Derived.Test.YthceokldlinjlaaPs
import Derived.Test.YthceokldlinjlaaV2
namespace Go.Proofs.Ythceokldlinjlaa
open Go Go.Eng Go.RowKit Go.Wd Go.Alg Go.Pr

theorem ιphiN (p : P1) : ιP1 (phiN p) = phiP (ιP1 p) := ικP1 _
theorem ιpsiN (p : P2) : ιP2 (psiN p) = psiP (ιP2 p) := ικP2 _
theorem onB1_phi (p : P1) : onB1 (phiN p) = onB1 p := bool_eq (by rw [onB1_iff, onB1_iff, ιphiN]; exact phi_on _)
theorem onB2_psi (p : P2) : onB2 (psiN p) = onB2 p := bool_eq (by rw [onB2_iff, onB2_iff, ιpsiN]; exact psi_on _)

def gA1 (x : P1) : Bool := x.2 || !(Nat.beq x.1.1 0 && Nat.beq x.1.2 0)
noncomputable def rowsA14 : List Row := [rowK1 (kdP A1) kdB.rs 29 (fun _ => true) (fun x => onB1 x = true), rowK1 (kdP A2) kdB.rs 23 (fun _ => true) (fun x => onB2 x = true),
  rowK1 (kdP A1) kdB.rs 28 gA1 (fun x => inB1 x = gA1 x), rowK1 (kdP A2) kdB.rs 30 (fun _ => true) (fun x => inB2 x = true)]
theorem rowsA14_ok : ∀ r ∈ rowsA14, RowOk Try.prog r := by
  simp only [rowsA14, List.forall_mem_cons, List.not_mem_nil, false_imp_iff, implies_true, and_true]
  exact ⟨rowK1_ok fun x hx => by rw [← hx]; exact g1_on x, rowK1_ok fun x hx => by rw [← hx]; exact g2_on x, rowK1_ok fun x hx => by rw [← hx]; exact sub_in1 x, rowK1_ok fun x hx => by rw [← hx]; exact sub_in2 x⟩
noncomputable def T14a : CallT := orT (tableT rowsA14) TSb
theorem T14a_ok : CallOk Try.prog T14a := orT_ok (tableT_ok rowsA14_ok) TSb_ok
theorem aw14_run : run1 T14a 25 [] (hF 200 [51]) = some (vB true, [inB1 base1 = gA1 base1, inB2 base2 = true, inB1 noneP1 = gA1 noneP1, inB1 zP1 = gA1 zP1, (clr2 zP2).2 = 120 ↔ true = true, (clr1 base1).2 = 0 ↔ true = true,
  onB1 (clr1 base1).1 = true, onB2 (psiN base2) = true, eqP' (psiN base2) base2 false]) := by kernel_rfl
theorem clr1_on {p : P1} (h : onB1 p = true) : clr1 p = (κP1 (smul c1Num (ιP1 p)), 0) := mulR1_on h _
theorem clr2_on {p : P2} (h : onB2 p = true) : clr2 p = (κP2 (smul c2Num (ιP2 p)), 0) := mulR2_on h _
theorem clr1_off {p : P1} (h : onB1 p = false) : clr1 p = (zP1, 120) := mulR1_off h _
theorem clr2_off {p : P2} (h : onB2 p = false) : clr2 p = (zP2, 120) := mulR2_off h _
theorem smP1 (p : Pt F) : Sm (κP1 p).1 := by
  cases p with
  | inf => exact sm_of (by decide +kernel)
  | aff x y => exact sm_append (sm_val _) (sm_val _)
theorem smP2 (p : Pt F2) : Sm (κP2 p).1 := by
  cases p with
  | inf => exact sm_of (by decide +kernel)
  | aff x y => exact sm_append (sm_κ2 _) (sm_κ2 _)
theorem onB1_κ {p : Pt F} (h : On b1 p) : onB1 (κP1 p) = true := (onB1_iff _).2 (by rw [ικP1]; exact h)
theorem onB2_κ {p : Pt F2} (h : On b2 p) : onB2 (κP2 p) = true := (onB2_iff _).2 (by rw [ικP2]; exact h)
theorem onB1_smul (n : Nat) {p : P1} (h : onB1 p = true) : onB1 (κP1 (smul n (ιP1 p))) = true := onB1_κ (on_smul cv1 ((onB1_iff p).1 h) n)
theorem onB2_smul (n : Nat) {p : P2} (h : onB2 p = true) : onB2 (κP2 (smul n (ιP2 p))) = true := onB2_κ (on_smul cv2 ((onB2_iff p).1 h) n)
theorem aw14 : Pure Try.prog 25 [] (.bool true) := by
  refine pureB_of_run T14a_ok aw14_run ?_ vals0
  refine all_cons base1_in (all_cons base2_in (all_cons ?_ (all_cons ?_ (all_cons (iff_t ?_) (all_cons (iff_t ?_) (all_cons ?_ (all_cons ?_ (all_cons ?_ all_nil))))))))
  · exact (inB1_iff _).2 ⟨(onB1_iff _).1 none1_on, none1_r⟩
  · refine bool_eq ⟨fun h => ?_, fun h => (by revert h; decide +kernel)⟩
    have := ((inB1_iff _).1 h).1
    have h2 := (onB1_iff zP1).2 this
    rw [zero1_off] at h2; cases h2
  · rw [clr2_off zero2_off]
  · rw [clr1_on base1_on, snd1_1]
  · rw [clr1_on base1_on, fst1_1]; exact onB1_smul c1Num base1_on
  · rw [onB2_psi]; exact base2_on
  · refine eqP_iff (smP2 _) (sm_of (by decide +kernel)) (iff_f ?_)
    intro h
    have : (psiN base2).1.1 = base2.1.1 := by rw [h]
    revert this
    decide +kernel
noncomputable def rowsL14 : List Row := [rowB0 25, mul64Row, add64Row, sub64Row]
theorem rowsL14_ok : ∀ r ∈ rowsL14, RowOk Try.prog r := by
  simp only [rowsL14, List.forall_mem_cons, List.not_mem_nil, false_imp_iff, implies_true, and_true]
  exact ⟨rowB0_ok aw14, mul64_ok, add64_ok, sub64_ok⟩
noncomputable def T14 : CallT := orT (tableT rowsL14) TSb
theorem T14_ok : CallOk Try.prog T14 := orT_ok (tableT_ok rowsL14_ok) TSb_ok
end Go.Proofs.Ythceokldlinjlaa
