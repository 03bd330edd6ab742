/-
  The base point of G2; a point held against the curve, reckoned.
-/
import Derived.Test.YthceokldlinjlaaU2
namespace Go.Proofs.Ythceokldlinjlaa
open Go Go.Eng Go.RowKit Go.Wd Go.Alg Go.Pr

def base2 : P2 := (((0x024aa2b2f08f0a91260805272dc51051c6e47ad4fa403b02b4510b647ae3d1770bac0326a805bbefd48056c8c121bdb8, 0x13e02b6052719f607dacd3a088274f65596bd0d09920b61ab5da61bbdc7f5049334cf11213945d57e5ac7d055d042b7e),
  (0x0ce5d527727d6e118cc9cdc6da2e351aadfd9baa8cbdd3a76d429a695160d12c923ac9cc3baca289e193548608b82801, 0x0606c4a02ea734cc32acd2b02bc28b99cb3e287e85a763af267492ab572e99ab3f370d275cec1da1aaa9075ff05f79be)), false)
/-- What a run hands back. -/
def outOf2 (r : Option (SV × List Prop)) : AV := match r with
  | some (.one x, _) => x
  | _ => ⟨false, []⟩
theorem g2_base_run : run1 none1 21 [] [] = some (.one (outOf2 (run1 none1 21 [] [])), []) := by kernel_rfl
theorem g2_base_rd : (kdP A2).rd (outOf2 (run1 none1 21 [] [])) = some base2 := by kernel_rfl
theorem g2_base : Pure Try.prog 21 [] (wpv base2) := pureX_of_run none1_ok (kdP A2) g2_base_run g2_base_rd (fun _ h => by cases h) vals0 rfl
/-- Is it on the curve? Reckoned. -/
def onC2 (x : P2) : Bool := match x.2 with
  | true => true
  | false => sameN2 (mul2 x.1.2 x.1.2) (add2 (mul2 (mul2 x.1.1 x.1.1) x.1.1) (4, 4))
theorem onC2_eq (x : P2) : onB2 x = onC2 x := by
  have key : onB2 x = true ↔ onC2 x = true := by
    rw [onB2_iff]
    obtain ⟨x, b⟩ := x
    cases b with
    | true => exact ⟨fun _ => rfl, fun _ => trivial⟩
    | false =>
      show ι2 x.2 * ι2 x.2 = ι2 x.1 * ι2 x.1 * ι2 x.1 + b2 ↔ sameN2 (mul2 x.2 x.2) (add2 (mul2 (mul2 x.1 x.1) x.1) (4, 4)) = true
      have e : add2 (mul2 (mul2 x.1 x.1) x.1) (4, 4) = κ2 (ι2 x.1 * ι2 x.1 * ι2 x.1 + b2) := by
        show κ2 (ι2 (κ2 (ι2 (κ2 (ι2 x.1 * ι2 x.1)) * ι2 x.1)) + b2) = _
        rw [ικ2, ικ2]
      rw [e, sameN2_iff]
      constructor
      · intro h
        show κ2 (ι2 x.2 * ι2 x.2) = _
        rw [h]
      · intro h
        exact κ2_inj h
  cases h1 : onB2 x <;> cases h2 : onC2 x <;> simp_all
theorem base2_on : onB2 base2 = true := by rw [onC2_eq]; decide +kernel
theorem zero2_off : onB2 zP2 = false := by rw [onC2_eq]; decide +kernel
theorem base2_On : On b2 (ιP2 base2) := (onB2_iff _).1 base2_on
def noneP2 : P2 := (((0, 0), (0, 0)), true)
noncomputable def addP2 (x y : P2) : P2 := κP2 (padd (ιP2 x) (ιP2 y))
def negP2 (x : P2) : P2 := κP2 (ιP2 x).neg
def redP2 (x : P2) : P2 := κP2 (ιP2 x)
theorem mulR2_on {x : P2} (h : onB2 x = true) (m : Nat) : mulR2 x m = (κP2 (smul m (ιP2 x)), 0) := by unfold mulR2; rw [h]
theorem mulR2_off {x : P2} (h : onB2 x = false) (m : Nat) : mulR2 x m = (zP2, 120) := by unfold mulR2; rw [h]; rfl
/-- The program's points, in a table. -/
noncomputable def rowsP2 : List Row :=
  rowC0 (kdP A2).rs 21 base2 ::
  rowC1 (kdP A2) (kdP A2).rs 43 (fun x => κP2 (ιP2 x).neg) ::
  rowC2 (kdP A2) (kdP A2) (kdP A2).rs 22 (fun x y => κP2 (padd (ιP2 x) (ιP2 y))) ::
  rowC1 (kdP A2) kdB.rs 23 onC2 :: rowC1 (kdP A2) (kdP A2).rs 57 (fun x => κP2 (ιP2 x)) :: rows03
theorem rowsP2_ok : ∀ r ∈ rowsP2, RowOk Try.prog r := by
  unfold rowsP2
  refine List.forall_mem_cons.2 ⟨rowC0_ok g2_base, ?_⟩
  refine List.forall_mem_cons.2 ⟨rowC1_ok g2_neg, ?_⟩
  refine List.forall_mem_cons.2 ⟨rowC2_ok g2_add, ?_⟩
  simp only [List.forall_mem_cons]
  exact ⟨rowC1_ok (fun x => by rw [show kdB.rs.vl (onC2 x) = Value.bool (onB2 x) by rw [onC2_eq]; rfl]; exact g2_on x), rowC1_ok g2_reduce, rows03_ok⟩
noncomputable def TP2 : CallT := orT (tableT rowsP2) (rowSB (kdP A2) rsM2 20 mulR2)
theorem TP2_ok : CallOk Try.prog TP2 := orT_ok (tableT_ok rowsP2_ok) g2_mul_row
end Go.Proofs.Ythceokldlinjlaa
