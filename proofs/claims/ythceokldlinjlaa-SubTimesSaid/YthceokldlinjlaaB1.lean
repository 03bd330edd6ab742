/-
  The base point of G1; a point held against the curve, reckoned.
-/
import Derived.Test.YthceokldlinjlaaU1
namespace Go.Proofs.Ythceokldlinjlaa
open Go Go.Eng Go.RowKit Go.Wd Go.Alg Go.Pr

def base1 : P1 := ((0x17f1d3a73197d7942695638c4fa9ac0fc3688c4f9774b905a14e3a3f171bac586c55e83ff97a1aeffb3af00adb22c6bb, 0x08b3f481e3aaa0f1a09e30ed741d8ae4fcf5e095d5d00af600db18cb2c04b3edd03cc744a2888ae40caa232946c5e7e1), false)
/-- What a run hands back. -/
def outOf1 (r : Option (SV × List Prop)) : AV := match r with
  | some (.one x, _) => x
  | _ => ⟨false, []⟩
theorem g1_base_run : run1 none1 41 [] [] = some (.one (outOf1 (run1 none1 41 [] [])), []) := by kernel_rfl
theorem g1_base_rd : (kdP A1).rd (outOf1 (run1 none1 41 [] [])) = some base1 := by kernel_rfl
theorem g1_base : Pure Try.prog 41 [] (wpv base1) := pureX_of_run none1_ok (kdP A1) g1_base_run g1_base_rd (fun _ h => by cases h) vals0 rfl
/-- Is it on the curve? Reckoned. -/
def onC1 (x : P1) : Bool := match x.2 with
  | true => true
  | false => Nat.beq (mulF x.1.2 x.1.2) (addF (mulF (mulF x.1.1 x.1.1) x.1.1) 4)
theorem onC1_eq (x : P1) : onB1 x = onC1 x := by
  have key : onB1 x = true ↔ onC1 x = true := by
    rw [onB1_iff]
    obtain ⟨x, b⟩ := x
    cases b with
    | true => exact ⟨fun _ => rfl, fun _ => trivial⟩
    | false =>
      show φ x.2 * φ x.2 = φ x.1 * φ x.1 * φ x.1 + b1 ↔ Nat.beq (mulF x.2 x.2) (addF (mulF (mulF x.1 x.1) x.1) 4) = true
      have e : addF (mulF (mulF x.1 x.1) x.1) 4 = κF1 (φ x.1 * φ x.1 * φ x.1 + b1) := by
        show κF1 (φ (κF1 (φ (κF1 (φ x.1 * φ x.1)) * φ x.1)) + b1) = _
        rw [φκ, φκ]
      rw [e, Nat.beq_eq]
      constructor
      · intro h
        show κF1 (φ x.2 * φ x.2) = _
        rw [h]
      · intro h
        exact κF1_inj h
  cases h1 : onB1 x <;> cases h2 : onC1 x <;> simp_all
theorem base1_on : onB1 base1 = true := by rw [onC1_eq]; decide +kernel
theorem zero1_off : onB1 zP1 = false := by rw [onC1_eq]; decide +kernel
theorem base1_On : On b1 (ιP1 base1) := (onB1_iff _).1 base1_on
def noneP1 : P1 := ((0, 0), true)
noncomputable def addP1 (x y : P1) : P1 := κP1 (padd (ιP1 x) (ιP1 y))
def negP1 (x : P1) : P1 := κP1 (ιP1 x).neg
def redP1 (x : P1) : P1 := κP1 (ιP1 x)
theorem mulR1_on {x : P1} (h : onB1 x = true) (m : Nat) : mulR1 x m = (κP1 (smul m (ιP1 x)), 0) := by unfold mulR1; rw [h]
theorem mulR1_off {x : P1} (h : onB1 x = false) (m : Nat) : mulR1 x m = (zP1, 120) := by unfold mulR1; rw [h]; rfl
/-- The program's points, in a table. -/
noncomputable def rowsP1 : List Row :=
  rowC0 (kdP A1).rs 41 base1 ::
  rowC1 (kdP A1) (kdP A1).rs 42 (fun x => κP1 (ιP1 x).neg) ::
  rowC2 (kdP A1) (kdP A1) (kdP A1).rs 44 (fun x y => κP1 (padd (ιP1 x) (ιP1 y))) ::
  rowC1 (kdP A1) kdB.rs 29 onC1 :: rowC1 (kdP A1) (kdP A1).rs 84 (fun x => κP1 (ιP1 x)) :: rows01
theorem rowsP1_ok : ∀ r ∈ rowsP1, RowOk Try.prog r := by
  unfold rowsP1
  refine List.forall_mem_cons.2 ⟨rowC0_ok g1_base, ?_⟩
  refine List.forall_mem_cons.2 ⟨rowC1_ok g1_neg, ?_⟩
  refine List.forall_mem_cons.2 ⟨rowC2_ok g1_add, ?_⟩
  simp only [List.forall_mem_cons]
  exact ⟨rowC1_ok (fun x => by rw [show kdB.rs.vl (onC1 x) = Value.bool (onB1 x) by rw [onC1_eq]; rfl]; exact g1_on x), rowC1_ok g1_reduce, rows01_ok⟩
noncomputable def TP1 : CallT := orT (tableT rowsP1) (rowSB (kdP A1) rsM1 40 mulR1)
theorem TP1_ok : CallOk Try.prog TP1 := orT_ok (tableT_ok rowsP1_ok) g1_mul_row
end Go.Proofs.Ythceokldlinjlaa
