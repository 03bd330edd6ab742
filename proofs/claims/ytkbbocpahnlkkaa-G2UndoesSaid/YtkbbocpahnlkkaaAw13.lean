/-
  The head of the laws of chapter 13: true. The base point.
-/
import Derived.Test.YtkbbocpahnlkkaaU2
namespace Go.Proofs.Ytkbbocpahnlkkaa
open Go Go.Eng Go.RowKit Go.Wd Go.Alg Go.Pr

def base2 : P2 := (((0x024aa2b2f08f0a91260805272dc51051c6e47ad4fa403b02b4510b647ae3d1770bac0326a805bbefd48056c8c121bdb8, 0x13e02b6052719f607dacd3a088274f65596bd0d09920b61ab5da61bbdc7f5049334cf11213945d57e5ac7d055d042b7e),
  (0x0ce5d527727d6e118cc9cdc6da2e351aadfd9baa8cbdd3a76d429a695160d12c923ac9cc3baca289e193548608b82801, 0x0606c4a02ea734cc32acd2b02bc28b99cb3e287e85a763af267492ab572e99ab3f370d275cec1da1aaa9075ff05f79be)), false)
/-- What a run hands back. -/
def outOf (r : Option (SV × List Prop)) : AV := match r with
  | some (.one x, _) => x
  | _ => ⟨false, []⟩
theorem g2_base_run : run1 none1 47 [] [] = some (.one (outOf (run1 none1 47 [] [])), []) := by kernel_rfl
theorem g2_base_rd : (kdP A2).rd (outOf (run1 none1 47 [] [])) = some base2 := by kernel_rfl
theorem g2_base : Pure Try.prog 47 [] (wpv base2) := pureX_of_run none1_ok (kdP A2) g2_base_run g2_base_rd (fun _ h => by cases h) vals0 rfl
/-- Is it on the curve? Reckoned. -/
def onC2 (x : P2) : Bool := match x.2 with
  | true => true
  | false => Nat.beq (mul2 x.1.2 x.1.2).1 (add2 (mul2 (mul2 x.1.1 x.1.1) x.1.1) (4, 4)).1 && Nat.beq (mul2 x.1.2 x.1.2).2 (add2 (mul2 (mul2 x.1.1 x.1.1) x.1.1) (4, 4)).2
theorem onC2_eq (x : P2) : onB2 x = onC2 x := by
  have key : onB2 x = true ↔ onC2 x = true := by
    rw [onB2_iff]
    obtain ⟨x, b⟩ := x
    cases b with
    | true => exact ⟨fun _ => rfl, fun _ => trivial⟩
    | false =>
      show ι2 x.2 * ι2 x.2 = ι2 x.1 * ι2 x.1 * ι2 x.1 + b2 ↔ (Nat.beq (mul2 x.2 x.2).1 (add2 (mul2 (mul2 x.1 x.1) x.1) (4, 4)).1 && Nat.beq (mul2 x.2 x.2).2 (add2 (mul2 (mul2 x.1 x.1) x.1) (4, 4)).2) = true
      have e : add2 (mul2 (mul2 x.1 x.1) x.1) (4, 4) = κ2 (ι2 x.1 * ι2 x.1 * ι2 x.1 + b2) := by
        unfold add2 mul2
        rw [ικ2, ικ2]; rfl
      rw [e]
      unfold mul2
      rw [Bool.and_eq_true, Nat.beq_eq, Nat.beq_eq]
      constructor
      · intro h; rw [h]; exact ⟨rfl, rfl⟩
      · rintro ⟨h1, h2⟩
        exact κ2_inj (Prod.ext h1 h2)
  cases h1 : onB2 x <;> cases h2 : onC2 x <;> simp_all
theorem base2_on : onB2 base2 = true := by rw [onC2_eq]; decide +kernel
theorem zero2_off : onB2 zP2 = false := by rw [onC2_eq]; decide +kernel
theorem base2_On : On b2 (ιP2 base2) := (onB2_iff _).1 base2_on
noncomputable def rowsP2 : List Row := rowC0 (kdP A2).rs 47 base2 :: rowC1 (kdP A2) kdB.rs 49 onC2 :: rowC1 (kdP A2) (kdP A2).rs 53 (fun x => κP2 (ιP2 x)) :: rowC1 (kdP A2) (kdP A2).rs 52 (fun x => κP2 (ιP2 x).neg) ::
  rowC2 (kdP A2) (kdP A2) (kdP A2).rs 50 (fun x y => κP2 (padd (ιP2 x) (ιP2 y))) :: rows03
theorem rowsP2_ok : ∀ r ∈ rowsP2, RowOk Try.prog r := by
  simp only [rowsP2, List.forall_mem_cons]
  exact ⟨rowC0_ok g2_base, rowC1_ok (fun x => by rw [show kdB.rs.vl (onC2 x) = Value.bool (onB2 x) by rw [onC2_eq]; rfl]; exact g2_on x), rowC1_ok g2_reduce, rowC1_ok g2_neg, rowC2_ok g2_add, rows03_ok⟩
noncomputable def TP2 : CallT := orT (tableT rowsP2) (rowSB (kdP A2) rsM2 51 mulR2)
theorem TP2_ok : CallOk Try.prog TP2 := orT_ok (tableT_ok rowsP2_ok) g2_mul_row
def noneP2 : P2 := (((0, 0), (0, 0)), true)
noncomputable def addP2 (x y : P2) : P2 := κP2 (padd (ιP2 x) (ιP2 y))
def negP2 (x : P2) : P2 := κP2 (ιP2 x).neg
def redP2 (x : P2) : P2 := κP2 (ιP2 x)
theorem aw13_run : run1 TP2 46 [] (allT 100) = some (vB true, [1 < 4294967296, (0 : Int) ≤ 2 ∧ (2 : Int) < 18446744073709551616, 1 < 4294967296, (0 : Int) ≤ 1 ∧ (1 : Int) < 18446744073709551616,
    eqP' (addP2 base2 (negP2 base2)) noneP2 true, eqP' (addP2 base2 base2) (mulR2 base2 (2 % pw 1)).1 true, (mulR2 base2 (2 % pw 1)).2 = 0 ↔ true = true, (mulR2 zP2 (1 % pw 1)).2 = 120 ↔ true = true]) := by kernel_rfl
theorem mulR2_on {x : P2} (h : onB2 x = true) (m : Nat) : mulR2 x m = (κP2 (smul m (ιP2 x)), 0) := by unfold mulR2; rw [h]
theorem mulR2_off {x : P2} (h : onB2 x = false) (m : Nat) : mulR2 x m = (zP2, 120) := by unfold mulR2; rw [h]; rfl
theorem mod_pw1 {a : Nat} (h : a < 18446744073709551616) : a % pw 1 = a := Nat.mod_eq_of_lt h
theorem aw13 : Pure Try.prog 46 [] (.bool true) := by
  refine pureB_of_run TP2_ok aw13_run ?_ vals0
  refine all_cons (by omega) (all_cons (by omega) (all_cons (by omega) (all_cons (by omega) (all_cons (eqP_of ?_) (all_cons (eqP_of ?_) (all_cons (iff_t ?_) (all_cons (iff_t ?_) all_nil)))))))
  · unfold addP2 negP2
    rw [ικP2, add_neg_pt cv2]; rfl
  · rw [mulR2_on base2_on, mod_pw1 (by omega)]
    show κP2 _ = κP2 (padd (padd .inf (ιP2 base2)) (ιP2 base2))
    rw [inf_add]
  · rw [mulR2_on base2_on]
  · rw [mulR2_off zero2_off]
noncomputable def rowsL13 : List Row := rowB0 46 :: rowsP2
theorem rowsL13_ok : ∀ r ∈ rowsL13, RowOk Try.prog r := by
  simp only [rowsL13, List.forall_mem_cons]
  exact ⟨rowB0_ok aw13, rowsP2_ok⟩
noncomputable def T13 : CallT := orT (tableT rowsL13) (rowSB (kdP A2) rsM2 51 mulR2)
theorem T13_ok : CallOk Try.prog T13 := orT_ok (tableT_ok rowsL13_ok) g2_mul_row
/-- The table in which all points that are asked are on the curve, or none. -/
noncomputable def rowsO13 (b : Bool) : List Row := rowK1 (kdP A2) kdB.rs 49 (fun _ => b) (fun x => onB2 x = b) :: rowsL13
theorem rowsO13_ok (b : Bool) : ∀ r ∈ rowsO13 b, RowOk Try.prog r := by
  simp only [rowsO13, List.forall_mem_cons]
  exact ⟨rowK1_ok fun x hx => by rw [← hx]; exact g2_on x, rowsL13_ok⟩
noncomputable def TO13 (b : Bool) : CallT := orT (tableT (rowsO13 b)) (rowSB (kdP A2) rsM2 51 mulR2)
theorem TO13_ok (b : Bool) : CallOk Try.prog (TO13 b) := orT_ok (tableT_ok (rowsO13_ok b)) g2_mul_row
end Go.Proofs.Ytkbbocpahnlkkaa
