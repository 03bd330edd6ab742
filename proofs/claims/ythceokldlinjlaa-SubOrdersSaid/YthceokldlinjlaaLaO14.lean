/-
  The law of chapter 14 on what is cleared: what it computes.
-/
import Derived.Test.YthceokldlinjlaaAw14
import Derived.Test.YthceokldlinjlaaOpp
import Derived.Test.YthceokldlinjlaaGp
namespace Go.Proofs.Ythceokldlinjlaa
open Go Go.Eng Go.RowKit Go.Wd Go.Alg Go.Pr

/-! ### SubOrders -/
noncomputable def rowsO5 : List Row := [rowK1 (kdP A1) kdB.rs 28 (fun _ => true) (fun x => inB1 x = true), rowK1 (kdP A2) kdB.rs 30 (fun _ => true) (fun x => inB2 x = true),
  rowK1 (kdP A1) kdB.rs 29 (fun _ => false) (fun x => onB1 x = false), rowK1 (kdP A2) kdB.rs 23 (fun _ => false) (fun x => onB2 x = false)]
theorem rowsO5_ok : ∀ r ∈ rowsO5, RowOk Try.prog r := by
  simp only [rowsO5, List.forall_mem_cons, List.not_mem_nil, false_imp_iff, implies_true, and_true]
  exact ⟨rowK1_ok fun x hx => by rw [← hx]; exact sub_in1 x, rowK1_ok fun x hx => by rw [← hx]; exact sub_in2 x, rowK1_ok fun x hx => by rw [← hx]; exact g1_on x, rowK1_ok fun x hx => by rw [← hx]; exact g2_on x⟩
noncomputable def T14v : CallT := orT (tableT rowsO5) T14
theorem T14v_ok : CallOk Try.prog T14v := orT_ok (tableT_ok rowsO5_ok) T14_ok
def ob1 (p : P1) : Bool → List Prop
  | true => [(clr1 p).2 = 0 ↔ true = true, inB1 (clr1 p).1 = true]
  | false => [(clr1 p).2 = 0 ↔ false = true, (clr1 p).2 = 120 ↔ true = true, eqP' (clr1 p).1 zP1 true, onB1 p = false]
def ob2 (p : P2) : Bool → List Prop
  | true => [(clr2 p).2 = 0 ↔ true = true, inB2 (clr2 p).1 = true]
  | false => [(clr2 p).2 = 0 ↔ false = true, (clr2 p).2 = 120 ↔ true = true, eqP' (clr2 p).1 zP2 true, onB2 p = false]
def hO5 (b c : Bool) : List (Nat × Bool) := (24, b) :: (44, c) :: allT 200
theorem subOrders_run (p : P1) (q : P2) : ∀ b c : Bool, run1 T14v 6 [wP p, wP q] (hO5 b c) = some (vB true, ob1 p b ++ ob2 q c)
  | true, true => by kernel_rfl
  | true, false => by kernel_rfl
  | false, true => by kernel_rfl
  | false, false => by kernel_rfl
theorem ob1_ok (p : P1) : ∀ x ∈ ob1 p (onB1 p), x := by
  cases h : onB1 p with
  | true =>
    refine all_cons (iff_t ?_) (all_cons ?_ all_nil)
    · rw [clr1_on h, snd1_1]
    · rw [clr1_on h, fst1_1]; exact inB1_κ (clear_tor1 ((onB1_iff p).1 h))
  | false =>
    refine all_cons (iff_f ?_) (all_cons (iff_t ?_) (all_cons (eqP_of ?_) (all_cons h all_nil)))
    · rw [clr1_off h]; intro e; cases e
    · rw [clr1_off h]
    · rw [clr1_off h]
theorem ob2_ok (p : P2) : ∀ x ∈ ob2 p (onB2 p), x := by
  cases h : onB2 p with
  | true =>
    refine all_cons (iff_t ?_) (all_cons ?_ all_nil)
    · rw [clr2_on h, snd1_2]
    · rw [clr2_on h, fst1_2]; exact inB2_κ (clear_tor2 ((onB2_iff p).1 h))
  | false =>
    refine all_cons (iff_f ?_) (all_cons (iff_t ?_) (all_cons (eqP_of ?_) (all_cons h all_nil)))
    · rw [clr2_off h]; intro e; cases e
    · rw [clr2_off h]
    · rw [clr2_off h]
theorem valsO5 (p : P1) (q : P2) : vals rho0 [wP p, wP q] = some [wpv p, wpv q] := by simp only [vals, val_wP]
theorem subOrders_gives (p : P1) (_ : Sm p.1) (q : P2) (_ : Sm q.1) (w : World) : Gives Try.prog 6 #[wpv p, wpv q] (.bool true) w :=
  gives_of_run1 T14v_ok (subOrders_run p q (onB1 p) (onB2 q)) (all_appS (ob1_ok p) (ob2_ok q)) (valsO5 p q) val_true w
end Go.Proofs.Ythceokldlinjlaa
