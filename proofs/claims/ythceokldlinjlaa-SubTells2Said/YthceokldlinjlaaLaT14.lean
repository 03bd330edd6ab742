/-
  The laws of chapter 14 with the document's answer, on points of order r and images: what they compute.
-/
import Derived.Test.YthceokldlinjlaaAw14
import Derived.Test.YthceokldlinjlaaOpp
import Derived.Test.YthceokldlinjlaaR14
namespace Go.Proofs.Ythceokldlinjlaa
open Go Go.Eng Go.RowKit Go.Wd Go.Alg Go.Pr

noncomputable def rowsT5 (b c : Bool) : List Row := [rowK1 (kdP A1) kdB.rs 28 (fun _ => b) (fun x => inB1 x = b), rowK1 (kdP A1) kdB.rs 37 (fun _ => b) (fun x => inB1 x = b),
  rowK1 (kdP A2) kdB.rs 30 (fun _ => c) (fun x => inB2 x = c), rowK1 (kdP A2) kdB.rs 33 (fun _ => c) (fun x => inB2 x = c)]
theorem rowsT5_ok (b c : Bool) : ∀ r ∈ rowsT5 b c, RowOk Try.prog r := by
  simp only [rowsT5, List.forall_mem_cons, List.not_mem_nil, false_imp_iff, implies_true, and_true]
  exact ⟨rowK1_ok fun x hx => by rw [← hx]; exact sub_in1 x, rowK1_ok fun x hx => by rw [← hx]; exact ref14_in1 x, rowK1_ok fun x hx => by rw [← hx]; exact sub_in2 x, rowK1_ok fun x hx => by rw [← hx]; exact ref14_in2 x⟩
noncomputable def T14t (b c : Bool) : CallT := orT (tableT (rowsT5 b c)) (orT (tableT rowsR14) T14)
theorem T14t_ok (b c : Bool) : CallOk Try.prog (T14t b c) := orT_ok (tableT_ok (rowsT5_ok b c)) (orT_ok (tableT_ok rowsR14_ok) T14_ok)
theorem subTells1_run (p : P1) : ∀ b : Bool, run1 (T14t b true) 9 [wP p] (allT 200) = some (vB true, [inB1 p = b, inB1 p = b, eqP' (phiN p) (phiN p) true, eqP' (clr1 p).1 (clr1 p).1 true, (clr1 p).2 = (clr1 p).2 ↔ true = true])
  | true => by kernel_rfl
  | false => by kernel_rfl
theorem subTells1_gives (p : P1) (_ : Sm p.1) (w : World) : Gives Try.prog 9 #[wpv p] (.bool true) w :=
  gives_of_run1 (T14t_ok (inB1 p) true) (subTells1_run p (inB1 p)) (all_cons rfl (all_cons rfl (all_cons (eqP_of rfl) (all_cons (eqP_of rfl) (all_cons (iff_t rfl) all_nil))))) (valsC1 (kdP A1) p) val_true w
theorem subTells2_run (p : P2) : ∀ b : Bool, run1 (T14t true b) 8 [wP p] (allT 200) = some (vB true, [inB2 p = b, inB2 p = b, eqP' (psiN p) (psiN p) true])
  | true => by kernel_rfl
  | false => by kernel_rfl
theorem subTells2_gives (p : P2) (_ : Sm p.1) (w : World) : Gives Try.prog 8 #[wpv p] (.bool true) w :=
  gives_of_run1 (T14t_ok true (inB2 p)) (subTells2_run p (inB2 p)) (all_cons rfl (all_cons rfl (all_cons (eqP_of rfl) all_nil))) (valsC1 (kdP A2) p) val_true w
end Go.Proofs.Ythceokldlinjlaa
