/-
  The laws of chapter 11 with the document's answer: what they compute.
-/
import Derived.Test.YtkbbocpahnlkkaaAw11
import Derived.Test.YtkbbocpahnlkkaaRp10
namespace Go.Proofs.Ytkbbocpahnlkkaa
open Go Go.Eng Go.RowKit Go.Wd Go.Alg Go.Pr

noncomputable def T11R (q : Nat) : CallT := orT (orT (tableT rows11) (tableT (rPQ q :: rowsH10))) (rowSA 76 pow12)
theorem T11R_ok (q : Nat) : CallOk Try.prog (T11R q) := orT_ok (orT_ok T11_ok (tableT_ok (by
  simp only [List.forall_mem_cons]
  exact ⟨rPQ_ok q, rowsH10_ok⟩))) ref12_pow_row
def kP (q : Nat) : List Prop := [q = pN, 6 < 4294967296]
theorem frobTells_run (a : N12) (q : Nat) : run1 (T11R q) 4 [wN a] (allT 100) = some (vB true, kP q ++ [eqW (fr12 a 1) (pow12 (red12 a) (q % pw 6)) true] ++ kP q ++ [eqW (fr6 a.1 1) (pow12 (red12 (a.1, z6)) (q % pw 6)).1 true] ++ kP q ++
    [eqW (fr2 a.1.1 1) (pow12 (red12 ((a.1.1, (0, 0), (0, 0)), z6)) (q % pw 6)).1.1 true]) := by kernel_rfl
theorem frobSquares_run (a : N12) (q : Nat) : run1 (T11R q) 3 [wN a] (allT 100) = some (vB true, [q = pN, 6 < 4294967296, 6 < 4294967296, eqW (fr12 a 2) (pow12 (pow12 (red12 a) (q % pw 6)) (q % pw 6)) true]) := by kernel_rfl
theorem pow12_p (a : N12) : pow12 a (pN % pw 6) = κ12 (σ (ι12 a)) := by
  unfold pow12
  rw [show pN % pw 6 = pN from Nat.mod_eq_of_lt pN_lt, frob12]
theorem fr12_1 (a : N12) : fr12 a 1 = κ12 (σ (ι12 a)) := by
  unfold fr12
  rw [show (1 : Int) = ((1 : Nat) : Int) from rfl, σI_nat]; rfl
theorem frobSquares_gives (a : N12) (_ : Sm a) (w : World) : Gives Try.prog 3 #[wv a] (.bool true) w := by
  refine gives_of_run1 (T11R_ok pN) (frobSquares_run a pN) ?_ (vals1 a) val_true w
  simp only [List.forall_mem_cons, List.not_mem_nil, false_imp_iff, implies_true, and_true]
  refine ⟨trivial, by omega, by omega, eqW_of ?_⟩
  rw [pow12_p, pow12_p]
  unfold fr12 red12
  rw [show (2 : Int) = ((2 : Nat) : Int) from rfl, σI_nat, ικ12, ικ12]; rfl
theorem frobTells_gives (a : N12) (_ : Sm a) (w : World) : Gives Try.prog 4 #[wv a] (.bool true) w := by
  refine gives_of_run1 (T11R_ok pN) (frobTells_run a pN) ?_ (vals1 a) val_true w
  simp only [kP, List.cons_append, List.nil_append, List.forall_mem_cons, List.not_mem_nil, false_imp_iff, implies_true, and_true]
  refine ⟨trivial, by omega, eqW_of ?_, trivial, by omega, eqW_of ?_, trivial, by omega, eqW_of ?_⟩
  · rw [pow12_p, fr12_1]
    unfold red12
    rw [ικ12]
  · rw [pow12_p]
    unfold red12
    rw [ικ12]; rfl
  · rw [pow12_p]
    unfold red12
    rw [ικ12]
    show κ2 (if (1 : Int) % 2 = 1 then (ι2 a.1.1).conj else ι2 a.1.1) = κ2 ((ι2 a.1.1).conj * facF 0)
    rw [if_pos (by decide), show facF 0 = 1 from rfl, mul_one]
end Go.Proofs.Ytkbbocpahnlkkaa
