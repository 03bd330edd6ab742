/-
  The law of pairings of any two points, with the document's answer: what it computes.
-/
import Derived.Test.YtcidhcielgnfdaaGreatRf
import Derived.Test.YtcidhcielgnfdaaGreatR14
import Derived.Test.YtcidhcielgnfdaaGreatOpp
namespace Go.Proofs.YtcidhcielgnfdaaGreat
open Go Go.Eng Go.RowKit Go.Wd Go.Alg Go.Pr

noncomputable def rowsRp (b c : Bool) : List Row := [rowK1 (kdP A1) kdB.rs 26 (fun _ => b) (fun x => inB1 x = b), rowK1 (kdP A2) kdB.rs 27 (fun _ => c) (fun x => inB2 x = c),
  rowC2 (kdP A1) (kdP A2) rsLoop 28 loopR, rowN1 7 finN]
theorem rowsRp_ok (b c : Bool) : ∀ r ∈ rowsRp b c, RowOk Tryz.prog r := by
  simp only [rowsRp, List.forall_mem_cons, List.not_mem_nil, false_imp_iff, implies_true, and_true]
  exact ⟨rowK1_ok fun x hx => by rw [← hx]; exact ref14_in1 x, rowK1_ok fun x hx => by rw [← hx]; exact ref14_in2 x, rowC2_ok ref15_loop, rowN1_ok ref16_final⟩
noncomputable def TRp (b c : Bool) : CallT := tableT (rowsRp b c)
theorem TRp_ok (b c : Bool) : CallOk Tryz.prog (TRp b c) := tableT_ok (rowsRp_ok b c)
theorem ref16_pair_run (p : P1) (q : P2) : run1 (TRp true true) 9 [wP p, wP q] [] = some (rsLoop.sv (finN (loopR p q).1, 0), [inB1 p = true, inB2 q = true]) := by kernel_rfl
theorem ref16_pair_runF (p : P1) (q : P2) : ∀ c, run1 (TRp false c) 9 [wP p, wP q] [] = some (rsLoop.sv (zN12, 140), [inB1 p = false, inB2 q = c])
  | true => by kernel_rfl
  | false => by kernel_rfl
theorem ref16_pair_runG (p : P1) (q : P2) : run1 (TRp true false) 9 [wP p, wP q] [] = some (rsLoop.sv (zN12, 140), [inB1 p = true, inB2 q = false]) := by kernel_rfl
theorem ref16_pair (p : P1) (q : P2) : Pure Tryz.prog 9 [wpv p, wpv q] (rsLoop.vl (pairR p q)) := by
  cases h1 : inB1 p with
  | false => exact pureC_of_run (TRp_ok false (inB2 q)) rsLoop (ref16_pair_runF p q _) (all_cons h1 (all_cons rfl all_nil)) (valsPQ p q) (pairR_f (by rw [h1]; rfl)).symm
  | true =>
    cases h2 : inB2 q with
    | false => exact pureC_of_run (TRp_ok true false) rsLoop (ref16_pair_runG p q) (all_cons h1 (all_cons h2 all_nil)) (valsPQ p q) (pairR_f (by rw [h1, h2]; rfl)).symm
    | true => exact pureC_of_run (TRp_ok true true) rsLoop (ref16_pair_run p q) (all_cons h1 (all_cons h2 all_nil)) (valsPQ p q) (by rw [pairR_t h1 h2, pairOk_eq, finN_eq])
noncomputable def rowsLp : List Row := rowC2 (kdP A1) (kdP A2) rsLoop 9 pairR :: rowC2 (kdP A1) (kdP A2) rsLoop 8 pairR :: rowsAw16
theorem rowsLp_ok : ∀ r ∈ rowsLp, RowOk Tryz.prog r := List.forall_mem_cons.2 ⟨rowC2_ok ref16_pair, List.forall_mem_cons.2 ⟨rowC2_ok pairing_pair, rowsAw16_ok⟩⟩
noncomputable def TLp : CallT := tableT rowsLp
theorem TLp_ok : CallOk Tryz.prog TLp := tableT_ok rowsLp_ok
theorem pairingPairs_run (p : P1) (q : P2) : run1 TLp 4 [wP p, wP q] (allT 200) = some (vB true, [eqW (pairR p q).1 (pairR p q).1 true, (pairR p q).2 = (pairR p q).2 ↔ true = true]) := by kernel_rfl
theorem pairingPairs_gives (p : P1) (_ : Sm p.1) (q : P2) (_ : Sm q.1) (w : World) : Gives Tryz.prog 4 #[wpv p, wpv q] (.bool true) w :=
  gives_of_run1 TLp_ok (pairingPairs_run p q) (all_cons (eqW_of rfl) (all_cons (iff_t rfl) all_nil)) (valsPQ p q) val_true w
end Go.Proofs.YtcidhcielgnfdaaGreat
