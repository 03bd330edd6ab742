/-
  The document's points of order r, images, and what is cleared: the rows of sigilref14.
-/
import Derived.Test.YtcidhcielgnfdaaGreatSb
import Derived.Test.YtcidhcielgnfdaaGreatV1
import Derived.Test.YtcidhcielgnfdaaGreatV2
namespace Go.Proofs.YtcidhcielgnfdaaGreat
open Go Go.Eng Go.RowKit Go.Wd Go.Alg Go.Pr

noncomputable def TR14a : CallT := orT (rowSB (kdP A1) rsM1 52 mulR1) (rowSB (kdP A2) rsM2 54 mulR2)
theorem TR14a_ok : CallOk Tryz.prog TR14a := orT_ok rg1_mul_row rg2_mul_row
theorem rin1_runT (p : P1) : run1 TR14a 26 [wP p] [(12, true)] = some (.one (wB1 (mulR1 p (numW rWs % pw 4)).1.2), (4 < 4294967296) :: okW rWs ++ [(mulR1 p (numW rWs % pw 4)).2 = 0 ↔ true = true]) := by kernel_rfl
theorem rin1_runF (p : P1) : run1 TR14a 26 [wP p] [(12, false)] = some (.one (wB1 false), (4 < 4294967296) :: okW rWs ++ [(mulR1 p (numW rWs % pw 4)).2 = 0 ↔ false = true]) := by kernel_rfl
theorem ref14_in1 (p : P1) : Pure Tryz.prog 26 [wpv p] (.bool (inB1 p)) := by
  cases h : onB1 p with
  | true =>
    refine pureC_of_run TR14a_ok kdB.rs (rin1_runT p) (all_appS (all_cons (by omega) (okW_ok (by decide +kernel))) (one_mem (iff_t ?_))) (valsC1 (kdP A1) p) ?_
    · rw [mulR1_on h, snd0_1]
    · rw [mulR1_r h, inB1_on h]
  | false =>
    refine pureC_of_run TR14a_ok kdB.rs (rin1_runF p) (all_appS (all_cons (by omega) (okW_ok (by decide +kernel))) (one_mem (iff_f ?_))) (valsC1 (kdP A1) p) ?_
    · rw [mulR1_off h]; intro e; cases e
    · rw [inB1_off h]
theorem rin2_runT (p : P2) : run1 TR14a 27 [wP p] [(12, true)] = some (.one (wB1 (mulR2 p (numW rWs % pw 4)).1.2), (4 < 4294967296) :: okW rWs ++ [(mulR2 p (numW rWs % pw 4)).2 = 0 ↔ true = true]) := by kernel_rfl
theorem rin2_runF (p : P2) : run1 TR14a 27 [wP p] [(12, false)] = some (.one (wB1 false), (4 < 4294967296) :: okW rWs ++ [(mulR2 p (numW rWs % pw 4)).2 = 0 ↔ false = true]) := by kernel_rfl
theorem ref14_in2 (p : P2) : Pure Tryz.prog 27 [wpv p] (.bool (inB2 p)) := by
  cases h : onB2 p with
  | true =>
    refine pureC_of_run TR14a_ok kdB.rs (rin2_runT p) (all_appS (all_cons (by omega) (okW_ok (by decide +kernel))) (one_mem (iff_t ?_))) (valsC1 (kdP A2) p) ?_
    · rw [mulR2_on h, snd0_2]
    · rw [mulR2_r h, inB2_on h]
  | false =>
    refine pureC_of_run TR14a_ok kdB.rs (rin2_runF p) (all_appS (all_cons (by omega) (okW_ok (by decide +kernel))) (one_mem (iff_f ?_))) (valsC1 (kdP A2) p) ?_
    · rw [mulR2_off h]; intro e; cases e
    · rw [inB2_off h]
noncomputable def rowsR14 : List Row :=
  rowC1 (kdP A1) kdB.rs 26 inB1 ::
  rowC1 (kdP A2) kdB.rs 27 inB2 ::
  []
theorem rowsR14_ok : ∀ r ∈ rowsR14, RowOk Tryz.prog r := by
  unfold rowsR14
  refine List.forall_mem_cons.2 ⟨rowC1_ok ref14_in1, ?_⟩
  refine List.forall_mem_cons.2 ⟨rowC1_ok ref14_in2, ?_⟩
  intro r h; cases h
end Go.Proofs.YtcidhcielgnfdaaGreat
