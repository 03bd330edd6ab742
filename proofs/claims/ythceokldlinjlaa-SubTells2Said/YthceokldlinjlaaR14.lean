/-
  The document's points of order r, images, and what is cleared: the rows of sigilref14.
-/
import Derived.Test.YthceokldlinjlaaSb
import Derived.Test.YthceokldlinjlaaV1
import Derived.Test.YthceokldlinjlaaV2
import Derived.Test.YthceokldlinjlaaRp10
import Derived.Test.YthceokldlinjlaaRj
import Derived.Test.YthceokldlinjlaaPs
namespace Go.Proofs.Ythceokldlinjlaa
open Go Go.Eng Go.RowKit Go.Wd Go.Alg Go.Pr

noncomputable def TR14a : CallT := orT (rowSB (kdP A1) rsM1 83 mulR1) (rowSB (kdP A2) rsM2 73 mulR2)
theorem TR14a_ok : CallOk Try.prog TR14a := orT_ok rg1_mul_row rg2_mul_row
theorem rin1_runT (p : P1) : run1 TR14a 37 [wP p] [(12, true)] = some (.one (wB1 (mulR1 p (numW rWs % pw 4)).1.2), (4 < 4294967296) :: okW rWs ++ [(mulR1 p (numW rWs % pw 4)).2 = 0 ↔ true = true]) := by kernel_rfl
theorem rin1_runF (p : P1) : run1 TR14a 37 [wP p] [(12, false)] = some (.one (wB1 false), (4 < 4294967296) :: okW rWs ++ [(mulR1 p (numW rWs % pw 4)).2 = 0 ↔ false = true]) := by kernel_rfl
theorem ref14_in1 (p : P1) : Pure Try.prog 37 [wpv p] (.bool (inB1 p)) := by
  cases h : onB1 p with
  | true =>
    refine pureC_of_run TR14a_ok kdB.rs (rin1_runT p) (all_appS (all_cons (by omega) (okW_ok (by decide +kernel))) (one_mem (iff_t ?_))) (valsC1 (kdP A1) p) ?_
    · rw [mulR1_on h, snd0_1]
    · rw [mulR1_r h, inB1_on h]
  | false =>
    refine pureC_of_run TR14a_ok kdB.rs (rin1_runF p) (all_appS (all_cons (by omega) (okW_ok (by decide +kernel))) (one_mem (iff_f ?_))) (valsC1 (kdP A1) p) ?_
    · rw [mulR1_off h]; intro e; cases e
    · rw [inB1_off h]
theorem rin2_runT (p : P2) : run1 TR14a 33 [wP p] [(12, true)] = some (.one (wB1 (mulR2 p (numW rWs % pw 4)).1.2), (4 < 4294967296) :: okW rWs ++ [(mulR2 p (numW rWs % pw 4)).2 = 0 ↔ true = true]) := by kernel_rfl
theorem rin2_runF (p : P2) : run1 TR14a 33 [wP p] [(12, false)] = some (.one (wB1 false), (4 < 4294967296) :: okW rWs ++ [(mulR2 p (numW rWs % pw 4)).2 = 0 ↔ false = true]) := by kernel_rfl
theorem ref14_in2 (p : P2) : Pure Try.prog 33 [wpv p] (.bool (inB2 p)) := by
  cases h : onB2 p with
  | true =>
    refine pureC_of_run TR14a_ok kdB.rs (rin2_runT p) (all_appS (all_cons (by omega) (okW_ok (by decide +kernel))) (one_mem (iff_t ?_))) (valsC1 (kdP A2) p) ?_
    · rw [mulR2_on h, snd0_2]
    · rw [mulR2_r h, inB2_on h]
  | false =>
    refine pureC_of_run TR14a_ok kdB.rs (rin2_runF p) (all_appS (all_cons (by omega) (okW_ok (by decide +kernel))) (one_mem (iff_f ?_))) (valsC1 (kdP A2) p) ?_
    · rw [mulR2_off h]; intro e; cases e
    · rw [inB2_off h]
theorem ref14_phi_runF (x : A1) : run1 (tableT rowsI7) 39 [wP (x, false)] [] = some (.one (wP ((mulF x.1 betaN, rdN x.2), false)), []) := by kernel_rfl
theorem ref14_phi_runT (x : A1) : run1 (tableT rowsI7) 39 [wP (x, true)] [] = some (.one (wP (((0, 0), true) : P1)), []) := by kernel_rfl
theorem ref14_phi (p : P1) : Pure Try.prog 39 [wpv p] (wpv (phiN p)) := by
  obtain ⟨x, b⟩ := p
  cases b with
  | true => exact pureC_of_run (tableT_ok rowsI7_ok) (kdP A1).rs (ref14_phi_runT x) (fun _ h => by cases h) (valsC1 (kdP A1) _) rfl
  | false =>
    refine pureC_of_run (tableT_ok rowsI7_ok) (kdP A1).rs (ref14_phi_runF x) (fun _ h => by cases h) (valsC1 (kdP A1) _) ?_
    rfl
theorem ref14_clear1_run (p : P1) : run1 TR14a 36 [wP p] [] = some (rsM1.sv (mulR1 p (numW c1Ws % pw 1)), (1 < 4294967296) :: okW c1Ws) := by kernel_rfl
theorem ref14_clear1 (p : P1) : Pure Try.prog 36 [wpv p] (rsM1.vl (clr1 p)) :=
  pureC_of_run TR14a_ok rsM1 (ref14_clear1_run p) (all_cons (by omega) (okW_ok (by decide +kernel))) (valsC1 (kdP A1) p) (by rw [c1Ws_num]; rfl)
noncomputable def TR14p : CallT := orT (rowSA 78 pow2) (tableT rowsI7)
theorem TR14p_ok : CallOk Try.prog TR14p := orT_ok R7_row (tableT_ok rowsI7_ok)
def thWs : List Int := [10616391696595805070, 736713837172402858, 14776387573661061644, 14710942035944605247, 1804034592823567431, 624599539215846622]
def haWs : List Int := [15924587544893707605, 1105070755758604287, 12941209323636816658, 12843041017062132063, 2706051889235351147, 936899308823769933]
def thNum : Nat := 0x8ab05f8bdd54cde190937e76bc3e447cc27c3d6fbd7063fcd104635a790520c0a395554e5c6aaaa9354ffffffffe38e
def haNum : Nat := 0xd0088f51cbff34d258dd3db21a5d66bb23ba5c279c2895fb39869507b587b120f55ffff58a9ffffdcff7fffffffd555
theorem thWs_num : numW thWs % pw 6 = thNum := by decide +kernel
theorem haWs_num : numW haWs % pw 6 = haNum := by decide +kernel
def svP (x : N2) : SV := .one (wN x)
def svPe (x y : N2) : Prop := ∀ ρ, (svP x).val ρ = (svP y).val ρ
theorem ref14_psi_runF (x : A2) (t h : N2) : run1 (forceT TR14p [(27, svP t), (33, svP h)]) 35 [wP (x, false)] [] =
    some (.one (wP ((mul2 (conj2 x.1) (inve2 t), mul2 (conj2 x.2) (inve2 h)), false)), svPe (pow2 (1, 1) (numW thWs % pw 6)) t :: (6 < 4294967296) :: okW thWs ++ (svPe (pow2 (1, 1) (numW haWs % pw 6)) h :: (6 < 4294967296) :: okW haWs)) := by kernel_rfl
theorem ref14_psi_runT (x : A2) : run1 TR14p 35 [wP (x, true)] [] = some (.one (wP ((((0, 0), (0, 0)), true) : P2)), []) := by kernel_rfl
theorem ι_xi1 : ι2 (1, 1) = ξ := κ2_inj (by decide +kernel)
theorem psX_inv : inv (pow ξ thNum) = ι2 psX := inv_eq (by rw [← powB_eq ξ 381 thNum (by decide +kernel)]; exact κ2_inj (by decide +kernel))
theorem psY_inv : inv (pow ξ haNum) = ι2 psY := inv_eq (by rw [← powB_eq ξ 381 haNum (by decide +kernel)]; exact κ2_inj (by decide +kernel))
theorem ref14_psi (p : P2) : Pure Try.prog 35 [wpv p] (wpv (psiN p)) := by
  obtain ⟨x, b⟩ := p
  cases b with
  | true => exact pureC_of_run TR14p_ok (kdP A2).rs (ref14_psi_runT x) (fun _ h => by cases h) (valsC1 (kdP A2) _) rfl
  | false =>
    refine pureC_of_run (forceT_ok TR14p_ok _) (kdP A2).rs (ref14_psi_runF x (κ2 (pow ξ thNum)) (κ2 (pow ξ haNum))) (all_appS (all_cons (fun ρ => ?_) (all_cons (by omega) (okW_ok (by decide +kernel)))) (all_cons (fun ρ => ?_) (all_cons (by omega) (okW_ok (by decide +kernel))))) (valsC1 (kdP A2) _) ?_
    · rw [thWs_num]; unfold pow2; rw [ι_xi1]
    · rw [haWs_num]; unfold pow2; rw [ι_xi1]
    · show ((mul2 (conj2 x.1) (inve2 (κ2 (pow ξ thNum))), mul2 (conj2 x.2) (inve2 (κ2 (pow ξ haNum)))), false) = ((κ2 ((ι2 x.1).conj * ι2 psX), κ2 ((ι2 x.2).conj * ι2 psY)), false)
      unfold mul2 conj2 inve2
      rw [ικ2, ικ2, ικ2, ικ2, ικ2, ικ2, psX_inv, psY_inv]
noncomputable def rowsR14 : List Row :=
  rowC1 (kdP A1) (kdP A1).rs 39 phiN ::
  rowC1 (kdP A1) rsM1 36 clr1 ::
  rowC1 (kdP A2) (kdP A2).rs 35 psiN ::
  rowC1 (kdP A1) kdB.rs 37 inB1 ::
  rowC1 (kdP A2) kdB.rs 33 inB2 ::
  []
theorem rowsR14_ok : ∀ r ∈ rowsR14, RowOk Try.prog r := by
  unfold rowsR14
  refine List.forall_mem_cons.2 ⟨rowC1_ok ref14_phi, ?_⟩
  refine List.forall_mem_cons.2 ⟨rowC1_ok ref14_clear1, ?_⟩
  refine List.forall_mem_cons.2 ⟨rowC1_ok ref14_psi, ?_⟩
  refine List.forall_mem_cons.2 ⟨rowC1_ok ref14_in1, ?_⟩
  refine List.forall_mem_cons.2 ⟨rowC1_ok ref14_in2, ?_⟩
  intro r h; cases h
end Go.Proofs.Ythceokldlinjlaa
