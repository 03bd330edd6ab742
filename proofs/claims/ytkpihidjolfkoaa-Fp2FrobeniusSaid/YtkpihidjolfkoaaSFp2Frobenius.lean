/-
  Fp2Frobenius: for every input the call returns true, and each argument reads behind it as before. No condition.
-/
import Derived.Test.YtkpihidjolfkoaaRows
import Derived.Test.YtkpihidjolfkoaaSay
import Derived.Test.YtkpihidjolfkoaaJoin
import Derived.Test.YtkpihidjolfkoaaLaP
import Derived.ProofKit
import Derived.OpenShut
namespace Go.Proofs.Ytkpihidjolfkoaa
open Go Go.Eng Go.RowKit Go.ChangeShapes Go.WideShapes Go.ChangeAt
set_option linter.unusedVariables false

set_option maxRecDepth 100000 in
theorem fp2Frobenius_lifted (os : Os) (started : os.Started) (H : Type) (enc : TypeId × Value → H) :
    ReturnsInHanded {} Try.checked os 12 .any (Rows.fp2FrobeniusSpec.pre6 enc Try.prog Try.f12 Rows.fp2FrobeniusRow.domain false) (Rows.fp2FrobeniusSpec.post enc Try.prog Try.f12 false true false false) := by
  refine lifted_any (C := Try.checked) say_own started (by kernel_rfl) Try.func12
    (ChangeSpec.witness6 (enc := enc) (C := Try.checked) false ⟨#[], #[.agg (Array.replicate 12 (.int .u64 0))], []⟩ 8 (by kernel_rfl) (by kernel_rfl) (by kernel_rfl) (by kernel_rfl))
    say_laid (by kernel_rfl) rfl (tb := 4) (by kernel_rfl) (by kernel_rfl) (fun ds hd => ?_) ?_
  · rw [Try.params12] at hd
    match ds, hd with
    | [d0], _ => exact ⟨rfl, rfl, rfl⟩
  · intro W base args ds ps hval hA hlt
    rw [Try.params12] at hA hval
    obtain ⟨v0, vs0, d0, ds0, p0, q0, hargs, rfl, rfl, h0, r0⟩ := trodAll_cons hA
    obtain ⟨rfl, rfl, rfl⟩ := trodAll_nil r0
    obtain rfl : args = #[v0] := by cases args; simp_all
    obtain ⟨a0, s0, rfl⟩ := open_nm (A := N2) (by kernel_rfl) (by kernel_rfl) (by kernel_rfl) (hval 0 26 v0 rfl rfl) h0
    exact fp2Frobenius_gives a0 s0 W

theorem fp2Frobenius_k0 : Rows.fp2FrobeniusRow.wf (OpenSpec.ofChange Rows.fp2FrobeniusSpec) = true := by kernel_rfl
theorem fp2Frobenius_k1 : laidOutB Try.prog = true := by kernel_rfl
theorem fp2Frobenius_k2 : mapsRowed Try.prog = true := by kernel_rfl
theorem fp2Frobenius_k3 : Try.f12.params.all (Try.prog.readableRec ·) = true := by kernel_rfl
theorem fp2Frobenius_k4 : namedTie Try.prog Rows.fp2FrobeniusRow.named Rows.fp2FrobeniusSpec.vars = true := by kernel_rfl
theorem fp2Frobenius_k5 : (Rows.fp2FrobeniusRow.stops == []) = true := by kernel_rfl
theorem fp2Frobenius_k6 : (Try.prog.stops == []) = true := by kernel_rfl
theorem fp2Frobenius_k7 : (Rows.fp2FrobeniusRow.knobs == []) = true := by kernel_rfl
theorem fp2Frobenius_k8 : (Try.prog.stopKnobs == []) = true := by kernel_rfl
theorem fp2Frobenius_k9 : (Rows.fp2FrobeniusRow.inPlace == Try.prog.inPlace 12) = true := by kernel_rfl
theorem fp2Frobenius_k10 : (Rows.fp2FrobeniusRow.unfollowed == Try.prog.unfollowed 12) = true := by kernel_rfl
theorem fp2Frobenius_k11 : (Rows.fp2FrobeniusRow.recurses == Try.prog.recurses 12) = true := by kernel_rfl
theorem fp2Frobenius_k12 : (Rows.fp2FrobeniusRow.named == Try.prog.varsNamed 12) = true := by kernel_rfl
theorem fp2Frobenius_k13 : (Rows.fp2FrobeniusRow.maps == (Try.f12.params.toList ++ Rows.fp2FrobeniusSpec.plain.varTypes Try.prog).any (Try.prog.mapsRec ·)) = true := by kernel_rfl
theorem fp2Frobenius_k14 : (Rows.fp2FrobeniusRow.ifaces == (Try.f12.params.toList ++ Rows.fp2FrobeniusSpec.plain.varTypes Try.prog).any (Try.prog.ifacesRec ·)) = true := by kernel_rfl
theorem fp2Frobenius_k15 : (Rows.fp2FrobeniusRow.mapsOut == Try.prog.mapsAmong Try.f12.resultTypes.toList) = true := by kernel_rfl
theorem fp2Frobenius_k16 : (Rows.fp2FrobeniusRow.loops == (Try.f12.params.toList ++ Rows.fp2FrobeniusSpec.plain.varTypes Try.prog).any (Try.prog.loopsFrom ·)) = true := by kernel_rfl
theorem fp2Frobenius_k17 : (Rows.fp2FrobeniusRow.wideKeys == (Try.f12.params.toList ++ Rows.fp2FrobeniusSpec.plain.varTypes Try.prog ++ Try.f12.resultTypes.toList).any (Try.prog.wideKeysFrom ·)) = true := by kernel_rfl
theorem fp2Frobenius_k18 : Rows.fp2FrobeniusSpec.vars.all (Try.prog.varReadable ·) = true := by kernel_rfl
theorem fp2Frobenius_k19 : Try.f12.resultTypes.all (fun t => Try.prog.readableRec t && decide (t < Try.prog.types.size)) = true := by kernel_rfl
theorem fp2Frobenius_k20 : (Rows.fp2FrobeniusRow.ifacesOut == Try.f12.resultTypes.toList.any (Try.prog.ifacesRec ·)) = true := by kernel_rfl
theorem fp2Frobenius_k21 : (Rows.fp2FrobeniusRow.loopsOut == Try.f12.resultTypes.toList.any (Try.prog.loopsFrom ·)) = true := by kernel_rfl
theorem fp2Frobenius_k22 : (Rows.fp2FrobeniusRow.plainKeys == Try.prog.plainKeys) = true := by kernel_rfl
theorem fp2Frobenius_k23 : Rows.fp2FrobeniusRow.shortTexts.isNone = true := by kernel_rfl
theorem fp2Frobenius_k24 : Try.prog.stopsHeard = true := by kernel_rfl
theorem fp2Frobenius_k25 : Try.prog.mayEnter = true := by kernel_rfl
theorem fp2Frobenius_k26 : (Rows.fp2FrobeniusRow.lifted == Try.prog.liftsFinal) = true := by kernel_rfl
theorem fp2Frobenius_k27 : (Try.prog.make == some Rows.fp2FrobeniusRow.make) = true := by kernel_rfl
theorem fp2Frobenius_k28 : (Rows.fp2FrobeniusRow.kinds == (if Rows.fp2FrobeniusRow.domain.isEmpty then [] else Try.f12.params.toList.map fun t => match Try.prog.underlying t with | some (.int k) => some k | _ => none)) = true := by kernel_rfl
theorem fp2Frobenius_k29 : (Rows.fp2FrobeniusRow.pinned == Rows.fp2FrobeniusRow.pinnedBy) = true := by kernel_rfl
theorem fp2Frobenius_k30 : (Rows.fp2FrobeniusRow.veiled == (Try.f12.params.toList ++ Rows.fp2FrobeniusSpec.plain.varTypes Try.prog ++ Try.f12.resultTypes.toList).any (Try.prog.veiledRec ·)) = true := by kernel_rfl
theorem fp2Frobenius_k31 : Rows.fp2FrobeniusRow.veiledFits Try.prog Try.f12.params.toList (Try.f12.params.toList ++ Rows.fp2FrobeniusSpec.plain.varTypes Try.prog ++ Try.f12.resultTypes.toList) = true := by kernel_rfl
theorem fp2Frobenius_join : joinedFacts Try.prog 12 Try.f12 Rows.fp2FrobeniusSpec Rows.fp2FrobeniusRow = true := joined_mk fp2Frobenius_k0 fp2Frobenius_k1 fp2Frobenius_k2 fp2Frobenius_k3 fp2Frobenius_k4 fp2Frobenius_k5 fp2Frobenius_k6 fp2Frobenius_k7 fp2Frobenius_k8 fp2Frobenius_k9 fp2Frobenius_k10 fp2Frobenius_k11 fp2Frobenius_k12 fp2Frobenius_k13 fp2Frobenius_k14 fp2Frobenius_k15 fp2Frobenius_k16 fp2Frobenius_k17 fp2Frobenius_k18 fp2Frobenius_k19 fp2Frobenius_k20 fp2Frobenius_k21 fp2Frobenius_k22 fp2Frobenius_k23 fp2Frobenius_k24 fp2Frobenius_k25 fp2Frobenius_k26 fp2Frobenius_k27 fp2Frobenius_k28 fp2Frobenius_k29 fp2Frobenius_k30 fp2Frobenius_k31
theorem fp2Frobenius_named : Try.prog.funcNamed Rows.fp2FrobeniusRow.func = some 12 := by kernel_rfl
theorem fp2Frobenius_wrap : Try.f12.isWrapper Try.prog Rows.fp2FrobeniusRow.wrapper Rows.fp2FrobeniusRow.mainSum := by unfold Func.isWrapper; first | (rw [if_pos (by decide +kernel)]; kernel_rfl) | (rw [if_neg (by decide +kernel)]; exact ⟨rfl, rfl⟩)
theorem fp2Frobenius_over : Rows.fp2FrobeniusRow.holds Try.pinned (OpenSpec.ofChange Rows.fp2FrobeniusSpec) :=
  OpenClaim.holds_of_wide 12 Try.f12 rfl rfl rfl rfl rfl rfl rfl ⟨rfl, rfl, rfl, rfl, rfl⟩ rfl rfl rfl rfl rfl fp2Frobenius_named Try.func12 fp2Frobenius_join
    (of_decide_eq_true (by kernel_rfl)) fp2Frobenius_wrap
    (fun os started H enc _ => fp2Frobenius_lifted os started H enc)

/-- The statement. -/
theorem fp2Frobenius_holds : Rows.Fp2FrobeniusSaid := fp2Frobenius_over
#print axioms fp2Frobenius_holds
end Go.Proofs.Ytkpihidjolfkoaa
