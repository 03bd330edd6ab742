/-
  SubCurves: for every input the call returns true, and each argument reads behind it as before. No condition.
-/
import Derived.Test.YtmebkhfdhbjacaaRows
import Derived.Test.YtmebkhfdhbjacaaSay
import Derived.Test.YtmebkhfdhbjacaaJoin
import Derived.Test.YtmebkhfdhbjacaaK
import Derived.Test.YtmebkhfdhbjacaaLaS14
import Derived.ProofKit
import Derived.OpenShut
namespace Go.Proofs.Ytmebkhfdhbjacaa
open Go Go.Eng Go.RowKit Go.ChangeShapes Go.WideShapes Go.ChangeAt
set_option linter.unusedVariables false

set_option maxRecDepth 100000 in
theorem subCurves_lifted (os : Os) (started : os.Started) (H : Type) (enc : TypeId × Value → H) :
    ReturnsInHanded {} Try.checked os 12 .any (Rows.subCurvesSpec.pre6 enc Try.prog Try.f12 Rows.subCurvesRow.domain false) (Rows.subCurvesSpec.post enc Try.prog Try.f12 false true false false) := by
  refine lifted_any (C := Try.checked) say_own started (by kernel_rfl) Try.func12
    (ChangeSpec.witness6 (enc := enc) (C := Try.checked) false ⟨#[], #[.agg ((Array.replicate 12 (.int .u64 0)).push (.bool false)), .agg ((Array.replicate 24 (.int .u64 0)).push (.bool false))], []⟩ 8 (by kernel_rfl) (by kernel_rfl) (by kernel_rfl) (by kernel_rfl))
    say_laid (by kernel_rfl) rfl (tb := 4) (by kernel_rfl) (by kernel_rfl) (fun ds hd => ?_) ?_
  · rw [Try.params12] at hd
    match ds, hd with
    | [d0, d1], _ => exact ⟨rfl, rfl, rfl⟩
  · intro W base args ds ps hval hA hlt
    rw [Try.params12] at hA hval
    obtain ⟨v0, vs0, d0, ds0, p0, q0, hargs, rfl, rfl, h0, r0⟩ := trodAll_cons hA
    obtain ⟨v1, vs1, d1, ds1, p1, q1, rfl, rfl, rfl, h1, r1⟩ := trodAll_cons r0
    obtain ⟨rfl, rfl, rfl⟩ := trodAll_nil r1
    obtain rfl : args = #[v0, v1] := by cases args; simp_all
    obtain ⟨a0, s0, rfl⟩ := open_pt (A := A1) (by kernel_rfl) (by kernel_rfl) (by kernel_rfl) (hval 0 56 v0 rfl rfl) h0
    obtain ⟨a1, s1, rfl⟩ := open_pt (A := A2) (by kernel_rfl) (by kernel_rfl) (by kernel_rfl) (hval 1 41 v1 rfl rfl) h1
    exact subCurves_gives a0 s0 a1 s1 W

theorem subCurves_k0 : Rows.subCurvesRow.wf (OpenSpec.ofChange Rows.subCurvesSpec) = true := by kernel_rfl
theorem subCurves_k1 : laidOutB Try.prog = true := by kernel_rfl
theorem subCurves_k2 : mapsRowed Try.prog = true := by kernel_rfl
theorem subCurves_k3 : Try.f12.params.all (Try.prog.readableRec ·) = true := by kernel_rfl
theorem subCurves_k4 : namedTie Try.prog Rows.subCurvesRow.named Rows.subCurvesSpec.vars = true := by kernel_rfl
theorem subCurves_k5 : (Rows.subCurvesRow.stops == []) = true := by kernel_rfl
theorem subCurves_k6 : (Try.prog.stops == []) = true := by kernel_rfl
theorem subCurves_k7 : (Rows.subCurvesRow.knobs == []) = true := by kernel_rfl
theorem subCurves_k8 : (Try.prog.stopKnobs == []) = true := by kernel_rfl
theorem subCurves_k9 : (Rows.subCurvesRow.inPlace == Try.prog.inPlace 12) = true := by kernel_rfl
theorem subCurves_k10 : (Rows.subCurvesRow.unfollowed == Try.prog.unfollowed 12) = true := by kernel_rfl
theorem subCurves_k11 : (Rows.subCurvesRow.recurses == Try.prog.recurses 12) = true := by kernel_rfl
theorem subCurves_k12 : (Rows.subCurvesRow.named == Try.prog.varsNamed 12) = true := by kernel_rfl
theorem subCurves_k13 : (Rows.subCurvesRow.maps == (Try.f12.params.toList ++ Rows.subCurvesSpec.plain.varTypes Try.prog).any (Try.prog.mapsRec ·)) = true := by kernel_rfl
theorem subCurves_k14 : (Rows.subCurvesRow.ifaces == (Try.f12.params.toList ++ Rows.subCurvesSpec.plain.varTypes Try.prog).any (Try.prog.ifacesRec ·)) = true := by kernel_rfl
theorem subCurves_k15 : (Rows.subCurvesRow.mapsOut == Try.prog.mapsAmong Try.f12.resultTypes.toList) = true := by kernel_rfl
theorem subCurves_k16 : (Rows.subCurvesRow.loops == (Try.f12.params.toList ++ Rows.subCurvesSpec.plain.varTypes Try.prog).any (Try.prog.loopsFrom ·)) = true := by kernel_rfl
theorem subCurves_k17 : (Rows.subCurvesRow.wideKeys == (Try.f12.params.toList ++ Rows.subCurvesSpec.plain.varTypes Try.prog ++ Try.f12.resultTypes.toList).any (Try.prog.wideKeysFrom ·)) = true := by kernel_rfl
theorem subCurves_k18 : Rows.subCurvesSpec.vars.all (Try.prog.varReadable ·) = true := by kernel_rfl
theorem subCurves_k19 : Try.f12.resultTypes.all (fun t => Try.prog.readableRec t && decide (t < Try.prog.types.size)) = true := by kernel_rfl
theorem subCurves_k20 : (Rows.subCurvesRow.ifacesOut == Try.f12.resultTypes.toList.any (Try.prog.ifacesRec ·)) = true := by kernel_rfl
theorem subCurves_k21 : (Rows.subCurvesRow.loopsOut == Try.f12.resultTypes.toList.any (Try.prog.loopsFrom ·)) = true := by kernel_rfl
theorem subCurves_k22 : (Rows.subCurvesRow.plainKeys == Try.prog.plainKeys) = true := by kernel_rfl
theorem subCurves_k23 : Rows.subCurvesRow.shortTexts.isNone = true := by kernel_rfl
theorem subCurves_k24 : Try.prog.stopsHeard = true := by kernel_rfl
theorem subCurves_k25 : Try.prog.mayEnter = true := sk25
theorem subCurves_k26 : (Rows.subCurvesRow.lifted == Try.prog.liftsFinal) = true := (congrArg (· == Try.prog.liftsFinal) (show Rows.subCurvesRow.lifted = Rows.millerNoneRow.lifted by kernel_rfl)).trans sk26
theorem subCurves_k27 : (Try.prog.make == some Rows.subCurvesRow.make) = true := (congrArg (fun m => Try.prog.make == some m) (show Rows.subCurvesRow.make = Rows.millerNoneRow.make by kernel_rfl)).trans sk27
theorem subCurves_k28 : (Rows.subCurvesRow.kinds == (if Rows.subCurvesRow.domain.isEmpty then [] else Try.f12.params.toList.map fun t => match Try.prog.underlying t with | some (.int k) => some k | _ => none)) = true := by kernel_rfl
theorem subCurves_k29 : (Rows.subCurvesRow.pinned == Rows.subCurvesRow.pinnedBy) = true := by kernel_rfl
theorem subCurves_k30 : (Rows.subCurvesRow.veiled == (Try.f12.params.toList ++ Rows.subCurvesSpec.plain.varTypes Try.prog ++ Try.f12.resultTypes.toList).any (Try.prog.veiledRec ·)) = true := by kernel_rfl
theorem subCurves_k31 : Rows.subCurvesRow.veiledFits Try.prog Try.f12.params.toList (Try.f12.params.toList ++ Rows.subCurvesSpec.plain.varTypes Try.prog ++ Try.f12.resultTypes.toList) = true := by kernel_rfl
set_option maxRecDepth 100000 in
theorem subCurves_join : joinedFacts Try.prog 12 Try.f12 Rows.subCurvesSpec Rows.subCurvesRow = true := joined_mk subCurves_k0 subCurves_k1 subCurves_k2 subCurves_k3 subCurves_k4 subCurves_k5 subCurves_k6 subCurves_k7 subCurves_k8 subCurves_k9 subCurves_k10 subCurves_k11 subCurves_k12 subCurves_k13 subCurves_k14 subCurves_k15 subCurves_k16 subCurves_k17 subCurves_k18 subCurves_k19 subCurves_k20 subCurves_k21 subCurves_k22 subCurves_k23 subCurves_k24 subCurves_k25 subCurves_k26 subCurves_k27 subCurves_k28 subCurves_k29 subCurves_k30 subCurves_k31
theorem subCurves_named : Try.prog.funcNamed Rows.subCurvesRow.func = some 12 := by kernel_rfl
theorem subCurves_wrap : Try.f12.isWrapper Try.prog Rows.subCurvesRow.wrapper Rows.subCurvesRow.mainSum := by unfold Func.isWrapper; first | (rw [if_pos (by decide +kernel)]; kernel_rfl) | (rw [if_neg (by decide +kernel)]; exact ⟨rfl, rfl⟩)
theorem subCurves_over : Rows.subCurvesRow.holds Try.pinned (OpenSpec.ofChange Rows.subCurvesSpec) :=
  OpenClaim.holds_of_wide 12 Try.f12 rfl rfl rfl rfl rfl rfl rfl ⟨rfl, rfl, rfl, rfl, rfl⟩ rfl rfl rfl rfl rfl subCurves_named Try.func12 subCurves_join
    (of_decide_eq_true (by kernel_rfl)) subCurves_wrap
    (fun os started H enc _ => subCurves_lifted os started H enc)

/-- The statement. -/
theorem subCurves_holds : Rows.SubCurvesSaid := subCurves_over
#print axioms subCurves_holds
end Go.Proofs.Ytmebkhfdhbjacaa
