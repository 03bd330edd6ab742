/-
  MillerSteps: for every input the call returns true, and each argument reads behind it as before. No condition.
-/
import Derived.Test.YtmebkhfdhbjacaaRows
import Derived.Test.YtmebkhfdhbjacaaSay
import Derived.Test.YtmebkhfdhbjacaaJoin
import Derived.Test.YtmebkhfdhbjacaaK
import Derived.Test.YtmebkhfdhbjacaaLaM15
import Derived.ProofKit
import Derived.OpenShut
namespace Go.Proofs.Ytmebkhfdhbjacaa
open Go Go.Eng Go.RowKit Go.ChangeShapes Go.WideShapes Go.ChangeAt
set_option linter.unusedVariables false

set_option maxRecDepth 100000 in
theorem millerSteps_lifted (os : Os) (started : os.Started) (H : Type) (enc : TypeId × Value → H) :
    ReturnsInHanded {} Try.checked os 13 .any (Rows.millerStepsSpec.pre6 enc Try.prog Try.f13 Rows.millerStepsRow.domain false) (Rows.millerStepsSpec.post enc Try.prog Try.f13 false true false false) := by
  refine lifted_any (C := Try.checked) say_own started (by kernel_rfl) Try.func13
    (ChangeSpec.witness6 (enc := enc) (C := Try.checked) false ⟨#[], #[.agg ((Array.replicate 24 (.int .u64 0)).push (.bool false)), .agg ((Array.replicate 24 (.int .u64 0)).push (.bool false)), .agg ((Array.replicate 12 (.int .u64 0)).push (.bool false)), .agg (Array.replicate 12 (.int .u64 0))], []⟩ 8 (by kernel_rfl) (by kernel_rfl) (by kernel_rfl) (by kernel_rfl))
    say_laid (by kernel_rfl) rfl (tb := 4) (by kernel_rfl) (by kernel_rfl) (fun ds hd => ?_) ?_
  · rw [Try.params13] at hd
    match ds, hd with
    | [d0, d1, d2, d3], _ => exact ⟨rfl, rfl, rfl⟩
  · intro W base args ds ps hval hA hlt
    rw [Try.params13] at hA hval
    obtain ⟨v0, vs0, d0, ds0, p0, q0, hargs, rfl, rfl, h0, r0⟩ := trodAll_cons hA
    obtain ⟨v1, vs1, d1, ds1, p1, q1, rfl, rfl, rfl, h1, r1⟩ := trodAll_cons r0
    obtain ⟨v2, vs2, d2, ds2, p2, q2, rfl, rfl, rfl, h2, r2⟩ := trodAll_cons r1
    obtain ⟨v3, vs3, d3, ds3, p3, q3, rfl, rfl, rfl, h3, r3⟩ := trodAll_cons r2
    obtain ⟨rfl, rfl, rfl⟩ := trodAll_nil r3
    obtain rfl : args = #[v0, v1, v2, v3] := by cases args; simp_all
    obtain ⟨a0, s0, rfl⟩ := open_pt (A := A2) (by kernel_rfl) (by kernel_rfl) (by kernel_rfl) (hval 0 41 v0 rfl rfl) h0
    obtain ⟨a1, s1, rfl⟩ := open_pt (A := A2) (by kernel_rfl) (by kernel_rfl) (by kernel_rfl) (hval 1 41 v1 rfl rfl) h1
    obtain ⟨a2, s2, rfl⟩ := open_pt (A := A1) (by kernel_rfl) (by kernel_rfl) (by kernel_rfl) (hval 2 56 v2 rfl rfl) h2
    obtain ⟨a3, s3, rfl⟩ := open_nm (A := N2) (by kernel_rfl) (by kernel_rfl) (by kernel_rfl) (hval 3 26 v3 rfl rfl) h3
    exact millerSteps_gives a0 s0 a1 s1 a2 s2 a3 s3 W

theorem millerSteps_k0 : Rows.millerStepsRow.wf (OpenSpec.ofChange Rows.millerStepsSpec) = true := by kernel_rfl
theorem millerSteps_k1 : laidOutB Try.prog = true := by kernel_rfl
theorem millerSteps_k2 : mapsRowed Try.prog = true := by kernel_rfl
theorem millerSteps_k3 : Try.f13.params.all (Try.prog.readableRec ·) = true := by kernel_rfl
theorem millerSteps_k4 : namedTie Try.prog Rows.millerStepsRow.named Rows.millerStepsSpec.vars = true := by kernel_rfl
theorem millerSteps_k5 : (Rows.millerStepsRow.stops == []) = true := by kernel_rfl
theorem millerSteps_k6 : (Try.prog.stops == []) = true := by kernel_rfl
theorem millerSteps_k7 : (Rows.millerStepsRow.knobs == []) = true := by kernel_rfl
theorem millerSteps_k8 : (Try.prog.stopKnobs == []) = true := by kernel_rfl
theorem millerSteps_k9 : (Rows.millerStepsRow.inPlace == Try.prog.inPlace 13) = true := by kernel_rfl
theorem millerSteps_k10 : (Rows.millerStepsRow.unfollowed == Try.prog.unfollowed 13) = true := by kernel_rfl
theorem millerSteps_k11 : (Rows.millerStepsRow.recurses == Try.prog.recurses 13) = true := by kernel_rfl
theorem millerSteps_k12 : (Rows.millerStepsRow.named == Try.prog.varsNamed 13) = true := by kernel_rfl
theorem millerSteps_k13 : (Rows.millerStepsRow.maps == (Try.f13.params.toList ++ Rows.millerStepsSpec.plain.varTypes Try.prog).any (Try.prog.mapsRec ·)) = true := by kernel_rfl
theorem millerSteps_k14 : (Rows.millerStepsRow.ifaces == (Try.f13.params.toList ++ Rows.millerStepsSpec.plain.varTypes Try.prog).any (Try.prog.ifacesRec ·)) = true := by kernel_rfl
theorem millerSteps_k15 : (Rows.millerStepsRow.mapsOut == Try.prog.mapsAmong Try.f13.resultTypes.toList) = true := by kernel_rfl
theorem millerSteps_k16 : (Rows.millerStepsRow.loops == (Try.f13.params.toList ++ Rows.millerStepsSpec.plain.varTypes Try.prog).any (Try.prog.loopsFrom ·)) = true := by kernel_rfl
theorem millerSteps_k17 : (Rows.millerStepsRow.wideKeys == (Try.f13.params.toList ++ Rows.millerStepsSpec.plain.varTypes Try.prog ++ Try.f13.resultTypes.toList).any (Try.prog.wideKeysFrom ·)) = true := by kernel_rfl
theorem millerSteps_k18 : Rows.millerStepsSpec.vars.all (Try.prog.varReadable ·) = true := by kernel_rfl
theorem millerSteps_k19 : Try.f13.resultTypes.all (fun t => Try.prog.readableRec t && decide (t < Try.prog.types.size)) = true := by kernel_rfl
theorem millerSteps_k20 : (Rows.millerStepsRow.ifacesOut == Try.f13.resultTypes.toList.any (Try.prog.ifacesRec ·)) = true := by kernel_rfl
theorem millerSteps_k21 : (Rows.millerStepsRow.loopsOut == Try.f13.resultTypes.toList.any (Try.prog.loopsFrom ·)) = true := by kernel_rfl
theorem millerSteps_k22 : (Rows.millerStepsRow.plainKeys == Try.prog.plainKeys) = true := by kernel_rfl
theorem millerSteps_k23 : Rows.millerStepsRow.shortTexts.isNone = true := by kernel_rfl
theorem millerSteps_k24 : Try.prog.stopsHeard = true := by kernel_rfl
theorem millerSteps_k25 : Try.prog.mayEnter = true := sk25
theorem millerSteps_k26 : (Rows.millerStepsRow.lifted == Try.prog.liftsFinal) = true := (congrArg (· == Try.prog.liftsFinal) (show Rows.millerStepsRow.lifted = Rows.millerNoneRow.lifted by kernel_rfl)).trans sk26
theorem millerSteps_k27 : (Try.prog.make == some Rows.millerStepsRow.make) = true := (congrArg (fun m => Try.prog.make == some m) (show Rows.millerStepsRow.make = Rows.millerNoneRow.make by kernel_rfl)).trans sk27
theorem millerSteps_k28 : (Rows.millerStepsRow.kinds == (if Rows.millerStepsRow.domain.isEmpty then [] else Try.f13.params.toList.map fun t => match Try.prog.underlying t with | some (.int k) => some k | _ => none)) = true := by kernel_rfl
theorem millerSteps_k29 : (Rows.millerStepsRow.pinned == Rows.millerStepsRow.pinnedBy) = true := by kernel_rfl
theorem millerSteps_k30 : (Rows.millerStepsRow.veiled == (Try.f13.params.toList ++ Rows.millerStepsSpec.plain.varTypes Try.prog ++ Try.f13.resultTypes.toList).any (Try.prog.veiledRec ·)) = true := by kernel_rfl
theorem millerSteps_k31 : Rows.millerStepsRow.veiledFits Try.prog Try.f13.params.toList (Try.f13.params.toList ++ Rows.millerStepsSpec.plain.varTypes Try.prog ++ Try.f13.resultTypes.toList) = true := by kernel_rfl
set_option maxRecDepth 100000 in
theorem millerSteps_join : joinedFacts Try.prog 13 Try.f13 Rows.millerStepsSpec Rows.millerStepsRow = true := joined_mk millerSteps_k0 millerSteps_k1 millerSteps_k2 millerSteps_k3 millerSteps_k4 millerSteps_k5 millerSteps_k6 millerSteps_k7 millerSteps_k8 millerSteps_k9 millerSteps_k10 millerSteps_k11 millerSteps_k12 millerSteps_k13 millerSteps_k14 millerSteps_k15 millerSteps_k16 millerSteps_k17 millerSteps_k18 millerSteps_k19 millerSteps_k20 millerSteps_k21 millerSteps_k22 millerSteps_k23 millerSteps_k24 millerSteps_k25 millerSteps_k26 millerSteps_k27 millerSteps_k28 millerSteps_k29 millerSteps_k30 millerSteps_k31
theorem millerSteps_named : Try.prog.funcNamed Rows.millerStepsRow.func = some 13 := by kernel_rfl
theorem millerSteps_wrap : Try.f13.isWrapper Try.prog Rows.millerStepsRow.wrapper Rows.millerStepsRow.mainSum := by unfold Func.isWrapper; first | (rw [if_pos (by decide +kernel)]; kernel_rfl) | (rw [if_neg (by decide +kernel)]; exact ⟨rfl, rfl⟩)
theorem millerSteps_over : Rows.millerStepsRow.holds Try.pinned (OpenSpec.ofChange Rows.millerStepsSpec) :=
  OpenClaim.holds_of_wide 13 Try.f13 rfl rfl rfl rfl rfl rfl rfl ⟨rfl, rfl, rfl, rfl, rfl⟩ rfl rfl rfl rfl rfl millerSteps_named Try.func13 millerSteps_join
    (of_decide_eq_true (by kernel_rfl)) millerSteps_wrap
    (fun os started H enc _ => millerSteps_lifted os started H enc)

/-- The statement. -/
theorem millerSteps_holds : Rows.MillerStepsSaid := millerSteps_over
#print axioms millerSteps_holds
end Go.Proofs.Ytmebkhfdhbjacaa
