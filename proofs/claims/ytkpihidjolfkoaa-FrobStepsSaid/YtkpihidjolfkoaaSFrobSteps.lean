/-
  FrobSteps: for every input the call returns true, and each argument reads behind it as before. No condition.
-/
import Derived.Test.YtkpihidjolfkoaaRows
import Derived.Test.YtkpihidjolfkoaaSay
import Derived.Test.YtkpihidjolfkoaaJoin
import Derived.Test.YtkpihidjolfkoaaLa11
import Derived.ProofKit
import Derived.OpenShut
namespace Go.Proofs.Ytkpihidjolfkoaa
open Go Go.Eng Go.RowKit Go.ChangeShapes Go.WideShapes Go.ChangeAt
set_option linter.unusedVariables false

set_option maxRecDepth 100000 in
theorem frobSteps_lifted (os : Os) (started : os.Started) (H : Type) (enc : TypeId × Value → H) :
    ReturnsInHanded {} Try.checked os 4 .any (Rows.frobStepsSpec.pre6 enc Try.prog Try.f4 Rows.frobStepsRow.domain false) (Rows.frobStepsSpec.post enc Try.prog Try.f4 false true false false) := by
  refine lifted_any (C := Try.checked) say_own started (by kernel_rfl) Try.func4
    (ChangeSpec.witness6 (enc := enc) (C := Try.checked) false ⟨#[], #[.agg (Array.replicate 72 (.int .u64 0)), .int .i64 0], []⟩ 8 (by kernel_rfl) (by kernel_rfl) (by kernel_rfl) (by kernel_rfl))
    say_laid (by kernel_rfl) rfl (tb := 4) (by kernel_rfl) (by kernel_rfl) (fun ds hd => ?_) ?_
  · rw [Try.params4] at hd
    match ds, hd with
    | [d0, d1], _ => exact ⟨rfl, rfl, rfl⟩
  · intro W base args ds ps hval hA hlt
    rw [Try.params4] at hA hval
    obtain ⟨v0, vs0, d0, ds0, p0, q0, hargs, rfl, rfl, h0, r0⟩ := trodAll_cons hA
    obtain ⟨v1, vs1, d1, ds1, p1, q1, rfl, rfl, rfl, h1, r1⟩ := trodAll_cons r0
    obtain ⟨rfl, rfl, rfl⟩ := trodAll_nil r1
    obtain rfl : args = #[v0, v1] := by cases args; simp_all
    obtain ⟨a0, s0, rfl⟩ := open_nm (A := N12) (by kernel_rfl) (by kernel_rfl) (by kernel_rfl) (hval 0 30 v0 rfl rfl) h0
    obtain ⟨a1, rfl, rfl, rfl, s1⟩ := open_int (k := .i64) (by kernel_rfl) (hval 1 3 v1 rfl rfl) h1
    exact frobSteps_gives a0 s0 a1 s1 W

theorem frobSteps_k0 : Rows.frobStepsRow.wf (OpenSpec.ofChange Rows.frobStepsSpec) = true := by kernel_rfl
theorem frobSteps_k1 : laidOutB Try.prog = true := by kernel_rfl
theorem frobSteps_k2 : mapsRowed Try.prog = true := by kernel_rfl
theorem frobSteps_k3 : Try.f4.params.all (Try.prog.readableRec ·) = true := by kernel_rfl
theorem frobSteps_k4 : namedTie Try.prog Rows.frobStepsRow.named Rows.frobStepsSpec.vars = true := by kernel_rfl
theorem frobSteps_k5 : (Rows.frobStepsRow.stops == []) = true := by kernel_rfl
theorem frobSteps_k6 : (Try.prog.stops == []) = true := by kernel_rfl
theorem frobSteps_k7 : (Rows.frobStepsRow.knobs == []) = true := by kernel_rfl
theorem frobSteps_k8 : (Try.prog.stopKnobs == []) = true := by kernel_rfl
theorem frobSteps_k9 : (Rows.frobStepsRow.inPlace == Try.prog.inPlace 4) = true := by kernel_rfl
theorem frobSteps_k10 : (Rows.frobStepsRow.unfollowed == Try.prog.unfollowed 4) = true := by kernel_rfl
theorem frobSteps_k11 : (Rows.frobStepsRow.recurses == Try.prog.recurses 4) = true := by kernel_rfl
theorem frobSteps_k12 : (Rows.frobStepsRow.named == Try.prog.varsNamed 4) = true := by kernel_rfl
theorem frobSteps_k13 : (Rows.frobStepsRow.maps == (Try.f4.params.toList ++ Rows.frobStepsSpec.plain.varTypes Try.prog).any (Try.prog.mapsRec ·)) = true := by kernel_rfl
theorem frobSteps_k14 : (Rows.frobStepsRow.ifaces == (Try.f4.params.toList ++ Rows.frobStepsSpec.plain.varTypes Try.prog).any (Try.prog.ifacesRec ·)) = true := by kernel_rfl
theorem frobSteps_k15 : (Rows.frobStepsRow.mapsOut == Try.prog.mapsAmong Try.f4.resultTypes.toList) = true := by kernel_rfl
theorem frobSteps_k16 : (Rows.frobStepsRow.loops == (Try.f4.params.toList ++ Rows.frobStepsSpec.plain.varTypes Try.prog).any (Try.prog.loopsFrom ·)) = true := by kernel_rfl
theorem frobSteps_k17 : (Rows.frobStepsRow.wideKeys == (Try.f4.params.toList ++ Rows.frobStepsSpec.plain.varTypes Try.prog ++ Try.f4.resultTypes.toList).any (Try.prog.wideKeysFrom ·)) = true := by kernel_rfl
theorem frobSteps_k18 : Rows.frobStepsSpec.vars.all (Try.prog.varReadable ·) = true := by kernel_rfl
theorem frobSteps_k19 : Try.f4.resultTypes.all (fun t => Try.prog.readableRec t && decide (t < Try.prog.types.size)) = true := by kernel_rfl
theorem frobSteps_k20 : (Rows.frobStepsRow.ifacesOut == Try.f4.resultTypes.toList.any (Try.prog.ifacesRec ·)) = true := by kernel_rfl
theorem frobSteps_k21 : (Rows.frobStepsRow.loopsOut == Try.f4.resultTypes.toList.any (Try.prog.loopsFrom ·)) = true := by kernel_rfl
theorem frobSteps_k22 : (Rows.frobStepsRow.plainKeys == Try.prog.plainKeys) = true := by kernel_rfl
theorem frobSteps_k23 : Rows.frobStepsRow.shortTexts.isNone = true := by kernel_rfl
theorem frobSteps_k24 : Try.prog.stopsHeard = true := by kernel_rfl
theorem frobSteps_k25 : Try.prog.mayEnter = true := by kernel_rfl
theorem frobSteps_k26 : (Rows.frobStepsRow.lifted == Try.prog.liftsFinal) = true := by kernel_rfl
theorem frobSteps_k27 : (Try.prog.make == some Rows.frobStepsRow.make) = true := by kernel_rfl
theorem frobSteps_k28 : (Rows.frobStepsRow.kinds == (if Rows.frobStepsRow.domain.isEmpty then [] else Try.f4.params.toList.map fun t => match Try.prog.underlying t with | some (.int k) => some k | _ => none)) = true := by kernel_rfl
theorem frobSteps_k29 : (Rows.frobStepsRow.pinned == Rows.frobStepsRow.pinnedBy) = true := by kernel_rfl
theorem frobSteps_k30 : (Rows.frobStepsRow.veiled == (Try.f4.params.toList ++ Rows.frobStepsSpec.plain.varTypes Try.prog ++ Try.f4.resultTypes.toList).any (Try.prog.veiledRec ·)) = true := by kernel_rfl
theorem frobSteps_k31 : Rows.frobStepsRow.veiledFits Try.prog Try.f4.params.toList (Try.f4.params.toList ++ Rows.frobStepsSpec.plain.varTypes Try.prog ++ Try.f4.resultTypes.toList) = true := by kernel_rfl
theorem frobSteps_join : joinedFacts Try.prog 4 Try.f4 Rows.frobStepsSpec Rows.frobStepsRow = true := joined_mk frobSteps_k0 frobSteps_k1 frobSteps_k2 frobSteps_k3 frobSteps_k4 frobSteps_k5 frobSteps_k6 frobSteps_k7 frobSteps_k8 frobSteps_k9 frobSteps_k10 frobSteps_k11 frobSteps_k12 frobSteps_k13 frobSteps_k14 frobSteps_k15 frobSteps_k16 frobSteps_k17 frobSteps_k18 frobSteps_k19 frobSteps_k20 frobSteps_k21 frobSteps_k22 frobSteps_k23 frobSteps_k24 frobSteps_k25 frobSteps_k26 frobSteps_k27 frobSteps_k28 frobSteps_k29 frobSteps_k30 frobSteps_k31
theorem frobSteps_named : Try.prog.funcNamed Rows.frobStepsRow.func = some 4 := by kernel_rfl
theorem frobSteps_wrap : Try.f4.isWrapper Try.prog Rows.frobStepsRow.wrapper Rows.frobStepsRow.mainSum := by unfold Func.isWrapper; first | (rw [if_pos (by decide +kernel)]; kernel_rfl) | (rw [if_neg (by decide +kernel)]; exact ⟨rfl, rfl⟩)
theorem frobSteps_over : Rows.frobStepsRow.holds Try.pinned (OpenSpec.ofChange Rows.frobStepsSpec) :=
  OpenClaim.holds_of_wide 4 Try.f4 rfl rfl rfl rfl rfl rfl rfl ⟨rfl, rfl, rfl, rfl, rfl⟩ rfl rfl rfl rfl rfl frobSteps_named Try.func4 frobSteps_join
    (of_decide_eq_true (by kernel_rfl)) frobSteps_wrap
    (fun os started H enc _ => frobSteps_lifted os started H enc)

/-- The statement. -/
theorem frobSteps_holds : Rows.FrobStepsSaid := frobSteps_over
#print axioms frobSteps_holds
end Go.Proofs.Ytkpihidjolfkoaa
