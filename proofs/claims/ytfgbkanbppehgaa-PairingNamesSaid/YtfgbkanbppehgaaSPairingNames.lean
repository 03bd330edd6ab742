/-
  PairingNames: for every input the call returns true, and each argument reads behind it as before. No condition.
-/
import Derived.Test.YtfgbkanbppehgaaRows
import Derived.Test.YtfgbkanbppehgaaSay
import Derived.Test.YtfgbkanbppehgaaJoin
import Derived.Test.YtfgbkanbppehgaaK
import Derived.Test.YtfgbkanbppehgaaLaP16
import Derived.ProofKit
import Derived.OpenShut
namespace Go.Proofs.Ytfgbkanbppehgaa
open Go Go.Eng Go.RowKit Go.ChangeShapes Go.WideShapes Go.ChangeAt
set_option linter.unusedVariables false

set_option maxRecDepth 100000 in
theorem pairingNames_lifted (os : Os) (started : os.Started) (H : Type) (enc : TypeId × Value → H) :
    ReturnsInHanded {} Try.checked os 3 .any (Rows.pairingNamesSpec.pre6 enc Try.prog Try.f3 Rows.pairingNamesRow.domain false) (Rows.pairingNamesSpec.post enc Try.prog Try.f3 false true false false) := by
  refine lifted_any (C := Try.checked) say_own started (by kernel_rfl) Try.func3
    (ChangeSpec.witness6 (enc := enc) (C := Try.checked) false ⟨#[], #[], []⟩ 8 (by kernel_rfl) (by kernel_rfl) (by kernel_rfl) (by kernel_rfl))
    say_laid (by kernel_rfl) rfl (tb := 4) (by kernel_rfl) (by kernel_rfl) (fun ds hd => ?_) ?_
  · rw [Try.params3] at hd
    match ds, hd with
    | [], _ => exact ⟨rfl, rfl, rfl⟩
  · intro W base args ds ps hval hA hlt
    rw [Try.params3] at hA hval
    obtain ⟨hargs, rfl, rfl⟩ := trodAll_nil hA
    obtain rfl : args = #[] := by cases args; simp_all
    exact pairingNames_gives  W

theorem pairingNames_k0 : Rows.pairingNamesRow.wf (OpenSpec.ofChange Rows.pairingNamesSpec) = true := by kernel_rfl
theorem pairingNames_k1 : laidOutB Try.prog = true := by kernel_rfl
theorem pairingNames_k2 : mapsRowed Try.prog = true := by kernel_rfl
theorem pairingNames_k3 : Try.f3.params.all (Try.prog.readableRec ·) = true := by kernel_rfl
theorem pairingNames_k4 : namedTie Try.prog Rows.pairingNamesRow.named Rows.pairingNamesSpec.vars = true := by kernel_rfl
theorem pairingNames_k5 : (Rows.pairingNamesRow.stops == []) = true := by kernel_rfl
theorem pairingNames_k6 : (Try.prog.stops == []) = true := by kernel_rfl
theorem pairingNames_k7 : (Rows.pairingNamesRow.knobs == []) = true := by kernel_rfl
theorem pairingNames_k8 : (Try.prog.stopKnobs == []) = true := by kernel_rfl
theorem pairingNames_k9 : (Rows.pairingNamesRow.inPlace == Try.prog.inPlace 3) = true := by kernel_rfl
theorem pairingNames_k10 : (Rows.pairingNamesRow.unfollowed == Try.prog.unfollowed 3) = true := by kernel_rfl
theorem pairingNames_k11 : (Rows.pairingNamesRow.recurses == Try.prog.recurses 3) = true := by kernel_rfl
theorem pairingNames_k12 : (Rows.pairingNamesRow.named == Try.prog.varsNamed 3) = true := by kernel_rfl
theorem pairingNames_k13 : (Rows.pairingNamesRow.maps == (Try.f3.params.toList ++ Rows.pairingNamesSpec.plain.varTypes Try.prog).any (Try.prog.mapsRec ·)) = true := by kernel_rfl
theorem pairingNames_k14 : (Rows.pairingNamesRow.ifaces == (Try.f3.params.toList ++ Rows.pairingNamesSpec.plain.varTypes Try.prog).any (Try.prog.ifacesRec ·)) = true := by kernel_rfl
theorem pairingNames_k15 : (Rows.pairingNamesRow.mapsOut == Try.prog.mapsAmong Try.f3.resultTypes.toList) = true := by kernel_rfl
theorem pairingNames_k16 : (Rows.pairingNamesRow.loops == (Try.f3.params.toList ++ Rows.pairingNamesSpec.plain.varTypes Try.prog).any (Try.prog.loopsFrom ·)) = true := by kernel_rfl
theorem pairingNames_k17 : (Rows.pairingNamesRow.wideKeys == (Try.f3.params.toList ++ Rows.pairingNamesSpec.plain.varTypes Try.prog ++ Try.f3.resultTypes.toList).any (Try.prog.wideKeysFrom ·)) = true := by kernel_rfl
theorem pairingNames_k18 : Rows.pairingNamesSpec.vars.all (Try.prog.varReadable ·) = true := by kernel_rfl
theorem pairingNames_k19 : Try.f3.resultTypes.all (fun t => Try.prog.readableRec t && decide (t < Try.prog.types.size)) = true := by kernel_rfl
theorem pairingNames_k20 : (Rows.pairingNamesRow.ifacesOut == Try.f3.resultTypes.toList.any (Try.prog.ifacesRec ·)) = true := by kernel_rfl
theorem pairingNames_k21 : (Rows.pairingNamesRow.loopsOut == Try.f3.resultTypes.toList.any (Try.prog.loopsFrom ·)) = true := by kernel_rfl
theorem pairingNames_k22 : (Rows.pairingNamesRow.plainKeys == Try.prog.plainKeys) = true := by kernel_rfl
theorem pairingNames_k23 : Rows.pairingNamesRow.shortTexts.isNone = true := by kernel_rfl
theorem pairingNames_k24 : Try.prog.stopsHeard = true := by kernel_rfl
theorem pairingNames_k25 : Try.prog.mayEnter = true := sk25
theorem pairingNames_k26 : (Rows.pairingNamesRow.lifted == Try.prog.liftsFinal) = true := (congrArg (· == Try.prog.liftsFinal) (show Rows.pairingNamesRow.lifted = Rows.pairingNamesRow.lifted by kernel_rfl)).trans sk26
theorem pairingNames_k27 : (Try.prog.make == some Rows.pairingNamesRow.make) = true := (congrArg (fun m => Try.prog.make == some m) (show Rows.pairingNamesRow.make = Rows.pairingNamesRow.make by kernel_rfl)).trans sk27
theorem pairingNames_k28 : (Rows.pairingNamesRow.kinds == (if Rows.pairingNamesRow.domain.isEmpty then [] else Try.f3.params.toList.map fun t => match Try.prog.underlying t with | some (.int k) => some k | _ => none)) = true := by kernel_rfl
theorem pairingNames_k29 : (Rows.pairingNamesRow.pinned == Rows.pairingNamesRow.pinnedBy) = true := by kernel_rfl
theorem pairingNames_k30 : (Rows.pairingNamesRow.veiled == (Try.f3.params.toList ++ Rows.pairingNamesSpec.plain.varTypes Try.prog ++ Try.f3.resultTypes.toList).any (Try.prog.veiledRec ·)) = true := by kernel_rfl
theorem pairingNames_k31 : Rows.pairingNamesRow.veiledFits Try.prog Try.f3.params.toList (Try.f3.params.toList ++ Rows.pairingNamesSpec.plain.varTypes Try.prog ++ Try.f3.resultTypes.toList) = true := by kernel_rfl
set_option maxRecDepth 100000 in
theorem pairingNames_join : joinedFacts Try.prog 3 Try.f3 Rows.pairingNamesSpec Rows.pairingNamesRow = true := joined_mk pairingNames_k0 pairingNames_k1 pairingNames_k2 pairingNames_k3 pairingNames_k4 pairingNames_k5 pairingNames_k6 pairingNames_k7 pairingNames_k8 pairingNames_k9 pairingNames_k10 pairingNames_k11 pairingNames_k12 pairingNames_k13 pairingNames_k14 pairingNames_k15 pairingNames_k16 pairingNames_k17 pairingNames_k18 pairingNames_k19 pairingNames_k20 pairingNames_k21 pairingNames_k22 pairingNames_k23 pairingNames_k24 pairingNames_k25 pairingNames_k26 pairingNames_k27 pairingNames_k28 pairingNames_k29 pairingNames_k30 pairingNames_k31
theorem pairingNames_named : Try.prog.funcNamed Rows.pairingNamesRow.func = some 3 := by kernel_rfl
theorem pairingNames_wrap : Try.f3.isWrapper Try.prog Rows.pairingNamesRow.wrapper Rows.pairingNamesRow.mainSum := by unfold Func.isWrapper; first | (rw [if_pos (by decide +kernel)]; kernel_rfl) | (rw [if_neg (by decide +kernel)]; exact ⟨rfl, rfl⟩)
theorem pairingNames_over : Rows.pairingNamesRow.holds Try.pinned (OpenSpec.ofChange Rows.pairingNamesSpec) :=
  OpenClaim.holds_of_wide 3 Try.f3 rfl rfl rfl rfl rfl rfl rfl ⟨rfl, rfl, rfl, rfl, rfl⟩ rfl rfl rfl rfl rfl pairingNames_named Try.func3 pairingNames_join
    (of_decide_eq_true (by kernel_rfl)) pairingNames_wrap
    (fun os started H enc _ => pairingNames_lifted os started H enc)

/-- The statement. -/
theorem pairingNames_holds : Rows.PairingNamesSaid := pairingNames_over
#print axioms pairingNames_holds
end Go.Proofs.Ytfgbkanbppehgaa
