/-
  SubClears: for every input the call returns true, and each argument reads behind it as before. No condition.
-/
import Derived.Test.YtmebkhfdhbjacaaRows
import Derived.Test.YtmebkhfdhbjacaaSay
import Derived.Test.YtmebkhfdhbjacaaJoin
import Derived.Test.YtmebkhfdhbjacaaK
import Derived.Test.YtmebkhfdhbjacaaLaS14
import Derived.ProofKit
import Derived.OpenShut
namespace Go.Proofs.Ytmebkhfdhbjacaa
open Go Go.Eng Go.RowKit Go.ChangeShapes Go.WideShapes Go.ChangeAt
set_option linter.unusedVariables false

set_option maxRecDepth 100000 in
theorem subClears_lifted (os : Os) (started : os.Started) (H : Type) (enc : TypeId × Value → H) :
    ReturnsInHanded {} Try.checked os 17 .any (Rows.subClearsSpec.pre6 enc Try.prog Try.f17 Rows.subClearsRow.domain false) (Rows.subClearsSpec.post enc Try.prog Try.f17 false true false false) := by
  refine lifted_any (C := Try.checked) say_own started (by kernel_rfl) Try.func17
    (ChangeSpec.witness6 (enc := enc) (C := Try.checked) false ⟨#[], #[.agg ((Array.replicate 24 (.int .u64 0)).push (.bool false))], []⟩ 8 (by kernel_rfl) (by kernel_rfl) (by kernel_rfl) (by kernel_rfl))
    say_laid (by kernel_rfl) rfl (tb := 4) (by kernel_rfl) (by kernel_rfl) (fun ds hd => ?_) ?_
  · rw [Try.params17] at hd
    match ds, hd with
    | [d0], _ => exact ⟨rfl, rfl, rfl⟩
  · intro W base args ds ps hval hA hlt
    rw [Try.params17] at hA hval
    obtain ⟨v0, vs0, d0, ds0, p0, q0, hargs, rfl, rfl, h0, r0⟩ := trodAll_cons hA
    obtain ⟨rfl, rfl, rfl⟩ := trodAll_nil r0
    obtain rfl : args = #[v0] := by cases args; simp_all
    obtain ⟨a0, s0, rfl⟩ := open_pt (A := A2) (by kernel_rfl) (by kernel_rfl) (by kernel_rfl) (hval 0 41 v0 rfl rfl) h0
    exact subClears_gives a0 s0 W

theorem subClears_k0 : Rows.subClearsRow.wf (OpenSpec.ofChange Rows.subClearsSpec) = true := by kernel_rfl
theorem subClears_k1 : laidOutB Try.prog = true := by kernel_rfl
theorem subClears_k2 : mapsRowed Try.prog = true := by kernel_rfl
theorem subClears_k3 : Try.f17.params.all (Try.prog.readableRec ·) = true := by kernel_rfl
theorem subClears_k4 : namedTie Try.prog Rows.subClearsRow.named Rows.subClearsSpec.vars = true := by kernel_rfl
theorem subClears_k5 : (Rows.subClearsRow.stops == []) = true := by kernel_rfl
theorem subClears_k6 : (Try.prog.stops == []) = true := by kernel_rfl
theorem subClears_k7 : (Rows.subClearsRow.knobs == []) = true := by kernel_rfl
theorem subClears_k8 : (Try.prog.stopKnobs == []) = true := by kernel_rfl
theorem subClears_k9 : (Rows.subClearsRow.inPlace == Try.prog.inPlace 17) = true := by kernel_rfl
theorem subClears_k10 : (Rows.subClearsRow.unfollowed == Try.prog.unfollowed 17) = true := by kernel_rfl
theorem subClears_k11 : (Rows.subClearsRow.recurses == Try.prog.recurses 17) = true := by kernel_rfl
theorem subClears_k12 : (Rows.subClearsRow.named == Try.prog.varsNamed 17) = true := by kernel_rfl
theorem subClears_k13 : (Rows.subClearsRow.maps == (Try.f17.params.toList ++ Rows.subClearsSpec.plain.varTypes Try.prog).any (Try.prog.mapsRec ·)) = true := by kernel_rfl
theorem subClears_k14 : (Rows.subClearsRow.ifaces == (Try.f17.params.toList ++ Rows.subClearsSpec.plain.varTypes Try.prog).any (Try.prog.ifacesRec ·)) = true := by kernel_rfl
theorem subClears_k15 : (Rows.subClearsRow.mapsOut == Try.prog.mapsAmong Try.f17.resultTypes.toList) = true := by kernel_rfl
theorem subClears_k16 : (Rows.subClearsRow.loops == (Try.f17.params.toList ++ Rows.subClearsSpec.plain.varTypes Try.prog).any (Try.prog.loopsFrom ·)) = true := by kernel_rfl
theorem subClears_k17 : (Rows.subClearsRow.wideKeys == (Try.f17.params.toList ++ Rows.subClearsSpec.plain.varTypes Try.prog ++ Try.f17.resultTypes.toList).any (Try.prog.wideKeysFrom ·)) = true := by kernel_rfl
theorem subClears_k18 : Rows.subClearsSpec.vars.all (Try.prog.varReadable ·) = true := by kernel_rfl
theorem subClears_k19 : Try.f17.resultTypes.all (fun t => Try.prog.readableRec t && decide (t < Try.prog.types.size)) = true := by kernel_rfl
theorem subClears_k20 : (Rows.subClearsRow.ifacesOut == Try.f17.resultTypes.toList.any (Try.prog.ifacesRec ·)) = true := by kernel_rfl
theorem subClears_k21 : (Rows.subClearsRow.loopsOut == Try.f17.resultTypes.toList.any (Try.prog.loopsFrom ·)) = true := by kernel_rfl
theorem subClears_k22 : (Rows.subClearsRow.plainKeys == Try.prog.plainKeys) = true := by kernel_rfl
theorem subClears_k23 : Rows.subClearsRow.shortTexts.isNone = true := by kernel_rfl
theorem subClears_k24 : Try.prog.stopsHeard = true := by kernel_rfl
theorem subClears_k25 : Try.prog.mayEnter = true := sk25
theorem subClears_k26 : (Rows.subClearsRow.lifted == Try.prog.liftsFinal) = true := (congrArg (· == Try.prog.liftsFinal) (show Rows.subClearsRow.lifted = Rows.millerNoneRow.lifted by kernel_rfl)).trans sk26
theorem subClears_k27 : (Try.prog.make == some Rows.subClearsRow.make) = true := (congrArg (fun m => Try.prog.make == some m) (show Rows.subClearsRow.make = Rows.millerNoneRow.make by kernel_rfl)).trans sk27
theorem subClears_k28 : (Rows.subClearsRow.kinds == (if Rows.subClearsRow.domain.isEmpty then [] else Try.f17.params.toList.map fun t => match Try.prog.underlying t with | some (.int k) => some k | _ => none)) = true := by kernel_rfl
theorem subClears_k29 : (Rows.subClearsRow.pinned == Rows.subClearsRow.pinnedBy) = true := by kernel_rfl
theorem subClears_k30 : (Rows.subClearsRow.veiled == (Try.f17.params.toList ++ Rows.subClearsSpec.plain.varTypes Try.prog ++ Try.f17.resultTypes.toList).any (Try.prog.veiledRec ·)) = true := by kernel_rfl
theorem subClears_k31 : Rows.subClearsRow.veiledFits Try.prog Try.f17.params.toList (Try.f17.params.toList ++ Rows.subClearsSpec.plain.varTypes Try.prog ++ Try.f17.resultTypes.toList) = true := by kernel_rfl
set_option maxRecDepth 100000 in
theorem subClears_join : joinedFacts Try.prog 17 Try.f17 Rows.subClearsSpec Rows.subClearsRow = true := joined_mk subClears_k0 subClears_k1 subClears_k2 subClears_k3 subClears_k4 subClears_k5 subClears_k6 subClears_k7 subClears_k8 subClears_k9 subClears_k10 subClears_k11 subClears_k12 subClears_k13 subClears_k14 subClears_k15 subClears_k16 subClears_k17 subClears_k18 subClears_k19 subClears_k20 subClears_k21 subClears_k22 subClears_k23 subClears_k24 subClears_k25 subClears_k26 subClears_k27 subClears_k28 subClears_k29 subClears_k30 subClears_k31
theorem subClears_named : Try.prog.funcNamed Rows.subClearsRow.func = some 17 := by kernel_rfl
theorem subClears_wrap : Try.f17.isWrapper Try.prog Rows.subClearsRow.wrapper Rows.subClearsRow.mainSum := by unfold Func.isWrapper; first | (rw [if_pos (by decide +kernel)]; kernel_rfl) | (rw [if_neg (by decide +kernel)]; exact ⟨rfl, rfl⟩)
theorem subClears_over : Rows.subClearsRow.holds Try.pinned (OpenSpec.ofChange Rows.subClearsSpec) :=
  OpenClaim.holds_of_wide 17 Try.f17 rfl rfl rfl rfl rfl rfl rfl ⟨rfl, rfl, rfl, rfl, rfl⟩ rfl rfl rfl rfl rfl subClears_named Try.func17 subClears_join
    (of_decide_eq_true (by kernel_rfl)) subClears_wrap
    (fun os started H enc _ => subClears_lifted os started H enc)

/-- The statement. -/
theorem subClears_holds : Rows.SubClearsSaid := subClears_over
#print axioms subClears_holds
end Go.Proofs.Ytmebkhfdhbjacaa
