/-
  SubTells1: for every input the call returns true, and each argument reads behind it as before. No condition.
-/
import Derived.Test.YthceokldlinjlaaRows
import Derived.Test.YthceokldlinjlaaSay
import Derived.Test.YthceokldlinjlaaJoin
import Derived.Test.YthceokldlinjlaaK
import Derived.Test.YthceokldlinjlaaLaT14
import Derived.ProofKit
import Derived.OpenShut
namespace Go.Proofs.Ythceokldlinjlaa
open Go Go.Eng Go.RowKit Go.ChangeShapes Go.WideShapes Go.ChangeAt
set_option linter.unusedVariables false

set_option maxRecDepth 100000 in
theorem subTells1_lifted (os : Os) (started : os.Started) (H : Type) (enc : TypeId × Value → H) :
    ReturnsInHanded {} Try.checked os 9 .any (Rows.subTells1Spec.pre6 enc Try.prog Try.f9 Rows.subTells1Row.domain false) (Rows.subTells1Spec.post enc Try.prog Try.f9 false true false false) := by
  refine lifted_any (C := Try.checked) say_own started (by kernel_rfl) Try.func9
    (ChangeSpec.witness6 (enc := enc) (C := Try.checked) false ⟨#[], #[.agg ((Array.replicate 12 (.int .u64 0)).push (.bool false))], []⟩ 8 (by kernel_rfl) (by kernel_rfl) (by kernel_rfl) (by kernel_rfl))
    say_laid (by kernel_rfl) rfl (tb := 4) (by kernel_rfl) (by kernel_rfl) (fun ds hd => ?_) ?_
  · rw [Try.params9] at hd
    match ds, hd with
    | [d0], _ => exact ⟨rfl, rfl, rfl⟩
  · intro W base args ds ps hval hA hlt
    rw [Try.params9] at hA hval
    obtain ⟨v0, vs0, d0, ds0, p0, q0, hargs, rfl, rfl, h0, r0⟩ := trodAll_cons hA
    obtain ⟨rfl, rfl, rfl⟩ := trodAll_nil r0
    obtain rfl : args = #[v0] := by cases args; simp_all
    obtain ⟨a0, s0, rfl⟩ := open_pt (A := A1) (by kernel_rfl) (by kernel_rfl) (by kernel_rfl) (hval 0 52 v0 rfl rfl) h0
    exact subTells1_gives a0 s0 W

theorem subTells1_k0 : Rows.subTells1Row.wf (OpenSpec.ofChange Rows.subTells1Spec) = true := by kernel_rfl
theorem subTells1_k1 : laidOutB Try.prog = true := by kernel_rfl
theorem subTells1_k2 : mapsRowed Try.prog = true := by kernel_rfl
theorem subTells1_k3 : Try.f9.params.all (Try.prog.readableRec ·) = true := by kernel_rfl
theorem subTells1_k4 : namedTie Try.prog Rows.subTells1Row.named Rows.subTells1Spec.vars = true := by kernel_rfl
theorem subTells1_k5 : (Rows.subTells1Row.stops == []) = true := by kernel_rfl
theorem subTells1_k6 : (Try.prog.stops == []) = true := by kernel_rfl
theorem subTells1_k7 : (Rows.subTells1Row.knobs == []) = true := by kernel_rfl
theorem subTells1_k8 : (Try.prog.stopKnobs == []) = true := by kernel_rfl
theorem subTells1_k9 : (Rows.subTells1Row.inPlace == Try.prog.inPlace 9) = true := by kernel_rfl
theorem subTells1_k10 : (Rows.subTells1Row.unfollowed == Try.prog.unfollowed 9) = true := by kernel_rfl
theorem subTells1_k11 : (Rows.subTells1Row.recurses == Try.prog.recurses 9) = true := by kernel_rfl
theorem subTells1_k12 : (Rows.subTells1Row.named == Try.prog.varsNamed 9) = true := by kernel_rfl
theorem subTells1_k13 : (Rows.subTells1Row.maps == (Try.f9.params.toList ++ Rows.subTells1Spec.plain.varTypes Try.prog).any (Try.prog.mapsRec ·)) = true := by kernel_rfl
theorem subTells1_k14 : (Rows.subTells1Row.ifaces == (Try.f9.params.toList ++ Rows.subTells1Spec.plain.varTypes Try.prog).any (Try.prog.ifacesRec ·)) = true := by kernel_rfl
theorem subTells1_k15 : (Rows.subTells1Row.mapsOut == Try.prog.mapsAmong Try.f9.resultTypes.toList) = true := by kernel_rfl
theorem subTells1_k16 : (Rows.subTells1Row.loops == (Try.f9.params.toList ++ Rows.subTells1Spec.plain.varTypes Try.prog).any (Try.prog.loopsFrom ·)) = true := by kernel_rfl
theorem subTells1_k17 : (Rows.subTells1Row.wideKeys == (Try.f9.params.toList ++ Rows.subTells1Spec.plain.varTypes Try.prog ++ Try.f9.resultTypes.toList).any (Try.prog.wideKeysFrom ·)) = true := by kernel_rfl
theorem subTells1_k18 : Rows.subTells1Spec.vars.all (Try.prog.varReadable ·) = true := by kernel_rfl
theorem subTells1_k19 : Try.f9.resultTypes.all (fun t => Try.prog.readableRec t && decide (t < Try.prog.types.size)) = true := by kernel_rfl
theorem subTells1_k20 : (Rows.subTells1Row.ifacesOut == Try.f9.resultTypes.toList.any (Try.prog.ifacesRec ·)) = true := by kernel_rfl
theorem subTells1_k21 : (Rows.subTells1Row.loopsOut == Try.f9.resultTypes.toList.any (Try.prog.loopsFrom ·)) = true := by kernel_rfl
theorem subTells1_k22 : (Rows.subTells1Row.plainKeys == Try.prog.plainKeys) = true := by kernel_rfl
theorem subTells1_k23 : Rows.subTells1Row.shortTexts.isNone = true := by kernel_rfl
theorem subTells1_k24 : Try.prog.stopsHeard = true := by kernel_rfl
theorem subTells1_k25 : Try.prog.mayEnter = true := sk25
theorem subTells1_k26 : (Rows.subTells1Row.lifted == Try.prog.liftsFinal) = true := (congrArg (· == Try.prog.liftsFinal) (show Rows.subTells1Row.lifted = Rows.subOrdersRow.lifted by kernel_rfl)).trans sk26
theorem subTells1_k27 : (Try.prog.make == some Rows.subTells1Row.make) = true := (congrArg (fun m => Try.prog.make == some m) (show Rows.subTells1Row.make = Rows.subOrdersRow.make by kernel_rfl)).trans sk27
theorem subTells1_k28 : (Rows.subTells1Row.kinds == (if Rows.subTells1Row.domain.isEmpty then [] else Try.f9.params.toList.map fun t => match Try.prog.underlying t with | some (.int k) => some k | _ => none)) = true := by kernel_rfl
theorem subTells1_k29 : (Rows.subTells1Row.pinned == Rows.subTells1Row.pinnedBy) = true := by kernel_rfl
theorem subTells1_k30 : (Rows.subTells1Row.veiled == (Try.f9.params.toList ++ Rows.subTells1Spec.plain.varTypes Try.prog ++ Try.f9.resultTypes.toList).any (Try.prog.veiledRec ·)) = true := by kernel_rfl
theorem subTells1_k31 : Rows.subTells1Row.veiledFits Try.prog Try.f9.params.toList (Try.f9.params.toList ++ Rows.subTells1Spec.plain.varTypes Try.prog ++ Try.f9.resultTypes.toList) = true := by kernel_rfl
set_option maxRecDepth 100000 in
theorem subTells1_join : joinedFacts Try.prog 9 Try.f9 Rows.subTells1Spec Rows.subTells1Row = true := joined_mk subTells1_k0 subTells1_k1 subTells1_k2 subTells1_k3 subTells1_k4 subTells1_k5 subTells1_k6 subTells1_k7 subTells1_k8 subTells1_k9 subTells1_k10 subTells1_k11 subTells1_k12 subTells1_k13 subTells1_k14 subTells1_k15 subTells1_k16 subTells1_k17 subTells1_k18 subTells1_k19 subTells1_k20 subTells1_k21 subTells1_k22 subTells1_k23 subTells1_k24 subTells1_k25 subTells1_k26 subTells1_k27 subTells1_k28 subTells1_k29 subTells1_k30 subTells1_k31
theorem subTells1_named : Try.prog.funcNamed Rows.subTells1Row.func = some 9 := by kernel_rfl
theorem subTells1_wrap : Try.f9.isWrapper Try.prog Rows.subTells1Row.wrapper Rows.subTells1Row.mainSum := by unfold Func.isWrapper; first | (rw [if_pos (by decide +kernel)]; kernel_rfl) | (rw [if_neg (by decide +kernel)]; exact ⟨rfl, rfl⟩)
theorem subTells1_over : Rows.subTells1Row.holds Try.pinned (OpenSpec.ofChange Rows.subTells1Spec) :=
  OpenClaim.holds_of_wide 9 Try.f9 rfl rfl rfl rfl rfl rfl rfl ⟨rfl, rfl, rfl, rfl, rfl⟩ rfl rfl rfl rfl rfl subTells1_named Try.func9 subTells1_join
    (of_decide_eq_true (by kernel_rfl)) subTells1_wrap
    (fun os started H enc _ => subTells1_lifted os started H enc)

/-- The statement. -/
theorem subTells1_holds : Rows.SubTells1Said := subTells1_over
#print axioms subTells1_holds
end Go.Proofs.Ythceokldlinjlaa
