/-
  SubTells2: for every input the call returns true, and each argument reads behind it as before. No condition.
-/
import Derived.Test.YthceokldlinjlaaRows
import Derived.Test.YthceokldlinjlaaSay
import Derived.Test.YthceokldlinjlaaJoin
import Derived.Test.YthceokldlinjlaaK
import Derived.Test.YthceokldlinjlaaLaT14
import Derived.ProofKit
import Derived.OpenShut
namespace Go.Proofs.Ythceokldlinjlaa
open Go Go.Eng Go.RowKit Go.ChangeShapes Go.WideShapes Go.ChangeAt
set_option linter.unusedVariables false

set_option maxRecDepth 100000 in
theorem subTells2_lifted (os : Os) (started : os.Started) (H : Type) (enc : TypeId × Value → H) :
    ReturnsInHanded {} Try.checked os 8 .any (Rows.subTells2Spec.pre6 enc Try.prog Try.f8 Rows.subTells2Row.domain false) (Rows.subTells2Spec.post enc Try.prog Try.f8 false true false false) := by
  refine lifted_any (C := Try.checked) say_own started (by kernel_rfl) Try.func8
    (ChangeSpec.witness6 (enc := enc) (C := Try.checked) false ⟨#[], #[.agg ((Array.replicate 24 (.int .u64 0)).push (.bool false))], []⟩ 8 (by kernel_rfl) (by kernel_rfl) (by kernel_rfl) (by kernel_rfl))
    say_laid (by kernel_rfl) rfl (tb := 4) (by kernel_rfl) (by kernel_rfl) (fun ds hd => ?_) ?_
  · rw [Try.params8] at hd
    match ds, hd with
    | [d0], _ => exact ⟨rfl, rfl, rfl⟩
  · intro W base args ds ps hval hA hlt
    rw [Try.params8] at hA hval
    obtain ⟨v0, vs0, d0, ds0, p0, q0, hargs, rfl, rfl, h0, r0⟩ := trodAll_cons hA
    obtain ⟨rfl, rfl, rfl⟩ := trodAll_nil r0
    obtain rfl : args = #[v0] := by cases args; simp_all
    obtain ⟨a0, s0, rfl⟩ := open_pt (A := A2) (by kernel_rfl) (by kernel_rfl) (by kernel_rfl) (hval 0 41 v0 rfl rfl) h0
    exact subTells2_gives a0 s0 W

theorem subTells2_k0 : Rows.subTells2Row.wf (OpenSpec.ofChange Rows.subTells2Spec) = true := by kernel_rfl
theorem subTells2_k1 : laidOutB Try.prog = true := by kernel_rfl
theorem subTells2_k2 : mapsRowed Try.prog = true := by kernel_rfl
theorem subTells2_k3 : Try.f8.params.all (Try.prog.readableRec ·) = true := by kernel_rfl
theorem subTells2_k4 : namedTie Try.prog Rows.subTells2Row.named Rows.subTells2Spec.vars = true := by kernel_rfl
theorem subTells2_k5 : (Rows.subTells2Row.stops == []) = true := by kernel_rfl
theorem subTells2_k6 : (Try.prog.stops == []) = true := by kernel_rfl
theorem subTells2_k7 : (Rows.subTells2Row.knobs == []) = true := by kernel_rfl
theorem subTells2_k8 : (Try.prog.stopKnobs == []) = true := by kernel_rfl
theorem subTells2_k9 : (Rows.subTells2Row.inPlace == Try.prog.inPlace 8) = true := by kernel_rfl
theorem subTells2_k10 : (Rows.subTells2Row.unfollowed == Try.prog.unfollowed 8) = true := by kernel_rfl
theorem subTells2_k11 : (Rows.subTells2Row.recurses == Try.prog.recurses 8) = true := by kernel_rfl
theorem subTells2_k12 : (Rows.subTells2Row.named == Try.prog.varsNamed 8) = true := by kernel_rfl
theorem subTells2_k13 : (Rows.subTells2Row.maps == (Try.f8.params.toList ++ Rows.subTells2Spec.plain.varTypes Try.prog).any (Try.prog.mapsRec ·)) = true := by kernel_rfl
theorem subTells2_k14 : (Rows.subTells2Row.ifaces == (Try.f8.params.toList ++ Rows.subTells2Spec.plain.varTypes Try.prog).any (Try.prog.ifacesRec ·)) = true := by kernel_rfl
theorem subTells2_k15 : (Rows.subTells2Row.mapsOut == Try.prog.mapsAmong Try.f8.resultTypes.toList) = true := by kernel_rfl
theorem subTells2_k16 : (Rows.subTells2Row.loops == (Try.f8.params.toList ++ Rows.subTells2Spec.plain.varTypes Try.prog).any (Try.prog.loopsFrom ·)) = true := by kernel_rfl
theorem subTells2_k17 : (Rows.subTells2Row.wideKeys == (Try.f8.params.toList ++ Rows.subTells2Spec.plain.varTypes Try.prog ++ Try.f8.resultTypes.toList).any (Try.prog.wideKeysFrom ·)) = true := by kernel_rfl
theorem subTells2_k18 : Rows.subTells2Spec.vars.all (Try.prog.varReadable ·) = true := by kernel_rfl
theorem subTells2_k19 : Try.f8.resultTypes.all (fun t => Try.prog.readableRec t && decide (t < Try.prog.types.size)) = true := by kernel_rfl
theorem subTells2_k20 : (Rows.subTells2Row.ifacesOut == Try.f8.resultTypes.toList.any (Try.prog.ifacesRec ·)) = true := by kernel_rfl
theorem subTells2_k21 : (Rows.subTells2Row.loopsOut == Try.f8.resultTypes.toList.any (Try.prog.loopsFrom ·)) = true := by kernel_rfl
theorem subTells2_k22 : (Rows.subTells2Row.plainKeys == Try.prog.plainKeys) = true := by kernel_rfl
theorem subTells2_k23 : Rows.subTells2Row.shortTexts.isNone = true := by kernel_rfl
theorem subTells2_k24 : Try.prog.stopsHeard = true := by kernel_rfl
theorem subTells2_k25 : Try.prog.mayEnter = true := sk25
theorem subTells2_k26 : (Rows.subTells2Row.lifted == Try.prog.liftsFinal) = true := (congrArg (· == Try.prog.liftsFinal) (show Rows.subTells2Row.lifted = Rows.subOrdersRow.lifted by kernel_rfl)).trans sk26
theorem subTells2_k27 : (Try.prog.make == some Rows.subTells2Row.make) = true := (congrArg (fun m => Try.prog.make == some m) (show Rows.subTells2Row.make = Rows.subOrdersRow.make by kernel_rfl)).trans sk27
theorem subTells2_k28 : (Rows.subTells2Row.kinds == (if Rows.subTells2Row.domain.isEmpty then [] else Try.f8.params.toList.map fun t => match Try.prog.underlying t with | some (.int k) => some k | _ => none)) = true := by kernel_rfl
theorem subTells2_k29 : (Rows.subTells2Row.pinned == Rows.subTells2Row.pinnedBy) = true := by kernel_rfl
theorem subTells2_k30 : (Rows.subTells2Row.veiled == (Try.f8.params.toList ++ Rows.subTells2Spec.plain.varTypes Try.prog ++ Try.f8.resultTypes.toList).any (Try.prog.veiledRec ·)) = true := by kernel_rfl
theorem subTells2_k31 : Rows.subTells2Row.veiledFits Try.prog Try.f8.params.toList (Try.f8.params.toList ++ Rows.subTells2Spec.plain.varTypes Try.prog ++ Try.f8.resultTypes.toList) = true := by kernel_rfl
set_option maxRecDepth 100000 in
theorem subTells2_join : joinedFacts Try.prog 8 Try.f8 Rows.subTells2Spec Rows.subTells2Row = true := joined_mk subTells2_k0 subTells2_k1 subTells2_k2 subTells2_k3 subTells2_k4 subTells2_k5 subTells2_k6 subTells2_k7 subTells2_k8 subTells2_k9 subTells2_k10 subTells2_k11 subTells2_k12 subTells2_k13 subTells2_k14 subTells2_k15 subTells2_k16 subTells2_k17 subTells2_k18 subTells2_k19 subTells2_k20 subTells2_k21 subTells2_k22 subTells2_k23 subTells2_k24 subTells2_k25 subTells2_k26 subTells2_k27 subTells2_k28 subTells2_k29 subTells2_k30 subTells2_k31
theorem subTells2_named : Try.prog.funcNamed Rows.subTells2Row.func = some 8 := by kernel_rfl
theorem subTells2_wrap : Try.f8.isWrapper Try.prog Rows.subTells2Row.wrapper Rows.subTells2Row.mainSum := by unfold Func.isWrapper; first | (rw [if_pos (by decide +kernel)]; kernel_rfl) | (rw [if_neg (by decide +kernel)]; exact ⟨rfl, rfl⟩)
theorem subTells2_over : Rows.subTells2Row.holds Try.pinned (OpenSpec.ofChange Rows.subTells2Spec) :=
  OpenClaim.holds_of_wide 8 Try.f8 rfl rfl rfl rfl rfl rfl rfl ⟨rfl, rfl, rfl, rfl, rfl⟩ rfl rfl rfl rfl rfl subTells2_named Try.func8 subTells2_join
    (of_decide_eq_true (by kernel_rfl)) subTells2_wrap
    (fun os started H enc _ => subTells2_lifted os started H enc)

/-- The statement. -/
theorem subTells2_holds : Rows.SubTells2Said := subTells2_over
#print axioms subTells2_holds
end Go.Proofs.Ythceokldlinjlaa
