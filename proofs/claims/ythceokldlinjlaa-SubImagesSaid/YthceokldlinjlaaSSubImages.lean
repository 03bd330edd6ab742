/-
  SubImages: for every input the call returns true, and each argument reads behind it as before. No condition.
-/
import Derived.Test.YthceokldlinjlaaRows
import Derived.Test.YthceokldlinjlaaSay
import Derived.Test.YthceokldlinjlaaJoin
import Derived.Test.YthceokldlinjlaaK
import Derived.Test.YthceokldlinjlaaLaI14
import Derived.ProofKit
import Derived.OpenShut
namespace Go.Proofs.Ythceokldlinjlaa
open Go Go.Eng Go.RowKit Go.ChangeShapes Go.WideShapes Go.ChangeAt
set_option linter.unusedVariables false

set_option maxRecDepth 100000 in
theorem subImages_lifted (os : Os) (started : os.Started) (H : Type) (enc : TypeId × Value → H) :
    ReturnsInHanded {} Try.checked os 10 .any (Rows.subImagesSpec.pre6 enc Try.prog Try.f10 Rows.subImagesRow.domain false) (Rows.subImagesSpec.post enc Try.prog Try.f10 false true false false) := by
  refine lifted_any (C := Try.checked) say_own started (by kernel_rfl) Try.func10
    (ChangeSpec.witness6 (enc := enc) (C := Try.checked) false ⟨#[], #[.int .u64 0, .int .u64 0], []⟩ 8 (by kernel_rfl) (by kernel_rfl) (by kernel_rfl) (by kernel_rfl))
    say_laid (by kernel_rfl) rfl (tb := 4) (by kernel_rfl) (by kernel_rfl) (fun ds hd => ?_) ?_
  · rw [Try.params10] at hd
    match ds, hd with
    | [d0, d1], _ => exact ⟨rfl, rfl, rfl⟩
  · intro W base args ds ps hval hA hlt
    rw [Try.params10] at hA hval
    obtain ⟨v0, vs0, d0, ds0, p0, q0, hargs, rfl, rfl, h0, r0⟩ := trodAll_cons hA
    obtain ⟨v1, vs1, d1, ds1, p1, q1, rfl, rfl, rfl, h1, r1⟩ := trodAll_cons r0
    obtain ⟨rfl, rfl, rfl⟩ := trodAll_nil r1
    obtain rfl : args = #[v0, v1] := by cases args; simp_all
    obtain ⟨a0, rfl, rfl, rfl, s0⟩ := open_int (k := .u64) (by kernel_rfl) (hval 0 22 v0 rfl rfl) h0
    obtain ⟨a1, rfl, rfl, rfl, s1⟩ := open_int (k := .u64) (by kernel_rfl) (hval 1 22 v1 rfl rfl) h1
    exact subImages_gives a0 (wf_u64 s0) a1 (wf_u64 s1) W

theorem subImages_k0 : Rows.subImagesRow.wf (OpenSpec.ofChange Rows.subImagesSpec) = true := by kernel_rfl
theorem subImages_k1 : laidOutB Try.prog = true := by kernel_rfl
theorem subImages_k2 : mapsRowed Try.prog = true := by kernel_rfl
theorem subImages_k3 : Try.f10.params.all (Try.prog.readableRec ·) = true := by kernel_rfl
theorem subImages_k4 : namedTie Try.prog Rows.subImagesRow.named Rows.subImagesSpec.vars = true := by kernel_rfl
theorem subImages_k5 : (Rows.subImagesRow.stops == []) = true := by kernel_rfl
theorem subImages_k6 : (Try.prog.stops == []) = true := by kernel_rfl
theorem subImages_k7 : (Rows.subImagesRow.knobs == []) = true := by kernel_rfl
theorem subImages_k8 : (Try.prog.stopKnobs == []) = true := by kernel_rfl
theorem subImages_k9 : (Rows.subImagesRow.inPlace == Try.prog.inPlace 10) = true := by kernel_rfl
theorem subImages_k10 : (Rows.subImagesRow.unfollowed == Try.prog.unfollowed 10) = true := by kernel_rfl
theorem subImages_k11 : (Rows.subImagesRow.recurses == Try.prog.recurses 10) = true := by kernel_rfl
theorem subImages_k12 : (Rows.subImagesRow.named == Try.prog.varsNamed 10) = true := by kernel_rfl
theorem subImages_k13 : (Rows.subImagesRow.maps == (Try.f10.params.toList ++ Rows.subImagesSpec.plain.varTypes Try.prog).any (Try.prog.mapsRec ·)) = true := by kernel_rfl
theorem subImages_k14 : (Rows.subImagesRow.ifaces == (Try.f10.params.toList ++ Rows.subImagesSpec.plain.varTypes Try.prog).any (Try.prog.ifacesRec ·)) = true := by kernel_rfl
theorem subImages_k15 : (Rows.subImagesRow.mapsOut == Try.prog.mapsAmong Try.f10.resultTypes.toList) = true := by kernel_rfl
theorem subImages_k16 : (Rows.subImagesRow.loops == (Try.f10.params.toList ++ Rows.subImagesSpec.plain.varTypes Try.prog).any (Try.prog.loopsFrom ·)) = true := by kernel_rfl
theorem subImages_k17 : (Rows.subImagesRow.wideKeys == (Try.f10.params.toList ++ Rows.subImagesSpec.plain.varTypes Try.prog ++ Try.f10.resultTypes.toList).any (Try.prog.wideKeysFrom ·)) = true := by kernel_rfl
theorem subImages_k18 : Rows.subImagesSpec.vars.all (Try.prog.varReadable ·) = true := by kernel_rfl
theorem subImages_k19 : Try.f10.resultTypes.all (fun t => Try.prog.readableRec t && decide (t < Try.prog.types.size)) = true := by kernel_rfl
theorem subImages_k20 : (Rows.subImagesRow.ifacesOut == Try.f10.resultTypes.toList.any (Try.prog.ifacesRec ·)) = true := by kernel_rfl
theorem subImages_k21 : (Rows.subImagesRow.loopsOut == Try.f10.resultTypes.toList.any (Try.prog.loopsFrom ·)) = true := by kernel_rfl
theorem subImages_k22 : (Rows.subImagesRow.plainKeys == Try.prog.plainKeys) = true := by kernel_rfl
theorem subImages_k23 : Rows.subImagesRow.shortTexts.isNone = true := by kernel_rfl
theorem subImages_k24 : Try.prog.stopsHeard = true := by kernel_rfl
theorem subImages_k25 : Try.prog.mayEnter = true := sk25
theorem subImages_k26 : (Rows.subImagesRow.lifted == Try.prog.liftsFinal) = true := (congrArg (· == Try.prog.liftsFinal) (show Rows.subImagesRow.lifted = Rows.subOrdersRow.lifted by kernel_rfl)).trans sk26
theorem subImages_k27 : (Try.prog.make == some Rows.subImagesRow.make) = true := (congrArg (fun m => Try.prog.make == some m) (show Rows.subImagesRow.make = Rows.subOrdersRow.make by kernel_rfl)).trans sk27
theorem subImages_k28 : (Rows.subImagesRow.kinds == (if Rows.subImagesRow.domain.isEmpty then [] else Try.f10.params.toList.map fun t => match Try.prog.underlying t with | some (.int k) => some k | _ => none)) = true := by kernel_rfl
theorem subImages_k29 : (Rows.subImagesRow.pinned == Rows.subImagesRow.pinnedBy) = true := by kernel_rfl
theorem subImages_k30 : (Rows.subImagesRow.veiled == (Try.f10.params.toList ++ Rows.subImagesSpec.plain.varTypes Try.prog ++ Try.f10.resultTypes.toList).any (Try.prog.veiledRec ·)) = true := by kernel_rfl
theorem subImages_k31 : Rows.subImagesRow.veiledFits Try.prog Try.f10.params.toList (Try.f10.params.toList ++ Rows.subImagesSpec.plain.varTypes Try.prog ++ Try.f10.resultTypes.toList) = true := by kernel_rfl
set_option maxRecDepth 100000 in
theorem subImages_join : joinedFacts Try.prog 10 Try.f10 Rows.subImagesSpec Rows.subImagesRow = true := joined_mk subImages_k0 subImages_k1 subImages_k2 subImages_k3 subImages_k4 subImages_k5 subImages_k6 subImages_k7 subImages_k8 subImages_k9 subImages_k10 subImages_k11 subImages_k12 subImages_k13 subImages_k14 subImages_k15 subImages_k16 subImages_k17 subImages_k18 subImages_k19 subImages_k20 subImages_k21 subImages_k22 subImages_k23 subImages_k24 subImages_k25 subImages_k26 subImages_k27 subImages_k28 subImages_k29 subImages_k30 subImages_k31
theorem subImages_named : Try.prog.funcNamed Rows.subImagesRow.func = some 10 := by kernel_rfl
theorem subImages_wrap : Try.f10.isWrapper Try.prog Rows.subImagesRow.wrapper Rows.subImagesRow.mainSum := by unfold Func.isWrapper; first | (rw [if_pos (by decide +kernel)]; kernel_rfl) | (rw [if_neg (by decide +kernel)]; exact ⟨rfl, rfl⟩)
theorem subImages_over : Rows.subImagesRow.holds Try.pinned (OpenSpec.ofChange Rows.subImagesSpec) :=
  OpenClaim.holds_of_wide 10 Try.f10 rfl rfl rfl rfl rfl rfl rfl ⟨rfl, rfl, rfl, rfl, rfl⟩ rfl rfl rfl rfl rfl subImages_named Try.func10 subImages_join
    (of_decide_eq_true (by kernel_rfl)) subImages_wrap
    (fun os started H enc _ => subImages_lifted os started H enc)

/-- The statement. -/
theorem subImages_holds : Rows.SubImagesSaid := subImages_over
#print axioms subImages_holds
end Go.Proofs.Ythceokldlinjlaa
