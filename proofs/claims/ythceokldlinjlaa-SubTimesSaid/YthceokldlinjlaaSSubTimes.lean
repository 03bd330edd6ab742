/-
  SubTimes: for every input the call returns true, and each argument reads behind it as before. No condition.
-/
import Derived.Test.YthceokldlinjlaaRows
import Derived.Test.YthceokldlinjlaaSay
import Derived.Test.YthceokldlinjlaaJoin
import Derived.Test.YthceokldlinjlaaK
import Derived.Test.YthceokldlinjlaaLaU14
import Derived.ProofKit
import Derived.OpenShut
namespace Go.Proofs.Ythceokldlinjlaa
open Go Go.Eng Go.RowKit Go.ChangeShapes Go.WideShapes Go.ChangeAt
set_option linter.unusedVariables false

set_option maxRecDepth 100000 in
theorem subTimes_lifted (os : Os) (started : os.Started) (H : Type) (enc : TypeId × Value → H) :
    ReturnsInHanded {} Try.checked os 11 .any (Rows.subTimesSpec.pre6 enc Try.prog Try.f11 Rows.subTimesRow.domain false) (Rows.subTimesSpec.post enc Try.prog Try.f11 false true false false) := by
  refine lifted_any (C := Try.checked) say_own started (by kernel_rfl) Try.func11
    (ChangeSpec.witness6 (enc := enc) (C := Try.checked) false ⟨#[], #[.slice none 0 0, .int .u64 0], []⟩ 8 (by kernel_rfl) (by kernel_rfl) (by kernel_rfl) (by kernel_rfl))
    say_laid (by kernel_rfl) rfl (tb := 4) (by kernel_rfl) (by kernel_rfl) (fun ds hd => ?_) ?_
  · rw [Try.params11] at hd
    match ds, hd with
    | [d0, d1], _ => exact ⟨rfl, rfl, rfl⟩
  · intro W base args ds ps hval hA hlt
    rw [Try.params11] at hA hval
    obtain ⟨v0, vs0, d0, ds0, p0, q0, hargs, rfl, rfl, h0, r0⟩ := trodAll_cons hA
    obtain ⟨v1, vs1, d1, ds1, p1, q1, rfl, rfl, rfl, h1, r1⟩ := trodAll_cons r0
    obtain ⟨rfl, rfl, rfl⟩ := trodAll_nil r1
    obtain rfl : args = #[v0, v1] := by cases args; simp_all
    obtain ⟨a1, rfl, rfl, rfl, s1⟩ := open_int (k := .u64) (by kernel_rfl) (hval 1 22 v1 rfl rfl) h1
    exact subTimes_gives v0 W (open_words (e := 22) (by kernel_rfl) (by kernel_rfl) (by kernel_rfl) (hval 0 32 v0 rfl rfl) h0) a1 (wf_u64 s1)

theorem subTimes_k0 : Rows.subTimesRow.wf (OpenSpec.ofChange Rows.subTimesSpec) = true := by kernel_rfl
theorem subTimes_k1 : laidOutB Try.prog = true := by kernel_rfl
theorem subTimes_k2 : mapsRowed Try.prog = true := by kernel_rfl
theorem subTimes_k3 : Try.f11.params.all (Try.prog.readableRec ·) = true := by kernel_rfl
theorem subTimes_k4 : namedTie Try.prog Rows.subTimesRow.named Rows.subTimesSpec.vars = true := by kernel_rfl
theorem subTimes_k5 : (Rows.subTimesRow.stops == []) = true := by kernel_rfl
theorem subTimes_k6 : (Try.prog.stops == []) = true := by kernel_rfl
theorem subTimes_k7 : (Rows.subTimesRow.knobs == []) = true := by kernel_rfl
theorem subTimes_k8 : (Try.prog.stopKnobs == []) = true := by kernel_rfl
theorem subTimes_k9 : (Rows.subTimesRow.inPlace == Try.prog.inPlace 11) = true := by kernel_rfl
theorem subTimes_k10 : (Rows.subTimesRow.unfollowed == Try.prog.unfollowed 11) = true := by kernel_rfl
theorem subTimes_k11 : (Rows.subTimesRow.recurses == Try.prog.recurses 11) = true := by kernel_rfl
theorem subTimes_k12 : (Rows.subTimesRow.named == Try.prog.varsNamed 11) = true := by kernel_rfl
theorem subTimes_k13 : (Rows.subTimesRow.maps == (Try.f11.params.toList ++ Rows.subTimesSpec.plain.varTypes Try.prog).any (Try.prog.mapsRec ·)) = true := by kernel_rfl
theorem subTimes_k14 : (Rows.subTimesRow.ifaces == (Try.f11.params.toList ++ Rows.subTimesSpec.plain.varTypes Try.prog).any (Try.prog.ifacesRec ·)) = true := by kernel_rfl
theorem subTimes_k15 : (Rows.subTimesRow.mapsOut == Try.prog.mapsAmong Try.f11.resultTypes.toList) = true := by kernel_rfl
theorem subTimes_k16 : (Rows.subTimesRow.loops == (Try.f11.params.toList ++ Rows.subTimesSpec.plain.varTypes Try.prog).any (Try.prog.loopsFrom ·)) = true := by kernel_rfl
theorem subTimes_k17 : (Rows.subTimesRow.wideKeys == (Try.f11.params.toList ++ Rows.subTimesSpec.plain.varTypes Try.prog ++ Try.f11.resultTypes.toList).any (Try.prog.wideKeysFrom ·)) = true := by kernel_rfl
theorem subTimes_k18 : Rows.subTimesSpec.vars.all (Try.prog.varReadable ·) = true := by kernel_rfl
theorem subTimes_k19 : Try.f11.resultTypes.all (fun t => Try.prog.readableRec t && decide (t < Try.prog.types.size)) = true := by kernel_rfl
theorem subTimes_k20 : (Rows.subTimesRow.ifacesOut == Try.f11.resultTypes.toList.any (Try.prog.ifacesRec ·)) = true := by kernel_rfl
theorem subTimes_k21 : (Rows.subTimesRow.loopsOut == Try.f11.resultTypes.toList.any (Try.prog.loopsFrom ·)) = true := by kernel_rfl
theorem subTimes_k22 : (Rows.subTimesRow.plainKeys == Try.prog.plainKeys) = true := by kernel_rfl
theorem subTimes_k23 : Rows.subTimesRow.shortTexts.isNone = true := by kernel_rfl
theorem subTimes_k24 : Try.prog.stopsHeard = true := by kernel_rfl
theorem subTimes_k25 : Try.prog.mayEnter = true := sk25
theorem subTimes_k26 : (Rows.subTimesRow.lifted == Try.prog.liftsFinal) = true := (congrArg (· == Try.prog.liftsFinal) (show Rows.subTimesRow.lifted = Rows.subOrdersRow.lifted by kernel_rfl)).trans sk26
theorem subTimes_k27 : (Try.prog.make == some Rows.subTimesRow.make) = true := (congrArg (fun m => Try.prog.make == some m) (show Rows.subTimesRow.make = Rows.subOrdersRow.make by kernel_rfl)).trans sk27
theorem subTimes_k28 : (Rows.subTimesRow.kinds == (if Rows.subTimesRow.domain.isEmpty then [] else Try.f11.params.toList.map fun t => match Try.prog.underlying t with | some (.int k) => some k | _ => none)) = true := by kernel_rfl
theorem subTimes_k29 : (Rows.subTimesRow.pinned == Rows.subTimesRow.pinnedBy) = true := by kernel_rfl
theorem subTimes_k30 : (Rows.subTimesRow.veiled == (Try.f11.params.toList ++ Rows.subTimesSpec.plain.varTypes Try.prog ++ Try.f11.resultTypes.toList).any (Try.prog.veiledRec ·)) = true := by kernel_rfl
theorem subTimes_k31 : Rows.subTimesRow.veiledFits Try.prog Try.f11.params.toList (Try.f11.params.toList ++ Rows.subTimesSpec.plain.varTypes Try.prog ++ Try.f11.resultTypes.toList) = true := by kernel_rfl
set_option maxRecDepth 100000 in
theorem subTimes_join : joinedFacts Try.prog 11 Try.f11 Rows.subTimesSpec Rows.subTimesRow = true := joined_mk subTimes_k0 subTimes_k1 subTimes_k2 subTimes_k3 subTimes_k4 subTimes_k5 subTimes_k6 subTimes_k7 subTimes_k8 subTimes_k9 subTimes_k10 subTimes_k11 subTimes_k12 subTimes_k13 subTimes_k14 subTimes_k15 subTimes_k16 subTimes_k17 subTimes_k18 subTimes_k19 subTimes_k20 subTimes_k21 subTimes_k22 subTimes_k23 subTimes_k24 subTimes_k25 subTimes_k26 subTimes_k27 subTimes_k28 subTimes_k29 subTimes_k30 subTimes_k31
theorem subTimes_named : Try.prog.funcNamed Rows.subTimesRow.func = some 11 := by kernel_rfl
theorem subTimes_wrap : Try.f11.isWrapper Try.prog Rows.subTimesRow.wrapper Rows.subTimesRow.mainSum := by unfold Func.isWrapper; first | (rw [if_pos (by decide +kernel)]; kernel_rfl) | (rw [if_neg (by decide +kernel)]; exact ⟨rfl, rfl⟩)
theorem subTimes_over : Rows.subTimesRow.holds Try.pinned (OpenSpec.ofChange Rows.subTimesSpec) :=
  OpenClaim.holds_of_wide 11 Try.f11 rfl rfl rfl rfl rfl rfl rfl ⟨rfl, rfl, rfl, rfl, rfl⟩ rfl rfl rfl rfl rfl subTimes_named Try.func11 subTimes_join
    (of_decide_eq_true (by kernel_rfl)) subTimes_wrap
    (fun os started H enc _ => subTimes_lifted os started H enc)

/-- The statement. -/
theorem subTimes_holds : Rows.SubTimesSaid := subTimes_over
#print axioms subTimes_holds
end Go.Proofs.Ythceokldlinjlaa
