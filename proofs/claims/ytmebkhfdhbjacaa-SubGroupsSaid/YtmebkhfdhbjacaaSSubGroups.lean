/-
  SubGroups: for every input the call returns true, and each argument reads behind it as before. No condition.
-/
import Derived.Test.YtmebkhfdhbjacaaRows
import Derived.Test.YtmebkhfdhbjacaaSay
import Derived.Test.YtmebkhfdhbjacaaJoin
import Derived.Test.YtmebkhfdhbjacaaK
import Derived.Test.YtmebkhfdhbjacaaLaS14
import Derived.ProofKit
import Derived.OpenShut
namespace Go.Proofs.Ytmebkhfdhbjacaa
open Go Go.Eng Go.RowKit Go.ChangeShapes Go.WideShapes Go.ChangeAt
set_option linter.unusedVariables false

set_option maxRecDepth 100000 in
theorem subGroups_lifted (os : Os) (started : os.Started) (H : Type) (enc : TypeId × Value → H) :
    ReturnsInHanded {} Try.checked os 15 .any (Rows.subGroupsSpec.pre6 enc Try.prog Try.f15 Rows.subGroupsRow.domain false) (Rows.subGroupsSpec.post enc Try.prog Try.f15 false true false false) := by
  refine lifted_any (C := Try.checked) say_own started (by kernel_rfl) Try.func15
    (ChangeSpec.witness6 (enc := enc) (C := Try.checked) false ⟨#[], #[.int .u64 0, .int .u64 0, .int .u64 0], []⟩ 8 (by kernel_rfl) (by kernel_rfl) (by kernel_rfl) (by kernel_rfl))
    say_laid (by kernel_rfl) rfl (tb := 4) (by kernel_rfl) (by kernel_rfl) (fun ds hd => ?_) ?_
  · rw [Try.params15] at hd
    match ds, hd with
    | [d0, d1, d2], _ => exact ⟨rfl, rfl, rfl⟩
  · intro W base args ds ps hval hA hlt
    rw [Try.params15] at hA hval
    obtain ⟨v0, vs0, d0, ds0, p0, q0, hargs, rfl, rfl, h0, r0⟩ := trodAll_cons hA
    obtain ⟨v1, vs1, d1, ds1, p1, q1, rfl, rfl, rfl, h1, r1⟩ := trodAll_cons r0
    obtain ⟨v2, vs2, d2, ds2, p2, q2, rfl, rfl, rfl, h2, r2⟩ := trodAll_cons r1
    obtain ⟨rfl, rfl, rfl⟩ := trodAll_nil r2
    obtain rfl : args = #[v0, v1, v2] := by cases args; simp_all
    obtain ⟨a0, rfl, rfl, rfl, s0⟩ := open_int (k := .u64) (by kernel_rfl) (hval 0 22 v0 rfl rfl) h0
    obtain ⟨a1, rfl, rfl, rfl, s1⟩ := open_int (k := .u64) (by kernel_rfl) (hval 1 22 v1 rfl rfl) h1
    obtain ⟨a2, rfl, rfl, rfl, s2⟩ := open_int (k := .u64) (by kernel_rfl) (hval 2 22 v2 rfl rfl) h2
    exact subGroups_gives a0 (wf_u64 s0) a1 (wf_u64 s1) a2 (wf_u64 s2) W

theorem subGroups_k0 : Rows.subGroupsRow.wf (OpenSpec.ofChange Rows.subGroupsSpec) = true := by kernel_rfl
theorem subGroups_k1 : laidOutB Try.prog = true := by kernel_rfl
theorem subGroups_k2 : mapsRowed Try.prog = true := by kernel_rfl
theorem subGroups_k3 : Try.f15.params.all (Try.prog.readableRec ·) = true := by kernel_rfl
theorem subGroups_k4 : namedTie Try.prog Rows.subGroupsRow.named Rows.subGroupsSpec.vars = true := by kernel_rfl
theorem subGroups_k5 : (Rows.subGroupsRow.stops == []) = true := by kernel_rfl
theorem subGroups_k6 : (Try.prog.stops == []) = true := by kernel_rfl
theorem subGroups_k7 : (Rows.subGroupsRow.knobs == []) = true := by kernel_rfl
theorem subGroups_k8 : (Try.prog.stopKnobs == []) = true := by kernel_rfl
theorem subGroups_k9 : (Rows.subGroupsRow.inPlace == Try.prog.inPlace 15) = true := by kernel_rfl
theorem subGroups_k10 : (Rows.subGroupsRow.unfollowed == Try.prog.unfollowed 15) = true := by kernel_rfl
theorem subGroups_k11 : (Rows.subGroupsRow.recurses == Try.prog.recurses 15) = true := by kernel_rfl
theorem subGroups_k12 : (Rows.subGroupsRow.named == Try.prog.varsNamed 15) = true := by kernel_rfl
theorem subGroups_k13 : (Rows.subGroupsRow.maps == (Try.f15.params.toList ++ Rows.subGroupsSpec.plain.varTypes Try.prog).any (Try.prog.mapsRec ·)) = true := by kernel_rfl
theorem subGroups_k14 : (Rows.subGroupsRow.ifaces == (Try.f15.params.toList ++ Rows.subGroupsSpec.plain.varTypes Try.prog).any (Try.prog.ifacesRec ·)) = true := by kernel_rfl
theorem subGroups_k15 : (Rows.subGroupsRow.mapsOut == Try.prog.mapsAmong Try.f15.resultTypes.toList) = true := by kernel_rfl
theorem subGroups_k16 : (Rows.subGroupsRow.loops == (Try.f15.params.toList ++ Rows.subGroupsSpec.plain.varTypes Try.prog).any (Try.prog.loopsFrom ·)) = true := by kernel_rfl
theorem subGroups_k17 : (Rows.subGroupsRow.wideKeys == (Try.f15.params.toList ++ Rows.subGroupsSpec.plain.varTypes Try.prog ++ Try.f15.resultTypes.toList).any (Try.prog.wideKeysFrom ·)) = true := by kernel_rfl
theorem subGroups_k18 : Rows.subGroupsSpec.vars.all (Try.prog.varReadable ·) = true := by kernel_rfl
theorem subGroups_k19 : Try.f15.resultTypes.all (fun t => Try.prog.readableRec t && decide (t < Try.prog.types.size)) = true := by kernel_rfl
theorem subGroups_k20 : (Rows.subGroupsRow.ifacesOut == Try.f15.resultTypes.toList.any (Try.prog.ifacesRec ·)) = true := by kernel_rfl
theorem subGroups_k21 : (Rows.subGroupsRow.loopsOut == Try.f15.resultTypes.toList.any (Try.prog.loopsFrom ·)) = true := by kernel_rfl
theorem subGroups_k22 : (Rows.subGroupsRow.plainKeys == Try.prog.plainKeys) = true := by kernel_rfl
theorem subGroups_k23 : Rows.subGroupsRow.shortTexts.isNone = true := by kernel_rfl
theorem subGroups_k24 : Try.prog.stopsHeard = true := by kernel_rfl
theorem subGroups_k25 : Try.prog.mayEnter = true := sk25
theorem subGroups_k26 : (Rows.subGroupsRow.lifted == Try.prog.liftsFinal) = true := (congrArg (· == Try.prog.liftsFinal) (show Rows.subGroupsRow.lifted = Rows.millerNoneRow.lifted by kernel_rfl)).trans sk26
theorem subGroups_k27 : (Try.prog.make == some Rows.subGroupsRow.make) = true := (congrArg (fun m => Try.prog.make == some m) (show Rows.subGroupsRow.make = Rows.millerNoneRow.make by kernel_rfl)).trans sk27
theorem subGroups_k28 : (Rows.subGroupsRow.kinds == (if Rows.subGroupsRow.domain.isEmpty then [] else Try.f15.params.toList.map fun t => match Try.prog.underlying t with | some (.int k) => some k | _ => none)) = true := by kernel_rfl
theorem subGroups_k29 : (Rows.subGroupsRow.pinned == Rows.subGroupsRow.pinnedBy) = true := by kernel_rfl
theorem subGroups_k30 : (Rows.subGroupsRow.veiled == (Try.f15.params.toList ++ Rows.subGroupsSpec.plain.varTypes Try.prog ++ Try.f15.resultTypes.toList).any (Try.prog.veiledRec ·)) = true := by kernel_rfl
theorem subGroups_k31 : Rows.subGroupsRow.veiledFits Try.prog Try.f15.params.toList (Try.f15.params.toList ++ Rows.subGroupsSpec.plain.varTypes Try.prog ++ Try.f15.resultTypes.toList) = true := by kernel_rfl
set_option maxRecDepth 100000 in
theorem subGroups_join : joinedFacts Try.prog 15 Try.f15 Rows.subGroupsSpec Rows.subGroupsRow = true := joined_mk subGroups_k0 subGroups_k1 subGroups_k2 subGroups_k3 subGroups_k4 subGroups_k5 subGroups_k6 subGroups_k7 subGroups_k8 subGroups_k9 subGroups_k10 subGroups_k11 subGroups_k12 subGroups_k13 subGroups_k14 subGroups_k15 subGroups_k16 subGroups_k17 subGroups_k18 subGroups_k19 subGroups_k20 subGroups_k21 subGroups_k22 subGroups_k23 subGroups_k24 subGroups_k25 subGroups_k26 subGroups_k27 subGroups_k28 subGroups_k29 subGroups_k30 subGroups_k31
theorem subGroups_named : Try.prog.funcNamed Rows.subGroupsRow.func = some 15 := by kernel_rfl
theorem subGroups_wrap : Try.f15.isWrapper Try.prog Rows.subGroupsRow.wrapper Rows.subGroupsRow.mainSum := by unfold Func.isWrapper; first | (rw [if_pos (by decide +kernel)]; kernel_rfl) | (rw [if_neg (by decide +kernel)]; exact ⟨rfl, rfl⟩)
theorem subGroups_over : Rows.subGroupsRow.holds Try.pinned (OpenSpec.ofChange Rows.subGroupsSpec) :=
  OpenClaim.holds_of_wide 15 Try.f15 rfl rfl rfl rfl rfl rfl rfl ⟨rfl, rfl, rfl, rfl, rfl⟩ rfl rfl rfl rfl rfl subGroups_named Try.func15 subGroups_join
    (of_decide_eq_true (by kernel_rfl)) subGroups_wrap
    (fun os started H enc _ => subGroups_lifted os started H enc)

/-- The statement. -/
theorem subGroups_holds : Rows.SubGroupsSaid := subGroups_over
#print axioms subGroups_holds
end Go.Proofs.Ytmebkhfdhbjacaa
