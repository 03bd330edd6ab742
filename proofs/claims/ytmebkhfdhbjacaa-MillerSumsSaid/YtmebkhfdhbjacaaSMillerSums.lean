/-
  MillerSums: for every input the call returns true, and each argument reads behind it as before. No condition.
-/
import Derived.Test.YtmebkhfdhbjacaaRows
import Derived.Test.YtmebkhfdhbjacaaSay
import Derived.Test.YtmebkhfdhbjacaaJoin
import Derived.Test.YtmebkhfdhbjacaaK
import Derived.Test.YtmebkhfdhbjacaaLaM15
import Derived.ProofKit
import Derived.OpenShut
namespace Go.Proofs.Ytmebkhfdhbjacaa
open Go Go.Eng Go.RowKit Go.ChangeShapes Go.WideShapes Go.ChangeAt
set_option linter.unusedVariables false

set_option maxRecDepth 100000 in
theorem millerSums_lifted (os : Os) (started : os.Started) (H : Type) (enc : TypeId × Value → H) :
    ReturnsInHanded {} Try.checked os 7 .any (Rows.millerSumsSpec.pre6 enc Try.prog Try.f7 Rows.millerSumsRow.domain false) (Rows.millerSumsSpec.post enc Try.prog Try.f7 false true false false) := by
  refine lifted_any (C := Try.checked) say_own started (by kernel_rfl) Try.func7
    (ChangeSpec.witness6 (enc := enc) (C := Try.checked) false ⟨#[], #[.agg ((Array.replicate 24 (.int .u64 0)).push (.bool false)), .agg ((Array.replicate 24 (.int .u64 0)).push (.bool false)), .agg ((Array.replicate 12 (.int .u64 0)).push (.bool false))], []⟩ 8 (by kernel_rfl) (by kernel_rfl) (by kernel_rfl) (by kernel_rfl))
    say_laid (by kernel_rfl) rfl (tb := 4) (by kernel_rfl) (by kernel_rfl) (fun ds hd => ?_) ?_
  · rw [Try.params7] at hd
    match ds, hd with
    | [d0, d1, d2], _ => exact ⟨rfl, rfl, rfl⟩
  · intro W base args ds ps hval hA hlt
    rw [Try.params7] at hA hval
    obtain ⟨v0, vs0, d0, ds0, p0, q0, hargs, rfl, rfl, h0, r0⟩ := trodAll_cons hA
    obtain ⟨v1, vs1, d1, ds1, p1, q1, rfl, rfl, rfl, h1, r1⟩ := trodAll_cons r0
    obtain ⟨v2, vs2, d2, ds2, p2, q2, rfl, rfl, rfl, h2, r2⟩ := trodAll_cons r1
    obtain ⟨rfl, rfl, rfl⟩ := trodAll_nil r2
    obtain rfl : args = #[v0, v1, v2] := by cases args; simp_all
    obtain ⟨a0, s0, rfl⟩ := open_pt (A := A2) (by kernel_rfl) (by kernel_rfl) (by kernel_rfl) (hval 0 41 v0 rfl rfl) h0
    obtain ⟨a1, s1, rfl⟩ := open_pt (A := A2) (by kernel_rfl) (by kernel_rfl) (by kernel_rfl) (hval 1 41 v1 rfl rfl) h1
    obtain ⟨a2, s2, rfl⟩ := open_pt (A := A1) (by kernel_rfl) (by kernel_rfl) (by kernel_rfl) (hval 2 56 v2 rfl rfl) h2
    exact millerSums_gives a0 s0 a1 s1 a2 s2 W

theorem millerSums_k0 : Rows.millerSumsRow.wf (OpenSpec.ofChange Rows.millerSumsSpec) = true := by kernel_rfl
theorem millerSums_k1 : laidOutB Try.prog = true := by kernel_rfl
theorem millerSums_k2 : mapsRowed Try.prog = true := by kernel_rfl
theorem millerSums_k3 : Try.f7.params.all (Try.prog.readableRec ·) = true := by kernel_rfl
theorem millerSums_k4 : namedTie Try.prog Rows.millerSumsRow.named Rows.millerSumsSpec.vars = true := by kernel_rfl
theorem millerSums_k5 : (Rows.millerSumsRow.stops == []) = true := by kernel_rfl
theorem millerSums_k6 : (Try.prog.stops == []) = true := by kernel_rfl
theorem millerSums_k7 : (Rows.millerSumsRow.knobs == []) = true := by kernel_rfl
theorem millerSums_k8 : (Try.prog.stopKnobs == []) = true := by kernel_rfl
theorem millerSums_k9 : (Rows.millerSumsRow.inPlace == Try.prog.inPlace 7) = true := by kernel_rfl
theorem millerSums_k10 : (Rows.millerSumsRow.unfollowed == Try.prog.unfollowed 7) = true := by kernel_rfl
theorem millerSums_k11 : (Rows.millerSumsRow.recurses == Try.prog.recurses 7) = true := by kernel_rfl
theorem millerSums_k12 : (Rows.millerSumsRow.named == Try.prog.varsNamed 7) = true := by kernel_rfl
theorem millerSums_k13 : (Rows.millerSumsRow.maps == (Try.f7.params.toList ++ Rows.millerSumsSpec.plain.varTypes Try.prog).any (Try.prog.mapsRec ·)) = true := by kernel_rfl
theorem millerSums_k14 : (Rows.millerSumsRow.ifaces == (Try.f7.params.toList ++ Rows.millerSumsSpec.plain.varTypes Try.prog).any (Try.prog.ifacesRec ·)) = true := by kernel_rfl
theorem millerSums_k15 : (Rows.millerSumsRow.mapsOut == Try.prog.mapsAmong Try.f7.resultTypes.toList) = true := by kernel_rfl
theorem millerSums_k16 : (Rows.millerSumsRow.loops == (Try.f7.params.toList ++ Rows.millerSumsSpec.plain.varTypes Try.prog).any (Try.prog.loopsFrom ·)) = true := by kernel_rfl
theorem millerSums_k17 : (Rows.millerSumsRow.wideKeys == (Try.f7.params.toList ++ Rows.millerSumsSpec.plain.varTypes Try.prog ++ Try.f7.resultTypes.toList).any (Try.prog.wideKeysFrom ·)) = true := by kernel_rfl
theorem millerSums_k18 : Rows.millerSumsSpec.vars.all (Try.prog.varReadable ·) = true := by kernel_rfl
theorem millerSums_k19 : Try.f7.resultTypes.all (fun t => Try.prog.readableRec t && decide (t < Try.prog.types.size)) = true := by kernel_rfl
theorem millerSums_k20 : (Rows.millerSumsRow.ifacesOut == Try.f7.resultTypes.toList.any (Try.prog.ifacesRec ·)) = true := by kernel_rfl
theorem millerSums_k21 : (Rows.millerSumsRow.loopsOut == Try.f7.resultTypes.toList.any (Try.prog.loopsFrom ·)) = true := by kernel_rfl
theorem millerSums_k22 : (Rows.millerSumsRow.plainKeys == Try.prog.plainKeys) = true := by kernel_rfl
theorem millerSums_k23 : Rows.millerSumsRow.shortTexts.isNone = true := by kernel_rfl
theorem millerSums_k24 : Try.prog.stopsHeard = true := by kernel_rfl
theorem millerSums_k25 : Try.prog.mayEnter = true := sk25
theorem millerSums_k26 : (Rows.millerSumsRow.lifted == Try.prog.liftsFinal) = true := (congrArg (· == Try.prog.liftsFinal) (show Rows.millerSumsRow.lifted = Rows.millerNoneRow.lifted by kernel_rfl)).trans sk26
theorem millerSums_k27 : (Try.prog.make == some Rows.millerSumsRow.make) = true := (congrArg (fun m => Try.prog.make == some m) (show Rows.millerSumsRow.make = Rows.millerNoneRow.make by kernel_rfl)).trans sk27
theorem millerSums_k28 : (Rows.millerSumsRow.kinds == (if Rows.millerSumsRow.domain.isEmpty then [] else Try.f7.params.toList.map fun t => match Try.prog.underlying t with | some (.int k) => some k | _ => none)) = true := by kernel_rfl
theorem millerSums_k29 : (Rows.millerSumsRow.pinned == Rows.millerSumsRow.pinnedBy) = true := by kernel_rfl
theorem millerSums_k30 : (Rows.millerSumsRow.veiled == (Try.f7.params.toList ++ Rows.millerSumsSpec.plain.varTypes Try.prog ++ Try.f7.resultTypes.toList).any (Try.prog.veiledRec ·)) = true := by kernel_rfl
theorem millerSums_k31 : Rows.millerSumsRow.veiledFits Try.prog Try.f7.params.toList (Try.f7.params.toList ++ Rows.millerSumsSpec.plain.varTypes Try.prog ++ Try.f7.resultTypes.toList) = true := by kernel_rfl
set_option maxRecDepth 100000 in
theorem millerSums_join : joinedFacts Try.prog 7 Try.f7 Rows.millerSumsSpec Rows.millerSumsRow = true := joined_mk millerSums_k0 millerSums_k1 millerSums_k2 millerSums_k3 millerSums_k4 millerSums_k5 millerSums_k6 millerSums_k7 millerSums_k8 millerSums_k9 millerSums_k10 millerSums_k11 millerSums_k12 millerSums_k13 millerSums_k14 millerSums_k15 millerSums_k16 millerSums_k17 millerSums_k18 millerSums_k19 millerSums_k20 millerSums_k21 millerSums_k22 millerSums_k23 millerSums_k24 millerSums_k25 millerSums_k26 millerSums_k27 millerSums_k28 millerSums_k29 millerSums_k30 millerSums_k31
theorem millerSums_named : Try.prog.funcNamed Rows.millerSumsRow.func = some 7 := by kernel_rfl
theorem millerSums_wrap : Try.f7.isWrapper Try.prog Rows.millerSumsRow.wrapper Rows.millerSumsRow.mainSum := by unfold Func.isWrapper; first | (rw [if_pos (by decide +kernel)]; kernel_rfl) | (rw [if_neg (by decide +kernel)]; exact ⟨rfl, rfl⟩)
theorem millerSums_over : Rows.millerSumsRow.holds Try.pinned (OpenSpec.ofChange Rows.millerSumsSpec) :=
  OpenClaim.holds_of_wide 7 Try.f7 rfl rfl rfl rfl rfl rfl rfl ⟨rfl, rfl, rfl, rfl, rfl⟩ rfl rfl rfl rfl rfl millerSums_named Try.func7 millerSums_join
    (of_decide_eq_true (by kernel_rfl)) millerSums_wrap
    (fun os started H enc _ => millerSums_lifted os started H enc)

/-- The statement. -/
theorem millerSums_holds : Rows.MillerSumsSaid := millerSums_over
#print axioms millerSums_holds
end Go.Proofs.Ytmebkhfdhbjacaa
