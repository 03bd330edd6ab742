/-
  MillerLines: for every input the call returns true, and each argument reads behind it as before. No condition.
-/
import Derived.Test.YtmebkhfdhbjacaaRows
import Derived.Test.YtmebkhfdhbjacaaSay
import Derived.Test.YtmebkhfdhbjacaaJoin
import Derived.Test.YtmebkhfdhbjacaaK
import Derived.Test.YtmebkhfdhbjacaaLaM15
import Derived.ProofKit
import Derived.OpenShut
namespace Go.Proofs.Ytmebkhfdhbjacaa
open Go Go.Eng Go.RowKit Go.ChangeShapes Go.WideShapes Go.ChangeAt
set_option linter.unusedVariables false

set_option maxRecDepth 100000 in
theorem millerLines_lifted (os : Os) (started : os.Started) (H : Type) (enc : TypeId × Value → H) :
    ReturnsInHanded {} Try.checked os 10 .any (Rows.millerLinesSpec.pre6 enc Try.prog Try.f10 Rows.millerLinesRow.domain false) (Rows.millerLinesSpec.post enc Try.prog Try.f10 false true false false) := by
  refine lifted_any (C := Try.checked) say_own started (by kernel_rfl) Try.func10
    (ChangeSpec.witness6 (enc := enc) (C := Try.checked) false ⟨#[], #[.agg (Array.replicate 12 (.int .u64 0)), .agg (Array.replicate 12 (.int .u64 0)), .agg ((Array.replicate 24 (.int .u64 0)).push (.bool false)), .agg ((Array.replicate 12 (.int .u64 0)).push (.bool false))], []⟩ 8 (by kernel_rfl) (by kernel_rfl) (by kernel_rfl) (by kernel_rfl))
    say_laid (by kernel_rfl) rfl (tb := 4) (by kernel_rfl) (by kernel_rfl) (fun ds hd => ?_) ?_
  · rw [Try.params10] at hd
    match ds, hd with
    | [d0, d1, d2, d3], _ => exact ⟨rfl, rfl, rfl⟩
  · intro W base args ds ps hval hA hlt
    rw [Try.params10] at hA hval
    obtain ⟨v0, vs0, d0, ds0, p0, q0, hargs, rfl, rfl, h0, r0⟩ := trodAll_cons hA
    obtain ⟨v1, vs1, d1, ds1, p1, q1, rfl, rfl, rfl, h1, r1⟩ := trodAll_cons r0
    obtain ⟨v2, vs2, d2, ds2, p2, q2, rfl, rfl, rfl, h2, r2⟩ := trodAll_cons r1
    obtain ⟨v3, vs3, d3, ds3, p3, q3, rfl, rfl, rfl, h3, r3⟩ := trodAll_cons r2
    obtain ⟨rfl, rfl, rfl⟩ := trodAll_nil r3
    obtain rfl : args = #[v0, v1, v2, v3] := by cases args; simp_all
    obtain ⟨a0, s0, rfl⟩ := open_nm (A := N2) (by kernel_rfl) (by kernel_rfl) (by kernel_rfl) (hval 0 26 v0 rfl rfl) h0
    obtain ⟨a1, s1, rfl⟩ := open_nm (A := N2) (by kernel_rfl) (by kernel_rfl) (by kernel_rfl) (hval 1 26 v1 rfl rfl) h1
    obtain ⟨a2, s2, rfl⟩ := open_pt (A := A2) (by kernel_rfl) (by kernel_rfl) (by kernel_rfl) (hval 2 41 v2 rfl rfl) h2
    obtain ⟨a3, s3, rfl⟩ := open_pt (A := A1) (by kernel_rfl) (by kernel_rfl) (by kernel_rfl) (hval 3 56 v3 rfl rfl) h3
    exact millerLines_gives a0 s0 a1 s1 a2 s2 a3 s3 W

theorem millerLines_k0 : Rows.millerLinesRow.wf (OpenSpec.ofChange Rows.millerLinesSpec) = true := by kernel_rfl
theorem millerLines_k1 : laidOutB Try.prog = true := by kernel_rfl
theorem millerLines_k2 : mapsRowed Try.prog = true := by kernel_rfl
theorem millerLines_k3 : Try.f10.params.all (Try.prog.readableRec ·) = true := by kernel_rfl
theorem millerLines_k4 : namedTie Try.prog Rows.millerLinesRow.named Rows.millerLinesSpec.vars = true := by kernel_rfl
theorem millerLines_k5 : (Rows.millerLinesRow.stops == []) = true := by kernel_rfl
theorem millerLines_k6 : (Try.prog.stops == []) = true := by kernel_rfl
theorem millerLines_k7 : (Rows.millerLinesRow.knobs == []) = true := by kernel_rfl
theorem millerLines_k8 : (Try.prog.stopKnobs == []) = true := by kernel_rfl
theorem millerLines_k9 : (Rows.millerLinesRow.inPlace == Try.prog.inPlace 10) = true := by kernel_rfl
theorem millerLines_k10 : (Rows.millerLinesRow.unfollowed == Try.prog.unfollowed 10) = true := by kernel_rfl
theorem millerLines_k11 : (Rows.millerLinesRow.recurses == Try.prog.recurses 10) = true := by kernel_rfl
theorem millerLines_k12 : (Rows.millerLinesRow.named == Try.prog.varsNamed 10) = true := by kernel_rfl
theorem millerLines_k13 : (Rows.millerLinesRow.maps == (Try.f10.params.toList ++ Rows.millerLinesSpec.plain.varTypes Try.prog).any (Try.prog.mapsRec ·)) = true := by kernel_rfl
theorem millerLines_k14 : (Rows.millerLinesRow.ifaces == (Try.f10.params.toList ++ Rows.millerLinesSpec.plain.varTypes Try.prog).any (Try.prog.ifacesRec ·)) = true := by kernel_rfl
theorem millerLines_k15 : (Rows.millerLinesRow.mapsOut == Try.prog.mapsAmong Try.f10.resultTypes.toList) = true := by kernel_rfl
theorem millerLines_k16 : (Rows.millerLinesRow.loops == (Try.f10.params.toList ++ Rows.millerLinesSpec.plain.varTypes Try.prog).any (Try.prog.loopsFrom ·)) = true := by kernel_rfl
theorem millerLines_k17 : (Rows.millerLinesRow.wideKeys == (Try.f10.params.toList ++ Rows.millerLinesSpec.plain.varTypes Try.prog ++ Try.f10.resultTypes.toList).any (Try.prog.wideKeysFrom ·)) = true := by kernel_rfl
theorem millerLines_k18 : Rows.millerLinesSpec.vars.all (Try.prog.varReadable ·) = true := by kernel_rfl
theorem millerLines_k19 : Try.f10.resultTypes.all (fun t => Try.prog.readableRec t && decide (t < Try.prog.types.size)) = true := by kernel_rfl
theorem millerLines_k20 : (Rows.millerLinesRow.ifacesOut == Try.f10.resultTypes.toList.any (Try.prog.ifacesRec ·)) = true := by kernel_rfl
theorem millerLines_k21 : (Rows.millerLinesRow.loopsOut == Try.f10.resultTypes.toList.any (Try.prog.loopsFrom ·)) = true := by kernel_rfl
theorem millerLines_k22 : (Rows.millerLinesRow.plainKeys == Try.prog.plainKeys) = true := by kernel_rfl
theorem millerLines_k23 : Rows.millerLinesRow.shortTexts.isNone = true := by kernel_rfl
theorem millerLines_k24 : Try.prog.stopsHeard = true := by kernel_rfl
theorem millerLines_k25 : Try.prog.mayEnter = true := sk25
theorem millerLines_k26 : (Rows.millerLinesRow.lifted == Try.prog.liftsFinal) = true := (congrArg (· == Try.prog.liftsFinal) (show Rows.millerLinesRow.lifted = Rows.millerNoneRow.lifted by kernel_rfl)).trans sk26
theorem millerLines_k27 : (Try.prog.make == some Rows.millerLinesRow.make) = true := (congrArg (fun m => Try.prog.make == some m) (show Rows.millerLinesRow.make = Rows.millerNoneRow.make by kernel_rfl)).trans sk27
theorem millerLines_k28 : (Rows.millerLinesRow.kinds == (if Rows.millerLinesRow.domain.isEmpty then [] else Try.f10.params.toList.map fun t => match Try.prog.underlying t with | some (.int k) => some k | _ => none)) = true := by kernel_rfl
theorem millerLines_k29 : (Rows.millerLinesRow.pinned == Rows.millerLinesRow.pinnedBy) = true := by kernel_rfl
theorem millerLines_k30 : (Rows.millerLinesRow.veiled == (Try.f10.params.toList ++ Rows.millerLinesSpec.plain.varTypes Try.prog ++ Try.f10.resultTypes.toList).any (Try.prog.veiledRec ·)) = true := by kernel_rfl
theorem millerLines_k31 : Rows.millerLinesRow.veiledFits Try.prog Try.f10.params.toList (Try.f10.params.toList ++ Rows.millerLinesSpec.plain.varTypes Try.prog ++ Try.f10.resultTypes.toList) = true := by kernel_rfl
set_option maxRecDepth 100000 in
theorem millerLines_join : joinedFacts Try.prog 10 Try.f10 Rows.millerLinesSpec Rows.millerLinesRow = true := joined_mk millerLines_k0 millerLines_k1 millerLines_k2 millerLines_k3 millerLines_k4 millerLines_k5 millerLines_k6 millerLines_k7 millerLines_k8 millerLines_k9 millerLines_k10 millerLines_k11 millerLines_k12 millerLines_k13 millerLines_k14 millerLines_k15 millerLines_k16 millerLines_k17 millerLines_k18 millerLines_k19 millerLines_k20 millerLines_k21 millerLines_k22 millerLines_k23 millerLines_k24 millerLines_k25 millerLines_k26 millerLines_k27 millerLines_k28 millerLines_k29 millerLines_k30 millerLines_k31
theorem millerLines_named : Try.prog.funcNamed Rows.millerLinesRow.func = some 10 := by kernel_rfl
theorem millerLines_wrap : Try.f10.isWrapper Try.prog Rows.millerLinesRow.wrapper Rows.millerLinesRow.mainSum := by unfold Func.isWrapper; first | (rw [if_pos (by decide +kernel)]; kernel_rfl) | (rw [if_neg (by decide +kernel)]; exact ⟨rfl, rfl⟩)
theorem millerLines_over : Rows.millerLinesRow.holds Try.pinned (OpenSpec.ofChange Rows.millerLinesSpec) :=
  OpenClaim.holds_of_wide 10 Try.f10 rfl rfl rfl rfl rfl rfl rfl ⟨rfl, rfl, rfl, rfl, rfl⟩ rfl rfl rfl rfl rfl millerLines_named Try.func10 millerLines_join
    (of_decide_eq_true (by kernel_rfl)) millerLines_wrap
    (fun os started H enc _ => millerLines_lifted os started H enc)

/-- The statement. -/
theorem millerLines_holds : Rows.MillerLinesSaid := millerLines_over
#print axioms millerLines_holds
end Go.Proofs.Ytmebkhfdhbjacaa
