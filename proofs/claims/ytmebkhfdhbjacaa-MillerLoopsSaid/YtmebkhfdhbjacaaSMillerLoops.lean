/-
  MillerLoops: for every input the call returns true, and each argument reads behind it as before. No condition.
-/
import Derived.Test.YtmebkhfdhbjacaaRows
import Derived.Test.YtmebkhfdhbjacaaSay
import Derived.Test.YtmebkhfdhbjacaaJoin
import Derived.Test.YtmebkhfdhbjacaaK
import Derived.Test.YtmebkhfdhbjacaaLaM15
import Derived.ProofKit
import Derived.OpenShut
namespace Go.Proofs.Ytmebkhfdhbjacaa
open Go Go.Eng Go.RowKit Go.ChangeShapes Go.WideShapes Go.ChangeAt
set_option linter.unusedVariables false

set_option maxRecDepth 100000 in
theorem millerLoops_lifted (os : Os) (started : os.Started) (H : Type) (enc : TypeId × Value → H) :
    ReturnsInHanded {} Try.checked os 14 .any (Rows.millerLoopsSpec.pre6 enc Try.prog Try.f14 Rows.millerLoopsRow.domain false) (Rows.millerLoopsSpec.post enc Try.prog Try.f14 false true false false) := by
  refine lifted_any (C := Try.checked) say_own started (by kernel_rfl) Try.func14
    (ChangeSpec.witness6 (enc := enc) (C := Try.checked) false ⟨#[], #[.agg ((Array.replicate 12 (.int .u64 0)).push (.bool false)), .agg ((Array.replicate 24 (.int .u64 0)).push (.bool false))], []⟩ 8 (by kernel_rfl) (by kernel_rfl) (by kernel_rfl) (by kernel_rfl))
    say_laid (by kernel_rfl) rfl (tb := 4) (by kernel_rfl) (by kernel_rfl) (fun ds hd => ?_) ?_
  · rw [Try.params14] at hd
    match ds, hd with
    | [d0, d1], _ => exact ⟨rfl, rfl, rfl⟩
  · intro W base args ds ps hval hA hlt
    rw [Try.params14] at hA hval
    obtain ⟨v0, vs0, d0, ds0, p0, q0, hargs, rfl, rfl, h0, r0⟩ := trodAll_cons hA
    obtain ⟨v1, vs1, d1, ds1, p1, q1, rfl, rfl, rfl, h1, r1⟩ := trodAll_cons r0
    obtain ⟨rfl, rfl, rfl⟩ := trodAll_nil r1
    obtain rfl : args = #[v0, v1] := by cases args; simp_all
    obtain ⟨a0, s0, rfl⟩ := open_pt (A := A1) (by kernel_rfl) (by kernel_rfl) (by kernel_rfl) (hval 0 56 v0 rfl rfl) h0
    obtain ⟨a1, s1, rfl⟩ := open_pt (A := A2) (by kernel_rfl) (by kernel_rfl) (by kernel_rfl) (hval 1 41 v1 rfl rfl) h1
    exact millerLoops_gives a0 s0 a1 s1 W

theorem millerLoops_k0 : Rows.millerLoopsRow.wf (OpenSpec.ofChange Rows.millerLoopsSpec) = true := by kernel_rfl
theorem millerLoops_k1 : laidOutB Try.prog = true := by kernel_rfl
theorem millerLoops_k2 : mapsRowed Try.prog = true := by kernel_rfl
theorem millerLoops_k3 : Try.f14.params.all (Try.prog.readableRec ·) = true := by kernel_rfl
theorem millerLoops_k4 : namedTie Try.prog Rows.millerLoopsRow.named Rows.millerLoopsSpec.vars = true := by kernel_rfl
theorem millerLoops_k5 : (Rows.millerLoopsRow.stops == []) = true := by kernel_rfl
theorem millerLoops_k6 : (Try.prog.stops == []) = true := by kernel_rfl
theorem millerLoops_k7 : (Rows.millerLoopsRow.knobs == []) = true := by kernel_rfl
theorem millerLoops_k8 : (Try.prog.stopKnobs == []) = true := by kernel_rfl
theorem millerLoops_k9 : (Rows.millerLoopsRow.inPlace == Try.prog.inPlace 14) = true := by kernel_rfl
theorem millerLoops_k10 : (Rows.millerLoopsRow.unfollowed == Try.prog.unfollowed 14) = true := by kernel_rfl
theorem millerLoops_k11 : (Rows.millerLoopsRow.recurses == Try.prog.recurses 14) = true := by kernel_rfl
theorem millerLoops_k12 : (Rows.millerLoopsRow.named == Try.prog.varsNamed 14) = true := by kernel_rfl
theorem millerLoops_k13 : (Rows.millerLoopsRow.maps == (Try.f14.params.toList ++ Rows.millerLoopsSpec.plain.varTypes Try.prog).any (Try.prog.mapsRec ·)) = true := by kernel_rfl
theorem millerLoops_k14 : (Rows.millerLoopsRow.ifaces == (Try.f14.params.toList ++ Rows.millerLoopsSpec.plain.varTypes Try.prog).any (Try.prog.ifacesRec ·)) = true := by kernel_rfl
theorem millerLoops_k15 : (Rows.millerLoopsRow.mapsOut == Try.prog.mapsAmong Try.f14.resultTypes.toList) = true := by kernel_rfl
theorem millerLoops_k16 : (Rows.millerLoopsRow.loops == (Try.f14.params.toList ++ Rows.millerLoopsSpec.plain.varTypes Try.prog).any (Try.prog.loopsFrom ·)) = true := by kernel_rfl
theorem millerLoops_k17 : (Rows.millerLoopsRow.wideKeys == (Try.f14.params.toList ++ Rows.millerLoopsSpec.plain.varTypes Try.prog ++ Try.f14.resultTypes.toList).any (Try.prog.wideKeysFrom ·)) = true := by kernel_rfl
theorem millerLoops_k18 : Rows.millerLoopsSpec.vars.all (Try.prog.varReadable ·) = true := by kernel_rfl
theorem millerLoops_k19 : Try.f14.resultTypes.all (fun t => Try.prog.readableRec t && decide (t < Try.prog.types.size)) = true := by kernel_rfl
theorem millerLoops_k20 : (Rows.millerLoopsRow.ifacesOut == Try.f14.resultTypes.toList.any (Try.prog.ifacesRec ·)) = true := by kernel_rfl
theorem millerLoops_k21 : (Rows.millerLoopsRow.loopsOut == Try.f14.resultTypes.toList.any (Try.prog.loopsFrom ·)) = true := by kernel_rfl
theorem millerLoops_k22 : (Rows.millerLoopsRow.plainKeys == Try.prog.plainKeys) = true := by kernel_rfl
theorem millerLoops_k23 : Rows.millerLoopsRow.shortTexts.isNone = true := by kernel_rfl
theorem millerLoops_k24 : Try.prog.stopsHeard = true := by kernel_rfl
theorem millerLoops_k25 : Try.prog.mayEnter = true := sk25
theorem millerLoops_k26 : (Rows.millerLoopsRow.lifted == Try.prog.liftsFinal) = true := (congrArg (· == Try.prog.liftsFinal) (show Rows.millerLoopsRow.lifted = Rows.millerNoneRow.lifted by kernel_rfl)).trans sk26
theorem millerLoops_k27 : (Try.prog.make == some Rows.millerLoopsRow.make) = true := (congrArg (fun m => Try.prog.make == some m) (show Rows.millerLoopsRow.make = Rows.millerNoneRow.make by kernel_rfl)).trans sk27
theorem millerLoops_k28 : (Rows.millerLoopsRow.kinds == (if Rows.millerLoopsRow.domain.isEmpty then [] else Try.f14.params.toList.map fun t => match Try.prog.underlying t with | some (.int k) => some k | _ => none)) = true := by kernel_rfl
theorem millerLoops_k29 : (Rows.millerLoopsRow.pinned == Rows.millerLoopsRow.pinnedBy) = true := by kernel_rfl
theorem millerLoops_k30 : (Rows.millerLoopsRow.veiled == (Try.f14.params.toList ++ Rows.millerLoopsSpec.plain.varTypes Try.prog ++ Try.f14.resultTypes.toList).any (Try.prog.veiledRec ·)) = true := by kernel_rfl
theorem millerLoops_k31 : Rows.millerLoopsRow.veiledFits Try.prog Try.f14.params.toList (Try.f14.params.toList ++ Rows.millerLoopsSpec.plain.varTypes Try.prog ++ Try.f14.resultTypes.toList) = true := by kernel_rfl
set_option maxRecDepth 100000 in
theorem millerLoops_join : joinedFacts Try.prog 14 Try.f14 Rows.millerLoopsSpec Rows.millerLoopsRow = true := joined_mk millerLoops_k0 millerLoops_k1 millerLoops_k2 millerLoops_k3 millerLoops_k4 millerLoops_k5 millerLoops_k6 millerLoops_k7 millerLoops_k8 millerLoops_k9 millerLoops_k10 millerLoops_k11 millerLoops_k12 millerLoops_k13 millerLoops_k14 millerLoops_k15 millerLoops_k16 millerLoops_k17 millerLoops_k18 millerLoops_k19 millerLoops_k20 millerLoops_k21 millerLoops_k22 millerLoops_k23 millerLoops_k24 millerLoops_k25 millerLoops_k26 millerLoops_k27 millerLoops_k28 millerLoops_k29 millerLoops_k30 millerLoops_k31
theorem millerLoops_named : Try.prog.funcNamed Rows.millerLoopsRow.func = some 14 := by kernel_rfl
theorem millerLoops_wrap : Try.f14.isWrapper Try.prog Rows.millerLoopsRow.wrapper Rows.millerLoopsRow.mainSum := by unfold Func.isWrapper; first | (rw [if_pos (by decide +kernel)]; kernel_rfl) | (rw [if_neg (by decide +kernel)]; exact ⟨rfl, rfl⟩)
theorem millerLoops_over : Rows.millerLoopsRow.holds Try.pinned (OpenSpec.ofChange Rows.millerLoopsSpec) :=
  OpenClaim.holds_of_wide 14 Try.f14 rfl rfl rfl rfl rfl rfl rfl ⟨rfl, rfl, rfl, rfl, rfl⟩ rfl rfl rfl rfl rfl millerLoops_named Try.func14 millerLoops_join
    (of_decide_eq_true (by kernel_rfl)) millerLoops_wrap
    (fun os started H enc _ => millerLoops_lifted os started H enc)

/-- The statement. -/
theorem millerLoops_holds : Rows.MillerLoopsSaid := millerLoops_over
#print axioms millerLoops_holds
end Go.Proofs.Ytmebkhfdhbjacaa
