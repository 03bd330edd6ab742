/-
  MillerThrough: for every input the call returns true, and each argument reads behind it as before. No condition.
-/
import Derived.Test.YtmebkhfdhbjacaaRows
import Derived.Test.YtmebkhfdhbjacaaSay
import Derived.Test.YtmebkhfdhbjacaaJoin
import Derived.Test.YtmebkhfdhbjacaaK
import Derived.Test.YtmebkhfdhbjacaaLaM15
import Derived.ProofKit
import Derived.OpenShut
namespace Go.Proofs.Ytmebkhfdhbjacaa
open Go Go.Eng Go.RowKit Go.ChangeShapes Go.WideShapes Go.ChangeAt
set_option linter.unusedVariables false

set_option maxRecDepth 100000 in
theorem millerThrough_lifted (os : Os) (started : os.Started) (H : Type) (enc : TypeId × Value → H) :
    ReturnsInHanded {} Try.checked os 8 .any (Rows.millerThroughSpec.pre6 enc Try.prog Try.f8 Rows.millerThroughRow.domain false) (Rows.millerThroughSpec.post enc Try.prog Try.f8 false true false false) := by
  refine lifted_any (C := Try.checked) say_own started (by kernel_rfl) Try.func8
    (ChangeSpec.witness6 (enc := enc) (C := Try.checked) false ⟨#[], #[.agg ((Array.replicate 24 (.int .u64 0)).push (.bool false)), .agg ((Array.replicate 24 (.int .u64 0)).push (.bool false)), .agg ((Array.replicate 12 (.int .u64 0)).push (.bool false))], []⟩ 8 (by kernel_rfl) (by kernel_rfl) (by kernel_rfl) (by kernel_rfl))
    say_laid (by kernel_rfl) rfl (tb := 4) (by kernel_rfl) (by kernel_rfl) (fun ds hd => ?_) ?_
  · rw [Try.params8] at hd
    match ds, hd with
    | [d0, d1, d2], _ => exact ⟨rfl, rfl, rfl⟩
  · intro W base args ds ps hval hA hlt
    rw [Try.params8] at hA hval
    obtain ⟨v0, vs0, d0, ds0, p0, q0, hargs, rfl, rfl, h0, r0⟩ := trodAll_cons hA
    obtain ⟨v1, vs1, d1, ds1, p1, q1, rfl, rfl, rfl, h1, r1⟩ := trodAll_cons r0
    obtain ⟨v2, vs2, d2, ds2, p2, q2, rfl, rfl, rfl, h2, r2⟩ := trodAll_cons r1
    obtain ⟨rfl, rfl, rfl⟩ := trodAll_nil r2
    obtain rfl : args = #[v0, v1, v2] := by cases args; simp_all
    obtain ⟨a0, s0, rfl⟩ := open_pt (A := A2) (by kernel_rfl) (by kernel_rfl) (by kernel_rfl) (hval 0 41 v0 rfl rfl) h0
    obtain ⟨a1, s1, rfl⟩ := open_pt (A := A2) (by kernel_rfl) (by kernel_rfl) (by kernel_rfl) (hval 1 41 v1 rfl rfl) h1
    obtain ⟨a2, s2, rfl⟩ := open_pt (A := A1) (by kernel_rfl) (by kernel_rfl) (by kernel_rfl) (hval 2 56 v2 rfl rfl) h2
    exact millerThrough_gives a0 s0 a1 s1 a2 s2 W

theorem millerThrough_k0 : Rows.millerThroughRow.wf (OpenSpec.ofChange Rows.millerThroughSpec) = true := by kernel_rfl
theorem millerThrough_k1 : laidOutB Try.prog = true := by kernel_rfl
theorem millerThrough_k2 : mapsRowed Try.prog = true := by kernel_rfl
theorem millerThrough_k3 : Try.f8.params.all (Try.prog.readableRec ·) = true := by kernel_rfl
theorem millerThrough_k4 : namedTie Try.prog Rows.millerThroughRow.named Rows.millerThroughSpec.vars = true := by kernel_rfl
theorem millerThrough_k5 : (Rows.millerThroughRow.stops == []) = true := by kernel_rfl
theorem millerThrough_k6 : (Try.prog.stops == []) = true := by kernel_rfl
theorem millerThrough_k7 : (Rows.millerThroughRow.knobs == []) = true := by kernel_rfl
theorem millerThrough_k8 : (Try.prog.stopKnobs == []) = true := by kernel_rfl
theorem millerThrough_k9 : (Rows.millerThroughRow.inPlace == Try.prog.inPlace 8) = true := by kernel_rfl
theorem millerThrough_k10 : (Rows.millerThroughRow.unfollowed == Try.prog.unfollowed 8) = true := by kernel_rfl
theorem millerThrough_k11 : (Rows.millerThroughRow.recurses == Try.prog.recurses 8) = true := by kernel_rfl
theorem millerThrough_k12 : (Rows.millerThroughRow.named == Try.prog.varsNamed 8) = true := by kernel_rfl
theorem millerThrough_k13 : (Rows.millerThroughRow.maps == (Try.f8.params.toList ++ Rows.millerThroughSpec.plain.varTypes Try.prog).any (Try.prog.mapsRec ·)) = true := by kernel_rfl
theorem millerThrough_k14 : (Rows.millerThroughRow.ifaces == (Try.f8.params.toList ++ Rows.millerThroughSpec.plain.varTypes Try.prog).any (Try.prog.ifacesRec ·)) = true := by kernel_rfl
theorem millerThrough_k15 : (Rows.millerThroughRow.mapsOut == Try.prog.mapsAmong Try.f8.resultTypes.toList) = true := by kernel_rfl
theorem millerThrough_k16 : (Rows.millerThroughRow.loops == (Try.f8.params.toList ++ Rows.millerThroughSpec.plain.varTypes Try.prog).any (Try.prog.loopsFrom ·)) = true := by kernel_rfl
theorem millerThrough_k17 : (Rows.millerThroughRow.wideKeys == (Try.f8.params.toList ++ Rows.millerThroughSpec.plain.varTypes Try.prog ++ Try.f8.resultTypes.toList).any (Try.prog.wideKeysFrom ·)) = true := by kernel_rfl
theorem millerThrough_k18 : Rows.millerThroughSpec.vars.all (Try.prog.varReadable ·) = true := by kernel_rfl
theorem millerThrough_k19 : Try.f8.resultTypes.all (fun t => Try.prog.readableRec t && decide (t < Try.prog.types.size)) = true := by kernel_rfl
theorem millerThrough_k20 : (Rows.millerThroughRow.ifacesOut == Try.f8.resultTypes.toList.any (Try.prog.ifacesRec ·)) = true := by kernel_rfl
theorem millerThrough_k21 : (Rows.millerThroughRow.loopsOut == Try.f8.resultTypes.toList.any (Try.prog.loopsFrom ·)) = true := by kernel_rfl
theorem millerThrough_k22 : (Rows.millerThroughRow.plainKeys == Try.prog.plainKeys) = true := by kernel_rfl
theorem millerThrough_k23 : Rows.millerThroughRow.shortTexts.isNone = true := by kernel_rfl
theorem millerThrough_k24 : Try.prog.stopsHeard = true := by kernel_rfl
theorem millerThrough_k25 : Try.prog.mayEnter = true := sk25
theorem millerThrough_k26 : (Rows.millerThroughRow.lifted == Try.prog.liftsFinal) = true := (congrArg (· == Try.prog.liftsFinal) (show Rows.millerThroughRow.lifted = Rows.millerNoneRow.lifted by kernel_rfl)).trans sk26
theorem millerThrough_k27 : (Try.prog.make == some Rows.millerThroughRow.make) = true := (congrArg (fun m => Try.prog.make == some m) (show Rows.millerThroughRow.make = Rows.millerNoneRow.make by kernel_rfl)).trans sk27
theorem millerThrough_k28 : (Rows.millerThroughRow.kinds == (if Rows.millerThroughRow.domain.isEmpty then [] else Try.f8.params.toList.map fun t => match Try.prog.underlying t with | some (.int k) => some k | _ => none)) = true := by kernel_rfl
theorem millerThrough_k29 : (Rows.millerThroughRow.pinned == Rows.millerThroughRow.pinnedBy) = true := by kernel_rfl
theorem millerThrough_k30 : (Rows.millerThroughRow.veiled == (Try.f8.params.toList ++ Rows.millerThroughSpec.plain.varTypes Try.prog ++ Try.f8.resultTypes.toList).any (Try.prog.veiledRec ·)) = true := by kernel_rfl
theorem millerThrough_k31 : Rows.millerThroughRow.veiledFits Try.prog Try.f8.params.toList (Try.f8.params.toList ++ Rows.millerThroughSpec.plain.varTypes Try.prog ++ Try.f8.resultTypes.toList) = true := by kernel_rfl
set_option maxRecDepth 100000 in
theorem millerThrough_join : joinedFacts Try.prog 8 Try.f8 Rows.millerThroughSpec Rows.millerThroughRow = true := joined_mk millerThrough_k0 millerThrough_k1 millerThrough_k2 millerThrough_k3 millerThrough_k4 millerThrough_k5 millerThrough_k6 millerThrough_k7 millerThrough_k8 millerThrough_k9 millerThrough_k10 millerThrough_k11 millerThrough_k12 millerThrough_k13 millerThrough_k14 millerThrough_k15 millerThrough_k16 millerThrough_k17 millerThrough_k18 millerThrough_k19 millerThrough_k20 millerThrough_k21 millerThrough_k22 millerThrough_k23 millerThrough_k24 millerThrough_k25 millerThrough_k26 millerThrough_k27 millerThrough_k28 millerThrough_k29 millerThrough_k30 millerThrough_k31
theorem millerThrough_named : Try.prog.funcNamed Rows.millerThroughRow.func = some 8 := by kernel_rfl
theorem millerThrough_wrap : Try.f8.isWrapper Try.prog Rows.millerThroughRow.wrapper Rows.millerThroughRow.mainSum := by unfold Func.isWrapper; first | (rw [if_pos (by decide +kernel)]; kernel_rfl) | (rw [if_neg (by decide +kernel)]; exact ⟨rfl, rfl⟩)
theorem millerThrough_over : Rows.millerThroughRow.holds Try.pinned (OpenSpec.ofChange Rows.millerThroughSpec) :=
  OpenClaim.holds_of_wide 8 Try.f8 rfl rfl rfl rfl rfl rfl rfl ⟨rfl, rfl, rfl, rfl, rfl⟩ rfl rfl rfl rfl rfl millerThrough_named Try.func8 millerThrough_join
    (of_decide_eq_true (by kernel_rfl)) millerThrough_wrap
    (fun os started H enc _ => millerThrough_lifted os started H enc)

/-- The statement. -/
theorem millerThrough_holds : Rows.MillerThroughSaid := millerThrough_over
#print axioms millerThrough_holds
end Go.Proofs.Ytmebkhfdhbjacaa
