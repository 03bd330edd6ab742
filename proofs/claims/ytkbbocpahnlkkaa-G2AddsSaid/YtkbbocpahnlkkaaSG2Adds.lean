/-
  G2Adds: for every input the call returns true, and each argument reads behind it as before. No condition.
-/
import Derived.Test.YtkbbocpahnlkkaaRows
import Derived.Test.YtkbbocpahnlkkaaSay
import Derived.Test.YtkbbocpahnlkkaaJoin
import Derived.Test.YtkbbocpahnlkkaaK
import Derived.Test.YtkbbocpahnlkkaaLaG13
import Derived.ProofKit
import Derived.OpenShut
namespace Go.Proofs.Ytkbbocpahnlkkaa
open Go Go.Eng Go.RowKit Go.ChangeShapes Go.WideShapes Go.ChangeAt
set_option linter.unusedVariables false

set_option maxRecDepth 100000 in
theorem g2Adds_lifted (os : Os) (started : os.Started) (H : Type) (enc : TypeId × Value → H) :
    ReturnsInHanded {} Try.checked os 17 .any (Rows.g2AddsSpec.pre6 enc Try.prog Try.f17 Rows.g2AddsRow.domain false) (Rows.g2AddsSpec.post enc Try.prog Try.f17 false true false false) := by
  refine lifted_any (C := Try.checked) say_own started (by kernel_rfl) Try.func17
    (ChangeSpec.witness6 (enc := enc) (C := Try.checked) false ⟨#[], #[.agg ((Array.replicate 24 (.int .u64 0)).push (.bool false)), .agg ((Array.replicate 24 (.int .u64 0)).push (.bool false))], []⟩ 8 (by kernel_rfl) (by kernel_rfl) (by kernel_rfl) (by kernel_rfl))
    say_laid (by kernel_rfl) rfl (tb := 4) (by kernel_rfl) (by kernel_rfl) (fun ds hd => ?_) ?_
  · rw [Try.params17] at hd
    match ds, hd with
    | [d0, d1], _ => exact ⟨rfl, rfl, rfl⟩
  · intro W base args ds ps hval hA hlt
    rw [Try.params17] at hA hval
    obtain ⟨v0, vs0, d0, ds0, p0, q0, hargs, rfl, rfl, h0, r0⟩ := trodAll_cons hA
    obtain ⟨v1, vs1, d1, ds1, p1, q1, rfl, rfl, rfl, h1, r1⟩ := trodAll_cons r0
    obtain ⟨rfl, rfl, rfl⟩ := trodAll_nil r1
    obtain rfl : args = #[v0, v1] := by cases args; simp_all
    obtain ⟨a0, s0, rfl⟩ := open_pt (A := A2) (by kernel_rfl) (by kernel_rfl) (by kernel_rfl) (hval 0 49 v0 rfl rfl) h0
    obtain ⟨a1, s1, rfl⟩ := open_pt (A := A2) (by kernel_rfl) (by kernel_rfl) (by kernel_rfl) (hval 1 49 v1 rfl rfl) h1
    exact g2Adds_gives a0 s0 a1 s1 W

theorem g2Adds_k0 : Rows.g2AddsRow.wf (OpenSpec.ofChange Rows.g2AddsSpec) = true := by kernel_rfl
theorem g2Adds_k1 : laidOutB Try.prog = true := by kernel_rfl
theorem g2Adds_k2 : mapsRowed Try.prog = true := by kernel_rfl
theorem g2Adds_k3 : Try.f17.params.all (Try.prog.readableRec ·) = true := by kernel_rfl
theorem g2Adds_k4 : namedTie Try.prog Rows.g2AddsRow.named Rows.g2AddsSpec.vars = true := by kernel_rfl
theorem g2Adds_k5 : (Rows.g2AddsRow.stops == []) = true := by kernel_rfl
theorem g2Adds_k6 : (Try.prog.stops == []) = true := by kernel_rfl
theorem g2Adds_k7 : (Rows.g2AddsRow.knobs == []) = true := by kernel_rfl
theorem g2Adds_k8 : (Try.prog.stopKnobs == []) = true := by kernel_rfl
theorem g2Adds_k9 : (Rows.g2AddsRow.inPlace == Try.prog.inPlace 17) = true := by kernel_rfl
theorem g2Adds_k10 : (Rows.g2AddsRow.unfollowed == Try.prog.unfollowed 17) = true := by kernel_rfl
theorem g2Adds_k11 : (Rows.g2AddsRow.recurses == Try.prog.recurses 17) = true := by kernel_rfl
theorem g2Adds_k12 : (Rows.g2AddsRow.named == Try.prog.varsNamed 17) = true := by kernel_rfl
theorem g2Adds_k13 : (Rows.g2AddsRow.maps == (Try.f17.params.toList ++ Rows.g2AddsSpec.plain.varTypes Try.prog).any (Try.prog.mapsRec ·)) = true := by kernel_rfl
theorem g2Adds_k14 : (Rows.g2AddsRow.ifaces == (Try.f17.params.toList ++ Rows.g2AddsSpec.plain.varTypes Try.prog).any (Try.prog.ifacesRec ·)) = true := by kernel_rfl
theorem g2Adds_k15 : (Rows.g2AddsRow.mapsOut == Try.prog.mapsAmong Try.f17.resultTypes.toList) = true := by kernel_rfl
theorem g2Adds_k16 : (Rows.g2AddsRow.loops == (Try.f17.params.toList ++ Rows.g2AddsSpec.plain.varTypes Try.prog).any (Try.prog.loopsFrom ·)) = true := by kernel_rfl
theorem g2Adds_k17 : (Rows.g2AddsRow.wideKeys == (Try.f17.params.toList ++ Rows.g2AddsSpec.plain.varTypes Try.prog ++ Try.f17.resultTypes.toList).any (Try.prog.wideKeysFrom ·)) = true := by kernel_rfl
theorem g2Adds_k18 : Rows.g2AddsSpec.vars.all (Try.prog.varReadable ·) = true := by kernel_rfl
theorem g2Adds_k19 : Try.f17.resultTypes.all (fun t => Try.prog.readableRec t && decide (t < Try.prog.types.size)) = true := by kernel_rfl
theorem g2Adds_k20 : (Rows.g2AddsRow.ifacesOut == Try.f17.resultTypes.toList.any (Try.prog.ifacesRec ·)) = true := by kernel_rfl
theorem g2Adds_k21 : (Rows.g2AddsRow.loopsOut == Try.f17.resultTypes.toList.any (Try.prog.loopsFrom ·)) = true := by kernel_rfl
theorem g2Adds_k22 : (Rows.g2AddsRow.plainKeys == Try.prog.plainKeys) = true := by kernel_rfl
theorem g2Adds_k23 : Rows.g2AddsRow.shortTexts.isNone = true := by kernel_rfl
theorem g2Adds_k24 : Try.prog.stopsHeard = true := by kernel_rfl
theorem g2Adds_k25 : Try.prog.mayEnter = true := sk25
theorem g2Adds_k26 : (Rows.g2AddsRow.lifted == Try.prog.liftsFinal) = true := (congrArg (· == Try.prog.liftsFinal) (show Rows.g2AddsRow.lifted = Rows.frobSquaresRow.lifted by kernel_rfl)).trans sk26
theorem g2Adds_k27 : (Try.prog.make == some Rows.g2AddsRow.make) = true := (congrArg (fun m => Try.prog.make == some m) (show Rows.g2AddsRow.make = Rows.frobSquaresRow.make by kernel_rfl)).trans sk27
theorem g2Adds_k28 : (Rows.g2AddsRow.kinds == (if Rows.g2AddsRow.domain.isEmpty then [] else Try.f17.params.toList.map fun t => match Try.prog.underlying t with | some (.int k) => some k | _ => none)) = true := by kernel_rfl
theorem g2Adds_k29 : (Rows.g2AddsRow.pinned == Rows.g2AddsRow.pinnedBy) = true := by kernel_rfl
theorem g2Adds_k30 : (Rows.g2AddsRow.veiled == (Try.f17.params.toList ++ Rows.g2AddsSpec.plain.varTypes Try.prog ++ Try.f17.resultTypes.toList).any (Try.prog.veiledRec ·)) = true := by kernel_rfl
theorem g2Adds_k31 : Rows.g2AddsRow.veiledFits Try.prog Try.f17.params.toList (Try.f17.params.toList ++ Rows.g2AddsSpec.plain.varTypes Try.prog ++ Try.f17.resultTypes.toList) = true := by kernel_rfl
set_option maxRecDepth 100000 in
theorem g2Adds_join : joinedFacts Try.prog 17 Try.f17 Rows.g2AddsSpec Rows.g2AddsRow = true := joined_mk g2Adds_k0 g2Adds_k1 g2Adds_k2 g2Adds_k3 g2Adds_k4 g2Adds_k5 g2Adds_k6 g2Adds_k7 g2Adds_k8 g2Adds_k9 g2Adds_k10 g2Adds_k11 g2Adds_k12 g2Adds_k13 g2Adds_k14 g2Adds_k15 g2Adds_k16 g2Adds_k17 g2Adds_k18 g2Adds_k19 g2Adds_k20 g2Adds_k21 g2Adds_k22 g2Adds_k23 g2Adds_k24 g2Adds_k25 g2Adds_k26 g2Adds_k27 g2Adds_k28 g2Adds_k29 g2Adds_k30 g2Adds_k31
theorem g2Adds_named : Try.prog.funcNamed Rows.g2AddsRow.func = some 17 := by kernel_rfl
theorem g2Adds_wrap : Try.f17.isWrapper Try.prog Rows.g2AddsRow.wrapper Rows.g2AddsRow.mainSum := by unfold Func.isWrapper; first | (rw [if_pos (by decide +kernel)]; kernel_rfl) | (rw [if_neg (by decide +kernel)]; exact ⟨rfl, rfl⟩)
theorem g2Adds_over : Rows.g2AddsRow.holds Try.pinned (OpenSpec.ofChange Rows.g2AddsSpec) :=
  OpenClaim.holds_of_wide 17 Try.f17 rfl rfl rfl rfl rfl rfl rfl ⟨rfl, rfl, rfl, rfl, rfl⟩ rfl rfl rfl rfl rfl g2Adds_named Try.func17 g2Adds_join
    (of_decide_eq_true (by kernel_rfl)) g2Adds_wrap
    (fun os started H enc _ => g2Adds_lifted os started H enc)

/-- The statement. -/
theorem g2Adds_holds : Rows.G2AddsSaid := g2Adds_over
#print axioms g2Adds_holds
end Go.Proofs.Ytkbbocpahnlkkaa
