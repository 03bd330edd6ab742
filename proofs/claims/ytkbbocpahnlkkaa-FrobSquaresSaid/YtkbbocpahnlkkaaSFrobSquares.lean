/-
  FrobSquares: for every input the call returns true, and each argument reads behind it as before. No condition.
-/
import Derived.Test.YtkbbocpahnlkkaaRows
import Derived.Test.YtkbbocpahnlkkaaSay
import Derived.Test.YtkbbocpahnlkkaaJoin
import Derived.Test.YtkbbocpahnlkkaaK
import Derived.Test.YtkbbocpahnlkkaaLaR11
import Derived.ProofKit
import Derived.OpenShut
namespace Go.Proofs.Ytkbbocpahnlkkaa
open Go Go.Eng Go.RowKit Go.ChangeShapes Go.WideShapes Go.ChangeAt
set_option linter.unusedVariables false

set_option maxRecDepth 100000 in
theorem frobSquares_lifted (os : Os) (started : os.Started) (H : Type) (enc : TypeId × Value → H) :
    ReturnsInHanded {} Try.checked os 3 .any (Rows.frobSquaresSpec.pre6 enc Try.prog Try.f3 Rows.frobSquaresRow.domain false) (Rows.frobSquaresSpec.post enc Try.prog Try.f3 false true false false) := by
  refine lifted_any (C := Try.checked) say_own started (by kernel_rfl) Try.func3
    (ChangeSpec.witness6 (enc := enc) (C := Try.checked) false ⟨#[], #[.agg (Array.replicate 72 (.int .u64 0))], []⟩ 8 (by kernel_rfl) (by kernel_rfl) (by kernel_rfl) (by kernel_rfl))
    say_laid (by kernel_rfl) rfl (tb := 4) (by kernel_rfl) (by kernel_rfl) (fun ds hd => ?_) ?_
  · rw [Try.params3] at hd
    match ds, hd with
    | [d0], _ => exact ⟨rfl, rfl, rfl⟩
  · intro W base args ds ps hval hA hlt
    rw [Try.params3] at hA hval
    obtain ⟨v0, vs0, d0, ds0, p0, q0, hargs, rfl, rfl, h0, r0⟩ := trodAll_cons hA
    obtain ⟨rfl, rfl, rfl⟩ := trodAll_nil r0
    obtain rfl : args = #[v0] := by cases args; simp_all
    obtain ⟨a0, s0, rfl⟩ := open_nm (A := N12) (by kernel_rfl) (by kernel_rfl) (by kernel_rfl) (hval 0 30 v0 rfl rfl) h0
    exact frobSquares_gives a0 s0 W

theorem frobSquares_k0 : Rows.frobSquaresRow.wf (OpenSpec.ofChange Rows.frobSquaresSpec) = true := by kernel_rfl
theorem frobSquares_k1 : laidOutB Try.prog = true := by kernel_rfl
theorem frobSquares_k2 : mapsRowed Try.prog = true := by kernel_rfl
theorem frobSquares_k3 : Try.f3.params.all (Try.prog.readableRec ·) = true := by kernel_rfl
theorem frobSquares_k4 : namedTie Try.prog Rows.frobSquaresRow.named Rows.frobSquaresSpec.vars = true := by kernel_rfl
theorem frobSquares_k5 : (Rows.frobSquaresRow.stops == []) = true := by kernel_rfl
theorem frobSquares_k6 : (Try.prog.stops == []) = true := by kernel_rfl
theorem frobSquares_k7 : (Rows.frobSquaresRow.knobs == []) = true := by kernel_rfl
theorem frobSquares_k8 : (Try.prog.stopKnobs == []) = true := by kernel_rfl
theorem frobSquares_k9 : (Rows.frobSquaresRow.inPlace == Try.prog.inPlace 3) = true := by kernel_rfl
theorem frobSquares_k10 : (Rows.frobSquaresRow.unfollowed == Try.prog.unfollowed 3) = true := by kernel_rfl
theorem frobSquares_k11 : (Rows.frobSquaresRow.recurses == Try.prog.recurses 3) = true := by kernel_rfl
theorem frobSquares_k12 : (Rows.frobSquaresRow.named == Try.prog.varsNamed 3) = true := by kernel_rfl
theorem frobSquares_k13 : (Rows.frobSquaresRow.maps == (Try.f3.params.toList ++ Rows.frobSquaresSpec.plain.varTypes Try.prog).any (Try.prog.mapsRec ·)) = true := by kernel_rfl
theorem frobSquares_k14 : (Rows.frobSquaresRow.ifaces == (Try.f3.params.toList ++ Rows.frobSquaresSpec.plain.varTypes Try.prog).any (Try.prog.ifacesRec ·)) = true := by kernel_rfl
theorem frobSquares_k15 : (Rows.frobSquaresRow.mapsOut == Try.prog.mapsAmong Try.f3.resultTypes.toList) = true := by kernel_rfl
theorem frobSquares_k16 : (Rows.frobSquaresRow.loops == (Try.f3.params.toList ++ Rows.frobSquaresSpec.plain.varTypes Try.prog).any (Try.prog.loopsFrom ·)) = true := by kernel_rfl
theorem frobSquares_k17 : (Rows.frobSquaresRow.wideKeys == (Try.f3.params.toList ++ Rows.frobSquaresSpec.plain.varTypes Try.prog ++ Try.f3.resultTypes.toList).any (Try.prog.wideKeysFrom ·)) = true := by kernel_rfl
theorem frobSquares_k18 : Rows.frobSquaresSpec.vars.all (Try.prog.varReadable ·) = true := by kernel_rfl
theorem frobSquares_k19 : Try.f3.resultTypes.all (fun t => Try.prog.readableRec t && decide (t < Try.prog.types.size)) = true := by kernel_rfl
theorem frobSquares_k20 : (Rows.frobSquaresRow.ifacesOut == Try.f3.resultTypes.toList.any (Try.prog.ifacesRec ·)) = true := by kernel_rfl
theorem frobSquares_k21 : (Rows.frobSquaresRow.loopsOut == Try.f3.resultTypes.toList.any (Try.prog.loopsFrom ·)) = true := by kernel_rfl
theorem frobSquares_k22 : (Rows.frobSquaresRow.plainKeys == Try.prog.plainKeys) = true := by kernel_rfl
theorem frobSquares_k23 : Rows.frobSquaresRow.shortTexts.isNone = true := by kernel_rfl
theorem frobSquares_k24 : Try.prog.stopsHeard = true := by kernel_rfl
theorem frobSquares_k25 : Try.prog.mayEnter = true := sk25
theorem frobSquares_k26 : (Rows.frobSquaresRow.lifted == Try.prog.liftsFinal) = true := (congrArg (· == Try.prog.liftsFinal) (show Rows.frobSquaresRow.lifted = Rows.frobSquaresRow.lifted by kernel_rfl)).trans sk26
theorem frobSquares_k27 : (Try.prog.make == some Rows.frobSquaresRow.make) = true := (congrArg (fun m => Try.prog.make == some m) (show Rows.frobSquaresRow.make = Rows.frobSquaresRow.make by kernel_rfl)).trans sk27
theorem frobSquares_k28 : (Rows.frobSquaresRow.kinds == (if Rows.frobSquaresRow.domain.isEmpty then [] else Try.f3.params.toList.map fun t => match Try.prog.underlying t with | some (.int k) => some k | _ => none)) = true := by kernel_rfl
theorem frobSquares_k29 : (Rows.frobSquaresRow.pinned == Rows.frobSquaresRow.pinnedBy) = true := by kernel_rfl
theorem frobSquares_k30 : (Rows.frobSquaresRow.veiled == (Try.f3.params.toList ++ Rows.frobSquaresSpec.plain.varTypes Try.prog ++ Try.f3.resultTypes.toList).any (Try.prog.veiledRec ·)) = true := by kernel_rfl
theorem frobSquares_k31 : Rows.frobSquaresRow.veiledFits Try.prog Try.f3.params.toList (Try.f3.params.toList ++ Rows.frobSquaresSpec.plain.varTypes Try.prog ++ Try.f3.resultTypes.toList) = true := by kernel_rfl
set_option maxRecDepth 100000 in
theorem frobSquares_join : joinedFacts Try.prog 3 Try.f3 Rows.frobSquaresSpec Rows.frobSquaresRow = true := joined_mk frobSquares_k0 frobSquares_k1 frobSquares_k2 frobSquares_k3 frobSquares_k4 frobSquares_k5 frobSquares_k6 frobSquares_k7 frobSquares_k8 frobSquares_k9 frobSquares_k10 frobSquares_k11 frobSquares_k12 frobSquares_k13 frobSquares_k14 frobSquares_k15 frobSquares_k16 frobSquares_k17 frobSquares_k18 frobSquares_k19 frobSquares_k20 frobSquares_k21 frobSquares_k22 frobSquares_k23 frobSquares_k24 frobSquares_k25 frobSquares_k26 frobSquares_k27 frobSquares_k28 frobSquares_k29 frobSquares_k30 frobSquares_k31
theorem frobSquares_named : Try.prog.funcNamed Rows.frobSquaresRow.func = some 3 := by kernel_rfl
theorem frobSquares_wrap : Try.f3.isWrapper Try.prog Rows.frobSquaresRow.wrapper Rows.frobSquaresRow.mainSum := by unfold Func.isWrapper; first | (rw [if_pos (by decide +kernel)]; kernel_rfl) | (rw [if_neg (by decide +kernel)]; exact ⟨rfl, rfl⟩)
theorem frobSquares_over : Rows.frobSquaresRow.holds Try.pinned (OpenSpec.ofChange Rows.frobSquaresSpec) :=
  OpenClaim.holds_of_wide 3 Try.f3 rfl rfl rfl rfl rfl rfl rfl ⟨rfl, rfl, rfl, rfl, rfl⟩ rfl rfl rfl rfl rfl frobSquares_named Try.func3 frobSquares_join
    (of_decide_eq_true (by kernel_rfl)) frobSquares_wrap
    (fun os started H enc _ => frobSquares_lifted os started H enc)

/-- The statement. -/
theorem frobSquares_holds : Rows.FrobSquaresSaid := frobSquares_over
#print axioms frobSquares_holds
end Go.Proofs.Ytkbbocpahnlkkaa
