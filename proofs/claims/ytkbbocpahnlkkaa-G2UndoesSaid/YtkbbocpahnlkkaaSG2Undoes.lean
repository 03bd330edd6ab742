/-
  G2Undoes: for every input the call returns true, and each argument reads behind it as before. No condition.
-/
import Derived.Test.YtkbbocpahnlkkaaRows
import Derived.Test.YtkbbocpahnlkkaaSay
import Derived.Test.YtkbbocpahnlkkaaJoin
import Derived.Test.YtkbbocpahnlkkaaK
import Derived.Test.YtkbbocpahnlkkaaLaG13
import Derived.ProofKit
import Derived.OpenShut
namespace Go.Proofs.Ytkbbocpahnlkkaa
open Go Go.Eng Go.RowKit Go.ChangeShapes Go.WideShapes Go.ChangeAt
set_option linter.unusedVariables false

set_option maxRecDepth 100000 in
theorem g2Undoes_lifted (os : Os) (started : os.Started) (H : Type) (enc : TypeId × Value → H) :
    ReturnsInHanded {} Try.checked os 10 .any (Rows.g2UndoesSpec.pre6 enc Try.prog Try.f10 Rows.g2UndoesRow.domain false) (Rows.g2UndoesSpec.post enc Try.prog Try.f10 false true false false) := by
  refine lifted_any (C := Try.checked) say_own started (by kernel_rfl) Try.func10
    (ChangeSpec.witness6 (enc := enc) (C := Try.checked) false ⟨#[], #[.agg ((Array.replicate 24 (.int .u64 0)).push (.bool false)), .agg ((Array.replicate 24 (.int .u64 0)).push (.bool false))], []⟩ 8 (by kernel_rfl) (by kernel_rfl) (by kernel_rfl) (by kernel_rfl))
    say_laid (by kernel_rfl) rfl (tb := 4) (by kernel_rfl) (by kernel_rfl) (fun ds hd => ?_) ?_
  · rw [Try.params10] at hd
    match ds, hd with
    | [d0, d1], _ => exact ⟨rfl, rfl, rfl⟩
  · intro W base args ds ps hval hA hlt
    rw [Try.params10] at hA hval
    obtain ⟨v0, vs0, d0, ds0, p0, q0, hargs, rfl, rfl, h0, r0⟩ := trodAll_cons hA
    obtain ⟨v1, vs1, d1, ds1, p1, q1, rfl, rfl, rfl, h1, r1⟩ := trodAll_cons r0
    obtain ⟨rfl, rfl, rfl⟩ := trodAll_nil r1
    obtain rfl : args = #[v0, v1] := by cases args; simp_all
    obtain ⟨a0, s0, rfl⟩ := open_pt (A := A2) (by kernel_rfl) (by kernel_rfl) (by kernel_rfl) (hval 0 49 v0 rfl rfl) h0
    obtain ⟨a1, s1, rfl⟩ := open_pt (A := A2) (by kernel_rfl) (by kernel_rfl) (by kernel_rfl) (hval 1 49 v1 rfl rfl) h1
    exact g2Undoes_gives a0 s0 a1 s1 W

theorem g2Undoes_k0 : Rows.g2UndoesRow.wf (OpenSpec.ofChange Rows.g2UndoesSpec) = true := by kernel_rfl
theorem g2Undoes_k1 : laidOutB Try.prog = true := by kernel_rfl
theorem g2Undoes_k2 : mapsRowed Try.prog = true := by kernel_rfl
theorem g2Undoes_k3 : Try.f10.params.all (Try.prog.readableRec ·) = true := by kernel_rfl
theorem g2Undoes_k4 : namedTie Try.prog Rows.g2UndoesRow.named Rows.g2UndoesSpec.vars = true := by kernel_rfl
theorem g2Undoes_k5 : (Rows.g2UndoesRow.stops == []) = true := by kernel_rfl
theorem g2Undoes_k6 : (Try.prog.stops == []) = true := by kernel_rfl
theorem g2Undoes_k7 : (Rows.g2UndoesRow.knobs == []) = true := by kernel_rfl
theorem g2Undoes_k8 : (Try.prog.stopKnobs == []) = true := by kernel_rfl
theorem g2Undoes_k9 : (Rows.g2UndoesRow.inPlace == Try.prog.inPlace 10) = true := by kernel_rfl
theorem g2Undoes_k10 : (Rows.g2UndoesRow.unfollowed == Try.prog.unfollowed 10) = true := by kernel_rfl
theorem g2Undoes_k11 : (Rows.g2UndoesRow.recurses == Try.prog.recurses 10) = true := by kernel_rfl
theorem g2Undoes_k12 : (Rows.g2UndoesRow.named == Try.prog.varsNamed 10) = true := by kernel_rfl
theorem g2Undoes_k13 : (Rows.g2UndoesRow.maps == (Try.f10.params.toList ++ Rows.g2UndoesSpec.plain.varTypes Try.prog).any (Try.prog.mapsRec ·)) = true := by kernel_rfl
theorem g2Undoes_k14 : (Rows.g2UndoesRow.ifaces == (Try.f10.params.toList ++ Rows.g2UndoesSpec.plain.varTypes Try.prog).any (Try.prog.ifacesRec ·)) = true := by kernel_rfl
theorem g2Undoes_k15 : (Rows.g2UndoesRow.mapsOut == Try.prog.mapsAmong Try.f10.resultTypes.toList) = true := by kernel_rfl
theorem g2Undoes_k16 : (Rows.g2UndoesRow.loops == (Try.f10.params.toList ++ Rows.g2UndoesSpec.plain.varTypes Try.prog).any (Try.prog.loopsFrom ·)) = true := by kernel_rfl
theorem g2Undoes_k17 : (Rows.g2UndoesRow.wideKeys == (Try.f10.params.toList ++ Rows.g2UndoesSpec.plain.varTypes Try.prog ++ Try.f10.resultTypes.toList).any (Try.prog.wideKeysFrom ·)) = true := by kernel_rfl
theorem g2Undoes_k18 : Rows.g2UndoesSpec.vars.all (Try.prog.varReadable ·) = true := by kernel_rfl
theorem g2Undoes_k19 : Try.f10.resultTypes.all (fun t => Try.prog.readableRec t && decide (t < Try.prog.types.size)) = true := by kernel_rfl
theorem g2Undoes_k20 : (Rows.g2UndoesRow.ifacesOut == Try.f10.resultTypes.toList.any (Try.prog.ifacesRec ·)) = true := by kernel_rfl
theorem g2Undoes_k21 : (Rows.g2UndoesRow.loopsOut == Try.f10.resultTypes.toList.any (Try.prog.loopsFrom ·)) = true := by kernel_rfl
theorem g2Undoes_k22 : (Rows.g2UndoesRow.plainKeys == Try.prog.plainKeys) = true := by kernel_rfl
theorem g2Undoes_k23 : Rows.g2UndoesRow.shortTexts.isNone = true := by kernel_rfl
theorem g2Undoes_k24 : Try.prog.stopsHeard = true := by kernel_rfl
theorem g2Undoes_k25 : Try.prog.mayEnter = true := sk25
theorem g2Undoes_k26 : (Rows.g2UndoesRow.lifted == Try.prog.liftsFinal) = true := (congrArg (· == Try.prog.liftsFinal) (show Rows.g2UndoesRow.lifted = Rows.frobSquaresRow.lifted by kernel_rfl)).trans sk26
theorem g2Undoes_k27 : (Try.prog.make == some Rows.g2UndoesRow.make) = true := (congrArg (fun m => Try.prog.make == some m) (show Rows.g2UndoesRow.make = Rows.frobSquaresRow.make by kernel_rfl)).trans sk27
theorem g2Undoes_k28 : (Rows.g2UndoesRow.kinds == (if Rows.g2UndoesRow.domain.isEmpty then [] else Try.f10.params.toList.map fun t => match Try.prog.underlying t with | some (.int k) => some k | _ => none)) = true := by kernel_rfl
theorem g2Undoes_k29 : (Rows.g2UndoesRow.pinned == Rows.g2UndoesRow.pinnedBy) = true := by kernel_rfl
theorem g2Undoes_k30 : (Rows.g2UndoesRow.veiled == (Try.f10.params.toList ++ Rows.g2UndoesSpec.plain.varTypes Try.prog ++ Try.f10.resultTypes.toList).any (Try.prog.veiledRec ·)) = true := by kernel_rfl
theorem g2Undoes_k31 : Rows.g2UndoesRow.veiledFits Try.prog Try.f10.params.toList (Try.f10.params.toList ++ Rows.g2UndoesSpec.plain.varTypes Try.prog ++ Try.f10.resultTypes.toList) = true := by kernel_rfl
set_option maxRecDepth 100000 in
theorem g2Undoes_join : joinedFacts Try.prog 10 Try.f10 Rows.g2UndoesSpec Rows.g2UndoesRow = true := joined_mk g2Undoes_k0 g2Undoes_k1 g2Undoes_k2 g2Undoes_k3 g2Undoes_k4 g2Undoes_k5 g2Undoes_k6 g2Undoes_k7 g2Undoes_k8 g2Undoes_k9 g2Undoes_k10 g2Undoes_k11 g2Undoes_k12 g2Undoes_k13 g2Undoes_k14 g2Undoes_k15 g2Undoes_k16 g2Undoes_k17 g2Undoes_k18 g2Undoes_k19 g2Undoes_k20 g2Undoes_k21 g2Undoes_k22 g2Undoes_k23 g2Undoes_k24 g2Undoes_k25 g2Undoes_k26 g2Undoes_k27 g2Undoes_k28 g2Undoes_k29 g2Undoes_k30 g2Undoes_k31
theorem g2Undoes_named : Try.prog.funcNamed Rows.g2UndoesRow.func = some 10 := by kernel_rfl
theorem g2Undoes_wrap : Try.f10.isWrapper Try.prog Rows.g2UndoesRow.wrapper Rows.g2UndoesRow.mainSum := by unfold Func.isWrapper; first | (rw [if_pos (by decide +kernel)]; kernel_rfl) | (rw [if_neg (by decide +kernel)]; exact ⟨rfl, rfl⟩)
theorem g2Undoes_over : Rows.g2UndoesRow.holds Try.pinned (OpenSpec.ofChange Rows.g2UndoesSpec) :=
  OpenClaim.holds_of_wide 10 Try.f10 rfl rfl rfl rfl rfl rfl rfl ⟨rfl, rfl, rfl, rfl, rfl⟩ rfl rfl rfl rfl rfl g2Undoes_named Try.func10 g2Undoes_join
    (of_decide_eq_true (by kernel_rfl)) g2Undoes_wrap
    (fun os started H enc _ => g2Undoes_lifted os started H enc)

/-- The statement. -/
theorem g2Undoes_holds : Rows.G2UndoesSaid := g2Undoes_over
#print axioms g2Undoes_holds
end Go.Proofs.Ytkbbocpahnlkkaa
