/-
  G2Names: for every input the call returns true, and each argument reads behind it as before. No condition.
-/
import Derived.Test.YtkbbocpahnlkkaaRows
import Derived.Test.YtkbbocpahnlkkaaSay
import Derived.Test.YtkbbocpahnlkkaaJoin
import Derived.Test.YtkbbocpahnlkkaaK
import Derived.Test.YtkbbocpahnlkkaaLaG13
import Derived.ProofKit
import Derived.OpenShut
namespace Go.Proofs.Ytkbbocpahnlkkaa
open Go Go.Eng Go.RowKit Go.ChangeShapes Go.WideShapes Go.ChangeAt
set_option linter.unusedVariables false

set_option maxRecDepth 100000 in
theorem g2Names_lifted (os : Os) (started : os.Started) (H : Type) (enc : TypeId × Value → H) :
    ReturnsInHanded {} Try.checked os 8 .any (Rows.g2NamesSpec.pre6 enc Try.prog Try.f8 Rows.g2NamesRow.domain false) (Rows.g2NamesSpec.post enc Try.prog Try.f8 false true false false) := by
  refine lifted_any (C := Try.checked) say_own started (by kernel_rfl) Try.func8
    (ChangeSpec.witness6 (enc := enc) (C := Try.checked) false ⟨#[], #[], []⟩ 8 (by kernel_rfl) (by kernel_rfl) (by kernel_rfl) (by kernel_rfl))
    say_laid (by kernel_rfl) rfl (tb := 4) (by kernel_rfl) (by kernel_rfl) (fun ds hd => ?_) ?_
  · rw [Try.params8] at hd
    match ds, hd with
    | [], _ => exact ⟨rfl, rfl, rfl⟩
  · intro W base args ds ps hval hA hlt
    rw [Try.params8] at hA hval
    obtain ⟨hargs, rfl, rfl⟩ := trodAll_nil hA
    obtain rfl : args = #[] := by cases args; simp_all
    exact g2Names_gives  W

theorem g2Names_k0 : Rows.g2NamesRow.wf (OpenSpec.ofChange Rows.g2NamesSpec) = true := by kernel_rfl
theorem g2Names_k1 : laidOutB Try.prog = true := by kernel_rfl
theorem g2Names_k2 : mapsRowed Try.prog = true := by kernel_rfl
theorem g2Names_k3 : Try.f8.params.all (Try.prog.readableRec ·) = true := by kernel_rfl
theorem g2Names_k4 : namedTie Try.prog Rows.g2NamesRow.named Rows.g2NamesSpec.vars = true := by kernel_rfl
theorem g2Names_k5 : (Rows.g2NamesRow.stops == []) = true := by kernel_rfl
theorem g2Names_k6 : (Try.prog.stops == []) = true := by kernel_rfl
theorem g2Names_k7 : (Rows.g2NamesRow.knobs == []) = true := by kernel_rfl
theorem g2Names_k8 : (Try.prog.stopKnobs == []) = true := by kernel_rfl
theorem g2Names_k9 : (Rows.g2NamesRow.inPlace == Try.prog.inPlace 8) = true := by kernel_rfl
theorem g2Names_k10 : (Rows.g2NamesRow.unfollowed == Try.prog.unfollowed 8) = true := by kernel_rfl
theorem g2Names_k11 : (Rows.g2NamesRow.recurses == Try.prog.recurses 8) = true := by kernel_rfl
theorem g2Names_k12 : (Rows.g2NamesRow.named == Try.prog.varsNamed 8) = true := by kernel_rfl
theorem g2Names_k13 : (Rows.g2NamesRow.maps == (Try.f8.params.toList ++ Rows.g2NamesSpec.plain.varTypes Try.prog).any (Try.prog.mapsRec ·)) = true := by kernel_rfl
theorem g2Names_k14 : (Rows.g2NamesRow.ifaces == (Try.f8.params.toList ++ Rows.g2NamesSpec.plain.varTypes Try.prog).any (Try.prog.ifacesRec ·)) = true := by kernel_rfl
theorem g2Names_k15 : (Rows.g2NamesRow.mapsOut == Try.prog.mapsAmong Try.f8.resultTypes.toList) = true := by kernel_rfl
theorem g2Names_k16 : (Rows.g2NamesRow.loops == (Try.f8.params.toList ++ Rows.g2NamesSpec.plain.varTypes Try.prog).any (Try.prog.loopsFrom ·)) = true := by kernel_rfl
theorem g2Names_k17 : (Rows.g2NamesRow.wideKeys == (Try.f8.params.toList ++ Rows.g2NamesSpec.plain.varTypes Try.prog ++ Try.f8.resultTypes.toList).any (Try.prog.wideKeysFrom ·)) = true := by kernel_rfl
theorem g2Names_k18 : Rows.g2NamesSpec.vars.all (Try.prog.varReadable ·) = true := by kernel_rfl
theorem g2Names_k19 : Try.f8.resultTypes.all (fun t => Try.prog.readableRec t && decide (t < Try.prog.types.size)) = true := by kernel_rfl
theorem g2Names_k20 : (Rows.g2NamesRow.ifacesOut == Try.f8.resultTypes.toList.any (Try.prog.ifacesRec ·)) = true := by kernel_rfl
theorem g2Names_k21 : (Rows.g2NamesRow.loopsOut == Try.f8.resultTypes.toList.any (Try.prog.loopsFrom ·)) = true := by kernel_rfl
theorem g2Names_k22 : (Rows.g2NamesRow.plainKeys == Try.prog.plainKeys) = true := by kernel_rfl
theorem g2Names_k23 : Rows.g2NamesRow.shortTexts.isNone = true := by kernel_rfl
theorem g2Names_k24 : Try.prog.stopsHeard = true := by kernel_rfl
theorem g2Names_k25 : Try.prog.mayEnter = true := sk25
theorem g2Names_k26 : (Rows.g2NamesRow.lifted == Try.prog.liftsFinal) = true := (congrArg (· == Try.prog.liftsFinal) (show Rows.g2NamesRow.lifted = Rows.frobSquaresRow.lifted by kernel_rfl)).trans sk26
theorem g2Names_k27 : (Try.prog.make == some Rows.g2NamesRow.make) = true := (congrArg (fun m => Try.prog.make == some m) (show Rows.g2NamesRow.make = Rows.frobSquaresRow.make by kernel_rfl)).trans sk27
theorem g2Names_k28 : (Rows.g2NamesRow.kinds == (if Rows.g2NamesRow.domain.isEmpty then [] else Try.f8.params.toList.map fun t => match Try.prog.underlying t with | some (.int k) => some k | _ => none)) = true := by kernel_rfl
theorem g2Names_k29 : (Rows.g2NamesRow.pinned == Rows.g2NamesRow.pinnedBy) = true := by kernel_rfl
theorem g2Names_k30 : (Rows.g2NamesRow.veiled == (Try.f8.params.toList ++ Rows.g2NamesSpec.plain.varTypes Try.prog ++ Try.f8.resultTypes.toList).any (Try.prog.veiledRec ·)) = true := by kernel_rfl
theorem g2Names_k31 : Rows.g2NamesRow.veiledFits Try.prog Try.f8.params.toList (Try.f8.params.toList ++ Rows.g2NamesSpec.plain.varTypes Try.prog ++ Try.f8.resultTypes.toList) = true := by kernel_rfl
set_option maxRecDepth 100000 in
theorem g2Names_join : joinedFacts Try.prog 8 Try.f8 Rows.g2NamesSpec Rows.g2NamesRow = true := joined_mk g2Names_k0 g2Names_k1 g2Names_k2 g2Names_k3 g2Names_k4 g2Names_k5 g2Names_k6 g2Names_k7 g2Names_k8 g2Names_k9 g2Names_k10 g2Names_k11 g2Names_k12 g2Names_k13 g2Names_k14 g2Names_k15 g2Names_k16 g2Names_k17 g2Names_k18 g2Names_k19 g2Names_k20 g2Names_k21 g2Names_k22 g2Names_k23 g2Names_k24 g2Names_k25 g2Names_k26 g2Names_k27 g2Names_k28 g2Names_k29 g2Names_k30 g2Names_k31
theorem g2Names_named : Try.prog.funcNamed Rows.g2NamesRow.func = some 8 := by kernel_rfl
theorem g2Names_wrap : Try.f8.isWrapper Try.prog Rows.g2NamesRow.wrapper Rows.g2NamesRow.mainSum := by unfold Func.isWrapper; first | (rw [if_pos (by decide +kernel)]; kernel_rfl) | (rw [if_neg (by decide +kernel)]; exact ⟨rfl, rfl⟩)
theorem g2Names_over : Rows.g2NamesRow.holds Try.pinned (OpenSpec.ofChange Rows.g2NamesSpec) :=
  OpenClaim.holds_of_wide 8 Try.f8 rfl rfl rfl rfl rfl rfl rfl ⟨rfl, rfl, rfl, rfl, rfl⟩ rfl rfl rfl rfl rfl g2Names_named Try.func8 g2Names_join
    (of_decide_eq_true (by kernel_rfl)) g2Names_wrap
    (fun os started H enc _ => g2Names_lifted os started H enc)

/-- The statement. -/
theorem g2Names_holds : Rows.G2NamesSaid := g2Names_over
#print axioms g2Names_holds
end Go.Proofs.Ytkbbocpahnlkkaa
