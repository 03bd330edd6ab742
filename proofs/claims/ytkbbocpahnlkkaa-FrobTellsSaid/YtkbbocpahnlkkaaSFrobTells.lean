/-
  FrobTells: for every input the call returns true, and each argument reads behind it as before. No condition.
-/
import Derived.Test.YtkbbocpahnlkkaaRows
import Derived.Test.YtkbbocpahnlkkaaSay
import Derived.Test.YtkbbocpahnlkkaaJoin
import Derived.Test.YtkbbocpahnlkkaaK
import Derived.Test.YtkbbocpahnlkkaaLaR11
import Derived.ProofKit
import Derived.OpenShut
namespace Go.Proofs.Ytkbbocpahnlkkaa
open Go Go.Eng Go.RowKit Go.ChangeShapes Go.WideShapes Go.ChangeAt
set_option linter.unusedVariables false

set_option maxRecDepth 100000 in
theorem frobTells_lifted (os : Os) (started : os.Started) (H : Type) (enc : TypeId × Value → H) :
    ReturnsInHanded {} Try.checked os 4 .any (Rows.frobTellsSpec.pre6 enc Try.prog Try.f4 Rows.frobTellsRow.domain false) (Rows.frobTellsSpec.post enc Try.prog Try.f4 false true false false) := by
  refine lifted_any (C := Try.checked) say_own started (by kernel_rfl) Try.func4
    (ChangeSpec.witness6 (enc := enc) (C := Try.checked) false ⟨#[], #[.agg (Array.replicate 72 (.int .u64 0))], []⟩ 8 (by kernel_rfl) (by kernel_rfl) (by kernel_rfl) (by kernel_rfl))
    say_laid (by kernel_rfl) rfl (tb := 4) (by kernel_rfl) (by kernel_rfl) (fun ds hd => ?_) ?_
  · rw [Try.params4] at hd
    match ds, hd with
    | [d0], _ => exact ⟨rfl, rfl, rfl⟩
  · intro W base args ds ps hval hA hlt
    rw [Try.params4] at hA hval
    obtain ⟨v0, vs0, d0, ds0, p0, q0, hargs, rfl, rfl, h0, r0⟩ := trodAll_cons hA
    obtain ⟨rfl, rfl, rfl⟩ := trodAll_nil r0
    obtain rfl : args = #[v0] := by cases args; simp_all
    obtain ⟨a0, s0, rfl⟩ := open_nm (A := N12) (by kernel_rfl) (by kernel_rfl) (by kernel_rfl) (hval 0 30 v0 rfl rfl) h0
    exact frobTells_gives a0 s0 W

theorem frobTells_k0 : Rows.frobTellsRow.wf (OpenSpec.ofChange Rows.frobTellsSpec) = true := by kernel_rfl
theorem frobTells_k1 : laidOutB Try.prog = true := by kernel_rfl
theorem frobTells_k2 : mapsRowed Try.prog = true := by kernel_rfl
theorem frobTells_k3 : Try.f4.params.all (Try.prog.readableRec ·) = true := by kernel_rfl
theorem frobTells_k4 : namedTie Try.prog Rows.frobTellsRow.named Rows.frobTellsSpec.vars = true := by kernel_rfl
theorem frobTells_k5 : (Rows.frobTellsRow.stops == []) = true := by kernel_rfl
theorem frobTells_k6 : (Try.prog.stops == []) = true := by kernel_rfl
theorem frobTells_k7 : (Rows.frobTellsRow.knobs == []) = true := by kernel_rfl
theorem frobTells_k8 : (Try.prog.stopKnobs == []) = true := by kernel_rfl
theorem frobTells_k9 : (Rows.frobTellsRow.inPlace == Try.prog.inPlace 4) = true := by kernel_rfl
theorem frobTells_k10 : (Rows.frobTellsRow.unfollowed == Try.prog.unfollowed 4) = true := by kernel_rfl
theorem frobTells_k11 : (Rows.frobTellsRow.recurses == Try.prog.recurses 4) = true := by kernel_rfl
theorem frobTells_k12 : (Rows.frobTellsRow.named == Try.prog.varsNamed 4) = true := by kernel_rfl
theorem frobTells_k13 : (Rows.frobTellsRow.maps == (Try.f4.params.toList ++ Rows.frobTellsSpec.plain.varTypes Try.prog).any (Try.prog.mapsRec ·)) = true := by kernel_rfl
theorem frobTells_k14 : (Rows.frobTellsRow.ifaces == (Try.f4.params.toList ++ Rows.frobTellsSpec.plain.varTypes Try.prog).any (Try.prog.ifacesRec ·)) = true := by kernel_rfl
theorem frobTells_k15 : (Rows.frobTellsRow.mapsOut == Try.prog.mapsAmong Try.f4.resultTypes.toList) = true := by kernel_rfl
theorem frobTells_k16 : (Rows.frobTellsRow.loops == (Try.f4.params.toList ++ Rows.frobTellsSpec.plain.varTypes Try.prog).any (Try.prog.loopsFrom ·)) = true := by kernel_rfl
theorem frobTells_k17 : (Rows.frobTellsRow.wideKeys == (Try.f4.params.toList ++ Rows.frobTellsSpec.plain.varTypes Try.prog ++ Try.f4.resultTypes.toList).any (Try.prog.wideKeysFrom ·)) = true := by kernel_rfl
theorem frobTells_k18 : Rows.frobTellsSpec.vars.all (Try.prog.varReadable ·) = true := by kernel_rfl
theorem frobTells_k19 : Try.f4.resultTypes.all (fun t => Try.prog.readableRec t && decide (t < Try.prog.types.size)) = true := by kernel_rfl
theorem frobTells_k20 : (Rows.frobTellsRow.ifacesOut == Try.f4.resultTypes.toList.any (Try.prog.ifacesRec ·)) = true := by kernel_rfl
theorem frobTells_k21 : (Rows.frobTellsRow.loopsOut == Try.f4.resultTypes.toList.any (Try.prog.loopsFrom ·)) = true := by kernel_rfl
theorem frobTells_k22 : (Rows.frobTellsRow.plainKeys == Try.prog.plainKeys) = true := by kernel_rfl
theorem frobTells_k23 : Rows.frobTellsRow.shortTexts.isNone = true := by kernel_rfl
theorem frobTells_k24 : Try.prog.stopsHeard = true := by kernel_rfl
theorem frobTells_k25 : Try.prog.mayEnter = true := sk25
theorem frobTells_k26 : (Rows.frobTellsRow.lifted == Try.prog.liftsFinal) = true := (congrArg (· == Try.prog.liftsFinal) (show Rows.frobTellsRow.lifted = Rows.frobSquaresRow.lifted by kernel_rfl)).trans sk26
theorem frobTells_k27 : (Try.prog.make == some Rows.frobTellsRow.make) = true := (congrArg (fun m => Try.prog.make == some m) (show Rows.frobTellsRow.make = Rows.frobSquaresRow.make by kernel_rfl)).trans sk27
theorem frobTells_k28 : (Rows.frobTellsRow.kinds == (if Rows.frobTellsRow.domain.isEmpty then [] else Try.f4.params.toList.map fun t => match Try.prog.underlying t with | some (.int k) => some k | _ => none)) = true := by kernel_rfl
theorem frobTells_k29 : (Rows.frobTellsRow.pinned == Rows.frobTellsRow.pinnedBy) = true := by kernel_rfl
theorem frobTells_k30 : (Rows.frobTellsRow.veiled == (Try.f4.params.toList ++ Rows.frobTellsSpec.plain.varTypes Try.prog ++ Try.f4.resultTypes.toList).any (Try.prog.veiledRec ·)) = true := by kernel_rfl
theorem frobTells_k31 : Rows.frobTellsRow.veiledFits Try.prog Try.f4.params.toList (Try.f4.params.toList ++ Rows.frobTellsSpec.plain.varTypes Try.prog ++ Try.f4.resultTypes.toList) = true := by kernel_rfl
set_option maxRecDepth 100000 in
theorem frobTells_join : joinedFacts Try.prog 4 Try.f4 Rows.frobTellsSpec Rows.frobTellsRow = true := joined_mk frobTells_k0 frobTells_k1 frobTells_k2 frobTells_k3 frobTells_k4 frobTells_k5 frobTells_k6 frobTells_k7 frobTells_k8 frobTells_k9 frobTells_k10 frobTells_k11 frobTells_k12 frobTells_k13 frobTells_k14 frobTells_k15 frobTells_k16 frobTells_k17 frobTells_k18 frobTells_k19 frobTells_k20 frobTells_k21 frobTells_k22 frobTells_k23 frobTells_k24 frobTells_k25 frobTells_k26 frobTells_k27 frobTells_k28 frobTells_k29 frobTells_k30 frobTells_k31
theorem frobTells_named : Try.prog.funcNamed Rows.frobTellsRow.func = some 4 := by kernel_rfl
theorem frobTells_wrap : Try.f4.isWrapper Try.prog Rows.frobTellsRow.wrapper Rows.frobTellsRow.mainSum := by unfold Func.isWrapper; first | (rw [if_pos (by decide +kernel)]; kernel_rfl) | (rw [if_neg (by decide +kernel)]; exact ⟨rfl, rfl⟩)
theorem frobTells_over : Rows.frobTellsRow.holds Try.pinned (OpenSpec.ofChange Rows.frobTellsSpec) :=
  OpenClaim.holds_of_wide 4 Try.f4 rfl rfl rfl rfl rfl rfl rfl ⟨rfl, rfl, rfl, rfl, rfl⟩ rfl rfl rfl rfl rfl frobTells_named Try.func4 frobTells_join
    (of_decide_eq_true (by kernel_rfl)) frobTells_wrap
    (fun os started H enc _ => frobTells_lifted os started H enc)

/-- The statement. -/
theorem frobTells_holds : Rows.FrobTellsSaid := frobTells_over
#print axioms frobTells_holds
end Go.Proofs.Ytkbbocpahnlkkaa
