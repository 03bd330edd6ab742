/-
  G2Muls: for every input the call returns true, and each argument reads behind it as before. No condition.
-/
import Derived.Test.YtkbbocpahnlkkaaRows
import Derived.Test.YtkbbocpahnlkkaaSay
import Derived.Test.YtkbbocpahnlkkaaJoin
import Derived.Test.YtkbbocpahnlkkaaK
import Derived.Test.YtkbbocpahnlkkaaLaG13
import Derived.ProofKit
import Derived.OpenShut
namespace Go.Proofs.Ytkbbocpahnlkkaa
open Go Go.Eng Go.RowKit Go.ChangeShapes Go.WideShapes Go.ChangeAt
set_option linter.unusedVariables false

set_option maxRecDepth 100000 in
theorem g2Muls_lifted (os : Os) (started : os.Started) (H : Type) (enc : TypeId × Value → H) :
    ReturnsInHanded {} Try.checked os 18 .any (Rows.g2MulsSpec.pre6 enc Try.prog Try.f18 Rows.g2MulsRow.domain false) (Rows.g2MulsSpec.post enc Try.prog Try.f18 false true false false) := by
  refine lifted_any (C := Try.checked) say_own started (by kernel_rfl) Try.func18
    (ChangeSpec.witness6 (enc := enc) (C := Try.checked) false ⟨#[], #[.slice none 0 0, .agg ((Array.replicate 24 (.int .u64 0)).push (.bool false))], []⟩ 8 (by kernel_rfl) (by kernel_rfl) (by kernel_rfl) (by kernel_rfl))
    say_laid (by kernel_rfl) rfl (tb := 4) (by kernel_rfl) (by kernel_rfl) (fun ds hd => ?_) ?_
  · rw [Try.params18] at hd
    match ds, hd with
    | [d0, d1], _ => exact ⟨rfl, rfl, rfl⟩
  · intro W base args ds ps hval hA hlt
    rw [Try.params18] at hA hval
    obtain ⟨v0, vs0, d0, ds0, p0, q0, hargs, rfl, rfl, h0, r0⟩ := trodAll_cons hA
    obtain ⟨v1, vs1, d1, ds1, p1, q1, rfl, rfl, rfl, h1, r1⟩ := trodAll_cons r0
    obtain ⟨rfl, rfl, rfl⟩ := trodAll_nil r1
    obtain rfl : args = #[v0, v1] := by cases args; simp_all
    obtain ⟨a1, s1, rfl⟩ := open_pt (A := A2) (by kernel_rfl) (by kernel_rfl) (by kernel_rfl) (hval 1 49 v1 rfl rfl) h1
    exact g2Muls_gives v0 W (open_words (e := 22) (by kernel_rfl) (by kernel_rfl) (by kernel_rfl) (hval 0 39 v0 rfl rfl) h0) a1 s1

theorem g2Muls_k0 : Rows.g2MulsRow.wf (OpenSpec.ofChange Rows.g2MulsSpec) = true := by kernel_rfl
theorem g2Muls_k1 : laidOutB Try.prog = true := by kernel_rfl
theorem g2Muls_k2 : mapsRowed Try.prog = true := by kernel_rfl
theorem g2Muls_k3 : Try.f18.params.all (Try.prog.readableRec ·) = true := by kernel_rfl
theorem g2Muls_k4 : namedTie Try.prog Rows.g2MulsRow.named Rows.g2MulsSpec.vars = true := by kernel_rfl
theorem g2Muls_k5 : (Rows.g2MulsRow.stops == []) = true := by kernel_rfl
theorem g2Muls_k6 : (Try.prog.stops == []) = true := by kernel_rfl
theorem g2Muls_k7 : (Rows.g2MulsRow.knobs == []) = true := by kernel_rfl
theorem g2Muls_k8 : (Try.prog.stopKnobs == []) = true := by kernel_rfl
theorem g2Muls_k9 : (Rows.g2MulsRow.inPlace == Try.prog.inPlace 18) = true := by kernel_rfl
theorem g2Muls_k10 : (Rows.g2MulsRow.unfollowed == Try.prog.unfollowed 18) = true := by kernel_rfl
theorem g2Muls_k11 : (Rows.g2MulsRow.recurses == Try.prog.recurses 18) = true := by kernel_rfl
theorem g2Muls_k12 : (Rows.g2MulsRow.named == Try.prog.varsNamed 18) = true := by kernel_rfl
theorem g2Muls_k13 : (Rows.g2MulsRow.maps == (Try.f18.params.toList ++ Rows.g2MulsSpec.plain.varTypes Try.prog).any (Try.prog.mapsRec ·)) = true := by kernel_rfl
theorem g2Muls_k14 : (Rows.g2MulsRow.ifaces == (Try.f18.params.toList ++ Rows.g2MulsSpec.plain.varTypes Try.prog).any (Try.prog.ifacesRec ·)) = true := by kernel_rfl
theorem g2Muls_k15 : (Rows.g2MulsRow.mapsOut == Try.prog.mapsAmong Try.f18.resultTypes.toList) = true := by kernel_rfl
theorem g2Muls_k16 : (Rows.g2MulsRow.loops == (Try.f18.params.toList ++ Rows.g2MulsSpec.plain.varTypes Try.prog).any (Try.prog.loopsFrom ·)) = true := by kernel_rfl
theorem g2Muls_k17 : (Rows.g2MulsRow.wideKeys == (Try.f18.params.toList ++ Rows.g2MulsSpec.plain.varTypes Try.prog ++ Try.f18.resultTypes.toList).any (Try.prog.wideKeysFrom ·)) = true := by kernel_rfl
theorem g2Muls_k18 : Rows.g2MulsSpec.vars.all (Try.prog.varReadable ·) = true := by kernel_rfl
theorem g2Muls_k19 : Try.f18.resultTypes.all (fun t => Try.prog.readableRec t && decide (t < Try.prog.types.size)) = true := by kernel_rfl
theorem g2Muls_k20 : (Rows.g2MulsRow.ifacesOut == Try.f18.resultTypes.toList.any (Try.prog.ifacesRec ·)) = true := by kernel_rfl
theorem g2Muls_k21 : (Rows.g2MulsRow.loopsOut == Try.f18.resultTypes.toList.any (Try.prog.loopsFrom ·)) = true := by kernel_rfl
theorem g2Muls_k22 : (Rows.g2MulsRow.plainKeys == Try.prog.plainKeys) = true := by kernel_rfl
theorem g2Muls_k23 : Rows.g2MulsRow.shortTexts.isNone = true := by kernel_rfl
theorem g2Muls_k24 : Try.prog.stopsHeard = true := by kernel_rfl
theorem g2Muls_k25 : Try.prog.mayEnter = true := sk25
theorem g2Muls_k26 : (Rows.g2MulsRow.lifted == Try.prog.liftsFinal) = true := (congrArg (· == Try.prog.liftsFinal) (show Rows.g2MulsRow.lifted = Rows.frobSquaresRow.lifted by kernel_rfl)).trans sk26
theorem g2Muls_k27 : (Try.prog.make == some Rows.g2MulsRow.make) = true := (congrArg (fun m => Try.prog.make == some m) (show Rows.g2MulsRow.make = Rows.frobSquaresRow.make by kernel_rfl)).trans sk27
theorem g2Muls_k28 : (Rows.g2MulsRow.kinds == (if Rows.g2MulsRow.domain.isEmpty then [] else Try.f18.params.toList.map fun t => match Try.prog.underlying t with | some (.int k) => some k | _ => none)) = true := by kernel_rfl
theorem g2Muls_k29 : (Rows.g2MulsRow.pinned == Rows.g2MulsRow.pinnedBy) = true := by kernel_rfl
theorem g2Muls_k30 : (Rows.g2MulsRow.veiled == (Try.f18.params.toList ++ Rows.g2MulsSpec.plain.varTypes Try.prog ++ Try.f18.resultTypes.toList).any (Try.prog.veiledRec ·)) = true := by kernel_rfl
theorem g2Muls_k31 : Rows.g2MulsRow.veiledFits Try.prog Try.f18.params.toList (Try.f18.params.toList ++ Rows.g2MulsSpec.plain.varTypes Try.prog ++ Try.f18.resultTypes.toList) = true := by kernel_rfl
set_option maxRecDepth 100000 in
theorem g2Muls_join : joinedFacts Try.prog 18 Try.f18 Rows.g2MulsSpec Rows.g2MulsRow = true := joined_mk g2Muls_k0 g2Muls_k1 g2Muls_k2 g2Muls_k3 g2Muls_k4 g2Muls_k5 g2Muls_k6 g2Muls_k7 g2Muls_k8 g2Muls_k9 g2Muls_k10 g2Muls_k11 g2Muls_k12 g2Muls_k13 g2Muls_k14 g2Muls_k15 g2Muls_k16 g2Muls_k17 g2Muls_k18 g2Muls_k19 g2Muls_k20 g2Muls_k21 g2Muls_k22 g2Muls_k23 g2Muls_k24 g2Muls_k25 g2Muls_k26 g2Muls_k27 g2Muls_k28 g2Muls_k29 g2Muls_k30 g2Muls_k31
theorem g2Muls_named : Try.prog.funcNamed Rows.g2MulsRow.func = some 18 := by kernel_rfl
theorem g2Muls_wrap : Try.f18.isWrapper Try.prog Rows.g2MulsRow.wrapper Rows.g2MulsRow.mainSum := by unfold Func.isWrapper; first | (rw [if_pos (by decide +kernel)]; kernel_rfl) | (rw [if_neg (by decide +kernel)]; exact ⟨rfl, rfl⟩)
theorem g2Muls_over : Rows.g2MulsRow.holds Try.pinned (OpenSpec.ofChange Rows.g2MulsSpec) :=
  OpenClaim.holds_of_wide 18 Try.f18 rfl rfl rfl rfl rfl rfl rfl ⟨rfl, rfl, rfl, rfl, rfl⟩ rfl rfl rfl rfl rfl g2Muls_named Try.func18 g2Muls_join
    (of_decide_eq_true (by kernel_rfl)) g2Muls_wrap
    (fun os started H enc _ => g2Muls_lifted os started H enc)

/-- The statement. -/
theorem g2Muls_holds : Rows.G2MulsSaid := g2Muls_over
#print axioms g2Muls_holds
end Go.Proofs.Ytkbbocpahnlkkaa
