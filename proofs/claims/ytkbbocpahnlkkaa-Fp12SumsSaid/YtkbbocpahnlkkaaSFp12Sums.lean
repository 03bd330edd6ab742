/-
  Fp12Sums: for every input the call returns true, and each argument reads behind it as before. No condition.
-/
import Derived.Test.YtkbbocpahnlkkaaRows
import Derived.Test.YtkbbocpahnlkkaaSay
import Derived.Test.YtkbbocpahnlkkaaJoin
import Derived.Test.YtkbbocpahnlkkaaK
import Derived.Test.YtkbbocpahnlkkaaLaR10
import Derived.ProofKit
import Derived.OpenShut
namespace Go.Proofs.Ytkbbocpahnlkkaa
open Go Go.Eng Go.RowKit Go.ChangeShapes Go.WideShapes Go.ChangeAt
set_option linter.unusedVariables false

set_option maxRecDepth 100000 in
theorem fp12Sums_lifted (os : Os) (started : os.Started) (H : Type) (enc : TypeId × Value → H) :
    ReturnsInHanded {} Try.checked os 5 .any (Rows.fp12SumsSpec.pre6 enc Try.prog Try.f5 Rows.fp12SumsRow.domain false) (Rows.fp12SumsSpec.post enc Try.prog Try.f5 false true false false) := by
  refine lifted_any (C := Try.checked) say_own started (by kernel_rfl) Try.func5
    (ChangeSpec.witness6 (enc := enc) (C := Try.checked) false ⟨#[], #[.agg (Array.replicate 72 (.int .u64 0)), .agg (Array.replicate 72 (.int .u64 0))], []⟩ 8 (by kernel_rfl) (by kernel_rfl) (by kernel_rfl) (by kernel_rfl))
    say_laid (by kernel_rfl) rfl (tb := 4) (by kernel_rfl) (by kernel_rfl) (fun ds hd => ?_) ?_
  · rw [Try.params5] at hd
    match ds, hd with
    | [d0, d1], _ => exact ⟨rfl, rfl, rfl⟩
  · intro W base args ds ps hval hA hlt
    rw [Try.params5] at hA hval
    obtain ⟨v0, vs0, d0, ds0, p0, q0, hargs, rfl, rfl, h0, r0⟩ := trodAll_cons hA
    obtain ⟨v1, vs1, d1, ds1, p1, q1, rfl, rfl, rfl, h1, r1⟩ := trodAll_cons r0
    obtain ⟨rfl, rfl, rfl⟩ := trodAll_nil r1
    obtain rfl : args = #[v0, v1] := by cases args; simp_all
    obtain ⟨a0, s0, rfl⟩ := open_nm (A := N12) (by kernel_rfl) (by kernel_rfl) (by kernel_rfl) (hval 0 30 v0 rfl rfl) h0
    obtain ⟨a1, s1, rfl⟩ := open_nm (A := N12) (by kernel_rfl) (by kernel_rfl) (by kernel_rfl) (hval 1 30 v1 rfl rfl) h1
    exact fp12Sums_gives a0 s0 a1 s1 W

theorem fp12Sums_k0 : Rows.fp12SumsRow.wf (OpenSpec.ofChange Rows.fp12SumsSpec) = true := by kernel_rfl
theorem fp12Sums_k1 : laidOutB Try.prog = true := by kernel_rfl
theorem fp12Sums_k2 : mapsRowed Try.prog = true := by kernel_rfl
theorem fp12Sums_k3 : Try.f5.params.all (Try.prog.readableRec ·) = true := by kernel_rfl
theorem fp12Sums_k4 : namedTie Try.prog Rows.fp12SumsRow.named Rows.fp12SumsSpec.vars = true := by kernel_rfl
theorem fp12Sums_k5 : (Rows.fp12SumsRow.stops == []) = true := by kernel_rfl
theorem fp12Sums_k6 : (Try.prog.stops == []) = true := by kernel_rfl
theorem fp12Sums_k7 : (Rows.fp12SumsRow.knobs == []) = true := by kernel_rfl
theorem fp12Sums_k8 : (Try.prog.stopKnobs == []) = true := by kernel_rfl
theorem fp12Sums_k9 : (Rows.fp12SumsRow.inPlace == Try.prog.inPlace 5) = true := by kernel_rfl
theorem fp12Sums_k10 : (Rows.fp12SumsRow.unfollowed == Try.prog.unfollowed 5) = true := by kernel_rfl
theorem fp12Sums_k11 : (Rows.fp12SumsRow.recurses == Try.prog.recurses 5) = true := by kernel_rfl
theorem fp12Sums_k12 : (Rows.fp12SumsRow.named == Try.prog.varsNamed 5) = true := by kernel_rfl
theorem fp12Sums_k13 : (Rows.fp12SumsRow.maps == (Try.f5.params.toList ++ Rows.fp12SumsSpec.plain.varTypes Try.prog).any (Try.prog.mapsRec ·)) = true := by kernel_rfl
theorem fp12Sums_k14 : (Rows.fp12SumsRow.ifaces == (Try.f5.params.toList ++ Rows.fp12SumsSpec.plain.varTypes Try.prog).any (Try.prog.ifacesRec ·)) = true := by kernel_rfl
theorem fp12Sums_k15 : (Rows.fp12SumsRow.mapsOut == Try.prog.mapsAmong Try.f5.resultTypes.toList) = true := by kernel_rfl
theorem fp12Sums_k16 : (Rows.fp12SumsRow.loops == (Try.f5.params.toList ++ Rows.fp12SumsSpec.plain.varTypes Try.prog).any (Try.prog.loopsFrom ·)) = true := by kernel_rfl
theorem fp12Sums_k17 : (Rows.fp12SumsRow.wideKeys == (Try.f5.params.toList ++ Rows.fp12SumsSpec.plain.varTypes Try.prog ++ Try.f5.resultTypes.toList).any (Try.prog.wideKeysFrom ·)) = true := by kernel_rfl
theorem fp12Sums_k18 : Rows.fp12SumsSpec.vars.all (Try.prog.varReadable ·) = true := by kernel_rfl
theorem fp12Sums_k19 : Try.f5.resultTypes.all (fun t => Try.prog.readableRec t && decide (t < Try.prog.types.size)) = true := by kernel_rfl
theorem fp12Sums_k20 : (Rows.fp12SumsRow.ifacesOut == Try.f5.resultTypes.toList.any (Try.prog.ifacesRec ·)) = true := by kernel_rfl
theorem fp12Sums_k21 : (Rows.fp12SumsRow.loopsOut == Try.f5.resultTypes.toList.any (Try.prog.loopsFrom ·)) = true := by kernel_rfl
theorem fp12Sums_k22 : (Rows.fp12SumsRow.plainKeys == Try.prog.plainKeys) = true := by kernel_rfl
theorem fp12Sums_k23 : Rows.fp12SumsRow.shortTexts.isNone = true := by kernel_rfl
theorem fp12Sums_k24 : Try.prog.stopsHeard = true := by kernel_rfl
theorem fp12Sums_k25 : Try.prog.mayEnter = true := sk25
theorem fp12Sums_k26 : (Rows.fp12SumsRow.lifted == Try.prog.liftsFinal) = true := (congrArg (· == Try.prog.liftsFinal) (show Rows.fp12SumsRow.lifted = Rows.frobSquaresRow.lifted by kernel_rfl)).trans sk26
theorem fp12Sums_k27 : (Try.prog.make == some Rows.fp12SumsRow.make) = true := (congrArg (fun m => Try.prog.make == some m) (show Rows.fp12SumsRow.make = Rows.frobSquaresRow.make by kernel_rfl)).trans sk27
theorem fp12Sums_k28 : (Rows.fp12SumsRow.kinds == (if Rows.fp12SumsRow.domain.isEmpty then [] else Try.f5.params.toList.map fun t => match Try.prog.underlying t with | some (.int k) => some k | _ => none)) = true := by kernel_rfl
theorem fp12Sums_k29 : (Rows.fp12SumsRow.pinned == Rows.fp12SumsRow.pinnedBy) = true := by kernel_rfl
theorem fp12Sums_k30 : (Rows.fp12SumsRow.veiled == (Try.f5.params.toList ++ Rows.fp12SumsSpec.plain.varTypes Try.prog ++ Try.f5.resultTypes.toList).any (Try.prog.veiledRec ·)) = true := by kernel_rfl
theorem fp12Sums_k31 : Rows.fp12SumsRow.veiledFits Try.prog Try.f5.params.toList (Try.f5.params.toList ++ Rows.fp12SumsSpec.plain.varTypes Try.prog ++ Try.f5.resultTypes.toList) = true := by kernel_rfl
set_option maxRecDepth 100000 in
theorem fp12Sums_join : joinedFacts Try.prog 5 Try.f5 Rows.fp12SumsSpec Rows.fp12SumsRow = true := joined_mk fp12Sums_k0 fp12Sums_k1 fp12Sums_k2 fp12Sums_k3 fp12Sums_k4 fp12Sums_k5 fp12Sums_k6 fp12Sums_k7 fp12Sums_k8 fp12Sums_k9 fp12Sums_k10 fp12Sums_k11 fp12Sums_k12 fp12Sums_k13 fp12Sums_k14 fp12Sums_k15 fp12Sums_k16 fp12Sums_k17 fp12Sums_k18 fp12Sums_k19 fp12Sums_k20 fp12Sums_k21 fp12Sums_k22 fp12Sums_k23 fp12Sums_k24 fp12Sums_k25 fp12Sums_k26 fp12Sums_k27 fp12Sums_k28 fp12Sums_k29 fp12Sums_k30 fp12Sums_k31
theorem fp12Sums_named : Try.prog.funcNamed Rows.fp12SumsRow.func = some 5 := by kernel_rfl
theorem fp12Sums_wrap : Try.f5.isWrapper Try.prog Rows.fp12SumsRow.wrapper Rows.fp12SumsRow.mainSum := by unfold Func.isWrapper; first | (rw [if_pos (by decide +kernel)]; kernel_rfl) | (rw [if_neg (by decide +kernel)]; exact ⟨rfl, rfl⟩)
theorem fp12Sums_over : Rows.fp12SumsRow.holds Try.pinned (OpenSpec.ofChange Rows.fp12SumsSpec) :=
  OpenClaim.holds_of_wide 5 Try.f5 rfl rfl rfl rfl rfl rfl rfl ⟨rfl, rfl, rfl, rfl, rfl⟩ rfl rfl rfl rfl rfl fp12Sums_named Try.func5 fp12Sums_join
    (of_decide_eq_true (by kernel_rfl)) fp12Sums_wrap
    (fun os started H enc _ => fp12Sums_lifted os started H enc)

/-- The statement. -/
theorem fp12Sums_holds : Rows.Fp12SumsSaid := fp12Sums_over
#print axioms fp12Sums_holds
end Go.Proofs.Ytkbbocpahnlkkaa
