/-
  Fp6Sums: for every input the call returns true, and each argument reads behind it as before. No condition.
-/
import Derived.Test.YtkbbocpahnlkkaaRows
import Derived.Test.YtkbbocpahnlkkaaSay
import Derived.Test.YtkbbocpahnlkkaaJoin
import Derived.Test.YtkbbocpahnlkkaaK
import Derived.Test.YtkbbocpahnlkkaaLaR9
import Derived.ProofKit
import Derived.OpenShut
namespace Go.Proofs.Ytkbbocpahnlkkaa
open Go Go.Eng Go.RowKit Go.ChangeShapes Go.WideShapes Go.ChangeAt
set_option linter.unusedVariables false

set_option maxRecDepth 100000 in
theorem fp6Sums_lifted (os : Os) (started : os.Started) (H : Type) (enc : TypeId × Value → H) :
    ReturnsInHanded {} Try.checked os 12 .any (Rows.fp6SumsSpec.pre6 enc Try.prog Try.f12 Rows.fp6SumsRow.domain false) (Rows.fp6SumsSpec.post enc Try.prog Try.f12 false true false false) := by
  refine lifted_any (C := Try.checked) say_own started (by kernel_rfl) Try.func12
    (ChangeSpec.witness6 (enc := enc) (C := Try.checked) false ⟨#[], #[.agg (Array.replicate 36 (.int .u64 0)), .agg (Array.replicate 36 (.int .u64 0)), .agg (Array.replicate 12 (.int .u64 0))], []⟩ 8 (by kernel_rfl) (by kernel_rfl) (by kernel_rfl) (by kernel_rfl))
    say_laid (by kernel_rfl) rfl (tb := 4) (by kernel_rfl) (by kernel_rfl) (fun ds hd => ?_) ?_
  · rw [Try.params12] at hd
    match ds, hd with
    | [d0, d1, d2], _ => exact ⟨rfl, rfl, rfl⟩
  · intro W base args ds ps hval hA hlt
    rw [Try.params12] at hA hval
    obtain ⟨v0, vs0, d0, ds0, p0, q0, hargs, rfl, rfl, h0, r0⟩ := trodAll_cons hA
    obtain ⟨v1, vs1, d1, ds1, p1, q1, rfl, rfl, rfl, h1, r1⟩ := trodAll_cons r0
    obtain ⟨v2, vs2, d2, ds2, p2, q2, rfl, rfl, rfl, h2, r2⟩ := trodAll_cons r1
    obtain ⟨rfl, rfl, rfl⟩ := trodAll_nil r2
    obtain rfl : args = #[v0, v1, v2] := by cases args; simp_all
    obtain ⟨a0, s0, rfl⟩ := open_nm (A := N6) (by kernel_rfl) (by kernel_rfl) (by kernel_rfl) (hval 0 28 v0 rfl rfl) h0
    obtain ⟨a1, s1, rfl⟩ := open_nm (A := N6) (by kernel_rfl) (by kernel_rfl) (by kernel_rfl) (hval 1 28 v1 rfl rfl) h1
    obtain ⟨a2, s2, rfl⟩ := open_nm (A := N2) (by kernel_rfl) (by kernel_rfl) (by kernel_rfl) (hval 2 26 v2 rfl rfl) h2
    exact fp6Sums_gives a0 s0 a1 s1 a2 s2 W

theorem fp6Sums_k0 : Rows.fp6SumsRow.wf (OpenSpec.ofChange Rows.fp6SumsSpec) = true := by kernel_rfl
theorem fp6Sums_k1 : laidOutB Try.prog = true := by kernel_rfl
theorem fp6Sums_k2 : mapsRowed Try.prog = true := by kernel_rfl
theorem fp6Sums_k3 : Try.f12.params.all (Try.prog.readableRec ·) = true := by kernel_rfl
theorem fp6Sums_k4 : namedTie Try.prog Rows.fp6SumsRow.named Rows.fp6SumsSpec.vars = true := by kernel_rfl
theorem fp6Sums_k5 : (Rows.fp6SumsRow.stops == []) = true := by kernel_rfl
theorem fp6Sums_k6 : (Try.prog.stops == []) = true := by kernel_rfl
theorem fp6Sums_k7 : (Rows.fp6SumsRow.knobs == []) = true := by kernel_rfl
theorem fp6Sums_k8 : (Try.prog.stopKnobs == []) = true := by kernel_rfl
theorem fp6Sums_k9 : (Rows.fp6SumsRow.inPlace == Try.prog.inPlace 12) = true := by kernel_rfl
theorem fp6Sums_k10 : (Rows.fp6SumsRow.unfollowed == Try.prog.unfollowed 12) = true := by kernel_rfl
theorem fp6Sums_k11 : (Rows.fp6SumsRow.recurses == Try.prog.recurses 12) = true := by kernel_rfl
theorem fp6Sums_k12 : (Rows.fp6SumsRow.named == Try.prog.varsNamed 12) = true := by kernel_rfl
theorem fp6Sums_k13 : (Rows.fp6SumsRow.maps == (Try.f12.params.toList ++ Rows.fp6SumsSpec.plain.varTypes Try.prog).any (Try.prog.mapsRec ·)) = true := by kernel_rfl
theorem fp6Sums_k14 : (Rows.fp6SumsRow.ifaces == (Try.f12.params.toList ++ Rows.fp6SumsSpec.plain.varTypes Try.prog).any (Try.prog.ifacesRec ·)) = true := by kernel_rfl
theorem fp6Sums_k15 : (Rows.fp6SumsRow.mapsOut == Try.prog.mapsAmong Try.f12.resultTypes.toList) = true := by kernel_rfl
theorem fp6Sums_k16 : (Rows.fp6SumsRow.loops == (Try.f12.params.toList ++ Rows.fp6SumsSpec.plain.varTypes Try.prog).any (Try.prog.loopsFrom ·)) = true := by kernel_rfl
theorem fp6Sums_k17 : (Rows.fp6SumsRow.wideKeys == (Try.f12.params.toList ++ Rows.fp6SumsSpec.plain.varTypes Try.prog ++ Try.f12.resultTypes.toList).any (Try.prog.wideKeysFrom ·)) = true := by kernel_rfl
theorem fp6Sums_k18 : Rows.fp6SumsSpec.vars.all (Try.prog.varReadable ·) = true := by kernel_rfl
theorem fp6Sums_k19 : Try.f12.resultTypes.all (fun t => Try.prog.readableRec t && decide (t < Try.prog.types.size)) = true := by kernel_rfl
theorem fp6Sums_k20 : (Rows.fp6SumsRow.ifacesOut == Try.f12.resultTypes.toList.any (Try.prog.ifacesRec ·)) = true := by kernel_rfl
theorem fp6Sums_k21 : (Rows.fp6SumsRow.loopsOut == Try.f12.resultTypes.toList.any (Try.prog.loopsFrom ·)) = true := by kernel_rfl
theorem fp6Sums_k22 : (Rows.fp6SumsRow.plainKeys == Try.prog.plainKeys) = true := by kernel_rfl
theorem fp6Sums_k23 : Rows.fp6SumsRow.shortTexts.isNone = true := by kernel_rfl
theorem fp6Sums_k24 : Try.prog.stopsHeard = true := by kernel_rfl
theorem fp6Sums_k25 : Try.prog.mayEnter = true := sk25
theorem fp6Sums_k26 : (Rows.fp6SumsRow.lifted == Try.prog.liftsFinal) = true := (congrArg (· == Try.prog.liftsFinal) (show Rows.fp6SumsRow.lifted = Rows.frobSquaresRow.lifted by kernel_rfl)).trans sk26
theorem fp6Sums_k27 : (Try.prog.make == some Rows.fp6SumsRow.make) = true := (congrArg (fun m => Try.prog.make == some m) (show Rows.fp6SumsRow.make = Rows.frobSquaresRow.make by kernel_rfl)).trans sk27
theorem fp6Sums_k28 : (Rows.fp6SumsRow.kinds == (if Rows.fp6SumsRow.domain.isEmpty then [] else Try.f12.params.toList.map fun t => match Try.prog.underlying t with | some (.int k) => some k | _ => none)) = true := by kernel_rfl
theorem fp6Sums_k29 : (Rows.fp6SumsRow.pinned == Rows.fp6SumsRow.pinnedBy) = true := by kernel_rfl
theorem fp6Sums_k30 : (Rows.fp6SumsRow.veiled == (Try.f12.params.toList ++ Rows.fp6SumsSpec.plain.varTypes Try.prog ++ Try.f12.resultTypes.toList).any (Try.prog.veiledRec ·)) = true := by kernel_rfl
theorem fp6Sums_k31 : Rows.fp6SumsRow.veiledFits Try.prog Try.f12.params.toList (Try.f12.params.toList ++ Rows.fp6SumsSpec.plain.varTypes Try.prog ++ Try.f12.resultTypes.toList) = true := by kernel_rfl
set_option maxRecDepth 100000 in
theorem fp6Sums_join : joinedFacts Try.prog 12 Try.f12 Rows.fp6SumsSpec Rows.fp6SumsRow = true := joined_mk fp6Sums_k0 fp6Sums_k1 fp6Sums_k2 fp6Sums_k3 fp6Sums_k4 fp6Sums_k5 fp6Sums_k6 fp6Sums_k7 fp6Sums_k8 fp6Sums_k9 fp6Sums_k10 fp6Sums_k11 fp6Sums_k12 fp6Sums_k13 fp6Sums_k14 fp6Sums_k15 fp6Sums_k16 fp6Sums_k17 fp6Sums_k18 fp6Sums_k19 fp6Sums_k20 fp6Sums_k21 fp6Sums_k22 fp6Sums_k23 fp6Sums_k24 fp6Sums_k25 fp6Sums_k26 fp6Sums_k27 fp6Sums_k28 fp6Sums_k29 fp6Sums_k30 fp6Sums_k31
theorem fp6Sums_named : Try.prog.funcNamed Rows.fp6SumsRow.func = some 12 := by kernel_rfl
theorem fp6Sums_wrap : Try.f12.isWrapper Try.prog Rows.fp6SumsRow.wrapper Rows.fp6SumsRow.mainSum := by unfold Func.isWrapper; first | (rw [if_pos (by decide +kernel)]; kernel_rfl) | (rw [if_neg (by decide +kernel)]; exact ⟨rfl, rfl⟩)
theorem fp6Sums_over : Rows.fp6SumsRow.holds Try.pinned (OpenSpec.ofChange Rows.fp6SumsSpec) :=
  OpenClaim.holds_of_wide 12 Try.f12 rfl rfl rfl rfl rfl rfl rfl ⟨rfl, rfl, rfl, rfl, rfl⟩ rfl rfl rfl rfl rfl fp6Sums_named Try.func12 fp6Sums_join
    (of_decide_eq_true (by kernel_rfl)) fp6Sums_wrap
    (fun os started H enc _ => fp6Sums_lifted os started H enc)

/-- The statement. -/
theorem fp6Sums_holds : Rows.Fp6SumsSaid := fp6Sums_over
#print axioms fp6Sums_holds
end Go.Proofs.Ytkbbocpahnlkkaa
