/-
  Fp2Powers: for every input the call returns true, and each argument reads behind it as before. No condition.
-/
import Derived.Test.YtkbbocpahnlkkaaRows
import Derived.Test.YtkbbocpahnlkkaaSay
import Derived.Test.YtkbbocpahnlkkaaJoin
import Derived.Test.YtkbbocpahnlkkaaK
import Derived.Test.YtkbbocpahnlkkaaLaS
import Derived.ProofKit
import Derived.OpenShut
namespace Go.Proofs.Ytkbbocpahnlkkaa
open Go Go.Eng Go.RowKit Go.ChangeShapes Go.WideShapes Go.ChangeAt
set_option linter.unusedVariables false

set_option maxRecDepth 100000 in
theorem fp2Powers_lifted (os : Os) (started : os.Started) (H : Type) (enc : TypeId × Value → H) :
    ReturnsInHanded {} Try.checked os 6 .any (Rows.fp2PowersSpec.pre6 enc Try.prog Try.f6 Rows.fp2PowersRow.domain false) (Rows.fp2PowersSpec.post enc Try.prog Try.f6 false true false false) := by
  refine lifted_any (C := Try.checked) say_own started (by kernel_rfl) Try.func6
    (ChangeSpec.witness6 (enc := enc) (C := Try.checked) false ⟨#[], #[.agg (Array.replicate 12 (.int .u64 0)), .slice none 0 0], []⟩ 8 (by kernel_rfl) (by kernel_rfl) (by kernel_rfl) (by kernel_rfl))
    say_laid (by kernel_rfl) rfl (tb := 4) (by kernel_rfl) (by kernel_rfl) (fun ds hd => ?_) ?_
  · rw [Try.params6] at hd
    match ds, hd with
    | [d0, d1], _ => exact ⟨rfl, rfl, rfl⟩
  · intro W base args ds ps hval hA hlt
    rw [Try.params6] at hA hval
    obtain ⟨v0, vs0, d0, ds0, p0, q0, hargs, rfl, rfl, h0, r0⟩ := trodAll_cons hA
    obtain ⟨v1, vs1, d1, ds1, p1, q1, rfl, rfl, rfl, h1, r1⟩ := trodAll_cons r0
    obtain ⟨rfl, rfl, rfl⟩ := trodAll_nil r1
    obtain rfl : args = #[v0, v1] := by cases args; simp_all
    obtain ⟨a0, s0, rfl⟩ := open_nm (A := N2) (by kernel_rfl) (by kernel_rfl) (by kernel_rfl) (hval 0 26 v0 rfl rfl) h0
    exact fp2Powers_gives a0 s0 v1 W (open_words (e := 22) (by kernel_rfl) (by kernel_rfl) (by kernel_rfl) (hval 1 39 v1 rfl rfl) h1)

theorem fp2Powers_k0 : Rows.fp2PowersRow.wf (OpenSpec.ofChange Rows.fp2PowersSpec) = true := by kernel_rfl
theorem fp2Powers_k1 : laidOutB Try.prog = true := by kernel_rfl
theorem fp2Powers_k2 : mapsRowed Try.prog = true := by kernel_rfl
theorem fp2Powers_k3 : Try.f6.params.all (Try.prog.readableRec ·) = true := by kernel_rfl
theorem fp2Powers_k4 : namedTie Try.prog Rows.fp2PowersRow.named Rows.fp2PowersSpec.vars = true := by kernel_rfl
theorem fp2Powers_k5 : (Rows.fp2PowersRow.stops == []) = true := by kernel_rfl
theorem fp2Powers_k6 : (Try.prog.stops == []) = true := by kernel_rfl
theorem fp2Powers_k7 : (Rows.fp2PowersRow.knobs == []) = true := by kernel_rfl
theorem fp2Powers_k8 : (Try.prog.stopKnobs == []) = true := by kernel_rfl
theorem fp2Powers_k9 : (Rows.fp2PowersRow.inPlace == Try.prog.inPlace 6) = true := by kernel_rfl
theorem fp2Powers_k10 : (Rows.fp2PowersRow.unfollowed == Try.prog.unfollowed 6) = true := by kernel_rfl
theorem fp2Powers_k11 : (Rows.fp2PowersRow.recurses == Try.prog.recurses 6) = true := by kernel_rfl
theorem fp2Powers_k12 : (Rows.fp2PowersRow.named == Try.prog.varsNamed 6) = true := by kernel_rfl
theorem fp2Powers_k13 : (Rows.fp2PowersRow.maps == (Try.f6.params.toList ++ Rows.fp2PowersSpec.plain.varTypes Try.prog).any (Try.prog.mapsRec ·)) = true := by kernel_rfl
theorem fp2Powers_k14 : (Rows.fp2PowersRow.ifaces == (Try.f6.params.toList ++ Rows.fp2PowersSpec.plain.varTypes Try.prog).any (Try.prog.ifacesRec ·)) = true := by kernel_rfl
theorem fp2Powers_k15 : (Rows.fp2PowersRow.mapsOut == Try.prog.mapsAmong Try.f6.resultTypes.toList) = true := by kernel_rfl
theorem fp2Powers_k16 : (Rows.fp2PowersRow.loops == (Try.f6.params.toList ++ Rows.fp2PowersSpec.plain.varTypes Try.prog).any (Try.prog.loopsFrom ·)) = true := by kernel_rfl
theorem fp2Powers_k17 : (Rows.fp2PowersRow.wideKeys == (Try.f6.params.toList ++ Rows.fp2PowersSpec.plain.varTypes Try.prog ++ Try.f6.resultTypes.toList).any (Try.prog.wideKeysFrom ·)) = true := by kernel_rfl
theorem fp2Powers_k18 : Rows.fp2PowersSpec.vars.all (Try.prog.varReadable ·) = true := by kernel_rfl
theorem fp2Powers_k19 : Try.f6.resultTypes.all (fun t => Try.prog.readableRec t && decide (t < Try.prog.types.size)) = true := by kernel_rfl
theorem fp2Powers_k20 : (Rows.fp2PowersRow.ifacesOut == Try.f6.resultTypes.toList.any (Try.prog.ifacesRec ·)) = true := by kernel_rfl
theorem fp2Powers_k21 : (Rows.fp2PowersRow.loopsOut == Try.f6.resultTypes.toList.any (Try.prog.loopsFrom ·)) = true := by kernel_rfl
theorem fp2Powers_k22 : (Rows.fp2PowersRow.plainKeys == Try.prog.plainKeys) = true := by kernel_rfl
theorem fp2Powers_k23 : Rows.fp2PowersRow.shortTexts.isNone = true := by kernel_rfl
theorem fp2Powers_k24 : Try.prog.stopsHeard = true := by kernel_rfl
theorem fp2Powers_k25 : Try.prog.mayEnter = true := sk25
theorem fp2Powers_k26 : (Rows.fp2PowersRow.lifted == Try.prog.liftsFinal) = true := (congrArg (· == Try.prog.liftsFinal) (show Rows.fp2PowersRow.lifted = Rows.frobSquaresRow.lifted by kernel_rfl)).trans sk26
theorem fp2Powers_k27 : (Try.prog.make == some Rows.fp2PowersRow.make) = true := (congrArg (fun m => Try.prog.make == some m) (show Rows.fp2PowersRow.make = Rows.frobSquaresRow.make by kernel_rfl)).trans sk27
theorem fp2Powers_k28 : (Rows.fp2PowersRow.kinds == (if Rows.fp2PowersRow.domain.isEmpty then [] else Try.f6.params.toList.map fun t => match Try.prog.underlying t with | some (.int k) => some k | _ => none)) = true := by kernel_rfl
theorem fp2Powers_k29 : (Rows.fp2PowersRow.pinned == Rows.fp2PowersRow.pinnedBy) = true := by kernel_rfl
theorem fp2Powers_k30 : (Rows.fp2PowersRow.veiled == (Try.f6.params.toList ++ Rows.fp2PowersSpec.plain.varTypes Try.prog ++ Try.f6.resultTypes.toList).any (Try.prog.veiledRec ·)) = true := by kernel_rfl
theorem fp2Powers_k31 : Rows.fp2PowersRow.veiledFits Try.prog Try.f6.params.toList (Try.f6.params.toList ++ Rows.fp2PowersSpec.plain.varTypes Try.prog ++ Try.f6.resultTypes.toList) = true := by kernel_rfl
set_option maxRecDepth 100000 in
theorem fp2Powers_join : joinedFacts Try.prog 6 Try.f6 Rows.fp2PowersSpec Rows.fp2PowersRow = true := joined_mk fp2Powers_k0 fp2Powers_k1 fp2Powers_k2 fp2Powers_k3 fp2Powers_k4 fp2Powers_k5 fp2Powers_k6 fp2Powers_k7 fp2Powers_k8 fp2Powers_k9 fp2Powers_k10 fp2Powers_k11 fp2Powers_k12 fp2Powers_k13 fp2Powers_k14 fp2Powers_k15 fp2Powers_k16 fp2Powers_k17 fp2Powers_k18 fp2Powers_k19 fp2Powers_k20 fp2Powers_k21 fp2Powers_k22 fp2Powers_k23 fp2Powers_k24 fp2Powers_k25 fp2Powers_k26 fp2Powers_k27 fp2Powers_k28 fp2Powers_k29 fp2Powers_k30 fp2Powers_k31
theorem fp2Powers_named : Try.prog.funcNamed Rows.fp2PowersRow.func = some 6 := by kernel_rfl
theorem fp2Powers_wrap : Try.f6.isWrapper Try.prog Rows.fp2PowersRow.wrapper Rows.fp2PowersRow.mainSum := by unfold Func.isWrapper; first | (rw [if_pos (by decide +kernel)]; kernel_rfl) | (rw [if_neg (by decide +kernel)]; exact ⟨rfl, rfl⟩)
theorem fp2Powers_over : Rows.fp2PowersRow.holds Try.pinned (OpenSpec.ofChange Rows.fp2PowersSpec) :=
  OpenClaim.holds_of_wide 6 Try.f6 rfl rfl rfl rfl rfl rfl rfl ⟨rfl, rfl, rfl, rfl, rfl⟩ rfl rfl rfl rfl rfl fp2Powers_named Try.func6 fp2Powers_join
    (of_decide_eq_true (by kernel_rfl)) fp2Powers_wrap
    (fun os started H enc _ => fp2Powers_lifted os started H enc)

/-- The statement. -/
theorem fp2Powers_holds : Rows.Fp2PowersSaid := fp2Powers_over
#print axioms fp2Powers_holds
end Go.Proofs.Ytkbbocpahnlkkaa
