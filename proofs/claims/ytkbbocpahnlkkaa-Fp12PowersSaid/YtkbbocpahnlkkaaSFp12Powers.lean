/-
  Fp12Powers: for every input the call returns true, and each argument reads behind it as before. No condition.
-/
import Derived.Test.YtkbbocpahnlkkaaRows
import Derived.Test.YtkbbocpahnlkkaaSay
import Derived.Test.YtkbbocpahnlkkaaJoin
import Derived.Test.YtkbbocpahnlkkaaK
import Derived.Test.YtkbbocpahnlkkaaLaS
import Derived.ProofKit
import Derived.OpenShut
namespace Go.Proofs.Ytkbbocpahnlkkaa
open Go Go.Eng Go.RowKit Go.ChangeShapes Go.WideShapes Go.ChangeAt
set_option linter.unusedVariables false

set_option maxRecDepth 100000 in
theorem fp12Powers_lifted (os : Os) (started : os.Started) (H : Type) (enc : TypeId × Value → H) :
    ReturnsInHanded {} Try.checked os 16 .any (Rows.fp12PowersSpec.pre6 enc Try.prog Try.f16 Rows.fp12PowersRow.domain false) (Rows.fp12PowersSpec.post enc Try.prog Try.f16 false true false false) := by
  refine lifted_any (C := Try.checked) say_own started (by kernel_rfl) Try.func16
    (ChangeSpec.witness6 (enc := enc) (C := Try.checked) false ⟨#[], #[.agg (Array.replicate 72 (.int .u64 0)), .slice none 0 0], []⟩ 8 (by kernel_rfl) (by kernel_rfl) (by kernel_rfl) (by kernel_rfl))
    say_laid (by kernel_rfl) rfl (tb := 4) (by kernel_rfl) (by kernel_rfl) (fun ds hd => ?_) ?_
  · rw [Try.params16] at hd
    match ds, hd with
    | [d0, d1], _ => exact ⟨rfl, rfl, rfl⟩
  · intro W base args ds ps hval hA hlt
    rw [Try.params16] at hA hval
    obtain ⟨v0, vs0, d0, ds0, p0, q0, hargs, rfl, rfl, h0, r0⟩ := trodAll_cons hA
    obtain ⟨v1, vs1, d1, ds1, p1, q1, rfl, rfl, rfl, h1, r1⟩ := trodAll_cons r0
    obtain ⟨rfl, rfl, rfl⟩ := trodAll_nil r1
    obtain rfl : args = #[v0, v1] := by cases args; simp_all
    obtain ⟨a0, s0, rfl⟩ := open_nm (A := N12) (by kernel_rfl) (by kernel_rfl) (by kernel_rfl) (hval 0 30 v0 rfl rfl) h0
    exact fp12Powers_gives a0 s0 v1 W (open_words (e := 22) (by kernel_rfl) (by kernel_rfl) (by kernel_rfl) (hval 1 39 v1 rfl rfl) h1)

theorem fp12Powers_k0 : Rows.fp12PowersRow.wf (OpenSpec.ofChange Rows.fp12PowersSpec) = true := by kernel_rfl
theorem fp12Powers_k1 : laidOutB Try.prog = true := by kernel_rfl
theorem fp12Powers_k2 : mapsRowed Try.prog = true := by kernel_rfl
theorem fp12Powers_k3 : Try.f16.params.all (Try.prog.readableRec ·) = true := by kernel_rfl
theorem fp12Powers_k4 : namedTie Try.prog Rows.fp12PowersRow.named Rows.fp12PowersSpec.vars = true := by kernel_rfl
theorem fp12Powers_k5 : (Rows.fp12PowersRow.stops == []) = true := by kernel_rfl
theorem fp12Powers_k6 : (Try.prog.stops == []) = true := by kernel_rfl
theorem fp12Powers_k7 : (Rows.fp12PowersRow.knobs == []) = true := by kernel_rfl
theorem fp12Powers_k8 : (Try.prog.stopKnobs == []) = true := by kernel_rfl
theorem fp12Powers_k9 : (Rows.fp12PowersRow.inPlace == Try.prog.inPlace 16) = true := by kernel_rfl
theorem fp12Powers_k10 : (Rows.fp12PowersRow.unfollowed == Try.prog.unfollowed 16) = true := by kernel_rfl
theorem fp12Powers_k11 : (Rows.fp12PowersRow.recurses == Try.prog.recurses 16) = true := by kernel_rfl
theorem fp12Powers_k12 : (Rows.fp12PowersRow.named == Try.prog.varsNamed 16) = true := by kernel_rfl
theorem fp12Powers_k13 : (Rows.fp12PowersRow.maps == (Try.f16.params.toList ++ Rows.fp12PowersSpec.plain.varTypes Try.prog).any (Try.prog.mapsRec ·)) = true := by kernel_rfl
theorem fp12Powers_k14 : (Rows.fp12PowersRow.ifaces == (Try.f16.params.toList ++ Rows.fp12PowersSpec.plain.varTypes Try.prog).any (Try.prog.ifacesRec ·)) = true := by kernel_rfl
theorem fp12Powers_k15 : (Rows.fp12PowersRow.mapsOut == Try.prog.mapsAmong Try.f16.resultTypes.toList) = true := by kernel_rfl
theorem fp12Powers_k16 : (Rows.fp12PowersRow.loops == (Try.f16.params.toList ++ Rows.fp12PowersSpec.plain.varTypes Try.prog).any (Try.prog.loopsFrom ·)) = true := by kernel_rfl
theorem fp12Powers_k17 : (Rows.fp12PowersRow.wideKeys == (Try.f16.params.toList ++ Rows.fp12PowersSpec.plain.varTypes Try.prog ++ Try.f16.resultTypes.toList).any (Try.prog.wideKeysFrom ·)) = true := by kernel_rfl
theorem fp12Powers_k18 : Rows.fp12PowersSpec.vars.all (Try.prog.varReadable ·) = true := by kernel_rfl
theorem fp12Powers_k19 : Try.f16.resultTypes.all (fun t => Try.prog.readableRec t && decide (t < Try.prog.types.size)) = true := by kernel_rfl
theorem fp12Powers_k20 : (Rows.fp12PowersRow.ifacesOut == Try.f16.resultTypes.toList.any (Try.prog.ifacesRec ·)) = true := by kernel_rfl
theorem fp12Powers_k21 : (Rows.fp12PowersRow.loopsOut == Try.f16.resultTypes.toList.any (Try.prog.loopsFrom ·)) = true := by kernel_rfl
theorem fp12Powers_k22 : (Rows.fp12PowersRow.plainKeys == Try.prog.plainKeys) = true := by kernel_rfl
theorem fp12Powers_k23 : Rows.fp12PowersRow.shortTexts.isNone = true := by kernel_rfl
theorem fp12Powers_k24 : Try.prog.stopsHeard = true := by kernel_rfl
theorem fp12Powers_k25 : Try.prog.mayEnter = true := sk25
theorem fp12Powers_k26 : (Rows.fp12PowersRow.lifted == Try.prog.liftsFinal) = true := (congrArg (· == Try.prog.liftsFinal) (show Rows.fp12PowersRow.lifted = Rows.frobSquaresRow.lifted by kernel_rfl)).trans sk26
theorem fp12Powers_k27 : (Try.prog.make == some Rows.fp12PowersRow.make) = true := (congrArg (fun m => Try.prog.make == some m) (show Rows.fp12PowersRow.make = Rows.frobSquaresRow.make by kernel_rfl)).trans sk27
theorem fp12Powers_k28 : (Rows.fp12PowersRow.kinds == (if Rows.fp12PowersRow.domain.isEmpty then [] else Try.f16.params.toList.map fun t => match Try.prog.underlying t with | some (.int k) => some k | _ => none)) = true := by kernel_rfl
theorem fp12Powers_k29 : (Rows.fp12PowersRow.pinned == Rows.fp12PowersRow.pinnedBy) = true := by kernel_rfl
theorem fp12Powers_k30 : (Rows.fp12PowersRow.veiled == (Try.f16.params.toList ++ Rows.fp12PowersSpec.plain.varTypes Try.prog ++ Try.f16.resultTypes.toList).any (Try.prog.veiledRec ·)) = true := by kernel_rfl
theorem fp12Powers_k31 : Rows.fp12PowersRow.veiledFits Try.prog Try.f16.params.toList (Try.f16.params.toList ++ Rows.fp12PowersSpec.plain.varTypes Try.prog ++ Try.f16.resultTypes.toList) = true := by kernel_rfl
set_option maxRecDepth 100000 in
theorem fp12Powers_join : joinedFacts Try.prog 16 Try.f16 Rows.fp12PowersSpec Rows.fp12PowersRow = true := joined_mk fp12Powers_k0 fp12Powers_k1 fp12Powers_k2 fp12Powers_k3 fp12Powers_k4 fp12Powers_k5 fp12Powers_k6 fp12Powers_k7 fp12Powers_k8 fp12Powers_k9 fp12Powers_k10 fp12Powers_k11 fp12Powers_k12 fp12Powers_k13 fp12Powers_k14 fp12Powers_k15 fp12Powers_k16 fp12Powers_k17 fp12Powers_k18 fp12Powers_k19 fp12Powers_k20 fp12Powers_k21 fp12Powers_k22 fp12Powers_k23 fp12Powers_k24 fp12Powers_k25 fp12Powers_k26 fp12Powers_k27 fp12Powers_k28 fp12Powers_k29 fp12Powers_k30 fp12Powers_k31
theorem fp12Powers_named : Try.prog.funcNamed Rows.fp12PowersRow.func = some 16 := by kernel_rfl
theorem fp12Powers_wrap : Try.f16.isWrapper Try.prog Rows.fp12PowersRow.wrapper Rows.fp12PowersRow.mainSum := by unfold Func.isWrapper; first | (rw [if_pos (by decide +kernel)]; kernel_rfl) | (rw [if_neg (by decide +kernel)]; exact ⟨rfl, rfl⟩)
theorem fp12Powers_over : Rows.fp12PowersRow.holds Try.pinned (OpenSpec.ofChange Rows.fp12PowersSpec) :=
  OpenClaim.holds_of_wide 16 Try.f16 rfl rfl rfl rfl rfl rfl rfl ⟨rfl, rfl, rfl, rfl, rfl⟩ rfl rfl rfl rfl rfl fp12Powers_named Try.func16 fp12Powers_join
    (of_decide_eq_true (by kernel_rfl)) fp12Powers_wrap
    (fun os started H enc _ => fp12Powers_lifted os started H enc)

/-- The statement. -/
theorem fp12Powers_holds : Rows.Fp12PowersSaid := fp12Powers_over
#print axioms fp12Powers_holds
end Go.Proofs.Ytkbbocpahnlkkaa
