/-
  Fp2Conjugates: for every input the call returns true, and each argument reads behind it as before. No condition.
-/
import Derived.Test.YtkpihidjolfkoaaRows
import Derived.Test.YtkpihidjolfkoaaSay
import Derived.Test.YtkpihidjolfkoaaJoin
import Derived.Test.YtkpihidjolfkoaaLa7
import Derived.ProofKit
import Derived.OpenShut
namespace Go.Proofs.Ytkpihidjolfkoaa
open Go Go.Eng Go.RowKit Go.ChangeShapes Go.WideShapes Go.ChangeAt
set_option linter.unusedVariables false

set_option maxRecDepth 100000 in
theorem fp2Conjugates_lifted (os : Os) (started : os.Started) (H : Type) (enc : TypeId × Value → H) :
    ReturnsInHanded {} Try.checked os 10 .any (Rows.fp2ConjugatesSpec.pre6 enc Try.prog Try.f10 Rows.fp2ConjugatesRow.domain false) (Rows.fp2ConjugatesSpec.post enc Try.prog Try.f10 false true false false) := by
  refine lifted_any (C := Try.checked) say_own started (by kernel_rfl) Try.func10
    (ChangeSpec.witness6 (enc := enc) (C := Try.checked) false ⟨#[], #[.agg (Array.replicate 12 (.int .u64 0)), .agg (Array.replicate 12 (.int .u64 0))], []⟩ 8 (by kernel_rfl) (by kernel_rfl) (by kernel_rfl) (by kernel_rfl))
    say_laid (by kernel_rfl) rfl (tb := 4) (by kernel_rfl) (by kernel_rfl) (fun ds hd => ?_) ?_
  · rw [Try.params10] at hd
    match ds, hd with
    | [d0, d1], _ => exact ⟨rfl, rfl, rfl⟩
  · intro W base args ds ps hval hA hlt
    rw [Try.params10] at hA hval
    obtain ⟨v0, vs0, d0, ds0, p0, q0, hargs, rfl, rfl, h0, r0⟩ := trodAll_cons hA
    obtain ⟨v1, vs1, d1, ds1, p1, q1, rfl, rfl, rfl, h1, r1⟩ := trodAll_cons r0
    obtain ⟨rfl, rfl, rfl⟩ := trodAll_nil r1
    obtain rfl : args = #[v0, v1] := by cases args; simp_all
    obtain ⟨a0, s0, rfl⟩ := open_nm (A := N2) (by kernel_rfl) (by kernel_rfl) (by kernel_rfl) (hval 0 26 v0 rfl rfl) h0
    obtain ⟨a1, s1, rfl⟩ := open_nm (A := N2) (by kernel_rfl) (by kernel_rfl) (by kernel_rfl) (hval 1 26 v1 rfl rfl) h1
    exact fp2Conjugates_gives a0 s0 a1 s1 W

theorem fp2Conjugates_k0 : Rows.fp2ConjugatesRow.wf (OpenSpec.ofChange Rows.fp2ConjugatesSpec) = true := by kernel_rfl
theorem fp2Conjugates_k1 : laidOutB Try.prog = true := by kernel_rfl
theorem fp2Conjugates_k2 : mapsRowed Try.prog = true := by kernel_rfl
theorem fp2Conjugates_k3 : Try.f10.params.all (Try.prog.readableRec ·) = true := by kernel_rfl
theorem fp2Conjugates_k4 : namedTie Try.prog Rows.fp2ConjugatesRow.named Rows.fp2ConjugatesSpec.vars = true := by kernel_rfl
theorem fp2Conjugates_k5 : (Rows.fp2ConjugatesRow.stops == []) = true := by kernel_rfl
theorem fp2Conjugates_k6 : (Try.prog.stops == []) = true := by kernel_rfl
theorem fp2Conjugates_k7 : (Rows.fp2ConjugatesRow.knobs == []) = true := by kernel_rfl
theorem fp2Conjugates_k8 : (Try.prog.stopKnobs == []) = true := by kernel_rfl
theorem fp2Conjugates_k9 : (Rows.fp2ConjugatesRow.inPlace == Try.prog.inPlace 10) = true := by kernel_rfl
theorem fp2Conjugates_k10 : (Rows.fp2ConjugatesRow.unfollowed == Try.prog.unfollowed 10) = true := by kernel_rfl
theorem fp2Conjugates_k11 : (Rows.fp2ConjugatesRow.recurses == Try.prog.recurses 10) = true := by kernel_rfl
theorem fp2Conjugates_k12 : (Rows.fp2ConjugatesRow.named == Try.prog.varsNamed 10) = true := by kernel_rfl
theorem fp2Conjugates_k13 : (Rows.fp2ConjugatesRow.maps == (Try.f10.params.toList ++ Rows.fp2ConjugatesSpec.plain.varTypes Try.prog).any (Try.prog.mapsRec ·)) = true := by kernel_rfl
theorem fp2Conjugates_k14 : (Rows.fp2ConjugatesRow.ifaces == (Try.f10.params.toList ++ Rows.fp2ConjugatesSpec.plain.varTypes Try.prog).any (Try.prog.ifacesRec ·)) = true := by kernel_rfl
theorem fp2Conjugates_k15 : (Rows.fp2ConjugatesRow.mapsOut == Try.prog.mapsAmong Try.f10.resultTypes.toList) = true := by kernel_rfl
theorem fp2Conjugates_k16 : (Rows.fp2ConjugatesRow.loops == (Try.f10.params.toList ++ Rows.fp2ConjugatesSpec.plain.varTypes Try.prog).any (Try.prog.loopsFrom ·)) = true := by kernel_rfl
theorem fp2Conjugates_k17 : (Rows.fp2ConjugatesRow.wideKeys == (Try.f10.params.toList ++ Rows.fp2ConjugatesSpec.plain.varTypes Try.prog ++ Try.f10.resultTypes.toList).any (Try.prog.wideKeysFrom ·)) = true := by kernel_rfl
theorem fp2Conjugates_k18 : Rows.fp2ConjugatesSpec.vars.all (Try.prog.varReadable ·) = true := by kernel_rfl
theorem fp2Conjugates_k19 : Try.f10.resultTypes.all (fun t => Try.prog.readableRec t && decide (t < Try.prog.types.size)) = true := by kernel_rfl
theorem fp2Conjugates_k20 : (Rows.fp2ConjugatesRow.ifacesOut == Try.f10.resultTypes.toList.any (Try.prog.ifacesRec ·)) = true := by kernel_rfl
theorem fp2Conjugates_k21 : (Rows.fp2ConjugatesRow.loopsOut == Try.f10.resultTypes.toList.any (Try.prog.loopsFrom ·)) = true := by kernel_rfl
theorem fp2Conjugates_k22 : (Rows.fp2ConjugatesRow.plainKeys == Try.prog.plainKeys) = true := by kernel_rfl
theorem fp2Conjugates_k23 : Rows.fp2ConjugatesRow.shortTexts.isNone = true := by kernel_rfl
theorem fp2Conjugates_k24 : Try.prog.stopsHeard = true := by kernel_rfl
theorem fp2Conjugates_k25 : Try.prog.mayEnter = true := by kernel_rfl
theorem fp2Conjugates_k26 : (Rows.fp2ConjugatesRow.lifted == Try.prog.liftsFinal) = true := by kernel_rfl
theorem fp2Conjugates_k27 : (Try.prog.make == some Rows.fp2ConjugatesRow.make) = true := by kernel_rfl
theorem fp2Conjugates_k28 : (Rows.fp2ConjugatesRow.kinds == (if Rows.fp2ConjugatesRow.domain.isEmpty then [] else Try.f10.params.toList.map fun t => match Try.prog.underlying t with | some (.int k) => some k | _ => none)) = true := by kernel_rfl
theorem fp2Conjugates_k29 : (Rows.fp2ConjugatesRow.pinned == Rows.fp2ConjugatesRow.pinnedBy) = true := by kernel_rfl
theorem fp2Conjugates_k30 : (Rows.fp2ConjugatesRow.veiled == (Try.f10.params.toList ++ Rows.fp2ConjugatesSpec.plain.varTypes Try.prog ++ Try.f10.resultTypes.toList).any (Try.prog.veiledRec ·)) = true := by kernel_rfl
theorem fp2Conjugates_k31 : Rows.fp2ConjugatesRow.veiledFits Try.prog Try.f10.params.toList (Try.f10.params.toList ++ Rows.fp2ConjugatesSpec.plain.varTypes Try.prog ++ Try.f10.resultTypes.toList) = true := by kernel_rfl
theorem fp2Conjugates_join : joinedFacts Try.prog 10 Try.f10 Rows.fp2ConjugatesSpec Rows.fp2ConjugatesRow = true := joined_mk fp2Conjugates_k0 fp2Conjugates_k1 fp2Conjugates_k2 fp2Conjugates_k3 fp2Conjugates_k4 fp2Conjugates_k5 fp2Conjugates_k6 fp2Conjugates_k7 fp2Conjugates_k8 fp2Conjugates_k9 fp2Conjugates_k10 fp2Conjugates_k11 fp2Conjugates_k12 fp2Conjugates_k13 fp2Conjugates_k14 fp2Conjugates_k15 fp2Conjugates_k16 fp2Conjugates_k17 fp2Conjugates_k18 fp2Conjugates_k19 fp2Conjugates_k20 fp2Conjugates_k21 fp2Conjugates_k22 fp2Conjugates_k23 fp2Conjugates_k24 fp2Conjugates_k25 fp2Conjugates_k26 fp2Conjugates_k27 fp2Conjugates_k28 fp2Conjugates_k29 fp2Conjugates_k30 fp2Conjugates_k31
theorem fp2Conjugates_named : Try.prog.funcNamed Rows.fp2ConjugatesRow.func = some 10 := by kernel_rfl
theorem fp2Conjugates_wrap : Try.f10.isWrapper Try.prog Rows.fp2ConjugatesRow.wrapper Rows.fp2ConjugatesRow.mainSum := by unfold Func.isWrapper; first | (rw [if_pos (by decide +kernel)]; kernel_rfl) | (rw [if_neg (by decide +kernel)]; exact ⟨rfl, rfl⟩)
theorem fp2Conjugates_over : Rows.fp2ConjugatesRow.holds Try.pinned (OpenSpec.ofChange Rows.fp2ConjugatesSpec) :=
  OpenClaim.holds_of_wide 10 Try.f10 rfl rfl rfl rfl rfl rfl rfl ⟨rfl, rfl, rfl, rfl, rfl⟩ rfl rfl rfl rfl rfl fp2Conjugates_named Try.func10 fp2Conjugates_join
    (of_decide_eq_true (by kernel_rfl)) fp2Conjugates_wrap
    (fun os started H enc _ => fp2Conjugates_lifted os started H enc)

/-- The statement. -/
theorem fp2Conjugates_holds : Rows.Fp2ConjugatesSaid := fp2Conjugates_over
#print axioms fp2Conjugates_holds
end Go.Proofs.Ytkpihidjolfkoaa
