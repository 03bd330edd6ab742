/-
  Fp6Inverse: for every input the call returns true, and each argument reads behind it as before. No condition.
-/
import Derived.Test.YtlkeeafhiijhdaaRows
import Derived.Test.YtlkeeafhiijhdaaSay
import Derived.Test.YtlkeeafhiijhdaaJoin
import Derived.Test.YtlkeeafhiijhdaaLa9
import Derived.ProofKit
import Derived.OpenShut
namespace Go.Proofs.Ytlkeeafhiijhdaa
open Go Go.Eng Go.RowKit Go.ChangeShapes Go.WideShapes Go.ChangeAt
set_option linter.unusedVariables false

set_option maxRecDepth 100000 in
theorem fp6Inverse_lifted (os : Os) (started : os.Started) (H : Type) (enc : TypeId × Value → H) :
    ReturnsInHanded {} Try.checked os 6 .any (Rows.fp6InverseSpec.pre6 enc Try.prog Try.f6 Rows.fp6InverseRow.domain false) (Rows.fp6InverseSpec.post enc Try.prog Try.f6 false true false false) := by
  refine lifted_any (C := Try.checked) say_own started (by kernel_rfl) Try.func6
    (ChangeSpec.witness6 (enc := enc) (C := Try.checked) false ⟨#[], #[.agg (Array.replicate 36 (.int .u64 0)), .agg (Array.replicate 36 (.int .u64 0))], []⟩ 8 (by kernel_rfl) (by kernel_rfl) (by kernel_rfl) (by kernel_rfl))
    say_laid (by kernel_rfl) rfl (tb := 4) (by kernel_rfl) (by kernel_rfl) (fun ds hd => ?_) ?_
  · rw [Try.params6] at hd
    match ds, hd with
    | [d0, d1], _ => exact ⟨rfl, rfl, rfl⟩
  · intro W base args ds ps hval hA hlt
    rw [Try.params6] at hA hval
    obtain ⟨v0, vs0, d0, ds0, p0, q0, hargs, rfl, rfl, h0, r0⟩ := trodAll_cons hA
    obtain ⟨v1, vs1, d1, ds1, p1, q1, rfl, rfl, rfl, h1, r1⟩ := trodAll_cons r0
    obtain ⟨rfl, rfl, rfl⟩ := trodAll_nil r1
    obtain rfl : args = #[v0, v1] := by cases args; simp_all
    obtain ⟨a0, s0, rfl⟩ := open_nm (A := N6) (by kernel_rfl) (by kernel_rfl) (by kernel_rfl) (hval 0 28 v0 rfl rfl) h0
    obtain ⟨a1, s1, rfl⟩ := open_nm (A := N6) (by kernel_rfl) (by kernel_rfl) (by kernel_rfl) (hval 1 28 v1 rfl rfl) h1
    exact fp6Inverse_gives a0 s0 a1 s1 W

theorem fp6Inverse_k0 : Rows.fp6InverseRow.wf (OpenSpec.ofChange Rows.fp6InverseSpec) = true := by kernel_rfl
theorem fp6Inverse_k1 : laidOutB Try.prog = true := by kernel_rfl
theorem fp6Inverse_k2 : mapsRowed Try.prog = true := by kernel_rfl
theorem fp6Inverse_k3 : Try.f6.params.all (Try.prog.readableRec ·) = true := by kernel_rfl
theorem fp6Inverse_k4 : namedTie Try.prog Rows.fp6InverseRow.named Rows.fp6InverseSpec.vars = true := by kernel_rfl
theorem fp6Inverse_k5 : (Rows.fp6InverseRow.stops == []) = true := by kernel_rfl
theorem fp6Inverse_k6 : (Try.prog.stops == []) = true := by kernel_rfl
theorem fp6Inverse_k7 : (Rows.fp6InverseRow.knobs == []) = true := by kernel_rfl
theorem fp6Inverse_k8 : (Try.prog.stopKnobs == []) = true := by kernel_rfl
theorem fp6Inverse_k9 : (Rows.fp6InverseRow.inPlace == Try.prog.inPlace 6) = true := by kernel_rfl
theorem fp6Inverse_k10 : (Rows.fp6InverseRow.unfollowed == Try.prog.unfollowed 6) = true := by kernel_rfl
theorem fp6Inverse_k11 : (Rows.fp6InverseRow.recurses == Try.prog.recurses 6) = true := by kernel_rfl
theorem fp6Inverse_k12 : (Rows.fp6InverseRow.named == Try.prog.varsNamed 6) = true := by kernel_rfl
theorem fp6Inverse_k13 : (Rows.fp6InverseRow.maps == (Try.f6.params.toList ++ Rows.fp6InverseSpec.plain.varTypes Try.prog).any (Try.prog.mapsRec ·)) = true := by kernel_rfl
theorem fp6Inverse_k14 : (Rows.fp6InverseRow.ifaces == (Try.f6.params.toList ++ Rows.fp6InverseSpec.plain.varTypes Try.prog).any (Try.prog.ifacesRec ·)) = true := by kernel_rfl
theorem fp6Inverse_k15 : (Rows.fp6InverseRow.mapsOut == Try.prog.mapsAmong Try.f6.resultTypes.toList) = true := by kernel_rfl
theorem fp6Inverse_k16 : (Rows.fp6InverseRow.loops == (Try.f6.params.toList ++ Rows.fp6InverseSpec.plain.varTypes Try.prog).any (Try.prog.loopsFrom ·)) = true := by kernel_rfl
theorem fp6Inverse_k17 : (Rows.fp6InverseRow.wideKeys == (Try.f6.params.toList ++ Rows.fp6InverseSpec.plain.varTypes Try.prog ++ Try.f6.resultTypes.toList).any (Try.prog.wideKeysFrom ·)) = true := by kernel_rfl
theorem fp6Inverse_k18 : Rows.fp6InverseSpec.vars.all (Try.prog.varReadable ·) = true := by kernel_rfl
theorem fp6Inverse_k19 : Try.f6.resultTypes.all (fun t => Try.prog.readableRec t && decide (t < Try.prog.types.size)) = true := by kernel_rfl
theorem fp6Inverse_k20 : (Rows.fp6InverseRow.ifacesOut == Try.f6.resultTypes.toList.any (Try.prog.ifacesRec ·)) = true := by kernel_rfl
theorem fp6Inverse_k21 : (Rows.fp6InverseRow.loopsOut == Try.f6.resultTypes.toList.any (Try.prog.loopsFrom ·)) = true := by kernel_rfl
theorem fp6Inverse_k22 : (Rows.fp6InverseRow.plainKeys == Try.prog.plainKeys) = true := by kernel_rfl
theorem fp6Inverse_k23 : Rows.fp6InverseRow.shortTexts.isNone = true := by kernel_rfl
theorem fp6Inverse_k24 : Try.prog.stopsHeard = true := by kernel_rfl
theorem fp6Inverse_k25 : Try.prog.mayEnter = true := by kernel_rfl
theorem fp6Inverse_k26 : (Rows.fp6InverseRow.lifted == Try.prog.liftsFinal) = true := by kernel_rfl
theorem fp6Inverse_k27 : (Try.prog.make == some Rows.fp6InverseRow.make) = true := by kernel_rfl
theorem fp6Inverse_k28 : (Rows.fp6InverseRow.kinds == (if Rows.fp6InverseRow.domain.isEmpty then [] else Try.f6.params.toList.map fun t => match Try.prog.underlying t with | some (.int k) => some k | _ => none)) = true := by kernel_rfl
theorem fp6Inverse_k29 : (Rows.fp6InverseRow.pinned == Rows.fp6InverseRow.pinnedBy) = true := by kernel_rfl
theorem fp6Inverse_k30 : (Rows.fp6InverseRow.veiled == (Try.f6.params.toList ++ Rows.fp6InverseSpec.plain.varTypes Try.prog ++ Try.f6.resultTypes.toList).any (Try.prog.veiledRec ·)) = true := by kernel_rfl
theorem fp6Inverse_k31 : Rows.fp6InverseRow.veiledFits Try.prog Try.f6.params.toList (Try.f6.params.toList ++ Rows.fp6InverseSpec.plain.varTypes Try.prog ++ Try.f6.resultTypes.toList) = true := by kernel_rfl
theorem fp6Inverse_join : joinedFacts Try.prog 6 Try.f6 Rows.fp6InverseSpec Rows.fp6InverseRow = true := joined_mk fp6Inverse_k0 fp6Inverse_k1 fp6Inverse_k2 fp6Inverse_k3 fp6Inverse_k4 fp6Inverse_k5 fp6Inverse_k6 fp6Inverse_k7 fp6Inverse_k8 fp6Inverse_k9 fp6Inverse_k10 fp6Inverse_k11 fp6Inverse_k12 fp6Inverse_k13 fp6Inverse_k14 fp6Inverse_k15 fp6Inverse_k16 fp6Inverse_k17 fp6Inverse_k18 fp6Inverse_k19 fp6Inverse_k20 fp6Inverse_k21 fp6Inverse_k22 fp6Inverse_k23 fp6Inverse_k24 fp6Inverse_k25 fp6Inverse_k26 fp6Inverse_k27 fp6Inverse_k28 fp6Inverse_k29 fp6Inverse_k30 fp6Inverse_k31
theorem fp6Inverse_named : Try.prog.funcNamed Rows.fp6InverseRow.func = some 6 := by kernel_rfl
theorem fp6Inverse_wrap : Try.f6.isWrapper Try.prog Rows.fp6InverseRow.wrapper Rows.fp6InverseRow.mainSum := by unfold Func.isWrapper; first | (rw [if_pos (by decide +kernel)]; kernel_rfl) | (rw [if_neg (by decide +kernel)]; exact ⟨rfl, rfl⟩)
theorem fp6Inverse_over : Rows.fp6InverseRow.holds Try.pinned (OpenSpec.ofChange Rows.fp6InverseSpec) :=
  OpenClaim.holds_of_wide 6 Try.f6 rfl rfl rfl rfl rfl rfl rfl ⟨rfl, rfl, rfl, rfl, rfl⟩ rfl rfl rfl rfl rfl fp6Inverse_named Try.func6 fp6Inverse_join
    (of_decide_eq_true (by kernel_rfl)) fp6Inverse_wrap
    (fun os started H enc _ => fp6Inverse_lifted os started H enc)

/-- The statement. -/
theorem fp6Inverse_holds : Rows.Fp6InverseSaid := fp6Inverse_over
#print axioms fp6Inverse_holds
end Go.Proofs.Ytlkeeafhiijhdaa
