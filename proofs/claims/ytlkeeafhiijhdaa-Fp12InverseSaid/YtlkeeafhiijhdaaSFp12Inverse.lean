/-
  Fp12Inverse: for every input the call returns true, and each argument reads behind it as before. No condition.
-/
import Derived.Test.YtlkeeafhiijhdaaRows
import Derived.Test.YtlkeeafhiijhdaaSay
import Derived.Test.YtlkeeafhiijhdaaJoin
import Derived.Test.YtlkeeafhiijhdaaLa10
import Derived.ProofKit
import Derived.OpenShut
namespace Go.Proofs.Ytlkeeafhiijhdaa
open Go Go.Eng Go.RowKit Go.ChangeShapes Go.WideShapes Go.ChangeAt
set_option linter.unusedVariables false

set_option maxRecDepth 100000 in
theorem fp12Inverse_lifted (os : Os) (started : os.Started) (H : Type) (enc : TypeId × Value → H) :
    ReturnsInHanded {} Try.checked os 9 .any (Rows.fp12InverseSpec.pre6 enc Try.prog Try.f9 Rows.fp12InverseRow.domain false) (Rows.fp12InverseSpec.post enc Try.prog Try.f9 false true false false) := by
  refine lifted_any (C := Try.checked) say_own started (by kernel_rfl) Try.func9
    (ChangeSpec.witness6 (enc := enc) (C := Try.checked) false ⟨#[], #[.agg (Array.replicate 72 (.int .u64 0)), .agg (Array.replicate 72 (.int .u64 0))], []⟩ 8 (by kernel_rfl) (by kernel_rfl) (by kernel_rfl) (by kernel_rfl))
    say_laid (by kernel_rfl) rfl (tb := 4) (by kernel_rfl) (by kernel_rfl) (fun ds hd => ?_) ?_
  · rw [Try.params9] at hd
    match ds, hd with
    | [d0, d1], _ => exact ⟨rfl, rfl, rfl⟩
  · intro W base args ds ps hval hA hlt
    rw [Try.params9] at hA hval
    obtain ⟨v0, vs0, d0, ds0, p0, q0, hargs, rfl, rfl, h0, r0⟩ := trodAll_cons hA
    obtain ⟨v1, vs1, d1, ds1, p1, q1, rfl, rfl, rfl, h1, r1⟩ := trodAll_cons r0
    obtain ⟨rfl, rfl, rfl⟩ := trodAll_nil r1
    obtain rfl : args = #[v0, v1] := by cases args; simp_all
    obtain ⟨a0, s0, rfl⟩ := open_nm (A := N12) (by kernel_rfl) (by kernel_rfl) (by kernel_rfl) (hval 0 30 v0 rfl rfl) h0
    obtain ⟨a1, s1, rfl⟩ := open_nm (A := N12) (by kernel_rfl) (by kernel_rfl) (by kernel_rfl) (hval 1 30 v1 rfl rfl) h1
    exact fp12Inverse_gives a0 s0 a1 s1 W

theorem fp12Inverse_k0 : Rows.fp12InverseRow.wf (OpenSpec.ofChange Rows.fp12InverseSpec) = true := by kernel_rfl
theorem fp12Inverse_k1 : laidOutB Try.prog = true := by kernel_rfl
theorem fp12Inverse_k2 : mapsRowed Try.prog = true := by kernel_rfl
theorem fp12Inverse_k3 : Try.f9.params.all (Try.prog.readableRec ·) = true := by kernel_rfl
theorem fp12Inverse_k4 : namedTie Try.prog Rows.fp12InverseRow.named Rows.fp12InverseSpec.vars = true := by kernel_rfl
theorem fp12Inverse_k5 : (Rows.fp12InverseRow.stops == []) = true := by kernel_rfl
theorem fp12Inverse_k6 : (Try.prog.stops == []) = true := by kernel_rfl
theorem fp12Inverse_k7 : (Rows.fp12InverseRow.knobs == []) = true := by kernel_rfl
theorem fp12Inverse_k8 : (Try.prog.stopKnobs == []) = true := by kernel_rfl
theorem fp12Inverse_k9 : (Rows.fp12InverseRow.inPlace == Try.prog.inPlace 9) = true := by kernel_rfl
theorem fp12Inverse_k10 : (Rows.fp12InverseRow.unfollowed == Try.prog.unfollowed 9) = true := by kernel_rfl
theorem fp12Inverse_k11 : (Rows.fp12InverseRow.recurses == Try.prog.recurses 9) = true := by kernel_rfl
theorem fp12Inverse_k12 : (Rows.fp12InverseRow.named == Try.prog.varsNamed 9) = true := by kernel_rfl
theorem fp12Inverse_k13 : (Rows.fp12InverseRow.maps == (Try.f9.params.toList ++ Rows.fp12InverseSpec.plain.varTypes Try.prog).any (Try.prog.mapsRec ·)) = true := by kernel_rfl
theorem fp12Inverse_k14 : (Rows.fp12InverseRow.ifaces == (Try.f9.params.toList ++ Rows.fp12InverseSpec.plain.varTypes Try.prog).any (Try.prog.ifacesRec ·)) = true := by kernel_rfl
theorem fp12Inverse_k15 : (Rows.fp12InverseRow.mapsOut == Try.prog.mapsAmong Try.f9.resultTypes.toList) = true := by kernel_rfl
theorem fp12Inverse_k16 : (Rows.fp12InverseRow.loops == (Try.f9.params.toList ++ Rows.fp12InverseSpec.plain.varTypes Try.prog).any (Try.prog.loopsFrom ·)) = true := by kernel_rfl
theorem fp12Inverse_k17 : (Rows.fp12InverseRow.wideKeys == (Try.f9.params.toList ++ Rows.fp12InverseSpec.plain.varTypes Try.prog ++ Try.f9.resultTypes.toList).any (Try.prog.wideKeysFrom ·)) = true := by kernel_rfl
theorem fp12Inverse_k18 : Rows.fp12InverseSpec.vars.all (Try.prog.varReadable ·) = true := by kernel_rfl
theorem fp12Inverse_k19 : Try.f9.resultTypes.all (fun t => Try.prog.readableRec t && decide (t < Try.prog.types.size)) = true := by kernel_rfl
theorem fp12Inverse_k20 : (Rows.fp12InverseRow.ifacesOut == Try.f9.resultTypes.toList.any (Try.prog.ifacesRec ·)) = true := by kernel_rfl
theorem fp12Inverse_k21 : (Rows.fp12InverseRow.loopsOut == Try.f9.resultTypes.toList.any (Try.prog.loopsFrom ·)) = true := by kernel_rfl
theorem fp12Inverse_k22 : (Rows.fp12InverseRow.plainKeys == Try.prog.plainKeys) = true := by kernel_rfl
theorem fp12Inverse_k23 : Rows.fp12InverseRow.shortTexts.isNone = true := by kernel_rfl
theorem fp12Inverse_k24 : Try.prog.stopsHeard = true := by kernel_rfl
theorem fp12Inverse_k25 : Try.prog.mayEnter = true := by kernel_rfl
theorem fp12Inverse_k26 : (Rows.fp12InverseRow.lifted == Try.prog.liftsFinal) = true := by kernel_rfl
theorem fp12Inverse_k27 : (Try.prog.make == some Rows.fp12InverseRow.make) = true := by kernel_rfl
theorem fp12Inverse_k28 : (Rows.fp12InverseRow.kinds == (if Rows.fp12InverseRow.domain.isEmpty then [] else Try.f9.params.toList.map fun t => match Try.prog.underlying t with | some (.int k) => some k | _ => none)) = true := by kernel_rfl
theorem fp12Inverse_k29 : (Rows.fp12InverseRow.pinned == Rows.fp12InverseRow.pinnedBy) = true := by kernel_rfl
theorem fp12Inverse_k30 : (Rows.fp12InverseRow.veiled == (Try.f9.params.toList ++ Rows.fp12InverseSpec.plain.varTypes Try.prog ++ Try.f9.resultTypes.toList).any (Try.prog.veiledRec ·)) = true := by kernel_rfl
theorem fp12Inverse_k31 : Rows.fp12InverseRow.veiledFits Try.prog Try.f9.params.toList (Try.f9.params.toList ++ Rows.fp12InverseSpec.plain.varTypes Try.prog ++ Try.f9.resultTypes.toList) = true := by kernel_rfl
theorem fp12Inverse_join : joinedFacts Try.prog 9 Try.f9 Rows.fp12InverseSpec Rows.fp12InverseRow = true := joined_mk fp12Inverse_k0 fp12Inverse_k1 fp12Inverse_k2 fp12Inverse_k3 fp12Inverse_k4 fp12Inverse_k5 fp12Inverse_k6 fp12Inverse_k7 fp12Inverse_k8 fp12Inverse_k9 fp12Inverse_k10 fp12Inverse_k11 fp12Inverse_k12 fp12Inverse_k13 fp12Inverse_k14 fp12Inverse_k15 fp12Inverse_k16 fp12Inverse_k17 fp12Inverse_k18 fp12Inverse_k19 fp12Inverse_k20 fp12Inverse_k21 fp12Inverse_k22 fp12Inverse_k23 fp12Inverse_k24 fp12Inverse_k25 fp12Inverse_k26 fp12Inverse_k27 fp12Inverse_k28 fp12Inverse_k29 fp12Inverse_k30 fp12Inverse_k31
theorem fp12Inverse_named : Try.prog.funcNamed Rows.fp12InverseRow.func = some 9 := by kernel_rfl
theorem fp12Inverse_wrap : Try.f9.isWrapper Try.prog Rows.fp12InverseRow.wrapper Rows.fp12InverseRow.mainSum := by unfold Func.isWrapper; first | (rw [if_pos (by decide +kernel)]; kernel_rfl) | (rw [if_neg (by decide +kernel)]; exact ⟨rfl, rfl⟩)
theorem fp12Inverse_over : Rows.fp12InverseRow.holds Try.pinned (OpenSpec.ofChange Rows.fp12InverseSpec) :=
  OpenClaim.holds_of_wide 9 Try.f9 rfl rfl rfl rfl rfl rfl rfl ⟨rfl, rfl, rfl, rfl, rfl⟩ rfl rfl rfl rfl rfl fp12Inverse_named Try.func9 fp12Inverse_join
    (of_decide_eq_true (by kernel_rfl)) fp12Inverse_wrap
    (fun os started H enc _ => fp12Inverse_lifted os started H enc)

/-- The statement. -/
theorem fp12Inverse_holds : Rows.Fp12InverseSaid := fp12Inverse_over
#print axioms fp12Inverse_holds
end Go.Proofs.Ytlkeeafhiijhdaa
