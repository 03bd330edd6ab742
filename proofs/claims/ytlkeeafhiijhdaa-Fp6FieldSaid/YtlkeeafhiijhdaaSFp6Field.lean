/-
  Fp6Field: for every input the call returns true, and each argument reads behind it as before. No condition.
-/
import Derived.Test.YtlkeeafhiijhdaaRows
import Derived.Test.YtlkeeafhiijhdaaSay
import Derived.Test.YtlkeeafhiijhdaaJoin
import Derived.Test.YtlkeeafhiijhdaaLa9
import Derived.ProofKit
import Derived.OpenShut
namespace Go.Proofs.Ytlkeeafhiijhdaa
open Go Go.Eng Go.RowKit Go.ChangeShapes Go.WideShapes Go.ChangeAt
set_option linter.unusedVariables false

set_option maxRecDepth 100000 in
theorem fp6Field_lifted (os : Os) (started : os.Started) (H : Type) (enc : TypeId × Value → H) :
    ReturnsInHanded {} Try.checked os 8 .any (Rows.fp6FieldSpec.pre6 enc Try.prog Try.f8 Rows.fp6FieldRow.domain false) (Rows.fp6FieldSpec.post enc Try.prog Try.f8 false true false false) := by
  refine lifted_any (C := Try.checked) say_own started (by kernel_rfl) Try.func8
    (ChangeSpec.witness6 (enc := enc) (C := Try.checked) false ⟨#[], #[.agg (Array.replicate 36 (.int .u64 0)), .agg (Array.replicate 36 (.int .u64 0)), .agg (Array.replicate 36 (.int .u64 0))], []⟩ 8 (by kernel_rfl) (by kernel_rfl) (by kernel_rfl) (by kernel_rfl))
    say_laid (by kernel_rfl) rfl (tb := 4) (by kernel_rfl) (by kernel_rfl) (fun ds hd => ?_) ?_
  · rw [Try.params8] at hd
    match ds, hd with
    | [d0, d1, d2], _ => exact ⟨rfl, rfl, rfl⟩
  · intro W base args ds ps hval hA hlt
    rw [Try.params8] at hA hval
    obtain ⟨v0, vs0, d0, ds0, p0, q0, hargs, rfl, rfl, h0, r0⟩ := trodAll_cons hA
    obtain ⟨v1, vs1, d1, ds1, p1, q1, rfl, rfl, rfl, h1, r1⟩ := trodAll_cons r0
    obtain ⟨v2, vs2, d2, ds2, p2, q2, rfl, rfl, rfl, h2, r2⟩ := trodAll_cons r1
    obtain ⟨rfl, rfl, rfl⟩ := trodAll_nil r2
    obtain rfl : args = #[v0, v1, v2] := by cases args; simp_all
    obtain ⟨a0, s0, rfl⟩ := open_nm (A := N6) (by kernel_rfl) (by kernel_rfl) (by kernel_rfl) (hval 0 28 v0 rfl rfl) h0
    obtain ⟨a1, s1, rfl⟩ := open_nm (A := N6) (by kernel_rfl) (by kernel_rfl) (by kernel_rfl) (hval 1 28 v1 rfl rfl) h1
    obtain ⟨a2, s2, rfl⟩ := open_nm (A := N6) (by kernel_rfl) (by kernel_rfl) (by kernel_rfl) (hval 2 28 v2 rfl rfl) h2
    exact fp6Field_gives a0 s0 a1 s1 a2 s2 W

theorem fp6Field_k0 : Rows.fp6FieldRow.wf (OpenSpec.ofChange Rows.fp6FieldSpec) = true := by kernel_rfl
theorem fp6Field_k1 : laidOutB Try.prog = true := by kernel_rfl
theorem fp6Field_k2 : mapsRowed Try.prog = true := by kernel_rfl
theorem fp6Field_k3 : Try.f8.params.all (Try.prog.readableRec ·) = true := by kernel_rfl
theorem fp6Field_k4 : namedTie Try.prog Rows.fp6FieldRow.named Rows.fp6FieldSpec.vars = true := by kernel_rfl
theorem fp6Field_k5 : (Rows.fp6FieldRow.stops == []) = true := by kernel_rfl
theorem fp6Field_k6 : (Try.prog.stops == []) = true := by kernel_rfl
theorem fp6Field_k7 : (Rows.fp6FieldRow.knobs == []) = true := by kernel_rfl
theorem fp6Field_k8 : (Try.prog.stopKnobs == []) = true := by kernel_rfl
theorem fp6Field_k9 : (Rows.fp6FieldRow.inPlace == Try.prog.inPlace 8) = true := by kernel_rfl
theorem fp6Field_k10 : (Rows.fp6FieldRow.unfollowed == Try.prog.unfollowed 8) = true := by kernel_rfl
theorem fp6Field_k11 : (Rows.fp6FieldRow.recurses == Try.prog.recurses 8) = true := by kernel_rfl
theorem fp6Field_k12 : (Rows.fp6FieldRow.named == Try.prog.varsNamed 8) = true := by kernel_rfl
theorem fp6Field_k13 : (Rows.fp6FieldRow.maps == (Try.f8.params.toList ++ Rows.fp6FieldSpec.plain.varTypes Try.prog).any (Try.prog.mapsRec ·)) = true := by kernel_rfl
theorem fp6Field_k14 : (Rows.fp6FieldRow.ifaces == (Try.f8.params.toList ++ Rows.fp6FieldSpec.plain.varTypes Try.prog).any (Try.prog.ifacesRec ·)) = true := by kernel_rfl
theorem fp6Field_k15 : (Rows.fp6FieldRow.mapsOut == Try.prog.mapsAmong Try.f8.resultTypes.toList) = true := by kernel_rfl
theorem fp6Field_k16 : (Rows.fp6FieldRow.loops == (Try.f8.params.toList ++ Rows.fp6FieldSpec.plain.varTypes Try.prog).any (Try.prog.loopsFrom ·)) = true := by kernel_rfl
theorem fp6Field_k17 : (Rows.fp6FieldRow.wideKeys == (Try.f8.params.toList ++ Rows.fp6FieldSpec.plain.varTypes Try.prog ++ Try.f8.resultTypes.toList).any (Try.prog.wideKeysFrom ·)) = true := by kernel_rfl
theorem fp6Field_k18 : Rows.fp6FieldSpec.vars.all (Try.prog.varReadable ·) = true := by kernel_rfl
theorem fp6Field_k19 : Try.f8.resultTypes.all (fun t => Try.prog.readableRec t && decide (t < Try.prog.types.size)) = true := by kernel_rfl
theorem fp6Field_k20 : (Rows.fp6FieldRow.ifacesOut == Try.f8.resultTypes.toList.any (Try.prog.ifacesRec ·)) = true := by kernel_rfl
theorem fp6Field_k21 : (Rows.fp6FieldRow.loopsOut == Try.f8.resultTypes.toList.any (Try.prog.loopsFrom ·)) = true := by kernel_rfl
theorem fp6Field_k22 : (Rows.fp6FieldRow.plainKeys == Try.prog.plainKeys) = true := by kernel_rfl
theorem fp6Field_k23 : Rows.fp6FieldRow.shortTexts.isNone = true := by kernel_rfl
theorem fp6Field_k24 : Try.prog.stopsHeard = true := by kernel_rfl
theorem fp6Field_k25 : Try.prog.mayEnter = true := by kernel_rfl
theorem fp6Field_k26 : (Rows.fp6FieldRow.lifted == Try.prog.liftsFinal) = true := by kernel_rfl
theorem fp6Field_k27 : (Try.prog.make == some Rows.fp6FieldRow.make) = true := by kernel_rfl
theorem fp6Field_k28 : (Rows.fp6FieldRow.kinds == (if Rows.fp6FieldRow.domain.isEmpty then [] else Try.f8.params.toList.map fun t => match Try.prog.underlying t with | some (.int k) => some k | _ => none)) = true := by kernel_rfl
theorem fp6Field_k29 : (Rows.fp6FieldRow.pinned == Rows.fp6FieldRow.pinnedBy) = true := by kernel_rfl
theorem fp6Field_k30 : (Rows.fp6FieldRow.veiled == (Try.f8.params.toList ++ Rows.fp6FieldSpec.plain.varTypes Try.prog ++ Try.f8.resultTypes.toList).any (Try.prog.veiledRec ·)) = true := by kernel_rfl
theorem fp6Field_k31 : Rows.fp6FieldRow.veiledFits Try.prog Try.f8.params.toList (Try.f8.params.toList ++ Rows.fp6FieldSpec.plain.varTypes Try.prog ++ Try.f8.resultTypes.toList) = true := by kernel_rfl
theorem fp6Field_join : joinedFacts Try.prog 8 Try.f8 Rows.fp6FieldSpec Rows.fp6FieldRow = true := joined_mk fp6Field_k0 fp6Field_k1 fp6Field_k2 fp6Field_k3 fp6Field_k4 fp6Field_k5 fp6Field_k6 fp6Field_k7 fp6Field_k8 fp6Field_k9 fp6Field_k10 fp6Field_k11 fp6Field_k12 fp6Field_k13 fp6Field_k14 fp6Field_k15 fp6Field_k16 fp6Field_k17 fp6Field_k18 fp6Field_k19 fp6Field_k20 fp6Field_k21 fp6Field_k22 fp6Field_k23 fp6Field_k24 fp6Field_k25 fp6Field_k26 fp6Field_k27 fp6Field_k28 fp6Field_k29 fp6Field_k30 fp6Field_k31
theorem fp6Field_named : Try.prog.funcNamed Rows.fp6FieldRow.func = some 8 := by kernel_rfl
theorem fp6Field_wrap : Try.f8.isWrapper Try.prog Rows.fp6FieldRow.wrapper Rows.fp6FieldRow.mainSum := by unfold Func.isWrapper; first | (rw [if_pos (by decide +kernel)]; kernel_rfl) | (rw [if_neg (by decide +kernel)]; exact ⟨rfl, rfl⟩)
theorem fp6Field_over : Rows.fp6FieldRow.holds Try.pinned (OpenSpec.ofChange Rows.fp6FieldSpec) :=
  OpenClaim.holds_of_wide 8 Try.f8 rfl rfl rfl rfl rfl rfl rfl ⟨rfl, rfl, rfl, rfl, rfl⟩ rfl rfl rfl rfl rfl fp6Field_named Try.func8 fp6Field_join
    (of_decide_eq_true (by kernel_rfl)) fp6Field_wrap
    (fun os started H enc _ => fp6Field_lifted os started H enc)

/-- The statement. -/
theorem fp6Field_holds : Rows.Fp6FieldSaid := fp6Field_over
#print axioms fp6Field_holds
end Go.Proofs.Ytlkeeafhiijhdaa
