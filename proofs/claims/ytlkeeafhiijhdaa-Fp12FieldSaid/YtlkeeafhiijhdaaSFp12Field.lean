/-
  Fp12Field: for every input the call returns true, and each argument reads behind it as before. No condition.
-/
import Derived.Test.YtlkeeafhiijhdaaRows
import Derived.Test.YtlkeeafhiijhdaaSay
import Derived.Test.YtlkeeafhiijhdaaJoin
import Derived.Test.YtlkeeafhiijhdaaLa10
import Derived.ProofKit
import Derived.OpenShut
namespace Go.Proofs.Ytlkeeafhiijhdaa
open Go Go.Eng Go.RowKit Go.ChangeShapes Go.WideShapes Go.ChangeAt
set_option linter.unusedVariables false

set_option maxRecDepth 100000 in
theorem fp12Field_lifted (os : Os) (started : os.Started) (H : Type) (enc : TypeId × Value → H) :
    ReturnsInHanded {} Try.checked os 11 .any (Rows.fp12FieldSpec.pre6 enc Try.prog Try.f11 Rows.fp12FieldRow.domain false) (Rows.fp12FieldSpec.post enc Try.prog Try.f11 false true false false) := by
  refine lifted_any (C := Try.checked) say_own started (by kernel_rfl) Try.func11
    (ChangeSpec.witness6 (enc := enc) (C := Try.checked) false ⟨#[], #[.agg (Array.replicate 72 (.int .u64 0)), .agg (Array.replicate 72 (.int .u64 0)), .agg (Array.replicate 72 (.int .u64 0))], []⟩ 8 (by kernel_rfl) (by kernel_rfl) (by kernel_rfl) (by kernel_rfl))
    say_laid (by kernel_rfl) rfl (tb := 4) (by kernel_rfl) (by kernel_rfl) (fun ds hd => ?_) ?_
  · rw [Try.params11] at hd
    match ds, hd with
    | [d0, d1, d2], _ => exact ⟨rfl, rfl, rfl⟩
  · intro W base args ds ps hval hA hlt
    rw [Try.params11] at hA hval
    obtain ⟨v0, vs0, d0, ds0, p0, q0, hargs, rfl, rfl, h0, r0⟩ := trodAll_cons hA
    obtain ⟨v1, vs1, d1, ds1, p1, q1, rfl, rfl, rfl, h1, r1⟩ := trodAll_cons r0
    obtain ⟨v2, vs2, d2, ds2, p2, q2, rfl, rfl, rfl, h2, r2⟩ := trodAll_cons r1
    obtain ⟨rfl, rfl, rfl⟩ := trodAll_nil r2
    obtain rfl : args = #[v0, v1, v2] := by cases args; simp_all
    obtain ⟨a0, s0, rfl⟩ := open_nm (A := N12) (by kernel_rfl) (by kernel_rfl) (by kernel_rfl) (hval 0 30 v0 rfl rfl) h0
    obtain ⟨a1, s1, rfl⟩ := open_nm (A := N12) (by kernel_rfl) (by kernel_rfl) (by kernel_rfl) (hval 1 30 v1 rfl rfl) h1
    obtain ⟨a2, s2, rfl⟩ := open_nm (A := N12) (by kernel_rfl) (by kernel_rfl) (by kernel_rfl) (hval 2 30 v2 rfl rfl) h2
    exact fp12Field_gives a0 s0 a1 s1 a2 s2 W

theorem fp12Field_k0 : Rows.fp12FieldRow.wf (OpenSpec.ofChange Rows.fp12FieldSpec) = true := by kernel_rfl
theorem fp12Field_k1 : laidOutB Try.prog = true := by kernel_rfl
theorem fp12Field_k2 : mapsRowed Try.prog = true := by kernel_rfl
theorem fp12Field_k3 : Try.f11.params.all (Try.prog.readableRec ·) = true := by kernel_rfl
theorem fp12Field_k4 : namedTie Try.prog Rows.fp12FieldRow.named Rows.fp12FieldSpec.vars = true := by kernel_rfl
theorem fp12Field_k5 : (Rows.fp12FieldRow.stops == []) = true := by kernel_rfl
theorem fp12Field_k6 : (Try.prog.stops == []) = true := by kernel_rfl
theorem fp12Field_k7 : (Rows.fp12FieldRow.knobs == []) = true := by kernel_rfl
theorem fp12Field_k8 : (Try.prog.stopKnobs == []) = true := by kernel_rfl
theorem fp12Field_k9 : (Rows.fp12FieldRow.inPlace == Try.prog.inPlace 11) = true := by kernel_rfl
theorem fp12Field_k10 : (Rows.fp12FieldRow.unfollowed == Try.prog.unfollowed 11) = true := by kernel_rfl
theorem fp12Field_k11 : (Rows.fp12FieldRow.recurses == Try.prog.recurses 11) = true := by kernel_rfl
theorem fp12Field_k12 : (Rows.fp12FieldRow.named == Try.prog.varsNamed 11) = true := by kernel_rfl
theorem fp12Field_k13 : (Rows.fp12FieldRow.maps == (Try.f11.params.toList ++ Rows.fp12FieldSpec.plain.varTypes Try.prog).any (Try.prog.mapsRec ·)) = true := by kernel_rfl
theorem fp12Field_k14 : (Rows.fp12FieldRow.ifaces == (Try.f11.params.toList ++ Rows.fp12FieldSpec.plain.varTypes Try.prog).any (Try.prog.ifacesRec ·)) = true := by kernel_rfl
theorem fp12Field_k15 : (Rows.fp12FieldRow.mapsOut == Try.prog.mapsAmong Try.f11.resultTypes.toList) = true := by kernel_rfl
theorem fp12Field_k16 : (Rows.fp12FieldRow.loops == (Try.f11.params.toList ++ Rows.fp12FieldSpec.plain.varTypes Try.prog).any (Try.prog.loopsFrom ·)) = true := by kernel_rfl
theorem fp12Field_k17 : (Rows.fp12FieldRow.wideKeys == (Try.f11.params.toList ++ Rows.fp12FieldSpec.plain.varTypes Try.prog ++ Try.f11.resultTypes.toList).any (Try.prog.wideKeysFrom ·)) = true := by kernel_rfl
theorem fp12Field_k18 : Rows.fp12FieldSpec.vars.all (Try.prog.varReadable ·) = true := by kernel_rfl
theorem fp12Field_k19 : Try.f11.resultTypes.all (fun t => Try.prog.readableRec t && decide (t < Try.prog.types.size)) = true := by kernel_rfl
theorem fp12Field_k20 : (Rows.fp12FieldRow.ifacesOut == Try.f11.resultTypes.toList.any (Try.prog.ifacesRec ·)) = true := by kernel_rfl
theorem fp12Field_k21 : (Rows.fp12FieldRow.loopsOut == Try.f11.resultTypes.toList.any (Try.prog.loopsFrom ·)) = true := by kernel_rfl
theorem fp12Field_k22 : (Rows.fp12FieldRow.plainKeys == Try.prog.plainKeys) = true := by kernel_rfl
theorem fp12Field_k23 : Rows.fp12FieldRow.shortTexts.isNone = true := by kernel_rfl
theorem fp12Field_k24 : Try.prog.stopsHeard = true := by kernel_rfl
theorem fp12Field_k25 : Try.prog.mayEnter = true := by kernel_rfl
theorem fp12Field_k26 : (Rows.fp12FieldRow.lifted == Try.prog.liftsFinal) = true := by kernel_rfl
theorem fp12Field_k27 : (Try.prog.make == some Rows.fp12FieldRow.make) = true := by kernel_rfl
theorem fp12Field_k28 : (Rows.fp12FieldRow.kinds == (if Rows.fp12FieldRow.domain.isEmpty then [] else Try.f11.params.toList.map fun t => match Try.prog.underlying t with | some (.int k) => some k | _ => none)) = true := by kernel_rfl
theorem fp12Field_k29 : (Rows.fp12FieldRow.pinned == Rows.fp12FieldRow.pinnedBy) = true := by kernel_rfl
theorem fp12Field_k30 : (Rows.fp12FieldRow.veiled == (Try.f11.params.toList ++ Rows.fp12FieldSpec.plain.varTypes Try.prog ++ Try.f11.resultTypes.toList).any (Try.prog.veiledRec ·)) = true := by kernel_rfl
theorem fp12Field_k31 : Rows.fp12FieldRow.veiledFits Try.prog Try.f11.params.toList (Try.f11.params.toList ++ Rows.fp12FieldSpec.plain.varTypes Try.prog ++ Try.f11.resultTypes.toList) = true := by kernel_rfl
theorem fp12Field_join : joinedFacts Try.prog 11 Try.f11 Rows.fp12FieldSpec Rows.fp12FieldRow = true := joined_mk fp12Field_k0 fp12Field_k1 fp12Field_k2 fp12Field_k3 fp12Field_k4 fp12Field_k5 fp12Field_k6 fp12Field_k7 fp12Field_k8 fp12Field_k9 fp12Field_k10 fp12Field_k11 fp12Field_k12 fp12Field_k13 fp12Field_k14 fp12Field_k15 fp12Field_k16 fp12Field_k17 fp12Field_k18 fp12Field_k19 fp12Field_k20 fp12Field_k21 fp12Field_k22 fp12Field_k23 fp12Field_k24 fp12Field_k25 fp12Field_k26 fp12Field_k27 fp12Field_k28 fp12Field_k29 fp12Field_k30 fp12Field_k31
theorem fp12Field_named : Try.prog.funcNamed Rows.fp12FieldRow.func = some 11 := by kernel_rfl
theorem fp12Field_wrap : Try.f11.isWrapper Try.prog Rows.fp12FieldRow.wrapper Rows.fp12FieldRow.mainSum := by unfold Func.isWrapper; first | (rw [if_pos (by decide +kernel)]; kernel_rfl) | (rw [if_neg (by decide +kernel)]; exact ⟨rfl, rfl⟩)
theorem fp12Field_over : Rows.fp12FieldRow.holds Try.pinned (OpenSpec.ofChange Rows.fp12FieldSpec) :=
  OpenClaim.holds_of_wide 11 Try.f11 rfl rfl rfl rfl rfl rfl rfl ⟨rfl, rfl, rfl, rfl, rfl⟩ rfl rfl rfl rfl rfl fp12Field_named Try.func11 fp12Field_join
    (of_decide_eq_true (by kernel_rfl)) fp12Field_wrap
    (fun os started H enc _ => fp12Field_lifted os started H enc)

/-- The statement. -/
theorem fp12Field_holds : Rows.Fp12FieldSaid := fp12Field_over
#print axioms fp12Field_holds
end Go.Proofs.Ytlkeeafhiijhdaa
