/-
  Fp12Conjugates: for every input the call returns true, and each argument reads behind it as before. No condition.
-/
import Derived.Test.YtlkeeafhiijhdaaRows
import Derived.Test.YtlkeeafhiijhdaaSay
import Derived.Test.YtlkeeafhiijhdaaJoin
import Derived.Test.YtlkeeafhiijhdaaLa10
import Derived.ProofKit
import Derived.OpenShut
namespace Go.Proofs.Ytlkeeafhiijhdaa
open Go Go.Eng Go.RowKit Go.ChangeShapes Go.WideShapes Go.ChangeAt
set_option linter.unusedVariables false

set_option maxRecDepth 100000 in
theorem fp12Conjugates_lifted (os : Os) (started : os.Started) (H : Type) (enc : TypeId × Value → H) :
    ReturnsInHanded {} Try.checked os 12 .any (Rows.fp12ConjugatesSpec.pre6 enc Try.prog Try.f12 Rows.fp12ConjugatesRow.domain false) (Rows.fp12ConjugatesSpec.post enc Try.prog Try.f12 false true false false) := by
  refine lifted_any (C := Try.checked) say_own started (by kernel_rfl) Try.func12
    (ChangeSpec.witness6 (enc := enc) (C := Try.checked) false ⟨#[], #[.agg (Array.replicate 72 (.int .u64 0)), .agg (Array.replicate 72 (.int .u64 0))], []⟩ 8 (by kernel_rfl) (by kernel_rfl) (by kernel_rfl) (by kernel_rfl))
    say_laid (by kernel_rfl) rfl (tb := 4) (by kernel_rfl) (by kernel_rfl) (fun ds hd => ?_) ?_
  · rw [Try.params12] at hd
    match ds, hd with
    | [d0, d1], _ => exact ⟨rfl, rfl, rfl⟩
  · intro W base args ds ps hval hA hlt
    rw [Try.params12] at hA hval
    obtain ⟨v0, vs0, d0, ds0, p0, q0, hargs, rfl, rfl, h0, r0⟩ := trodAll_cons hA
    obtain ⟨v1, vs1, d1, ds1, p1, q1, rfl, rfl, rfl, h1, r1⟩ := trodAll_cons r0
    obtain ⟨rfl, rfl, rfl⟩ := trodAll_nil r1
    obtain rfl : args = #[v0, v1] := by cases args; simp_all
    obtain ⟨a0, s0, rfl⟩ := open_nm (A := N12) (by kernel_rfl) (by kernel_rfl) (by kernel_rfl) (hval 0 30 v0 rfl rfl) h0
    obtain ⟨a1, s1, rfl⟩ := open_nm (A := N12) (by kernel_rfl) (by kernel_rfl) (by kernel_rfl) (hval 1 30 v1 rfl rfl) h1
    exact fp12Conjugates_gives a0 s0 a1 s1 W

theorem fp12Conjugates_k0 : Rows.fp12ConjugatesRow.wf (OpenSpec.ofChange Rows.fp12ConjugatesSpec) = true := by kernel_rfl
theorem fp12Conjugates_k1 : laidOutB Try.prog = true := by kernel_rfl
theorem fp12Conjugates_k2 : mapsRowed Try.prog = true := by kernel_rfl
theorem fp12Conjugates_k3 : Try.f12.params.all (Try.prog.readableRec ·) = true := by kernel_rfl
theorem fp12Conjugates_k4 : namedTie Try.prog Rows.fp12ConjugatesRow.named Rows.fp12ConjugatesSpec.vars = true := by kernel_rfl
theorem fp12Conjugates_k5 : (Rows.fp12ConjugatesRow.stops == []) = true := by kernel_rfl
theorem fp12Conjugates_k6 : (Try.prog.stops == []) = true := by kernel_rfl
theorem fp12Conjugates_k7 : (Rows.fp12ConjugatesRow.knobs == []) = true := by kernel_rfl
theorem fp12Conjugates_k8 : (Try.prog.stopKnobs == []) = true := by kernel_rfl
theorem fp12Conjugates_k9 : (Rows.fp12ConjugatesRow.inPlace == Try.prog.inPlace 12) = true := by kernel_rfl
theorem fp12Conjugates_k10 : (Rows.fp12ConjugatesRow.unfollowed == Try.prog.unfollowed 12) = true := by kernel_rfl
theorem fp12Conjugates_k11 : (Rows.fp12ConjugatesRow.recurses == Try.prog.recurses 12) = true := by kernel_rfl
theorem fp12Conjugates_k12 : (Rows.fp12ConjugatesRow.named == Try.prog.varsNamed 12) = true := by kernel_rfl
theorem fp12Conjugates_k13 : (Rows.fp12ConjugatesRow.maps == (Try.f12.params.toList ++ Rows.fp12ConjugatesSpec.plain.varTypes Try.prog).any (Try.prog.mapsRec ·)) = true := by kernel_rfl
theorem fp12Conjugates_k14 : (Rows.fp12ConjugatesRow.ifaces == (Try.f12.params.toList ++ Rows.fp12ConjugatesSpec.plain.varTypes Try.prog).any (Try.prog.ifacesRec ·)) = true := by kernel_rfl
theorem fp12Conjugates_k15 : (Rows.fp12ConjugatesRow.mapsOut == Try.prog.mapsAmong Try.f12.resultTypes.toList) = true := by kernel_rfl
theorem fp12Conjugates_k16 : (Rows.fp12ConjugatesRow.loops == (Try.f12.params.toList ++ Rows.fp12ConjugatesSpec.plain.varTypes Try.prog).any (Try.prog.loopsFrom ·)) = true := by kernel_rfl
theorem fp12Conjugates_k17 : (Rows.fp12ConjugatesRow.wideKeys == (Try.f12.params.toList ++ Rows.fp12ConjugatesSpec.plain.varTypes Try.prog ++ Try.f12.resultTypes.toList).any (Try.prog.wideKeysFrom ·)) = true := by kernel_rfl
theorem fp12Conjugates_k18 : Rows.fp12ConjugatesSpec.vars.all (Try.prog.varReadable ·) = true := by kernel_rfl
theorem fp12Conjugates_k19 : Try.f12.resultTypes.all (fun t => Try.prog.readableRec t && decide (t < Try.prog.types.size)) = true := by kernel_rfl
theorem fp12Conjugates_k20 : (Rows.fp12ConjugatesRow.ifacesOut == Try.f12.resultTypes.toList.any (Try.prog.ifacesRec ·)) = true := by kernel_rfl
theorem fp12Conjugates_k21 : (Rows.fp12ConjugatesRow.loopsOut == Try.f12.resultTypes.toList.any (Try.prog.loopsFrom ·)) = true := by kernel_rfl
theorem fp12Conjugates_k22 : (Rows.fp12ConjugatesRow.plainKeys == Try.prog.plainKeys) = true := by kernel_rfl
theorem fp12Conjugates_k23 : Rows.fp12ConjugatesRow.shortTexts.isNone = true := by kernel_rfl
theorem fp12Conjugates_k24 : Try.prog.stopsHeard = true := by kernel_rfl
theorem fp12Conjugates_k25 : Try.prog.mayEnter = true := by kernel_rfl
theorem fp12Conjugates_k26 : (Rows.fp12ConjugatesRow.lifted == Try.prog.liftsFinal) = true := by kernel_rfl
theorem fp12Conjugates_k27 : (Try.prog.make == some Rows.fp12ConjugatesRow.make) = true := by kernel_rfl
theorem fp12Conjugates_k28 : (Rows.fp12ConjugatesRow.kinds == (if Rows.fp12ConjugatesRow.domain.isEmpty then [] else Try.f12.params.toList.map fun t => match Try.prog.underlying t with | some (.int k) => some k | _ => none)) = true := by kernel_rfl
theorem fp12Conjugates_k29 : (Rows.fp12ConjugatesRow.pinned == Rows.fp12ConjugatesRow.pinnedBy) = true := by kernel_rfl
theorem fp12Conjugates_k30 : (Rows.fp12ConjugatesRow.veiled == (Try.f12.params.toList ++ Rows.fp12ConjugatesSpec.plain.varTypes Try.prog ++ Try.f12.resultTypes.toList).any (Try.prog.veiledRec ·)) = true := by kernel_rfl
theorem fp12Conjugates_k31 : Rows.fp12ConjugatesRow.veiledFits Try.prog Try.f12.params.toList (Try.f12.params.toList ++ Rows.fp12ConjugatesSpec.plain.varTypes Try.prog ++ Try.f12.resultTypes.toList) = true := by kernel_rfl
theorem fp12Conjugates_join : joinedFacts Try.prog 12 Try.f12 Rows.fp12ConjugatesSpec Rows.fp12ConjugatesRow = true := joined_mk fp12Conjugates_k0 fp12Conjugates_k1 fp12Conjugates_k2 fp12Conjugates_k3 fp12Conjugates_k4 fp12Conjugates_k5 fp12Conjugates_k6 fp12Conjugates_k7 fp12Conjugates_k8 fp12Conjugates_k9 fp12Conjugates_k10 fp12Conjugates_k11 fp12Conjugates_k12 fp12Conjugates_k13 fp12Conjugates_k14 fp12Conjugates_k15 fp12Conjugates_k16 fp12Conjugates_k17 fp12Conjugates_k18 fp12Conjugates_k19 fp12Conjugates_k20 fp12Conjugates_k21 fp12Conjugates_k22 fp12Conjugates_k23 fp12Conjugates_k24 fp12Conjugates_k25 fp12Conjugates_k26 fp12Conjugates_k27 fp12Conjugates_k28 fp12Conjugates_k29 fp12Conjugates_k30 fp12Conjugates_k31
theorem fp12Conjugates_named : Try.prog.funcNamed Rows.fp12ConjugatesRow.func = some 12 := by kernel_rfl
theorem fp12Conjugates_wrap : Try.f12.isWrapper Try.prog Rows.fp12ConjugatesRow.wrapper Rows.fp12ConjugatesRow.mainSum := by unfold Func.isWrapper; first | (rw [if_pos (by decide +kernel)]; kernel_rfl) | (rw [if_neg (by decide +kernel)]; exact ⟨rfl, rfl⟩)
theorem fp12Conjugates_over : Rows.fp12ConjugatesRow.holds Try.pinned (OpenSpec.ofChange Rows.fp12ConjugatesSpec) :=
  OpenClaim.holds_of_wide 12 Try.f12 rfl rfl rfl rfl rfl rfl rfl ⟨rfl, rfl, rfl, rfl, rfl⟩ rfl rfl rfl rfl rfl fp12Conjugates_named Try.func12 fp12Conjugates_join
    (of_decide_eq_true (by kernel_rfl)) fp12Conjugates_wrap
    (fun os started H enc _ => fp12Conjugates_lifted os started H enc)

/-- The statement. -/
theorem fp12Conjugates_holds : Rows.Fp12ConjugatesSaid := fp12Conjugates_over
#print axioms fp12Conjugates_holds
end Go.Proofs.Ytlkeeafhiijhdaa
