/-
  Fp6Turns: for every input the call returns true, and each argument reads behind it as before. No condition.
-/
import Derived.Test.YtlkeeafhiijhdaaRows
import Derived.Test.YtlkeeafhiijhdaaSay
import Derived.Test.YtlkeeafhiijhdaaJoin
import Derived.Test.YtlkeeafhiijhdaaLa9
import Derived.ProofKit
import Derived.OpenShut
namespace Go.Proofs.Ytlkeeafhiijhdaa
open Go Go.Eng Go.RowKit Go.ChangeShapes Go.WideShapes Go.ChangeAt
set_option linter.unusedVariables false

set_option maxRecDepth 100000 in
theorem fp6Turns_lifted (os : Os) (started : os.Started) (H : Type) (enc : TypeId × Value → H) :
    ReturnsInHanded {} Try.checked os 5 .any (Rows.fp6TurnsSpec.pre6 enc Try.prog Try.f5 Rows.fp6TurnsRow.domain false) (Rows.fp6TurnsSpec.post enc Try.prog Try.f5 false true false false) := by
  refine lifted_any (C := Try.checked) say_own started (by kernel_rfl) Try.func5
    (ChangeSpec.witness6 (enc := enc) (C := Try.checked) false ⟨#[], #[.agg (Array.replicate 36 (.int .u64 0)), .agg (Array.replicate 12 (.int .u64 0))], []⟩ 8 (by kernel_rfl) (by kernel_rfl) (by kernel_rfl) (by kernel_rfl))
    say_laid (by kernel_rfl) rfl (tb := 4) (by kernel_rfl) (by kernel_rfl) (fun ds hd => ?_) ?_
  · rw [Try.params5] at hd
    match ds, hd with
    | [d0, d1], _ => exact ⟨rfl, rfl, rfl⟩
  · intro W base args ds ps hval hA hlt
    rw [Try.params5] at hA hval
    obtain ⟨v0, vs0, d0, ds0, p0, q0, hargs, rfl, rfl, h0, r0⟩ := trodAll_cons hA
    obtain ⟨v1, vs1, d1, ds1, p1, q1, rfl, rfl, rfl, h1, r1⟩ := trodAll_cons r0
    obtain ⟨rfl, rfl, rfl⟩ := trodAll_nil r1
    obtain rfl : args = #[v0, v1] := by cases args; simp_all
    obtain ⟨a0, s0, rfl⟩ := open_nm (A := N6) (by kernel_rfl) (by kernel_rfl) (by kernel_rfl) (hval 0 28 v0 rfl rfl) h0
    obtain ⟨a1, s1, rfl⟩ := open_nm (A := N2) (by kernel_rfl) (by kernel_rfl) (by kernel_rfl) (hval 1 26 v1 rfl rfl) h1
    exact fp6Turns_gives a0 s0 a1 s1 W

theorem fp6Turns_k0 : Rows.fp6TurnsRow.wf (OpenSpec.ofChange Rows.fp6TurnsSpec) = true := by kernel_rfl
theorem fp6Turns_k1 : laidOutB Try.prog = true := by kernel_rfl
theorem fp6Turns_k2 : mapsRowed Try.prog = true := by kernel_rfl
theorem fp6Turns_k3 : Try.f5.params.all (Try.prog.readableRec ·) = true := by kernel_rfl
theorem fp6Turns_k4 : namedTie Try.prog Rows.fp6TurnsRow.named Rows.fp6TurnsSpec.vars = true := by kernel_rfl
theorem fp6Turns_k5 : (Rows.fp6TurnsRow.stops == []) = true := by kernel_rfl
theorem fp6Turns_k6 : (Try.prog.stops == []) = true := by kernel_rfl
theorem fp6Turns_k7 : (Rows.fp6TurnsRow.knobs == []) = true := by kernel_rfl
theorem fp6Turns_k8 : (Try.prog.stopKnobs == []) = true := by kernel_rfl
theorem fp6Turns_k9 : (Rows.fp6TurnsRow.inPlace == Try.prog.inPlace 5) = true := by kernel_rfl
theorem fp6Turns_k10 : (Rows.fp6TurnsRow.unfollowed == Try.prog.unfollowed 5) = true := by kernel_rfl
theorem fp6Turns_k11 : (Rows.fp6TurnsRow.recurses == Try.prog.recurses 5) = true := by kernel_rfl
theorem fp6Turns_k12 : (Rows.fp6TurnsRow.named == Try.prog.varsNamed 5) = true := by kernel_rfl
theorem fp6Turns_k13 : (Rows.fp6TurnsRow.maps == (Try.f5.params.toList ++ Rows.fp6TurnsSpec.plain.varTypes Try.prog).any (Try.prog.mapsRec ·)) = true := by kernel_rfl
theorem fp6Turns_k14 : (Rows.fp6TurnsRow.ifaces == (Try.f5.params.toList ++ Rows.fp6TurnsSpec.plain.varTypes Try.prog).any (Try.prog.ifacesRec ·)) = true := by kernel_rfl
theorem fp6Turns_k15 : (Rows.fp6TurnsRow.mapsOut == Try.prog.mapsAmong Try.f5.resultTypes.toList) = true := by kernel_rfl
theorem fp6Turns_k16 : (Rows.fp6TurnsRow.loops == (Try.f5.params.toList ++ Rows.fp6TurnsSpec.plain.varTypes Try.prog).any (Try.prog.loopsFrom ·)) = true := by kernel_rfl
theorem fp6Turns_k17 : (Rows.fp6TurnsRow.wideKeys == (Try.f5.params.toList ++ Rows.fp6TurnsSpec.plain.varTypes Try.prog ++ Try.f5.resultTypes.toList).any (Try.prog.wideKeysFrom ·)) = true := by kernel_rfl
theorem fp6Turns_k18 : Rows.fp6TurnsSpec.vars.all (Try.prog.varReadable ·) = true := by kernel_rfl
theorem fp6Turns_k19 : Try.f5.resultTypes.all (fun t => Try.prog.readableRec t && decide (t < Try.prog.types.size)) = true := by kernel_rfl
theorem fp6Turns_k20 : (Rows.fp6TurnsRow.ifacesOut == Try.f5.resultTypes.toList.any (Try.prog.ifacesRec ·)) = true := by kernel_rfl
theorem fp6Turns_k21 : (Rows.fp6TurnsRow.loopsOut == Try.f5.resultTypes.toList.any (Try.prog.loopsFrom ·)) = true := by kernel_rfl
theorem fp6Turns_k22 : (Rows.fp6TurnsRow.plainKeys == Try.prog.plainKeys) = true := by kernel_rfl
theorem fp6Turns_k23 : Rows.fp6TurnsRow.shortTexts.isNone = true := by kernel_rfl
theorem fp6Turns_k24 : Try.prog.stopsHeard = true := by kernel_rfl
theorem fp6Turns_k25 : Try.prog.mayEnter = true := by kernel_rfl
theorem fp6Turns_k26 : (Rows.fp6TurnsRow.lifted == Try.prog.liftsFinal) = true := by kernel_rfl
theorem fp6Turns_k27 : (Try.prog.make == some Rows.fp6TurnsRow.make) = true := by kernel_rfl
theorem fp6Turns_k28 : (Rows.fp6TurnsRow.kinds == (if Rows.fp6TurnsRow.domain.isEmpty then [] else Try.f5.params.toList.map fun t => match Try.prog.underlying t with | some (.int k) => some k | _ => none)) = true := by kernel_rfl
theorem fp6Turns_k29 : (Rows.fp6TurnsRow.pinned == Rows.fp6TurnsRow.pinnedBy) = true := by kernel_rfl
theorem fp6Turns_k30 : (Rows.fp6TurnsRow.veiled == (Try.f5.params.toList ++ Rows.fp6TurnsSpec.plain.varTypes Try.prog ++ Try.f5.resultTypes.toList).any (Try.prog.veiledRec ·)) = true := by kernel_rfl
theorem fp6Turns_k31 : Rows.fp6TurnsRow.veiledFits Try.prog Try.f5.params.toList (Try.f5.params.toList ++ Rows.fp6TurnsSpec.plain.varTypes Try.prog ++ Try.f5.resultTypes.toList) = true := by kernel_rfl
theorem fp6Turns_join : joinedFacts Try.prog 5 Try.f5 Rows.fp6TurnsSpec Rows.fp6TurnsRow = true := joined_mk fp6Turns_k0 fp6Turns_k1 fp6Turns_k2 fp6Turns_k3 fp6Turns_k4 fp6Turns_k5 fp6Turns_k6 fp6Turns_k7 fp6Turns_k8 fp6Turns_k9 fp6Turns_k10 fp6Turns_k11 fp6Turns_k12 fp6Turns_k13 fp6Turns_k14 fp6Turns_k15 fp6Turns_k16 fp6Turns_k17 fp6Turns_k18 fp6Turns_k19 fp6Turns_k20 fp6Turns_k21 fp6Turns_k22 fp6Turns_k23 fp6Turns_k24 fp6Turns_k25 fp6Turns_k26 fp6Turns_k27 fp6Turns_k28 fp6Turns_k29 fp6Turns_k30 fp6Turns_k31
theorem fp6Turns_named : Try.prog.funcNamed Rows.fp6TurnsRow.func = some 5 := by kernel_rfl
theorem fp6Turns_wrap : Try.f5.isWrapper Try.prog Rows.fp6TurnsRow.wrapper Rows.fp6TurnsRow.mainSum := by unfold Func.isWrapper; first | (rw [if_pos (by decide +kernel)]; kernel_rfl) | (rw [if_neg (by decide +kernel)]; exact ⟨rfl, rfl⟩)
theorem fp6Turns_over : Rows.fp6TurnsRow.holds Try.pinned (OpenSpec.ofChange Rows.fp6TurnsSpec) :=
  OpenClaim.holds_of_wide 5 Try.f5 rfl rfl rfl rfl rfl rfl rfl ⟨rfl, rfl, rfl, rfl, rfl⟩ rfl rfl rfl rfl rfl fp6Turns_named Try.func5 fp6Turns_join
    (of_decide_eq_true (by kernel_rfl)) fp6Turns_wrap
    (fun os started H enc _ => fp6Turns_lifted os started H enc)

/-- The statement. -/
theorem fp6Turns_holds : Rows.Fp6TurnsSaid := fp6Turns_over
#print axioms fp6Turns_holds
end Go.Proofs.Ytlkeeafhiijhdaa
