/-
  G2Steps: for every input the call returns true, and each argument reads behind it as before. No condition.
-/
import Derived.Test.YthceokldlinjlaaRows
import Derived.Test.YthceokldlinjlaaSay
import Derived.Test.YthceokldlinjlaaJoin
import Derived.Test.YthceokldlinjlaaK
import Derived.Test.YthceokldlinjlaaLaA13
import Derived.ProofKit
import Derived.OpenShut
namespace Go.Proofs.Ythceokldlinjlaa
open Go Go.Eng Go.RowKit Go.ChangeShapes Go.WideShapes Go.ChangeAt
set_option linter.unusedVariables false

set_option maxRecDepth 100000 in
theorem g2Steps_lifted (os : Os) (started : os.Started) (H : Type) (enc : TypeId × Value → H) :
    ReturnsInHanded {} Try.checked os 5 .any (Rows.g2StepsSpec.pre6 enc Try.prog Try.f5 Rows.g2StepsRow.domain false) (Rows.g2StepsSpec.post enc Try.prog Try.f5 false true false false) := by
  refine lifted_any (C := Try.checked) say_own started (by kernel_rfl) Try.func5
    (ChangeSpec.witness6 (enc := enc) (C := Try.checked) false ⟨#[], #[.agg ((Array.replicate 24 (.int .u64 0)).push (.bool false)), .int .u64 0, .int .u64 0], []⟩ 8 (by kernel_rfl) (by kernel_rfl) (by kernel_rfl) (by kernel_rfl))
    say_laid (by kernel_rfl) rfl (tb := 4) (by kernel_rfl) (by kernel_rfl) (fun ds hd => ?_) ?_
  · rw [Try.params5] at hd
    match ds, hd with
    | [d0, d1, d2], _ => exact ⟨rfl, rfl, rfl⟩
  · intro W base args ds ps hval hA hlt
    rw [Try.params5] at hA hval
    obtain ⟨v0, vs0, d0, ds0, p0, q0, hargs, rfl, rfl, h0, r0⟩ := trodAll_cons hA
    obtain ⟨v1, vs1, d1, ds1, p1, q1, rfl, rfl, rfl, h1, r1⟩ := trodAll_cons r0
    obtain ⟨v2, vs2, d2, ds2, p2, q2, rfl, rfl, rfl, h2, r2⟩ := trodAll_cons r1
    obtain ⟨rfl, rfl, rfl⟩ := trodAll_nil r2
    obtain rfl : args = #[v0, v1, v2] := by cases args; simp_all
    obtain ⟨a0, s0, rfl⟩ := open_pt (A := A2) (by kernel_rfl) (by kernel_rfl) (by kernel_rfl) (hval 0 41 v0 rfl rfl) h0
    obtain ⟨a1, rfl, rfl, rfl, s1⟩ := open_int (k := .u64) (by kernel_rfl) (hval 1 22 v1 rfl rfl) h1
    obtain ⟨a2, rfl, rfl, rfl, s2⟩ := open_int (k := .u64) (by kernel_rfl) (hval 2 22 v2 rfl rfl) h2
    exact g2Steps_gives a0 s0 a1 (wf_u64 s1) a2 (wf_u64 s2) W

theorem g2Steps_k0 : Rows.g2StepsRow.wf (OpenSpec.ofChange Rows.g2StepsSpec) = true := by kernel_rfl
theorem g2Steps_k1 : laidOutB Try.prog = true := by kernel_rfl
theorem g2Steps_k2 : mapsRowed Try.prog = true := by kernel_rfl
theorem g2Steps_k3 : Try.f5.params.all (Try.prog.readableRec ·) = true := by kernel_rfl
theorem g2Steps_k4 : namedTie Try.prog Rows.g2StepsRow.named Rows.g2StepsSpec.vars = true := by kernel_rfl
theorem g2Steps_k5 : (Rows.g2StepsRow.stops == []) = true := by kernel_rfl
theorem g2Steps_k6 : (Try.prog.stops == []) = true := by kernel_rfl
theorem g2Steps_k7 : (Rows.g2StepsRow.knobs == []) = true := by kernel_rfl
theorem g2Steps_k8 : (Try.prog.stopKnobs == []) = true := by kernel_rfl
theorem g2Steps_k9 : (Rows.g2StepsRow.inPlace == Try.prog.inPlace 5) = true := by kernel_rfl
theorem g2Steps_k10 : (Rows.g2StepsRow.unfollowed == Try.prog.unfollowed 5) = true := by kernel_rfl
theorem g2Steps_k11 : (Rows.g2StepsRow.recurses == Try.prog.recurses 5) = true := by kernel_rfl
theorem g2Steps_k12 : (Rows.g2StepsRow.named == Try.prog.varsNamed 5) = true := by kernel_rfl
theorem g2Steps_k13 : (Rows.g2StepsRow.maps == (Try.f5.params.toList ++ Rows.g2StepsSpec.plain.varTypes Try.prog).any (Try.prog.mapsRec ·)) = true := by kernel_rfl
theorem g2Steps_k14 : (Rows.g2StepsRow.ifaces == (Try.f5.params.toList ++ Rows.g2StepsSpec.plain.varTypes Try.prog).any (Try.prog.ifacesRec ·)) = true := by kernel_rfl
theorem g2Steps_k15 : (Rows.g2StepsRow.mapsOut == Try.prog.mapsAmong Try.f5.resultTypes.toList) = true := by kernel_rfl
theorem g2Steps_k16 : (Rows.g2StepsRow.loops == (Try.f5.params.toList ++ Rows.g2StepsSpec.plain.varTypes Try.prog).any (Try.prog.loopsFrom ·)) = true := by kernel_rfl
theorem g2Steps_k17 : (Rows.g2StepsRow.wideKeys == (Try.f5.params.toList ++ Rows.g2StepsSpec.plain.varTypes Try.prog ++ Try.f5.resultTypes.toList).any (Try.prog.wideKeysFrom ·)) = true := by kernel_rfl
theorem g2Steps_k18 : Rows.g2StepsSpec.vars.all (Try.prog.varReadable ·) = true := by kernel_rfl
theorem g2Steps_k19 : Try.f5.resultTypes.all (fun t => Try.prog.readableRec t && decide (t < Try.prog.types.size)) = true := by kernel_rfl
theorem g2Steps_k20 : (Rows.g2StepsRow.ifacesOut == Try.f5.resultTypes.toList.any (Try.prog.ifacesRec ·)) = true := by kernel_rfl
theorem g2Steps_k21 : (Rows.g2StepsRow.loopsOut == Try.f5.resultTypes.toList.any (Try.prog.loopsFrom ·)) = true := by kernel_rfl
theorem g2Steps_k22 : (Rows.g2StepsRow.plainKeys == Try.prog.plainKeys) = true := by kernel_rfl
theorem g2Steps_k23 : Rows.g2StepsRow.shortTexts.isNone = true := by kernel_rfl
theorem g2Steps_k24 : Try.prog.stopsHeard = true := by kernel_rfl
theorem g2Steps_k25 : Try.prog.mayEnter = true := sk25
theorem g2Steps_k26 : (Rows.g2StepsRow.lifted == Try.prog.liftsFinal) = true := (congrArg (· == Try.prog.liftsFinal) (show Rows.g2StepsRow.lifted = Rows.subOrdersRow.lifted by kernel_rfl)).trans sk26
theorem g2Steps_k27 : (Try.prog.make == some Rows.g2StepsRow.make) = true := (congrArg (fun m => Try.prog.make == some m) (show Rows.g2StepsRow.make = Rows.subOrdersRow.make by kernel_rfl)).trans sk27
theorem g2Steps_k28 : (Rows.g2StepsRow.kinds == (if Rows.g2StepsRow.domain.isEmpty then [] else Try.f5.params.toList.map fun t => match Try.prog.underlying t with | some (.int k) => some k | _ => none)) = true := by kernel_rfl
theorem g2Steps_k29 : (Rows.g2StepsRow.pinned == Rows.g2StepsRow.pinnedBy) = true := by kernel_rfl
theorem g2Steps_k30 : (Rows.g2StepsRow.veiled == (Try.f5.params.toList ++ Rows.g2StepsSpec.plain.varTypes Try.prog ++ Try.f5.resultTypes.toList).any (Try.prog.veiledRec ·)) = true := by kernel_rfl
theorem g2Steps_k31 : Rows.g2StepsRow.veiledFits Try.prog Try.f5.params.toList (Try.f5.params.toList ++ Rows.g2StepsSpec.plain.varTypes Try.prog ++ Try.f5.resultTypes.toList) = true := by kernel_rfl
set_option maxRecDepth 100000 in
theorem g2Steps_join : joinedFacts Try.prog 5 Try.f5 Rows.g2StepsSpec Rows.g2StepsRow = true := joined_mk g2Steps_k0 g2Steps_k1 g2Steps_k2 g2Steps_k3 g2Steps_k4 g2Steps_k5 g2Steps_k6 g2Steps_k7 g2Steps_k8 g2Steps_k9 g2Steps_k10 g2Steps_k11 g2Steps_k12 g2Steps_k13 g2Steps_k14 g2Steps_k15 g2Steps_k16 g2Steps_k17 g2Steps_k18 g2Steps_k19 g2Steps_k20 g2Steps_k21 g2Steps_k22 g2Steps_k23 g2Steps_k24 g2Steps_k25 g2Steps_k26 g2Steps_k27 g2Steps_k28 g2Steps_k29 g2Steps_k30 g2Steps_k31
theorem g2Steps_named : Try.prog.funcNamed Rows.g2StepsRow.func = some 5 := by kernel_rfl
theorem g2Steps_wrap : Try.f5.isWrapper Try.prog Rows.g2StepsRow.wrapper Rows.g2StepsRow.mainSum := by unfold Func.isWrapper; first | (rw [if_pos (by decide +kernel)]; kernel_rfl) | (rw [if_neg (by decide +kernel)]; exact ⟨rfl, rfl⟩)
theorem g2Steps_over : Rows.g2StepsRow.holds Try.pinned (OpenSpec.ofChange Rows.g2StepsSpec) :=
  OpenClaim.holds_of_wide 5 Try.f5 rfl rfl rfl rfl rfl rfl rfl ⟨rfl, rfl, rfl, rfl, rfl⟩ rfl rfl rfl rfl rfl g2Steps_named Try.func5 g2Steps_join
    (of_decide_eq_true (by kernel_rfl)) g2Steps_wrap
    (fun os started H enc _ => g2Steps_lifted os started H enc)

/-- The statement. -/
theorem g2Steps_holds : Rows.G2StepsSaid := g2Steps_over
#print axioms g2Steps_holds
end Go.Proofs.Ythceokldlinjlaa
