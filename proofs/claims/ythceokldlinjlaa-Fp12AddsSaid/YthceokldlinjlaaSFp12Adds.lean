/-
  Fp12Adds: for every input the call returns true, and each argument reads behind it as before. No condition.
-/
import Derived.Test.YthceokldlinjlaaRows
import Derived.Test.YthceokldlinjlaaSay
import Derived.Test.YthceokldlinjlaaJoin
import Derived.Test.YthceokldlinjlaaK
import Derived.Test.YthceokldlinjlaaLaA10
import Derived.ProofKit
import Derived.OpenShut
namespace Go.Proofs.Ythceokldlinjlaa
open Go Go.Eng Go.RowKit Go.ChangeShapes Go.WideShapes Go.ChangeAt
set_option linter.unusedVariables false

set_option maxRecDepth 100000 in
theorem fp12Adds_lifted (os : Os) (started : os.Started) (H : Type) (enc : TypeId × Value → H) :
    ReturnsInHanded {} Try.checked os 3 .any (Rows.fp12AddsSpec.pre6 enc Try.prog Try.f3 Rows.fp12AddsRow.domain false) (Rows.fp12AddsSpec.post enc Try.prog Try.f3 false true false false) := by
  refine lifted_any (C := Try.checked) say_own started (by kernel_rfl) Try.func3
    (ChangeSpec.witness6 (enc := enc) (C := Try.checked) false ⟨#[], #[.agg (Array.replicate 72 (.int .u64 0)), .int .u64 0, .int .u64 0], []⟩ 8 (by kernel_rfl) (by kernel_rfl) (by kernel_rfl) (by kernel_rfl))
    say_laid (by kernel_rfl) rfl (tb := 4) (by kernel_rfl) (by kernel_rfl) (fun ds hd => ?_) ?_
  · rw [Try.params3] at hd
    match ds, hd with
    | [d0, d1, d2], _ => exact ⟨rfl, rfl, rfl⟩
  · intro W base args ds ps hval hA hlt
    rw [Try.params3] at hA hval
    obtain ⟨v0, vs0, d0, ds0, p0, q0, hargs, rfl, rfl, h0, r0⟩ := trodAll_cons hA
    obtain ⟨v1, vs1, d1, ds1, p1, q1, rfl, rfl, rfl, h1, r1⟩ := trodAll_cons r0
    obtain ⟨v2, vs2, d2, ds2, p2, q2, rfl, rfl, rfl, h2, r2⟩ := trodAll_cons r1
    obtain ⟨rfl, rfl, rfl⟩ := trodAll_nil r2
    obtain rfl : args = #[v0, v1, v2] := by cases args; simp_all
    obtain ⟨a0, s0, rfl⟩ := open_nm (A := N12) (by kernel_rfl) (by kernel_rfl) (by kernel_rfl) (hval 0 30 v0 rfl rfl) h0
    obtain ⟨a1, rfl, rfl, rfl, s1⟩ := open_int (k := .u64) (by kernel_rfl) (hval 1 22 v1 rfl rfl) h1
    obtain ⟨a2, rfl, rfl, rfl, s2⟩ := open_int (k := .u64) (by kernel_rfl) (hval 2 22 v2 rfl rfl) h2
    exact fp12Adds_gives a0 s0 a1 (wf_u64 s1) a2 (wf_u64 s2) W

theorem fp12Adds_k0 : Rows.fp12AddsRow.wf (OpenSpec.ofChange Rows.fp12AddsSpec) = true := by kernel_rfl
theorem fp12Adds_k1 : laidOutB Try.prog = true := by kernel_rfl
theorem fp12Adds_k2 : mapsRowed Try.prog = true := by kernel_rfl
theorem fp12Adds_k3 : Try.f3.params.all (Try.prog.readableRec ·) = true := by kernel_rfl
theorem fp12Adds_k4 : namedTie Try.prog Rows.fp12AddsRow.named Rows.fp12AddsSpec.vars = true := by kernel_rfl
theorem fp12Adds_k5 : (Rows.fp12AddsRow.stops == []) = true := by kernel_rfl
theorem fp12Adds_k6 : (Try.prog.stops == []) = true := by kernel_rfl
theorem fp12Adds_k7 : (Rows.fp12AddsRow.knobs == []) = true := by kernel_rfl
theorem fp12Adds_k8 : (Try.prog.stopKnobs == []) = true := by kernel_rfl
theorem fp12Adds_k9 : (Rows.fp12AddsRow.inPlace == Try.prog.inPlace 3) = true := by kernel_rfl
theorem fp12Adds_k10 : (Rows.fp12AddsRow.unfollowed == Try.prog.unfollowed 3) = true := by kernel_rfl
theorem fp12Adds_k11 : (Rows.fp12AddsRow.recurses == Try.prog.recurses 3) = true := by kernel_rfl
theorem fp12Adds_k12 : (Rows.fp12AddsRow.named == Try.prog.varsNamed 3) = true := by kernel_rfl
theorem fp12Adds_k13 : (Rows.fp12AddsRow.maps == (Try.f3.params.toList ++ Rows.fp12AddsSpec.plain.varTypes Try.prog).any (Try.prog.mapsRec ·)) = true := by kernel_rfl
theorem fp12Adds_k14 : (Rows.fp12AddsRow.ifaces == (Try.f3.params.toList ++ Rows.fp12AddsSpec.plain.varTypes Try.prog).any (Try.prog.ifacesRec ·)) = true := by kernel_rfl
theorem fp12Adds_k15 : (Rows.fp12AddsRow.mapsOut == Try.prog.mapsAmong Try.f3.resultTypes.toList) = true := by kernel_rfl
theorem fp12Adds_k16 : (Rows.fp12AddsRow.loops == (Try.f3.params.toList ++ Rows.fp12AddsSpec.plain.varTypes Try.prog).any (Try.prog.loopsFrom ·)) = true := by kernel_rfl
theorem fp12Adds_k17 : (Rows.fp12AddsRow.wideKeys == (Try.f3.params.toList ++ Rows.fp12AddsSpec.plain.varTypes Try.prog ++ Try.f3.resultTypes.toList).any (Try.prog.wideKeysFrom ·)) = true := by kernel_rfl
theorem fp12Adds_k18 : Rows.fp12AddsSpec.vars.all (Try.prog.varReadable ·) = true := by kernel_rfl
theorem fp12Adds_k19 : Try.f3.resultTypes.all (fun t => Try.prog.readableRec t && decide (t < Try.prog.types.size)) = true := by kernel_rfl
theorem fp12Adds_k20 : (Rows.fp12AddsRow.ifacesOut == Try.f3.resultTypes.toList.any (Try.prog.ifacesRec ·)) = true := by kernel_rfl
theorem fp12Adds_k21 : (Rows.fp12AddsRow.loopsOut == Try.f3.resultTypes.toList.any (Try.prog.loopsFrom ·)) = true := by kernel_rfl
theorem fp12Adds_k22 : (Rows.fp12AddsRow.plainKeys == Try.prog.plainKeys) = true := by kernel_rfl
theorem fp12Adds_k23 : Rows.fp12AddsRow.shortTexts.isNone = true := by kernel_rfl
theorem fp12Adds_k24 : Try.prog.stopsHeard = true := by kernel_rfl
theorem fp12Adds_k25 : Try.prog.mayEnter = true := sk25
theorem fp12Adds_k26 : (Rows.fp12AddsRow.lifted == Try.prog.liftsFinal) = true := (congrArg (· == Try.prog.liftsFinal) (show Rows.fp12AddsRow.lifted = Rows.subOrdersRow.lifted by kernel_rfl)).trans sk26
theorem fp12Adds_k27 : (Try.prog.make == some Rows.fp12AddsRow.make) = true := (congrArg (fun m => Try.prog.make == some m) (show Rows.fp12AddsRow.make = Rows.subOrdersRow.make by kernel_rfl)).trans sk27
theorem fp12Adds_k28 : (Rows.fp12AddsRow.kinds == (if Rows.fp12AddsRow.domain.isEmpty then [] else Try.f3.params.toList.map fun t => match Try.prog.underlying t with | some (.int k) => some k | _ => none)) = true := by kernel_rfl
theorem fp12Adds_k29 : (Rows.fp12AddsRow.pinned == Rows.fp12AddsRow.pinnedBy) = true := by kernel_rfl
theorem fp12Adds_k30 : (Rows.fp12AddsRow.veiled == (Try.f3.params.toList ++ Rows.fp12AddsSpec.plain.varTypes Try.prog ++ Try.f3.resultTypes.toList).any (Try.prog.veiledRec ·)) = true := by kernel_rfl
theorem fp12Adds_k31 : Rows.fp12AddsRow.veiledFits Try.prog Try.f3.params.toList (Try.f3.params.toList ++ Rows.fp12AddsSpec.plain.varTypes Try.prog ++ Try.f3.resultTypes.toList) = true := by kernel_rfl
set_option maxRecDepth 100000 in
theorem fp12Adds_join : joinedFacts Try.prog 3 Try.f3 Rows.fp12AddsSpec Rows.fp12AddsRow = true := joined_mk fp12Adds_k0 fp12Adds_k1 fp12Adds_k2 fp12Adds_k3 fp12Adds_k4 fp12Adds_k5 fp12Adds_k6 fp12Adds_k7 fp12Adds_k8 fp12Adds_k9 fp12Adds_k10 fp12Adds_k11 fp12Adds_k12 fp12Adds_k13 fp12Adds_k14 fp12Adds_k15 fp12Adds_k16 fp12Adds_k17 fp12Adds_k18 fp12Adds_k19 fp12Adds_k20 fp12Adds_k21 fp12Adds_k22 fp12Adds_k23 fp12Adds_k24 fp12Adds_k25 fp12Adds_k26 fp12Adds_k27 fp12Adds_k28 fp12Adds_k29 fp12Adds_k30 fp12Adds_k31
theorem fp12Adds_named : Try.prog.funcNamed Rows.fp12AddsRow.func = some 3 := by kernel_rfl
theorem fp12Adds_wrap : Try.f3.isWrapper Try.prog Rows.fp12AddsRow.wrapper Rows.fp12AddsRow.mainSum := by unfold Func.isWrapper; first | (rw [if_pos (by decide +kernel)]; kernel_rfl) | (rw [if_neg (by decide +kernel)]; exact ⟨rfl, rfl⟩)
theorem fp12Adds_over : Rows.fp12AddsRow.holds Try.pinned (OpenSpec.ofChange Rows.fp12AddsSpec) :=
  OpenClaim.holds_of_wide 3 Try.f3 rfl rfl rfl rfl rfl rfl rfl ⟨rfl, rfl, rfl, rfl, rfl⟩ rfl rfl rfl rfl rfl fp12Adds_named Try.func3 fp12Adds_join
    (of_decide_eq_true (by kernel_rfl)) fp12Adds_wrap
    (fun os started H enc _ => fp12Adds_lifted os started H enc)

/-- The statement. -/
theorem fp12Adds_holds : Rows.Fp12AddsSaid := fp12Adds_over
#print axioms fp12Adds_holds
end Go.Proofs.Ythceokldlinjlaa
