/-
  MillerNone: for every input the call returns true, and each argument reads behind it as before. No condition.
-/
import Derived.Test.YtmebkhfdhbjacaaRows
import Derived.Test.YtmebkhfdhbjacaaSay
import Derived.Test.YtmebkhfdhbjacaaJoin
import Derived.Test.YtmebkhfdhbjacaaK
import Derived.Test.YtmebkhfdhbjacaaLaM15
import Derived.ProofKit
import Derived.OpenShut
namespace Go.Proofs.Ytmebkhfdhbjacaa
open Go Go.Eng Go.RowKit Go.ChangeShapes Go.WideShapes Go.ChangeAt
set_option linter.unusedVariables false

set_option maxRecDepth 100000 in
theorem millerNone_lifted (os : Os) (started : os.Started) (H : Type) (enc : TypeId × Value → H) :
    ReturnsInHanded {} Try.checked os 9 .any (Rows.millerNoneSpec.pre6 enc Try.prog Try.f9 Rows.millerNoneRow.domain false) (Rows.millerNoneSpec.post enc Try.prog Try.f9 false true false false) := by
  refine lifted_any (C := Try.checked) say_own started (by kernel_rfl) Try.func9
    (ChangeSpec.witness6 (enc := enc) (C := Try.checked) false ⟨#[], #[.agg ((Array.replicate 12 (.int .u64 0)).push (.bool false)), .agg ((Array.replicate 24 (.int .u64 0)).push (.bool false))], []⟩ 8 (by kernel_rfl) (by kernel_rfl) (by kernel_rfl) (by kernel_rfl))
    say_laid (by kernel_rfl) rfl (tb := 4) (by kernel_rfl) (by kernel_rfl) (fun ds hd => ?_) ?_
  · rw [Try.params9] at hd
    match ds, hd with
    | [d0, d1], _ => exact ⟨rfl, rfl, rfl⟩
  · intro W base args ds ps hval hA hlt
    rw [Try.params9] at hA hval
    obtain ⟨v0, vs0, d0, ds0, p0, q0, hargs, rfl, rfl, h0, r0⟩ := trodAll_cons hA
    obtain ⟨v1, vs1, d1, ds1, p1, q1, rfl, rfl, rfl, h1, r1⟩ := trodAll_cons r0
    obtain ⟨rfl, rfl, rfl⟩ := trodAll_nil r1
    obtain rfl : args = #[v0, v1] := by cases args; simp_all
    obtain ⟨a0, s0, rfl⟩ := open_pt (A := A1) (by kernel_rfl) (by kernel_rfl) (by kernel_rfl) (hval 0 56 v0 rfl rfl) h0
    obtain ⟨a1, s1, rfl⟩ := open_pt (A := A2) (by kernel_rfl) (by kernel_rfl) (by kernel_rfl) (hval 1 41 v1 rfl rfl) h1
    exact millerNone_gives a0 s0 a1 s1 W

theorem millerNone_k0 : Rows.millerNoneRow.wf (OpenSpec.ofChange Rows.millerNoneSpec) = true := by kernel_rfl
theorem millerNone_k1 : laidOutB Try.prog = true := by kernel_rfl
theorem millerNone_k2 : mapsRowed Try.prog = true := by kernel_rfl
theorem millerNone_k3 : Try.f9.params.all (Try.prog.readableRec ·) = true := by kernel_rfl
theorem millerNone_k4 : namedTie Try.prog Rows.millerNoneRow.named Rows.millerNoneSpec.vars = true := by kernel_rfl
theorem millerNone_k5 : (Rows.millerNoneRow.stops == []) = true := by kernel_rfl
theorem millerNone_k6 : (Try.prog.stops == []) = true := by kernel_rfl
theorem millerNone_k7 : (Rows.millerNoneRow.knobs == []) = true := by kernel_rfl
theorem millerNone_k8 : (Try.prog.stopKnobs == []) = true := by kernel_rfl
theorem millerNone_k9 : (Rows.millerNoneRow.inPlace == Try.prog.inPlace 9) = true := by kernel_rfl
theorem millerNone_k10 : (Rows.millerNoneRow.unfollowed == Try.prog.unfollowed 9) = true := by kernel_rfl
theorem millerNone_k11 : (Rows.millerNoneRow.recurses == Try.prog.recurses 9) = true := by kernel_rfl
theorem millerNone_k12 : (Rows.millerNoneRow.named == Try.prog.varsNamed 9) = true := by kernel_rfl
theorem millerNone_k13 : (Rows.millerNoneRow.maps == (Try.f9.params.toList ++ Rows.millerNoneSpec.plain.varTypes Try.prog).any (Try.prog.mapsRec ·)) = true := by kernel_rfl
theorem millerNone_k14 : (Rows.millerNoneRow.ifaces == (Try.f9.params.toList ++ Rows.millerNoneSpec.plain.varTypes Try.prog).any (Try.prog.ifacesRec ·)) = true := by kernel_rfl
theorem millerNone_k15 : (Rows.millerNoneRow.mapsOut == Try.prog.mapsAmong Try.f9.resultTypes.toList) = true := by kernel_rfl
theorem millerNone_k16 : (Rows.millerNoneRow.loops == (Try.f9.params.toList ++ Rows.millerNoneSpec.plain.varTypes Try.prog).any (Try.prog.loopsFrom ·)) = true := by kernel_rfl
theorem millerNone_k17 : (Rows.millerNoneRow.wideKeys == (Try.f9.params.toList ++ Rows.millerNoneSpec.plain.varTypes Try.prog ++ Try.f9.resultTypes.toList).any (Try.prog.wideKeysFrom ·)) = true := by kernel_rfl
theorem millerNone_k18 : Rows.millerNoneSpec.vars.all (Try.prog.varReadable ·) = true := by kernel_rfl
theorem millerNone_k19 : Try.f9.resultTypes.all (fun t => Try.prog.readableRec t && decide (t < Try.prog.types.size)) = true := by kernel_rfl
theorem millerNone_k20 : (Rows.millerNoneRow.ifacesOut == Try.f9.resultTypes.toList.any (Try.prog.ifacesRec ·)) = true := by kernel_rfl
theorem millerNone_k21 : (Rows.millerNoneRow.loopsOut == Try.f9.resultTypes.toList.any (Try.prog.loopsFrom ·)) = true := by kernel_rfl
theorem millerNone_k22 : (Rows.millerNoneRow.plainKeys == Try.prog.plainKeys) = true := by kernel_rfl
theorem millerNone_k23 : Rows.millerNoneRow.shortTexts.isNone = true := by kernel_rfl
theorem millerNone_k24 : Try.prog.stopsHeard = true := by kernel_rfl
theorem millerNone_k25 : Try.prog.mayEnter = true := sk25
theorem millerNone_k26 : (Rows.millerNoneRow.lifted == Try.prog.liftsFinal) = true := (congrArg (· == Try.prog.liftsFinal) (show Rows.millerNoneRow.lifted = Rows.millerNoneRow.lifted by kernel_rfl)).trans sk26
theorem millerNone_k27 : (Try.prog.make == some Rows.millerNoneRow.make) = true := (congrArg (fun m => Try.prog.make == some m) (show Rows.millerNoneRow.make = Rows.millerNoneRow.make by kernel_rfl)).trans sk27
theorem millerNone_k28 : (Rows.millerNoneRow.kinds == (if Rows.millerNoneRow.domain.isEmpty then [] else Try.f9.params.toList.map fun t => match Try.prog.underlying t with | some (.int k) => some k | _ => none)) = true := by kernel_rfl
theorem millerNone_k29 : (Rows.millerNoneRow.pinned == Rows.millerNoneRow.pinnedBy) = true := by kernel_rfl
theorem millerNone_k30 : (Rows.millerNoneRow.veiled == (Try.f9.params.toList ++ Rows.millerNoneSpec.plain.varTypes Try.prog ++ Try.f9.resultTypes.toList).any (Try.prog.veiledRec ·)) = true := by kernel_rfl
theorem millerNone_k31 : Rows.millerNoneRow.veiledFits Try.prog Try.f9.params.toList (Try.f9.params.toList ++ Rows.millerNoneSpec.plain.varTypes Try.prog ++ Try.f9.resultTypes.toList) = true := by kernel_rfl
set_option maxRecDepth 100000 in
theorem millerNone_join : joinedFacts Try.prog 9 Try.f9 Rows.millerNoneSpec Rows.millerNoneRow = true := joined_mk millerNone_k0 millerNone_k1 millerNone_k2 millerNone_k3 millerNone_k4 millerNone_k5 millerNone_k6 millerNone_k7 millerNone_k8 millerNone_k9 millerNone_k10 millerNone_k11 millerNone_k12 millerNone_k13 millerNone_k14 millerNone_k15 millerNone_k16 millerNone_k17 millerNone_k18 millerNone_k19 millerNone_k20 millerNone_k21 millerNone_k22 millerNone_k23 millerNone_k24 millerNone_k25 millerNone_k26 millerNone_k27 millerNone_k28 millerNone_k29 millerNone_k30 millerNone_k31
theorem millerNone_named : Try.prog.funcNamed Rows.millerNoneRow.func = some 9 := by kernel_rfl
theorem millerNone_wrap : Try.f9.isWrapper Try.prog Rows.millerNoneRow.wrapper Rows.millerNoneRow.mainSum := by unfold Func.isWrapper; first | (rw [if_pos (by decide +kernel)]; kernel_rfl) | (rw [if_neg (by decide +kernel)]; exact ⟨rfl, rfl⟩)
theorem millerNone_over : Rows.millerNoneRow.holds Try.pinned (OpenSpec.ofChange Rows.millerNoneSpec) :=
  OpenClaim.holds_of_wide 9 Try.f9 rfl rfl rfl rfl rfl rfl rfl ⟨rfl, rfl, rfl, rfl, rfl⟩ rfl rfl rfl rfl rfl millerNone_named Try.func9 millerNone_join
    (of_decide_eq_true (by kernel_rfl)) millerNone_wrap
    (fun os started H enc _ => millerNone_lifted os started H enc)

/-- The statement. -/
theorem millerNone_holds : Rows.MillerNoneSaid := millerNone_over
#print axioms millerNone_holds
end Go.Proofs.Ytmebkhfdhbjacaa
