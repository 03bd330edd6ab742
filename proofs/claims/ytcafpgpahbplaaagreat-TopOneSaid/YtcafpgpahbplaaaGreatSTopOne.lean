/-
  TopOne: for every input the call returns true, and each argument reads behind it as before. No condition.
-/
import Derived.Test.YtcafpgpahbplaaaGreatRows
import Derived.Test.YtcafpgpahbplaaaGreatSay
import Derived.Test.YtcafpgpahbplaaaGreatJoin
import Derived.Test.YtcafpgpahbplaaaGreatK
import Derived.Test.YtcafpgpahbplaaaGreatZ25
import Derived.ProofKit
import Derived.OpenShut
namespace Go.Proofs.YtcafpgpahbplaaaGreat
open Go Go.Eng Go.RowKit Go.ChangeShapes Go.WideShapes Go.ChangeAt
set_option linter.unusedVariables false

set_option maxRecDepth 100000 in
theorem topOne_lifted (os : Os) (started : os.Started) (H : Type) (enc : TypeId × Value → H) :
    ReturnsInHanded {} Tryz.checked os 4 .any (Rows.topOneSpec.pre6 enc Tryz.prog Tryz.f4 Rows.topOneRow.domain false) (Rows.topOneSpec.post enc Tryz.prog Tryz.f4 false true false false) := by
  refine Dt (C := Tryz.checked) say_own started (by kernel_rfl) Tryz.func4
    (ChangeSpec.witness6 (enc := enc) (C := Tryz.checked) false ⟨#[], #[.agg (Array.replicate 32 (.int .u8 0)), .slice none 0 0, .slice none 0 0], []⟩ 8 (by kernel_rfl) (by kernel_rfl) (by kernel_rfl) (by kernel_rfl))
    say_laid (by kernel_rfl) rfl (tb := 4) (by kernel_rfl) (by kernel_rfl) (fun ds hd => ?_) ?_
  · rw [Tryz.params4] at hd
    match ds, hd with
    | [d0, d1, d2], _ => exact ⟨rfl, rfl, rfl⟩
  · intro W base args ds ps hval hA hlt
    rw [Tryz.params4] at hA hval
    obtain ⟨v0, vs0, d0, ds0, p0, q0, hargs, rfl, rfl, h0, r0⟩ := trodAll_cons hA
    obtain ⟨v1, vs1, d1, ds1, p1, q1, rfl, rfl, rfl, h1, r1⟩ := trodAll_cons r0
    obtain ⟨v2, vs2, d2, ds2, p2, q2, rfl, rfl, rfl, h2, r2⟩ := trodAll_cons r1
    obtain ⟨rfl, rfl, rfl⟩ := trodAll_nil r2
    obtain rfl : args = #[v0, v1, v2] := by cases args; simp_all
    exact HT (zdb (n := 32) (by kernel_rfl) (by kernel_rfl) (by kernel_rfl) (hval 0 47 v0 rfl rfl) h0) (ng (e := 5) (by kernel_rfl) (by kernel_rfl) (by kernel_rfl) (hval 1 22 v1 rfl rfl) h1) (ng (e := 5) (by kernel_rfl) (by kernel_rfl) (by kernel_rfl) (hval 2 22 v2 rfl rfl) h2)

theorem topOne_k0 : Rows.topOneRow.wf (OpenSpec.ofChange Rows.topOneSpec) = true := by kernel_rfl
theorem topOne_k1 : laidOutB Tryz.prog = true := by kernel_rfl
theorem topOne_k2 : mapsRowed Tryz.prog = true := by kernel_rfl
theorem topOne_k3 : Tryz.f4.params.all (Tryz.prog.readableRec ·) = true := by kernel_rfl
theorem topOne_k4 : namedTie Tryz.prog Rows.topOneRow.named Rows.topOneSpec.vars = true := by kernel_rfl
theorem topOne_k5 : (Rows.topOneRow.stops == []) = true := by kernel_rfl
theorem topOne_k6 : (Tryz.prog.stops == []) = true := by kernel_rfl
theorem topOne_k7 : (Rows.topOneRow.knobs == []) = true := by kernel_rfl
theorem topOne_k8 : (Tryz.prog.stopKnobs == []) = true := by kernel_rfl
theorem topOne_k9 : (Rows.topOneRow.inPlace == Tryz.prog.inPlace 4) = true := by kernel_rfl
theorem topOne_k10 : (Rows.topOneRow.unfollowed == Tryz.prog.unfollowed 4) = true := by kernel_rfl
theorem topOne_k11 : (Rows.topOneRow.recurses == Tryz.prog.recurses 4) = true := by kernel_rfl
theorem topOne_k12 : (Rows.topOneRow.named == Tryz.prog.varsNamed 4) = true := by kernel_rfl
theorem topOne_k13 : (Rows.topOneRow.maps == (Tryz.f4.params.toList ++ Rows.topOneSpec.plain.varTypes Tryz.prog).any (Tryz.prog.mapsRec ·)) = true := by kernel_rfl
theorem topOne_k14 : (Rows.topOneRow.ifaces == (Tryz.f4.params.toList ++ Rows.topOneSpec.plain.varTypes Tryz.prog).any (Tryz.prog.ifacesRec ·)) = true := by kernel_rfl
theorem topOne_k15 : (Rows.topOneRow.mapsOut == Tryz.prog.mapsAmong Tryz.f4.resultTypes.toList) = true := by kernel_rfl
theorem topOne_k16 : (Rows.topOneRow.loops == (Tryz.f4.params.toList ++ Rows.topOneSpec.plain.varTypes Tryz.prog).any (Tryz.prog.loopsFrom ·)) = true := by kernel_rfl
theorem topOne_k17 : (Rows.topOneRow.wideKeys == (Tryz.f4.params.toList ++ Rows.topOneSpec.plain.varTypes Tryz.prog ++ Tryz.f4.resultTypes.toList).any (Tryz.prog.wideKeysFrom ·)) = true := by kernel_rfl
theorem topOne_k18 : Rows.topOneSpec.vars.all (Tryz.prog.varReadable ·) = true := by kernel_rfl
theorem topOne_k19 : Tryz.f4.resultTypes.all (fun t => Tryz.prog.readableRec t && decide (t < Tryz.prog.types.size)) = true := by kernel_rfl
theorem topOne_k20 : (Rows.topOneRow.ifacesOut == Tryz.f4.resultTypes.toList.any (Tryz.prog.ifacesRec ·)) = true := by kernel_rfl
theorem topOne_k21 : (Rows.topOneRow.loopsOut == Tryz.f4.resultTypes.toList.any (Tryz.prog.loopsFrom ·)) = true := by kernel_rfl
theorem topOne_k22 : (Rows.topOneRow.plainKeys == Tryz.prog.plainKeys) = true := by kernel_rfl
theorem topOne_k23 : Rows.topOneRow.shortTexts.isNone = true := by kernel_rfl
theorem topOne_k24 : Tryz.prog.stopsHeard = true := by kernel_rfl
theorem topOne_k25 : Tryz.prog.mayEnter = true := sk25
theorem topOne_k26 : (Rows.topOneRow.lifted == Tryz.prog.liftsFinal) = true := (congrArg (· == Tryz.prog.liftsFinal) (show Rows.topOneRow.lifted = Rows.topAsksRow.lifted by kernel_rfl)).trans sk26
theorem topOne_k27 : (Tryz.prog.make == some Rows.topOneRow.make) = true := (congrArg (fun m => Tryz.prog.make == some m) (show Rows.topOneRow.make = Rows.topAsksRow.make by kernel_rfl)).trans sk27
theorem topOne_k28 : (Rows.topOneRow.kinds == (if Rows.topOneRow.domain.isEmpty then [] else Tryz.f4.params.toList.map fun t => match Tryz.prog.underlying t with | some (.int k) => some k | _ => none)) = true := by kernel_rfl
theorem topOne_k29 : (Rows.topOneRow.pinned == Rows.topOneRow.pinnedBy) = true := by kernel_rfl
theorem topOne_k30 : (Rows.topOneRow.veiled == (Tryz.f4.params.toList ++ Rows.topOneSpec.plain.varTypes Tryz.prog ++ Tryz.f4.resultTypes.toList).any (Tryz.prog.veiledRec ·)) = true := by kernel_rfl
theorem topOne_k31 : Rows.topOneRow.veiledFits Tryz.prog Tryz.f4.params.toList (Tryz.f4.params.toList ++ Rows.topOneSpec.plain.varTypes Tryz.prog ++ Tryz.f4.resultTypes.toList) = true := by kernel_rfl
set_option maxRecDepth 100000 in
theorem topOne_join : joinedFacts Tryz.prog 4 Tryz.f4 Rows.topOneSpec Rows.topOneRow = true := joined_mk topOne_k0 topOne_k1 topOne_k2 topOne_k3 topOne_k4 topOne_k5 topOne_k6 topOne_k7 topOne_k8 topOne_k9 topOne_k10 topOne_k11 topOne_k12 topOne_k13 topOne_k14 topOne_k15 topOne_k16 topOne_k17 topOne_k18 topOne_k19 topOne_k20 topOne_k21 topOne_k22 topOne_k23 topOne_k24 topOne_k25 topOne_k26 topOne_k27 topOne_k28 topOne_k29 topOne_k30 topOne_k31
theorem topOne_named : Tryz.prog.funcNamed Rows.topOneRow.func = some 4 := by kernel_rfl
theorem topOne_wrap : Tryz.f4.isWrapper Tryz.prog Rows.topOneRow.wrapper Rows.topOneRow.mainSum := by unfold Func.isWrapper; first | (rw [if_pos (by decide +kernel)]; kernel_rfl) | (rw [if_neg (by decide +kernel)]; exact ⟨rfl, rfl⟩)
theorem topOne_over : Rows.topOneRow.holds Tryz.pinned (OpenSpec.ofChange Rows.topOneSpec) :=
  OpenClaim.holds_of_wide 4 Tryz.f4 rfl rfl rfl rfl rfl rfl rfl ⟨rfl, rfl, rfl, rfl, rfl⟩ rfl rfl rfl rfl rfl topOne_named Tryz.func4 topOne_join
    (of_decide_eq_true (by kernel_rfl)) topOne_wrap
    (fun os started H enc _ => topOne_lifted os started H enc)

/-- The statement. -/
theorem topOne_holds : Rows.TopOneSaid := topOne_over
#print axioms topOne_holds
end Go.Proofs.YtcafpgpahbplaaaGreat
