/-
  TopAsks: for every input the call returns true, and each argument reads behind it as before. No condition.
-/
import Derived.Test.YtcafpgpahbplaaaGreatRows
import Derived.Test.YtcafpgpahbplaaaGreatSay
import Derived.Test.YtcafpgpahbplaaaGreatJoin
import Derived.Test.YtcafpgpahbplaaaGreatK
import Derived.Test.YtcafpgpahbplaaaGreatZ25
import Derived.ProofKit
import Derived.OpenShut
namespace Go.Proofs.YtcafpgpahbplaaaGreat
open Go Go.Eng Go.RowKit Go.ChangeShapes Go.WideShapes Go.ChangeAt
set_option linter.unusedVariables false

set_option maxRecDepth 100000 in
theorem topAsks_lifted (os : Os) (started : os.Started) (H : Type) (enc : TypeId × Value → H) :
    ReturnsInHanded {} Tryz.checked os 3 .any (Rows.topAsksSpec.pre6 enc Tryz.prog Tryz.f3 Rows.topAsksRow.domain false) (Rows.topAsksSpec.post enc Tryz.prog Tryz.f3 false true false false) := by
  refine Dt (C := Tryz.checked) say_own started (by kernel_rfl) Tryz.func3
    (ChangeSpec.witness6 (enc := enc) (C := Tryz.checked) false ⟨#[], #[.slice none 0 0, .slice none 0 0, .slice none 0 0], []⟩ 8 (by kernel_rfl) (by kernel_rfl) (by kernel_rfl) (by kernel_rfl))
    say_laid (by kernel_rfl) rfl (tb := 4) (by kernel_rfl) (by kernel_rfl) (fun ds hd => ?_) ?_
  · rw [Tryz.params3] at hd
    match ds, hd with
    | [d0, d1, d2], _ => exact ⟨rfl, rfl, rfl⟩
  · intro W base args ds ps hval hA hlt
    rw [Tryz.params3] at hA hval
    obtain ⟨v0, vs0, d0, ds0, p0, q0, hargs, rfl, rfl, h0, r0⟩ := trodAll_cons hA
    obtain ⟨v1, vs1, d1, ds1, p1, q1, rfl, rfl, rfl, h1, r1⟩ := trodAll_cons r0
    obtain ⟨v2, vs2, d2, ds2, p2, q2, rfl, rfl, rfl, h2, r2⟩ := trodAll_cons r1
    obtain ⟨rfl, rfl, rfl⟩ := trodAll_nil r2
    obtain rfl : args = #[v0, v1, v2] := by cases args; simp_all
    exact EP (ng (e := 5) (by kernel_rfl) (by kernel_rfl) (by kernel_rfl) (hval 0 22 v0 rfl rfl) h0) (ng (e := 5) (by kernel_rfl) (by kernel_rfl) (by kernel_rfl) (hval 1 22 v1 rfl rfl) h1) (ng (e := 5) (by kernel_rfl) (by kernel_rfl) (by kernel_rfl) (hval 2 22 v2 rfl rfl) h2)

theorem topAsks_k0 : Rows.topAsksRow.wf (OpenSpec.ofChange Rows.topAsksSpec) = true := by kernel_rfl
theorem topAsks_k1 : laidOutB Tryz.prog = true := by kernel_rfl
theorem topAsks_k2 : mapsRowed Tryz.prog = true := by kernel_rfl
theorem topAsks_k3 : Tryz.f3.params.all (Tryz.prog.readableRec ·) = true := by kernel_rfl
theorem topAsks_k4 : namedTie Tryz.prog Rows.topAsksRow.named Rows.topAsksSpec.vars = true := by kernel_rfl
theorem topAsks_k5 : (Rows.topAsksRow.stops == []) = true := by kernel_rfl
theorem topAsks_k6 : (Tryz.prog.stops == []) = true := by kernel_rfl
theorem topAsks_k7 : (Rows.topAsksRow.knobs == []) = true := by kernel_rfl
theorem topAsks_k8 : (Tryz.prog.stopKnobs == []) = true := by kernel_rfl
theorem topAsks_k9 : (Rows.topAsksRow.inPlace == Tryz.prog.inPlace 3) = true := by kernel_rfl
theorem topAsks_k10 : (Rows.topAsksRow.unfollowed == Tryz.prog.unfollowed 3) = true := by kernel_rfl
theorem topAsks_k11 : (Rows.topAsksRow.recurses == Tryz.prog.recurses 3) = true := by kernel_rfl
theorem topAsks_k12 : (Rows.topAsksRow.named == Tryz.prog.varsNamed 3) = true := by kernel_rfl
theorem topAsks_k13 : (Rows.topAsksRow.maps == (Tryz.f3.params.toList ++ Rows.topAsksSpec.plain.varTypes Tryz.prog).any (Tryz.prog.mapsRec ·)) = true := by kernel_rfl
theorem topAsks_k14 : (Rows.topAsksRow.ifaces == (Tryz.f3.params.toList ++ Rows.topAsksSpec.plain.varTypes Tryz.prog).any (Tryz.prog.ifacesRec ·)) = true := by kernel_rfl
theorem topAsks_k15 : (Rows.topAsksRow.mapsOut == Tryz.prog.mapsAmong Tryz.f3.resultTypes.toList) = true := by kernel_rfl
theorem topAsks_k16 : (Rows.topAsksRow.loops == (Tryz.f3.params.toList ++ Rows.topAsksSpec.plain.varTypes Tryz.prog).any (Tryz.prog.loopsFrom ·)) = true := by kernel_rfl
theorem topAsks_k17 : (Rows.topAsksRow.wideKeys == (Tryz.f3.params.toList ++ Rows.topAsksSpec.plain.varTypes Tryz.prog ++ Tryz.f3.resultTypes.toList).any (Tryz.prog.wideKeysFrom ·)) = true := by kernel_rfl
theorem topAsks_k18 : Rows.topAsksSpec.vars.all (Tryz.prog.varReadable ·) = true := by kernel_rfl
theorem topAsks_k19 : Tryz.f3.resultTypes.all (fun t => Tryz.prog.readableRec t && decide (t < Tryz.prog.types.size)) = true := by kernel_rfl
theorem topAsks_k20 : (Rows.topAsksRow.ifacesOut == Tryz.f3.resultTypes.toList.any (Tryz.prog.ifacesRec ·)) = true := by kernel_rfl
theorem topAsks_k21 : (Rows.topAsksRow.loopsOut == Tryz.f3.resultTypes.toList.any (Tryz.prog.loopsFrom ·)) = true := by kernel_rfl
theorem topAsks_k22 : (Rows.topAsksRow.plainKeys == Tryz.prog.plainKeys) = true := by kernel_rfl
theorem topAsks_k23 : Rows.topAsksRow.shortTexts.isNone = true := by kernel_rfl
theorem topAsks_k24 : Tryz.prog.stopsHeard = true := by kernel_rfl
theorem topAsks_k25 : Tryz.prog.mayEnter = true := sk25
theorem topAsks_k26 : (Rows.topAsksRow.lifted == Tryz.prog.liftsFinal) = true := (congrArg (· == Tryz.prog.liftsFinal) (show Rows.topAsksRow.lifted = Rows.topAsksRow.lifted by kernel_rfl)).trans sk26
theorem topAsks_k27 : (Tryz.prog.make == some Rows.topAsksRow.make) = true := (congrArg (fun m => Tryz.prog.make == some m) (show Rows.topAsksRow.make = Rows.topAsksRow.make by kernel_rfl)).trans sk27
theorem topAsks_k28 : (Rows.topAsksRow.kinds == (if Rows.topAsksRow.domain.isEmpty then [] else Tryz.f3.params.toList.map fun t => match Tryz.prog.underlying t with | some (.int k) => some k | _ => none)) = true := by kernel_rfl
theorem topAsks_k29 : (Rows.topAsksRow.pinned == Rows.topAsksRow.pinnedBy) = true := by kernel_rfl
theorem topAsks_k30 : (Rows.topAsksRow.veiled == (Tryz.f3.params.toList ++ Rows.topAsksSpec.plain.varTypes Tryz.prog ++ Tryz.f3.resultTypes.toList).any (Tryz.prog.veiledRec ·)) = true := by kernel_rfl
theorem topAsks_k31 : Rows.topAsksRow.veiledFits Tryz.prog Tryz.f3.params.toList (Tryz.f3.params.toList ++ Rows.topAsksSpec.plain.varTypes Tryz.prog ++ Tryz.f3.resultTypes.toList) = true := by kernel_rfl
set_option maxRecDepth 100000 in
theorem topAsks_join : joinedFacts Tryz.prog 3 Tryz.f3 Rows.topAsksSpec Rows.topAsksRow = true := joined_mk topAsks_k0 topAsks_k1 topAsks_k2 topAsks_k3 topAsks_k4 topAsks_k5 topAsks_k6 topAsks_k7 topAsks_k8 topAsks_k9 topAsks_k10 topAsks_k11 topAsks_k12 topAsks_k13 topAsks_k14 topAsks_k15 topAsks_k16 topAsks_k17 topAsks_k18 topAsks_k19 topAsks_k20 topAsks_k21 topAsks_k22 topAsks_k23 topAsks_k24 topAsks_k25 topAsks_k26 topAsks_k27 topAsks_k28 topAsks_k29 topAsks_k30 topAsks_k31
theorem topAsks_named : Tryz.prog.funcNamed Rows.topAsksRow.func = some 3 := by kernel_rfl
theorem topAsks_wrap : Tryz.f3.isWrapper Tryz.prog Rows.topAsksRow.wrapper Rows.topAsksRow.mainSum := by unfold Func.isWrapper; first | (rw [if_pos (by decide +kernel)]; kernel_rfl) | (rw [if_neg (by decide +kernel)]; exact ⟨rfl, rfl⟩)
theorem topAsks_over : Rows.topAsksRow.holds Tryz.pinned (OpenSpec.ofChange Rows.topAsksSpec) :=
  OpenClaim.holds_of_wide 3 Tryz.f3 rfl rfl rfl rfl rfl rfl rfl ⟨rfl, rfl, rfl, rfl, rfl⟩ rfl rfl rfl rfl rfl topAsks_named Tryz.func3 topAsks_join
    (of_decide_eq_true (by kernel_rfl)) topAsks_wrap
    (fun os started H enc _ => topAsks_lifted os started H enc)

/-- The statement. -/
theorem topAsks_holds : Rows.TopAsksSaid := topAsks_over
#print axioms topAsks_holds
end Go.Proofs.YtcafpgpahbplaaaGreat
