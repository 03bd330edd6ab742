/-
  PairingPairs: for every input the call returns true, and each argument reads behind it as before. No condition.
-/
import Derived.Test.YtcidhcielgnfdaaGreatRows
import Derived.Test.YtcidhcielgnfdaaGreatSay
import Derived.Test.YtcidhcielgnfdaaGreatJoin
import Derived.Test.YtcidhcielgnfdaaGreatK
import Derived.Test.YtcidhcielgnfdaaGreatLaF16
import Derived.ProofKit
import Derived.OpenShut
namespace Go.Proofs.YtcidhcielgnfdaaGreat
open Go Go.Eng Go.RowKit Go.ChangeShapes Go.WideShapes Go.ChangeAt
set_option linter.unusedVariables false

set_option maxRecDepth 100000 in
theorem pairingPairs_lifted (os : Os) (started : os.Started) (H : Type) (enc : TypeId × Value → H) :
    ReturnsInHanded {} Tryz.checked os 4 .any (Rows.pairingPairsSpec.pre6 enc Tryz.prog Tryz.f4 Rows.pairingPairsRow.domain false) (Rows.pairingPairsSpec.post enc Tryz.prog Tryz.f4 false true false false) := by
  refine lifted_any (C := Tryz.checked) say_own started (by kernel_rfl) Tryz.func4
    (ChangeSpec.witness6 (enc := enc) (C := Tryz.checked) false ⟨#[], #[.agg ((Array.replicate 12 (.int .u64 0)).push (.bool false)), .agg ((Array.replicate 24 (.int .u64 0)).push (.bool false))], []⟩ 8 (by kernel_rfl) (by kernel_rfl) (by kernel_rfl) (by kernel_rfl))
    say_laid (by kernel_rfl) rfl (tb := 4) (by kernel_rfl) (by kernel_rfl) (fun ds hd => ?_) ?_
  · rw [Tryz.params4] at hd
    match ds, hd with
    | [d0, d1], _ => exact ⟨rfl, rfl, rfl⟩
  · intro W base args ds ps hval hA hlt
    rw [Tryz.params4] at hA hval
    obtain ⟨v0, vs0, d0, ds0, p0, q0, hargs, rfl, rfl, h0, r0⟩ := trodAll_cons hA
    obtain ⟨v1, vs1, d1, ds1, p1, q1, rfl, rfl, rfl, h1, r1⟩ := trodAll_cons r0
    obtain ⟨rfl, rfl, rfl⟩ := trodAll_nil r1
    obtain rfl : args = #[v0, v1] := by cases args; simp_all
    obtain ⟨a0, s0, rfl⟩ := open_pt (A := A1) (by kernel_rfl) (by kernel_rfl) (by kernel_rfl) (hval 0 35 v0 rfl rfl) h0
    obtain ⟨a1, s1, rfl⟩ := open_pt (A := A2) (by kernel_rfl) (by kernel_rfl) (by kernel_rfl) (hval 1 37 v1 rfl rfl) h1
    exact pairingPairs_gives a0 s0 a1 s1 W

theorem pairingPairs_k0 : Rows.pairingPairsRow.wf (OpenSpec.ofChange Rows.pairingPairsSpec) = true := by kernel_rfl
theorem pairingPairs_k1 : laidOutB Tryz.prog = true := by kernel_rfl
theorem pairingPairs_k2 : mapsRowed Tryz.prog = true := by kernel_rfl
theorem pairingPairs_k3 : Tryz.f4.params.all (Tryz.prog.readableRec ·) = true := by kernel_rfl
theorem pairingPairs_k4 : namedTie Tryz.prog Rows.pairingPairsRow.named Rows.pairingPairsSpec.vars = true := by kernel_rfl
theorem pairingPairs_k5 : (Rows.pairingPairsRow.stops == []) = true := by kernel_rfl
theorem pairingPairs_k6 : (Tryz.prog.stops == []) = true := by kernel_rfl
theorem pairingPairs_k7 : (Rows.pairingPairsRow.knobs == []) = true := by kernel_rfl
theorem pairingPairs_k8 : (Tryz.prog.stopKnobs == []) = true := by kernel_rfl
theorem pairingPairs_k9 : (Rows.pairingPairsRow.inPlace == Tryz.prog.inPlace 4) = true := by kernel_rfl
theorem pairingPairs_k10 : (Rows.pairingPairsRow.unfollowed == Tryz.prog.unfollowed 4) = true := by kernel_rfl
theorem pairingPairs_k11 : (Rows.pairingPairsRow.recurses == Tryz.prog.recurses 4) = true := by kernel_rfl
theorem pairingPairs_k12 : (Rows.pairingPairsRow.named == Tryz.prog.varsNamed 4) = true := by kernel_rfl
theorem pairingPairs_k13 : (Rows.pairingPairsRow.maps == (Tryz.f4.params.toList ++ Rows.pairingPairsSpec.plain.varTypes Tryz.prog).any (Tryz.prog.mapsRec ·)) = true := by kernel_rfl
theorem pairingPairs_k14 : (Rows.pairingPairsRow.ifaces == (Tryz.f4.params.toList ++ Rows.pairingPairsSpec.plain.varTypes Tryz.prog).any (Tryz.prog.ifacesRec ·)) = true := by kernel_rfl
theorem pairingPairs_k15 : (Rows.pairingPairsRow.mapsOut == Tryz.prog.mapsAmong Tryz.f4.resultTypes.toList) = true := by kernel_rfl
theorem pairingPairs_k16 : (Rows.pairingPairsRow.loops == (Tryz.f4.params.toList ++ Rows.pairingPairsSpec.plain.varTypes Tryz.prog).any (Tryz.prog.loopsFrom ·)) = true := by kernel_rfl
theorem pairingPairs_k17 : (Rows.pairingPairsRow.wideKeys == (Tryz.f4.params.toList ++ Rows.pairingPairsSpec.plain.varTypes Tryz.prog ++ Tryz.f4.resultTypes.toList).any (Tryz.prog.wideKeysFrom ·)) = true := by kernel_rfl
theorem pairingPairs_k18 : Rows.pairingPairsSpec.vars.all (Tryz.prog.varReadable ·) = true := by kernel_rfl
theorem pairingPairs_k19 : Tryz.f4.resultTypes.all (fun t => Tryz.prog.readableRec t && decide (t < Tryz.prog.types.size)) = true := by kernel_rfl
theorem pairingPairs_k20 : (Rows.pairingPairsRow.ifacesOut == Tryz.f4.resultTypes.toList.any (Tryz.prog.ifacesRec ·)) = true := by kernel_rfl
theorem pairingPairs_k21 : (Rows.pairingPairsRow.loopsOut == Tryz.f4.resultTypes.toList.any (Tryz.prog.loopsFrom ·)) = true := by kernel_rfl
theorem pairingPairs_k22 : (Rows.pairingPairsRow.plainKeys == Tryz.prog.plainKeys) = true := by kernel_rfl
theorem pairingPairs_k23 : Rows.pairingPairsRow.shortTexts.isNone = true := by kernel_rfl
theorem pairingPairs_k24 : Tryz.prog.stopsHeard = true := by kernel_rfl
theorem pairingPairs_k25 : Tryz.prog.mayEnter = true := sk25
theorem pairingPairs_k26 : (Rows.pairingPairsRow.lifted == Tryz.prog.liftsFinal) = true := (congrArg (· == Tryz.prog.liftsFinal) (show Rows.pairingPairsRow.lifted = Rows.pairingFinalsRow.lifted by kernel_rfl)).trans sk26
theorem pairingPairs_k27 : (Tryz.prog.make == some Rows.pairingPairsRow.make) = true := (congrArg (fun m => Tryz.prog.make == some m) (show Rows.pairingPairsRow.make = Rows.pairingFinalsRow.make by kernel_rfl)).trans sk27
theorem pairingPairs_k28 : (Rows.pairingPairsRow.kinds == (if Rows.pairingPairsRow.domain.isEmpty then [] else Tryz.f4.params.toList.map fun t => match Tryz.prog.underlying t with | some (.int k) => some k | _ => none)) = true := by kernel_rfl
theorem pairingPairs_k29 : (Rows.pairingPairsRow.pinned == Rows.pairingPairsRow.pinnedBy) = true := by kernel_rfl
theorem pairingPairs_k30 : (Rows.pairingPairsRow.veiled == (Tryz.f4.params.toList ++ Rows.pairingPairsSpec.plain.varTypes Tryz.prog ++ Tryz.f4.resultTypes.toList).any (Tryz.prog.veiledRec ·)) = true := by kernel_rfl
theorem pairingPairs_k31 : Rows.pairingPairsRow.veiledFits Tryz.prog Tryz.f4.params.toList (Tryz.f4.params.toList ++ Rows.pairingPairsSpec.plain.varTypes Tryz.prog ++ Tryz.f4.resultTypes.toList) = true := by kernel_rfl
set_option maxRecDepth 100000 in
theorem pairingPairs_join : joinedFacts Tryz.prog 4 Tryz.f4 Rows.pairingPairsSpec Rows.pairingPairsRow = true := joined_mk pairingPairs_k0 pairingPairs_k1 pairingPairs_k2 pairingPairs_k3 pairingPairs_k4 pairingPairs_k5 pairingPairs_k6 pairingPairs_k7 pairingPairs_k8 pairingPairs_k9 pairingPairs_k10 pairingPairs_k11 pairingPairs_k12 pairingPairs_k13 pairingPairs_k14 pairingPairs_k15 pairingPairs_k16 pairingPairs_k17 pairingPairs_k18 pairingPairs_k19 pairingPairs_k20 pairingPairs_k21 pairingPairs_k22 pairingPairs_k23 pairingPairs_k24 pairingPairs_k25 pairingPairs_k26 pairingPairs_k27 pairingPairs_k28 pairingPairs_k29 pairingPairs_k30 pairingPairs_k31
theorem pairingPairs_named : Tryz.prog.funcNamed Rows.pairingPairsRow.func = some 4 := by kernel_rfl
theorem pairingPairs_wrap : Tryz.f4.isWrapper Tryz.prog Rows.pairingPairsRow.wrapper Rows.pairingPairsRow.mainSum := by unfold Func.isWrapper; first | (rw [if_pos (by decide +kernel)]; kernel_rfl) | (rw [if_neg (by decide +kernel)]; exact ⟨rfl, rfl⟩)
theorem pairingPairs_over : Rows.pairingPairsRow.holds Tryz.pinned (OpenSpec.ofChange Rows.pairingPairsSpec) :=
  OpenClaim.holds_of_wide 4 Tryz.f4 rfl rfl rfl rfl rfl rfl rfl ⟨rfl, rfl, rfl, rfl, rfl⟩ rfl rfl rfl rfl rfl pairingPairs_named Tryz.func4 pairingPairs_join
    (of_decide_eq_true (by kernel_rfl)) pairingPairs_wrap
    (fun os started H enc _ => pairingPairs_lifted os started H enc)

/-- The statement. -/
theorem pairingPairs_holds : Rows.PairingPairsSaid := pairingPairs_over
#print axioms pairingPairs_holds
end Go.Proofs.YtcidhcielgnfdaaGreat
