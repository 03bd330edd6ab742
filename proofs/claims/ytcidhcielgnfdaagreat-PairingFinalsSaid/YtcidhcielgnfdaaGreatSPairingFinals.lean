/-
  PairingFinals: for every input the call returns true, and each argument reads behind it as before. No condition.
-/
import Derived.Test.YtcidhcielgnfdaaGreatRows
import Derived.Test.YtcidhcielgnfdaaGreatSay
import Derived.Test.YtcidhcielgnfdaaGreatJoin
import Derived.Test.YtcidhcielgnfdaaGreatK
import Derived.Test.YtcidhcielgnfdaaGreatRf
import Derived.ProofKit
import Derived.OpenShut
namespace Go.Proofs.YtcidhcielgnfdaaGreat
open Go Go.Eng Go.RowKit Go.ChangeShapes Go.WideShapes Go.ChangeAt
set_option linter.unusedVariables false

set_option maxRecDepth 100000 in
theorem pairingFinals_lifted (os : Os) (started : os.Started) (H : Type) (enc : TypeId × Value → H) :
    ReturnsInHanded {} Tryz.checked os 3 .any (Rows.pairingFinalsSpec.pre6 enc Tryz.prog Tryz.f3 Rows.pairingFinalsRow.domain false) (Rows.pairingFinalsSpec.post enc Tryz.prog Tryz.f3 false true false false) := by
  refine lifted_any (C := Tryz.checked) say_own started (by kernel_rfl) Tryz.func3
    (ChangeSpec.witness6 (enc := enc) (C := Tryz.checked) false ⟨#[], #[.agg (Array.replicate 72 (.int .u64 0))], []⟩ 8 (by kernel_rfl) (by kernel_rfl) (by kernel_rfl) (by kernel_rfl))
    say_laid (by kernel_rfl) rfl (tb := 4) (by kernel_rfl) (by kernel_rfl) (fun ds hd => ?_) ?_
  · rw [Tryz.params3] at hd
    match ds, hd with
    | [d0], _ => exact ⟨rfl, rfl, rfl⟩
  · intro W base args ds ps hval hA hlt
    rw [Tryz.params3] at hA hval
    obtain ⟨v0, vs0, d0, ds0, p0, q0, hargs, rfl, rfl, h0, r0⟩ := trodAll_cons hA
    obtain ⟨rfl, rfl, rfl⟩ := trodAll_nil r0
    obtain rfl : args = #[v0] := by cases args; simp_all
    obtain ⟨a0, s0, rfl⟩ := open_nm (A := N12) (by kernel_rfl) (by kernel_rfl) (by kernel_rfl) (hval 0 30 v0 rfl rfl) h0
    exact pairingFinals_gives a0 s0 W

theorem pairingFinals_k0 : Rows.pairingFinalsRow.wf (OpenSpec.ofChange Rows.pairingFinalsSpec) = true := by kernel_rfl
theorem pairingFinals_k1 : laidOutB Tryz.prog = true := by kernel_rfl
theorem pairingFinals_k2 : mapsRowed Tryz.prog = true := by kernel_rfl
theorem pairingFinals_k3 : Tryz.f3.params.all (Tryz.prog.readableRec ·) = true := by kernel_rfl
theorem pairingFinals_k4 : namedTie Tryz.prog Rows.pairingFinalsRow.named Rows.pairingFinalsSpec.vars = true := by kernel_rfl
theorem pairingFinals_k5 : (Rows.pairingFinalsRow.stops == []) = true := by kernel_rfl
theorem pairingFinals_k6 : (Tryz.prog.stops == []) = true := by kernel_rfl
theorem pairingFinals_k7 : (Rows.pairingFinalsRow.knobs == []) = true := by kernel_rfl
theorem pairingFinals_k8 : (Tryz.prog.stopKnobs == []) = true := by kernel_rfl
theorem pairingFinals_k9 : (Rows.pairingFinalsRow.inPlace == Tryz.prog.inPlace 3) = true := by kernel_rfl
theorem pairingFinals_k10 : (Rows.pairingFinalsRow.unfollowed == Tryz.prog.unfollowed 3) = true := by kernel_rfl
theorem pairingFinals_k11 : (Rows.pairingFinalsRow.recurses == Tryz.prog.recurses 3) = true := by kernel_rfl
theorem pairingFinals_k12 : (Rows.pairingFinalsRow.named == Tryz.prog.varsNamed 3) = true := by kernel_rfl
theorem pairingFinals_k13 : (Rows.pairingFinalsRow.maps == (Tryz.f3.params.toList ++ Rows.pairingFinalsSpec.plain.varTypes Tryz.prog).any (Tryz.prog.mapsRec ·)) = true := by kernel_rfl
theorem pairingFinals_k14 : (Rows.pairingFinalsRow.ifaces == (Tryz.f3.params.toList ++ Rows.pairingFinalsSpec.plain.varTypes Tryz.prog).any (Tryz.prog.ifacesRec ·)) = true := by kernel_rfl
theorem pairingFinals_k15 : (Rows.pairingFinalsRow.mapsOut == Tryz.prog.mapsAmong Tryz.f3.resultTypes.toList) = true := by kernel_rfl
theorem pairingFinals_k16 : (Rows.pairingFinalsRow.loops == (Tryz.f3.params.toList ++ Rows.pairingFinalsSpec.plain.varTypes Tryz.prog).any (Tryz.prog.loopsFrom ·)) = true := by kernel_rfl
theorem pairingFinals_k17 : (Rows.pairingFinalsRow.wideKeys == (Tryz.f3.params.toList ++ Rows.pairingFinalsSpec.plain.varTypes Tryz.prog ++ Tryz.f3.resultTypes.toList).any (Tryz.prog.wideKeysFrom ·)) = true := by kernel_rfl
theorem pairingFinals_k18 : Rows.pairingFinalsSpec.vars.all (Tryz.prog.varReadable ·) = true := by kernel_rfl
theorem pairingFinals_k19 : Tryz.f3.resultTypes.all (fun t => Tryz.prog.readableRec t && decide (t < Tryz.prog.types.size)) = true := by kernel_rfl
theorem pairingFinals_k20 : (Rows.pairingFinalsRow.ifacesOut == Tryz.f3.resultTypes.toList.any (Tryz.prog.ifacesRec ·)) = true := by kernel_rfl
theorem pairingFinals_k21 : (Rows.pairingFinalsRow.loopsOut == Tryz.f3.resultTypes.toList.any (Tryz.prog.loopsFrom ·)) = true := by kernel_rfl
theorem pairingFinals_k22 : (Rows.pairingFinalsRow.plainKeys == Tryz.prog.plainKeys) = true := by kernel_rfl
theorem pairingFinals_k23 : Rows.pairingFinalsRow.shortTexts.isNone = true := by kernel_rfl
theorem pairingFinals_k24 : Tryz.prog.stopsHeard = true := by kernel_rfl
theorem pairingFinals_k25 : Tryz.prog.mayEnter = true := sk25
theorem pairingFinals_k26 : (Rows.pairingFinalsRow.lifted == Tryz.prog.liftsFinal) = true := (congrArg (· == Tryz.prog.liftsFinal) (show Rows.pairingFinalsRow.lifted = Rows.pairingFinalsRow.lifted by kernel_rfl)).trans sk26
theorem pairingFinals_k27 : (Tryz.prog.make == some Rows.pairingFinalsRow.make) = true := (congrArg (fun m => Tryz.prog.make == some m) (show Rows.pairingFinalsRow.make = Rows.pairingFinalsRow.make by kernel_rfl)).trans sk27
theorem pairingFinals_k28 : (Rows.pairingFinalsRow.kinds == (if Rows.pairingFinalsRow.domain.isEmpty then [] else Tryz.f3.params.toList.map fun t => match Tryz.prog.underlying t with | some (.int k) => some k | _ => none)) = true := by kernel_rfl
theorem pairingFinals_k29 : (Rows.pairingFinalsRow.pinned == Rows.pairingFinalsRow.pinnedBy) = true := by kernel_rfl
theorem pairingFinals_k30 : (Rows.pairingFinalsRow.veiled == (Tryz.f3.params.toList ++ Rows.pairingFinalsSpec.plain.varTypes Tryz.prog ++ Tryz.f3.resultTypes.toList).any (Tryz.prog.veiledRec ·)) = true := by kernel_rfl
theorem pairingFinals_k31 : Rows.pairingFinalsRow.veiledFits Tryz.prog Tryz.f3.params.toList (Tryz.f3.params.toList ++ Rows.pairingFinalsSpec.plain.varTypes Tryz.prog ++ Tryz.f3.resultTypes.toList) = true := by kernel_rfl
set_option maxRecDepth 100000 in
theorem pairingFinals_join : joinedFacts Tryz.prog 3 Tryz.f3 Rows.pairingFinalsSpec Rows.pairingFinalsRow = true := joined_mk pairingFinals_k0 pairingFinals_k1 pairingFinals_k2 pairingFinals_k3 pairingFinals_k4 pairingFinals_k5 pairingFinals_k6 pairingFinals_k7 pairingFinals_k8 pairingFinals_k9 pairingFinals_k10 pairingFinals_k11 pairingFinals_k12 pairingFinals_k13 pairingFinals_k14 pairingFinals_k15 pairingFinals_k16 pairingFinals_k17 pairingFinals_k18 pairingFinals_k19 pairingFinals_k20 pairingFinals_k21 pairingFinals_k22 pairingFinals_k23 pairingFinals_k24 pairingFinals_k25 pairingFinals_k26 pairingFinals_k27 pairingFinals_k28 pairingFinals_k29 pairingFinals_k30 pairingFinals_k31
theorem pairingFinals_named : Tryz.prog.funcNamed Rows.pairingFinalsRow.func = some 3 := by kernel_rfl
theorem pairingFinals_wrap : Tryz.f3.isWrapper Tryz.prog Rows.pairingFinalsRow.wrapper Rows.pairingFinalsRow.mainSum := by unfold Func.isWrapper; first | (rw [if_pos (by decide +kernel)]; kernel_rfl) | (rw [if_neg (by decide +kernel)]; exact ⟨rfl, rfl⟩)
theorem pairingFinals_over : Rows.pairingFinalsRow.holds Tryz.pinned (OpenSpec.ofChange Rows.pairingFinalsSpec) :=
  OpenClaim.holds_of_wide 3 Tryz.f3 rfl rfl rfl rfl rfl rfl rfl ⟨rfl, rfl, rfl, rfl, rfl⟩ rfl rfl rfl rfl rfl pairingFinals_named Tryz.func3 pairingFinals_join
    (of_decide_eq_true (by kernel_rfl)) pairingFinals_wrap
    (fun os started H enc _ => pairingFinals_lifted os started H enc)

/-- The statement. -/
theorem pairingFinals_holds : Rows.PairingFinalsSaid := pairingFinals_over
#print axioms pairingFinals_holds
end Go.Proofs.YtcidhcielgnfdaaGreat
