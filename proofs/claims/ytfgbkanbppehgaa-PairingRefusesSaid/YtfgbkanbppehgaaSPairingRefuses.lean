/-
  PairingRefuses: for every input the call returns true, and each argument reads behind it as before. No condition.
-/
import Derived.Test.YtfgbkanbppehgaaRows
import Derived.Test.YtfgbkanbppehgaaSay
import Derived.Test.YtfgbkanbppehgaaJoin
import Derived.Test.YtfgbkanbppehgaaK
import Derived.Test.YtfgbkanbppehgaaLaP16
import Derived.ProofKit
import Derived.OpenShut
namespace Go.Proofs.Ytfgbkanbppehgaa
open Go Go.Eng Go.RowKit Go.ChangeShapes Go.WideShapes Go.ChangeAt
set_option linter.unusedVariables false

set_option maxRecDepth 100000 in
theorem pairingRefuses_lifted (os : Os) (started : os.Started) (H : Type) (enc : TypeId × Value → H) :
    ReturnsInHanded {} Try.checked os 6 .any (Rows.pairingRefusesSpec.pre6 enc Try.prog Try.f6 Rows.pairingRefusesRow.domain false) (Rows.pairingRefusesSpec.post enc Try.prog Try.f6 false true false false) := by
  refine lifted_any (C := Try.checked) say_own started (by kernel_rfl) Try.func6
    (ChangeSpec.witness6 (enc := enc) (C := Try.checked) false ⟨#[], #[.agg ((Array.replicate 12 (.int .u64 0)).push (.bool false)), .agg ((Array.replicate 24 (.int .u64 0)).push (.bool false))], []⟩ 8 (by kernel_rfl) (by kernel_rfl) (by kernel_rfl) (by kernel_rfl))
    say_laid (by kernel_rfl) rfl (tb := 4) (by kernel_rfl) (by kernel_rfl) (fun ds hd => ?_) ?_
  · rw [Try.params6] at hd
    match ds, hd with
    | [d0, d1], _ => exact ⟨rfl, rfl, rfl⟩
  · intro W base args ds ps hval hA hlt
    rw [Try.params6] at hA hval
    obtain ⟨v0, vs0, d0, ds0, p0, q0, hargs, rfl, rfl, h0, r0⟩ := trodAll_cons hA
    obtain ⟨v1, vs1, d1, ds1, p1, q1, rfl, rfl, rfl, h1, r1⟩ := trodAll_cons r0
    obtain ⟨rfl, rfl, rfl⟩ := trodAll_nil r1
    obtain rfl : args = #[v0, v1] := by cases args; simp_all
    obtain ⟨a0, s0, rfl⟩ := open_pt (A := A1) (by kernel_rfl) (by kernel_rfl) (by kernel_rfl) (hval 0 41 v0 rfl rfl) h0
    obtain ⟨a1, s1, rfl⟩ := open_pt (A := A2) (by kernel_rfl) (by kernel_rfl) (by kernel_rfl) (hval 1 43 v1 rfl rfl) h1
    exact pairingRefuses_gives a0 s0 a1 s1 W

theorem pairingRefuses_k0 : Rows.pairingRefusesRow.wf (OpenSpec.ofChange Rows.pairingRefusesSpec) = true := by kernel_rfl
theorem pairingRefuses_k1 : laidOutB Try.prog = true := by kernel_rfl
theorem pairingRefuses_k2 : mapsRowed Try.prog = true := by kernel_rfl
theorem pairingRefuses_k3 : Try.f6.params.all (Try.prog.readableRec ·) = true := by kernel_rfl
theorem pairingRefuses_k4 : namedTie Try.prog Rows.pairingRefusesRow.named Rows.pairingRefusesSpec.vars = true := by kernel_rfl
theorem pairingRefuses_k5 : (Rows.pairingRefusesRow.stops == []) = true := by kernel_rfl
theorem pairingRefuses_k6 : (Try.prog.stops == []) = true := by kernel_rfl
theorem pairingRefuses_k7 : (Rows.pairingRefusesRow.knobs == []) = true := by kernel_rfl
theorem pairingRefuses_k8 : (Try.prog.stopKnobs == []) = true := by kernel_rfl
theorem pairingRefuses_k9 : (Rows.pairingRefusesRow.inPlace == Try.prog.inPlace 6) = true := by kernel_rfl
theorem pairingRefuses_k10 : (Rows.pairingRefusesRow.unfollowed == Try.prog.unfollowed 6) = true := by kernel_rfl
theorem pairingRefuses_k11 : (Rows.pairingRefusesRow.recurses == Try.prog.recurses 6) = true := by kernel_rfl
theorem pairingRefuses_k12 : (Rows.pairingRefusesRow.named == Try.prog.varsNamed 6) = true := by kernel_rfl
theorem pairingRefuses_k13 : (Rows.pairingRefusesRow.maps == (Try.f6.params.toList ++ Rows.pairingRefusesSpec.plain.varTypes Try.prog).any (Try.prog.mapsRec ·)) = true := by kernel_rfl
theorem pairingRefuses_k14 : (Rows.pairingRefusesRow.ifaces == (Try.f6.params.toList ++ Rows.pairingRefusesSpec.plain.varTypes Try.prog).any (Try.prog.ifacesRec ·)) = true := by kernel_rfl
theorem pairingRefuses_k15 : (Rows.pairingRefusesRow.mapsOut == Try.prog.mapsAmong Try.f6.resultTypes.toList) = true := by kernel_rfl
theorem pairingRefuses_k16 : (Rows.pairingRefusesRow.loops == (Try.f6.params.toList ++ Rows.pairingRefusesSpec.plain.varTypes Try.prog).any (Try.prog.loopsFrom ·)) = true := by kernel_rfl
theorem pairingRefuses_k17 : (Rows.pairingRefusesRow.wideKeys == (Try.f6.params.toList ++ Rows.pairingRefusesSpec.plain.varTypes Try.prog ++ Try.f6.resultTypes.toList).any (Try.prog.wideKeysFrom ·)) = true := by kernel_rfl
theorem pairingRefuses_k18 : Rows.pairingRefusesSpec.vars.all (Try.prog.varReadable ·) = true := by kernel_rfl
theorem pairingRefuses_k19 : Try.f6.resultTypes.all (fun t => Try.prog.readableRec t && decide (t < Try.prog.types.size)) = true := by kernel_rfl
theorem pairingRefuses_k20 : (Rows.pairingRefusesRow.ifacesOut == Try.f6.resultTypes.toList.any (Try.prog.ifacesRec ·)) = true := by kernel_rfl
theorem pairingRefuses_k21 : (Rows.pairingRefusesRow.loopsOut == Try.f6.resultTypes.toList.any (Try.prog.loopsFrom ·)) = true := by kernel_rfl
theorem pairingRefuses_k22 : (Rows.pairingRefusesRow.plainKeys == Try.prog.plainKeys) = true := by kernel_rfl
theorem pairingRefuses_k23 : Rows.pairingRefusesRow.shortTexts.isNone = true := by kernel_rfl
theorem pairingRefuses_k24 : Try.prog.stopsHeard = true := by kernel_rfl
theorem pairingRefuses_k25 : Try.prog.mayEnter = true := sk25
theorem pairingRefuses_k26 : (Rows.pairingRefusesRow.lifted == Try.prog.liftsFinal) = true := (congrArg (· == Try.prog.liftsFinal) (show Rows.pairingRefusesRow.lifted = Rows.pairingNamesRow.lifted by kernel_rfl)).trans sk26
theorem pairingRefuses_k27 : (Try.prog.make == some Rows.pairingRefusesRow.make) = true := (congrArg (fun m => Try.prog.make == some m) (show Rows.pairingRefusesRow.make = Rows.pairingNamesRow.make by kernel_rfl)).trans sk27
theorem pairingRefuses_k28 : (Rows.pairingRefusesRow.kinds == (if Rows.pairingRefusesRow.domain.isEmpty then [] else Try.f6.params.toList.map fun t => match Try.prog.underlying t with | some (.int k) => some k | _ => none)) = true := by kernel_rfl
theorem pairingRefuses_k29 : (Rows.pairingRefusesRow.pinned == Rows.pairingRefusesRow.pinnedBy) = true := by kernel_rfl
theorem pairingRefuses_k30 : (Rows.pairingRefusesRow.veiled == (Try.f6.params.toList ++ Rows.pairingRefusesSpec.plain.varTypes Try.prog ++ Try.f6.resultTypes.toList).any (Try.prog.veiledRec ·)) = true := by kernel_rfl
theorem pairingRefuses_k31 : Rows.pairingRefusesRow.veiledFits Try.prog Try.f6.params.toList (Try.f6.params.toList ++ Rows.pairingRefusesSpec.plain.varTypes Try.prog ++ Try.f6.resultTypes.toList) = true := by kernel_rfl
set_option maxRecDepth 100000 in
theorem pairingRefuses_join : joinedFacts Try.prog 6 Try.f6 Rows.pairingRefusesSpec Rows.pairingRefusesRow = true := joined_mk pairingRefuses_k0 pairingRefuses_k1 pairingRefuses_k2 pairingRefuses_k3 pairingRefuses_k4 pairingRefuses_k5 pairingRefuses_k6 pairingRefuses_k7 pairingRefuses_k8 pairingRefuses_k9 pairingRefuses_k10 pairingRefuses_k11 pairingRefuses_k12 pairingRefuses_k13 pairingRefuses_k14 pairingRefuses_k15 pairingRefuses_k16 pairingRefuses_k17 pairingRefuses_k18 pairingRefuses_k19 pairingRefuses_k20 pairingRefuses_k21 pairingRefuses_k22 pairingRefuses_k23 pairingRefuses_k24 pairingRefuses_k25 pairingRefuses_k26 pairingRefuses_k27 pairingRefuses_k28 pairingRefuses_k29 pairingRefuses_k30 pairingRefuses_k31
theorem pairingRefuses_named : Try.prog.funcNamed Rows.pairingRefusesRow.func = some 6 := by kernel_rfl
theorem pairingRefuses_wrap : Try.f6.isWrapper Try.prog Rows.pairingRefusesRow.wrapper Rows.pairingRefusesRow.mainSum := by unfold Func.isWrapper; first | (rw [if_pos (by decide +kernel)]; kernel_rfl) | (rw [if_neg (by decide +kernel)]; exact ⟨rfl, rfl⟩)
theorem pairingRefuses_over : Rows.pairingRefusesRow.holds Try.pinned (OpenSpec.ofChange Rows.pairingRefusesSpec) :=
  OpenClaim.holds_of_wide 6 Try.f6 rfl rfl rfl rfl rfl rfl rfl ⟨rfl, rfl, rfl, rfl, rfl⟩ rfl rfl rfl rfl rfl pairingRefuses_named Try.func6 pairingRefuses_join
    (of_decide_eq_true (by kernel_rfl)) pairingRefuses_wrap
    (fun os started H enc _ => pairingRefuses_lifted os started H enc)

/-- The statement. -/
theorem pairingRefuses_holds : Rows.PairingRefusesSaid := pairingRefuses_over
#print axioms pairingRefuses_holds
end Go.Proofs.Ytfgbkanbppehgaa
