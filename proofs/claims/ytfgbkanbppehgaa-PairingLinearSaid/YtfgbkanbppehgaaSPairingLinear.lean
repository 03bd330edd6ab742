/-
  PairingLinear: for every input the call returns true, and each argument reads behind it as before. No condition.
-/
import Derived.Test.YtfgbkanbppehgaaRows
import Derived.Test.YtfgbkanbppehgaaSay
import Derived.Test.YtfgbkanbppehgaaJoin
import Derived.Test.YtfgbkanbppehgaaK
import Derived.Test.YtfgbkanbppehgaaLaP16
import Derived.ProofKit
import Derived.OpenShut
namespace Go.Proofs.Ytfgbkanbppehgaa
open Go Go.Eng Go.RowKit Go.ChangeShapes Go.WideShapes Go.ChangeAt
set_option linter.unusedVariables false

set_option maxRecDepth 100000 in
theorem pairingLinear_lifted (os : Os) (started : os.Started) (H : Type) (enc : TypeId × Value → H) :
    ReturnsInHanded {} Try.checked os 7 .any (Rows.pairingLinearSpec.pre6 enc Try.prog Try.f7 Rows.pairingLinearRow.domain false) (Rows.pairingLinearSpec.post enc Try.prog Try.f7 false true false false) := by
  refine lifted_any (C := Try.checked) say_own started (by kernel_rfl) Try.func7
    (ChangeSpec.witness6 (enc := enc) (C := Try.checked) false ⟨#[], #[.int .u64 0, .int .u64 0], []⟩ 8 (by kernel_rfl) (by kernel_rfl) (by kernel_rfl) (by kernel_rfl))
    say_laid (by kernel_rfl) rfl (tb := 4) (by kernel_rfl) (by kernel_rfl) (fun ds hd => ?_) ?_
  · rw [Try.params7] at hd
    match ds, hd with
    | [d0, d1], _ => exact ⟨rfl, rfl, rfl⟩
  · intro W base args ds ps hval hA hlt
    rw [Try.params7] at hA hval
    obtain ⟨v0, vs0, d0, ds0, p0, q0, hargs, rfl, rfl, h0, r0⟩ := trodAll_cons hA
    obtain ⟨v1, vs1, d1, ds1, p1, q1, rfl, rfl, rfl, h1, r1⟩ := trodAll_cons r0
    obtain ⟨rfl, rfl, rfl⟩ := trodAll_nil r1
    obtain rfl : args = #[v0, v1] := by cases args; simp_all
    obtain ⟨a0, rfl, rfl, rfl, s0⟩ := open_int (k := .u64) (by kernel_rfl) (hval 0 26 v0 rfl rfl) h0
    obtain ⟨a1, rfl, rfl, rfl, s1⟩ := open_int (k := .u64) (by kernel_rfl) (hval 1 26 v1 rfl rfl) h1
    exact pairingLinear_gives a0 (wf_u64 s0) a1 (wf_u64 s1) W

theorem pairingLinear_k0 : Rows.pairingLinearRow.wf (OpenSpec.ofChange Rows.pairingLinearSpec) = true := by kernel_rfl
theorem pairingLinear_k1 : laidOutB Try.prog = true := by kernel_rfl
theorem pairingLinear_k2 : mapsRowed Try.prog = true := by kernel_rfl
theorem pairingLinear_k3 : Try.f7.params.all (Try.prog.readableRec ·) = true := by kernel_rfl
theorem pairingLinear_k4 : namedTie Try.prog Rows.pairingLinearRow.named Rows.pairingLinearSpec.vars = true := by kernel_rfl
theorem pairingLinear_k5 : (Rows.pairingLinearRow.stops == []) = true := by kernel_rfl
theorem pairingLinear_k6 : (Try.prog.stops == []) = true := by kernel_rfl
theorem pairingLinear_k7 : (Rows.pairingLinearRow.knobs == []) = true := by kernel_rfl
theorem pairingLinear_k8 : (Try.prog.stopKnobs == []) = true := by kernel_rfl
theorem pairingLinear_k9 : (Rows.pairingLinearRow.inPlace == Try.prog.inPlace 7) = true := by kernel_rfl
theorem pairingLinear_k10 : (Rows.pairingLinearRow.unfollowed == Try.prog.unfollowed 7) = true := by kernel_rfl
theorem pairingLinear_k11 : (Rows.pairingLinearRow.recurses == Try.prog.recurses 7) = true := by kernel_rfl
theorem pairingLinear_k12 : (Rows.pairingLinearRow.named == Try.prog.varsNamed 7) = true := by kernel_rfl
theorem pairingLinear_k13 : (Rows.pairingLinearRow.maps == (Try.f7.params.toList ++ Rows.pairingLinearSpec.plain.varTypes Try.prog).any (Try.prog.mapsRec ·)) = true := by kernel_rfl
theorem pairingLinear_k14 : (Rows.pairingLinearRow.ifaces == (Try.f7.params.toList ++ Rows.pairingLinearSpec.plain.varTypes Try.prog).any (Try.prog.ifacesRec ·)) = true := by kernel_rfl
theorem pairingLinear_k15 : (Rows.pairingLinearRow.mapsOut == Try.prog.mapsAmong Try.f7.resultTypes.toList) = true := by kernel_rfl
theorem pairingLinear_k16 : (Rows.pairingLinearRow.loops == (Try.f7.params.toList ++ Rows.pairingLinearSpec.plain.varTypes Try.prog).any (Try.prog.loopsFrom ·)) = true := by kernel_rfl
theorem pairingLinear_k17 : (Rows.pairingLinearRow.wideKeys == (Try.f7.params.toList ++ Rows.pairingLinearSpec.plain.varTypes Try.prog ++ Try.f7.resultTypes.toList).any (Try.prog.wideKeysFrom ·)) = true := by kernel_rfl
theorem pairingLinear_k18 : Rows.pairingLinearSpec.vars.all (Try.prog.varReadable ·) = true := by kernel_rfl
theorem pairingLinear_k19 : Try.f7.resultTypes.all (fun t => Try.prog.readableRec t && decide (t < Try.prog.types.size)) = true := by kernel_rfl
theorem pairingLinear_k20 : (Rows.pairingLinearRow.ifacesOut == Try.f7.resultTypes.toList.any (Try.prog.ifacesRec ·)) = true := by kernel_rfl
theorem pairingLinear_k21 : (Rows.pairingLinearRow.loopsOut == Try.f7.resultTypes.toList.any (Try.prog.loopsFrom ·)) = true := by kernel_rfl
theorem pairingLinear_k22 : (Rows.pairingLinearRow.plainKeys == Try.prog.plainKeys) = true := by kernel_rfl
theorem pairingLinear_k23 : Rows.pairingLinearRow.shortTexts.isNone = true := by kernel_rfl
theorem pairingLinear_k24 : Try.prog.stopsHeard = true := by kernel_rfl
theorem pairingLinear_k25 : Try.prog.mayEnter = true := sk25
theorem pairingLinear_k26 : (Rows.pairingLinearRow.lifted == Try.prog.liftsFinal) = true := (congrArg (· == Try.prog.liftsFinal) (show Rows.pairingLinearRow.lifted = Rows.pairingNamesRow.lifted by kernel_rfl)).trans sk26
theorem pairingLinear_k27 : (Try.prog.make == some Rows.pairingLinearRow.make) = true := (congrArg (fun m => Try.prog.make == some m) (show Rows.pairingLinearRow.make = Rows.pairingNamesRow.make by kernel_rfl)).trans sk27
theorem pairingLinear_k28 : (Rows.pairingLinearRow.kinds == (if Rows.pairingLinearRow.domain.isEmpty then [] else Try.f7.params.toList.map fun t => match Try.prog.underlying t with | some (.int k) => some k | _ => none)) = true := by kernel_rfl
theorem pairingLinear_k29 : (Rows.pairingLinearRow.pinned == Rows.pairingLinearRow.pinnedBy) = true := by kernel_rfl
theorem pairingLinear_k30 : (Rows.pairingLinearRow.veiled == (Try.f7.params.toList ++ Rows.pairingLinearSpec.plain.varTypes Try.prog ++ Try.f7.resultTypes.toList).any (Try.prog.veiledRec ·)) = true := by kernel_rfl
theorem pairingLinear_k31 : Rows.pairingLinearRow.veiledFits Try.prog Try.f7.params.toList (Try.f7.params.toList ++ Rows.pairingLinearSpec.plain.varTypes Try.prog ++ Try.f7.resultTypes.toList) = true := by kernel_rfl
set_option maxRecDepth 100000 in
theorem pairingLinear_join : joinedFacts Try.prog 7 Try.f7 Rows.pairingLinearSpec Rows.pairingLinearRow = true := joined_mk pairingLinear_k0 pairingLinear_k1 pairingLinear_k2 pairingLinear_k3 pairingLinear_k4 pairingLinear_k5 pairingLinear_k6 pairingLinear_k7 pairingLinear_k8 pairingLinear_k9 pairingLinear_k10 pairingLinear_k11 pairingLinear_k12 pairingLinear_k13 pairingLinear_k14 pairingLinear_k15 pairingLinear_k16 pairingLinear_k17 pairingLinear_k18 pairingLinear_k19 pairingLinear_k20 pairingLinear_k21 pairingLinear_k22 pairingLinear_k23 pairingLinear_k24 pairingLinear_k25 pairingLinear_k26 pairingLinear_k27 pairingLinear_k28 pairingLinear_k29 pairingLinear_k30 pairingLinear_k31
theorem pairingLinear_named : Try.prog.funcNamed Rows.pairingLinearRow.func = some 7 := by kernel_rfl
theorem pairingLinear_wrap : Try.f7.isWrapper Try.prog Rows.pairingLinearRow.wrapper Rows.pairingLinearRow.mainSum := by unfold Func.isWrapper; first | (rw [if_pos (by decide +kernel)]; kernel_rfl) | (rw [if_neg (by decide +kernel)]; exact ⟨rfl, rfl⟩)
theorem pairingLinear_over : Rows.pairingLinearRow.holds Try.pinned (OpenSpec.ofChange Rows.pairingLinearSpec) :=
  OpenClaim.holds_of_wide 7 Try.f7 rfl rfl rfl rfl rfl rfl rfl ⟨rfl, rfl, rfl, rfl, rfl⟩ rfl rfl rfl rfl rfl pairingLinear_named Try.func7 pairingLinear_join
    (of_decide_eq_true (by kernel_rfl)) pairingLinear_wrap
    (fun os started H enc _ => pairingLinear_lifted os started H enc)

/-- The statement. -/
theorem pairingLinear_holds : Rows.PairingLinearSaid := pairingLinear_over
#print axioms pairingLinear_holds
end Go.Proofs.Ytfgbkanbppehgaa
