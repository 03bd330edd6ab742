/-
  FrobPowers: for every input the call returns true, and each argument reads behind it as before. No condition.
-/
import Derived.Test.YtkpihidjolfkoaaRows
import Derived.Test.YtkpihidjolfkoaaSay
import Derived.Test.YtkpihidjolfkoaaJoin
import Derived.Test.YtkpihidjolfkoaaLaP
import Derived.ProofKit
import Derived.OpenShut
namespace Go.Proofs.Ytkpihidjolfkoaa
open Go Go.Eng Go.RowKit Go.ChangeShapes Go.WideShapes Go.ChangeAt
set_option linter.unusedVariables false

set_option maxRecDepth 100000 in
theorem frobPowers_lifted (os : Os) (started : os.Started) (H : Type) (enc : TypeId × Value → H) :
    ReturnsInHanded {} Try.checked os 5 .any (Rows.frobPowersSpec.pre6 enc Try.prog Try.f5 Rows.frobPowersRow.domain false) (Rows.frobPowersSpec.post enc Try.prog Try.f5 false true false false) := by
  refine lifted_any (C := Try.checked) say_own started (by kernel_rfl) Try.func5
    (ChangeSpec.witness6 (enc := enc) (C := Try.checked) false ⟨#[], #[.agg (Array.replicate 12 (.int .u64 0))], []⟩ 8 (by kernel_rfl) (by kernel_rfl) (by kernel_rfl) (by kernel_rfl))
    say_laid (by kernel_rfl) rfl (tb := 4) (by kernel_rfl) (by kernel_rfl) (fun ds hd => ?_) ?_
  · rw [Try.params5] at hd
    match ds, hd with
    | [d0], _ => exact ⟨rfl, rfl, rfl⟩
  · intro W base args ds ps hval hA hlt
    rw [Try.params5] at hA hval
    obtain ⟨v0, vs0, d0, ds0, p0, q0, hargs, rfl, rfl, h0, r0⟩ := trodAll_cons hA
    obtain ⟨rfl, rfl, rfl⟩ := trodAll_nil r0
    obtain rfl : args = #[v0] := by cases args; simp_all
    obtain ⟨a0, s0, rfl⟩ := open_nm (A := N2) (by kernel_rfl) (by kernel_rfl) (by kernel_rfl) (hval 0 26 v0 rfl rfl) h0
    exact frobPowers_gives a0 s0 W

theorem frobPowers_k0 : Rows.frobPowersRow.wf (OpenSpec.ofChange Rows.frobPowersSpec) = true := by kernel_rfl
theorem frobPowers_k1 : laidOutB Try.prog = true := by kernel_rfl
theorem frobPowers_k2 : mapsRowed Try.prog = true := by kernel_rfl
theorem frobPowers_k3 : Try.f5.params.all (Try.prog.readableRec ·) = true := by kernel_rfl
theorem frobPowers_k4 : namedTie Try.prog Rows.frobPowersRow.named Rows.frobPowersSpec.vars = true := by kernel_rfl
theorem frobPowers_k5 : (Rows.frobPowersRow.stops == []) = true := by kernel_rfl
theorem frobPowers_k6 : (Try.prog.stops == []) = true := by kernel_rfl
theorem frobPowers_k7 : (Rows.frobPowersRow.knobs == []) = true := by kernel_rfl
theorem frobPowers_k8 : (Try.prog.stopKnobs == []) = true := by kernel_rfl
theorem frobPowers_k9 : (Rows.frobPowersRow.inPlace == Try.prog.inPlace 5) = true := by kernel_rfl
theorem frobPowers_k10 : (Rows.frobPowersRow.unfollowed == Try.prog.unfollowed 5) = true := by kernel_rfl
theorem frobPowers_k11 : (Rows.frobPowersRow.recurses == Try.prog.recurses 5) = true := by kernel_rfl
theorem frobPowers_k12 : (Rows.frobPowersRow.named == Try.prog.varsNamed 5) = true := by kernel_rfl
theorem frobPowers_k13 : (Rows.frobPowersRow.maps == (Try.f5.params.toList ++ Rows.frobPowersSpec.plain.varTypes Try.prog).any (Try.prog.mapsRec ·)) = true := by kernel_rfl
theorem frobPowers_k14 : (Rows.frobPowersRow.ifaces == (Try.f5.params.toList ++ Rows.frobPowersSpec.plain.varTypes Try.prog).any (Try.prog.ifacesRec ·)) = true := by kernel_rfl
theorem frobPowers_k15 : (Rows.frobPowersRow.mapsOut == Try.prog.mapsAmong Try.f5.resultTypes.toList) = true := by kernel_rfl
theorem frobPowers_k16 : (Rows.frobPowersRow.loops == (Try.f5.params.toList ++ Rows.frobPowersSpec.plain.varTypes Try.prog).any (Try.prog.loopsFrom ·)) = true := by kernel_rfl
theorem frobPowers_k17 : (Rows.frobPowersRow.wideKeys == (Try.f5.params.toList ++ Rows.frobPowersSpec.plain.varTypes Try.prog ++ Try.f5.resultTypes.toList).any (Try.prog.wideKeysFrom ·)) = true := by kernel_rfl
theorem frobPowers_k18 : Rows.frobPowersSpec.vars.all (Try.prog.varReadable ·) = true := by kernel_rfl
theorem frobPowers_k19 : Try.f5.resultTypes.all (fun t => Try.prog.readableRec t && decide (t < Try.prog.types.size)) = true := by kernel_rfl
theorem frobPowers_k20 : (Rows.frobPowersRow.ifacesOut == Try.f5.resultTypes.toList.any (Try.prog.ifacesRec ·)) = true := by kernel_rfl
theorem frobPowers_k21 : (Rows.frobPowersRow.loopsOut == Try.f5.resultTypes.toList.any (Try.prog.loopsFrom ·)) = true := by kernel_rfl
theorem frobPowers_k22 : (Rows.frobPowersRow.plainKeys == Try.prog.plainKeys) = true := by kernel_rfl
theorem frobPowers_k23 : Rows.frobPowersRow.shortTexts.isNone = true := by kernel_rfl
theorem frobPowers_k24 : Try.prog.stopsHeard = true := by kernel_rfl
theorem frobPowers_k25 : Try.prog.mayEnter = true := by kernel_rfl
theorem frobPowers_k26 : (Rows.frobPowersRow.lifted == Try.prog.liftsFinal) = true := by kernel_rfl
theorem frobPowers_k27 : (Try.prog.make == some Rows.frobPowersRow.make) = true := by kernel_rfl
theorem frobPowers_k28 : (Rows.frobPowersRow.kinds == (if Rows.frobPowersRow.domain.isEmpty then [] else Try.f5.params.toList.map fun t => match Try.prog.underlying t with | some (.int k) => some k | _ => none)) = true := by kernel_rfl
theorem frobPowers_k29 : (Rows.frobPowersRow.pinned == Rows.frobPowersRow.pinnedBy) = true := by kernel_rfl
theorem frobPowers_k30 : (Rows.frobPowersRow.veiled == (Try.f5.params.toList ++ Rows.frobPowersSpec.plain.varTypes Try.prog ++ Try.f5.resultTypes.toList).any (Try.prog.veiledRec ·)) = true := by kernel_rfl
theorem frobPowers_k31 : Rows.frobPowersRow.veiledFits Try.prog Try.f5.params.toList (Try.f5.params.toList ++ Rows.frobPowersSpec.plain.varTypes Try.prog ++ Try.f5.resultTypes.toList) = true := by kernel_rfl
theorem frobPowers_join : joinedFacts Try.prog 5 Try.f5 Rows.frobPowersSpec Rows.frobPowersRow = true := joined_mk frobPowers_k0 frobPowers_k1 frobPowers_k2 frobPowers_k3 frobPowers_k4 frobPowers_k5 frobPowers_k6 frobPowers_k7 frobPowers_k8 frobPowers_k9 frobPowers_k10 frobPowers_k11 frobPowers_k12 frobPowers_k13 frobPowers_k14 frobPowers_k15 frobPowers_k16 frobPowers_k17 frobPowers_k18 frobPowers_k19 frobPowers_k20 frobPowers_k21 frobPowers_k22 frobPowers_k23 frobPowers_k24 frobPowers_k25 frobPowers_k26 frobPowers_k27 frobPowers_k28 frobPowers_k29 frobPowers_k30 frobPowers_k31
theorem frobPowers_named : Try.prog.funcNamed Rows.frobPowersRow.func = some 5 := by kernel_rfl
theorem frobPowers_wrap : Try.f5.isWrapper Try.prog Rows.frobPowersRow.wrapper Rows.frobPowersRow.mainSum := by unfold Func.isWrapper; first | (rw [if_pos (by decide +kernel)]; kernel_rfl) | (rw [if_neg (by decide +kernel)]; exact ⟨rfl, rfl⟩)
theorem frobPowers_over : Rows.frobPowersRow.holds Try.pinned (OpenSpec.ofChange Rows.frobPowersSpec) :=
  OpenClaim.holds_of_wide 5 Try.f5 rfl rfl rfl rfl rfl rfl rfl ⟨rfl, rfl, rfl, rfl, rfl⟩ rfl rfl rfl rfl rfl frobPowers_named Try.func5 frobPowers_join
    (of_decide_eq_true (by kernel_rfl)) frobPowers_wrap
    (fun os started H enc _ => frobPowers_lifted os started H enc)

/-- The statement. -/
theorem frobPowers_holds : Rows.FrobPowersSaid := frobPowers_over
#print axioms frobPowers_holds
end Go.Proofs.Ytkpihidjolfkoaa
