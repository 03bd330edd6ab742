/-
  G2Closed: for every input the call returns true, and each argument reads behind it as before. No condition.
-/
import Derived.Test.YtkbbocpahnlkkaaRows
import Derived.Test.YtkbbocpahnlkkaaSay
import Derived.Test.YtkbbocpahnlkkaaJoin
import Derived.Test.YtkbbocpahnlkkaaK
import Derived.Test.YtkbbocpahnlkkaaLaG13
import Derived.ProofKit
import Derived.OpenShut
namespace Go.Proofs.Ytkbbocpahnlkkaa
open Go Go.Eng Go.RowKit Go.ChangeShapes Go.WideShapes Go.ChangeAt
set_option linter.unusedVariables false

set_option maxRecDepth 100000 in
theorem g2Closed_lifted (os : Os) (started : os.Started) (H : Type) (enc : TypeId × Value → H) :
    ReturnsInHanded {} Try.checked os 9 .any (Rows.g2ClosedSpec.pre6 enc Try.prog Try.f9 Rows.g2ClosedRow.domain false) (Rows.g2ClosedSpec.post enc Try.prog Try.f9 false true false false) := by
  refine lifted_any (C := Try.checked) say_own started (by kernel_rfl) Try.func9
    (ChangeSpec.witness6 (enc := enc) (C := Try.checked) false ⟨#[], #[.agg ((Array.replicate 24 (.int .u64 0)).push (.bool false)), .agg ((Array.replicate 24 (.int .u64 0)).push (.bool false)), .int .u64 0], []⟩ 8 (by kernel_rfl) (by kernel_rfl) (by kernel_rfl) (by kernel_rfl))
    say_laid (by kernel_rfl) rfl (tb := 4) (by kernel_rfl) (by kernel_rfl) (fun ds hd => ?_) ?_
  · rw [Try.params9] at hd
    match ds, hd with
    | [d0, d1, d2], _ => exact ⟨rfl, rfl, rfl⟩
  · intro W base args ds ps hval hA hlt
    rw [Try.params9] at hA hval
    obtain ⟨v0, vs0, d0, ds0, p0, q0, hargs, rfl, rfl, h0, r0⟩ := trodAll_cons hA
    obtain ⟨v1, vs1, d1, ds1, p1, q1, rfl, rfl, rfl, h1, r1⟩ := trodAll_cons r0
    obtain ⟨v2, vs2, d2, ds2, p2, q2, rfl, rfl, rfl, h2, r2⟩ := trodAll_cons r1
    obtain ⟨rfl, rfl, rfl⟩ := trodAll_nil r2
    obtain rfl : args = #[v0, v1, v2] := by cases args; simp_all
    obtain ⟨a0, s0, rfl⟩ := open_pt (A := A2) (by kernel_rfl) (by kernel_rfl) (by kernel_rfl) (hval 0 49 v0 rfl rfl) h0
    obtain ⟨a1, s1, rfl⟩ := open_pt (A := A2) (by kernel_rfl) (by kernel_rfl) (by kernel_rfl) (hval 1 49 v1 rfl rfl) h1
    obtain ⟨a2, rfl, rfl, rfl, s2⟩ := open_int (k := .u64) (by kernel_rfl) (hval 2 22 v2 rfl rfl) h2
    exact g2Closed_gives a0 s0 a1 s1 a2 (wf_u64 s2) W

theorem g2Closed_k0 : Rows.g2ClosedRow.wf (OpenSpec.ofChange Rows.g2ClosedSpec) = true := by kernel_rfl
theorem g2Closed_k1 : laidOutB Try.prog = true := by kernel_rfl
theorem g2Closed_k2 : mapsRowed Try.prog = true := by kernel_rfl
theorem g2Closed_k3 : Try.f9.params.all (Try.prog.readableRec ·) = true := by kernel_rfl
theorem g2Closed_k4 : namedTie Try.prog Rows.g2ClosedRow.named Rows.g2ClosedSpec.vars = true := by kernel_rfl
theorem g2Closed_k5 : (Rows.g2ClosedRow.stops == []) = true := by kernel_rfl
theorem g2Closed_k6 : (Try.prog.stops == []) = true := by kernel_rfl
theorem g2Closed_k7 : (Rows.g2ClosedRow.knobs == []) = true := by kernel_rfl
theorem g2Closed_k8 : (Try.prog.stopKnobs == []) = true := by kernel_rfl
theorem g2Closed_k9 : (Rows.g2ClosedRow.inPlace == Try.prog.inPlace 9) = true := by kernel_rfl
theorem g2Closed_k10 : (Rows.g2ClosedRow.unfollowed == Try.prog.unfollowed 9) = true := by kernel_rfl
theorem g2Closed_k11 : (Rows.g2ClosedRow.recurses == Try.prog.recurses 9) = true := by kernel_rfl
theorem g2Closed_k12 : (Rows.g2ClosedRow.named == Try.prog.varsNamed 9) = true := by kernel_rfl
theorem g2Closed_k13 : (Rows.g2ClosedRow.maps == (Try.f9.params.toList ++ Rows.g2ClosedSpec.plain.varTypes Try.prog).any (Try.prog.mapsRec ·)) = true := by kernel_rfl
theorem g2Closed_k14 : (Rows.g2ClosedRow.ifaces == (Try.f9.params.toList ++ Rows.g2ClosedSpec.plain.varTypes Try.prog).any (Try.prog.ifacesRec ·)) = true := by kernel_rfl
theorem g2Closed_k15 : (Rows.g2ClosedRow.mapsOut == Try.prog.mapsAmong Try.f9.resultTypes.toList) = true := by kernel_rfl
theorem g2Closed_k16 : (Rows.g2ClosedRow.loops == (Try.f9.params.toList ++ Rows.g2ClosedSpec.plain.varTypes Try.prog).any (Try.prog.loopsFrom ·)) = true := by kernel_rfl
theorem g2Closed_k17 : (Rows.g2ClosedRow.wideKeys == (Try.f9.params.toList ++ Rows.g2ClosedSpec.plain.varTypes Try.prog ++ Try.f9.resultTypes.toList).any (Try.prog.wideKeysFrom ·)) = true := by kernel_rfl
theorem g2Closed_k18 : Rows.g2ClosedSpec.vars.all (Try.prog.varReadable ·) = true := by kernel_rfl
theorem g2Closed_k19 : Try.f9.resultTypes.all (fun t => Try.prog.readableRec t && decide (t < Try.prog.types.size)) = true := by kernel_rfl
theorem g2Closed_k20 : (Rows.g2ClosedRow.ifacesOut == Try.f9.resultTypes.toList.any (Try.prog.ifacesRec ·)) = true := by kernel_rfl
theorem g2Closed_k21 : (Rows.g2ClosedRow.loopsOut == Try.f9.resultTypes.toList.any (Try.prog.loopsFrom ·)) = true := by kernel_rfl
theorem g2Closed_k22 : (Rows.g2ClosedRow.plainKeys == Try.prog.plainKeys) = true := by kernel_rfl
theorem g2Closed_k23 : Rows.g2ClosedRow.shortTexts.isNone = true := by kernel_rfl
theorem g2Closed_k24 : Try.prog.stopsHeard = true := by kernel_rfl
theorem g2Closed_k25 : Try.prog.mayEnter = true := sk25
theorem g2Closed_k26 : (Rows.g2ClosedRow.lifted == Try.prog.liftsFinal) = true := (congrArg (· == Try.prog.liftsFinal) (show Rows.g2ClosedRow.lifted = Rows.frobSquaresRow.lifted by kernel_rfl)).trans sk26
theorem g2Closed_k27 : (Try.prog.make == some Rows.g2ClosedRow.make) = true := (congrArg (fun m => Try.prog.make == some m) (show Rows.g2ClosedRow.make = Rows.frobSquaresRow.make by kernel_rfl)).trans sk27
theorem g2Closed_k28 : (Rows.g2ClosedRow.kinds == (if Rows.g2ClosedRow.domain.isEmpty then [] else Try.f9.params.toList.map fun t => match Try.prog.underlying t with | some (.int k) => some k | _ => none)) = true := by kernel_rfl
theorem g2Closed_k29 : (Rows.g2ClosedRow.pinned == Rows.g2ClosedRow.pinnedBy) = true := by kernel_rfl
theorem g2Closed_k30 : (Rows.g2ClosedRow.veiled == (Try.f9.params.toList ++ Rows.g2ClosedSpec.plain.varTypes Try.prog ++ Try.f9.resultTypes.toList).any (Try.prog.veiledRec ·)) = true := by kernel_rfl
theorem g2Closed_k31 : Rows.g2ClosedRow.veiledFits Try.prog Try.f9.params.toList (Try.f9.params.toList ++ Rows.g2ClosedSpec.plain.varTypes Try.prog ++ Try.f9.resultTypes.toList) = true := by kernel_rfl
set_option maxRecDepth 100000 in
theorem g2Closed_join : joinedFacts Try.prog 9 Try.f9 Rows.g2ClosedSpec Rows.g2ClosedRow = true := joined_mk g2Closed_k0 g2Closed_k1 g2Closed_k2 g2Closed_k3 g2Closed_k4 g2Closed_k5 g2Closed_k6 g2Closed_k7 g2Closed_k8 g2Closed_k9 g2Closed_k10 g2Closed_k11 g2Closed_k12 g2Closed_k13 g2Closed_k14 g2Closed_k15 g2Closed_k16 g2Closed_k17 g2Closed_k18 g2Closed_k19 g2Closed_k20 g2Closed_k21 g2Closed_k22 g2Closed_k23 g2Closed_k24 g2Closed_k25 g2Closed_k26 g2Closed_k27 g2Closed_k28 g2Closed_k29 g2Closed_k30 g2Closed_k31
theorem g2Closed_named : Try.prog.funcNamed Rows.g2ClosedRow.func = some 9 := by kernel_rfl
theorem g2Closed_wrap : Try.f9.isWrapper Try.prog Rows.g2ClosedRow.wrapper Rows.g2ClosedRow.mainSum := by unfold Func.isWrapper; first | (rw [if_pos (by decide +kernel)]; kernel_rfl) | (rw [if_neg (by decide +kernel)]; exact ⟨rfl, rfl⟩)
theorem g2Closed_over : Rows.g2ClosedRow.holds Try.pinned (OpenSpec.ofChange Rows.g2ClosedSpec) :=
  OpenClaim.holds_of_wide 9 Try.f9 rfl rfl rfl rfl rfl rfl rfl ⟨rfl, rfl, rfl, rfl, rfl⟩ rfl rfl rfl rfl rfl g2Closed_named Try.func9 g2Closed_join
    (of_decide_eq_true (by kernel_rfl)) g2Closed_wrap
    (fun os started H enc _ => g2Closed_lifted os started H enc)

/-- The statement. -/
theorem g2Closed_holds : Rows.G2ClosedSaid := g2Closed_over
#print axioms g2Closed_holds
end Go.Proofs.Ytkbbocpahnlkkaa
