/-
  Fp6Products: for every input the call returns true, and each argument reads behind it as before. No condition.
-/
import Derived.Test.YtkbbocpahnlkkaaRows
import Derived.Test.YtkbbocpahnlkkaaSay
import Derived.Test.YtkbbocpahnlkkaaJoin
import Derived.Test.YtkbbocpahnlkkaaK
import Derived.Test.YtkbbocpahnlkkaaLaR9
import Derived.ProofKit
import Derived.OpenShut
namespace Go.Proofs.Ytkbbocpahnlkkaa
open Go Go.Eng Go.RowKit Go.ChangeShapes Go.WideShapes Go.ChangeAt
set_option linter.unusedVariables false

set_option maxRecDepth 100000 in
theorem fp6Products_lifted (os : Os) (started : os.Started) (H : Type) (enc : TypeId × Value → H) :
    ReturnsInHanded {} Try.checked os 11 .any (Rows.fp6ProductsSpec.pre6 enc Try.prog Try.f11 Rows.fp6ProductsRow.domain false) (Rows.fp6ProductsSpec.post enc Try.prog Try.f11 false true false false) := by
  refine lifted_any (C := Try.checked) say_own started (by kernel_rfl) Try.func11
    (ChangeSpec.witness6 (enc := enc) (C := Try.checked) false ⟨#[], #[.agg (Array.replicate 36 (.int .u64 0)), .agg (Array.replicate 36 (.int .u64 0))], []⟩ 8 (by kernel_rfl) (by kernel_rfl) (by kernel_rfl) (by kernel_rfl))
    say_laid (by kernel_rfl) rfl (tb := 4) (by kernel_rfl) (by kernel_rfl) (fun ds hd => ?_) ?_
  · rw [Try.params11] at hd
    match ds, hd with
    | [d0, d1], _ => exact ⟨rfl, rfl, rfl⟩
  · intro W base args ds ps hval hA hlt
    rw [Try.params11] at hA hval
    obtain ⟨v0, vs0, d0, ds0, p0, q0, hargs, rfl, rfl, h0, r0⟩ := trodAll_cons hA
    obtain ⟨v1, vs1, d1, ds1, p1, q1, rfl, rfl, rfl, h1, r1⟩ := trodAll_cons r0
    obtain ⟨rfl, rfl, rfl⟩ := trodAll_nil r1
    obtain rfl : args = #[v0, v1] := by cases args; simp_all
    obtain ⟨a0, s0, rfl⟩ := open_nm (A := N6) (by kernel_rfl) (by kernel_rfl) (by kernel_rfl) (hval 0 28 v0 rfl rfl) h0
    obtain ⟨a1, s1, rfl⟩ := open_nm (A := N6) (by kernel_rfl) (by kernel_rfl) (by kernel_rfl) (hval 1 28 v1 rfl rfl) h1
    exact fp6Products_gives a0 s0 a1 s1 W

theorem fp6Products_k0 : Rows.fp6ProductsRow.wf (OpenSpec.ofChange Rows.fp6ProductsSpec) = true := by kernel_rfl
theorem fp6Products_k1 : laidOutB Try.prog = true := by kernel_rfl
theorem fp6Products_k2 : mapsRowed Try.prog = true := by kernel_rfl
theorem fp6Products_k3 : Try.f11.params.all (Try.prog.readableRec ·) = true := by kernel_rfl
theorem fp6Products_k4 : namedTie Try.prog Rows.fp6ProductsRow.named Rows.fp6ProductsSpec.vars = true := by kernel_rfl
theorem fp6Products_k5 : (Rows.fp6ProductsRow.stops == []) = true := by kernel_rfl
theorem fp6Products_k6 : (Try.prog.stops == []) = true := by kernel_rfl
theorem fp6Products_k7 : (Rows.fp6ProductsRow.knobs == []) = true := by kernel_rfl
theorem fp6Products_k8 : (Try.prog.stopKnobs == []) = true := by kernel_rfl
theorem fp6Products_k9 : (Rows.fp6ProductsRow.inPlace == Try.prog.inPlace 11) = true := by kernel_rfl
theorem fp6Products_k10 : (Rows.fp6ProductsRow.unfollowed == Try.prog.unfollowed 11) = true := by kernel_rfl
theorem fp6Products_k11 : (Rows.fp6ProductsRow.recurses == Try.prog.recurses 11) = true := by kernel_rfl
theorem fp6Products_k12 : (Rows.fp6ProductsRow.named == Try.prog.varsNamed 11) = true := by kernel_rfl
theorem fp6Products_k13 : (Rows.fp6ProductsRow.maps == (Try.f11.params.toList ++ Rows.fp6ProductsSpec.plain.varTypes Try.prog).any (Try.prog.mapsRec ·)) = true := by kernel_rfl
theorem fp6Products_k14 : (Rows.fp6ProductsRow.ifaces == (Try.f11.params.toList ++ Rows.fp6ProductsSpec.plain.varTypes Try.prog).any (Try.prog.ifacesRec ·)) = true := by kernel_rfl
theorem fp6Products_k15 : (Rows.fp6ProductsRow.mapsOut == Try.prog.mapsAmong Try.f11.resultTypes.toList) = true := by kernel_rfl
theorem fp6Products_k16 : (Rows.fp6ProductsRow.loops == (Try.f11.params.toList ++ Rows.fp6ProductsSpec.plain.varTypes Try.prog).any (Try.prog.loopsFrom ·)) = true := by kernel_rfl
theorem fp6Products_k17 : (Rows.fp6ProductsRow.wideKeys == (Try.f11.params.toList ++ Rows.fp6ProductsSpec.plain.varTypes Try.prog ++ Try.f11.resultTypes.toList).any (Try.prog.wideKeysFrom ·)) = true := by kernel_rfl
theorem fp6Products_k18 : Rows.fp6ProductsSpec.vars.all (Try.prog.varReadable ·) = true := by kernel_rfl
theorem fp6Products_k19 : Try.f11.resultTypes.all (fun t => Try.prog.readableRec t && decide (t < Try.prog.types.size)) = true := by kernel_rfl
theorem fp6Products_k20 : (Rows.fp6ProductsRow.ifacesOut == Try.f11.resultTypes.toList.any (Try.prog.ifacesRec ·)) = true := by kernel_rfl
theorem fp6Products_k21 : (Rows.fp6ProductsRow.loopsOut == Try.f11.resultTypes.toList.any (Try.prog.loopsFrom ·)) = true := by kernel_rfl
theorem fp6Products_k22 : (Rows.fp6ProductsRow.plainKeys == Try.prog.plainKeys) = true := by kernel_rfl
theorem fp6Products_k23 : Rows.fp6ProductsRow.shortTexts.isNone = true := by kernel_rfl
theorem fp6Products_k24 : Try.prog.stopsHeard = true := by kernel_rfl
theorem fp6Products_k25 : Try.prog.mayEnter = true := sk25
theorem fp6Products_k26 : (Rows.fp6ProductsRow.lifted == Try.prog.liftsFinal) = true := (congrArg (· == Try.prog.liftsFinal) (show Rows.fp6ProductsRow.lifted = Rows.frobSquaresRow.lifted by kernel_rfl)).trans sk26
theorem fp6Products_k27 : (Try.prog.make == some Rows.fp6ProductsRow.make) = true := (congrArg (fun m => Try.prog.make == some m) (show Rows.fp6ProductsRow.make = Rows.frobSquaresRow.make by kernel_rfl)).trans sk27
theorem fp6Products_k28 : (Rows.fp6ProductsRow.kinds == (if Rows.fp6ProductsRow.domain.isEmpty then [] else Try.f11.params.toList.map fun t => match Try.prog.underlying t with | some (.int k) => some k | _ => none)) = true := by kernel_rfl
theorem fp6Products_k29 : (Rows.fp6ProductsRow.pinned == Rows.fp6ProductsRow.pinnedBy) = true := by kernel_rfl
theorem fp6Products_k30 : (Rows.fp6ProductsRow.veiled == (Try.f11.params.toList ++ Rows.fp6ProductsSpec.plain.varTypes Try.prog ++ Try.f11.resultTypes.toList).any (Try.prog.veiledRec ·)) = true := by kernel_rfl
theorem fp6Products_k31 : Rows.fp6ProductsRow.veiledFits Try.prog Try.f11.params.toList (Try.f11.params.toList ++ Rows.fp6ProductsSpec.plain.varTypes Try.prog ++ Try.f11.resultTypes.toList) = true := by kernel_rfl
set_option maxRecDepth 100000 in
theorem fp6Products_join : joinedFacts Try.prog 11 Try.f11 Rows.fp6ProductsSpec Rows.fp6ProductsRow = true := joined_mk fp6Products_k0 fp6Products_k1 fp6Products_k2 fp6Products_k3 fp6Products_k4 fp6Products_k5 fp6Products_k6 fp6Products_k7 fp6Products_k8 fp6Products_k9 fp6Products_k10 fp6Products_k11 fp6Products_k12 fp6Products_k13 fp6Products_k14 fp6Products_k15 fp6Products_k16 fp6Products_k17 fp6Products_k18 fp6Products_k19 fp6Products_k20 fp6Products_k21 fp6Products_k22 fp6Products_k23 fp6Products_k24 fp6Products_k25 fp6Products_k26 fp6Products_k27 fp6Products_k28 fp6Products_k29 fp6Products_k30 fp6Products_k31
theorem fp6Products_named : Try.prog.funcNamed Rows.fp6ProductsRow.func = some 11 := by kernel_rfl
theorem fp6Products_wrap : Try.f11.isWrapper Try.prog Rows.fp6ProductsRow.wrapper Rows.fp6ProductsRow.mainSum := by unfold Func.isWrapper; first | (rw [if_pos (by decide +kernel)]; kernel_rfl) | (rw [if_neg (by decide +kernel)]; exact ⟨rfl, rfl⟩)
theorem fp6Products_over : Rows.fp6ProductsRow.holds Try.pinned (OpenSpec.ofChange Rows.fp6ProductsSpec) :=
  OpenClaim.holds_of_wide 11 Try.f11 rfl rfl rfl rfl rfl rfl rfl ⟨rfl, rfl, rfl, rfl, rfl⟩ rfl rfl rfl rfl rfl fp6Products_named Try.func11 fp6Products_join
    (of_decide_eq_true (by kernel_rfl)) fp6Products_wrap
    (fun os started H enc _ => fp6Products_lifted os started H enc)

/-- The statement. -/
theorem fp6Products_holds : Rows.Fp6ProductsSaid := fp6Products_over
#print axioms fp6Products_holds
end Go.Proofs.Ytkbbocpahnlkkaa
