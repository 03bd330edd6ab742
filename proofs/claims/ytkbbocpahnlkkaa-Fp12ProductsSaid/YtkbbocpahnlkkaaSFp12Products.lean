/-
  Fp12Products: for every input the call returns true, and each argument reads behind it as before. No condition.
-/
import Derived.Test.YtkbbocpahnlkkaaRows
import Derived.Test.YtkbbocpahnlkkaaSay
import Derived.Test.YtkbbocpahnlkkaaJoin
import Derived.Test.YtkbbocpahnlkkaaK
import Derived.Test.YtkbbocpahnlkkaaLaR10
import Derived.ProofKit
import Derived.OpenShut
namespace Go.Proofs.Ytkbbocpahnlkkaa
open Go Go.Eng Go.RowKit Go.ChangeShapes Go.WideShapes Go.ChangeAt
set_option linter.unusedVariables false

set_option maxRecDepth 100000 in
theorem fp12Products_lifted (os : Os) (started : os.Started) (H : Type) (enc : TypeId × Value → H) :
    ReturnsInHanded {} Try.checked os 15 .any (Rows.fp12ProductsSpec.pre6 enc Try.prog Try.f15 Rows.fp12ProductsRow.domain false) (Rows.fp12ProductsSpec.post enc Try.prog Try.f15 false true false false) := by
  refine lifted_any (C := Try.checked) say_own started (by kernel_rfl) Try.func15
    (ChangeSpec.witness6 (enc := enc) (C := Try.checked) false ⟨#[], #[.agg (Array.replicate 72 (.int .u64 0)), .agg (Array.replicate 72 (.int .u64 0))], []⟩ 8 (by kernel_rfl) (by kernel_rfl) (by kernel_rfl) (by kernel_rfl))
    say_laid (by kernel_rfl) rfl (tb := 4) (by kernel_rfl) (by kernel_rfl) (fun ds hd => ?_) ?_
  · rw [Try.params15] at hd
    match ds, hd with
    | [d0, d1], _ => exact ⟨rfl, rfl, rfl⟩
  · intro W base args ds ps hval hA hlt
    rw [Try.params15] at hA hval
    obtain ⟨v0, vs0, d0, ds0, p0, q0, hargs, rfl, rfl, h0, r0⟩ := trodAll_cons hA
    obtain ⟨v1, vs1, d1, ds1, p1, q1, rfl, rfl, rfl, h1, r1⟩ := trodAll_cons r0
    obtain ⟨rfl, rfl, rfl⟩ := trodAll_nil r1
    obtain rfl : args = #[v0, v1] := by cases args; simp_all
    obtain ⟨a0, s0, rfl⟩ := open_nm (A := N12) (by kernel_rfl) (by kernel_rfl) (by kernel_rfl) (hval 0 30 v0 rfl rfl) h0
    obtain ⟨a1, s1, rfl⟩ := open_nm (A := N12) (by kernel_rfl) (by kernel_rfl) (by kernel_rfl) (hval 1 30 v1 rfl rfl) h1
    exact fp12Products_gives a0 s0 a1 s1 W

theorem fp12Products_k0 : Rows.fp12ProductsRow.wf (OpenSpec.ofChange Rows.fp12ProductsSpec) = true := by kernel_rfl
theorem fp12Products_k1 : laidOutB Try.prog = true := by kernel_rfl
theorem fp12Products_k2 : mapsRowed Try.prog = true := by kernel_rfl
theorem fp12Products_k3 : Try.f15.params.all (Try.prog.readableRec ·) = true := by kernel_rfl
theorem fp12Products_k4 : namedTie Try.prog Rows.fp12ProductsRow.named Rows.fp12ProductsSpec.vars = true := by kernel_rfl
theorem fp12Products_k5 : (Rows.fp12ProductsRow.stops == []) = true := by kernel_rfl
theorem fp12Products_k6 : (Try.prog.stops == []) = true := by kernel_rfl
theorem fp12Products_k7 : (Rows.fp12ProductsRow.knobs == []) = true := by kernel_rfl
theorem fp12Products_k8 : (Try.prog.stopKnobs == []) = true := by kernel_rfl
theorem fp12Products_k9 : (Rows.fp12ProductsRow.inPlace == Try.prog.inPlace 15) = true := by kernel_rfl
theorem fp12Products_k10 : (Rows.fp12ProductsRow.unfollowed == Try.prog.unfollowed 15) = true := by kernel_rfl
theorem fp12Products_k11 : (Rows.fp12ProductsRow.recurses == Try.prog.recurses 15) = true := by kernel_rfl
theorem fp12Products_k12 : (Rows.fp12ProductsRow.named == Try.prog.varsNamed 15) = true := by kernel_rfl
theorem fp12Products_k13 : (Rows.fp12ProductsRow.maps == (Try.f15.params.toList ++ Rows.fp12ProductsSpec.plain.varTypes Try.prog).any (Try.prog.mapsRec ·)) = true := by kernel_rfl
theorem fp12Products_k14 : (Rows.fp12ProductsRow.ifaces == (Try.f15.params.toList ++ Rows.fp12ProductsSpec.plain.varTypes Try.prog).any (Try.prog.ifacesRec ·)) = true := by kernel_rfl
theorem fp12Products_k15 : (Rows.fp12ProductsRow.mapsOut == Try.prog.mapsAmong Try.f15.resultTypes.toList) = true := by kernel_rfl
theorem fp12Products_k16 : (Rows.fp12ProductsRow.loops == (Try.f15.params.toList ++ Rows.fp12ProductsSpec.plain.varTypes Try.prog).any (Try.prog.loopsFrom ·)) = true := by kernel_rfl
theorem fp12Products_k17 : (Rows.fp12ProductsRow.wideKeys == (Try.f15.params.toList ++ Rows.fp12ProductsSpec.plain.varTypes Try.prog ++ Try.f15.resultTypes.toList).any (Try.prog.wideKeysFrom ·)) = true := by kernel_rfl
theorem fp12Products_k18 : Rows.fp12ProductsSpec.vars.all (Try.prog.varReadable ·) = true := by kernel_rfl
theorem fp12Products_k19 : Try.f15.resultTypes.all (fun t => Try.prog.readableRec t && decide (t < Try.prog.types.size)) = true := by kernel_rfl
theorem fp12Products_k20 : (Rows.fp12ProductsRow.ifacesOut == Try.f15.resultTypes.toList.any (Try.prog.ifacesRec ·)) = true := by kernel_rfl
theorem fp12Products_k21 : (Rows.fp12ProductsRow.loopsOut == Try.f15.resultTypes.toList.any (Try.prog.loopsFrom ·)) = true := by kernel_rfl
theorem fp12Products_k22 : (Rows.fp12ProductsRow.plainKeys == Try.prog.plainKeys) = true := by kernel_rfl
theorem fp12Products_k23 : Rows.fp12ProductsRow.shortTexts.isNone = true := by kernel_rfl
theorem fp12Products_k24 : Try.prog.stopsHeard = true := by kernel_rfl
theorem fp12Products_k25 : Try.prog.mayEnter = true := sk25
theorem fp12Products_k26 : (Rows.fp12ProductsRow.lifted == Try.prog.liftsFinal) = true := (congrArg (· == Try.prog.liftsFinal) (show Rows.fp12ProductsRow.lifted = Rows.frobSquaresRow.lifted by kernel_rfl)).trans sk26
theorem fp12Products_k27 : (Try.prog.make == some Rows.fp12ProductsRow.make) = true := (congrArg (fun m => Try.prog.make == some m) (show Rows.fp12ProductsRow.make = Rows.frobSquaresRow.make by kernel_rfl)).trans sk27
theorem fp12Products_k28 : (Rows.fp12ProductsRow.kinds == (if Rows.fp12ProductsRow.domain.isEmpty then [] else Try.f15.params.toList.map fun t => match Try.prog.underlying t with | some (.int k) => some k | _ => none)) = true := by kernel_rfl
theorem fp12Products_k29 : (Rows.fp12ProductsRow.pinned == Rows.fp12ProductsRow.pinnedBy) = true := by kernel_rfl
theorem fp12Products_k30 : (Rows.fp12ProductsRow.veiled == (Try.f15.params.toList ++ Rows.fp12ProductsSpec.plain.varTypes Try.prog ++ Try.f15.resultTypes.toList).any (Try.prog.veiledRec ·)) = true := by kernel_rfl
theorem fp12Products_k31 : Rows.fp12ProductsRow.veiledFits Try.prog Try.f15.params.toList (Try.f15.params.toList ++ Rows.fp12ProductsSpec.plain.varTypes Try.prog ++ Try.f15.resultTypes.toList) = true := by kernel_rfl
set_option maxRecDepth 100000 in
theorem fp12Products_join : joinedFacts Try.prog 15 Try.f15 Rows.fp12ProductsSpec Rows.fp12ProductsRow = true := joined_mk fp12Products_k0 fp12Products_k1 fp12Products_k2 fp12Products_k3 fp12Products_k4 fp12Products_k5 fp12Products_k6 fp12Products_k7 fp12Products_k8 fp12Products_k9 fp12Products_k10 fp12Products_k11 fp12Products_k12 fp12Products_k13 fp12Products_k14 fp12Products_k15 fp12Products_k16 fp12Products_k17 fp12Products_k18 fp12Products_k19 fp12Products_k20 fp12Products_k21 fp12Products_k22 fp12Products_k23 fp12Products_k24 fp12Products_k25 fp12Products_k26 fp12Products_k27 fp12Products_k28 fp12Products_k29 fp12Products_k30 fp12Products_k31
theorem fp12Products_named : Try.prog.funcNamed Rows.fp12ProductsRow.func = some 15 := by kernel_rfl
theorem fp12Products_wrap : Try.f15.isWrapper Try.prog Rows.fp12ProductsRow.wrapper Rows.fp12ProductsRow.mainSum := by unfold Func.isWrapper; first | (rw [if_pos (by decide +kernel)]; kernel_rfl) | (rw [if_neg (by decide +kernel)]; exact ⟨rfl, rfl⟩)
theorem fp12Products_over : Rows.fp12ProductsRow.holds Try.pinned (OpenSpec.ofChange Rows.fp12ProductsSpec) :=
  OpenClaim.holds_of_wide 15 Try.f15 rfl rfl rfl rfl rfl rfl rfl ⟨rfl, rfl, rfl, rfl, rfl⟩ rfl rfl rfl rfl rfl fp12Products_named Try.func15 fp12Products_join
    (of_decide_eq_true (by kernel_rfl)) fp12Products_wrap
    (fun os started H enc _ => fp12Products_lifted os started H enc)

/-- The statement. -/
theorem fp12Products_holds : Rows.Fp12ProductsSaid := fp12Products_over
#print axioms fp12Products_holds
end Go.Proofs.Ytkbbocpahnlkkaa
