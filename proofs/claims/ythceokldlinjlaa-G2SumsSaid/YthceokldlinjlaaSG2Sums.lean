/-
  G2Sums: for every input the call returns true, and each argument reads behind it as before. No condition.
-/
import Derived.Test.YthceokldlinjlaaRows
import Derived.Test.YthceokldlinjlaaSay
import Derived.Test.YthceokldlinjlaaJoin
import Derived.Test.YthceokldlinjlaaK
import Derived.Test.YthceokldlinjlaaLaW13
import Derived.ProofKit
import Derived.OpenShut
namespace Go.Proofs.Ythceokldlinjlaa
open Go Go.Eng Go.RowKit Go.ChangeShapes Go.WideShapes Go.ChangeAt
set_option linter.unusedVariables false

set_option maxRecDepth 100000 in
theorem g2Sums_lifted (os : Os) (started : os.Started) (H : Type) (enc : TypeId × Value → H) :
    ReturnsInHanded {} Try.checked os 7 .any (Rows.g2SumsSpec.pre6 enc Try.prog Try.f7 Rows.g2SumsRow.domain false) (Rows.g2SumsSpec.post enc Try.prog Try.f7 false true false false) := by
  refine lifted_any (C := Try.checked) say_own started (by kernel_rfl) Try.func7
    (ChangeSpec.witness6 (enc := enc) (C := Try.checked) false ⟨#[], #[.slice none 0 0, .slice none 0 0], []⟩ 8 (by kernel_rfl) (by kernel_rfl) (by kernel_rfl) (by kernel_rfl))
    say_laid (by kernel_rfl) rfl (tb := 4) (by kernel_rfl) (by kernel_rfl) (fun ds hd => ?_) ?_
  · rw [Try.params7] at hd
    match ds, hd with
    | [d0, d1], _ => exact ⟨rfl, rfl, rfl⟩
  · intro W base args ds ps hval hA hlt
    rw [Try.params7] at hA hval
    obtain ⟨v0, vs0, d0, ds0, p0, q0, hargs, rfl, rfl, h0, r0⟩ := trodAll_cons hA
    obtain ⟨v1, vs1, d1, ds1, p1, q1, rfl, rfl, rfl, h1, r1⟩ := trodAll_cons r0
    obtain ⟨rfl, rfl, rfl⟩ := trodAll_nil r1
    obtain rfl : args = #[v0, v1] := by cases args; simp_all
    exact g2Sums_gives v0 W (open_slices (e := 32) (e2 := 22) (by kernel_rfl) (by kernel_rfl) (by kernel_rfl) (by kernel_rfl) (by kernel_rfl) (hval 0 58 v0 rfl rfl) h0) v1 (open_pts (A := A2) (e := 41) (by kernel_rfl) (by kernel_rfl) (by kernel_rfl) (hval 1 59 v1 rfl rfl) h1)

theorem g2Sums_k0 : Rows.g2SumsRow.wf (OpenSpec.ofChange Rows.g2SumsSpec) = true := by kernel_rfl
theorem g2Sums_k1 : laidOutB Try.prog = true := by kernel_rfl
theorem g2Sums_k2 : mapsRowed Try.prog = true := by kernel_rfl
theorem g2Sums_k3 : Try.f7.params.all (Try.prog.readableRec ·) = true := by kernel_rfl
theorem g2Sums_k4 : namedTie Try.prog Rows.g2SumsRow.named Rows.g2SumsSpec.vars = true := by kernel_rfl
theorem g2Sums_k5 : (Rows.g2SumsRow.stops == []) = true := by kernel_rfl
theorem g2Sums_k6 : (Try.prog.stops == []) = true := by kernel_rfl
theorem g2Sums_k7 : (Rows.g2SumsRow.knobs == []) = true := by kernel_rfl
theorem g2Sums_k8 : (Try.prog.stopKnobs == []) = true := by kernel_rfl
theorem g2Sums_k9 : (Rows.g2SumsRow.inPlace == Try.prog.inPlace 7) = true := by kernel_rfl
theorem g2Sums_k10 : (Rows.g2SumsRow.unfollowed == Try.prog.unfollowed 7) = true := by kernel_rfl
theorem g2Sums_k11 : (Rows.g2SumsRow.recurses == Try.prog.recurses 7) = true := by kernel_rfl
theorem g2Sums_k12 : (Rows.g2SumsRow.named == Try.prog.varsNamed 7) = true := by kernel_rfl
theorem g2Sums_k13 : (Rows.g2SumsRow.maps == (Try.f7.params.toList ++ Rows.g2SumsSpec.plain.varTypes Try.prog).any (Try.prog.mapsRec ·)) = true := by kernel_rfl
theorem g2Sums_k14 : (Rows.g2SumsRow.ifaces == (Try.f7.params.toList ++ Rows.g2SumsSpec.plain.varTypes Try.prog).any (Try.prog.ifacesRec ·)) = true := by kernel_rfl
theorem g2Sums_k15 : (Rows.g2SumsRow.mapsOut == Try.prog.mapsAmong Try.f7.resultTypes.toList) = true := by kernel_rfl
theorem g2Sums_k16 : (Rows.g2SumsRow.loops == (Try.f7.params.toList ++ Rows.g2SumsSpec.plain.varTypes Try.prog).any (Try.prog.loopsFrom ·)) = true := by kernel_rfl
theorem g2Sums_k17 : (Rows.g2SumsRow.wideKeys == (Try.f7.params.toList ++ Rows.g2SumsSpec.plain.varTypes Try.prog ++ Try.f7.resultTypes.toList).any (Try.prog.wideKeysFrom ·)) = true := by kernel_rfl
theorem g2Sums_k18 : Rows.g2SumsSpec.vars.all (Try.prog.varReadable ·) = true := by kernel_rfl
theorem g2Sums_k19 : Try.f7.resultTypes.all (fun t => Try.prog.readableRec t && decide (t < Try.prog.types.size)) = true := by kernel_rfl
theorem g2Sums_k20 : (Rows.g2SumsRow.ifacesOut == Try.f7.resultTypes.toList.any (Try.prog.ifacesRec ·)) = true := by kernel_rfl
theorem g2Sums_k21 : (Rows.g2SumsRow.loopsOut == Try.f7.resultTypes.toList.any (Try.prog.loopsFrom ·)) = true := by kernel_rfl
theorem g2Sums_k22 : (Rows.g2SumsRow.plainKeys == Try.prog.plainKeys) = true := by kernel_rfl
theorem g2Sums_k23 : Rows.g2SumsRow.shortTexts.isNone = true := by kernel_rfl
theorem g2Sums_k24 : Try.prog.stopsHeard = true := by kernel_rfl
theorem g2Sums_k25 : Try.prog.mayEnter = true := sk25
theorem g2Sums_k26 : (Rows.g2SumsRow.lifted == Try.prog.liftsFinal) = true := (congrArg (· == Try.prog.liftsFinal) (show Rows.g2SumsRow.lifted = Rows.subOrdersRow.lifted by kernel_rfl)).trans sk26
theorem g2Sums_k27 : (Try.prog.make == some Rows.g2SumsRow.make) = true := (congrArg (fun m => Try.prog.make == some m) (show Rows.g2SumsRow.make = Rows.subOrdersRow.make by kernel_rfl)).trans sk27
theorem g2Sums_k28 : (Rows.g2SumsRow.kinds == (if Rows.g2SumsRow.domain.isEmpty then [] else Try.f7.params.toList.map fun t => match Try.prog.underlying t with | some (.int k) => some k | _ => none)) = true := by kernel_rfl
theorem g2Sums_k29 : (Rows.g2SumsRow.pinned == Rows.g2SumsRow.pinnedBy) = true := by kernel_rfl
theorem g2Sums_k30 : (Rows.g2SumsRow.veiled == (Try.f7.params.toList ++ Rows.g2SumsSpec.plain.varTypes Try.prog ++ Try.f7.resultTypes.toList).any (Try.prog.veiledRec ·)) = true := by kernel_rfl
theorem g2Sums_k31 : Rows.g2SumsRow.veiledFits Try.prog Try.f7.params.toList (Try.f7.params.toList ++ Rows.g2SumsSpec.plain.varTypes Try.prog ++ Try.f7.resultTypes.toList) = true := by kernel_rfl
set_option maxRecDepth 100000 in
theorem g2Sums_join : joinedFacts Try.prog 7 Try.f7 Rows.g2SumsSpec Rows.g2SumsRow = true := joined_mk g2Sums_k0 g2Sums_k1 g2Sums_k2 g2Sums_k3 g2Sums_k4 g2Sums_k5 g2Sums_k6 g2Sums_k7 g2Sums_k8 g2Sums_k9 g2Sums_k10 g2Sums_k11 g2Sums_k12 g2Sums_k13 g2Sums_k14 g2Sums_k15 g2Sums_k16 g2Sums_k17 g2Sums_k18 g2Sums_k19 g2Sums_k20 g2Sums_k21 g2Sums_k22 g2Sums_k23 g2Sums_k24 g2Sums_k25 g2Sums_k26 g2Sums_k27 g2Sums_k28 g2Sums_k29 g2Sums_k30 g2Sums_k31
theorem g2Sums_named : Try.prog.funcNamed Rows.g2SumsRow.func = some 7 := by kernel_rfl
theorem g2Sums_wrap : Try.f7.isWrapper Try.prog Rows.g2SumsRow.wrapper Rows.g2SumsRow.mainSum := by unfold Func.isWrapper; first | (rw [if_pos (by decide +kernel)]; kernel_rfl) | (rw [if_neg (by decide +kernel)]; exact ⟨rfl, rfl⟩)
theorem g2Sums_over : Rows.g2SumsRow.holds Try.pinned (OpenSpec.ofChange Rows.g2SumsSpec) :=
  OpenClaim.holds_of_wide 7 Try.f7 rfl rfl rfl rfl rfl rfl rfl ⟨rfl, rfl, rfl, rfl, rfl⟩ rfl rfl rfl rfl rfl g2Sums_named Try.func7 g2Sums_join
    (of_decide_eq_true (by kernel_rfl)) g2Sums_wrap
    (fun os started H enc _ => g2Sums_lifted os started H enc)

/-- The statement. -/
theorem g2Sums_holds : Rows.G2SumsSaid := g2Sums_over
#print axioms g2Sums_holds
end Go.Proofs.Ythceokldlinjlaa
