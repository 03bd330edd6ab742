/-
  G2Brackets: for every input the call returns true, and each argument reads behind it as before. No condition.
-/
import Derived.Test.YthceokldlinjlaaRows
import Derived.Test.YthceokldlinjlaaSay
import Derived.Test.YthceokldlinjlaaJoin
import Derived.Test.YthceokldlinjlaaK
import Derived.Test.YthceokldlinjlaaLaA13
import Derived.ProofKit
import Derived.OpenShut
namespace Go.Proofs.Ythceokldlinjlaa
open Go Go.Eng Go.RowKit Go.ChangeShapes Go.WideShapes Go.ChangeAt
set_option linter.unusedVariables false

set_option maxRecDepth 100000 in
theorem g2Brackets_lifted (os : Os) (started : os.Started) (H : Type) (enc : TypeId × Value → H) :
    ReturnsInHanded {} Try.checked os 4 .any (Rows.g2BracketsSpec.pre6 enc Try.prog Try.f4 Rows.g2BracketsRow.domain false) (Rows.g2BracketsSpec.post enc Try.prog Try.f4 false true false false) := by
  refine lifted_any (C := Try.checked) say_own started (by kernel_rfl) Try.func4
    (ChangeSpec.witness6 (enc := enc) (C := Try.checked) false ⟨#[], #[.int .u64 0, .int .u64 0, .int .u64 0], []⟩ 8 (by kernel_rfl) (by kernel_rfl) (by kernel_rfl) (by kernel_rfl))
    say_laid (by kernel_rfl) rfl (tb := 4) (by kernel_rfl) (by kernel_rfl) (fun ds hd => ?_) ?_
  · rw [Try.params4] at hd
    match ds, hd with
    | [d0, d1, d2], _ => exact ⟨rfl, rfl, rfl⟩
  · intro W base args ds ps hval hA hlt
    rw [Try.params4] at hA hval
    obtain ⟨v0, vs0, d0, ds0, p0, q0, hargs, rfl, rfl, h0, r0⟩ := trodAll_cons hA
    obtain ⟨v1, vs1, d1, ds1, p1, q1, rfl, rfl, rfl, h1, r1⟩ := trodAll_cons r0
    obtain ⟨v2, vs2, d2, ds2, p2, q2, rfl, rfl, rfl, h2, r2⟩ := trodAll_cons r1
    obtain ⟨rfl, rfl, rfl⟩ := trodAll_nil r2
    obtain rfl : args = #[v0, v1, v2] := by cases args; simp_all
    obtain ⟨a0, rfl, rfl, rfl, s0⟩ := open_int (k := .u64) (by kernel_rfl) (hval 0 22 v0 rfl rfl) h0
    obtain ⟨a1, rfl, rfl, rfl, s1⟩ := open_int (k := .u64) (by kernel_rfl) (hval 1 22 v1 rfl rfl) h1
    obtain ⟨a2, rfl, rfl, rfl, s2⟩ := open_int (k := .u64) (by kernel_rfl) (hval 2 22 v2 rfl rfl) h2
    exact g2Brackets_gives a0 (wf_u64 s0) a1 (wf_u64 s1) a2 (wf_u64 s2) W

theorem g2Brackets_k0 : Rows.g2BracketsRow.wf (OpenSpec.ofChange Rows.g2BracketsSpec) = true := by kernel_rfl
theorem g2Brackets_k1 : laidOutB Try.prog = true := by kernel_rfl
theorem g2Brackets_k2 : mapsRowed Try.prog = true := by kernel_rfl
theorem g2Brackets_k3 : Try.f4.params.all (Try.prog.readableRec ·) = true := by kernel_rfl
theorem g2Brackets_k4 : namedTie Try.prog Rows.g2BracketsRow.named Rows.g2BracketsSpec.vars = true := by kernel_rfl
theorem g2Brackets_k5 : (Rows.g2BracketsRow.stops == []) = true := by kernel_rfl
theorem g2Brackets_k6 : (Try.prog.stops == []) = true := by kernel_rfl
theorem g2Brackets_k7 : (Rows.g2BracketsRow.knobs == []) = true := by kernel_rfl
theorem g2Brackets_k8 : (Try.prog.stopKnobs == []) = true := by kernel_rfl
theorem g2Brackets_k9 : (Rows.g2BracketsRow.inPlace == Try.prog.inPlace 4) = true := by kernel_rfl
theorem g2Brackets_k10 : (Rows.g2BracketsRow.unfollowed == Try.prog.unfollowed 4) = true := by kernel_rfl
theorem g2Brackets_k11 : (Rows.g2BracketsRow.recurses == Try.prog.recurses 4) = true := by kernel_rfl
theorem g2Brackets_k12 : (Rows.g2BracketsRow.named == Try.prog.varsNamed 4) = true := by kernel_rfl
theorem g2Brackets_k13 : (Rows.g2BracketsRow.maps == (Try.f4.params.toList ++ Rows.g2BracketsSpec.plain.varTypes Try.prog).any (Try.prog.mapsRec ·)) = true := by kernel_rfl
theorem g2Brackets_k14 : (Rows.g2BracketsRow.ifaces == (Try.f4.params.toList ++ Rows.g2BracketsSpec.plain.varTypes Try.prog).any (Try.prog.ifacesRec ·)) = true := by kernel_rfl
theorem g2Brackets_k15 : (Rows.g2BracketsRow.mapsOut == Try.prog.mapsAmong Try.f4.resultTypes.toList) = true := by kernel_rfl
theorem g2Brackets_k16 : (Rows.g2BracketsRow.loops == (Try.f4.params.toList ++ Rows.g2BracketsSpec.plain.varTypes Try.prog).any (Try.prog.loopsFrom ·)) = true := by kernel_rfl
theorem g2Brackets_k17 : (Rows.g2BracketsRow.wideKeys == (Try.f4.params.toList ++ Rows.g2BracketsSpec.plain.varTypes Try.prog ++ Try.f4.resultTypes.toList).any (Try.prog.wideKeysFrom ·)) = true := by kernel_rfl
theorem g2Brackets_k18 : Rows.g2BracketsSpec.vars.all (Try.prog.varReadable ·) = true := by kernel_rfl
theorem g2Brackets_k19 : Try.f4.resultTypes.all (fun t => Try.prog.readableRec t && decide (t < Try.prog.types.size)) = true := by kernel_rfl
theorem g2Brackets_k20 : (Rows.g2BracketsRow.ifacesOut == Try.f4.resultTypes.toList.any (Try.prog.ifacesRec ·)) = true := by kernel_rfl
theorem g2Brackets_k21 : (Rows.g2BracketsRow.loopsOut == Try.f4.resultTypes.toList.any (Try.prog.loopsFrom ·)) = true := by kernel_rfl
theorem g2Brackets_k22 : (Rows.g2BracketsRow.plainKeys == Try.prog.plainKeys) = true := by kernel_rfl
theorem g2Brackets_k23 : Rows.g2BracketsRow.shortTexts.isNone = true := by kernel_rfl
theorem g2Brackets_k24 : Try.prog.stopsHeard = true := by kernel_rfl
theorem g2Brackets_k25 : Try.prog.mayEnter = true := sk25
theorem g2Brackets_k26 : (Rows.g2BracketsRow.lifted == Try.prog.liftsFinal) = true := (congrArg (· == Try.prog.liftsFinal) (show Rows.g2BracketsRow.lifted = Rows.subOrdersRow.lifted by kernel_rfl)).trans sk26
theorem g2Brackets_k27 : (Try.prog.make == some Rows.g2BracketsRow.make) = true := (congrArg (fun m => Try.prog.make == some m) (show Rows.g2BracketsRow.make = Rows.subOrdersRow.make by kernel_rfl)).trans sk27
theorem g2Brackets_k28 : (Rows.g2BracketsRow.kinds == (if Rows.g2BracketsRow.domain.isEmpty then [] else Try.f4.params.toList.map fun t => match Try.prog.underlying t with | some (.int k) => some k | _ => none)) = true := by kernel_rfl
theorem g2Brackets_k29 : (Rows.g2BracketsRow.pinned == Rows.g2BracketsRow.pinnedBy) = true := by kernel_rfl
theorem g2Brackets_k30 : (Rows.g2BracketsRow.veiled == (Try.f4.params.toList ++ Rows.g2BracketsSpec.plain.varTypes Try.prog ++ Try.f4.resultTypes.toList).any (Try.prog.veiledRec ·)) = true := by kernel_rfl
theorem g2Brackets_k31 : Rows.g2BracketsRow.veiledFits Try.prog Try.f4.params.toList (Try.f4.params.toList ++ Rows.g2BracketsSpec.plain.varTypes Try.prog ++ Try.f4.resultTypes.toList) = true := by kernel_rfl
set_option maxRecDepth 100000 in
theorem g2Brackets_join : joinedFacts Try.prog 4 Try.f4 Rows.g2BracketsSpec Rows.g2BracketsRow = true := joined_mk g2Brackets_k0 g2Brackets_k1 g2Brackets_k2 g2Brackets_k3 g2Brackets_k4 g2Brackets_k5 g2Brackets_k6 g2Brackets_k7 g2Brackets_k8 g2Brackets_k9 g2Brackets_k10 g2Brackets_k11 g2Brackets_k12 g2Brackets_k13 g2Brackets_k14 g2Brackets_k15 g2Brackets_k16 g2Brackets_k17 g2Brackets_k18 g2Brackets_k19 g2Brackets_k20 g2Brackets_k21 g2Brackets_k22 g2Brackets_k23 g2Brackets_k24 g2Brackets_k25 g2Brackets_k26 g2Brackets_k27 g2Brackets_k28 g2Brackets_k29 g2Brackets_k30 g2Brackets_k31
theorem g2Brackets_named : Try.prog.funcNamed Rows.g2BracketsRow.func = some 4 := by kernel_rfl
theorem g2Brackets_wrap : Try.f4.isWrapper Try.prog Rows.g2BracketsRow.wrapper Rows.g2BracketsRow.mainSum := by unfold Func.isWrapper; first | (rw [if_pos (by decide +kernel)]; kernel_rfl) | (rw [if_neg (by decide +kernel)]; exact ⟨rfl, rfl⟩)
theorem g2Brackets_over : Rows.g2BracketsRow.holds Try.pinned (OpenSpec.ofChange Rows.g2BracketsSpec) :=
  OpenClaim.holds_of_wide 4 Try.f4 rfl rfl rfl rfl rfl rfl rfl ⟨rfl, rfl, rfl, rfl, rfl⟩ rfl rfl rfl rfl rfl g2Brackets_named Try.func4 g2Brackets_join
    (of_decide_eq_true (by kernel_rfl)) g2Brackets_wrap
    (fun os started H enc _ => g2Brackets_lifted os started H enc)

/-- The statement. -/
theorem g2Brackets_holds : Rows.G2BracketsSaid := g2Brackets_over
#print axioms g2Brackets_holds
end Go.Proofs.Ythceokldlinjlaa
