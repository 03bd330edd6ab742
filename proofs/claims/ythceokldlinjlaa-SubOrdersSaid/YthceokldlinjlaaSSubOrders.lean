/-
  SubOrders: for every input the call returns true, and each argument reads behind it as before. No condition.
-/
import Derived.Test.YthceokldlinjlaaRows
import Derived.Test.YthceokldlinjlaaSay
import Derived.Test.YthceokldlinjlaaJoin
import Derived.Test.YthceokldlinjlaaK
import Derived.Test.YthceokldlinjlaaLaO14
import Derived.ProofKit
import Derived.OpenShut
namespace Go.Proofs.Ythceokldlinjlaa
open Go Go.Eng Go.RowKit Go.ChangeShapes Go.WideShapes Go.ChangeAt
set_option linter.unusedVariables false

set_option maxRecDepth 100000 in
theorem subOrders_lifted (os : Os) (started : os.Started) (H : Type) (enc : TypeId × Value → H) :
    ReturnsInHanded {} Try.checked os 6 .any (Rows.subOrdersSpec.pre6 enc Try.prog Try.f6 Rows.subOrdersRow.domain false) (Rows.subOrdersSpec.post enc Try.prog Try.f6 false true false false) := by
  refine lifted_any (C := Try.checked) say_own started (by kernel_rfl) Try.func6
    (ChangeSpec.witness6 (enc := enc) (C := Try.checked) false ⟨#[], #[.agg ((Array.replicate 12 (.int .u64 0)).push (.bool false)), .agg ((Array.replicate 24 (.int .u64 0)).push (.bool false))], []⟩ 8 (by kernel_rfl) (by kernel_rfl) (by kernel_rfl) (by kernel_rfl))
    say_laid (by kernel_rfl) rfl (tb := 4) (by kernel_rfl) (by kernel_rfl) (fun ds hd => ?_) ?_
  · rw [Try.params6] at hd
    match ds, hd with
    | [d0, d1], _ => exact ⟨rfl, rfl, rfl⟩
  · intro W base args ds ps hval hA hlt
    rw [Try.params6] at hA hval
    obtain ⟨v0, vs0, d0, ds0, p0, q0, hargs, rfl, rfl, h0, r0⟩ := trodAll_cons hA
    obtain ⟨v1, vs1, d1, ds1, p1, q1, rfl, rfl, rfl, h1, r1⟩ := trodAll_cons r0
    obtain ⟨rfl, rfl, rfl⟩ := trodAll_nil r1
    obtain rfl : args = #[v0, v1] := by cases args; simp_all
    obtain ⟨a0, s0, rfl⟩ := open_pt (A := A1) (by kernel_rfl) (by kernel_rfl) (by kernel_rfl) (hval 0 52 v0 rfl rfl) h0
    obtain ⟨a1, s1, rfl⟩ := open_pt (A := A2) (by kernel_rfl) (by kernel_rfl) (by kernel_rfl) (hval 1 41 v1 rfl rfl) h1
    exact subOrders_gives a0 s0 a1 s1 W

theorem subOrders_k0 : Rows.subOrdersRow.wf (OpenSpec.ofChange Rows.subOrdersSpec) = true := by kernel_rfl
theorem subOrders_k1 : laidOutB Try.prog = true := by kernel_rfl
theorem subOrders_k2 : mapsRowed Try.prog = true := by kernel_rfl
theorem subOrders_k3 : Try.f6.params.all (Try.prog.readableRec ·) = true := by kernel_rfl
theorem subOrders_k4 : namedTie Try.prog Rows.subOrdersRow.named Rows.subOrdersSpec.vars = true := by kernel_rfl
theorem subOrders_k5 : (Rows.subOrdersRow.stops == []) = true := by kernel_rfl
theorem subOrders_k6 : (Try.prog.stops == []) = true := by kernel_rfl
theorem subOrders_k7 : (Rows.subOrdersRow.knobs == []) = true := by kernel_rfl
theorem subOrders_k8 : (Try.prog.stopKnobs == []) = true := by kernel_rfl
theorem subOrders_k9 : (Rows.subOrdersRow.inPlace == Try.prog.inPlace 6) = true := by kernel_rfl
theorem subOrders_k10 : (Rows.subOrdersRow.unfollowed == Try.prog.unfollowed 6) = true := by kernel_rfl
theorem subOrders_k11 : (Rows.subOrdersRow.recurses == Try.prog.recurses 6) = true := by kernel_rfl
theorem subOrders_k12 : (Rows.subOrdersRow.named == Try.prog.varsNamed 6) = true := by kernel_rfl
theorem subOrders_k13 : (Rows.subOrdersRow.maps == (Try.f6.params.toList ++ Rows.subOrdersSpec.plain.varTypes Try.prog).any (Try.prog.mapsRec ·)) = true := by kernel_rfl
theorem subOrders_k14 : (Rows.subOrdersRow.ifaces == (Try.f6.params.toList ++ Rows.subOrdersSpec.plain.varTypes Try.prog).any (Try.prog.ifacesRec ·)) = true := by kernel_rfl
theorem subOrders_k15 : (Rows.subOrdersRow.mapsOut == Try.prog.mapsAmong Try.f6.resultTypes.toList) = true := by kernel_rfl
theorem subOrders_k16 : (Rows.subOrdersRow.loops == (Try.f6.params.toList ++ Rows.subOrdersSpec.plain.varTypes Try.prog).any (Try.prog.loopsFrom ·)) = true := by kernel_rfl
theorem subOrders_k17 : (Rows.subOrdersRow.wideKeys == (Try.f6.params.toList ++ Rows.subOrdersSpec.plain.varTypes Try.prog ++ Try.f6.resultTypes.toList).any (Try.prog.wideKeysFrom ·)) = true := by kernel_rfl
theorem subOrders_k18 : Rows.subOrdersSpec.vars.all (Try.prog.varReadable ·) = true := by kernel_rfl
theorem subOrders_k19 : Try.f6.resultTypes.all (fun t => Try.prog.readableRec t && decide (t < Try.prog.types.size)) = true := by kernel_rfl
theorem subOrders_k20 : (Rows.subOrdersRow.ifacesOut == Try.f6.resultTypes.toList.any (Try.prog.ifacesRec ·)) = true := by kernel_rfl
theorem subOrders_k21 : (Rows.subOrdersRow.loopsOut == Try.f6.resultTypes.toList.any (Try.prog.loopsFrom ·)) = true := by kernel_rfl
theorem subOrders_k22 : (Rows.subOrdersRow.plainKeys == Try.prog.plainKeys) = true := by kernel_rfl
theorem subOrders_k23 : Rows.subOrdersRow.shortTexts.isNone = true := by kernel_rfl
theorem subOrders_k24 : Try.prog.stopsHeard = true := by kernel_rfl
theorem subOrders_k25 : Try.prog.mayEnter = true := sk25
theorem subOrders_k26 : (Rows.subOrdersRow.lifted == Try.prog.liftsFinal) = true := (congrArg (· == Try.prog.liftsFinal) (show Rows.subOrdersRow.lifted = Rows.subOrdersRow.lifted by kernel_rfl)).trans sk26
theorem subOrders_k27 : (Try.prog.make == some Rows.subOrdersRow.make) = true := (congrArg (fun m => Try.prog.make == some m) (show Rows.subOrdersRow.make = Rows.subOrdersRow.make by kernel_rfl)).trans sk27
theorem subOrders_k28 : (Rows.subOrdersRow.kinds == (if Rows.subOrdersRow.domain.isEmpty then [] else Try.f6.params.toList.map fun t => match Try.prog.underlying t with | some (.int k) => some k | _ => none)) = true := by kernel_rfl
theorem subOrders_k29 : (Rows.subOrdersRow.pinned == Rows.subOrdersRow.pinnedBy) = true := by kernel_rfl
theorem subOrders_k30 : (Rows.subOrdersRow.veiled == (Try.f6.params.toList ++ Rows.subOrdersSpec.plain.varTypes Try.prog ++ Try.f6.resultTypes.toList).any (Try.prog.veiledRec ·)) = true := by kernel_rfl
theorem subOrders_k31 : Rows.subOrdersRow.veiledFits Try.prog Try.f6.params.toList (Try.f6.params.toList ++ Rows.subOrdersSpec.plain.varTypes Try.prog ++ Try.f6.resultTypes.toList) = true := by kernel_rfl
set_option maxRecDepth 100000 in
theorem subOrders_join : joinedFacts Try.prog 6 Try.f6 Rows.subOrdersSpec Rows.subOrdersRow = true := joined_mk subOrders_k0 subOrders_k1 subOrders_k2 subOrders_k3 subOrders_k4 subOrders_k5 subOrders_k6 subOrders_k7 subOrders_k8 subOrders_k9 subOrders_k10 subOrders_k11 subOrders_k12 subOrders_k13 subOrders_k14 subOrders_k15 subOrders_k16 subOrders_k17 subOrders_k18 subOrders_k19 subOrders_k20 subOrders_k21 subOrders_k22 subOrders_k23 subOrders_k24 subOrders_k25 subOrders_k26 subOrders_k27 subOrders_k28 subOrders_k29 subOrders_k30 subOrders_k31
theorem subOrders_named : Try.prog.funcNamed Rows.subOrdersRow.func = some 6 := by kernel_rfl
theorem subOrders_wrap : Try.f6.isWrapper Try.prog Rows.subOrdersRow.wrapper Rows.subOrdersRow.mainSum := by unfold Func.isWrapper; first | (rw [if_pos (by decide +kernel)]; kernel_rfl) | (rw [if_neg (by decide +kernel)]; exact ⟨rfl, rfl⟩)
theorem subOrders_over : Rows.subOrdersRow.holds Try.pinned (OpenSpec.ofChange Rows.subOrdersSpec) :=
  OpenClaim.holds_of_wide 6 Try.f6 rfl rfl rfl rfl rfl rfl rfl ⟨rfl, rfl, rfl, rfl, rfl⟩ rfl rfl rfl rfl rfl subOrders_named Try.func6 subOrders_join
    (of_decide_eq_true (by kernel_rfl)) subOrders_wrap
    (fun os started H enc _ => subOrders_lifted os started H enc)

/-- The statement. -/
theorem subOrders_holds : Rows.SubOrdersSaid := subOrders_over
#print axioms subOrders_holds
end Go.Proofs.Ythceokldlinjlaa
