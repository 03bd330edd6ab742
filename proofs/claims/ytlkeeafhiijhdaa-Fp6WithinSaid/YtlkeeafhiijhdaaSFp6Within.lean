/-
  Fp6Within: for every input the call returns true, and each argument reads behind it as before. No condition.
-/
import Derived.Test.YtlkeeafhiijhdaaRows
import Derived.Test.YtlkeeafhiijhdaaSay
import Derived.Test.YtlkeeafhiijhdaaJoin
import Derived.Test.YtlkeeafhiijhdaaLa9
import Derived.ProofKit
import Derived.OpenShut
namespace Go.Proofs.Ytlkeeafhiijhdaa
open Go Go.Eng Go.RowKit Go.ChangeShapes Go.WideShapes Go.ChangeAt
set_option linter.unusedVariables false

set_option maxRecDepth 100000 in
theorem fp6Within_lifted (os : Os) (started : os.Started) (H : Type) (enc : TypeId × Value → H) :
    ReturnsInHanded {} Try.checked os 7 .any (Rows.fp6WithinSpec.pre6 enc Try.prog Try.f7 Rows.fp6WithinRow.domain false) (Rows.fp6WithinSpec.post enc Try.prog Try.f7 false true false false) := by
  refine lifted_any (C := Try.checked) say_own started (by kernel_rfl) Try.func7
    (ChangeSpec.witness6 (enc := enc) (C := Try.checked) false ⟨#[], #[.agg (Array.replicate 12 (.int .u64 0)), .agg (Array.replicate 12 (.int .u64 0))], []⟩ 8 (by kernel_rfl) (by kernel_rfl) (by kernel_rfl) (by kernel_rfl))
    say_laid (by kernel_rfl) rfl (tb := 4) (by kernel_rfl) (by kernel_rfl) (fun ds hd => ?_) ?_
  · rw [Try.params7] at hd
    match ds, hd with
    | [d0, d1], _ => exact ⟨rfl, rfl, rfl⟩
  · intro W base args ds ps hval hA hlt
    rw [Try.params7] at hA hval
    obtain ⟨v0, vs0, d0, ds0, p0, q0, hargs, rfl, rfl, h0, r0⟩ := trodAll_cons hA
    obtain ⟨v1, vs1, d1, ds1, p1, q1, rfl, rfl, rfl, h1, r1⟩ := trodAll_cons r0
    obtain ⟨rfl, rfl, rfl⟩ := trodAll_nil r1
    obtain rfl : args = #[v0, v1] := by cases args; simp_all
    obtain ⟨a0, s0, rfl⟩ := open_nm (A := N2) (by kernel_rfl) (by kernel_rfl) (by kernel_rfl) (hval 0 26 v0 rfl rfl) h0
    obtain ⟨a1, s1, rfl⟩ := open_nm (A := N2) (by kernel_rfl) (by kernel_rfl) (by kernel_rfl) (hval 1 26 v1 rfl rfl) h1
    exact fp6Within_gives a0 s0 a1 s1 W

theorem fp6Within_k0 : Rows.fp6WithinRow.wf (OpenSpec.ofChange Rows.fp6WithinSpec) = true := by kernel_rfl
theorem fp6Within_k1 : laidOutB Try.prog = true := by kernel_rfl
theorem fp6Within_k2 : mapsRowed Try.prog = true := by kernel_rfl
theorem fp6Within_k3 : Try.f7.params.all (Try.prog.readableRec ·) = true := by kernel_rfl
theorem fp6Within_k4 : namedTie Try.prog Rows.fp6WithinRow.named Rows.fp6WithinSpec.vars = true := by kernel_rfl
theorem fp6Within_k5 : (Rows.fp6WithinRow.stops == []) = true := by kernel_rfl
theorem fp6Within_k6 : (Try.prog.stops == []) = true := by kernel_rfl
theorem fp6Within_k7 : (Rows.fp6WithinRow.knobs == []) = true := by kernel_rfl
theorem fp6Within_k8 : (Try.prog.stopKnobs == []) = true := by kernel_rfl
theorem fp6Within_k9 : (Rows.fp6WithinRow.inPlace == Try.prog.inPlace 7) = true := by kernel_rfl
theorem fp6Within_k10 : (Rows.fp6WithinRow.unfollowed == Try.prog.unfollowed 7) = true := by kernel_rfl
theorem fp6Within_k11 : (Rows.fp6WithinRow.recurses == Try.prog.recurses 7) = true := by kernel_rfl
theorem fp6Within_k12 : (Rows.fp6WithinRow.named == Try.prog.varsNamed 7) = true := by kernel_rfl
theorem fp6Within_k13 : (Rows.fp6WithinRow.maps == (Try.f7.params.toList ++ Rows.fp6WithinSpec.plain.varTypes Try.prog).any (Try.prog.mapsRec ·)) = true := by kernel_rfl
theorem fp6Within_k14 : (Rows.fp6WithinRow.ifaces == (Try.f7.params.toList ++ Rows.fp6WithinSpec.plain.varTypes Try.prog).any (Try.prog.ifacesRec ·)) = true := by kernel_rfl
theorem fp6Within_k15 : (Rows.fp6WithinRow.mapsOut == Try.prog.mapsAmong Try.f7.resultTypes.toList) = true := by kernel_rfl
theorem fp6Within_k16 : (Rows.fp6WithinRow.loops == (Try.f7.params.toList ++ Rows.fp6WithinSpec.plain.varTypes Try.prog).any (Try.prog.loopsFrom ·)) = true := by kernel_rfl
theorem fp6Within_k17 : (Rows.fp6WithinRow.wideKeys == (Try.f7.params.toList ++ Rows.fp6WithinSpec.plain.varTypes Try.prog ++ Try.f7.resultTypes.toList).any (Try.prog.wideKeysFrom ·)) = true := by kernel_rfl
theorem fp6Within_k18 : Rows.fp6WithinSpec.vars.all (Try.prog.varReadable ·) = true := by kernel_rfl
theorem fp6Within_k19 : Try.f7.resultTypes.all (fun t => Try.prog.readableRec t && decide (t < Try.prog.types.size)) = true := by kernel_rfl
theorem fp6Within_k20 : (Rows.fp6WithinRow.ifacesOut == Try.f7.resultTypes.toList.any (Try.prog.ifacesRec ·)) = true := by kernel_rfl
theorem fp6Within_k21 : (Rows.fp6WithinRow.loopsOut == Try.f7.resultTypes.toList.any (Try.prog.loopsFrom ·)) = true := by kernel_rfl
theorem fp6Within_k22 : (Rows.fp6WithinRow.plainKeys == Try.prog.plainKeys) = true := by kernel_rfl
theorem fp6Within_k23 : Rows.fp6WithinRow.shortTexts.isNone = true := by kernel_rfl
theorem fp6Within_k24 : Try.prog.stopsHeard = true := by kernel_rfl
theorem fp6Within_k25 : Try.prog.mayEnter = true := by kernel_rfl
theorem fp6Within_k26 : (Rows.fp6WithinRow.lifted == Try.prog.liftsFinal) = true := by kernel_rfl
theorem fp6Within_k27 : (Try.prog.make == some Rows.fp6WithinRow.make) = true := by kernel_rfl
theorem fp6Within_k28 : (Rows.fp6WithinRow.kinds == (if Rows.fp6WithinRow.domain.isEmpty then [] else Try.f7.params.toList.map fun t => match Try.prog.underlying t with | some (.int k) => some k | _ => none)) = true := by kernel_rfl
theorem fp6Within_k29 : (Rows.fp6WithinRow.pinned == Rows.fp6WithinRow.pinnedBy) = true := by kernel_rfl
theorem fp6Within_k30 : (Rows.fp6WithinRow.veiled == (Try.f7.params.toList ++ Rows.fp6WithinSpec.plain.varTypes Try.prog ++ Try.f7.resultTypes.toList).any (Try.prog.veiledRec ·)) = true := by kernel_rfl
theorem fp6Within_k31 : Rows.fp6WithinRow.veiledFits Try.prog Try.f7.params.toList (Try.f7.params.toList ++ Rows.fp6WithinSpec.plain.varTypes Try.prog ++ Try.f7.resultTypes.toList) = true := by kernel_rfl
theorem fp6Within_join : joinedFacts Try.prog 7 Try.f7 Rows.fp6WithinSpec Rows.fp6WithinRow = true := joined_mk fp6Within_k0 fp6Within_k1 fp6Within_k2 fp6Within_k3 fp6Within_k4 fp6Within_k5 fp6Within_k6 fp6Within_k7 fp6Within_k8 fp6Within_k9 fp6Within_k10 fp6Within_k11 fp6Within_k12 fp6Within_k13 fp6Within_k14 fp6Within_k15 fp6Within_k16 fp6Within_k17 fp6Within_k18 fp6Within_k19 fp6Within_k20 fp6Within_k21 fp6Within_k22 fp6Within_k23 fp6Within_k24 fp6Within_k25 fp6Within_k26 fp6Within_k27 fp6Within_k28 fp6Within_k29 fp6Within_k30 fp6Within_k31
theorem fp6Within_named : Try.prog.funcNamed Rows.fp6WithinRow.func = some 7 := by kernel_rfl
theorem fp6Within_wrap : Try.f7.isWrapper Try.prog Rows.fp6WithinRow.wrapper Rows.fp6WithinRow.mainSum := by unfold Func.isWrapper; first | (rw [if_pos (by decide +kernel)]; kernel_rfl) | (rw [if_neg (by decide +kernel)]; exact ⟨rfl, rfl⟩)
theorem fp6Within_over : Rows.fp6WithinRow.holds Try.pinned (OpenSpec.ofChange Rows.fp6WithinSpec) :=
  OpenClaim.holds_of_wide 7 Try.f7 rfl rfl rfl rfl rfl rfl rfl ⟨rfl, rfl, rfl, rfl, rfl⟩ rfl rfl rfl rfl rfl fp6Within_named Try.func7 fp6Within_join
    (of_decide_eq_true (by kernel_rfl)) fp6Within_wrap
    (fun os started H enc _ => fp6Within_lifted os started H enc)

/-- The statement. -/
theorem fp6Within_holds : Rows.Fp6WithinSaid := fp6Within_over
#print axioms fp6Within_holds
end Go.Proofs.Ytlkeeafhiijhdaa
