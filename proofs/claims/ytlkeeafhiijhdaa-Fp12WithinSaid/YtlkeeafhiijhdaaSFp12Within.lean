/-
  Fp12Within: for every input the call returns true, and each argument reads behind it as before. No condition.
-/
import Derived.Test.YtlkeeafhiijhdaaRows
import Derived.Test.YtlkeeafhiijhdaaSay
import Derived.Test.YtlkeeafhiijhdaaJoin
import Derived.Test.YtlkeeafhiijhdaaLa10
import Derived.ProofKit
import Derived.OpenShut
namespace Go.Proofs.Ytlkeeafhiijhdaa
open Go Go.Eng Go.RowKit Go.ChangeShapes Go.WideShapes Go.ChangeAt
set_option linter.unusedVariables false

set_option maxRecDepth 100000 in
theorem fp12Within_lifted (os : Os) (started : os.Started) (H : Type) (enc : TypeId × Value → H) :
    ReturnsInHanded {} Try.checked os 10 .any (Rows.fp12WithinSpec.pre6 enc Try.prog Try.f10 Rows.fp12WithinRow.domain false) (Rows.fp12WithinSpec.post enc Try.prog Try.f10 false true false false) := by
  refine lifted_any (C := Try.checked) say_own started (by kernel_rfl) Try.func10
    (ChangeSpec.witness6 (enc := enc) (C := Try.checked) false ⟨#[], #[.agg (Array.replicate 36 (.int .u64 0)), .agg (Array.replicate 36 (.int .u64 0))], []⟩ 8 (by kernel_rfl) (by kernel_rfl) (by kernel_rfl) (by kernel_rfl))
    say_laid (by kernel_rfl) rfl (tb := 4) (by kernel_rfl) (by kernel_rfl) (fun ds hd => ?_) ?_
  · rw [Try.params10] at hd
    match ds, hd with
    | [d0, d1], _ => exact ⟨rfl, rfl, rfl⟩
  · intro W base args ds ps hval hA hlt
    rw [Try.params10] at hA hval
    obtain ⟨v0, vs0, d0, ds0, p0, q0, hargs, rfl, rfl, h0, r0⟩ := trodAll_cons hA
    obtain ⟨v1, vs1, d1, ds1, p1, q1, rfl, rfl, rfl, h1, r1⟩ := trodAll_cons r0
    obtain ⟨rfl, rfl, rfl⟩ := trodAll_nil r1
    obtain rfl : args = #[v0, v1] := by cases args; simp_all
    obtain ⟨a0, s0, rfl⟩ := open_nm (A := N6) (by kernel_rfl) (by kernel_rfl) (by kernel_rfl) (hval 0 28 v0 rfl rfl) h0
    obtain ⟨a1, s1, rfl⟩ := open_nm (A := N6) (by kernel_rfl) (by kernel_rfl) (by kernel_rfl) (hval 1 28 v1 rfl rfl) h1
    exact fp12Within_gives a0 s0 a1 s1 W

theorem fp12Within_k0 : Rows.fp12WithinRow.wf (OpenSpec.ofChange Rows.fp12WithinSpec) = true := by kernel_rfl
theorem fp12Within_k1 : laidOutB Try.prog = true := by kernel_rfl
theorem fp12Within_k2 : mapsRowed Try.prog = true := by kernel_rfl
theorem fp12Within_k3 : Try.f10.params.all (Try.prog.readableRec ·) = true := by kernel_rfl
theorem fp12Within_k4 : namedTie Try.prog Rows.fp12WithinRow.named Rows.fp12WithinSpec.vars = true := by kernel_rfl
theorem fp12Within_k5 : (Rows.fp12WithinRow.stops == []) = true := by kernel_rfl
theorem fp12Within_k6 : (Try.prog.stops == []) = true := by kernel_rfl
theorem fp12Within_k7 : (Rows.fp12WithinRow.knobs == []) = true := by kernel_rfl
theorem fp12Within_k8 : (Try.prog.stopKnobs == []) = true := by kernel_rfl
theorem fp12Within_k9 : (Rows.fp12WithinRow.inPlace == Try.prog.inPlace 10) = true := by kernel_rfl
theorem fp12Within_k10 : (Rows.fp12WithinRow.unfollowed == Try.prog.unfollowed 10) = true := by kernel_rfl
theorem fp12Within_k11 : (Rows.fp12WithinRow.recurses == Try.prog.recurses 10) = true := by kernel_rfl
theorem fp12Within_k12 : (Rows.fp12WithinRow.named == Try.prog.varsNamed 10) = true := by kernel_rfl
theorem fp12Within_k13 : (Rows.fp12WithinRow.maps == (Try.f10.params.toList ++ Rows.fp12WithinSpec.plain.varTypes Try.prog).any (Try.prog.mapsRec ·)) = true := by kernel_rfl
theorem fp12Within_k14 : (Rows.fp12WithinRow.ifaces == (Try.f10.params.toList ++ Rows.fp12WithinSpec.plain.varTypes Try.prog).any (Try.prog.ifacesRec ·)) = true := by kernel_rfl
theorem fp12Within_k15 : (Rows.fp12WithinRow.mapsOut == Try.prog.mapsAmong Try.f10.resultTypes.toList) = true := by kernel_rfl
theorem fp12Within_k16 : (Rows.fp12WithinRow.loops == (Try.f10.params.toList ++ Rows.fp12WithinSpec.plain.varTypes Try.prog).any (Try.prog.loopsFrom ·)) = true := by kernel_rfl
theorem fp12Within_k17 : (Rows.fp12WithinRow.wideKeys == (Try.f10.params.toList ++ Rows.fp12WithinSpec.plain.varTypes Try.prog ++ Try.f10.resultTypes.toList).any (Try.prog.wideKeysFrom ·)) = true := by kernel_rfl
theorem fp12Within_k18 : Rows.fp12WithinSpec.vars.all (Try.prog.varReadable ·) = true := by kernel_rfl
theorem fp12Within_k19 : Try.f10.resultTypes.all (fun t => Try.prog.readableRec t && decide (t < Try.prog.types.size)) = true := by kernel_rfl
theorem fp12Within_k20 : (Rows.fp12WithinRow.ifacesOut == Try.f10.resultTypes.toList.any (Try.prog.ifacesRec ·)) = true := by kernel_rfl
theorem fp12Within_k21 : (Rows.fp12WithinRow.loopsOut == Try.f10.resultTypes.toList.any (Try.prog.loopsFrom ·)) = true := by kernel_rfl
theorem fp12Within_k22 : (Rows.fp12WithinRow.plainKeys == Try.prog.plainKeys) = true := by kernel_rfl
theorem fp12Within_k23 : Rows.fp12WithinRow.shortTexts.isNone = true := by kernel_rfl
theorem fp12Within_k24 : Try.prog.stopsHeard = true := by kernel_rfl
theorem fp12Within_k25 : Try.prog.mayEnter = true := by kernel_rfl
theorem fp12Within_k26 : (Rows.fp12WithinRow.lifted == Try.prog.liftsFinal) = true := by kernel_rfl
theorem fp12Within_k27 : (Try.prog.make == some Rows.fp12WithinRow.make) = true := by kernel_rfl
theorem fp12Within_k28 : (Rows.fp12WithinRow.kinds == (if Rows.fp12WithinRow.domain.isEmpty then [] else Try.f10.params.toList.map fun t => match Try.prog.underlying t with | some (.int k) => some k | _ => none)) = true := by kernel_rfl
theorem fp12Within_k29 : (Rows.fp12WithinRow.pinned == Rows.fp12WithinRow.pinnedBy) = true := by kernel_rfl
theorem fp12Within_k30 : (Rows.fp12WithinRow.veiled == (Try.f10.params.toList ++ Rows.fp12WithinSpec.plain.varTypes Try.prog ++ Try.f10.resultTypes.toList).any (Try.prog.veiledRec ·)) = true := by kernel_rfl
theorem fp12Within_k31 : Rows.fp12WithinRow.veiledFits Try.prog Try.f10.params.toList (Try.f10.params.toList ++ Rows.fp12WithinSpec.plain.varTypes Try.prog ++ Try.f10.resultTypes.toList) = true := by kernel_rfl
theorem fp12Within_join : joinedFacts Try.prog 10 Try.f10 Rows.fp12WithinSpec Rows.fp12WithinRow = true := joined_mk fp12Within_k0 fp12Within_k1 fp12Within_k2 fp12Within_k3 fp12Within_k4 fp12Within_k5 fp12Within_k6 fp12Within_k7 fp12Within_k8 fp12Within_k9 fp12Within_k10 fp12Within_k11 fp12Within_k12 fp12Within_k13 fp12Within_k14 fp12Within_k15 fp12Within_k16 fp12Within_k17 fp12Within_k18 fp12Within_k19 fp12Within_k20 fp12Within_k21 fp12Within_k22 fp12Within_k23 fp12Within_k24 fp12Within_k25 fp12Within_k26 fp12Within_k27 fp12Within_k28 fp12Within_k29 fp12Within_k30 fp12Within_k31
theorem fp12Within_named : Try.prog.funcNamed Rows.fp12WithinRow.func = some 10 := by kernel_rfl
theorem fp12Within_wrap : Try.f10.isWrapper Try.prog Rows.fp12WithinRow.wrapper Rows.fp12WithinRow.mainSum := by unfold Func.isWrapper; first | (rw [if_pos (by decide +kernel)]; kernel_rfl) | (rw [if_neg (by decide +kernel)]; exact ⟨rfl, rfl⟩)
theorem fp12Within_over : Rows.fp12WithinRow.holds Try.pinned (OpenSpec.ofChange Rows.fp12WithinSpec) :=
  OpenClaim.holds_of_wide 10 Try.f10 rfl rfl rfl rfl rfl rfl rfl ⟨rfl, rfl, rfl, rfl, rfl⟩ rfl rfl rfl rfl rfl fp12Within_named Try.func10 fp12Within_join
    (of_decide_eq_true (by kernel_rfl)) fp12Within_wrap
    (fun os started H enc _ => fp12Within_lifted os started H enc)

/-- The statement. -/
theorem fp12Within_holds : Rows.Fp12WithinSaid := fp12Within_over
#print axioms fp12Within_holds
end Go.Proofs.Ytlkeeafhiijhdaa
