/-
  Fp2Parts: for every input the call returns true, and each argument reads behind it as before. No condition.
-/
import Derived.Test.YtkpihidjolfkoaaRows
import Derived.Test.YtkpihidjolfkoaaSay
import Derived.Test.YtkpihidjolfkoaaJoin
import Derived.Test.YtkpihidjolfkoaaLa7
import Derived.ProofKit
import Derived.OpenShut
namespace Go.Proofs.Ytkpihidjolfkoaa
open Go Go.Eng Go.RowKit Go.ChangeShapes Go.WideShapes Go.ChangeAt
set_option linter.unusedVariables false

set_option maxRecDepth 100000 in
theorem fp2Parts_lifted (os : Os) (started : os.Started) (H : Type) (enc : TypeId × Value → H) :
    ReturnsInHanded {} Try.checked os 7 .any (Rows.fp2PartsSpec.pre6 enc Try.prog Try.f7 Rows.fp2PartsRow.domain false) (Rows.fp2PartsSpec.post enc Try.prog Try.f7 false true false false) := by
  refine lifted_any (C := Try.checked) say_own started (by kernel_rfl) Try.func7
    (ChangeSpec.witness6 (enc := enc) (C := Try.checked) false ⟨#[], #[.agg (Array.replicate 12 (.int .u64 0)), .agg (Array.replicate 6 (.int .u64 0))], []⟩ 8 (by kernel_rfl) (by kernel_rfl) (by kernel_rfl) (by kernel_rfl))
    say_laid (by kernel_rfl) rfl (tb := 4) (by kernel_rfl) (by kernel_rfl) (fun ds hd => ?_) ?_
  · rw [Try.params7] at hd
    match ds, hd with
    | [d0, d1], _ => exact ⟨rfl, rfl, rfl⟩
  · intro W base args ds ps hval hA hlt
    rw [Try.params7] at hA hval
    obtain ⟨v0, vs0, d0, ds0, p0, q0, hargs, rfl, rfl, h0, r0⟩ := trodAll_cons hA
    obtain ⟨v1, vs1, d1, ds1, p1, q1, rfl, rfl, rfl, h1, r1⟩ := trodAll_cons r0
    obtain ⟨rfl, rfl, rfl⟩ := trodAll_nil r1
    obtain rfl : args = #[v0, v1] := by cases args; simp_all
    obtain ⟨a0, s0, rfl⟩ := open_nm (A := N2) (by kernel_rfl) (by kernel_rfl) (by kernel_rfl) (hval 0 26 v0 rfl rfl) h0
    obtain ⟨a1, s1, rfl⟩ := open_nm (A := Nat) (by kernel_rfl) (by kernel_rfl) (by kernel_rfl) (hval 1 24 v1 rfl rfl) h1
    exact fp2Parts_gives a0 s0 a1 s1 W

theorem fp2Parts_k0 : Rows.fp2PartsRow.wf (OpenSpec.ofChange Rows.fp2PartsSpec) = true := by kernel_rfl
theorem fp2Parts_k1 : laidOutB Try.prog = true := by kernel_rfl
theorem fp2Parts_k2 : mapsRowed Try.prog = true := by kernel_rfl
theorem fp2Parts_k3 : Try.f7.params.all (Try.prog.readableRec ·) = true := by kernel_rfl
theorem fp2Parts_k4 : namedTie Try.prog Rows.fp2PartsRow.named Rows.fp2PartsSpec.vars = true := by kernel_rfl
theorem fp2Parts_k5 : (Rows.fp2PartsRow.stops == []) = true := by kernel_rfl
theorem fp2Parts_k6 : (Try.prog.stops == []) = true := by kernel_rfl
theorem fp2Parts_k7 : (Rows.fp2PartsRow.knobs == []) = true := by kernel_rfl
theorem fp2Parts_k8 : (Try.prog.stopKnobs == []) = true := by kernel_rfl
theorem fp2Parts_k9 : (Rows.fp2PartsRow.inPlace == Try.prog.inPlace 7) = true := by kernel_rfl
theorem fp2Parts_k10 : (Rows.fp2PartsRow.unfollowed == Try.prog.unfollowed 7) = true := by kernel_rfl
theorem fp2Parts_k11 : (Rows.fp2PartsRow.recurses == Try.prog.recurses 7) = true := by kernel_rfl
theorem fp2Parts_k12 : (Rows.fp2PartsRow.named == Try.prog.varsNamed 7) = true := by kernel_rfl
theorem fp2Parts_k13 : (Rows.fp2PartsRow.maps == (Try.f7.params.toList ++ Rows.fp2PartsSpec.plain.varTypes Try.prog).any (Try.prog.mapsRec ·)) = true := by kernel_rfl
theorem fp2Parts_k14 : (Rows.fp2PartsRow.ifaces == (Try.f7.params.toList ++ Rows.fp2PartsSpec.plain.varTypes Try.prog).any (Try.prog.ifacesRec ·)) = true := by kernel_rfl
theorem fp2Parts_k15 : (Rows.fp2PartsRow.mapsOut == Try.prog.mapsAmong Try.f7.resultTypes.toList) = true := by kernel_rfl
theorem fp2Parts_k16 : (Rows.fp2PartsRow.loops == (Try.f7.params.toList ++ Rows.fp2PartsSpec.plain.varTypes Try.prog).any (Try.prog.loopsFrom ·)) = true := by kernel_rfl
theorem fp2Parts_k17 : (Rows.fp2PartsRow.wideKeys == (Try.f7.params.toList ++ Rows.fp2PartsSpec.plain.varTypes Try.prog ++ Try.f7.resultTypes.toList).any (Try.prog.wideKeysFrom ·)) = true := by kernel_rfl
theorem fp2Parts_k18 : Rows.fp2PartsSpec.vars.all (Try.prog.varReadable ·) = true := by kernel_rfl
theorem fp2Parts_k19 : Try.f7.resultTypes.all (fun t => Try.prog.readableRec t && decide (t < Try.prog.types.size)) = true := by kernel_rfl
theorem fp2Parts_k20 : (Rows.fp2PartsRow.ifacesOut == Try.f7.resultTypes.toList.any (Try.prog.ifacesRec ·)) = true := by kernel_rfl
theorem fp2Parts_k21 : (Rows.fp2PartsRow.loopsOut == Try.f7.resultTypes.toList.any (Try.prog.loopsFrom ·)) = true := by kernel_rfl
theorem fp2Parts_k22 : (Rows.fp2PartsRow.plainKeys == Try.prog.plainKeys) = true := by kernel_rfl
theorem fp2Parts_k23 : Rows.fp2PartsRow.shortTexts.isNone = true := by kernel_rfl
theorem fp2Parts_k24 : Try.prog.stopsHeard = true := by kernel_rfl
theorem fp2Parts_k25 : Try.prog.mayEnter = true := by kernel_rfl
theorem fp2Parts_k26 : (Rows.fp2PartsRow.lifted == Try.prog.liftsFinal) = true := by kernel_rfl
theorem fp2Parts_k27 : (Try.prog.make == some Rows.fp2PartsRow.make) = true := by kernel_rfl
theorem fp2Parts_k28 : (Rows.fp2PartsRow.kinds == (if Rows.fp2PartsRow.domain.isEmpty then [] else Try.f7.params.toList.map fun t => match Try.prog.underlying t with | some (.int k) => some k | _ => none)) = true := by kernel_rfl
theorem fp2Parts_k29 : (Rows.fp2PartsRow.pinned == Rows.fp2PartsRow.pinnedBy) = true := by kernel_rfl
theorem fp2Parts_k30 : (Rows.fp2PartsRow.veiled == (Try.f7.params.toList ++ Rows.fp2PartsSpec.plain.varTypes Try.prog ++ Try.f7.resultTypes.toList).any (Try.prog.veiledRec ·)) = true := by kernel_rfl
theorem fp2Parts_k31 : Rows.fp2PartsRow.veiledFits Try.prog Try.f7.params.toList (Try.f7.params.toList ++ Rows.fp2PartsSpec.plain.varTypes Try.prog ++ Try.f7.resultTypes.toList) = true := by kernel_rfl
theorem fp2Parts_join : joinedFacts Try.prog 7 Try.f7 Rows.fp2PartsSpec Rows.fp2PartsRow = true := joined_mk fp2Parts_k0 fp2Parts_k1 fp2Parts_k2 fp2Parts_k3 fp2Parts_k4 fp2Parts_k5 fp2Parts_k6 fp2Parts_k7 fp2Parts_k8 fp2Parts_k9 fp2Parts_k10 fp2Parts_k11 fp2Parts_k12 fp2Parts_k13 fp2Parts_k14 fp2Parts_k15 fp2Parts_k16 fp2Parts_k17 fp2Parts_k18 fp2Parts_k19 fp2Parts_k20 fp2Parts_k21 fp2Parts_k22 fp2Parts_k23 fp2Parts_k24 fp2Parts_k25 fp2Parts_k26 fp2Parts_k27 fp2Parts_k28 fp2Parts_k29 fp2Parts_k30 fp2Parts_k31
theorem fp2Parts_named : Try.prog.funcNamed Rows.fp2PartsRow.func = some 7 := by kernel_rfl
theorem fp2Parts_wrap : Try.f7.isWrapper Try.prog Rows.fp2PartsRow.wrapper Rows.fp2PartsRow.mainSum := by unfold Func.isWrapper; first | (rw [if_pos (by decide +kernel)]; kernel_rfl) | (rw [if_neg (by decide +kernel)]; exact ⟨rfl, rfl⟩)
theorem fp2Parts_over : Rows.fp2PartsRow.holds Try.pinned (OpenSpec.ofChange Rows.fp2PartsSpec) :=
  OpenClaim.holds_of_wide 7 Try.f7 rfl rfl rfl rfl rfl rfl rfl ⟨rfl, rfl, rfl, rfl, rfl⟩ rfl rfl rfl rfl rfl fp2Parts_named Try.func7 fp2Parts_join
    (of_decide_eq_true (by kernel_rfl)) fp2Parts_wrap
    (fun os started H enc _ => fp2Parts_lifted os started H enc)

/-- The statement. -/
theorem fp2Parts_holds : Rows.Fp2PartsSaid := fp2Parts_over
#print axioms fp2Parts_holds
end Go.Proofs.Ytkpihidjolfkoaa
