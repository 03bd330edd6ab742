/-
  Fp2Products: for every input the call returns true, and each argument reads behind it as before. No condition.
-/
import Derived.Test.YtkpihidjolfkoaaRows
import Derived.Test.YtkpihidjolfkoaaSay
import Derived.Test.YtkpihidjolfkoaaJoin
import Derived.Test.YtkpihidjolfkoaaRj
import Derived.ProofKit
import Derived.OpenShut
namespace Go.Proofs.Ytkpihidjolfkoaa
open Go Go.Eng Go.RowKit Go.ChangeShapes Go.WideShapes Go.ChangeAt
set_option linter.unusedVariables false

set_option maxRecDepth 100000 in
theorem fp2Products_lifted (os : Os) (started : os.Started) (H : Type) (enc : TypeId × Value → H) :
    ReturnsInHanded {} Try.checked os 13 .any (Rows.fp2ProductsSpec.pre6 enc Try.prog Try.f13 Rows.fp2ProductsRow.domain false) (Rows.fp2ProductsSpec.post enc Try.prog Try.f13 false true false false) := by
  refine lifted_any (C := Try.checked) say_own started (by kernel_rfl) Try.func13
    (ChangeSpec.witness6 (enc := enc) (C := Try.checked) false ⟨#[], #[.agg (Array.replicate 12 (.int .u64 0)), .agg (Array.replicate 12 (.int .u64 0))], []⟩ 8 (by kernel_rfl) (by kernel_rfl) (by kernel_rfl) (by kernel_rfl))
    say_laid (by kernel_rfl) rfl (tb := 4) (by kernel_rfl) (by kernel_rfl) (fun ds hd => ?_) ?_
  · rw [Try.params13] at hd
    match ds, hd with
    | [d0, d1], _ => exact ⟨rfl, rfl, rfl⟩
  · intro W base args ds ps hval hA hlt
    rw [Try.params13] at hA hval
    obtain ⟨v0, vs0, d0, ds0, p0, q0, hargs, rfl, rfl, h0, r0⟩ := trodAll_cons hA
    obtain ⟨v1, vs1, d1, ds1, p1, q1, rfl, rfl, rfl, h1, r1⟩ := trodAll_cons r0
    obtain ⟨rfl, rfl, rfl⟩ := trodAll_nil r1
    obtain rfl : args = #[v0, v1] := by cases args; simp_all
    obtain ⟨a0, s0, rfl⟩ := open_nm (A := N2) (by kernel_rfl) (by kernel_rfl) (by kernel_rfl) (hval 0 26 v0 rfl rfl) h0
    obtain ⟨a1, s1, rfl⟩ := open_nm (A := N2) (by kernel_rfl) (by kernel_rfl) (by kernel_rfl) (hval 1 26 v1 rfl rfl) h1
    exact fp2Products_gives a0 s0 a1 s1 W

theorem fp2Products_k0 : Rows.fp2ProductsRow.wf (OpenSpec.ofChange Rows.fp2ProductsSpec) = true := by kernel_rfl
theorem fp2Products_k1 : laidOutB Try.prog = true := by kernel_rfl
theorem fp2Products_k2 : mapsRowed Try.prog = true := by kernel_rfl
theorem fp2Products_k3 : Try.f13.params.all (Try.prog.readableRec ·) = true := by kernel_rfl
theorem fp2Products_k4 : namedTie Try.prog Rows.fp2ProductsRow.named Rows.fp2ProductsSpec.vars = true := by kernel_rfl
theorem fp2Products_k5 : (Rows.fp2ProductsRow.stops == []) = true := by kernel_rfl
theorem fp2Products_k6 : (Try.prog.stops == []) = true := by kernel_rfl
theorem fp2Products_k7 : (Rows.fp2ProductsRow.knobs == []) = true := by kernel_rfl
theorem fp2Products_k8 : (Try.prog.stopKnobs == []) = true := by kernel_rfl
theorem fp2Products_k9 : (Rows.fp2ProductsRow.inPlace == Try.prog.inPlace 13) = true := by kernel_rfl
theorem fp2Products_k10 : (Rows.fp2ProductsRow.unfollowed == Try.prog.unfollowed 13) = true := by kernel_rfl
theorem fp2Products_k11 : (Rows.fp2ProductsRow.recurses == Try.prog.recurses 13) = true := by kernel_rfl
theorem fp2Products_k12 : (Rows.fp2ProductsRow.named == Try.prog.varsNamed 13) = true := by kernel_rfl
theorem fp2Products_k13 : (Rows.fp2ProductsRow.maps == (Try.f13.params.toList ++ Rows.fp2ProductsSpec.plain.varTypes Try.prog).any (Try.prog.mapsRec ·)) = true := by kernel_rfl
theorem fp2Products_k14 : (Rows.fp2ProductsRow.ifaces == (Try.f13.params.toList ++ Rows.fp2ProductsSpec.plain.varTypes Try.prog).any (Try.prog.ifacesRec ·)) = true := by kernel_rfl
theorem fp2Products_k15 : (Rows.fp2ProductsRow.mapsOut == Try.prog.mapsAmong Try.f13.resultTypes.toList) = true := by kernel_rfl
theorem fp2Products_k16 : (Rows.fp2ProductsRow.loops == (Try.f13.params.toList ++ Rows.fp2ProductsSpec.plain.varTypes Try.prog).any (Try.prog.loopsFrom ·)) = true := by kernel_rfl
theorem fp2Products_k17 : (Rows.fp2ProductsRow.wideKeys == (Try.f13.params.toList ++ Rows.fp2ProductsSpec.plain.varTypes Try.prog ++ Try.f13.resultTypes.toList).any (Try.prog.wideKeysFrom ·)) = true := by kernel_rfl
theorem fp2Products_k18 : Rows.fp2ProductsSpec.vars.all (Try.prog.varReadable ·) = true := by kernel_rfl
theorem fp2Products_k19 : Try.f13.resultTypes.all (fun t => Try.prog.readableRec t && decide (t < Try.prog.types.size)) = true := by kernel_rfl
theorem fp2Products_k20 : (Rows.fp2ProductsRow.ifacesOut == Try.f13.resultTypes.toList.any (Try.prog.ifacesRec ·)) = true := by kernel_rfl
theorem fp2Products_k21 : (Rows.fp2ProductsRow.loopsOut == Try.f13.resultTypes.toList.any (Try.prog.loopsFrom ·)) = true := by kernel_rfl
theorem fp2Products_k22 : (Rows.fp2ProductsRow.plainKeys == Try.prog.plainKeys) = true := by kernel_rfl
theorem fp2Products_k23 : Rows.fp2ProductsRow.shortTexts.isNone = true := by kernel_rfl
theorem fp2Products_k24 : Try.prog.stopsHeard = true := by kernel_rfl
theorem fp2Products_k25 : Try.prog.mayEnter = true := by kernel_rfl
theorem fp2Products_k26 : (Rows.fp2ProductsRow.lifted == Try.prog.liftsFinal) = true := by kernel_rfl
theorem fp2Products_k27 : (Try.prog.make == some Rows.fp2ProductsRow.make) = true := by kernel_rfl
theorem fp2Products_k28 : (Rows.fp2ProductsRow.kinds == (if Rows.fp2ProductsRow.domain.isEmpty then [] else Try.f13.params.toList.map fun t => match Try.prog.underlying t with | some (.int k) => some k | _ => none)) = true := by kernel_rfl
theorem fp2Products_k29 : (Rows.fp2ProductsRow.pinned == Rows.fp2ProductsRow.pinnedBy) = true := by kernel_rfl
theorem fp2Products_k30 : (Rows.fp2ProductsRow.veiled == (Try.f13.params.toList ++ Rows.fp2ProductsSpec.plain.varTypes Try.prog ++ Try.f13.resultTypes.toList).any (Try.prog.veiledRec ·)) = true := by kernel_rfl
theorem fp2Products_k31 : Rows.fp2ProductsRow.veiledFits Try.prog Try.f13.params.toList (Try.f13.params.toList ++ Rows.fp2ProductsSpec.plain.varTypes Try.prog ++ Try.f13.resultTypes.toList) = true := by kernel_rfl
theorem fp2Products_join : joinedFacts Try.prog 13 Try.f13 Rows.fp2ProductsSpec Rows.fp2ProductsRow = true := joined_mk fp2Products_k0 fp2Products_k1 fp2Products_k2 fp2Products_k3 fp2Products_k4 fp2Products_k5 fp2Products_k6 fp2Products_k7 fp2Products_k8 fp2Products_k9 fp2Products_k10 fp2Products_k11 fp2Products_k12 fp2Products_k13 fp2Products_k14 fp2Products_k15 fp2Products_k16 fp2Products_k17 fp2Products_k18 fp2Products_k19 fp2Products_k20 fp2Products_k21 fp2Products_k22 fp2Products_k23 fp2Products_k24 fp2Products_k25 fp2Products_k26 fp2Products_k27 fp2Products_k28 fp2Products_k29 fp2Products_k30 fp2Products_k31
theorem fp2Products_named : Try.prog.funcNamed Rows.fp2ProductsRow.func = some 13 := by kernel_rfl
theorem fp2Products_wrap : Try.f13.isWrapper Try.prog Rows.fp2ProductsRow.wrapper Rows.fp2ProductsRow.mainSum := by unfold Func.isWrapper; first | (rw [if_pos (by decide +kernel)]; kernel_rfl) | (rw [if_neg (by decide +kernel)]; exact ⟨rfl, rfl⟩)
theorem fp2Products_over : Rows.fp2ProductsRow.holds Try.pinned (OpenSpec.ofChange Rows.fp2ProductsSpec) :=
  OpenClaim.holds_of_wide 13 Try.f13 rfl rfl rfl rfl rfl rfl rfl ⟨rfl, rfl, rfl, rfl, rfl⟩ rfl rfl rfl rfl rfl fp2Products_named Try.func13 fp2Products_join
    (of_decide_eq_true (by kernel_rfl)) fp2Products_wrap
    (fun os started H enc _ => fp2Products_lifted os started H enc)

/-- The statement. -/
theorem fp2Products_holds : Rows.Fp2ProductsSaid := fp2Products_over
#print axioms fp2Products_holds
end Go.Proofs.Ytkpihidjolfkoaa
