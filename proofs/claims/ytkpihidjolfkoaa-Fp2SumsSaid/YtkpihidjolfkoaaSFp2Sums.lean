/-
  Fp2Sums: for every input the call returns true, and each argument reads behind it as before. No condition.
-/
import Derived.Test.YtkpihidjolfkoaaRows
import Derived.Test.YtkpihidjolfkoaaSay
import Derived.Test.YtkpihidjolfkoaaJoin
import Derived.Test.YtkpihidjolfkoaaLaR7
import Derived.ProofKit
import Derived.OpenShut
namespace Go.Proofs.Ytkpihidjolfkoaa
open Go Go.Eng Go.RowKit Go.ChangeShapes Go.WideShapes Go.ChangeAt
set_option linter.unusedVariables false

set_option maxRecDepth 100000 in
theorem fp2Sums_lifted (os : Os) (started : os.Started) (H : Type) (enc : TypeId × Value → H) :
    ReturnsInHanded {} Try.checked os 14 .any (Rows.fp2SumsSpec.pre6 enc Try.prog Try.f14 Rows.fp2SumsRow.domain false) (Rows.fp2SumsSpec.post enc Try.prog Try.f14 false true false false) := by
  refine lifted_any (C := Try.checked) say_own started (by kernel_rfl) Try.func14
    (ChangeSpec.witness6 (enc := enc) (C := Try.checked) false ⟨#[], #[.agg (Array.replicate 12 (.int .u64 0)), .agg (Array.replicate 12 (.int .u64 0)), .agg (Array.replicate 6 (.int .u64 0))], []⟩ 8 (by kernel_rfl) (by kernel_rfl) (by kernel_rfl) (by kernel_rfl))
    say_laid (by kernel_rfl) rfl (tb := 4) (by kernel_rfl) (by kernel_rfl) (fun ds hd => ?_) ?_
  · rw [Try.params14] at hd
    match ds, hd with
    | [d0, d1, d2], _ => exact ⟨rfl, rfl, rfl⟩
  · intro W base args ds ps hval hA hlt
    rw [Try.params14] at hA hval
    obtain ⟨v0, vs0, d0, ds0, p0, q0, hargs, rfl, rfl, h0, r0⟩ := trodAll_cons hA
    obtain ⟨v1, vs1, d1, ds1, p1, q1, rfl, rfl, rfl, h1, r1⟩ := trodAll_cons r0
    obtain ⟨v2, vs2, d2, ds2, p2, q2, rfl, rfl, rfl, h2, r2⟩ := trodAll_cons r1
    obtain ⟨rfl, rfl, rfl⟩ := trodAll_nil r2
    obtain rfl : args = #[v0, v1, v2] := by cases args; simp_all
    obtain ⟨a0, s0, rfl⟩ := open_nm (A := N2) (by kernel_rfl) (by kernel_rfl) (by kernel_rfl) (hval 0 26 v0 rfl rfl) h0
    obtain ⟨a1, s1, rfl⟩ := open_nm (A := N2) (by kernel_rfl) (by kernel_rfl) (by kernel_rfl) (hval 1 26 v1 rfl rfl) h1
    obtain ⟨a2, s2, rfl⟩ := open_nm (A := Nat) (by kernel_rfl) (by kernel_rfl) (by kernel_rfl) (hval 2 24 v2 rfl rfl) h2
    exact fp2Sums_gives a0 s0 a1 s1 a2 s2 W

theorem fp2Sums_k0 : Rows.fp2SumsRow.wf (OpenSpec.ofChange Rows.fp2SumsSpec) = true := by kernel_rfl
theorem fp2Sums_k1 : laidOutB Try.prog = true := by kernel_rfl
theorem fp2Sums_k2 : mapsRowed Try.prog = true := by kernel_rfl
theorem fp2Sums_k3 : Try.f14.params.all (Try.prog.readableRec ·) = true := by kernel_rfl
theorem fp2Sums_k4 : namedTie Try.prog Rows.fp2SumsRow.named Rows.fp2SumsSpec.vars = true := by kernel_rfl
theorem fp2Sums_k5 : (Rows.fp2SumsRow.stops == []) = true := by kernel_rfl
theorem fp2Sums_k6 : (Try.prog.stops == []) = true := by kernel_rfl
theorem fp2Sums_k7 : (Rows.fp2SumsRow.knobs == []) = true := by kernel_rfl
theorem fp2Sums_k8 : (Try.prog.stopKnobs == []) = true := by kernel_rfl
theorem fp2Sums_k9 : (Rows.fp2SumsRow.inPlace == Try.prog.inPlace 14) = true := by kernel_rfl
theorem fp2Sums_k10 : (Rows.fp2SumsRow.unfollowed == Try.prog.unfollowed 14) = true := by kernel_rfl
theorem fp2Sums_k11 : (Rows.fp2SumsRow.recurses == Try.prog.recurses 14) = true := by kernel_rfl
theorem fp2Sums_k12 : (Rows.fp2SumsRow.named == Try.prog.varsNamed 14) = true := by kernel_rfl
theorem fp2Sums_k13 : (Rows.fp2SumsRow.maps == (Try.f14.params.toList ++ Rows.fp2SumsSpec.plain.varTypes Try.prog).any (Try.prog.mapsRec ·)) = true := by kernel_rfl
theorem fp2Sums_k14 : (Rows.fp2SumsRow.ifaces == (Try.f14.params.toList ++ Rows.fp2SumsSpec.plain.varTypes Try.prog).any (Try.prog.ifacesRec ·)) = true := by kernel_rfl
theorem fp2Sums_k15 : (Rows.fp2SumsRow.mapsOut == Try.prog.mapsAmong Try.f14.resultTypes.toList) = true := by kernel_rfl
theorem fp2Sums_k16 : (Rows.fp2SumsRow.loops == (Try.f14.params.toList ++ Rows.fp2SumsSpec.plain.varTypes Try.prog).any (Try.prog.loopsFrom ·)) = true := by kernel_rfl
theorem fp2Sums_k17 : (Rows.fp2SumsRow.wideKeys == (Try.f14.params.toList ++ Rows.fp2SumsSpec.plain.varTypes Try.prog ++ Try.f14.resultTypes.toList).any (Try.prog.wideKeysFrom ·)) = true := by kernel_rfl
theorem fp2Sums_k18 : Rows.fp2SumsSpec.vars.all (Try.prog.varReadable ·) = true := by kernel_rfl
theorem fp2Sums_k19 : Try.f14.resultTypes.all (fun t => Try.prog.readableRec t && decide (t < Try.prog.types.size)) = true := by kernel_rfl
theorem fp2Sums_k20 : (Rows.fp2SumsRow.ifacesOut == Try.f14.resultTypes.toList.any (Try.prog.ifacesRec ·)) = true := by kernel_rfl
theorem fp2Sums_k21 : (Rows.fp2SumsRow.loopsOut == Try.f14.resultTypes.toList.any (Try.prog.loopsFrom ·)) = true := by kernel_rfl
theorem fp2Sums_k22 : (Rows.fp2SumsRow.plainKeys == Try.prog.plainKeys) = true := by kernel_rfl
theorem fp2Sums_k23 : Rows.fp2SumsRow.shortTexts.isNone = true := by kernel_rfl
theorem fp2Sums_k24 : Try.prog.stopsHeard = true := by kernel_rfl
theorem fp2Sums_k25 : Try.prog.mayEnter = true := by kernel_rfl
theorem fp2Sums_k26 : (Rows.fp2SumsRow.lifted == Try.prog.liftsFinal) = true := by kernel_rfl
theorem fp2Sums_k27 : (Try.prog.make == some Rows.fp2SumsRow.make) = true := by kernel_rfl
theorem fp2Sums_k28 : (Rows.fp2SumsRow.kinds == (if Rows.fp2SumsRow.domain.isEmpty then [] else Try.f14.params.toList.map fun t => match Try.prog.underlying t with | some (.int k) => some k | _ => none)) = true := by kernel_rfl
theorem fp2Sums_k29 : (Rows.fp2SumsRow.pinned == Rows.fp2SumsRow.pinnedBy) = true := by kernel_rfl
theorem fp2Sums_k30 : (Rows.fp2SumsRow.veiled == (Try.f14.params.toList ++ Rows.fp2SumsSpec.plain.varTypes Try.prog ++ Try.f14.resultTypes.toList).any (Try.prog.veiledRec ·)) = true := by kernel_rfl
theorem fp2Sums_k31 : Rows.fp2SumsRow.veiledFits Try.prog Try.f14.params.toList (Try.f14.params.toList ++ Rows.fp2SumsSpec.plain.varTypes Try.prog ++ Try.f14.resultTypes.toList) = true := by kernel_rfl
theorem fp2Sums_join : joinedFacts Try.prog 14 Try.f14 Rows.fp2SumsSpec Rows.fp2SumsRow = true := joined_mk fp2Sums_k0 fp2Sums_k1 fp2Sums_k2 fp2Sums_k3 fp2Sums_k4 fp2Sums_k5 fp2Sums_k6 fp2Sums_k7 fp2Sums_k8 fp2Sums_k9 fp2Sums_k10 fp2Sums_k11 fp2Sums_k12 fp2Sums_k13 fp2Sums_k14 fp2Sums_k15 fp2Sums_k16 fp2Sums_k17 fp2Sums_k18 fp2Sums_k19 fp2Sums_k20 fp2Sums_k21 fp2Sums_k22 fp2Sums_k23 fp2Sums_k24 fp2Sums_k25 fp2Sums_k26 fp2Sums_k27 fp2Sums_k28 fp2Sums_k29 fp2Sums_k30 fp2Sums_k31
theorem fp2Sums_named : Try.prog.funcNamed Rows.fp2SumsRow.func = some 14 := by kernel_rfl
theorem fp2Sums_wrap : Try.f14.isWrapper Try.prog Rows.fp2SumsRow.wrapper Rows.fp2SumsRow.mainSum := by unfold Func.isWrapper; first | (rw [if_pos (by decide +kernel)]; kernel_rfl) | (rw [if_neg (by decide +kernel)]; exact ⟨rfl, rfl⟩)
theorem fp2Sums_over : Rows.fp2SumsRow.holds Try.pinned (OpenSpec.ofChange Rows.fp2SumsSpec) :=
  OpenClaim.holds_of_wide 14 Try.f14 rfl rfl rfl rfl rfl rfl rfl ⟨rfl, rfl, rfl, rfl, rfl⟩ rfl rfl rfl rfl rfl fp2Sums_named Try.func14 fp2Sums_join
    (of_decide_eq_true (by kernel_rfl)) fp2Sums_wrap
    (fun os started H enc _ => fp2Sums_lifted os started H enc)

/-- The statement. -/
theorem fp2Sums_holds : Rows.Fp2SumsSaid := fp2Sums_over
#print axioms fp2Sums_holds
end Go.Proofs.Ytkpihidjolfkoaa
