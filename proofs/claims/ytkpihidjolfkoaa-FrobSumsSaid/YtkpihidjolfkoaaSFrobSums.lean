/-
  FrobSums: for every input the call returns true, and each argument reads behind it as before. No condition.
-/
import Derived.Test.YtkpihidjolfkoaaRows
import Derived.Test.YtkpihidjolfkoaaSay
import Derived.Test.YtkpihidjolfkoaaJoin
import Derived.Test.YtkpihidjolfkoaaLa11
import Derived.ProofKit
import Derived.OpenShut
namespace Go.Proofs.Ytkpihidjolfkoaa
open Go Go.Eng Go.RowKit Go.ChangeShapes Go.WideShapes Go.ChangeAt
set_option linter.unusedVariables false

set_option maxRecDepth 100000 in
theorem frobSums_lifted (os : Os) (started : os.Started) (H : Type) (enc : TypeId × Value → H) :
    ReturnsInHanded {} Try.checked os 8 .any (Rows.frobSumsSpec.pre6 enc Try.prog Try.f8 Rows.frobSumsRow.domain false) (Rows.frobSumsSpec.post enc Try.prog Try.f8 false true false false) := by
  refine lifted_any (C := Try.checked) say_own started (by kernel_rfl) Try.func8
    (ChangeSpec.witness6 (enc := enc) (C := Try.checked) false ⟨#[], #[.agg (Array.replicate 72 (.int .u64 0)), .agg (Array.replicate 72 (.int .u64 0)), .int .i64 0], []⟩ 8 (by kernel_rfl) (by kernel_rfl) (by kernel_rfl) (by kernel_rfl))
    say_laid (by kernel_rfl) rfl (tb := 4) (by kernel_rfl) (by kernel_rfl) (fun ds hd => ?_) ?_
  · rw [Try.params8] at hd
    match ds, hd with
    | [d0, d1, d2], _ => exact ⟨rfl, rfl, rfl⟩
  · intro W base args ds ps hval hA hlt
    rw [Try.params8] at hA hval
    obtain ⟨v0, vs0, d0, ds0, p0, q0, hargs, rfl, rfl, h0, r0⟩ := trodAll_cons hA
    obtain ⟨v1, vs1, d1, ds1, p1, q1, rfl, rfl, rfl, h1, r1⟩ := trodAll_cons r0
    obtain ⟨v2, vs2, d2, ds2, p2, q2, rfl, rfl, rfl, h2, r2⟩ := trodAll_cons r1
    obtain ⟨rfl, rfl, rfl⟩ := trodAll_nil r2
    obtain rfl : args = #[v0, v1, v2] := by cases args; simp_all
    obtain ⟨a0, s0, rfl⟩ := open_nm (A := N12) (by kernel_rfl) (by kernel_rfl) (by kernel_rfl) (hval 0 30 v0 rfl rfl) h0
    obtain ⟨a1, s1, rfl⟩ := open_nm (A := N12) (by kernel_rfl) (by kernel_rfl) (by kernel_rfl) (hval 1 30 v1 rfl rfl) h1
    obtain ⟨a2, rfl, rfl, rfl, s2⟩ := open_int (k := .i64) (by kernel_rfl) (hval 2 3 v2 rfl rfl) h2
    exact frobSums_gives a0 s0 a1 s1 a2 s2 W

theorem frobSums_k0 : Rows.frobSumsRow.wf (OpenSpec.ofChange Rows.frobSumsSpec) = true := by kernel_rfl
theorem frobSums_k1 : laidOutB Try.prog = true := by kernel_rfl
theorem frobSums_k2 : mapsRowed Try.prog = true := by kernel_rfl
theorem frobSums_k3 : Try.f8.params.all (Try.prog.readableRec ·) = true := by kernel_rfl
theorem frobSums_k4 : namedTie Try.prog Rows.frobSumsRow.named Rows.frobSumsSpec.vars = true := by kernel_rfl
theorem frobSums_k5 : (Rows.frobSumsRow.stops == []) = true := by kernel_rfl
theorem frobSums_k6 : (Try.prog.stops == []) = true := by kernel_rfl
theorem frobSums_k7 : (Rows.frobSumsRow.knobs == []) = true := by kernel_rfl
theorem frobSums_k8 : (Try.prog.stopKnobs == []) = true := by kernel_rfl
theorem frobSums_k9 : (Rows.frobSumsRow.inPlace == Try.prog.inPlace 8) = true := by kernel_rfl
theorem frobSums_k10 : (Rows.frobSumsRow.unfollowed == Try.prog.unfollowed 8) = true := by kernel_rfl
theorem frobSums_k11 : (Rows.frobSumsRow.recurses == Try.prog.recurses 8) = true := by kernel_rfl
theorem frobSums_k12 : (Rows.frobSumsRow.named == Try.prog.varsNamed 8) = true := by kernel_rfl
theorem frobSums_k13 : (Rows.frobSumsRow.maps == (Try.f8.params.toList ++ Rows.frobSumsSpec.plain.varTypes Try.prog).any (Try.prog.mapsRec ·)) = true := by kernel_rfl
theorem frobSums_k14 : (Rows.frobSumsRow.ifaces == (Try.f8.params.toList ++ Rows.frobSumsSpec.plain.varTypes Try.prog).any (Try.prog.ifacesRec ·)) = true := by kernel_rfl
theorem frobSums_k15 : (Rows.frobSumsRow.mapsOut == Try.prog.mapsAmong Try.f8.resultTypes.toList) = true := by kernel_rfl
theorem frobSums_k16 : (Rows.frobSumsRow.loops == (Try.f8.params.toList ++ Rows.frobSumsSpec.plain.varTypes Try.prog).any (Try.prog.loopsFrom ·)) = true := by kernel_rfl
theorem frobSums_k17 : (Rows.frobSumsRow.wideKeys == (Try.f8.params.toList ++ Rows.frobSumsSpec.plain.varTypes Try.prog ++ Try.f8.resultTypes.toList).any (Try.prog.wideKeysFrom ·)) = true := by kernel_rfl
theorem frobSums_k18 : Rows.frobSumsSpec.vars.all (Try.prog.varReadable ·) = true := by kernel_rfl
theorem frobSums_k19 : Try.f8.resultTypes.all (fun t => Try.prog.readableRec t && decide (t < Try.prog.types.size)) = true := by kernel_rfl
theorem frobSums_k20 : (Rows.frobSumsRow.ifacesOut == Try.f8.resultTypes.toList.any (Try.prog.ifacesRec ·)) = true := by kernel_rfl
theorem frobSums_k21 : (Rows.frobSumsRow.loopsOut == Try.f8.resultTypes.toList.any (Try.prog.loopsFrom ·)) = true := by kernel_rfl
theorem frobSums_k22 : (Rows.frobSumsRow.plainKeys == Try.prog.plainKeys) = true := by kernel_rfl
theorem frobSums_k23 : Rows.frobSumsRow.shortTexts.isNone = true := by kernel_rfl
theorem frobSums_k24 : Try.prog.stopsHeard = true := by kernel_rfl
theorem frobSums_k25 : Try.prog.mayEnter = true := by kernel_rfl
theorem frobSums_k26 : (Rows.frobSumsRow.lifted == Try.prog.liftsFinal) = true := by kernel_rfl
theorem frobSums_k27 : (Try.prog.make == some Rows.frobSumsRow.make) = true := by kernel_rfl
theorem frobSums_k28 : (Rows.frobSumsRow.kinds == (if Rows.frobSumsRow.domain.isEmpty then [] else Try.f8.params.toList.map fun t => match Try.prog.underlying t with | some (.int k) => some k | _ => none)) = true := by kernel_rfl
theorem frobSums_k29 : (Rows.frobSumsRow.pinned == Rows.frobSumsRow.pinnedBy) = true := by kernel_rfl
theorem frobSums_k30 : (Rows.frobSumsRow.veiled == (Try.f8.params.toList ++ Rows.frobSumsSpec.plain.varTypes Try.prog ++ Try.f8.resultTypes.toList).any (Try.prog.veiledRec ·)) = true := by kernel_rfl
theorem frobSums_k31 : Rows.frobSumsRow.veiledFits Try.prog Try.f8.params.toList (Try.f8.params.toList ++ Rows.frobSumsSpec.plain.varTypes Try.prog ++ Try.f8.resultTypes.toList) = true := by kernel_rfl
theorem frobSums_join : joinedFacts Try.prog 8 Try.f8 Rows.frobSumsSpec Rows.frobSumsRow = true := joined_mk frobSums_k0 frobSums_k1 frobSums_k2 frobSums_k3 frobSums_k4 frobSums_k5 frobSums_k6 frobSums_k7 frobSums_k8 frobSums_k9 frobSums_k10 frobSums_k11 frobSums_k12 frobSums_k13 frobSums_k14 frobSums_k15 frobSums_k16 frobSums_k17 frobSums_k18 frobSums_k19 frobSums_k20 frobSums_k21 frobSums_k22 frobSums_k23 frobSums_k24 frobSums_k25 frobSums_k26 frobSums_k27 frobSums_k28 frobSums_k29 frobSums_k30 frobSums_k31
theorem frobSums_named : Try.prog.funcNamed Rows.frobSumsRow.func = some 8 := by kernel_rfl
theorem frobSums_wrap : Try.f8.isWrapper Try.prog Rows.frobSumsRow.wrapper Rows.frobSumsRow.mainSum := by unfold Func.isWrapper; first | (rw [if_pos (by decide +kernel)]; kernel_rfl) | (rw [if_neg (by decide +kernel)]; exact ⟨rfl, rfl⟩)
theorem frobSums_over : Rows.frobSumsRow.holds Try.pinned (OpenSpec.ofChange Rows.frobSumsSpec) :=
  OpenClaim.holds_of_wide 8 Try.f8 rfl rfl rfl rfl rfl rfl rfl ⟨rfl, rfl, rfl, rfl, rfl⟩ rfl rfl rfl rfl rfl frobSums_named Try.func8 frobSums_join
    (of_decide_eq_true (by kernel_rfl)) frobSums_wrap
    (fun os started H enc _ => frobSums_lifted os started H enc)

/-- The statement. -/
theorem frobSums_holds : Rows.FrobSumsSaid := frobSums_over
#print axioms frobSums_holds
end Go.Proofs.Ytkpihidjolfkoaa
