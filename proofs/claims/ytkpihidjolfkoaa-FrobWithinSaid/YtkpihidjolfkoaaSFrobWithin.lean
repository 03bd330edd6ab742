/-
  FrobWithin: for every input the call returns true, and each argument reads behind it as before. No condition.
-/
import Derived.Test.YtkpihidjolfkoaaRows
import Derived.Test.YtkpihidjolfkoaaSay
import Derived.Test.YtkpihidjolfkoaaJoin
import Derived.Test.YtkpihidjolfkoaaLa11
import Derived.ProofKit
import Derived.OpenShut
namespace Go.Proofs.Ytkpihidjolfkoaa
open Go Go.Eng Go.RowKit Go.ChangeShapes Go.WideShapes Go.ChangeAt
set_option linter.unusedVariables false

set_option maxRecDepth 100000 in
theorem frobWithin_lifted (os : Os) (started : os.Started) (H : Type) (enc : TypeId × Value → H) :
    ReturnsInHanded {} Try.checked os 6 .any (Rows.frobWithinSpec.pre6 enc Try.prog Try.f6 Rows.frobWithinRow.domain false) (Rows.frobWithinSpec.post enc Try.prog Try.f6 false true false false) := by
  refine lifted_any (C := Try.checked) say_own started (by kernel_rfl) Try.func6
    (ChangeSpec.witness6 (enc := enc) (C := Try.checked) false ⟨#[], #[.agg (Array.replicate 36 (.int .u64 0)), .agg (Array.replicate 12 (.int .u64 0)), .int .i64 0], []⟩ 8 (by kernel_rfl) (by kernel_rfl) (by kernel_rfl) (by kernel_rfl))
    say_laid (by kernel_rfl) rfl (tb := 4) (by kernel_rfl) (by kernel_rfl) (fun ds hd => ?_) ?_
  · rw [Try.params6] at hd
    match ds, hd with
    | [d0, d1, d2], _ => exact ⟨rfl, rfl, rfl⟩
  · intro W base args ds ps hval hA hlt
    rw [Try.params6] at hA hval
    obtain ⟨v0, vs0, d0, ds0, p0, q0, hargs, rfl, rfl, h0, r0⟩ := trodAll_cons hA
    obtain ⟨v1, vs1, d1, ds1, p1, q1, rfl, rfl, rfl, h1, r1⟩ := trodAll_cons r0
    obtain ⟨v2, vs2, d2, ds2, p2, q2, rfl, rfl, rfl, h2, r2⟩ := trodAll_cons r1
    obtain ⟨rfl, rfl, rfl⟩ := trodAll_nil r2
    obtain rfl : args = #[v0, v1, v2] := by cases args; simp_all
    obtain ⟨a0, s0, rfl⟩ := open_nm (A := N6) (by kernel_rfl) (by kernel_rfl) (by kernel_rfl) (hval 0 28 v0 rfl rfl) h0
    obtain ⟨a1, s1, rfl⟩ := open_nm (A := N2) (by kernel_rfl) (by kernel_rfl) (by kernel_rfl) (hval 1 26 v1 rfl rfl) h1
    obtain ⟨a2, rfl, rfl, rfl, s2⟩ := open_int (k := .i64) (by kernel_rfl) (hval 2 3 v2 rfl rfl) h2
    exact frobWithin_gives a0 s0 a1 s1 a2 s2 W

theorem frobWithin_k0 : Rows.frobWithinRow.wf (OpenSpec.ofChange Rows.frobWithinSpec) = true := by kernel_rfl
theorem frobWithin_k1 : laidOutB Try.prog = true := by kernel_rfl
theorem frobWithin_k2 : mapsRowed Try.prog = true := by kernel_rfl
theorem frobWithin_k3 : Try.f6.params.all (Try.prog.readableRec ·) = true := by kernel_rfl
theorem frobWithin_k4 : namedTie Try.prog Rows.frobWithinRow.named Rows.frobWithinSpec.vars = true := by kernel_rfl
theorem frobWithin_k5 : (Rows.frobWithinRow.stops == []) = true := by kernel_rfl
theorem frobWithin_k6 : (Try.prog.stops == []) = true := by kernel_rfl
theorem frobWithin_k7 : (Rows.frobWithinRow.knobs == []) = true := by kernel_rfl
theorem frobWithin_k8 : (Try.prog.stopKnobs == []) = true := by kernel_rfl
theorem frobWithin_k9 : (Rows.frobWithinRow.inPlace == Try.prog.inPlace 6) = true := by kernel_rfl
theorem frobWithin_k10 : (Rows.frobWithinRow.unfollowed == Try.prog.unfollowed 6) = true := by kernel_rfl
theorem frobWithin_k11 : (Rows.frobWithinRow.recurses == Try.prog.recurses 6) = true := by kernel_rfl
theorem frobWithin_k12 : (Rows.frobWithinRow.named == Try.prog.varsNamed 6) = true := by kernel_rfl
theorem frobWithin_k13 : (Rows.frobWithinRow.maps == (Try.f6.params.toList ++ Rows.frobWithinSpec.plain.varTypes Try.prog).any (Try.prog.mapsRec ·)) = true := by kernel_rfl
theorem frobWithin_k14 : (Rows.frobWithinRow.ifaces == (Try.f6.params.toList ++ Rows.frobWithinSpec.plain.varTypes Try.prog).any (Try.prog.ifacesRec ·)) = true := by kernel_rfl
theorem frobWithin_k15 : (Rows.frobWithinRow.mapsOut == Try.prog.mapsAmong Try.f6.resultTypes.toList) = true := by kernel_rfl
theorem frobWithin_k16 : (Rows.frobWithinRow.loops == (Try.f6.params.toList ++ Rows.frobWithinSpec.plain.varTypes Try.prog).any (Try.prog.loopsFrom ·)) = true := by kernel_rfl
theorem frobWithin_k17 : (Rows.frobWithinRow.wideKeys == (Try.f6.params.toList ++ Rows.frobWithinSpec.plain.varTypes Try.prog ++ Try.f6.resultTypes.toList).any (Try.prog.wideKeysFrom ·)) = true := by kernel_rfl
theorem frobWithin_k18 : Rows.frobWithinSpec.vars.all (Try.prog.varReadable ·) = true := by kernel_rfl
theorem frobWithin_k19 : Try.f6.resultTypes.all (fun t => Try.prog.readableRec t && decide (t < Try.prog.types.size)) = true := by kernel_rfl
theorem frobWithin_k20 : (Rows.frobWithinRow.ifacesOut == Try.f6.resultTypes.toList.any (Try.prog.ifacesRec ·)) = true := by kernel_rfl
theorem frobWithin_k21 : (Rows.frobWithinRow.loopsOut == Try.f6.resultTypes.toList.any (Try.prog.loopsFrom ·)) = true := by kernel_rfl
theorem frobWithin_k22 : (Rows.frobWithinRow.plainKeys == Try.prog.plainKeys) = true := by kernel_rfl
theorem frobWithin_k23 : Rows.frobWithinRow.shortTexts.isNone = true := by kernel_rfl
theorem frobWithin_k24 : Try.prog.stopsHeard = true := by kernel_rfl
theorem frobWithin_k25 : Try.prog.mayEnter = true := by kernel_rfl
theorem frobWithin_k26 : (Rows.frobWithinRow.lifted == Try.prog.liftsFinal) = true := by kernel_rfl
theorem frobWithin_k27 : (Try.prog.make == some Rows.frobWithinRow.make) = true := by kernel_rfl
theorem frobWithin_k28 : (Rows.frobWithinRow.kinds == (if Rows.frobWithinRow.domain.isEmpty then [] else Try.f6.params.toList.map fun t => match Try.prog.underlying t with | some (.int k) => some k | _ => none)) = true := by kernel_rfl
theorem frobWithin_k29 : (Rows.frobWithinRow.pinned == Rows.frobWithinRow.pinnedBy) = true := by kernel_rfl
theorem frobWithin_k30 : (Rows.frobWithinRow.veiled == (Try.f6.params.toList ++ Rows.frobWithinSpec.plain.varTypes Try.prog ++ Try.f6.resultTypes.toList).any (Try.prog.veiledRec ·)) = true := by kernel_rfl
theorem frobWithin_k31 : Rows.frobWithinRow.veiledFits Try.prog Try.f6.params.toList (Try.f6.params.toList ++ Rows.frobWithinSpec.plain.varTypes Try.prog ++ Try.f6.resultTypes.toList) = true := by kernel_rfl
theorem frobWithin_join : joinedFacts Try.prog 6 Try.f6 Rows.frobWithinSpec Rows.frobWithinRow = true := joined_mk frobWithin_k0 frobWithin_k1 frobWithin_k2 frobWithin_k3 frobWithin_k4 frobWithin_k5 frobWithin_k6 frobWithin_k7 frobWithin_k8 frobWithin_k9 frobWithin_k10 frobWithin_k11 frobWithin_k12 frobWithin_k13 frobWithin_k14 frobWithin_k15 frobWithin_k16 frobWithin_k17 frobWithin_k18 frobWithin_k19 frobWithin_k20 frobWithin_k21 frobWithin_k22 frobWithin_k23 frobWithin_k24 frobWithin_k25 frobWithin_k26 frobWithin_k27 frobWithin_k28 frobWithin_k29 frobWithin_k30 frobWithin_k31
theorem frobWithin_named : Try.prog.funcNamed Rows.frobWithinRow.func = some 6 := by kernel_rfl
theorem frobWithin_wrap : Try.f6.isWrapper Try.prog Rows.frobWithinRow.wrapper Rows.frobWithinRow.mainSum := by unfold Func.isWrapper; first | (rw [if_pos (by decide +kernel)]; kernel_rfl) | (rw [if_neg (by decide +kernel)]; exact ⟨rfl, rfl⟩)
theorem frobWithin_over : Rows.frobWithinRow.holds Try.pinned (OpenSpec.ofChange Rows.frobWithinSpec) :=
  OpenClaim.holds_of_wide 6 Try.f6 rfl rfl rfl rfl rfl rfl rfl ⟨rfl, rfl, rfl, rfl, rfl⟩ rfl rfl rfl rfl rfl frobWithin_named Try.func6 frobWithin_join
    (of_decide_eq_true (by kernel_rfl)) frobWithin_wrap
    (fun os started H enc _ => frobWithin_lifted os started H enc)

/-- The statement. -/
theorem frobWithin_holds : Rows.FrobWithinSaid := frobWithin_over
#print axioms frobWithin_holds
end Go.Proofs.Ytkpihidjolfkoaa
