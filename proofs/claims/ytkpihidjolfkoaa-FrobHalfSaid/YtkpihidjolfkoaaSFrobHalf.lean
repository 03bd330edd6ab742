/-
  FrobHalf: for every input the call returns true, and each argument reads behind it as before. No condition.
-/
import Derived.Test.YtkpihidjolfkoaaRows
import Derived.Test.YtkpihidjolfkoaaSay
import Derived.Test.YtkpihidjolfkoaaJoin
import Derived.Test.YtkpihidjolfkoaaLa11
import Derived.ProofKit
import Derived.OpenShut
namespace Go.Proofs.Ytkpihidjolfkoaa
open Go Go.Eng Go.RowKit Go.ChangeShapes Go.WideShapes Go.ChangeAt
set_option linter.unusedVariables false

set_option maxRecDepth 100000 in
theorem frobHalf_lifted (os : Os) (started : os.Started) (H : Type) (enc : TypeId × Value → H) :
    ReturnsInHanded {} Try.checked os 3 .any (Rows.frobHalfSpec.pre6 enc Try.prog Try.f3 Rows.frobHalfRow.domain false) (Rows.frobHalfSpec.post enc Try.prog Try.f3 false true false false) := by
  refine lifted_any (C := Try.checked) say_own started (by kernel_rfl) Try.func3
    (ChangeSpec.witness6 (enc := enc) (C := Try.checked) false ⟨#[], #[.agg (Array.replicate 72 (.int .u64 0)), .agg (Array.replicate 12 (.int .u64 0)), .agg (Array.replicate 6 (.int .u64 0)), .int .i64 0], []⟩ 8 (by kernel_rfl) (by kernel_rfl) (by kernel_rfl) (by kernel_rfl))
    say_laid (by kernel_rfl) rfl (tb := 4) (by kernel_rfl) (by kernel_rfl) (fun ds hd => ?_) ?_
  · rw [Try.params3] at hd
    match ds, hd with
    | [d0, d1, d2, d3], _ => exact ⟨rfl, rfl, rfl⟩
  · intro W base args ds ps hval hA hlt
    rw [Try.params3] at hA hval
    obtain ⟨v0, vs0, d0, ds0, p0, q0, hargs, rfl, rfl, h0, r0⟩ := trodAll_cons hA
    obtain ⟨v1, vs1, d1, ds1, p1, q1, rfl, rfl, rfl, h1, r1⟩ := trodAll_cons r0
    obtain ⟨v2, vs2, d2, ds2, p2, q2, rfl, rfl, rfl, h2, r2⟩ := trodAll_cons r1
    obtain ⟨v3, vs3, d3, ds3, p3, q3, rfl, rfl, rfl, h3, r3⟩ := trodAll_cons r2
    obtain ⟨rfl, rfl, rfl⟩ := trodAll_nil r3
    obtain rfl : args = #[v0, v1, v2, v3] := by cases args; simp_all
    obtain ⟨a0, s0, rfl⟩ := open_nm (A := N12) (by kernel_rfl) (by kernel_rfl) (by kernel_rfl) (hval 0 30 v0 rfl rfl) h0
    obtain ⟨a1, s1, rfl⟩ := open_nm (A := N2) (by kernel_rfl) (by kernel_rfl) (by kernel_rfl) (hval 1 26 v1 rfl rfl) h1
    obtain ⟨a2, s2, rfl⟩ := open_nm (A := Nat) (by kernel_rfl) (by kernel_rfl) (by kernel_rfl) (hval 2 24 v2 rfl rfl) h2
    obtain ⟨a3, rfl, rfl, rfl, s3⟩ := open_int (k := .i64) (by kernel_rfl) (hval 3 3 v3 rfl rfl) h3
    exact frobHalf_gives a0 s0 a1 s1 a2 s2 a3 s3 W

theorem frobHalf_k0 : Rows.frobHalfRow.wf (OpenSpec.ofChange Rows.frobHalfSpec) = true := by kernel_rfl
theorem frobHalf_k1 : laidOutB Try.prog = true := by kernel_rfl
theorem frobHalf_k2 : mapsRowed Try.prog = true := by kernel_rfl
theorem frobHalf_k3 : Try.f3.params.all (Try.prog.readableRec ·) = true := by kernel_rfl
theorem frobHalf_k4 : namedTie Try.prog Rows.frobHalfRow.named Rows.frobHalfSpec.vars = true := by kernel_rfl
theorem frobHalf_k5 : (Rows.frobHalfRow.stops == []) = true := by kernel_rfl
theorem frobHalf_k6 : (Try.prog.stops == []) = true := by kernel_rfl
theorem frobHalf_k7 : (Rows.frobHalfRow.knobs == []) = true := by kernel_rfl
theorem frobHalf_k8 : (Try.prog.stopKnobs == []) = true := by kernel_rfl
theorem frobHalf_k9 : (Rows.frobHalfRow.inPlace == Try.prog.inPlace 3) = true := by kernel_rfl
theorem frobHalf_k10 : (Rows.frobHalfRow.unfollowed == Try.prog.unfollowed 3) = true := by kernel_rfl
theorem frobHalf_k11 : (Rows.frobHalfRow.recurses == Try.prog.recurses 3) = true := by kernel_rfl
theorem frobHalf_k12 : (Rows.frobHalfRow.named == Try.prog.varsNamed 3) = true := by kernel_rfl
theorem frobHalf_k13 : (Rows.frobHalfRow.maps == (Try.f3.params.toList ++ Rows.frobHalfSpec.plain.varTypes Try.prog).any (Try.prog.mapsRec ·)) = true := by kernel_rfl
theorem frobHalf_k14 : (Rows.frobHalfRow.ifaces == (Try.f3.params.toList ++ Rows.frobHalfSpec.plain.varTypes Try.prog).any (Try.prog.ifacesRec ·)) = true := by kernel_rfl
theorem frobHalf_k15 : (Rows.frobHalfRow.mapsOut == Try.prog.mapsAmong Try.f3.resultTypes.toList) = true := by kernel_rfl
theorem frobHalf_k16 : (Rows.frobHalfRow.loops == (Try.f3.params.toList ++ Rows.frobHalfSpec.plain.varTypes Try.prog).any (Try.prog.loopsFrom ·)) = true := by kernel_rfl
theorem frobHalf_k17 : (Rows.frobHalfRow.wideKeys == (Try.f3.params.toList ++ Rows.frobHalfSpec.plain.varTypes Try.prog ++ Try.f3.resultTypes.toList).any (Try.prog.wideKeysFrom ·)) = true := by kernel_rfl
theorem frobHalf_k18 : Rows.frobHalfSpec.vars.all (Try.prog.varReadable ·) = true := by kernel_rfl
theorem frobHalf_k19 : Try.f3.resultTypes.all (fun t => Try.prog.readableRec t && decide (t < Try.prog.types.size)) = true := by kernel_rfl
theorem frobHalf_k20 : (Rows.frobHalfRow.ifacesOut == Try.f3.resultTypes.toList.any (Try.prog.ifacesRec ·)) = true := by kernel_rfl
theorem frobHalf_k21 : (Rows.frobHalfRow.loopsOut == Try.f3.resultTypes.toList.any (Try.prog.loopsFrom ·)) = true := by kernel_rfl
theorem frobHalf_k22 : (Rows.frobHalfRow.plainKeys == Try.prog.plainKeys) = true := by kernel_rfl
theorem frobHalf_k23 : Rows.frobHalfRow.shortTexts.isNone = true := by kernel_rfl
theorem frobHalf_k24 : Try.prog.stopsHeard = true := by kernel_rfl
theorem frobHalf_k25 : Try.prog.mayEnter = true := by kernel_rfl
theorem frobHalf_k26 : (Rows.frobHalfRow.lifted == Try.prog.liftsFinal) = true := by kernel_rfl
theorem frobHalf_k27 : (Try.prog.make == some Rows.frobHalfRow.make) = true := by kernel_rfl
theorem frobHalf_k28 : (Rows.frobHalfRow.kinds == (if Rows.frobHalfRow.domain.isEmpty then [] else Try.f3.params.toList.map fun t => match Try.prog.underlying t with | some (.int k) => some k | _ => none)) = true := by kernel_rfl
theorem frobHalf_k29 : (Rows.frobHalfRow.pinned == Rows.frobHalfRow.pinnedBy) = true := by kernel_rfl
theorem frobHalf_k30 : (Rows.frobHalfRow.veiled == (Try.f3.params.toList ++ Rows.frobHalfSpec.plain.varTypes Try.prog ++ Try.f3.resultTypes.toList).any (Try.prog.veiledRec ·)) = true := by kernel_rfl
theorem frobHalf_k31 : Rows.frobHalfRow.veiledFits Try.prog Try.f3.params.toList (Try.f3.params.toList ++ Rows.frobHalfSpec.plain.varTypes Try.prog ++ Try.f3.resultTypes.toList) = true := by kernel_rfl
theorem frobHalf_join : joinedFacts Try.prog 3 Try.f3 Rows.frobHalfSpec Rows.frobHalfRow = true := joined_mk frobHalf_k0 frobHalf_k1 frobHalf_k2 frobHalf_k3 frobHalf_k4 frobHalf_k5 frobHalf_k6 frobHalf_k7 frobHalf_k8 frobHalf_k9 frobHalf_k10 frobHalf_k11 frobHalf_k12 frobHalf_k13 frobHalf_k14 frobHalf_k15 frobHalf_k16 frobHalf_k17 frobHalf_k18 frobHalf_k19 frobHalf_k20 frobHalf_k21 frobHalf_k22 frobHalf_k23 frobHalf_k24 frobHalf_k25 frobHalf_k26 frobHalf_k27 frobHalf_k28 frobHalf_k29 frobHalf_k30 frobHalf_k31
theorem frobHalf_named : Try.prog.funcNamed Rows.frobHalfRow.func = some 3 := by kernel_rfl
theorem frobHalf_wrap : Try.f3.isWrapper Try.prog Rows.frobHalfRow.wrapper Rows.frobHalfRow.mainSum := by unfold Func.isWrapper; first | (rw [if_pos (by decide +kernel)]; kernel_rfl) | (rw [if_neg (by decide +kernel)]; exact ⟨rfl, rfl⟩)
theorem frobHalf_over : Rows.frobHalfRow.holds Try.pinned (OpenSpec.ofChange Rows.frobHalfSpec) :=
  OpenClaim.holds_of_wide 3 Try.f3 rfl rfl rfl rfl rfl rfl rfl ⟨rfl, rfl, rfl, rfl, rfl⟩ rfl rfl rfl rfl rfl frobHalf_named Try.func3 frobHalf_join
    (of_decide_eq_true (by kernel_rfl)) frobHalf_wrap
    (fun os started H enc _ => frobHalf_lifted os started H enc)

/-- The statement. -/
theorem frobHalf_holds : Rows.FrobHalfSaid := frobHalf_over
#print axioms frobHalf_holds
end Go.Proofs.Ytkpihidjolfkoaa
