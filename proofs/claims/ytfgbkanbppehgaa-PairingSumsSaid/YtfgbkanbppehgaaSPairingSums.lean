/-
  PairingSums: for every input the call returns true, and each argument reads behind it as before. No condition.
-/
import Derived.Test.YtfgbkanbppehgaaRows
import Derived.Test.YtfgbkanbppehgaaSay
import Derived.Test.YtfgbkanbppehgaaJoin
import Derived.Test.YtfgbkanbppehgaaK
import Derived.Test.YtfgbkanbppehgaaLaP16
import Derived.ProofKit
import Derived.OpenShut
namespace Go.Proofs.Ytfgbkanbppehgaa
open Go Go.Eng Go.RowKit Go.ChangeShapes Go.WideShapes Go.ChangeAt
set_option linter.unusedVariables false

set_option maxRecDepth 100000 in
theorem pairingSums_lifted (os : Os) (started : os.Started) (H : Type) (enc : TypeId × Value → H) :
    ReturnsInHanded {} Try.checked os 8 .any (Rows.pairingSumsSpec.pre6 enc Try.prog Try.f8 Rows.pairingSumsRow.domain false) (Rows.pairingSumsSpec.post enc Try.prog Try.f8 false true false false) := by
  refine lifted_any (C := Try.checked) say_own started (by kernel_rfl) Try.func8
    (ChangeSpec.witness6 (enc := enc) (C := Try.checked) false ⟨#[], #[.int .u64 0, .int .u64 0, .int .u64 0], []⟩ 8 (by kernel_rfl) (by kernel_rfl) (by kernel_rfl) (by kernel_rfl))
    say_laid (by kernel_rfl) rfl (tb := 4) (by kernel_rfl) (by kernel_rfl) (fun ds hd => ?_) ?_
  · rw [Try.params8] at hd
    match ds, hd with
    | [d0, d1, d2], _ => exact ⟨rfl, rfl, rfl⟩
  · intro W base args ds ps hval hA hlt
    rw [Try.params8] at hA hval
    obtain ⟨v0, vs0, d0, ds0, p0, q0, hargs, rfl, rfl, h0, r0⟩ := trodAll_cons hA
    obtain ⟨v1, vs1, d1, ds1, p1, q1, rfl, rfl, rfl, h1, r1⟩ := trodAll_cons r0
    obtain ⟨v2, vs2, d2, ds2, p2, q2, rfl, rfl, rfl, h2, r2⟩ := trodAll_cons r1
    obtain ⟨rfl, rfl, rfl⟩ := trodAll_nil r2
    obtain rfl : args = #[v0, v1, v2] := by cases args; simp_all
    obtain ⟨a0, rfl, rfl, rfl, s0⟩ := open_int (k := .u64) (by kernel_rfl) (hval 0 26 v0 rfl rfl) h0
    obtain ⟨a1, rfl, rfl, rfl, s1⟩ := open_int (k := .u64) (by kernel_rfl) (hval 1 26 v1 rfl rfl) h1
    obtain ⟨a2, rfl, rfl, rfl, s2⟩ := open_int (k := .u64) (by kernel_rfl) (hval 2 26 v2 rfl rfl) h2
    exact pairingSums_gives a0 (wf_u64 s0) a1 (wf_u64 s1) a2 (wf_u64 s2) W

theorem pairingSums_k0 : Rows.pairingSumsRow.wf (OpenSpec.ofChange Rows.pairingSumsSpec) = true := by kernel_rfl
theorem pairingSums_k1 : laidOutB Try.prog = true := by kernel_rfl
theorem pairingSums_k2 : mapsRowed Try.prog = true := by kernel_rfl
theorem pairingSums_k3 : Try.f8.params.all (Try.prog.readableRec ·) = true := by kernel_rfl
theorem pairingSums_k4 : namedTie Try.prog Rows.pairingSumsRow.named Rows.pairingSumsSpec.vars = true := by kernel_rfl
theorem pairingSums_k5 : (Rows.pairingSumsRow.stops == []) = true := by kernel_rfl
theorem pairingSums_k6 : (Try.prog.stops == []) = true := by kernel_rfl
theorem pairingSums_k7 : (Rows.pairingSumsRow.knobs == []) = true := by kernel_rfl
theorem pairingSums_k8 : (Try.prog.stopKnobs == []) = true := by kernel_rfl
theorem pairingSums_k9 : (Rows.pairingSumsRow.inPlace == Try.prog.inPlace 8) = true := by kernel_rfl
theorem pairingSums_k10 : (Rows.pairingSumsRow.unfollowed == Try.prog.unfollowed 8) = true := by kernel_rfl
theorem pairingSums_k11 : (Rows.pairingSumsRow.recurses == Try.prog.recurses 8) = true := by kernel_rfl
theorem pairingSums_k12 : (Rows.pairingSumsRow.named == Try.prog.varsNamed 8) = true := by kernel_rfl
theorem pairingSums_k13 : (Rows.pairingSumsRow.maps == (Try.f8.params.toList ++ Rows.pairingSumsSpec.plain.varTypes Try.prog).any (Try.prog.mapsRec ·)) = true := by kernel_rfl
theorem pairingSums_k14 : (Rows.pairingSumsRow.ifaces == (Try.f8.params.toList ++ Rows.pairingSumsSpec.plain.varTypes Try.prog).any (Try.prog.ifacesRec ·)) = true := by kernel_rfl
theorem pairingSums_k15 : (Rows.pairingSumsRow.mapsOut == Try.prog.mapsAmong Try.f8.resultTypes.toList) = true := by kernel_rfl
theorem pairingSums_k16 : (Rows.pairingSumsRow.loops == (Try.f8.params.toList ++ Rows.pairingSumsSpec.plain.varTypes Try.prog).any (Try.prog.loopsFrom ·)) = true := by kernel_rfl
theorem pairingSums_k17 : (Rows.pairingSumsRow.wideKeys == (Try.f8.params.toList ++ Rows.pairingSumsSpec.plain.varTypes Try.prog ++ Try.f8.resultTypes.toList).any (Try.prog.wideKeysFrom ·)) = true := by kernel_rfl
theorem pairingSums_k18 : Rows.pairingSumsSpec.vars.all (Try.prog.varReadable ·) = true := by kernel_rfl
theorem pairingSums_k19 : Try.f8.resultTypes.all (fun t => Try.prog.readableRec t && decide (t < Try.prog.types.size)) = true := by kernel_rfl
theorem pairingSums_k20 : (Rows.pairingSumsRow.ifacesOut == Try.f8.resultTypes.toList.any (Try.prog.ifacesRec ·)) = true := by kernel_rfl
theorem pairingSums_k21 : (Rows.pairingSumsRow.loopsOut == Try.f8.resultTypes.toList.any (Try.prog.loopsFrom ·)) = true := by kernel_rfl
theorem pairingSums_k22 : (Rows.pairingSumsRow.plainKeys == Try.prog.plainKeys) = true := by kernel_rfl
theorem pairingSums_k23 : Rows.pairingSumsRow.shortTexts.isNone = true := by kernel_rfl
theorem pairingSums_k24 : Try.prog.stopsHeard = true := by kernel_rfl
theorem pairingSums_k25 : Try.prog.mayEnter = true := sk25
theorem pairingSums_k26 : (Rows.pairingSumsRow.lifted == Try.prog.liftsFinal) = true := (congrArg (· == Try.prog.liftsFinal) (show Rows.pairingSumsRow.lifted = Rows.pairingNamesRow.lifted by kernel_rfl)).trans sk26
theorem pairingSums_k27 : (Try.prog.make == some Rows.pairingSumsRow.make) = true := (congrArg (fun m => Try.prog.make == some m) (show Rows.pairingSumsRow.make = Rows.pairingNamesRow.make by kernel_rfl)).trans sk27
theorem pairingSums_k28 : (Rows.pairingSumsRow.kinds == (if Rows.pairingSumsRow.domain.isEmpty then [] else Try.f8.params.toList.map fun t => match Try.prog.underlying t with | some (.int k) => some k | _ => none)) = true := by kernel_rfl
theorem pairingSums_k29 : (Rows.pairingSumsRow.pinned == Rows.pairingSumsRow.pinnedBy) = true := by kernel_rfl
theorem pairingSums_k30 : (Rows.pairingSumsRow.veiled == (Try.f8.params.toList ++ Rows.pairingSumsSpec.plain.varTypes Try.prog ++ Try.f8.resultTypes.toList).any (Try.prog.veiledRec ·)) = true := by kernel_rfl
theorem pairingSums_k31 : Rows.pairingSumsRow.veiledFits Try.prog Try.f8.params.toList (Try.f8.params.toList ++ Rows.pairingSumsSpec.plain.varTypes Try.prog ++ Try.f8.resultTypes.toList) = true := by kernel_rfl
set_option maxRecDepth 100000 in
theorem pairingSums_join : joinedFacts Try.prog 8 Try.f8 Rows.pairingSumsSpec Rows.pairingSumsRow = true := joined_mk pairingSums_k0 pairingSums_k1 pairingSums_k2 pairingSums_k3 pairingSums_k4 pairingSums_k5 pairingSums_k6 pairingSums_k7 pairingSums_k8 pairingSums_k9 pairingSums_k10 pairingSums_k11 pairingSums_k12 pairingSums_k13 pairingSums_k14 pairingSums_k15 pairingSums_k16 pairingSums_k17 pairingSums_k18 pairingSums_k19 pairingSums_k20 pairingSums_k21 pairingSums_k22 pairingSums_k23 pairingSums_k24 pairingSums_k25 pairingSums_k26 pairingSums_k27 pairingSums_k28 pairingSums_k29 pairingSums_k30 pairingSums_k31
theorem pairingSums_named : Try.prog.funcNamed Rows.pairingSumsRow.func = some 8 := by kernel_rfl
theorem pairingSums_wrap : Try.f8.isWrapper Try.prog Rows.pairingSumsRow.wrapper Rows.pairingSumsRow.mainSum := by unfold Func.isWrapper; first | (rw [if_pos (by decide +kernel)]; kernel_rfl) | (rw [if_neg (by decide +kernel)]; exact ⟨rfl, rfl⟩)
theorem pairingSums_over : Rows.pairingSumsRow.holds Try.pinned (OpenSpec.ofChange Rows.pairingSumsSpec) :=
  OpenClaim.holds_of_wide 8 Try.f8 rfl rfl rfl rfl rfl rfl rfl ⟨rfl, rfl, rfl, rfl, rfl⟩ rfl rfl rfl rfl rfl pairingSums_named Try.func8 pairingSums_join
    (of_decide_eq_true (by kernel_rfl)) pairingSums_wrap
    (fun os started H enc _ => pairingSums_lifted os started H enc)

/-- The statement. -/
theorem pairingSums_holds : Rows.PairingSumsSaid := pairingSums_over
#print axioms pairingSums_holds
end Go.Proofs.Ytfgbkanbppehgaa
