/-
  PairingOrders: for every input the call returns true, and each argument reads behind it as before. No condition.
-/
import Derived.Test.YtfgbkanbppehgaaRows
import Derived.Test.YtfgbkanbppehgaaSay
import Derived.Test.YtfgbkanbppehgaaJoin
import Derived.Test.YtfgbkanbppehgaaK
import Derived.Test.YtfgbkanbppehgaaLaP16
import Derived.ProofKit
import Derived.OpenShut
namespace Go.Proofs.Ytfgbkanbppehgaa
open Go Go.Eng Go.RowKit Go.ChangeShapes Go.WideShapes Go.ChangeAt
set_option linter.unusedVariables false

set_option maxRecDepth 100000 in
theorem pairingOrders_lifted (os : Os) (started : os.Started) (H : Type) (enc : TypeId × Value → H) :
    ReturnsInHanded {} Try.checked os 5 .any (Rows.pairingOrdersSpec.pre6 enc Try.prog Try.f5 Rows.pairingOrdersRow.domain false) (Rows.pairingOrdersSpec.post enc Try.prog Try.f5 false true false false) := by
  refine lifted_any (C := Try.checked) say_own started (by kernel_rfl) Try.func5
    (ChangeSpec.witness6 (enc := enc) (C := Try.checked) false ⟨#[], #[.agg (Array.replicate 72 (.int .u64 0)), .agg (Array.replicate 72 (.int .u64 0)), .agg (Array.replicate 12 (.int .u64 0))], []⟩ 8 (by kernel_rfl) (by kernel_rfl) (by kernel_rfl) (by kernel_rfl))
    say_laid (by kernel_rfl) rfl (tb := 4) (by kernel_rfl) (by kernel_rfl) (fun ds hd => ?_) ?_
  · rw [Try.params5] at hd
    match ds, hd with
    | [d0, d1, d2], _ => exact ⟨rfl, rfl, rfl⟩
  · intro W base args ds ps hval hA hlt
    rw [Try.params5] at hA hval
    obtain ⟨v0, vs0, d0, ds0, p0, q0, hargs, rfl, rfl, h0, r0⟩ := trodAll_cons hA
    obtain ⟨v1, vs1, d1, ds1, p1, q1, rfl, rfl, rfl, h1, r1⟩ := trodAll_cons r0
    obtain ⟨v2, vs2, d2, ds2, p2, q2, rfl, rfl, rfl, h2, r2⟩ := trodAll_cons r1
    obtain ⟨rfl, rfl, rfl⟩ := trodAll_nil r2
    obtain rfl : args = #[v0, v1, v2] := by cases args; simp_all
    obtain ⟨a0, s0, rfl⟩ := open_nm (A := N12) (by kernel_rfl) (by kernel_rfl) (by kernel_rfl) (hval 0 34 v0 rfl rfl) h0
    obtain ⟨a1, s1, rfl⟩ := open_nm (A := N12) (by kernel_rfl) (by kernel_rfl) (by kernel_rfl) (hval 1 34 v1 rfl rfl) h1
    obtain ⟨a2, s2, rfl⟩ := open_nm (A := N2) (by kernel_rfl) (by kernel_rfl) (by kernel_rfl) (hval 2 30 v2 rfl rfl) h2
    exact pairingOrders_gives a0 s0 a1 s1 a2 s2 W

theorem pairingOrders_k0 : Rows.pairingOrdersRow.wf (OpenSpec.ofChange Rows.pairingOrdersSpec) = true := by kernel_rfl
theorem pairingOrders_k1 : laidOutB Try.prog = true := by kernel_rfl
theorem pairingOrders_k2 : mapsRowed Try.prog = true := by kernel_rfl
theorem pairingOrders_k3 : Try.f5.params.all (Try.prog.readableRec ·) = true := by kernel_rfl
theorem pairingOrders_k4 : namedTie Try.prog Rows.pairingOrdersRow.named Rows.pairingOrdersSpec.vars = true := by kernel_rfl
theorem pairingOrders_k5 : (Rows.pairingOrdersRow.stops == []) = true := by kernel_rfl
theorem pairingOrders_k6 : (Try.prog.stops == []) = true := by kernel_rfl
theorem pairingOrders_k7 : (Rows.pairingOrdersRow.knobs == []) = true := by kernel_rfl
theorem pairingOrders_k8 : (Try.prog.stopKnobs == []) = true := by kernel_rfl
theorem pairingOrders_k9 : (Rows.pairingOrdersRow.inPlace == Try.prog.inPlace 5) = true := by kernel_rfl
theorem pairingOrders_k10 : (Rows.pairingOrdersRow.unfollowed == Try.prog.unfollowed 5) = true := by kernel_rfl
theorem pairingOrders_k11 : (Rows.pairingOrdersRow.recurses == Try.prog.recurses 5) = true := by kernel_rfl
theorem pairingOrders_k12 : (Rows.pairingOrdersRow.named == Try.prog.varsNamed 5) = true := by kernel_rfl
theorem pairingOrders_k13 : (Rows.pairingOrdersRow.maps == (Try.f5.params.toList ++ Rows.pairingOrdersSpec.plain.varTypes Try.prog).any (Try.prog.mapsRec ·)) = true := by kernel_rfl
theorem pairingOrders_k14 : (Rows.pairingOrdersRow.ifaces == (Try.f5.params.toList ++ Rows.pairingOrdersSpec.plain.varTypes Try.prog).any (Try.prog.ifacesRec ·)) = true := by kernel_rfl
theorem pairingOrders_k15 : (Rows.pairingOrdersRow.mapsOut == Try.prog.mapsAmong Try.f5.resultTypes.toList) = true := by kernel_rfl
theorem pairingOrders_k16 : (Rows.pairingOrdersRow.loops == (Try.f5.params.toList ++ Rows.pairingOrdersSpec.plain.varTypes Try.prog).any (Try.prog.loopsFrom ·)) = true := by kernel_rfl
theorem pairingOrders_k17 : (Rows.pairingOrdersRow.wideKeys == (Try.f5.params.toList ++ Rows.pairingOrdersSpec.plain.varTypes Try.prog ++ Try.f5.resultTypes.toList).any (Try.prog.wideKeysFrom ·)) = true := by kernel_rfl
theorem pairingOrders_k18 : Rows.pairingOrdersSpec.vars.all (Try.prog.varReadable ·) = true := by kernel_rfl
theorem pairingOrders_k19 : Try.f5.resultTypes.all (fun t => Try.prog.readableRec t && decide (t < Try.prog.types.size)) = true := by kernel_rfl
theorem pairingOrders_k20 : (Rows.pairingOrdersRow.ifacesOut == Try.f5.resultTypes.toList.any (Try.prog.ifacesRec ·)) = true := by kernel_rfl
theorem pairingOrders_k21 : (Rows.pairingOrdersRow.loopsOut == Try.f5.resultTypes.toList.any (Try.prog.loopsFrom ·)) = true := by kernel_rfl
theorem pairingOrders_k22 : (Rows.pairingOrdersRow.plainKeys == Try.prog.plainKeys) = true := by kernel_rfl
theorem pairingOrders_k23 : Rows.pairingOrdersRow.shortTexts.isNone = true := by kernel_rfl
theorem pairingOrders_k24 : Try.prog.stopsHeard = true := by kernel_rfl
theorem pairingOrders_k25 : Try.prog.mayEnter = true := sk25
theorem pairingOrders_k26 : (Rows.pairingOrdersRow.lifted == Try.prog.liftsFinal) = true := (congrArg (· == Try.prog.liftsFinal) (show Rows.pairingOrdersRow.lifted = Rows.pairingNamesRow.lifted by kernel_rfl)).trans sk26
theorem pairingOrders_k27 : (Try.prog.make == some Rows.pairingOrdersRow.make) = true := (congrArg (fun m => Try.prog.make == some m) (show Rows.pairingOrdersRow.make = Rows.pairingNamesRow.make by kernel_rfl)).trans sk27
theorem pairingOrders_k28 : (Rows.pairingOrdersRow.kinds == (if Rows.pairingOrdersRow.domain.isEmpty then [] else Try.f5.params.toList.map fun t => match Try.prog.underlying t with | some (.int k) => some k | _ => none)) = true := by kernel_rfl
theorem pairingOrders_k29 : (Rows.pairingOrdersRow.pinned == Rows.pairingOrdersRow.pinnedBy) = true := by kernel_rfl
theorem pairingOrders_k30 : (Rows.pairingOrdersRow.veiled == (Try.f5.params.toList ++ Rows.pairingOrdersSpec.plain.varTypes Try.prog ++ Try.f5.resultTypes.toList).any (Try.prog.veiledRec ·)) = true := by kernel_rfl
theorem pairingOrders_k31 : Rows.pairingOrdersRow.veiledFits Try.prog Try.f5.params.toList (Try.f5.params.toList ++ Rows.pairingOrdersSpec.plain.varTypes Try.prog ++ Try.f5.resultTypes.toList) = true := by kernel_rfl
set_option maxRecDepth 100000 in
theorem pairingOrders_join : joinedFacts Try.prog 5 Try.f5 Rows.pairingOrdersSpec Rows.pairingOrdersRow = true := joined_mk pairingOrders_k0 pairingOrders_k1 pairingOrders_k2 pairingOrders_k3 pairingOrders_k4 pairingOrders_k5 pairingOrders_k6 pairingOrders_k7 pairingOrders_k8 pairingOrders_k9 pairingOrders_k10 pairingOrders_k11 pairingOrders_k12 pairingOrders_k13 pairingOrders_k14 pairingOrders_k15 pairingOrders_k16 pairingOrders_k17 pairingOrders_k18 pairingOrders_k19 pairingOrders_k20 pairingOrders_k21 pairingOrders_k22 pairingOrders_k23 pairingOrders_k24 pairingOrders_k25 pairingOrders_k26 pairingOrders_k27 pairingOrders_k28 pairingOrders_k29 pairingOrders_k30 pairingOrders_k31
theorem pairingOrders_named : Try.prog.funcNamed Rows.pairingOrdersRow.func = some 5 := by kernel_rfl
theorem pairingOrders_wrap : Try.f5.isWrapper Try.prog Rows.pairingOrdersRow.wrapper Rows.pairingOrdersRow.mainSum := by unfold Func.isWrapper; first | (rw [if_pos (by decide +kernel)]; kernel_rfl) | (rw [if_neg (by decide +kernel)]; exact ⟨rfl, rfl⟩)
theorem pairingOrders_over : Rows.pairingOrdersRow.holds Try.pinned (OpenSpec.ofChange Rows.pairingOrdersSpec) :=
  OpenClaim.holds_of_wide 5 Try.f5 rfl rfl rfl rfl rfl rfl rfl ⟨rfl, rfl, rfl, rfl, rfl⟩ rfl rfl rfl rfl rfl pairingOrders_named Try.func5 pairingOrders_join
    (of_decide_eq_true (by kernel_rfl)) pairingOrders_wrap
    (fun os started H enc _ => pairingOrders_lifted os started H enc)

/-- The statement. -/
theorem pairingOrders_holds : Rows.PairingOrdersSaid := pairingOrders_over
#print axioms pairingOrders_holds
end Go.Proofs.Ytfgbkanbppehgaa
