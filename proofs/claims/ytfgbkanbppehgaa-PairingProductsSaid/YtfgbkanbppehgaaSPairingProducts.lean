/-
  PairingProducts: for every input the call returns true, and each argument reads behind it as before. No condition.
-/
import Derived.Test.YtfgbkanbppehgaaRows
import Derived.Test.YtfgbkanbppehgaaSay
import Derived.Test.YtfgbkanbppehgaaJoin
import Derived.Test.YtfgbkanbppehgaaK
import Derived.Test.YtfgbkanbppehgaaLaQ16
import Derived.ProofKit
import Derived.OpenShut
namespace Go.Proofs.Ytfgbkanbppehgaa
open Go Go.Eng Go.RowKit Go.ChangeShapes Go.WideShapes Go.ChangeAt
set_option linter.unusedVariables false

set_option maxRecDepth 100000 in
theorem pairingProducts_lifted (os : Os) (started : os.Started) (H : Type) (enc : TypeId × Value → H) :
    ReturnsInHanded {} Try.checked os 4 .any (Rows.pairingProductsSpec.pre6 enc Try.prog Try.f4 Rows.pairingProductsRow.domain false) (Rows.pairingProductsSpec.post enc Try.prog Try.f4 false true false false) := by
  refine lifted_any (C := Try.checked) say_own started (by kernel_rfl) Try.func4
    (ChangeSpec.witness6 (enc := enc) (C := Try.checked) false ⟨#[], #[.slice none 0 0, .slice none 0 0], []⟩ 8 (by kernel_rfl) (by kernel_rfl) (by kernel_rfl) (by kernel_rfl))
    say_laid (by kernel_rfl) rfl (tb := 4) (by kernel_rfl) (by kernel_rfl) (fun ds hd => ?_) ?_
  · rw [Try.params4] at hd
    match ds, hd with
    | [d0, d1], _ => exact ⟨rfl, rfl, rfl⟩
  · intro W base args ds ps hval hA hlt
    rw [Try.params4] at hA hval
    obtain ⟨v0, vs0, d0, ds0, p0, q0, hargs, rfl, rfl, h0, r0⟩ := trodAll_cons hA
    obtain ⟨v1, vs1, d1, ds1, p1, q1, rfl, rfl, rfl, h1, r1⟩ := trodAll_cons r0
    obtain ⟨rfl, rfl, rfl⟩ := trodAll_nil r1
    obtain rfl : args = #[v0, v1] := by cases args; simp_all
    exact pairingProducts_gives v0 W (open_pts (A := A1) (e := 41) (by kernel_rfl) (by kernel_rfl) (by kernel_rfl) (hval 0 23 v0 rfl rfl) h0) v1 (open_pts (A := A2) (e := 43) (by kernel_rfl) (by kernel_rfl) (by kernel_rfl) (hval 1 24 v1 rfl rfl) h1)

theorem pairingProducts_k0 : Rows.pairingProductsRow.wf (OpenSpec.ofChange Rows.pairingProductsSpec) = true := by kernel_rfl
theorem pairingProducts_k1 : laidOutB Try.prog = true := by kernel_rfl
theorem pairingProducts_k2 : mapsRowed Try.prog = true := by kernel_rfl
theorem pairingProducts_k3 : Try.f4.params.all (Try.prog.readableRec ·) = true := by kernel_rfl
theorem pairingProducts_k4 : namedTie Try.prog Rows.pairingProductsRow.named Rows.pairingProductsSpec.vars = true := by kernel_rfl
theorem pairingProducts_k5 : (Rows.pairingProductsRow.stops == []) = true := by kernel_rfl
theorem pairingProducts_k6 : (Try.prog.stops == []) = true := by kernel_rfl
theorem pairingProducts_k7 : (Rows.pairingProductsRow.knobs == []) = true := by kernel_rfl
theorem pairingProducts_k8 : (Try.prog.stopKnobs == []) = true := by kernel_rfl
theorem pairingProducts_k9 : (Rows.pairingProductsRow.inPlace == Try.prog.inPlace 4) = true := by kernel_rfl
theorem pairingProducts_k10 : (Rows.pairingProductsRow.unfollowed == Try.prog.unfollowed 4) = true := by kernel_rfl
theorem pairingProducts_k11 : (Rows.pairingProductsRow.recurses == Try.prog.recurses 4) = true := by kernel_rfl
theorem pairingProducts_k12 : (Rows.pairingProductsRow.named == Try.prog.varsNamed 4) = true := by kernel_rfl
theorem pairingProducts_k13 : (Rows.pairingProductsRow.maps == (Try.f4.params.toList ++ Rows.pairingProductsSpec.plain.varTypes Try.prog).any (Try.prog.mapsRec ·)) = true := by kernel_rfl
theorem pairingProducts_k14 : (Rows.pairingProductsRow.ifaces == (Try.f4.params.toList ++ Rows.pairingProductsSpec.plain.varTypes Try.prog).any (Try.prog.ifacesRec ·)) = true := by kernel_rfl
theorem pairingProducts_k15 : (Rows.pairingProductsRow.mapsOut == Try.prog.mapsAmong Try.f4.resultTypes.toList) = true := by kernel_rfl
theorem pairingProducts_k16 : (Rows.pairingProductsRow.loops == (Try.f4.params.toList ++ Rows.pairingProductsSpec.plain.varTypes Try.prog).any (Try.prog.loopsFrom ·)) = true := by kernel_rfl
theorem pairingProducts_k17 : (Rows.pairingProductsRow.wideKeys == (Try.f4.params.toList ++ Rows.pairingProductsSpec.plain.varTypes Try.prog ++ Try.f4.resultTypes.toList).any (Try.prog.wideKeysFrom ·)) = true := by kernel_rfl
theorem pairingProducts_k18 : Rows.pairingProductsSpec.vars.all (Try.prog.varReadable ·) = true := by kernel_rfl
theorem pairingProducts_k19 : Try.f4.resultTypes.all (fun t => Try.prog.readableRec t && decide (t < Try.prog.types.size)) = true := by kernel_rfl
theorem pairingProducts_k20 : (Rows.pairingProductsRow.ifacesOut == Try.f4.resultTypes.toList.any (Try.prog.ifacesRec ·)) = true := by kernel_rfl
theorem pairingProducts_k21 : (Rows.pairingProductsRow.loopsOut == Try.f4.resultTypes.toList.any (Try.prog.loopsFrom ·)) = true := by kernel_rfl
theorem pairingProducts_k22 : (Rows.pairingProductsRow.plainKeys == Try.prog.plainKeys) = true := by kernel_rfl
theorem pairingProducts_k23 : Rows.pairingProductsRow.shortTexts.isNone = true := by kernel_rfl
theorem pairingProducts_k24 : Try.prog.stopsHeard = true := by kernel_rfl
theorem pairingProducts_k25 : Try.prog.mayEnter = true := sk25
theorem pairingProducts_k26 : (Rows.pairingProductsRow.lifted == Try.prog.liftsFinal) = true := (congrArg (· == Try.prog.liftsFinal) (show Rows.pairingProductsRow.lifted = Rows.pairingNamesRow.lifted by kernel_rfl)).trans sk26
theorem pairingProducts_k27 : (Try.prog.make == some Rows.pairingProductsRow.make) = true := (congrArg (fun m => Try.prog.make == some m) (show Rows.pairingProductsRow.make = Rows.pairingNamesRow.make by kernel_rfl)).trans sk27
theorem pairingProducts_k28 : (Rows.pairingProductsRow.kinds == (if Rows.pairingProductsRow.domain.isEmpty then [] else Try.f4.params.toList.map fun t => match Try.prog.underlying t with | some (.int k) => some k | _ => none)) = true := by kernel_rfl
theorem pairingProducts_k29 : (Rows.pairingProductsRow.pinned == Rows.pairingProductsRow.pinnedBy) = true := by kernel_rfl
theorem pairingProducts_k30 : (Rows.pairingProductsRow.veiled == (Try.f4.params.toList ++ Rows.pairingProductsSpec.plain.varTypes Try.prog ++ Try.f4.resultTypes.toList).any (Try.prog.veiledRec ·)) = true := by kernel_rfl
theorem pairingProducts_k31 : Rows.pairingProductsRow.veiledFits Try.prog Try.f4.params.toList (Try.f4.params.toList ++ Rows.pairingProductsSpec.plain.varTypes Try.prog ++ Try.f4.resultTypes.toList) = true := by kernel_rfl
set_option maxRecDepth 100000 in
theorem pairingProducts_join : joinedFacts Try.prog 4 Try.f4 Rows.pairingProductsSpec Rows.pairingProductsRow = true := joined_mk pairingProducts_k0 pairingProducts_k1 pairingProducts_k2 pairingProducts_k3 pairingProducts_k4 pairingProducts_k5 pairingProducts_k6 pairingProducts_k7 pairingProducts_k8 pairingProducts_k9 pairingProducts_k10 pairingProducts_k11 pairingProducts_k12 pairingProducts_k13 pairingProducts_k14 pairingProducts_k15 pairingProducts_k16 pairingProducts_k17 pairingProducts_k18 pairingProducts_k19 pairingProducts_k20 pairingProducts_k21 pairingProducts_k22 pairingProducts_k23 pairingProducts_k24 pairingProducts_k25 pairingProducts_k26 pairingProducts_k27 pairingProducts_k28 pairingProducts_k29 pairingProducts_k30 pairingProducts_k31
theorem pairingProducts_named : Try.prog.funcNamed Rows.pairingProductsRow.func = some 4 := by kernel_rfl
theorem pairingProducts_wrap : Try.f4.isWrapper Try.prog Rows.pairingProductsRow.wrapper Rows.pairingProductsRow.mainSum := by unfold Func.isWrapper; first | (rw [if_pos (by decide +kernel)]; kernel_rfl) | (rw [if_neg (by decide +kernel)]; exact ⟨rfl, rfl⟩)
theorem pairingProducts_over : Rows.pairingProductsRow.holds Try.pinned (OpenSpec.ofChange Rows.pairingProductsSpec) :=
  OpenClaim.holds_of_wide 4 Try.f4 rfl rfl rfl rfl rfl rfl rfl ⟨rfl, rfl, rfl, rfl, rfl⟩ rfl rfl rfl rfl rfl pairingProducts_named Try.func4 pairingProducts_join
    (of_decide_eq_true (by kernel_rfl)) pairingProducts_wrap
    (fun os started H enc _ => pairingProducts_lifted os started H enc)

/-- The statement. -/
theorem pairingProducts_holds : Rows.PairingProductsSaid := pairingProducts_over
#print axioms pairingProducts_holds
end Go.Proofs.Ytfgbkanbppehgaa
