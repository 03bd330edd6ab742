/-
  Fp2Field: for every input the call returns true, and each argument reads behind it as before. No condition.
-/
import Derived.Test.YtkpihidjolfkoaaRows
import Derived.Test.YtkpihidjolfkoaaSay
import Derived.Test.YtkpihidjolfkoaaLa7
import Derived.ProofKit
import Derived.OpenShut
namespace Go.Proofs.Ytkpihidjolfkoaa
open Go Go.Eng Go.RowKit Go.ChangeShapes Go.WideShapes Go.ChangeAt
set_option linter.unusedVariables false

set_option maxRecDepth 100000 in
theorem fp2Field_lifted (os : Os) (started : os.Started) (H : Type) (enc : TypeId × Value → H) :
    ReturnsInHanded {} Try.checked os 11 .any (Rows.fp2FieldSpec.pre6 enc Try.prog Try.f11 Rows.fp2FieldRow.domain false) (Rows.fp2FieldSpec.post enc Try.prog Try.f11 false true false false) := by
  refine lifted_any (C := Try.checked) say_own started (by kernel_rfl) Try.func11
    (ChangeSpec.witness6 (enc := enc) (C := Try.checked) false ⟨#[], #[.agg (Array.replicate 12 (.int .u64 0)), .agg (Array.replicate 12 (.int .u64 0)), .agg (Array.replicate 12 (.int .u64 0))], []⟩ 8 (by kernel_rfl) (by kernel_rfl) (by kernel_rfl) (by kernel_rfl))
    say_laid (by kernel_rfl) rfl (tb := 4) (by kernel_rfl) (by kernel_rfl) (fun ds hd => ?_) ?_
  · rw [Try.params11] at hd
    match ds, hd with
    | [d0, d1, d2], _ => exact ⟨rfl, rfl, rfl⟩
  · intro W base args ds ps hval hA hlt
    rw [Try.params11] at hA hval
    obtain ⟨v0, vs0, d0, ds0, p0, q0, hargs, rfl, rfl, h0, r0⟩ := trodAll_cons hA
    obtain ⟨v1, vs1, d1, ds1, p1, q1, rfl, rfl, rfl, h1, r1⟩ := trodAll_cons r0
    obtain ⟨v2, vs2, d2, ds2, p2, q2, rfl, rfl, rfl, h2, r2⟩ := trodAll_cons r1
    obtain ⟨rfl, rfl, rfl⟩ := trodAll_nil r2
    obtain rfl : args = #[v0, v1, v2] := by cases args; simp_all
    obtain ⟨a0, s0, rfl⟩ := open_nm (A := N2) (by kernel_rfl) (by kernel_rfl) (by kernel_rfl) (hval 0 26 v0 rfl rfl) h0
    obtain ⟨a1, s1, rfl⟩ := open_nm (A := N2) (by kernel_rfl) (by kernel_rfl) (by kernel_rfl) (hval 1 26 v1 rfl rfl) h1
    obtain ⟨a2, s2, rfl⟩ := open_nm (A := N2) (by kernel_rfl) (by kernel_rfl) (by kernel_rfl) (hval 2 26 v2 rfl rfl) h2
    exact fp2Field_gives a0 s0 a1 s1 a2 s2 W

theorem fp2Field_over : Rows.fp2FieldRow.holds Try.pinned (OpenSpec.ofChange Rows.fp2FieldSpec) :=
  OpenClaim.holds_of_wide 11 Try.f11 rfl rfl rfl rfl rfl rfl rfl ⟨rfl, rfl, rfl, rfl, rfl⟩ rfl rfl rfl rfl rfl (by kernel_rfl) Try.func11 (by kernel_rfl)
    (of_decide_eq_true (by kernel_rfl)) (by unfold Func.isWrapper; first | (rw [if_pos (by decide +kernel)]; kernel_rfl) | (rw [if_neg (by decide +kernel)]; exact ⟨rfl, rfl⟩))
    (fun os started H enc _ => fp2Field_lifted os started H enc)

/-- The statement. -/
theorem fp2Field_holds : Rows.Fp2FieldSaid := fp2Field_over
#print axioms fp2Field_holds
end Go.Proofs.Ytkpihidjolfkoaa
