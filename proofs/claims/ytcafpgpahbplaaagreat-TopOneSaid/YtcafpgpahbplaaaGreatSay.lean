/-
  Arguments of the statements as tuples of numbers.
-/
import Derived.Test.YtcafpgpahbplaaaGreatZ07
namespace Go.Proofs.YtcafpgpahbplaaaGreat
open Go Go.Eng Go.RowKit Go.Wd Go.ChangeShapes Go.WideShapes

theorem say_own : ownKnob Tryz.prog.godebug = none := by kernel_rfl
theorem say_laid : laidOutB Tryz.prog = true := by kernel_rfl
section
variable {H : Type} {enc : TypeId × Value → H}
set_option maxRecDepth 100000 in
theorem open_nm {A : Type} [Nm A] {W : World} {base : Nat} {t : TypeId} {v : Value} {d : DataW H} {ps : List MemPlace} (ha : ((Tryz.prog.underlying t).any kX) = true)
    (hk : flat Tryz.prog 8 t = some (List.replicate (6 * Nm.k A) (some .u64))) (hc : Tryz.prog.cellsOf t = 6 * Nm.k A) (hv : Value.okWide Tryz.prog W .any base t v) (ht : DataW.Trod enc Tryz.prog W 0 (fun _ => true) true t v d ps) :
    ∃ a : A, Sm a ∧ v = wv a := by
  obtain ⟨u, hu, ha⟩ := (Option.any_eq_true _ _).1 ha
  obtain ⟨l, h1, h2, h3⟩ := zda (Nm.k A) hu ha hk hc hv ht
  refine ⟨Nm.ofL l, fun n hn => ?_, ?_⟩
  · rw [Nm.to_of l h1] at hn
    exact h2 n hn
  · have e := h3 rho0
    have e2 := gr rho0 (Nm.ofL l : A)
    unfold wN at e2
    rw [Nm.to_of l h1, e] at e2
    cases e2; rfl
end
end Go.Proofs.YtcafpgpahbplaaaGreat
