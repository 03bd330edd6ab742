/-
  Points among the arguments.
-/
import Derived.Test.YthceokldlinjlaaOp
import Derived.Test.YthceokldlinjlaaCd
namespace Go.Proofs.Ythceokldlinjlaa
open Go Go.Eng Go.RowKit Go.Wd Go.ChangeShapes Go.WideShapes Go.Alg
section
variable {H : Type} {enc : TypeId × Value → H}
set_option maxRecDepth 100000 in
theorem open_pt {A : Type} [Nm A] {W : World} {base : Nat} {t : TypeId} {v : Value} {d : DataW H} {ps : List MemPlace} (ha : ((Try.prog.underlying t).any aggD) = true)
    (hk : flat Try.prog 8 t = some (List.replicate (6 * Nm.k A) (some .u64) ++ [none])) (hc : Try.prog.cellsOf t = 6 * Nm.k A + 1) (hv : Value.okWide Try.prog W .any base t v) (ht : DataW.Trod enc Try.prog W 0 (fun _ => true) true t v d ps) :
    ∃ a : A × Bool, Sm a.1 ∧ v = wpv a := by
  obtain ⟨u, hu, ha⟩ := (Option.any_eq_true _ _).1 ha
  obtain ⟨l, b, h1, h2, h3⟩ := open_sixb (Nm.k A) hu ha hk hc hv ht
  refine ⟨(Nm.ofL l, b), fun n hn => ?_, ?_⟩
  · rw [Nm.to_of l h1] at hn
    exact h2 n hn
  · have e := h3 rho0
    have e2 := val_wP rho0 ((Nm.ofL l, b) : A × Bool)
    unfold wP at e2
    rw [Nm.to_of l h1, e] at e2
    cases e2; rfl
theorem wf_u64 {k : Int} (h : (Lit.int .u64 k).wf = true) : 0 ≤ k ∧ k < 18446744073709551616 := by
  simp only [Lit.wf, Bool.and_eq_true, decide_eq_true_eq] at h
  have h1 : IntKind.u64.min = 0 := rfl
  have h2 : IntKind.u64.max = 18446744073709551615 := rfl
  omega
end
end Go.Proofs.Ythceokldlinjlaa
