/-
  The document's numbers with w: rows of sigilref10.
-/
import Derived.Test.YtmebkhfdhbjacaaRg9
import Derived.Test.YtmebkhfdhbjacaaPwB
namespace Go.Proofs.Ytmebkhfdhbjacaa
open Go Go.Eng Go.RowKit Go.Wd Go.Alg Go.Pr

noncomputable def TG6 : CallT := tableT rowsH9
theorem TG6_ok : CallOk Try.prog TG6 := tableT_ok rowsH9_ok
theorem ref12_conj_run (x : N12) : run1 TG6 123 [wN x] [] = some (.one (wN (red6 x.1, neg6 x.2)), []) := by kernel_rfl
theorem ref12_conj (x : N12) : Pure Try.prog 123 [wv x] (wv (conj12 x)) := pureN_of_run TG6_ok (ref12_conj_run x) (fun _ h => by cases h) (vals1 x) (n12_eq rfl rfl)
theorem ref12_mul_run (x y : N12) : run1 TG6 122 [wN x, wN y] [] = some (.one (wN (add6 (mul6 x.1 y.1) (v6 (mul6 x.2 y.2)), add6 (mul6 x.1 y.2) (mul6 x.2 y.1))), []) := by kernel_rfl
theorem ref12_mul (x y : N12) : Pure Try.prog 122 [wv x, wv y] (wv (mul12 x y)) := by
  refine pureN_of_run TG6_ok (ref12_mul_run x y) (fun _ h => by cases h) (vals2 x y) (n12_eq ?_ ?_)
  · simp only [add6, mul6, v6, ικ6]
    exact congrArg κ6 (ident (env [ι6 x.1, ι6 x.2, ι6 y.1, ι6 y.2, vv]) (x0 * x2 + x1 * x3 * x4) (x0 * x2 + x4 * (x1 * x3)) (by decide +kernel))
  · simp only [add6, mul6, ικ6]
    exact congrArg κ6 (ident (env [ι6 x.1, ι6 x.2, ι6 y.1, ι6 y.2]) (x0 * x3 + x1 * x2) (x0 * x3 + x1 * x2) (by decide +kernel))
noncomputable def rowsG10a : List Row :=
  rowN1 123 conj12 :: rowN2 122 mul12 :: rowsH9
theorem rowsG10a_ok : ∀ r ∈ rowsG10a, RowOk Try.prog r := by
  unfold rowsG10a
  simp only [List.forall_mem_cons]
  exact ⟨rowN1_ok ref12_conj, rowN2_ok ref12_mul, rowsH9_ok⟩
noncomputable def rowsG10 : List Row :=
  rowsG10a
theorem rowsG10_ok : ∀ r ∈ rowsG10, RowOk Try.prog r := by
  unfold rowsG10
  exact rowsG10a_ok
theorem ref12_one_run : run1 (tableT rowsG10) 26 [] [] = some (.one ⟨true, one72⟩, []) := by kernel_rfl
theorem ref12_one : Pure Try.prog 26 [] (wv (κ12 1)) := by
  refine pure_of_run1 (tableT_ok rowsG10_ok) ref12_one_run (fun p hp => by cases hp) vals0 fun ρ u hu => ?_
  obtain ⟨vs, h1, h2⟩ := AV.cells (x := ⟨true, one72⟩) (by exact hu)
  have h3 := one72_conc ρ vs h1
  rw [conc_ws] at h3
  rcases h2 with ⟨_, rfl⟩ | ⟨h2, _⟩
  · cases h3; rfl
  · cases h2
noncomputable def rowsH10 : List Row := rowN0 26 (κ12 1) :: rowsG10
theorem rowsH10_ok : ∀ r ∈ rowsH10, RowOk Try.prog r := by
  simp only [rowsH10, List.forall_mem_cons]
  exact ⟨rowN0_ok ref12_one, rowsG10_ok⟩
end Go.Proofs.Ytmebkhfdhbjacaa
