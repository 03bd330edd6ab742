/-
  The document's points of the curve G1: the rows of sigilref12.
-/
import Derived.Test.YthceokldlinjlaaU1
import Derived.Test.YthceokldlinjlaaRj
namespace Go.Proofs.Ythceokldlinjlaa
open Go Go.Eng Go.RowKit Go.Wd Go.Alg Go.Pr

noncomputable def TR1 : CallT := tableT rowsI4
theorem TR1_ok : CallOk Try.prog TR1 := tableT_ok rowsI4_ok

/-! ### Reduce, On, Neg -/
theorem rg1_reduce_runT (x : A1) : run1 TR1 123 [wP (x, true)] [] = some (.one (wP ((0, 0), true)), []) := by kernel_rfl
theorem rg1_reduce_runF (x : A1) : run1 TR1 123 [wP (x, false)] [] = some (.one (wP ((rdN x.1, rdN x.2), false)), []) := by kernel_rfl
theorem rg1_reduce (x : P1) : Pure Try.prog 123 [wpv x] (wpv (κP1 (ιP1 x))) := by
  obtain ⟨x, b⟩ := x
  cases b with
  | true => exact pureC_of_run TR1_ok (kdP A1).rs (rg1_reduce_runT x) (fun _ h => by cases h) (valsC1 (kdP _) _) rfl
  | false => exact pureC_of_run TR1_ok (kdP A1).rs (rg1_reduce_runF x) (fun _ h => by cases h) (valsC1 (kdP _) _) rfl
theorem rg1_on_runT (x : A1) : run1 TR1 122 [wP (x, true)] [] = some (vB true, []) := by kernel_rfl
theorem rg1_on_runF (x : A1) : ∀ h : Bool, run1 TR1 122 [wP (x, false)] [(23, h)] = some (vB h, [onW1 x h])
  | true => by kernel_rfl
  | false => by kernel_rfl
theorem rg1_on (x : P1) : Pure Try.prog 122 [wpv x] (.bool (onB1 x)) := by
  obtain ⟨x, b⟩ := x
  cases b with
  | true => exact pureB_run TR1_ok (rg1_on_runT x) (fun _ h => by cases h) (valsC1 (kdP _) _) (((onB1_iff (x, true)).2 trivial).symm)
  | false => exact pureB_run TR1_ok (rg1_on_runF x (onB1 (x, false))) (one_mem (onW1_ok (onB1_iff (x, false)).symm)) (valsC1 (kdP _) _) rfl
noncomputable def rowsRA1 : List Row :=
  rowC1 (kdP A1) (kdP A1).rs 123 (fun x => κP1 (ιP1 x)) ::
  rowC1 (kdP A1) kdB.rs 122 onB1 :: rowsI4
theorem rowsRA1_ok : ∀ r ∈ rowsRA1, RowOk Try.prog r := by
  unfold rowsRA1
  refine List.forall_mem_cons.2 ⟨rowC1_ok rg1_reduce, ?_⟩
  exact List.forall_mem_cons.2 ⟨rowC1_ok rg1_on, rowsI4_ok⟩
noncomputable def TRA1 : CallT := tableT rowsRA1
theorem TRA1_ok : CallOk Try.prog TRA1 := tableT_ok rowsRA1_ok

theorem ι_k2_1 : φ 2 = 1 + 1 := by
  have : κF1 (φ 2) = κF1 (1 + 1) := by decide +kernel
  exact κF1_inj this
theorem ι_k3_1 : φ 3 = 1 + 1 + 1 := by
  have : κF1 (φ 3) = κF1 (1 + 1 + 1) := by decide +kernel
  exact κF1_inj this
/-! ### fractions -/
theorem rg1_twice_run (f : J1) : run1 TR1 124 [wN f] [] = some (.one (wN (((subF (mulF (mulF 3 (mulF f.1 f.1)) (mulF 3 (mulF f.1 f.1))) (addF (mulF 4 (mulF f.1 (mulF f.2.1 f.2.1))) (mulF 4 (mulF f.1 (mulF f.2.1 f.2.1))))), (subF (mulF (mulF 3 (mulF f.1 f.1)) (subF (mulF 4 (mulF f.1 (mulF f.2.1 f.2.1))) (subF (mulF (mulF 3 (mulF f.1 f.1)) (mulF 3 (mulF f.1 f.1))) (addF (mulF 4 (mulF f.1 (mulF f.2.1 f.2.1))) (mulF 4 (mulF f.1 (mulF f.2.1 f.2.1))))))) (mulF 8 (mulF (mulF f.2.1 f.2.1) (mulF f.2.1 f.2.1)))), (mulF 2 (mulF f.2.1 f.2.2))) : J1)), []) := by kernel_rfl
theorem ι_k4_1 : φ 4 = 1 + 1 + 1 + 1 := by
  have : κF1 (φ 4) = κF1 (1 + 1 + 1 + 1) := by decide +kernel
  exact κF1_inj this
theorem ι_k8_1 : φ 8 = 1 + 1 + 1 + 1 + 1 + 1 + 1 + 1 := by
  have : κF1 (φ 8) = κF1 (1 + 1 + 1 + 1 + 1 + 1 + 1 + 1) := by decide +kernel
  exact κF1_inj this
theorem rg1_twice (f : J1) : Pure Try.prog 124 [wv f] (wv (tw1 f)) := by
  refine pureC_of_run TR1_ok (kdN J1).rs (rg1_twice_run f) (fun _ h => by cases h) (valsC1 (kdN _) _) ?_
  unfold tw1 κJ1 jdbl ιJ1
  simp only [mulF, addF, subF, φκ, ι_k2_1, ι_k3_1, ι_k4_1, ι_k8_1]
  refine Prod.ext (congrArg κF1 ?_) (Prod.ext (congrArg κF1 ?_) (congrArg κF1 ?_))
  · exact ident (env [φ f.1, φ f.2.1, φ f.2.2]) (((((1 + 1 + 1) * (v0 * v0)) * ((1 + 1 + 1) * (v0 * v0))) - (((1 + 1 + 1 + 1) * (v0 * (v1 * v1))) + ((1 + 1 + 1 + 1) * (v0 * (v1 * v1)))))) ((((((v0 * v0) + (v0 * v0)) + (v0 * v0)) * (((v0 * v0) + (v0 * v0)) + (v0 * v0))) - ((((v0 * (v1 * v1)) + (v0 * (v1 * v1))) + ((v0 * (v1 * v1)) + (v0 * (v1 * v1)))) + (((v0 * (v1 * v1)) + (v0 * (v1 * v1))) + ((v0 * (v1 * v1)) + (v0 * (v1 * v1))))))) (by decide +kernel)
  · exact ident (env [φ f.1, φ f.2.1, φ f.2.2]) (((((1 + 1 + 1) * (v0 * v0)) * (((1 + 1 + 1 + 1) * (v0 * (v1 * v1))) - ((((1 + 1 + 1) * (v0 * v0)) * ((1 + 1 + 1) * (v0 * v0))) - (((1 + 1 + 1 + 1) * (v0 * (v1 * v1))) + ((1 + 1 + 1 + 1) * (v0 * (v1 * v1))))))) - ((1 + 1 + 1 + 1 + 1 + 1 + 1 + 1) * ((v1 * v1) * (v1 * v1))))) ((((((v0 * v0) + (v0 * v0)) + (v0 * v0)) * ((((v0 * (v1 * v1)) + (v0 * (v1 * v1))) + ((v0 * (v1 * v1)) + (v0 * (v1 * v1)))) - (((((v0 * v0) + (v0 * v0)) + (v0 * v0)) * (((v0 * v0) + (v0 * v0)) + (v0 * v0))) - ((((v0 * (v1 * v1)) + (v0 * (v1 * v1))) + ((v0 * (v1 * v1)) + (v0 * (v1 * v1)))) + (((v0 * (v1 * v1)) + (v0 * (v1 * v1))) + ((v0 * (v1 * v1)) + (v0 * (v1 * v1)))))))) - (((((v1 * v1) * (v1 * v1)) + ((v1 * v1) * (v1 * v1))) + (((v1 * v1) * (v1 * v1)) + ((v1 * v1) * (v1 * v1)))) + ((((v1 * v1) * (v1 * v1)) + ((v1 * v1) * (v1 * v1))) + (((v1 * v1) * (v1 * v1)) + ((v1 * v1) * (v1 * v1))))))) (by decide +kernel)
  · exact ident (env [φ f.1, φ f.2.1, φ f.2.2]) (((1 + 1) * (v1 * v2))) (((v1 * v2) + (v1 * v2))) (by decide +kernel)
noncomputable def rowsRB1 : List Row := rowN1 124 tw1 :: rowsRA1
theorem rowsRB1_ok : ∀ r ∈ rowsRB1, RowOk Try.prog r := by
  simp only [rowsRB1, List.forall_mem_cons]
  exact ⟨rowN1_ok rg1_twice, rowsRA1_ok⟩
noncomputable def TRB1 : CallT := tableT rowsRB1
theorem TRB1_ok : CallOk Try.prog TRB1 := tableT_ok rowsRB1_ok
theorem rg1_plus_runA (f : J1) (q : P1) : run1 TRB1 125 [wN f, wP q] [(16, true)] = some (.one ⟨true, (Nm.toL q.1).map (It.w 6) ++ oneF⟩, [eqW f.2.2 (0 : Nat) true]) := by kernel_rfl
theorem rg1_plus_runB (f : J1) (q : P1) : run1 TRB1 125 [wN f, wP q] [(16, false), (47, true), (50, true)] = some (.one (wN (tw1 f)), [eqW f.2.2 (0 : Nat) false, eqW (hN1 f q) 0 true, eqW (rN1 f q) 0 true]) := by kernel_rfl
theorem rg1_plus_runC (f : J1) (q : P1) : run1 TRB1 125 [wN f, wP q] [(16, false), (47, true), (50, false)] = some (.one (wN ((0, 0, 0) : J1)), [eqW f.2.2 (0 : Nat) false, eqW (hN1 f q) 0 true, eqW (rN1 f q) 0 false]) := by kernel_rfl
theorem rg1_plus_runD (f : J1) (q : P1) : run1 TRB1 125 [wN f, wP q] [(16, false), (47, false)] =
    some (.one (wN (((subF (subF (mulF (rN1 f q) (rN1 f q)) (mulF (mulF (hN1 f q) (hN1 f q)) (hN1 f q))) (addF (mulF f.1 (mulF (hN1 f q) (hN1 f q))) (mulF f.1 (mulF (hN1 f q) (hN1 f q))))), (subF (mulF (rN1 f q) (subF (mulF f.1 (mulF (hN1 f q) (hN1 f q))) (subF (subF (mulF (rN1 f q) (rN1 f q)) (mulF (mulF (hN1 f q) (hN1 f q)) (hN1 f q))) (addF (mulF f.1 (mulF (hN1 f q) (hN1 f q))) (mulF f.1 (mulF (hN1 f q) (hN1 f q))))))) (mulF f.2.1 (mulF (mulF (hN1 f q) (hN1 f q)) (hN1 f q)))), (mulF f.2.2 (hN1 f q))) : J1)), [eqW f.2.2 (0 : Nat) false, eqW (hN1 f q) 0 false]) := by kernel_rfl
theorem rg1_plus (f : J1) (q : P1) (hf : RdJ1 f) : Pure Try.prog 125 [wv f, wpv q] (wv (pl1 f q)) := by
  have hv := valsC2 (kdN J1) (kdP A1) f q
  have hz := hf.z
  have hh : φ (hN1 f q) = φ q.1.1 * (φ f.2.2 * φ f.2.2) - φ f.1 := by
    unfold hN1
    simp only [mulF, subF, φκ]
  have hr : φ (rN1 f q) = φ q.1.2 * (φ f.2.2 * φ f.2.2 * φ f.2.2) - φ f.2.1 := by
    unfold rN1
    simp only [mulF, subF, φκ]
  have eh : ∀ {b : Bool}, (φ (hN1 f q) = 0 ↔ b = true) → eqW (hN1 f q) (0 : Nat) b := fun h => eqZd1 (congrArg κF1 (φκ _)) h
  have er : ∀ {b : Bool}, (φ (rN1 f q) = 0 ↔ b = true) → eqW (rN1 f q) (0 : Nat) b := fun h => eqZd1 (congrArg κF1 (φκ _)) h
  unfold pl1
  by_cases h0 : φ f.2.2 = 0
  · rw [if_pos h0]
    exact pureX_of_run TRB1_ok (kdN J1) (a := (q.1.1, q.1.2, 1)) (rg1_plus_runA f q) (by kernel_rfl) (one_mem (eqZd1 hz (iff_t h0))) hv rfl
  · rw [if_neg h0]
    unfold jadd
    rw [if_neg (show ¬ (ιJ1 f).z = 0 from h0)]
    by_cases h1 : φ (hN1 f q) = 0
    · rw [if_pos (show φ q.1.1 * ((ιJ1 f).z * (ιJ1 f).z) - (ιJ1 f).x = 0 from hh.symm.trans h1)]
      by_cases h2 : φ (rN1 f q) = 0
      · rw [if_pos (show φ q.1.2 * ((ιJ1 f).z * (ιJ1 f).z * (ιJ1 f).z) - (ιJ1 f).y = 0 from hr.symm.trans h2)]
        refine pureC_of_run TRB1_ok (kdN J1).rs (rg1_plus_runB f q) ?_ hv rfl
        simp only [List.forall_mem_cons, List.not_mem_nil, false_imp_iff, implies_true, and_true]
        exact ⟨eqZd1 hz (iff_f h0), eh (iff_t h1), er (iff_t h2)⟩
      · rw [if_neg (show ¬ φ q.1.2 * ((ιJ1 f).z * (ιJ1 f).z * (ιJ1 f).z) - (ιJ1 f).y = 0 from fun e => h2 (hr.trans e))]
        refine pureC_of_run TRB1_ok (kdN J1).rs (rg1_plus_runC f q) ?_ hv ?_
        · simp only [List.forall_mem_cons, List.not_mem_nil, false_imp_iff, implies_true, and_true]
          exact ⟨eqZd1 hz (iff_f h0), eh (iff_t h1), er (iff_f h2)⟩
        · unfold κJ1
          rw [κz1z]
    · rw [if_neg (show ¬ φ q.1.1 * ((ιJ1 f).z * (ιJ1 f).z) - (ιJ1 f).x = 0 from fun e => h1 (hh.trans e))]
      refine pureC_of_run TRB1_ok (kdN J1).rs (rg1_plus_runD f q) ?_ hv ?_
      · simp only [List.forall_mem_cons, List.not_mem_nil, false_imp_iff, implies_true, and_true]
        exact ⟨eqZd1 hz (iff_f h0), eh (iff_f h1)⟩
      · unfold κJ1 jplus ιJ1 hN1 rN1
        simp only [mulF, subF, addF, φκ]
end Go.Proofs.Ythceokldlinjlaa
