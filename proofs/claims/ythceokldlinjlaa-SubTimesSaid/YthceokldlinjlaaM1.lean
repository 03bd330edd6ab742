/-
  Points as fractions, and multiples of points: the rows of g1.
-/
import Derived.Test.YthceokldlinjlaaG1
namespace Go.Proofs.Ythceokldlinjlaa
open Go Go.Eng Go.RowKit Go.Wd Go.Alg Go.Pr

/-! ### fractions -/
def tw1 (f : J1) : J1 := κJ1 (jdbl (ιJ1 f))
theorem g1_twice_run (f : J1) : run1 TE1 88 [wN f] [] = some (.one (wN (((subF (mulF (addF (addF (mulF f.1 f.1) (mulF f.1 f.1)) (mulF f.1 f.1)) (addF (addF (mulF f.1 f.1) (mulF f.1 f.1)) (mulF f.1 f.1))) (addF (addF (addF (mulF f.1 (mulF f.2.1 f.2.1)) (mulF f.1 (mulF f.2.1 f.2.1))) (addF (mulF f.1 (mulF f.2.1 f.2.1)) (mulF f.1 (mulF f.2.1 f.2.1)))) (addF (addF (mulF f.1 (mulF f.2.1 f.2.1)) (mulF f.1 (mulF f.2.1 f.2.1))) (addF (mulF f.1 (mulF f.2.1 f.2.1)) (mulF f.1 (mulF f.2.1 f.2.1)))))), (subF (mulF (addF (addF (mulF f.1 f.1) (mulF f.1 f.1)) (mulF f.1 f.1)) (subF (addF (addF (mulF f.1 (mulF f.2.1 f.2.1)) (mulF f.1 (mulF f.2.1 f.2.1))) (addF (mulF f.1 (mulF f.2.1 f.2.1)) (mulF f.1 (mulF f.2.1 f.2.1)))) (subF (mulF (addF (addF (mulF f.1 f.1) (mulF f.1 f.1)) (mulF f.1 f.1)) (addF (addF (mulF f.1 f.1) (mulF f.1 f.1)) (mulF f.1 f.1))) (addF (addF (addF (mulF f.1 (mulF f.2.1 f.2.1)) (mulF f.1 (mulF f.2.1 f.2.1))) (addF (mulF f.1 (mulF f.2.1 f.2.1)) (mulF f.1 (mulF f.2.1 f.2.1)))) (addF (addF (mulF f.1 (mulF f.2.1 f.2.1)) (mulF f.1 (mulF f.2.1 f.2.1))) (addF (mulF f.1 (mulF f.2.1 f.2.1)) (mulF f.1 (mulF f.2.1 f.2.1)))))))) (addF (addF (addF (mulF (mulF f.2.1 f.2.1) (mulF f.2.1 f.2.1)) (mulF (mulF f.2.1 f.2.1) (mulF f.2.1 f.2.1))) (addF (mulF (mulF f.2.1 f.2.1) (mulF f.2.1 f.2.1)) (mulF (mulF f.2.1 f.2.1) (mulF f.2.1 f.2.1)))) (addF (addF (mulF (mulF f.2.1 f.2.1) (mulF f.2.1 f.2.1)) (mulF (mulF f.2.1 f.2.1) (mulF f.2.1 f.2.1))) (addF (mulF (mulF f.2.1 f.2.1) (mulF f.2.1 f.2.1)) (mulF (mulF f.2.1 f.2.1) (mulF f.2.1 f.2.1)))))), (addF (mulF f.2.1 f.2.2) (mulF f.2.1 f.2.2))) : J1)), []) := by kernel_rfl
theorem g1_twice (f : J1) : Pure Try.prog 88 [wv f] (wv (tw1 f)) := by
  refine pureC_of_run TE1_ok (kdN J1).rs (g1_twice_run f) (fun _ h => by cases h) (valsC1 (kdN _) _) ?_
  unfold tw1 κJ1 jdbl ιJ1
  simp only [mulF, addF, subF, φκ]
open Classical in
noncomputable def pl1 (f : J1) (q : P1) : J1 := if φ f.2.2 = 0 then (q.1.1, q.1.2, 1) else κJ1 (jadd (ιJ1 f) (φ q.1.1) (φ q.1.2))
theorem ι_pl1 (f : J1) (q : P1) : ιJ1 (pl1 f q) = jadd (ιJ1 f) (φ q.1.1) (φ q.1.2) := by
  unfold pl1
  split
  · rename_i h
    unfold jadd
    rw [if_pos (show (ιJ1 f).z = 0 from h)]
    unfold ιJ1
    rw [ι_o1]
  · rw [ικJ1]
noncomputable def rowsB1 : List Row := rowN1 88 tw1 :: rowsA1
theorem rowsB1_ok : ∀ r ∈ rowsB1, RowOk Try.prog r := by
  simp only [rowsB1, List.forall_mem_cons]
  exact ⟨rowN1_ok g1_twice, rowsA1_ok⟩
noncomputable def TB1 : CallT := tableT rowsB1
theorem TB1_ok : CallOk Try.prog TB1 := tableT_ok rowsB1_ok
def hN1 (f : J1) (q : P1) : Nat := subF (mulF q.1.1 (mulF f.2.2 f.2.2)) f.1
def rN1 (f : J1) (q : P1) : Nat := subF (mulF q.1.2 (mulF (mulF f.2.2 f.2.2) f.2.2)) f.2.1
theorem g1_plus_runA (f : J1) (q : P1) : run1 TB1 89 [wN f, wP q] [(17, true)] = some (.one ⟨true, (Nm.toL q.1).map (It.w 6) ++ oneF⟩, [eqW f.2.2 (0 : Nat) true]) := by kernel_rfl
theorem g1_plus_runB (f : J1) (q : P1) : run1 TB1 89 [wN f, wP q] [(17, false), (49, true), (53, true)] = some (.one (wN (tw1 f)), [eqW f.2.2 (0 : Nat) false, eqW (hN1 f q) 0 true, eqW (rN1 f q) 0 true]) := by kernel_rfl
theorem g1_plus_runC (f : J1) (q : P1) : run1 TB1 89 [wN f, wP q] [(17, false), (49, true), (53, false), (60, true)] = some (.one (wN ((0, 0, 0) : J1)), [eqW f.2.2 (0 : Nat) false, eqW (hN1 f q) 0 true, eqW (rN1 f q) 0 false, eqW (hN1 f q) 0 true]) := by kernel_rfl
theorem g1_plus_runD (f : J1) (q : P1) : run1 TB1 89 [wN f, wP q] [(17, false), (49, false), (60, false)] =
    some (.one (wN (((subF (subF (mulF (rN1 f q) (rN1 f q)) (mulF (mulF (hN1 f q) (hN1 f q)) (hN1 f q))) (addF (mulF f.1 (mulF (hN1 f q) (hN1 f q))) (mulF f.1 (mulF (hN1 f q) (hN1 f q))))), (subF (mulF (rN1 f q) (subF (mulF f.1 (mulF (hN1 f q) (hN1 f q))) (subF (subF (mulF (rN1 f q) (rN1 f q)) (mulF (mulF (hN1 f q) (hN1 f q)) (hN1 f q))) (addF (mulF f.1 (mulF (hN1 f q) (hN1 f q))) (mulF f.1 (mulF (hN1 f q) (hN1 f q))))))) (mulF f.2.1 (mulF (mulF (hN1 f q) (hN1 f q)) (hN1 f q)))), (mulF f.2.2 (hN1 f q))) : J1)), [eqW f.2.2 (0 : Nat) false, eqW (hN1 f q) 0 false, eqW (hN1 f q) 0 false]) := by kernel_rfl
theorem eqZκ1 {x : F} {b : Bool} (h : x = 0 ↔ b = true) : eqW (κF1 x) (0 : Nat) b := by
  have : eqW (κF1 x) (κF1 0) b := eqK1 h
  rw [← κz1z] at this
  exact this
theorem eqZd1 {x : Nat} {b : Bool} (hx : κF1 (φ x) = x) (h : φ x = 0 ↔ b = true) : eqW x (0 : Nat) b := by
  have := eqZκ1 h
  rwa [hx] at this
theorem RdJ1.z {f : J1} (h : RdJ1 f) : κF1 (φ f.2.2) = f.2.2 := congrArg (fun t : J1 => t.2.2) h
theorem g1_plus (f : J1) (q : P1) (hf : RdJ1 f) : Pure Try.prog 89 [wv f, wpv q] (wv (pl1 f q)) := by
  have hv := valsC2 (kdN J1) (kdP A1) f q
  have hz := hf.z
  have hh : φ (hN1 f q) = φ q.1.1 * (φ f.2.2 * φ f.2.2) - φ f.1 := by
    unfold hN1
    simp only [mulF, subF, φκ]
  have hr : φ (rN1 f q) = φ q.1.2 * (φ f.2.2 * φ f.2.2 * φ f.2.2) - φ f.2.1 := by
    unfold rN1
    simp only [mulF, subF, φκ]
  have eh : ∀ {b : Bool}, (φ (hN1 f q) = 0 ↔ b = true) → eqW (hN1 f q) (0 : Nat) b := fun h => eqZd1 (congrArg κF1 (φκ _)) h
  have er : ∀ {b : Bool}, (φ (rN1 f q) = 0 ↔ b = true) → eqW (rN1 f q) (0 : Nat) b := fun h => eqZd1 (congrArg κF1 (φκ _)) h
  unfold pl1
  by_cases h0 : φ f.2.2 = 0
  · rw [if_pos h0]
    exact pureX_of_run TB1_ok (kdN J1) (a := (q.1.1, q.1.2, 1)) (g1_plus_runA f q) (by kernel_rfl) (one_mem (eqZd1 hz (iff_t h0))) hv rfl
  · rw [if_neg h0]
    unfold jadd
    rw [if_neg (show ¬ (ιJ1 f).z = 0 from h0)]
    by_cases h1 : φ (hN1 f q) = 0
    · rw [if_pos (show φ q.1.1 * ((ιJ1 f).z * (ιJ1 f).z) - (ιJ1 f).x = 0 from hh.symm.trans h1)]
      by_cases h2 : φ (rN1 f q) = 0
      · rw [if_pos (show φ q.1.2 * ((ιJ1 f).z * (ιJ1 f).z * (ιJ1 f).z) - (ιJ1 f).y = 0 from hr.symm.trans h2)]
        refine pureC_of_run TB1_ok (kdN J1).rs (g1_plus_runB f q) ?_ hv rfl
        simp only [List.forall_mem_cons, List.not_mem_nil, false_imp_iff, implies_true, and_true]
        exact ⟨eqZd1 hz (iff_f h0), eh (iff_t h1), er (iff_t h2)⟩
      · rw [if_neg (show ¬ φ q.1.2 * ((ιJ1 f).z * (ιJ1 f).z * (ιJ1 f).z) - (ιJ1 f).y = 0 from fun e => h2 (hr.trans e))]
        refine pureC_of_run TB1_ok (kdN J1).rs (g1_plus_runC f q) ?_ hv ?_
        · simp only [List.forall_mem_cons, List.not_mem_nil, false_imp_iff, implies_true, and_true]
          exact ⟨eqZd1 hz (iff_f h0), eh (iff_t h1), er (iff_f h2), eh (iff_t h1)⟩
        · unfold κJ1
          rw [κz1z]
    · rw [if_neg (show ¬ φ q.1.1 * ((ιJ1 f).z * (ιJ1 f).z) - (ιJ1 f).x = 0 from fun e => h1 (hh.trans e))]
      refine pureC_of_run TB1_ok (kdN J1).rs (g1_plus_runD f q) ?_ hv ?_
      · simp only [List.forall_mem_cons, List.not_mem_nil, false_imp_iff, implies_true, and_true]
        exact ⟨eqZd1 hz (iff_f h0), eh (iff_f h1), eh (iff_f h1)⟩
      · unfold κJ1 jplus ιJ1 hN1 rN1
        simp only [mulF, subF, addF, φκ]
theorem g1_point_runA (f : J1) : run1 TB1 90 [wN f] [(7, true)] = some (.one (wP ((0, 0), true)), [eqW f ((0, 0, 0) : J1) true]) := by kernel_rfl
theorem g1_point_runB (f : J1) : run1 TB1 90 [wN f] [(7, false), (12, true)] = some (.one (wP ((0, 0), true)), [eqW f ((0, 0, 0) : J1) false, eqW f.2.2 (0 : Nat) true]) := by kernel_rfl
theorem g1_point_runC (f : J1) : run1 TB1 90 [wN f] [(7, false), (12, false)] =
    some (.one (wP ((mulF f.1 (mulF (invF f.2.2) (invF f.2.2)), mulF f.2.1 (mulF (mulF (invF f.2.2) (invF f.2.2)) (invF f.2.2))), false)), [eqW f ((0, 0, 0) : J1) false, eqW f.2.2 (0 : Nat) false]) := by kernel_rfl
theorem smJ1 (f : Jc F) : Sm (κJ1 f) := sm_append (sm_val _) (sm_append (sm_val _) (sm_val _))
theorem eqJ1 {f : J1} (hf : RdJ1 f) {b : Bool} (h : f = (0, 0, 0) ↔ b = true) : eqW f ((0, 0, 0) : J1) b := by
  have e : ((0, 0, 0) : J1) = κJ1 ⟨0, 0, 0⟩ := by
    unfold κJ1
    rw [κz1z]
  refine eqW_iff (by rw [← hf]; exact smJ1 _) (by rw [e]; exact smJ1 _) h
theorem g1_point (f : J1) (hf : RdJ1 f) : Pure Try.prog 90 [wv f] (wpv (κP1 (jpt (ιJ1 f)))) := by
  have hv := valsC1 (kdN J1) f
  unfold jpt
  by_cases h0 : φ f.2.2 = 0
  · rw [if_pos (show (ιJ1 f).z = 0 from h0)]
    by_cases hz : f = (0, 0, 0)
    · exact pureC_of_run TB1_ok (kdP A1).rs (g1_point_runA f) (one_mem (eqJ1 hf (iff_t hz))) hv rfl
    · refine pureC_of_run TB1_ok (kdP A1).rs (g1_point_runB f) ?_ hv rfl
      simp only [List.forall_mem_cons, List.not_mem_nil, false_imp_iff, implies_true, and_true]
      exact ⟨eqJ1 hf (iff_f hz), eqZd1 hf.z (iff_t h0)⟩
  · rw [if_neg (show ¬ (ιJ1 f).z = 0 from h0)]
    have hz : f ≠ (0, 0, 0) := fun e => h0 (by rw [e]; exact ι_z1)
    refine pureC_of_run TB1_ok (kdP A1).rs (g1_point_runC f) ?_ hv ?_
    · simp only [List.forall_mem_cons, List.not_mem_nil, false_imp_iff, implies_true, and_true]
      exact ⟨eqJ1 hf (iff_f hz), eqZd1 hf.z (iff_f h0)⟩
    · unfold κP1 ιJ1
      simp only [mulF, invF, φκ]
end Go.Proofs.Ythceokldlinjlaa
