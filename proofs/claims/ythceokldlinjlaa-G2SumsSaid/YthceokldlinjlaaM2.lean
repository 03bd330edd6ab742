/-
  Points as fractions, and multiples of points: the rows of g2.
-/
import Derived.Test.YthceokldlinjlaaG2
namespace Go.Proofs.Ythceokldlinjlaa
open Go Go.Eng Go.RowKit Go.Wd Go.Alg Go.Pr

/-! ### fractions -/
def tw2 (f : J2) : J2 := κJ2 (jdbl (ιJ2 f))
theorem g2_twice_run (f : J2) : run1 TE2 58 [wN f] [] = some (.one (wN (((sub2 (mul2 (add2 (add2 (mul2 f.1 f.1) (mul2 f.1 f.1)) (mul2 f.1 f.1)) (add2 (add2 (mul2 f.1 f.1) (mul2 f.1 f.1)) (mul2 f.1 f.1))) (add2 (add2 (add2 (mul2 f.1 (mul2 f.2.1 f.2.1)) (mul2 f.1 (mul2 f.2.1 f.2.1))) (add2 (mul2 f.1 (mul2 f.2.1 f.2.1)) (mul2 f.1 (mul2 f.2.1 f.2.1)))) (add2 (add2 (mul2 f.1 (mul2 f.2.1 f.2.1)) (mul2 f.1 (mul2 f.2.1 f.2.1))) (add2 (mul2 f.1 (mul2 f.2.1 f.2.1)) (mul2 f.1 (mul2 f.2.1 f.2.1)))))), (sub2 (mul2 (add2 (add2 (mul2 f.1 f.1) (mul2 f.1 f.1)) (mul2 f.1 f.1)) (sub2 (add2 (add2 (mul2 f.1 (mul2 f.2.1 f.2.1)) (mul2 f.1 (mul2 f.2.1 f.2.1))) (add2 (mul2 f.1 (mul2 f.2.1 f.2.1)) (mul2 f.1 (mul2 f.2.1 f.2.1)))) (sub2 (mul2 (add2 (add2 (mul2 f.1 f.1) (mul2 f.1 f.1)) (mul2 f.1 f.1)) (add2 (add2 (mul2 f.1 f.1) (mul2 f.1 f.1)) (mul2 f.1 f.1))) (add2 (add2 (add2 (mul2 f.1 (mul2 f.2.1 f.2.1)) (mul2 f.1 (mul2 f.2.1 f.2.1))) (add2 (mul2 f.1 (mul2 f.2.1 f.2.1)) (mul2 f.1 (mul2 f.2.1 f.2.1)))) (add2 (add2 (mul2 f.1 (mul2 f.2.1 f.2.1)) (mul2 f.1 (mul2 f.2.1 f.2.1))) (add2 (mul2 f.1 (mul2 f.2.1 f.2.1)) (mul2 f.1 (mul2 f.2.1 f.2.1)))))))) (add2 (add2 (add2 (mul2 (mul2 f.2.1 f.2.1) (mul2 f.2.1 f.2.1)) (mul2 (mul2 f.2.1 f.2.1) (mul2 f.2.1 f.2.1))) (add2 (mul2 (mul2 f.2.1 f.2.1) (mul2 f.2.1 f.2.1)) (mul2 (mul2 f.2.1 f.2.1) (mul2 f.2.1 f.2.1)))) (add2 (add2 (mul2 (mul2 f.2.1 f.2.1) (mul2 f.2.1 f.2.1)) (mul2 (mul2 f.2.1 f.2.1) (mul2 f.2.1 f.2.1))) (add2 (mul2 (mul2 f.2.1 f.2.1) (mul2 f.2.1 f.2.1)) (mul2 (mul2 f.2.1 f.2.1) (mul2 f.2.1 f.2.1)))))), (add2 (mul2 f.2.1 f.2.2) (mul2 f.2.1 f.2.2))) : J2)), []) := by kernel_rfl
theorem g2_twice (f : J2) : Pure Try.prog 58 [wv f] (wv (tw2 f)) := by
  refine pureC_of_run TE2_ok (kdN J2).rs (g2_twice_run f) (fun _ h => by cases h) (valsC1 (kdN _) _) ?_
  unfold tw2 κJ2 jdbl ιJ2
  simp only [mul2, add2, sub2, ικ2]
open Classical in
noncomputable def pl2 (f : J2) (q : P2) : J2 := if ι2 f.2.2 = 0 then (q.1.1, q.1.2, (1, 0)) else κJ2 (jadd (ιJ2 f) (ι2 q.1.1) (ι2 q.1.2))
theorem ι_pl2 (f : J2) (q : P2) : ιJ2 (pl2 f q) = jadd (ιJ2 f) (ι2 q.1.1) (ι2 q.1.2) := by
  unfold pl2
  split
  · rename_i h
    unfold jadd
    rw [if_pos (show (ιJ2 f).z = 0 from h)]
    unfold ιJ2
    rw [ι_o2]
  · rw [ικJ2]
noncomputable def rowsB2 : List Row := rowN1 58 tw2 :: rowsA2
theorem rowsB2_ok : ∀ r ∈ rowsB2, RowOk Try.prog r := by
  simp only [rowsB2, List.forall_mem_cons]
  exact ⟨rowN1_ok g2_twice, rowsA2_ok⟩
noncomputable def TB2 : CallT := tableT rowsB2
theorem TB2_ok : CallOk Try.prog TB2 := tableT_ok rowsB2_ok
def hN2 (f : J2) (q : P2) : N2 := sub2 (mul2 q.1.1 (mul2 f.2.2 f.2.2)) f.1
def rN2 (f : J2) (q : P2) : N2 := sub2 (mul2 q.1.2 (mul2 (mul2 f.2.2 f.2.2) f.2.2)) f.2.1
theorem g2_plus_runA (f : J2) (q : P2) : run1 TB2 59 [wN f, wP q] [(17, true)] = some (.one ⟨true, (Nm.toL q.1).map (It.w 6) ++ one12⟩, [eqW f.2.2 ((0, 0) : N2) true]) := by kernel_rfl
theorem g2_plus_runB (f : J2) (q : P2) : run1 TB2 59 [wN f, wP q] [(17, false), (50, true), (54, true)] = some (.one (wN (tw2 f)), [eqW f.2.2 ((0, 0) : N2) false, eqW (hN2 f q) (0, 0) true, eqW (rN2 f q) (0, 0) true]) := by kernel_rfl
theorem g2_plus_runC (f : J2) (q : P2) : run1 TB2 59 [wN f, wP q] [(17, false), (50, true), (54, false), (61, true)] = some (.one (wN (((0, 0), (0, 0), (0, 0)) : J2)), [eqW f.2.2 ((0, 0) : N2) false, eqW (hN2 f q) (0, 0) true, eqW (rN2 f q) (0, 0) false, eqW (hN2 f q) (0, 0) true]) := by kernel_rfl
theorem g2_plus_runD (f : J2) (q : P2) : run1 TB2 59 [wN f, wP q] [(17, false), (50, false), (61, false)] =
    some (.one (wN (((sub2 (sub2 (mul2 (rN2 f q) (rN2 f q)) (mul2 (mul2 (hN2 f q) (hN2 f q)) (hN2 f q))) (add2 (mul2 f.1 (mul2 (hN2 f q) (hN2 f q))) (mul2 f.1 (mul2 (hN2 f q) (hN2 f q))))), (sub2 (mul2 (rN2 f q) (sub2 (mul2 f.1 (mul2 (hN2 f q) (hN2 f q))) (sub2 (sub2 (mul2 (rN2 f q) (rN2 f q)) (mul2 (mul2 (hN2 f q) (hN2 f q)) (hN2 f q))) (add2 (mul2 f.1 (mul2 (hN2 f q) (hN2 f q))) (mul2 f.1 (mul2 (hN2 f q) (hN2 f q))))))) (mul2 f.2.1 (mul2 (mul2 (hN2 f q) (hN2 f q)) (hN2 f q)))), (mul2 f.2.2 (hN2 f q))) : J2)), [eqW f.2.2 ((0, 0) : N2) false, eqW (hN2 f q) (0, 0) false, eqW (hN2 f q) (0, 0) false]) := by kernel_rfl
theorem eqZκ2 {x : F2} {b : Bool} (h : x = 0 ↔ b = true) : eqW (κ2 x) ((0, 0) : N2) b := by
  have : eqW (κ2 x) (κ2 0) b := eqK2 h
  rw [← κz2z] at this
  exact this
theorem eqZd2 {x : N2} {b : Bool} (hx : κ2 (ι2 x) = x) (h : ι2 x = 0 ↔ b = true) : eqW x ((0, 0) : N2) b := by
  have := eqZκ2 h
  rwa [hx] at this
theorem RdJ2.z {f : J2} (h : RdJ2 f) : κ2 (ι2 f.2.2) = f.2.2 := congrArg (fun t : J2 => t.2.2) h
theorem g2_plus (f : J2) (q : P2) (hf : RdJ2 f) : Pure Try.prog 59 [wv f, wpv q] (wv (pl2 f q)) := by
  have hv := valsC2 (kdN J2) (kdP A2) f q
  have hz := hf.z
  have hh : ι2 (hN2 f q) = ι2 q.1.1 * (ι2 f.2.2 * ι2 f.2.2) - ι2 f.1 := by
    unfold hN2
    simp only [mul2, sub2, ικ2]
  have hr : ι2 (rN2 f q) = ι2 q.1.2 * (ι2 f.2.2 * ι2 f.2.2 * ι2 f.2.2) - ι2 f.2.1 := by
    unfold rN2
    simp only [mul2, sub2, ικ2]
  have eh : ∀ {b : Bool}, (ι2 (hN2 f q) = 0 ↔ b = true) → eqW (hN2 f q) ((0, 0) : N2) b := fun h => eqZd2 (congrArg κ2 (ικ2 _)) h
  have er : ∀ {b : Bool}, (ι2 (rN2 f q) = 0 ↔ b = true) → eqW (rN2 f q) ((0, 0) : N2) b := fun h => eqZd2 (congrArg κ2 (ικ2 _)) h
  unfold pl2
  by_cases h0 : ι2 f.2.2 = 0
  · rw [if_pos h0]
    exact pureX_of_run TB2_ok (kdN J2) (a := (q.1.1, q.1.2, (1, 0))) (g2_plus_runA f q) (by kernel_rfl) (one_mem (eqZd2 hz (iff_t h0))) hv rfl
  · rw [if_neg h0]
    unfold jadd
    rw [if_neg (show ¬ (ιJ2 f).z = 0 from h0)]
    by_cases h1 : ι2 (hN2 f q) = 0
    · rw [if_pos (show ι2 q.1.1 * ((ιJ2 f).z * (ιJ2 f).z) - (ιJ2 f).x = 0 from hh.symm.trans h1)]
      by_cases h2 : ι2 (rN2 f q) = 0
      · rw [if_pos (show ι2 q.1.2 * ((ιJ2 f).z * (ιJ2 f).z * (ιJ2 f).z) - (ιJ2 f).y = 0 from hr.symm.trans h2)]
        refine pureC_of_run TB2_ok (kdN J2).rs (g2_plus_runB f q) ?_ hv rfl
        simp only [List.forall_mem_cons, List.not_mem_nil, false_imp_iff, implies_true, and_true]
        exact ⟨eqZd2 hz (iff_f h0), eh (iff_t h1), er (iff_t h2)⟩
      · rw [if_neg (show ¬ ι2 q.1.2 * ((ιJ2 f).z * (ιJ2 f).z * (ιJ2 f).z) - (ιJ2 f).y = 0 from fun e => h2 (hr.trans e))]
        refine pureC_of_run TB2_ok (kdN J2).rs (g2_plus_runC f q) ?_ hv ?_
        · simp only [List.forall_mem_cons, List.not_mem_nil, false_imp_iff, implies_true, and_true]
          exact ⟨eqZd2 hz (iff_f h0), eh (iff_t h1), er (iff_f h2), eh (iff_t h1)⟩
        · unfold κJ2
          rw [κz2z]
    · rw [if_neg (show ¬ ι2 q.1.1 * ((ιJ2 f).z * (ιJ2 f).z) - (ιJ2 f).x = 0 from fun e => h1 (hh.trans e))]
      refine pureC_of_run TB2_ok (kdN J2).rs (g2_plus_runD f q) ?_ hv ?_
      · simp only [List.forall_mem_cons, List.not_mem_nil, false_imp_iff, implies_true, and_true]
        exact ⟨eqZd2 hz (iff_f h0), eh (iff_f h1), eh (iff_f h1)⟩
      · unfold κJ2 jplus ιJ2 hN2 rN2
        simp only [mul2, sub2, add2, ικ2]
theorem g2_point_runA (f : J2) : run1 TB2 60 [wN f] [(7, true)] = some (.one (wP (((0, 0), (0, 0)), true)), [eqW f (((0, 0), (0, 0), (0, 0)) : J2) true]) := by kernel_rfl
theorem g2_point_runB (f : J2) : run1 TB2 60 [wN f] [(7, false), (12, true)] = some (.one (wP (((0, 0), (0, 0)), true)), [eqW f (((0, 0), (0, 0), (0, 0)) : J2) false, eqW f.2.2 ((0, 0) : N2) true]) := by kernel_rfl
theorem g2_point_runC (f : J2) : run1 TB2 60 [wN f] [(7, false), (12, false)] =
    some (.one (wP ((mul2 f.1 (mul2 (inve2 f.2.2) (inve2 f.2.2)), mul2 f.2.1 (mul2 (mul2 (inve2 f.2.2) (inve2 f.2.2)) (inve2 f.2.2))), false)), [eqW f (((0, 0), (0, 0), (0, 0)) : J2) false, eqW f.2.2 ((0, 0) : N2) false]) := by kernel_rfl
theorem smJ2 (f : Jc F2) : Sm (κJ2 f) := sm_append (sm_κ2 _) (sm_append (sm_κ2 _) (sm_κ2 _))
theorem eqJ2 {f : J2} (hf : RdJ2 f) {b : Bool} (h : f = ((0, 0), (0, 0), (0, 0)) ↔ b = true) : eqW f (((0, 0), (0, 0), (0, 0)) : J2) b := by
  have e : (((0, 0), (0, 0), (0, 0)) : J2) = κJ2 ⟨0, 0, 0⟩ := by
    unfold κJ2
    rw [κz2z]
  refine eqW_iff (by rw [← hf]; exact smJ2 _) (by rw [e]; exact smJ2 _) h
theorem g2_point (f : J2) (hf : RdJ2 f) : Pure Try.prog 60 [wv f] (wpv (κP2 (jpt (ιJ2 f)))) := by
  have hv := valsC1 (kdN J2) f
  unfold jpt
  by_cases h0 : ι2 f.2.2 = 0
  · rw [if_pos (show (ιJ2 f).z = 0 from h0)]
    by_cases hz : f = ((0, 0), (0, 0), (0, 0))
    · exact pureC_of_run TB2_ok (kdP A2).rs (g2_point_runA f) (one_mem (eqJ2 hf (iff_t hz))) hv rfl
    · refine pureC_of_run TB2_ok (kdP A2).rs (g2_point_runB f) ?_ hv rfl
      simp only [List.forall_mem_cons, List.not_mem_nil, false_imp_iff, implies_true, and_true]
      exact ⟨eqJ2 hf (iff_f hz), eqZd2 hf.z (iff_t h0)⟩
  · rw [if_neg (show ¬ (ιJ2 f).z = 0 from h0)]
    have hz : f ≠ ((0, 0), (0, 0), (0, 0)) := fun e => h0 (by rw [e]; exact ι_z2)
    refine pureC_of_run TB2_ok (kdP A2).rs (g2_point_runC f) ?_ hv ?_
    · simp only [List.forall_mem_cons, List.not_mem_nil, false_imp_iff, implies_true, and_true]
      exact ⟨eqJ2 hf (iff_f hz), eqZd2 hf.z (iff_f h0)⟩
    · unfold κP2 ιJ2
      simp only [mul2, inve2, ικ2]
end Go.Proofs.Ythceokldlinjlaa
