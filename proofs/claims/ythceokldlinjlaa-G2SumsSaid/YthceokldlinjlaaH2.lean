/-
  The document's points of the curve G2: the rows of sigilref13.
-/
import Derived.Test.YthceokldlinjlaaU2
import Derived.Test.YthceokldlinjlaaRj
namespace Go.Proofs.Ythceokldlinjlaa
open Go Go.Eng Go.RowKit Go.Wd Go.Alg Go.Pr

noncomputable def TR2 : CallT := tableT rowsI7
theorem TR2_ok : CallOk Try.prog TR2 := tableT_ok rowsI7_ok

/-! ### Reduce, On, Neg -/
theorem rg2_reduce_runT (x : A2) : run1 TR2 110 [wP (x, true)] [] = some (.one (wP (((0, 0), (0, 0)), true)), []) := by kernel_rfl
theorem rg2_reduce_runF (x : A2) : run1 TR2 110 [wP (x, false)] [] = some (.one (wP ((red2 x.1, red2 x.2), false)), []) := by kernel_rfl
theorem rg2_reduce (x : P2) : Pure Try.prog 110 [wpv x] (wpv (κP2 (ιP2 x))) := by
  obtain ⟨x, b⟩ := x
  cases b with
  | true => exact pureC_of_run TR2_ok (kdP A2).rs (rg2_reduce_runT x) (fun _ h => by cases h) (valsC1 (kdP _) _) rfl
  | false => exact pureC_of_run TR2_ok (kdP A2).rs (rg2_reduce_runF x) (fun _ h => by cases h) (valsC1 (kdP _) _) rfl
theorem rg2_on_runT (x : A2) : run1 TR2 109 [wP (x, true)] [] = some (vB true, []) := by kernel_rfl
theorem rg2_on_runF (x : A2) : ∀ h : Bool, run1 TR2 109 [wP (x, false)] [(23, h)] = some (vB h, [onW2 x h])
  | true => by kernel_rfl
  | false => by kernel_rfl
theorem rg2_on (x : P2) : Pure Try.prog 109 [wpv x] (.bool (onB2 x)) := by
  obtain ⟨x, b⟩ := x
  cases b with
  | true => exact pureB_run TR2_ok (rg2_on_runT x) (fun _ h => by cases h) (valsC1 (kdP _) _) (((onB2_iff (x, true)).2 trivial).symm)
  | false => exact pureB_run TR2_ok (rg2_on_runF x (onB2 (x, false))) (one_mem (onW2_ok (onB2_iff (x, false)).symm)) (valsC1 (kdP _) _) rfl
noncomputable def rowsRA2 : List Row :=
  rowC1 (kdP A2) (kdP A2).rs 110 (fun x => κP2 (ιP2 x)) ::
  rowC1 (kdP A2) kdB.rs 109 onB2 :: rowsI7
theorem rowsRA2_ok : ∀ r ∈ rowsRA2, RowOk Try.prog r := by
  unfold rowsRA2
  refine List.forall_mem_cons.2 ⟨rowC1_ok rg2_reduce, ?_⟩
  exact List.forall_mem_cons.2 ⟨rowC1_ok rg2_on, rowsI7_ok⟩
noncomputable def TRA2 : CallT := tableT rowsRA2
theorem TRA2_ok : CallOk Try.prog TRA2 := tableT_ok rowsRA2_ok

theorem ι_k2_2 : ι2 (2, 0) = 1 + 1 := by
  have : κ2 (ι2 (2, 0)) = κ2 (1 + 1) := by decide +kernel
  exact κ2_inj this
theorem ι_k3_2 : ι2 (3, 0) = 1 + 1 + 1 := by
  have : κ2 (ι2 (3, 0)) = κ2 (1 + 1 + 1) := by decide +kernel
  exact κ2_inj this
/-! ### Slope -/
noncomputable def slV2 (x : A2) : N2 := mul2 (mul2 (3, 0) (mul2 (red2 x.1) (red2 x.1))) (inve2 (mul2 (2, 0) (red2 x.2)))
open Classical in
/-- The document's slope; whether there is one. -/
noncomputable def slR2 (x y : P2) : N2 × Bool :=
  if ι2 x.1.1 = ι2 y.1.1 then (if ι2 x.1.2 ≠ ι2 y.1.2 ∨ ι2 x.1.2 = 0 then ((0, 0), false) else (slV2 x.1, true)) else (slC2 x.1 y.1, true)
def rsL2 : Rs (N2 × Bool) := rs2 (kdN N2) kdB
theorem rg2_slope_runA (x y : A2) : run1 TRA2 114 [wP (x, false), wP (y, false)] [(15, false)] = some (rsL2.sv (slC2 x y, true), [eqW (red2 x.1) (red2 y.1) false]) := by kernel_rfl
theorem rg2_slope_runB (x y : A2) : run1 TRA2 114 [wP (x, false), wP (y, false)] [(15, true), (20, false)] = some (rsL2.sv ((0, 0), false), [eqW (red2 x.1) (red2 y.1) true, eqW (red2 x.2) (red2 y.2) false]) := by kernel_rfl
theorem rg2_slope_runC (x y : A2) : run1 TRA2 114 [wP (x, false), wP (y, false)] [(15, true), (20, true), (25, true)] = some (rsL2.sv ((0, 0), false), [eqW (red2 x.1) (red2 y.1) true, eqW (red2 x.2) (red2 y.2) true, eqW (red2 x.2) (0, 0) true]) := by kernel_rfl
theorem rg2_slope_runD (x y : A2) : run1 TRA2 114 [wP (x, false), wP (y, false)] [(15, true), (20, true), (25, false)] = some (rsL2.sv (slV2 x, true), [eqW (red2 x.1) (red2 y.1) true, eqW (red2 x.2) (red2 y.2) true, eqW (red2 x.2) (0, 0) false]) := by kernel_rfl
theorem rg2_slope (x y : P2) (h1 : x.2 = false) (h2 : y.2 = false) : Pure Try.prog 114 [wpv x, wpv y] (rsL2.vl (slR2 x y)) := by
  obtain ⟨x, b⟩ := x
  obtain ⟨y, c⟩ := y
  simp only at h1 h2
  subst h1; subst h2
  have hv := valsC2 (kdP A2) (kdP A2) (x, false) (y, false)
  unfold slR2
  by_cases hx : ι2 x.1 = ι2 y.1
  · rw [if_pos hx]
    by_cases hy : ι2 x.2 = ι2 y.2
    · by_cases h0 : ι2 x.2 = 0
      · rw [if_pos (.inr h0)]
        refine pureC_of_run TRA2_ok rsL2 (rg2_slope_runC x y) ?_ hv rfl
        simp only [List.forall_mem_cons, List.not_mem_nil, false_imp_iff, implies_true, and_true]
        exact ⟨eqR2 (iff_t hx), eqR2 (iff_t hy), eqZ2 (iff_t h0)⟩
      · rw [if_neg (by rintro (e | e) <;> contradiction)]
        refine pureC_of_run TRA2_ok rsL2 (rg2_slope_runD x y) ?_ hv rfl
        simp only [List.forall_mem_cons, List.not_mem_nil, false_imp_iff, implies_true, and_true]
        exact ⟨eqR2 (iff_t hx), eqR2 (iff_t hy), eqZ2 (iff_f h0)⟩
    · rw [if_pos (.inl hy)]
      refine pureC_of_run TRA2_ok rsL2 (rg2_slope_runB x y) ?_ hv rfl
      simp only [List.forall_mem_cons, List.not_mem_nil, false_imp_iff, implies_true, and_true]
      exact ⟨eqR2 (iff_t hx), eqR2 (iff_f hy)⟩
  · rw [if_neg hx]
    exact pureC_of_run TRA2_ok rsL2 (rg2_slope_runA x y) (one_mem (eqR2 (iff_f hx))) hv rfl
/-- The slope's row, where it is known whether there is one. -/
noncomputable def rowSl2 (b : Bool) : Row := rowK2 (kdP A2) (kdP A2) rsL2 114 (fun x y => ((slR2 x y).1, b)) (fun x y => x.2 = false ∧ y.2 = false ∧ (slR2 x y).2 = b)
theorem rowSl2_ok (b : Bool) : RowOk Try.prog (rowSl2 b) := rowK2_ok fun x y h => by
  rw [← h.2.2]
  exact rg2_slope x y h.1 h.2.1
noncomputable def TRS2 (b : Bool) : CallT := tableT (rowSl2 b :: rowsRA2)
theorem TRS2_ok (b : Bool) : CallOk Try.prog (TRS2 b) := tableT_ok (by
  simp only [List.forall_mem_cons]
  exact ⟨rowSl2_ok b, rowsRA2_ok⟩)
theorem ι_slV2 (x : A2) : ι2 (slV2 x) = (ι2 x.1 * ι2 x.1 + ι2 x.1 * ι2 x.1 + ι2 x.1 * ι2 x.1) * inv (ι2 x.2 + ι2 x.2) := by
  unfold slV2
  simp only [mul2, inve2, red2, ικ2, ι_k2_2, ι_k3_2]
  have e : (1 + 1) * ι2 x.2 = ι2 x.2 + ι2 x.2 := by rw [add_mul, one_mul]
  rw [e]
  exact ident (env [ι2 x.1, inv (ι2 x.2 + ι2 x.2)]) ((1 + 1 + 1) * (v0 * v0) * v1) ((v0 * v0 + v0 * v0 + v0 * v0) * v1) (by decide +kernel)
theorem ι_slC2 (x y : A2) : ι2 (slC2 x y) = (ι2 y.2 - ι2 x.2) * inv (ι2 y.1 - ι2 x.1) := by
  unfold slC2
  simp only [mul2, inve2, sub2, red2, ικ2]

/-! ### Add -/
theorem rg2_add_runT (x : A2) (y : P2) : run1 TRA2 74 [wP (x, true), wP y] [] = some (.one (wP (κP2 (ιP2 y))), []) := by kernel_rfl
theorem rg2_add_runFT (x y : A2) : run1 TRA2 74 [wP (x, false), wP (y, true)] [] = some (.one (wP ((red2 x.1, red2 x.2), false)), []) := by kernel_rfl
theorem rg2_add_runY (x y : A2) : run1 (TRS2 true) 74 [wP (x, false), wP (y, false)] [] = some (.one (wP (ch2 (slR2 (x, false) (y, false)).1 x.1 x.2 y.1)), [false = false ∧ false = false ∧ (slR2 (x, false) (y, false)).2 = true]) := by kernel_rfl
theorem rg2_add_runN (x y : A2) : run1 (TRS2 false) 74 [wP (x, false), wP (y, false)] [] = some (.one (wP (((0, 0), (0, 0)), true)), [false = false ∧ false = false ∧ (slR2 (x, false) (y, false)).2 = false]) := by kernel_rfl
open Classical in
theorem rg2_add (x y : P2) : Pure Try.prog 74 [wpv x, wpv y] (wpv (κP2 (padd (ιP2 x) (ιP2 y)))) := by
  obtain ⟨x, b⟩ := x
  cases b with
  | true =>
    refine pureC_of_run TRA2_ok (kdP A2).rs (rg2_add_runT x y) (fun _ h => by cases h) (valsC2 (kdP _) (kdP _) _ _) ?_
    show κP2 (ιP2 y) = κP2 (padd .inf (ιP2 y))
    rw [inf_add]
  | false =>
    obtain ⟨y, c⟩ := y
    cases c with
    | true => exact pureC_of_run TRA2_ok (kdP A2).rs (rg2_add_runFT x y) (fun _ h => by cases h) (valsC2 (kdP _) (kdP _) _ _) rfl
    | false =>
      have hv := valsC2 (kdP A2) (kdP A2) (x, false) (y, false)
      show Pure _ _ _ (wpv (κP2 (padd (.aff (ι2 x.1) (ι2 x.2)) (.aff (ι2 y.1) (ι2 y.2)))))
      rw [padd_aff]
      have hsl : slR2 (x, false) (y, false) = if ι2 x.1 = ι2 y.1 then (if ι2 x.2 ≠ ι2 y.2 ∨ ι2 x.2 = 0 then ((0, 0), false) else (slV2 x, true)) else (slC2 x y, true) := rfl
      by_cases hx : ι2 x.1 = ι2 y.1
      · rw [if_pos hx] at hsl ⊢
        by_cases hy : ι2 x.2 ≠ ι2 y.2 ∨ ι2 x.2 = 0
        · rw [if_pos hy] at hsl ⊢
          exact pureC_of_run (TRS2_ok false) (kdP A2).rs (rg2_add_runN x y) (one_mem ⟨rfl, rfl, by rw [hsl]⟩) hv rfl
        · rw [if_neg hy] at hsl ⊢
          refine pureC_of_run (TRS2_ok true) (kdP A2).rs (rg2_add_runY x y) (one_mem ⟨rfl, rfl, by rw [hsl]⟩) hv ?_
          rw [hsl]
          exact κ_sumBy2 (ι_slV2 x) rfl rfl rfl
      · rw [if_neg hx] at hsl ⊢
        refine pureC_of_run (TRS2_ok true) (kdP A2).rs (rg2_add_runY x y) (one_mem ⟨rfl, rfl, by rw [hsl]⟩) hv ?_
        rw [hsl]
        exact κ_sumBy2 (ι_slC2 x y) rfl rfl rfl

/-! ### fractions -/
theorem rg2_twice_run (f : J2) : run1 TR2 111 [wN f] [] = some (.one (wN (((sub2 (mul2 (mul2 (3, 0) (mul2 f.1 f.1)) (mul2 (3, 0) (mul2 f.1 f.1))) (add2 (mul2 (4, 0) (mul2 f.1 (mul2 f.2.1 f.2.1))) (mul2 (4, 0) (mul2 f.1 (mul2 f.2.1 f.2.1))))), (sub2 (mul2 (mul2 (3, 0) (mul2 f.1 f.1)) (sub2 (mul2 (4, 0) (mul2 f.1 (mul2 f.2.1 f.2.1))) (sub2 (mul2 (mul2 (3, 0) (mul2 f.1 f.1)) (mul2 (3, 0) (mul2 f.1 f.1))) (add2 (mul2 (4, 0) (mul2 f.1 (mul2 f.2.1 f.2.1))) (mul2 (4, 0) (mul2 f.1 (mul2 f.2.1 f.2.1))))))) (mul2 (8, 0) (mul2 (mul2 f.2.1 f.2.1) (mul2 f.2.1 f.2.1)))), (mul2 (2, 0) (mul2 f.2.1 f.2.2))) : J2)), []) := by kernel_rfl
theorem ι_k4_2 : ι2 (4, 0) = 1 + 1 + 1 + 1 := by
  have : κ2 (ι2 (4, 0)) = κ2 (1 + 1 + 1 + 1) := by decide +kernel
  exact κ2_inj this
theorem ι_k8_2 : ι2 (8, 0) = 1 + 1 + 1 + 1 + 1 + 1 + 1 + 1 := by
  have : κ2 (ι2 (8, 0)) = κ2 (1 + 1 + 1 + 1 + 1 + 1 + 1 + 1) := by decide +kernel
  exact κ2_inj this
theorem rg2_twice (f : J2) : Pure Try.prog 111 [wv f] (wv (tw2 f)) := by
  refine pureC_of_run TR2_ok (kdN J2).rs (rg2_twice_run f) (fun _ h => by cases h) (valsC1 (kdN _) _) ?_
  unfold tw2 κJ2 jdbl ιJ2
  simp only [mul2, add2, sub2, ικ2, ι_k2_2, ι_k3_2, ι_k4_2, ι_k8_2]
  refine Prod.ext (congrArg κ2 ?_) (Prod.ext (congrArg κ2 ?_) (congrArg κ2 ?_))
  · exact ident (env [ι2 f.1, ι2 f.2.1, ι2 f.2.2]) (((((1 + 1 + 1) * (v0 * v0)) * ((1 + 1 + 1) * (v0 * v0))) - (((1 + 1 + 1 + 1) * (v0 * (v1 * v1))) + ((1 + 1 + 1 + 1) * (v0 * (v1 * v1)))))) ((((((v0 * v0) + (v0 * v0)) + (v0 * v0)) * (((v0 * v0) + (v0 * v0)) + (v0 * v0))) - ((((v0 * (v1 * v1)) + (v0 * (v1 * v1))) + ((v0 * (v1 * v1)) + (v0 * (v1 * v1)))) + (((v0 * (v1 * v1)) + (v0 * (v1 * v1))) + ((v0 * (v1 * v1)) + (v0 * (v1 * v1))))))) (by decide +kernel)
  · exact ident (env [ι2 f.1, ι2 f.2.1, ι2 f.2.2]) (((((1 + 1 + 1) * (v0 * v0)) * (((1 + 1 + 1 + 1) * (v0 * (v1 * v1))) - ((((1 + 1 + 1) * (v0 * v0)) * ((1 + 1 + 1) * (v0 * v0))) - (((1 + 1 + 1 + 1) * (v0 * (v1 * v1))) + ((1 + 1 + 1 + 1) * (v0 * (v1 * v1))))))) - ((1 + 1 + 1 + 1 + 1 + 1 + 1 + 1) * ((v1 * v1) * (v1 * v1))))) ((((((v0 * v0) + (v0 * v0)) + (v0 * v0)) * ((((v0 * (v1 * v1)) + (v0 * (v1 * v1))) + ((v0 * (v1 * v1)) + (v0 * (v1 * v1)))) - (((((v0 * v0) + (v0 * v0)) + (v0 * v0)) * (((v0 * v0) + (v0 * v0)) + (v0 * v0))) - ((((v0 * (v1 * v1)) + (v0 * (v1 * v1))) + ((v0 * (v1 * v1)) + (v0 * (v1 * v1)))) + (((v0 * (v1 * v1)) + (v0 * (v1 * v1))) + ((v0 * (v1 * v1)) + (v0 * (v1 * v1)))))))) - (((((v1 * v1) * (v1 * v1)) + ((v1 * v1) * (v1 * v1))) + (((v1 * v1) * (v1 * v1)) + ((v1 * v1) * (v1 * v1)))) + ((((v1 * v1) * (v1 * v1)) + ((v1 * v1) * (v1 * v1))) + (((v1 * v1) * (v1 * v1)) + ((v1 * v1) * (v1 * v1))))))) (by decide +kernel)
  · exact ident (env [ι2 f.1, ι2 f.2.1, ι2 f.2.2]) (((1 + 1) * (v1 * v2))) (((v1 * v2) + (v1 * v2))) (by decide +kernel)
noncomputable def rowsRB2 : List Row := rowN1 111 tw2 :: rowsRA2
theorem rowsRB2_ok : ∀ r ∈ rowsRB2, RowOk Try.prog r := by
  simp only [rowsRB2, List.forall_mem_cons]
  exact ⟨rowN1_ok rg2_twice, rowsRA2_ok⟩
noncomputable def TRB2 : CallT := tableT rowsRB2
theorem TRB2_ok : CallOk Try.prog TRB2 := tableT_ok rowsRB2_ok
theorem rg2_plus_runA (f : J2) (q : P2) : run1 TRB2 112 [wN f, wP q] [(16, true)] = some (.one ⟨true, (Nm.toL q.1).map (It.w 6) ++ one12⟩, [eqW f.2.2 ((0, 0) : N2) true]) := by kernel_rfl
theorem rg2_plus_runB (f : J2) (q : P2) : run1 TRB2 112 [wN f, wP q] [(16, false), (47, true), (50, true)] = some (.one (wN (tw2 f)), [eqW f.2.2 ((0, 0) : N2) false, eqW (hN2 f q) (0, 0) true, eqW (rN2 f q) (0, 0) true]) := by kernel_rfl
theorem rg2_plus_runC (f : J2) (q : P2) : run1 TRB2 112 [wN f, wP q] [(16, false), (47, true), (50, false)] = some (.one (wN (((0, 0), (0, 0), (0, 0)) : J2)), [eqW f.2.2 ((0, 0) : N2) false, eqW (hN2 f q) (0, 0) true, eqW (rN2 f q) (0, 0) false]) := by kernel_rfl
theorem rg2_plus_runD (f : J2) (q : P2) : run1 TRB2 112 [wN f, wP q] [(16, false), (47, false)] =
    some (.one (wN (((sub2 (sub2 (mul2 (rN2 f q) (rN2 f q)) (mul2 (mul2 (hN2 f q) (hN2 f q)) (hN2 f q))) (add2 (mul2 f.1 (mul2 (hN2 f q) (hN2 f q))) (mul2 f.1 (mul2 (hN2 f q) (hN2 f q))))), (sub2 (mul2 (rN2 f q) (sub2 (mul2 f.1 (mul2 (hN2 f q) (hN2 f q))) (sub2 (sub2 (mul2 (rN2 f q) (rN2 f q)) (mul2 (mul2 (hN2 f q) (hN2 f q)) (hN2 f q))) (add2 (mul2 f.1 (mul2 (hN2 f q) (hN2 f q))) (mul2 f.1 (mul2 (hN2 f q) (hN2 f q))))))) (mul2 f.2.1 (mul2 (mul2 (hN2 f q) (hN2 f q)) (hN2 f q)))), (mul2 f.2.2 (hN2 f q))) : J2)), [eqW f.2.2 ((0, 0) : N2) false, eqW (hN2 f q) (0, 0) false]) := by kernel_rfl
theorem rg2_plus (f : J2) (q : P2) (hf : RdJ2 f) : Pure Try.prog 112 [wv f, wpv q] (wv (pl2 f q)) := by
  have hv := valsC2 (kdN J2) (kdP A2) f q
  have hz := hf.z
  have hh : ι2 (hN2 f q) = ι2 q.1.1 * (ι2 f.2.2 * ι2 f.2.2) - ι2 f.1 := by
    unfold hN2
    simp only [mul2, sub2, ικ2]
  have hr : ι2 (rN2 f q) = ι2 q.1.2 * (ι2 f.2.2 * ι2 f.2.2 * ι2 f.2.2) - ι2 f.2.1 := by
    unfold rN2
    simp only [mul2, sub2, ικ2]
  have eh : ∀ {b : Bool}, (ι2 (hN2 f q) = 0 ↔ b = true) → eqW (hN2 f q) ((0, 0) : N2) b := fun h => eqZd2 (congrArg κ2 (ικ2 _)) h
  have er : ∀ {b : Bool}, (ι2 (rN2 f q) = 0 ↔ b = true) → eqW (rN2 f q) ((0, 0) : N2) b := fun h => eqZd2 (congrArg κ2 (ικ2 _)) h
  unfold pl2
  by_cases h0 : ι2 f.2.2 = 0
  · rw [if_pos h0]
    exact pureX_of_run TRB2_ok (kdN J2) (a := (q.1.1, q.1.2, (1, 0))) (rg2_plus_runA f q) (by kernel_rfl) (one_mem (eqZd2 hz (iff_t h0))) hv rfl
  · rw [if_neg h0]
    unfold jadd
    rw [if_neg (show ¬ (ιJ2 f).z = 0 from h0)]
    by_cases h1 : ι2 (hN2 f q) = 0
    · rw [if_pos (show ι2 q.1.1 * ((ιJ2 f).z * (ιJ2 f).z) - (ιJ2 f).x = 0 from hh.symm.trans h1)]
      by_cases h2 : ι2 (rN2 f q) = 0
      · rw [if_pos (show ι2 q.1.2 * ((ιJ2 f).z * (ιJ2 f).z * (ιJ2 f).z) - (ιJ2 f).y = 0 from hr.symm.trans h2)]
        refine pureC_of_run TRB2_ok (kdN J2).rs (rg2_plus_runB f q) ?_ hv rfl
        simp only [List.forall_mem_cons, List.not_mem_nil, false_imp_iff, implies_true, and_true]
        exact ⟨eqZd2 hz (iff_f h0), eh (iff_t h1), er (iff_t h2)⟩
      · rw [if_neg (show ¬ ι2 q.1.2 * ((ιJ2 f).z * (ιJ2 f).z * (ιJ2 f).z) - (ιJ2 f).y = 0 from fun e => h2 (hr.trans e))]
        refine pureC_of_run TRB2_ok (kdN J2).rs (rg2_plus_runC f q) ?_ hv ?_
        · simp only [List.forall_mem_cons, List.not_mem_nil, false_imp_iff, implies_true, and_true]
          exact ⟨eqZd2 hz (iff_f h0), eh (iff_t h1), er (iff_f h2)⟩
        · unfold κJ2
          rw [κz2z]
    · rw [if_neg (show ¬ ι2 q.1.1 * ((ιJ2 f).z * (ιJ2 f).z) - (ιJ2 f).x = 0 from fun e => h1 (hh.trans e))]
      refine pureC_of_run TRB2_ok (kdN J2).rs (rg2_plus_runD f q) ?_ hv ?_
      · simp only [List.forall_mem_cons, List.not_mem_nil, false_imp_iff, implies_true, and_true]
        exact ⟨eqZd2 hz (iff_f h0), eh (iff_f h1)⟩
      · unfold κJ2 jplus ιJ2 hN2 rN2
        simp only [mul2, sub2, add2, ικ2]
end Go.Proofs.Ythceokldlinjlaa
