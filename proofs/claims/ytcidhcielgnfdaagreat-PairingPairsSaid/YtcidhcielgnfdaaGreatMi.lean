/-
  Miller's lines and steps: what they stand for; the rows of the program's miller.
-/
import Derived.Test.YtcidhcielgnfdaaGreatB1
import Derived.Test.YtcidhcielgnfdaaGreatB2
import Derived.Test.YtcidhcielgnfdaaGreatPwB
import Derived.Test.YtcidhcielgnfdaaGreatRg9
namespace Go.Proofs.YtcidhcielgnfdaaGreat
open Go Go.Eng Go.RowKit Go.Wd Go.Alg Go.Pr

/-- A line of the twisted curve, by its slope and a point, at a point of the base curve. -/
def lnF (l x y : F2) (px py : F) : F12 := ⟨⟨l * x - y, -(l * up1 px), 0⟩, ⟨0, up1 py, 0⟩⟩
/-- One that goes straight up. -/
def vlF (x : F2) (px : F) : F12 := ⟨⟨x, up1 (-px), 0⟩, ⟨0, 0, 0⟩⟩
open Classical in
/-- A step's number. -/
noncomputable def stF : Pt F2 → Pt F2 → Pt F → F12
  | .aff x1 y1, .aff x2 y2, .aff px py =>
    if x1 = x2 then (if y1 ≠ y2 ∨ y1 = 0 then vlF x1 px else lnF ((x1 * x1 + x1 * x1 + x1 * x1) * inv (y1 + y1)) x1 y1 px py)
    else lnF ((y2 - y1) * inv (x2 - x1)) x1 y1 px py
  | _, _, _ => 1
open Classical in
theorem stF_aff (x1 y1 x2 y2 : F2) (px py : F) : stF (.aff x1 y1) (.aff x2 y2) (.aff px py) = if x1 = x2 then (if y1 ≠ y2 ∨ y1 = 0 then vlF x1 px else lnF ((x1 * x1 + x1 * x1 + x1 * x1) * inv (y1 + y1)) x1 y1 px py)
    else lnF ((y2 - y1) * inv (x2 - x1)) x1 y1 px py := rfl
theorem stF_p (t q : Pt F2) : stF t q .inf = 1 := by cases t <;> cases q <;> rfl
theorem stF_t (q : Pt F2) (p : Pt F) : stF .inf q p = 1 := by cases q <;> cases p <;> rfl
theorem stF_q (t : Pt F2) (p : Pt F) : stF t .inf p = 1 := by cases t <;> cases p <;> rfl
def lineN (s : N2) (q : P2) (p : P1) : N12 := κ12 (lnF (ι2 s) (ι2 q.1.1) (ι2 q.1.2) (φ p.1.1) (φ p.1.2))
noncomputable def stepN (t q : P2) (p : P1) : P2 × N12 := (addP2 t q, κ12 (stF (ιP2 t) (ιP2 q) (ιP1 p)))
theorem κ2_up (z : F) : κ2 (up1 z) = (z.val, 0) := by
  show (z.val, (0 : F).val) = _
  have : (0 : F).val = 0 := by decide +kernel
  rw [this]
theorem κ12_ln (l x y : F2) (px py : F) : κ12 (lnF l x y px py) = ((κ2 (l * x - y), κ2 (-(l * up1 px)), (0, 0)), ((0, 0), (py.val, 0), (0, 0))) := by
  unfold lnF κ12 κ6
  dsimp only
  rw [κ2_up, ← κz2z]
theorem κ12_vl (x : F2) (px : F) : κ12 (vlF x px) = ((κ2 x, ((-px).val, 0), (0, 0)), ((0, 0), (0, 0), (0, 0))) := by
  unfold vlF κ12 κ6
  dsimp only
  rw [κ2_up, ← κz2z]

/-! ### the program's -/
noncomputable def TMi0 : CallT := orT (tableT rowsP2) (orT (tableT rowsP1) (tableT rows065))
theorem TMi0_ok : CallOk Tryz.prog TMi0 := orT_ok (tableT_ok rowsP2_ok) (orT_ok (tableT_ok rowsP1_ok) (tableT_ok rows065_ok))
def lnN (s x y : N2) (px py : Nat) : N12 := ((sub2 (mul2 s x) y, neg2 (scale2 s px), (0, 0)), ((0, 0), (rdN py, 0), (0, 0)))
theorem lnN_eq (s x y : N2) (px py : Nat) : lnN s x y px py = κ12 (lnF (ι2 s) (ι2 x) (ι2 y) (φ px) (φ py)) := by
  rw [κ12_ln]
  unfold lnN
  simp only [sub2, mul2, neg2, scale2, ικ2]
  rfl
theorem miller_line_run (s : N2) (q : P2) (p : P1) : run1 TMi0 127 [wN s, wP q, wP p] [] = some (.one (wN (lnN s q.1.1 q.1.2 p.1.1 p.1.2)), []) := by kernel_rfl
theorem miller_line (s : N2) (q : P2) (p : P1) : Pure Tryz.prog 127 [wv s, wpv q, wpv p] (wv (lineN s q p)) := by
  refine pureC_of_run TMi0_ok (kdN N12).rs (miller_line_run s q p) (fun _ h => by cases h) ?_ (lnN_eq _ _ _ _ _)
  simp only [vals, val_wN, val_wP]
theorem miller_one_run : run1 TMi0 67 [] [] = some (.one ⟨true, one72⟩, []) := by kernel_rfl
theorem one72_pure {T : CallT} (hT : CallOk Tryz.prog T) {f : FuncId} (h : run1 T f [] [] = some (.one ⟨true, one72⟩, [])) : Pure Tryz.prog f [] (wv (κ12 1)) := by
  refine pure_of_run1 hT h (fun p hp => by cases hp) vals0 fun ρ u hu => ?_
  obtain ⟨vs, h1, h2⟩ := AV.cells (x := ⟨true, one72⟩) (by exact hu)
  have h3 := one72_conc ρ vs h1
  rw [conc_ws] at h3
  rcases h2 with ⟨_, rfl⟩ | ⟨h2, _⟩
  · cases h3; rfl
  · cases h2
theorem miller_one : Pure Tryz.prog 67 [] (wv (κ12 1)) := one72_pure TMi0_ok miller_one_run
noncomputable def rowsMi : List Row := [rowN0 67 (κ12 1), rowC3 (kdN N2) (kdP A2) (kdP A1) (kdN N12).rs 127 lineN]
theorem rowsMi_ok : ∀ r ∈ rowsMi, RowOk Tryz.prog r := by
  simp only [rowsMi, List.forall_mem_cons, List.not_mem_nil, false_imp_iff, implies_true, and_true]
  exact ⟨rowN0_ok miller_one, rowC3_ok miller_line⟩
noncomputable def TMi1 : CallT := orT (tableT rowsMi) TMi0
theorem TMi1_ok : CallOk Tryz.prog TMi1 := orT_ok (tableT_ok rowsMi_ok) TMi0_ok
def rsStep : Rs (P2 × N12) := rs2 (kdP A2) (kdN N12)
def rdP2 (x : A2) : A2 := (red2 x.1, red2 x.2)
theorem miller_step_run1 (t q : P2) (x : A1) : run1 TMi1 70 [wP t, wP q, wP (x, true)] [] = some (rsStep.sv (addP2 (κP2 (ιP2 t)) (κP2 (ιP2 q)), κ12 1), []) := by kernel_rfl
theorem miller_step_run2 (t : A2) (q : P2) (x : A1) : run1 TMi1 70 [wP (t, true), wP q, wP (x, false)] [] = some (rsStep.sv (addP2 (κP2 (ιP2 (t, true))) (κP2 (ιP2 q)), κ12 1), []) := by kernel_rfl
theorem miller_step_run3 (t q : A2) (x : A1) : run1 TMi1 70 [wP (t, false), wP (q, true), wP (x, false)] [] = some (rsStep.sv (addP2 (κP2 (ιP2 (t, false))) (κP2 (ιP2 (q, true))), κ12 1), []) := by kernel_rfl
theorem miller_step_runA (x y : A2) (p : A1) : run1 TMi1 70 [wP (x, false), wP (y, false), wP (p, false)] [(52, false)] =
  some (rsStep.sv (ch2 (slC2 x y) (red2 x.1) (red2 x.2) (red2 y.1), lineN (slC2 x y) (rdP2 x, false) (p, false)), [eqW (red2 x.1) (red2 y.1) false]) := by kernel_rfl
theorem miller_step_runB (x y : A2) (p : A1) : run1 TMi1 70 [wP (x, false), wP (y, false), wP (p, false)] [(52, true), (68, false)] =
  some (rsStep.sv ((((0, 0), (0, 0)), true), ((red2 x.1, (negF p.1, 0), (0, 0)), ((0, 0), (0, 0), (0, 0)))), [eqW (red2 x.1) (red2 y.1) true, eqW (red2 x.2) (red2 y.2) false]) := by kernel_rfl
theorem miller_step_runC (x y : A2) (p : A1) : run1 TMi1 70 [wP (x, false), wP (y, false), wP (p, false)] [(52, true), (68, true), (73, true)] =
  some (rsStep.sv ((((0, 0), (0, 0)), true), ((red2 x.1, (negF p.1, 0), (0, 0)), ((0, 0), (0, 0), (0, 0)))), [eqW (red2 x.1) (red2 y.1) true, eqW (red2 x.2) (red2 y.2) true, eqW (red2 x.2) (0, 0) true]) := by kernel_rfl
theorem miller_step_runD (x y : A2) (p : A1) : run1 TMi1 70 [wP (x, false), wP (y, false), wP (p, false)] [(52, true), (68, true), (73, false)] =
  some (rsStep.sv (ch2 (slT2 x) (red2 x.1) (red2 x.2) (red2 y.1), lineN (slT2 x) (rdP2 x, false) (p, false)), [eqW (red2 x.1) (red2 y.1) true, eqW (red2 x.2) (red2 y.2) true, eqW (red2 x.2) (0, 0) false]) := by kernel_rfl
theorem step_eq {t q : P2} {p : P1} {a : P2} {l : N12} (h1 : a = addP2 t q) (h2 : l = κ12 (stF (ιP2 t) (ιP2 q) (ιP1 p))) : (a, l) = stepN t q p := by rw [h1, h2]; rfl
theorem addP2_red (t q : P2) : addP2 (κP2 (ιP2 t)) (κP2 (ιP2 q)) = addP2 t q := by unfold addP2; rw [ικP2, ικP2]
theorem ι_mslC2 (x y : A2) : ι2 (slC2 x y) = (ι2 y.2 - ι2 x.2) * inv (ι2 y.1 - ι2 x.1) := by unfold slC2; simp only [mul2, sub2, inve2, red2, ικ2]
theorem ι_mslT2 (x : A2) : ι2 (slT2 x) = (ι2 x.1 * ι2 x.1 + ι2 x.1 * ι2 x.1 + ι2 x.1 * ι2 x.1) * inv (ι2 x.2 + ι2 x.2) := by unfold slT2; simp only [mul2, add2, inve2, red2, ικ2]
theorem lineN_red (s : N2) (x : A2) (p : A1) : lineN s (rdP2 x, false) (p, false) = κ12 (lnF (ι2 s) (ι2 x.1) (ι2 x.2) (φ p.1) (φ p.2)) := by
  unfold lineN rdP2 red2
  dsimp only
  rw [ικ2, ικ2]
theorem vlN_eq (x : N2) (p : Nat) : ((red2 x, (negF p, 0), (0, 0)), ((0, 0), (0, 0), (0, 0))) = κ12 (vlF (ι2 x) (φ p)) := by
  rw [κ12_vl]; rfl
theorem valsStep (t q : P2) (p : P1) : vals rho0 [wP t, wP q, wP p] = some [wpv t, wpv q, wpv p] := by simp only [vals, val_wP]
theorem miller_step (t q : P2) (p : P1) : Pure Tryz.prog 70 [wpv t, wpv q, wpv p] (rsStep.vl (stepN t q p)) := by
  have hr : ∀ t : N2, ι2 (red2 t) = ι2 t := fun t => ικ2 _
  obtain ⟨p, pb⟩ := p
  cases pb with
  | true => exact pureC_of_run TMi1_ok rsStep (miller_step_run1 t q p) (fun _ h => by cases h) (valsStep _ _ _) (step_eq (addP2_red t q) (by rw [show ιP1 (p, true) = .inf from rfl, stF_p]))
  | false =>
    obtain ⟨t, tb⟩ := t
    cases tb with
    | true => exact pureC_of_run TMi1_ok rsStep (miller_step_run2 t q p) (fun _ h => by cases h) (valsStep _ _ _) (step_eq (addP2_red _ q) (by rw [show ιP2 (t, true) = .inf from rfl, stF_t]))
    | false =>
      obtain ⟨q, qb⟩ := q
      cases qb with
      | true => exact pureC_of_run TMi1_ok rsStep (miller_step_run3 t q p) (fun _ h => by cases h) (valsStep _ _ _) (step_eq (addP2_red _ _) (by rw [show ιP2 (q, true) = .inf from rfl, stF_q]))
      | false =>
        have e1 : addP2 (t, false) (q, false) = κP2 (padd (.aff (ι2 t.1) (ι2 t.2)) (.aff (ι2 q.1) (ι2 q.2))) := rfl
        have e2 : stF (ιP2 (t, false)) (ιP2 (q, false)) (ιP1 (p, false)) = stF (.aff (ι2 t.1) (ι2 t.2)) (.aff (ι2 q.1) (ι2 q.2)) (.aff (φ p.1) (φ p.2)) := rfl
        by_cases hx : ι2 t.1 = ι2 q.1
        · by_cases hy : ι2 t.2 = ι2 q.2
          · by_cases h0 : ι2 t.2 = 0
            · refine pureC_of_run TMi1_ok rsStep (miller_step_runC t q p) (all_cons (eqR2 (iff_t hx)) (all_cons (eqR2 (iff_t hy)) (all_cons (eqZ2 (iff_t h0)) all_nil))) (valsStep _ _ _) (step_eq ?_ ?_)
              · rw [e1, padd_aff, if_pos hx, if_pos (.inr h0)]; rfl
              · rw [e2, stF_aff, if_pos hx, if_pos (.inr h0)]; exact vlN_eq _ _
            · have hn : ¬ (ι2 t.2 ≠ ι2 q.2 ∨ ι2 t.2 = 0) := by rintro (e | e) <;> contradiction
              refine pureC_of_run TMi1_ok rsStep (miller_step_runD t q p) (all_cons (eqR2 (iff_t hx)) (all_cons (eqR2 (iff_t hy)) (all_cons (eqZ2 (iff_f h0)) all_nil))) (valsStep _ _ _) (step_eq ?_ ?_)
              · rw [e1, padd_aff, if_pos hx, if_neg hn]; exact κ_sumBy2 (ι_mslT2 t) (hr _) (hr _) (hr _)
              · rw [e2, stF_aff, if_pos hx, if_neg hn, lineN_red, ι_mslT2]
          · refine pureC_of_run TMi1_ok rsStep (miller_step_runB t q p) (all_cons (eqR2 (iff_t hx)) (all_cons (eqR2 (iff_f hy)) all_nil)) (valsStep _ _ _) (step_eq ?_ ?_)
            · rw [e1, padd_aff, if_pos hx, if_pos (.inl hy)]; rfl
            · rw [e2, stF_aff, if_pos hx, if_pos (.inl hy)]; exact vlN_eq _ _
        · refine pureC_of_run TMi1_ok rsStep (miller_step_runA t q p) (all_cons (eqR2 (iff_f hx)) all_nil) (valsStep _ _ _) (step_eq ?_ ?_)
          · rw [e1, padd_aff, if_neg hx]; exact κ_sumBy2 (ι_mslC2 t q) (hr _) (hr _) (hr _)
          · rw [e2, stF_aff, if_neg hx, lineN_red, ι_mslC2]
noncomputable def rowsMs : List Row := rowC3 (kdP A2) (kdP A2) (kdP A1) rsStep 70 stepN :: rowsMi
theorem rowsMs_ok : ∀ r ∈ rowsMs, RowOk Tryz.prog r := by
  simp only [rowsMs, List.forall_mem_cons]
  exact ⟨rowC3_ok miller_step, rowsMi_ok⟩
noncomputable def TMi2 : CallT := orT (tableT rowsMs) TMi0
theorem TMi2_ok : CallOk Tryz.prog TMi2 := orT_ok (tableT_ok rowsMs_ok) TMi0_ok
end Go.Proofs.YtcidhcielgnfdaaGreat
