/-
  The laws of chapter 15: what they compute.
-/
import Derived.Test.YtmebkhfdhbjacaaAw15
import Derived.Test.YtmebkhfdhbjacaaOpp
namespace Go.Proofs.Ytmebkhfdhbjacaa
open Go Go.Eng Go.RowKit Go.Wd Go.Alg Go.Pr

theorem val_ttM {b : Bool} (h : b = true) : ∀ ρ u, (vB b).val ρ = some u → u = .bool true := by subst h; exact val_true

/-! ### MillerSteps, MillerLoops -/
theorem millerSteps_run (t q : P2) (p : P1) (s : N2) : run1 T15 13 [wP t, wP q, wP p, wN s] (allT 200) =
  some (vB true, [eqP' (stepN t q p).1 (stepN t q p).1 true, eqW (stepN t q p).2 (stepN t q p).2 true, eqW (lineN s q p) (lineN s q p) true]) := by kernel_rfl
theorem valsM4 (t q : P2) (p : P1) (s : N2) : vals rho0 [wP t, wP q, wP p, wN s] = some [wpv t, wpv q, wpv p, wv s] := by simp only [vals, val_wP, val_wN]
theorem millerSteps_gives (t : P2) (_ : Sm t.1) (q : P2) (_ : Sm q.1) (p : P1) (_ : Sm p.1) (s : N2) (_ : Sm s) (w : World) : Gives Try.prog 13 #[wpv t, wpv q, wpv p, wv s] (.bool true) w :=
  gives_of_run1 T15_ok (millerSteps_run t q p s) (all_cons (eqP_of rfl) (all_cons (eqW_of rfl) (all_cons (eqW_of rfl) all_nil))) (valsM4 t q p s) val_true w
theorem millerLoops_run (p : P1) (q : P2) : run1 T15 14 [wP p, wP q] (allT 200) = some (vB true, [eqW (loopR p q).1 (loopR p q).1 true, (loopR p q).2 = (loopR p q).2 ↔ true = true]) := by kernel_rfl
theorem millerLoops_gives (p : P1) (_ : Sm p.1) (q : P2) (_ : Sm q.1) (w : World) : Gives Try.prog 14 #[wpv p, wpv q] (.bool true) w :=
  gives_of_run1 T15_ok (millerLoops_run p q) (all_cons (eqW_of rfl) (all_cons (iff_t rfl) all_nil)) (valsPQ p q) val_true w

/-! ### MillerLines -/
def wantM (s : N2) (p : P1) : N12 := (((0, 0), neg2 (scale2 s p.1.1), (0, 0)), ((0, 0), (rdN p.1.2, 0), (0, 0)))
theorem millerLines_run (s v : N2) (q : P2) (p : P1) : run1 T15 10 [wN s, wN v, wP q, wP p] (allT 200) =
  some (vB true, [eqW (add12 (lineN s q p) (lineN v q p)) (add12 (lineN (add2 s v) q p) (lineN (0, 0) q p)) true, eqW (sub12 (lineN s q p) (lineN s q zP1)) (wantM s p) true,
    eqW (lineN s q zP1).2 (((0, 0), (0, 0), (0, 0)) : N6) true, eqW (lineN s q zP1).1.2.1 ((0, 0) : N2) true]) := by kernel_rfl
theorem up1_zero : up1 0 = 0 := rfl
theorem up1_phi0 : up1 (φ 0) = 0 := by rw [ι_z1]; rfl
theorem valsM5 (s v : N2) (q : P2) (p : P1) : vals rho0 [wN s, wN v, wP q, wP p] = some [wv s, wv v, wpv q, wpv p] := by simp only [vals, val_wP, val_wN]
theorem lnF_add (s v x y : F2) (px py : F) : lnF s x y px py + lnF v x y px py = lnF (s + v) x y px py + lnF 0 x y px py := by
  refine Quad.ext' (Cub.ext' ?_ ?_ ?_) rfl
  · show s * x - y + (v * x - y) = (s + v) * x - y + (0 * x - y)
    exact ident (env [s, v, x, y]) (v0 * v2 - v3 + (v1 * v2 - v3)) ((v0 + v1) * v2 - v3 + (0 * v2 - v3)) (by decide +kernel)
  · show -(s * up1 px) + -(v * up1 px) = -((s + v) * up1 px) + -(0 * up1 px)
    exact ident (env [s, v, up1 px]) (-(v0 * v2) + -(v1 * v2)) (-((v0 + v1) * v2) + -(0 * v2)) (by decide +kernel)
  · rfl
theorem sub_zero' {R : Type} [CRing R] (a : R) : a - 0 = a := ident (env [a]) (v0 - 0) v0 (by decide +kernel)
theorem lnF_far (s x y : F2) (px py : F) : lnF s x y px py - lnF s x y 0 0 = ⟨⟨0, -(s * up1 px), 0⟩, ⟨0, up1 py, 0⟩⟩ := by
  refine Quad.ext' (Cub.ext' ?_ ?_ ?_) (Cub.ext' ?_ ?_ ?_)
  · show s * x - y - (s * x - y) = 0
    exact sub_self _
  · show -(s * up1 px) - -(s * up1 0) = -(s * up1 px)
    rw [up1_zero]
    exact ident (env [s, up1 px]) (-(v0 * v1) - -(v0 * 0)) (-(v0 * v1)) (by decide +kernel)
  · show (0 : F2) - 0 = 0
    exact sub_self _
  · show (0 : F2) - 0 = 0
    exact sub_self _
  · show up1 py - up1 0 = up1 py
    rw [up1_zero, sub_zero']
  · show (0 : F2) - 0 = 0
    exact sub_self _
theorem lineN_zero (s : N2) (q : P2) : lineN s q zP1 = κ12 (lnF (ι2 s) (ι2 q.1.1) (ι2 q.1.2) 0 0) := by
  unfold lineN
  rw [show φ zP1.1.1 = 0 from ι_z1, show φ zP1.1.2 = 0 from ι_z1]
theorem wantM_eq (s : N2) (p : P1) : wantM s p = κ12 ⟨⟨0, -(ι2 s * up1 (φ p.1.1)), 0⟩, ⟨0, up1 (φ p.1.2), 0⟩⟩ := by
  unfold κ12 κ6 wantM
  dsimp only
  rw [κ2_up, ← κz2z]
  simp only [neg2, scale2, ικ2]
  rfl
theorem millerLines_gives (s : N2) (_ : Sm s) (v : N2) (_ : Sm v) (q : P2) (_ : Sm q.1) (p : P1) (_ : Sm p.1) (w : World) : Gives Try.prog 10 #[wv s, wv v, wpv q, wpv p] (.bool true) w := by
  refine gives_of_run1 T15_ok (millerLines_run s v q p) ?_ (valsM5 s v q p) val_true w
  refine all_cons (eqW_of ?_) (all_cons (eqW_of ?_) (all_cons (eqW_of ?_) (all_cons (eqW_of ?_) all_nil)))
  · unfold add12 lineN
    rw [ικ12, ικ12, ικ12, ικ12, ι_z2]
    unfold add2
    rw [ικ2, lnF_add]
  · rw [lineN_zero, wantM_eq]
    unfold sub12 lineN
    rw [ικ12, ικ12, lnF_far]
  · rw [lineN_zero, κ12_ln]
    have : (0 : F).val = 0 := by decide +kernel
    rw [this]
  · rw [lineN_zero, κ12_ln, up1_zero]
    show κ2 (-(ι2 s * 0)) = _
    rw [mul_zero, neg_zero, ← κz2z]

/-! ### MillerNone -/
noncomputable def T15o (b c : Bool) : CallT := orT (tableT (rowsOM b c)) T15
theorem T15o_ok (b c : Bool) : CallOk Try.prog (T15o b c) := orT_ok (tableT_ok (rowsOM_ok b c)) T15_ok
theorem millerNone_runA (p : P1) (q : P2) : run1 (T15o false true) 9 [wP p, wP q] (allT 200) = some (vB true, [onB1 p = false, (loopR p q).2 = 120 ↔ true = true, eqW (loopR p q).1 zN12 true]) := by kernel_rfl
theorem millerNone_runB (p : P1) (q : P2) : run1 (T15o true false) 9 [wP p, wP q] (allT 200) = some (vB true, [onB1 p = true, onB2 q = false, (loopR p q).2 = 120 ↔ true = true, eqW (loopR p q).1 zN12 true]) := by kernel_rfl
theorem millerNone_runC (p : A1) (q : P2) : run1 (T15o true true) 9 [wP (p, true), wP q] (allT 200) = some (vB true, [onB1 (p, true) = true, onB2 q = true, (loopR (p, true) q).2 = 0 ↔ true = true, eqW (loopR (p, true) q).1 (κ12 1) true]) := by kernel_rfl
theorem millerNone_runD (p : A1) (q : A2) : run1 (T15o true true) 9 [wP (p, false), wP (q, true)] (allT 200) = some (vB true, [onB1 (p, false) = true, onB2 (q, true) = true, (loopR (p, false) (q, true)).2 = 0 ↔ true = true, eqW (loopR (p, false) (q, true)).1 (κ12 1) true]) := by kernel_rfl
theorem millerNone_runE (p : A1) (q : A2) : run1 (T15o true true) 9 [wP (p, false), wP (q, false)] (allT 200) = some (vB true, [onB1 (p, false) = true, onB2 (q, false) = true, (loopR (p, false) (q, false)).2 = 0 ↔ true = true]) := by kernel_rfl
theorem millerNone_gives (p : P1) (_ : Sm p.1) (q : P2) (_ : Sm q.1) (w : World) : Gives Try.prog 9 #[wpv p, wpv q] (.bool true) w := by
  cases hp : onB1 p with
  | false =>
    have e := loopR_f (p := p) (q := q) (by rw [hp]; rfl)
    exact gives_of_run1 (T15o_ok false true) (millerNone_runA p q) (all_cons hp (all_cons (iff_t (by rw [e])) (all_cons (eqW_of (by rw [e])) all_nil))) (valsPQ p q) val_true w
  | true =>
    cases hq : onB2 q with
    | false =>
      have e := loopR_f (p := p) (q := q) (by rw [hp, hq]; rfl)
      exact gives_of_run1 (T15o_ok true false) (millerNone_runB p q) (all_cons hp (all_cons hq (all_cons (iff_t (by rw [e])) (all_cons (eqW_of (by rw [e])) all_nil)))) (valsPQ p q) val_true w
    | true =>
      have hpq : (onB1 p && onB2 q) = true := by rw [hp, hq]; rfl
      obtain ⟨p, pb⟩ := p
      obtain ⟨q, qb⟩ := q
      cases pb with
      | true =>
        have e := loopR_i hpq rfl
        exact gives_of_run1 (T15o_ok true true) (millerNone_runC p (q, qb)) (all_cons hp (all_cons hq (all_cons (iff_t (by rw [e])) (all_cons (eqW_of (by rw [e])) all_nil)))) (valsPQ _ _) val_true w
      | false =>
        cases qb with
        | true =>
          have e := loopR_i hpq rfl
          exact gives_of_run1 (T15o_ok true true) (millerNone_runD p q) (all_cons hp (all_cons hq (all_cons (iff_t (by rw [e])) (all_cons (eqW_of (by rw [e])) all_nil)))) (valsPQ _ _) val_true w
        | false => exact gives_of_run1 (T15o_ok true true) (millerNone_runE p q) (all_cons hp (all_cons hq (all_cons (iff_t (by rw [loopR_t hp hq])) all_nil))) (valsPQ _ _) val_true w

/-! ### MillerSums, MillerThrough -/
noncomputable def T15s (a : A2) (b : Bool) (n : N12) : CallT := orT (tableT [rowK3 (kdP A2) (kdP A2) (kdP A1) rsStep 37 (fun _ _ _ => ((a, b), n)) (fun t q p => stepN t q p = ((a, b), n))]) T15
theorem T15s_ok (a : A2) (b : Bool) (n : N12) : CallOk Try.prog (T15s a b n) := orT_ok (tableT_ok (by
  simp only [List.forall_mem_cons, List.not_mem_nil, false_imp_iff, implies_true, and_true]
  exact rowK3_ok fun t q p h => by rw [← h]; exact miller_step t q p)) T15_ok
theorem valsM3 (t q : P2) (p : P1) : vals rho0 [wP t, wP q, wP p] = some [wpv t, wpv q, wpv p] := by simp only [vals, val_wP]
theorem millerSums_runP (t q : P2) (p : A1) : run1 T15 7 [wP t, wP q, wP (p, true)] (allT 200) = some (vB true, [eqP' (stepN t q (p, true)).1 (addP2 t q) true, eqW (stepN t q (p, true)).2 (κ12 1) true]) := by kernel_rfl
theorem millerSums_runT (t : A2) (q : P2) (p : A1) : run1 T15 7 [wP (t, true), wP q, wP (p, false)] (allT 200) = some (vB true, [eqP' (stepN (t, true) q (p, false)).1 (addP2 (t, true) q) true, eqW (stepN (t, true) q (p, false)).2 (κ12 1) true]) := by kernel_rfl
theorem millerSums_runQ (t q : A2) (p : A1) : run1 T15 7 [wP (t, false), wP (q, true), wP (p, false)] (allT 200) = some (vB true, [eqP' (stepN (t, false) (q, true) (p, false)).1 (addP2 (t, false) (q, true)) true, eqW (stepN (t, false) (q, true) (p, false)).2 (κ12 1) true]) := by kernel_rfl
theorem millerSums_runI (t q : A2) (p : A1) (a : A2) (n : N12) : run1 (T15s a true n) 7 [wP (t, false), wP (q, false), wP (p, false)] (allT 200) =
  some (vB true, [stepN (t, false) (q, false) (p, false) = ((a, true), n), eqP' (a, true) (addP2 (t, false) (q, false)) true, eqW n.2 (((0, 0), (0, 0), (0, 0)) : N6) true]) := by kernel_rfl
theorem millerSums_runL (t q : A2) (p : A1) (a : A2) (n : N12) : run1 (T15s a false n) 7 [wP (t, false), wP (q, false), wP (p, false)] (allT 200) =
  some (vB true, [stepN (t, false) (q, false) (p, false) = ((a, false), n), eqP' (a, false) (addP2 (t, false) (q, false)) true, eqW n.2.2.1.1 (rdN p.2) true]) := by kernel_rfl
/-- A step of two points that are not infinity: the line that goes straight up, or one with a slope through both. -/
inductive StepForm (x1 y1 x2 y2 : F2) (px py : F) (s : Pt F2) (n : F12) : Prop where
  | up (h : x1 = x2) (hs : s = .inf) (hn : n = vlF x1 px)
  | by (l : F2) (h : l * (x2 - x1) = y2 - y1) (hs : s = sumBy l x1 y1 x2) (hn : n = lnF l x1 y1 px py)
theorem step_form (x1 y1 x2 y2 : F2) (px py : F) : StepForm x1 y1 x2 y2 px py (padd (.aff x1 y1) (.aff x2 y2)) (stF (.aff x1 y1) (.aff x2 y2) (.aff px py)) := by
  rw [padd_aff, stF_aff]
  by_cases hx : x1 = x2
  · rw [if_pos hx, if_pos hx]
    by_cases hy : y1 ≠ y2 ∨ y1 = 0
    · rw [if_pos hy, if_pos hy]; exact .up hx rfl rfl
    · rw [if_neg hy, if_neg hy]
      refine .by _ ?_ rfl rfl
      have hy' : y1 = y2 := Classical.byContradiction fun e => hy (.inl e)
      rw [hx, hy', sub_self, sub_self, mul_zero]
  · rw [if_neg hx, if_neg hx]
    refine .by _ ?_ rfl rfl
    have h0 : x2 - x1 ≠ 0 := sub_ne hx
    rw [show (y2 - y1) * inv (x2 - x1) * (x2 - x1) = (y2 - y1) * ((x2 - x1) * inv (x2 - x1)) from ident (env [y2 - y1, inv (x2 - x1), x2 - x1]) (v0 * v1 * v2) (v0 * (v2 * v1)) (by decide +kernel), mul_inv h0, mul_one]
theorem stepN_aff (t q : A2) (p : A1) : stepN (t, false) (q, false) (p, false) = (κP2 (padd (.aff (ι2 t.1) (ι2 t.2)) (.aff (ι2 q.1) (ι2 q.2))), κ12 (stF (.aff (ι2 t.1) (ι2 t.2)) (.aff (ι2 q.1) (ι2 q.2)) (.aff (φ p.1) (φ p.2)))) := rfl
theorem stepN_inf {t q : P2} {p : P1} (h : p.2 = true ∨ t.2 = true ∨ q.2 = true) : (stepN t q p).2 = κ12 1 := by
  obtain ⟨t, tb⟩ := t
  obtain ⟨q, qb⟩ := q
  obtain ⟨p, pb⟩ := p
  show κ12 (stF (ιP2 (t, tb)) (ιP2 (q, qb)) (ιP1 (p, pb))) = _
  rcases h with h | h | h <;> simp only at h <;> subst h
  · rw [show ιP1 (p, true) = .inf from rfl, stF_p]
  · rw [show ιP2 (t, true) = .inf from rfl, stF_t]
  · rw [show ιP2 (q, true) = .inf from rfl, stF_q]
theorem zF_val : (0 : F).val = 0 := by decide +kernel
theorem millerSums_gives (t : P2) (_ : Sm t.1) (q : P2) (_ : Sm q.1) (p : P1) (_ : Sm p.1) (w : World) : Gives Try.prog 7 #[wpv t, wpv q, wpv p] (.bool true) w := by
  obtain ⟨p, pb⟩ := p
  cases pb with
  | true => exact gives_of_run1 T15_ok (millerSums_runP t q p) (all_cons (eqP_of rfl) (all_cons (eqW_of (stepN_inf (.inl rfl))) all_nil)) (valsM3 _ _ _) val_true w
  | false =>
    obtain ⟨t, tb⟩ := t
    cases tb with
    | true => exact gives_of_run1 T15_ok (millerSums_runT t q p) (all_cons (eqP_of rfl) (all_cons (eqW_of (stepN_inf (.inr (.inl rfl)))) all_nil)) (valsM3 _ _ _) val_true w
    | false =>
      obtain ⟨q, qb⟩ := q
      cases qb with
      | true => exact gives_of_run1 T15_ok (millerSums_runQ t q p) (all_cons (eqP_of rfl) (all_cons (eqW_of (stepN_inf (.inr (.inr rfl)))) all_nil)) (valsM3 _ _ _) val_true w
      | false =>
        have e := stepN_aff t q p
        have ea : addP2 (t, false) (q, false) = (stepN (t, false) (q, false) (p, false)).1 := rfl
        rcases step_form (ι2 t.1) (ι2 t.2) (ι2 q.1) (ι2 q.2) (φ p.1) (φ p.2) with ⟨hx, hs, hn⟩ | ⟨l, hl, hs, hn⟩
        · rw [hs, hn] at e
          have e' : stepN (t, false) (q, false) (p, false) = ((((0, 0), (0, 0)), true), κ12 (vlF (ι2 t.1) (φ p.1))) := e
          refine gives_of_run1 (T15s_ok _ _ _) (millerSums_runI t q p _ _) (all_cons e' (all_cons (eqP_of ?_) (all_cons (eqW_of ?_) all_nil))) (valsM3 _ _ _) val_true w
          · rw [ea, e']
          · rw [κ12_vl]
        · rw [hs, hn] at e
          have e' : stepN (t, false) (q, false) (p, false) = (((κ2 (l * l - ι2 t.1 - ι2 q.1), κ2 (l * (ι2 t.1 - (l * l - ι2 t.1 - ι2 q.1)) - ι2 t.2)), false), κ12 (lnF l (ι2 t.1) (ι2 t.2) (φ p.1) (φ p.2))) := e
          refine gives_of_run1 (T15s_ok _ _ _) (millerSums_runL t q p _ _) (all_cons e' (all_cons (eqP_of ?_) (all_cons (eqW_of ?_) all_nil))) (valsM3 _ _ _) val_true w
          · rw [ea, e']
          · rw [κ12_ln]; rfl
theorem millerThrough_runI (t q : P2) (p : P1) (a : A2) (n : N12) : run1 (T15s a true n) 8 [wP t, wP q, wP p] (allT 200) = some (vB true, [stepN t q p = ((a, true), n)]) := by kernel_rfl
theorem millerThrough_runT (t : A2) (q : P2) (p : P1) (a : A2) (n : N12) : run1 (T15s a false n) 8 [wP (t, true), wP q, wP p] (allT 200) = some (vB true, [stepN (t, true) q p = ((a, false), n)]) := by kernel_rfl
theorem millerThrough_runQ (t q : A2) (p : P1) (a : A2) (n : N12) : run1 (T15s a false n) 8 [wP (t, false), wP (q, true), wP p] (allT 200) = some (vB true, [stepN (t, false) (q, true) p = ((a, false), n)]) := by kernel_rfl
theorem millerThrough_runP (t q : A2) (p : A1) (a : A2) (n : N12) : run1 (T15s a false n) 8 [wP (t, false), wP (q, false), wP (p, true)] (allT 200) = some (vB true, [stepN (t, false) (q, false) (p, true) = ((a, false), n)]) := by kernel_rfl
theorem millerThrough_runZ (t q : A2) (p : A1) (a : A2) (n : N12) : run1 (T15s a false n) 8 [wP (t, false), wP (q, false), wP (p, false)] (allT 200) = some (vB true, [stepN (t, false) (q, false) (p, false) = ((a, false), n), eqW (rdN p.1) (0 : Nat) true]) := by kernel_rfl
noncomputable def slpN (n : N12) (p : A1) : N2 := neg2 (scale2 n.1.2.1 (invF p.1))
theorem millerThrough_runL (t q : A2) (p : A1) (a : A2) (n : N12) : run1 (T15s a false n) 8 [wP (t, false), wP (q, false), wP (p, false)] (hF 200 [41]) =
  some (vB true, [stepN (t, false) (q, false) (p, false) = ((a, false), n), eqW (rdN p.1) (0 : Nat) false, eqW n.1.1 (sub2 (mul2 (slpN n p) t.1) t.2) true, eqW (sub2 (mul2 (slpN n p) t.1) t.2) (sub2 (mul2 (slpN n p) q.1) q.2) true,
    eqW (add2 (mul2 (slpN n p) a.1) a.2) (sub2 (mul2 (slpN n p) q.1) q.2) true]) := by kernel_rfl
theorem up1_mul (a b : F) : up1 a * up1 b = up1 (a * b) := by
  refine Quad.ext' ?_ ?_
  · show a * b + (-1) * (0 * 0) = a * b
    rw [mul_zero, mul_zero, add_zero]
  · show a * 0 + 0 * b = 0
    rw [mul_zero, zero_mul, add_zero]
theorem slp_eq (l x y : F2) {px py : F} {p : A1} (hp : φ p.1 = px) (h0 : px ≠ 0) : ι2 (slpN (κ12 (lnF l x y px py)) p) = l := by
  have e : (κ12 (lnF l x y px py)).1.2.1 = κ2 (-(l * up1 px)) := rfl
  unfold slpN
  rw [e]
  simp only [neg2, scale2, ικ2]
  have e2 : up1 px * up1 (φ (invF p.1)) = 1 := by
    rw [up1_mul]
    have : φ (invF p.1) = inv px := by rw [← hp]; exact φκ _
    rw [this, mul_inv h0]; rfl
  rw [show -(-(l * up1 px) * up1 (φ (invF p.1))) = l * (up1 px * up1 (φ (invF p.1))) from ident (env [l, up1 px, up1 (φ (invF p.1))]) (-(-(v0 * v1) * v2)) (v0 * (v1 * v2)) (by decide +kernel), e2, mul_one]
theorem millerThrough_gives (t : P2) (_ : Sm t.1) (q : P2) (_ : Sm q.1) (p : P1) (_ : Sm p.1) (w : World) : Gives Try.prog 8 #[wpv t, wpv q, wpv p] (.bool true) w := by
  rcases hst : stepN t q p with ⟨⟨a, b⟩, n⟩
  cases b with
  | true => exact gives_of_run1 (T15s_ok _ _ _) (millerThrough_runI t q p _ _) (one_mem hst) (valsM3 _ _ _) val_true w
  | false =>
    obtain ⟨t, tb⟩ := t
    cases tb with
    | true => exact gives_of_run1 (T15s_ok _ _ _) (millerThrough_runT t q p _ _) (one_mem hst) (valsM3 _ _ _) val_true w
    | false =>
      obtain ⟨q, qb⟩ := q
      cases qb with
      | true => exact gives_of_run1 (T15s_ok _ _ _) (millerThrough_runQ t q p _ _) (one_mem hst) (valsM3 _ _ _) val_true w
      | false =>
        obtain ⟨p, pb⟩ := p
        cases pb with
        | true => exact gives_of_run1 (T15s_ok _ _ _) (millerThrough_runP t q p _ _) (one_mem hst) (valsM3 _ _ _) val_true w
        | false =>
          by_cases hp : φ p.1 = 0
          · have : eqW (rdN p.1) (0 : Nat) true := eqW_of (by show (φ p.1).val = 0; rw [hp]; exact zF_val)
            exact gives_of_run1 (T15s_ok _ _ _) (millerThrough_runZ t q p _ _) (all_cons hst (all_cons this all_nil)) (valsM3 _ _ _) val_true w
          · have hpz : eqW (rdN p.1) (0 : Nat) false := by
              have : eqW (κF1 (φ p.1)) (κF1 0) false := eqK1 (iff_f hp)
              rw [← κz1z] at this
              exact this
            have e := stepN_aff t q p
            rcases step_form (ι2 t.1) (ι2 t.2) (ι2 q.1) (ι2 q.2) (φ p.1) (φ p.2) with ⟨hx, hs, hn⟩ | ⟨l, hl, hs, hn⟩
            · rw [hs, hst] at e
              have := congrArg (fun z : P2 × N12 => z.1.2) e
              cases this
            · rw [hs, hn, hst] at e
              have ea : a = (κ2 (l * l - ι2 t.1 - ι2 q.1), κ2 (l * (ι2 t.1 - (l * l - ι2 t.1 - ι2 q.1)) - ι2 t.2)) := congrArg (fun z : P2 × N12 => z.1.1) e
              have en : n = κ12 (lnF l (ι2 t.1) (ι2 t.2) (φ p.1) (φ p.2)) := congrArg (fun z : P2 × N12 => z.2) e
              have es : ι2 (slpN n p) = l := by rw [en]; exact slp_eq l _ _ rfl hp
              have e1 : sub2 (mul2 (slpN n p) t.1) t.2 = κ2 (l * ι2 t.1 - ι2 t.2) := by
                simp only [sub2, mul2, ικ2]; rw [es]
              have e2 : sub2 (mul2 (slpN n p) q.1) q.2 = κ2 (l * ι2 t.1 - ι2 t.2) := by
                simp only [sub2, mul2, ικ2]; rw [es]
                refine congrArg κ2 ?_
                exact lin1 (env [l, ι2 t.1, ι2 t.2, ι2 q.1, ι2 q.2]) (v0 * v3 - v4) (v0 * v1 - v2) 1 (v0 * (v3 - v1)) (v4 - v2) hl (by decide +kernel)
              refine gives_of_run1 (T15s_ok _ _ _) (millerThrough_runL t q p _ _) (all_cons hst (all_cons hpz (all_cons (eqW_of ?_) (all_cons (eqW_of ?_) (all_cons (eqW_of ?_) all_nil))))) (valsM3 _ _ _) val_true w
              · rw [e1, en]; rfl
              · rw [e1, e2]
              · rw [e2, ea]
                simp only [add2, mul2, ικ2]
                rw [es]
                refine congrArg κ2 ?_
                exact ident (env [l, ι2 t.1, ι2 t.2, ι2 q.1]) (v0 * (v0 * v0 - v1 - v3) + (v0 * (v1 - (v0 * v0 - v1 - v3)) - v2)) (v0 * v1 - v2) (by decide +kernel)
end Go.Proofs.Ytmebkhfdhbjacaa
