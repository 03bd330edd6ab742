/-
  Points of the curve G2: what they stand for; the rows of the program's g2.
-/
import Derived.Test.YthceokldlinjlaaCd
import Derived.Test.YthceokldlinjlaaBl
namespace Go.Proofs.Ythceokldlinjlaa
open Go Go.Eng Go.RowKit Go.Wd Go.Alg Go.Pr

def sameN2 (x y : N2) : Bool := Nat.beq x.1 y.1 && Nat.beq x.2 y.2
theorem sameN2_iff {x y : N2} : sameN2 x y = true ↔ x = y := by
  unfold sameN2
  rw [Bool.and_eq_true, Nat.beq_eq, Nat.beq_eq]
  exact ⟨fun h => Prod.ext h.1 h.2, fun h => by rw [h]; exact ⟨rfl, rfl⟩⟩

abbrev A2 := N2 × N2
abbrev P2 := A2 × Bool
abbrev J2 := N2 × N2 × N2
def b2 : F2 := ι2 (4, 4)
theorem cv2 : Cv F2 b2 where
  two h := by
    have : κ2 ((1 : F2) + 1) = κ2 0 := by rw [h]
    revert this
    decide +kernel
  three h := by
    have : κ2 ((1 : F2) + 1 + 1) = κ2 0 := by rw [h]
    revert this
    decide +kernel
  bne h := by
    have : κ2 b2 = κ2 0 := by rw [h]
    revert this
    decide +kernel
def ιP2 (x : P2) : Pt F2 := match x.2 with
  | true => .inf
  | false => .aff (ι2 x.1.1) (ι2 x.1.2)
def κP2 (p : Pt F2) : P2 := match p with
  | .inf => (((0, 0), (0, 0)), true)
  | .aff x y => ((κ2 x, κ2 y), false)
theorem ικP2 (p : Pt F2) : ιP2 (κP2 p) = p := by
  cases p with
  | inf => rfl
  | aff x y => show Pt.aff (ι2 (κ2 x)) (ι2 (κ2 y)) = _; rw [ικ2, ικ2]
def ιJ2 (f : J2) : Jc F2 := ⟨ι2 f.1, ι2 f.2.1, ι2 f.2.2⟩
def κJ2 (f : Jc F2) : J2 := (κ2 f.x, κ2 f.y, κ2 f.z)
theorem ικJ2 (f : Jc F2) : ιJ2 (κJ2 f) = f := by
  unfold ιJ2 κJ2
  rw [ικ2, ικ2, ικ2]
theorem κz2z : ((0, 0) : N2) = κ2 0 := by decide +kernel
theorem κo2z : ((1, 0) : N2) = κ2 1 := by decide +kernel
theorem ι_z2 : ι2 (0, 0) = 0 := by rw [κz2z, ικ2]
theorem ι_o2 : ι2 (1, 0) = 1 := by rw [κo2z, ικ2]
/-- Numbers below p. -/
def Rd2 (x : N2) : Prop := κ2 (ι2 x) = x
def RdJ2 (f : J2) : Prop := κJ2 (ιJ2 f) = f
noncomputable def onB2 (x : P2) : Bool := @decide (On b2 (ιP2 x)) (Classical.propDecidable _)
theorem onB2_iff (x : P2) : onB2 x = true ↔ On b2 (ιP2 x) := by unfold onB2; exact @decide_eq_true_iff _ (Classical.propDecidable _)
theorem onB2_not {x : P2} (h : ¬ On b2 (ιP2 x)) : onB2 x = false := by
  cases e : onB2 x with
  | false => rfl
  | true => exact absurd ((onB2_iff x).1 e) h
noncomputable def TE2 : CallT := tableT rows03
theorem TE2_ok : CallOk Try.prog TE2 := tableT_ok rows03_ok

/-! ### Reduce, On, Neg -/
theorem g2_reduce_runT (x : A2) : run1 TE2 57 [wP (x, true)] [] = some (.one (wP (((0, 0), (0, 0)), true)), []) := by kernel_rfl
theorem g2_reduce_runF (x : A2) : run1 TE2 57 [wP (x, false)] [] = some (.one (wP ((red2 x.1, red2 x.2), false)), []) := by kernel_rfl
theorem g2_reduce (x : P2) : Pure Try.prog 57 [wpv x] (wpv (κP2 (ιP2 x))) := by
  obtain ⟨x, b⟩ := x
  cases b with
  | true => exact pureC_of_run TE2_ok (kdP A2).rs (g2_reduce_runT x) (fun _ h => by cases h) (valsC1 (kdP _) _) rfl
  | false => exact pureC_of_run TE2_ok (kdP A2).rs (g2_reduce_runF x) (fun _ h => by cases h) (valsC1 (kdP _) _) rfl
theorem g2_on_runT (x : A2) : run1 TE2 23 [wP (x, true)] [] = some (vB true, []) := by kernel_rfl
def onW2 (x : A2) (h : Bool) : Prop := eqW (mul2 x.2 x.2) (add2 (mul2 (mul2 x.1 x.1) x.1) (4, 4)) h
theorem g2_on_runF (x : A2) : ∀ h : Bool, run1 TE2 23 [wP (x, false)] [(21, h)] = some (vB h, [onW2 x h])
  | true => by kernel_rfl
  | false => by kernel_rfl
theorem onW2_ok {x : A2} {h : Bool} (e : On b2 (.aff (ι2 x.1) (ι2 x.2)) ↔ h = true) : onW2 x h := by
  unfold onW2
  simp only [mul2, add2]
  refine eqK2 ?_
  rw [ικ2, ικ2]
  exact e
theorem pureB_run {T : CallT} (hT : CallOk Try.prog T) {f : FuncId} {args : List AV} {vs : List Value} {hints : List (Nat × Bool)} {b c : Bool} {ob : List Prop} (h : run1 T f args hints = some (vB b, ob)) (hob : ∀ p ∈ ob, p) (hv : vals rho0 args = some vs) (he : b = c) : Pure Try.prog f vs (.bool c) :=
  pureC_of_run hT kdB.rs h hob hv he
theorem one_mem {p : Prop} (h : p) : ∀ q ∈ [p], q := fun q hq => by rw [List.mem_singleton] at hq; subst hq; exact h
theorem g2_on (x : P2) : Pure Try.prog 23 [wpv x] (.bool (onB2 x)) := by
  obtain ⟨x, b⟩ := x
  cases b with
  | true => exact pureB_run TE2_ok (g2_on_runT x) (fun _ h => by cases h) (valsC1 (kdP _) _) (((onB2_iff (x, true)).2 trivial).symm)
  | false => exact pureB_run TE2_ok (g2_on_runF x (onB2 (x, false))) (one_mem (onW2_ok (onB2_iff (x, false)).symm)) (valsC1 (kdP _) _) rfl
noncomputable def rowsA2 : List Row := rowC1 (kdP A2) (kdP A2).rs 57 (fun x => κP2 (ιP2 x)) :: rowC1 (kdP A2) kdB.rs 23 onB2 :: rows03
theorem rowsA2_ok : ∀ r ∈ rowsA2, RowOk Try.prog r := by
  simp only [rowsA2, List.forall_mem_cons]
  exact ⟨rowC1_ok g2_reduce, rowC1_ok g2_on, rows03_ok⟩
noncomputable def TA2 : CallT := tableT rowsA2
theorem TA2_ok : CallOk Try.prog TA2 := tableT_ok rowsA2_ok
theorem g2_neg_runT (x : A2) : run1 TA2 43 [wP (x, true)] [] = some (.one (wP (((0, 0), neg2 (0, 0)), true)), []) := by kernel_rfl
theorem g2_neg_runF (x : A2) : run1 TA2 43 [wP (x, false)] [] = some (.one (wP ((red2 x.1, neg2 (red2 x.2)), false)), []) := by kernel_rfl
theorem neg_z2 : neg2 (0, 0) = (0, 0) := by
  unfold neg2
  rw [ι_z2, neg_zero]; exact κz2z.symm
theorem g2_neg (x : P2) : Pure Try.prog 43 [wpv x] (wpv (κP2 (ιP2 x).neg)) := by
  obtain ⟨x, b⟩ := x
  cases b with
  | true =>
    refine pureC_of_run TA2_ok (kdP A2).rs (g2_neg_runT x) (fun _ h => by cases h) (valsC1 (kdP _) _) ?_
    rw [neg_z2]; rfl
  | false =>
    refine pureC_of_run TA2_ok (kdP A2).rs (g2_neg_runF x) (fun _ h => by cases h) (valsC1 (kdP _) _) ?_
    simp only [neg2, red2, ικ2]; rfl

/-! ### Add -/
def chX2 (l x1 x2 : N2) : N2 := sub2 (sub2 (mul2 l l) x1) x2
def chY2 (l x1 y1 x2 : N2) : N2 := sub2 (mul2 l (sub2 x1 (chX2 l x1 x2))) y1
def ch2 (l x1 y1 x2 : N2) : P2 := ((chX2 l x1 x2, chY2 l x1 y1 x2), false)
noncomputable def slC2 (x y : A2) : N2 := mul2 (sub2 (red2 y.2) (red2 x.2)) (inve2 (sub2 (red2 y.1) (red2 x.1)))
noncomputable def slT2 (x : A2) : N2 := mul2 (add2 (add2 (mul2 (red2 x.1) (red2 x.1)) (mul2 (red2 x.1) (red2 x.1))) (mul2 (red2 x.1) (red2 x.1))) (inve2 (add2 (red2 x.2) (red2 x.2)))
theorem g2_add_runT (x : A2) (y : P2) : run1 TA2 22 [wP (x, true), wP y] [] = some (.one (wP (κP2 (ιP2 y))), []) := by kernel_rfl
theorem g2_add_runFT (x y : A2) : run1 TA2 22 [wP (x, false), wP (y, true)] [] = some (.one (wP ((red2 x.1, red2 x.2), false)), []) := by kernel_rfl
theorem g2_add_runA (x y : A2) : run1 TA2 22 [wP (x, false), wP (y, false)] [(42, false)] = some (.one (wP (ch2 (slC2 x y) (red2 x.1) (red2 x.2) (red2 y.1))), [eqW (red2 x.1) (red2 y.1) false]) := by kernel_rfl
theorem g2_add_runB (x y : A2) : run1 TA2 22 [wP (x, false), wP (y, false)] [(42, true), (58, false)] = some (.one (wP (((0, 0), (0, 0)), true)), [eqW (red2 x.1) (red2 y.1) true, eqW (red2 x.2) (red2 y.2) false]) := by kernel_rfl
theorem g2_add_runC (x y : A2) : run1 TA2 22 [wP (x, false), wP (y, false)] [(42, true), (58, true), (63, true)] = some (.one (wP (((0, 0), (0, 0)), true)), [eqW (red2 x.1) (red2 y.1) true, eqW (red2 x.2) (red2 y.2) true, eqW (red2 x.2) (0, 0) true]) := by kernel_rfl
theorem g2_add_runD (x y : A2) : run1 TA2 22 [wP (x, false), wP (y, false)] [(42, true), (58, true), (63, false)] = some (.one (wP (ch2 (slT2 x) (red2 x.1) (red2 x.2) (red2 y.1))), [eqW (red2 x.1) (red2 y.1) true, eqW (red2 x.2) (red2 y.2) true, eqW (red2 x.2) (0, 0) false]) := by kernel_rfl
theorem eqR2 {x y : N2} {b : Bool} (h : ι2 x = ι2 y ↔ b = true) : eqW (red2 x) (red2 y) b := eqK2 h
theorem eqZ2 {x : N2} {b : Bool} (h : ι2 x = 0 ↔ b = true) : eqW (red2 x) (0, 0) b := by
  have : eqW (red2 x) (κ2 0) b := eqK2 h
  rw [← κz2z] at this
  exact this
theorem κ_sumBy2 {l x1 y1 x2 : N2} {L X1 Y1 X2 : F2} (hl : ι2 l = L) (h1 : ι2 x1 = X1) (h2 : ι2 y1 = Y1) (h3 : ι2 x2 = X2) : ch2 l x1 y1 x2 = κP2 (sumBy L X1 Y1 X2) := by
  subst hl h1 h2 h3
  unfold ch2 chY2 chX2 sumBy κP2
  simp only [sub2, mul2, ικ2]
theorem g2_add (x y : P2) : Pure Try.prog 22 [wpv x, wpv y] (wpv (κP2 (padd (ιP2 x) (ιP2 y)))) := by
  obtain ⟨x, b⟩ := x
  have hr : ∀ t : N2, ι2 (red2 t) = ι2 t := fun t => ικ2 _
  cases b with
  | true =>
    refine pureC_of_run TA2_ok (kdP A2).rs (g2_add_runT x y) (fun _ h => by cases h) (valsC2 (kdP _) (kdP _) _ _) ?_
    show κP2 (ιP2 y) = κP2 (padd .inf (ιP2 y))
    rw [inf_add]
  | false =>
    obtain ⟨y, c⟩ := y
    cases c with
    | true => exact pureC_of_run TA2_ok (kdP A2).rs (g2_add_runFT x y) (fun _ h => by cases h) (valsC2 (kdP _) (kdP _) _ _) rfl
    | false =>
      show Pure _ _ _ (wpv (κP2 (padd (.aff (ι2 x.1) (ι2 x.2)) (.aff (ι2 y.1) (ι2 y.2)))))
      rw [padd_aff]
      by_cases hx : ι2 x.1 = ι2 y.1
      · rw [if_pos hx]
        by_cases hy : ι2 x.2 = ι2 y.2
        · by_cases h0 : ι2 x.2 = 0
          · rw [if_pos (.inr h0)]
            refine pureC_of_run TA2_ok (kdP A2).rs (g2_add_runC x y) ?_ (valsC2 (kdP _) (kdP _) _ _) rfl
            simp only [List.forall_mem_cons, List.not_mem_nil, false_imp_iff, implies_true, and_true]
            exact ⟨eqR2 (iff_t hx), eqR2 (iff_t hy), eqZ2 (iff_t h0)⟩
          · rw [if_neg (by rintro (e | e) <;> contradiction)]
            refine pureC_of_run TA2_ok (kdP A2).rs (g2_add_runD x y) ?_ (valsC2 (kdP _) (kdP _) _ _) ?_
            · simp only [List.forall_mem_cons, List.not_mem_nil, false_imp_iff, implies_true, and_true]
              exact ⟨eqR2 (iff_t hx), eqR2 (iff_t hy), eqZ2 (iff_f h0)⟩
            · refine κ_sumBy2 ?_ (hr _) (hr _) (hr _)
              unfold slT2
              simp only [mul2, add2, inve2, red2, ικ2]
        · rw [if_pos (.inl hy)]
          refine pureC_of_run TA2_ok (kdP A2).rs (g2_add_runB x y) ?_ (valsC2 (kdP _) (kdP _) _ _) rfl
          simp only [List.forall_mem_cons, List.not_mem_nil, false_imp_iff, implies_true, and_true]
          exact ⟨eqR2 (iff_t hx), eqR2 (iff_f hy)⟩
      · rw [if_neg hx]
        refine pureC_of_run TA2_ok (kdP A2).rs (g2_add_runA x y) (one_mem (eqR2 (iff_f hx))) (valsC2 (kdP _) (kdP _) _ _) ?_
        refine κ_sumBy2 ?_ (hr _) (hr _) (hr _)
        unfold slC2
        simp only [mul2, sub2, inve2, red2, ικ2]
end Go.Proofs.Ythceokldlinjlaa
