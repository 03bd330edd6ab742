/-
  Points of the curve G1: what they stand for; the rows of the program's g1.
-/
import Derived.Test.YthceokldlinjlaaCd
import Derived.Test.YthceokldlinjlaaBl
import Derived.Test.YthceokldlinjlaaRp4
namespace Go.Proofs.Ythceokldlinjlaa
open Go Go.Eng Go.RowKit Go.Wd Go.Alg Go.Pr

abbrev κF1 (z : F) : Nat := z.val
theorem φκ (z : F) : φ (κF1 z) = z := φ_val z
theorem κF1_inj {x y : F} (h : κF1 x = κF1 y) : x = y := by rw [← φκ x, h, φκ]
theorem eqK1 {x y : F} {b : Bool} (h : x = y ↔ b = true) : eqW (κF1 x) (κF1 y) b := eqW_iff (sm_val x) (sm_val y) ⟨fun e => h.1 (κF1_inj e), fun e => by rw [h.2 e]⟩

abbrev A1 := Nat × Nat
abbrev P1 := A1 × Bool
abbrev J1 := Nat × Nat × Nat
def b1 : F := φ 4
theorem cv1 : Cv F b1 where
  two h := by
    have : κF1 ((1 : F) + 1) = κF1 0 := by rw [h]
    revert this
    decide +kernel
  three h := by
    have : κF1 ((1 : F) + 1 + 1) = κF1 0 := by rw [h]
    revert this
    decide +kernel
  bne h := by
    have : κF1 b1 = κF1 0 := by rw [h]
    revert this
    decide +kernel
def ιP1 (x : P1) : Pt F := match x.2 with
  | true => .inf
  | false => .aff (φ x.1.1) (φ x.1.2)
def κP1 (p : Pt F) : P1 := match p with
  | .inf => ((0, 0), true)
  | .aff x y => ((κF1 x, κF1 y), false)
theorem ικP1 (p : Pt F) : ιP1 (κP1 p) = p := by
  cases p with
  | inf => rfl
  | aff x y => show Pt.aff (φ (κF1 x)) (φ (κF1 y)) = _; rw [φκ, φκ]
def ιJ1 (f : J1) : Jc F := ⟨φ f.1, φ f.2.1, φ f.2.2⟩
def κJ1 (f : Jc F) : J1 := (κF1 f.x, κF1 f.y, κF1 f.z)
theorem ικJ1 (f : Jc F) : ιJ1 (κJ1 f) = f := by
  unfold ιJ1 κJ1
  rw [φκ, φκ, φκ]
theorem κz1z : (0 : Nat) = κF1 0 := by decide +kernel
theorem κo1z : (1 : Nat) = κF1 1 := by decide +kernel
theorem ι_z1 : φ 0 = 0 := by rw [κz1z, φκ]
theorem ι_o1 : φ 1 = 1 := by rw [κo1z, φκ]
/-- Numbers below p. -/
def Rd1 (x : Nat) : Prop := κF1 (φ x) = x
def RdJ1 (f : J1) : Prop := κJ1 (ιJ1 f) = f
noncomputable def onB1 (x : P1) : Bool := @decide (On b1 (ιP1 x)) (Classical.propDecidable _)
theorem onB1_iff (x : P1) : onB1 x = true ↔ On b1 (ιP1 x) := by unfold onB1; exact @decide_eq_true_iff _ (Classical.propDecidable _)
theorem onB1_not {x : P1} (h : ¬ On b1 (ιP1 x)) : onB1 x = false := by
  cases e : onB1 x with
  | false => rfl
  | true => exact absurd ((onB1_iff x).1 e) h
noncomputable def TE1 : CallT := tableT rows01
theorem TE1_ok : CallOk Try.prog TE1 := tableT_ok rows01_ok

/-! ### Reduce, On, Neg -/
theorem g1_reduce_runT (x : A1) : run1 TE1 84 [wP (x, true)] [] = some (.one (wP ((0, 0), true)), []) := by kernel_rfl
theorem g1_reduce_runF (x : A1) : run1 TE1 84 [wP (x, false)] [] = some (.one (wP ((rdN x.1, rdN x.2), false)), []) := by kernel_rfl
theorem g1_reduce (x : P1) : Pure Try.prog 84 [wpv x] (wpv (κP1 (ιP1 x))) := by
  obtain ⟨x, b⟩ := x
  cases b with
  | true => exact pureC_of_run TE1_ok (kdP A1).rs (g1_reduce_runT x) (fun _ h => by cases h) (valsC1 (kdP _) _) rfl
  | false => exact pureC_of_run TE1_ok (kdP A1).rs (g1_reduce_runF x) (fun _ h => by cases h) (valsC1 (kdP _) _) rfl
theorem g1_on_runT (x : A1) : run1 TE1 29 [wP (x, true)] [] = some (vB true, []) := by kernel_rfl
def onW1 (x : A1) (h : Bool) : Prop := eqW (mulF x.2 x.2) (addF (mulF (mulF x.1 x.1) x.1) 4) h
theorem g1_on_runF (x : A1) : ∀ h : Bool, run1 TE1 29 [wP (x, false)] [(21, h)] = some (vB h, [onW1 x h])
  | true => by kernel_rfl
  | false => by kernel_rfl
theorem onW1_ok {x : A1} {h : Bool} (e : On b1 (.aff (φ x.1) (φ x.2)) ↔ h = true) : onW1 x h := by
  unfold onW1
  simp only [mulF, addF]
  refine eqK1 ?_
  rw [φκ, φκ]
  exact e
theorem pureB_run {T : CallT} (hT : CallOk Try.prog T) {f : FuncId} {args : List AV} {vs : List Value} {hints : List (Nat × Bool)} {b c : Bool} {ob : List Prop} (h : run1 T f args hints = some (vB b, ob)) (hob : ∀ p ∈ ob, p) (hv : vals rho0 args = some vs) (he : b = c) : Pure Try.prog f vs (.bool c) :=
  pureC_of_run hT kdB.rs h hob hv he
theorem one_mem {p : Prop} (h : p) : ∀ q ∈ [p], q := fun q hq => by rw [List.mem_singleton] at hq; subst hq; exact h
theorem g1_on (x : P1) : Pure Try.prog 29 [wpv x] (.bool (onB1 x)) := by
  obtain ⟨x, b⟩ := x
  cases b with
  | true => exact pureB_run TE1_ok (g1_on_runT x) (fun _ h => by cases h) (valsC1 (kdP _) _) (((onB1_iff (x, true)).2 trivial).symm)
  | false => exact pureB_run TE1_ok (g1_on_runF x (onB1 (x, false))) (one_mem (onW1_ok (onB1_iff (x, false)).symm)) (valsC1 (kdP _) _) rfl
noncomputable def rowsA1 : List Row := rowC1 (kdP A1) (kdP A1).rs 84 (fun x => κP1 (ιP1 x)) :: rowC1 (kdP A1) kdB.rs 29 onB1 :: rows01
theorem rowsA1_ok : ∀ r ∈ rowsA1, RowOk Try.prog r := by
  simp only [rowsA1, List.forall_mem_cons]
  exact ⟨rowC1_ok g1_reduce, rowC1_ok g1_on, rows01_ok⟩
noncomputable def TA1 : CallT := tableT rowsA1
theorem TA1_ok : CallOk Try.prog TA1 := tableT_ok rowsA1_ok
theorem g1_neg_runT (x : A1) : run1 TA1 42 [wP (x, true)] [] = some (.one (wP ((0, negF 0), true)), []) := by kernel_rfl
theorem g1_neg_runF (x : A1) : run1 TA1 42 [wP (x, false)] [] = some (.one (wP ((rdN x.1, negF (rdN x.2)), false)), []) := by kernel_rfl
theorem neg_z1 : negF 0 = 0 := by
  unfold negF
  rw [ι_z1, neg_zero]; exact κz1z.symm
theorem g1_neg (x : P1) : Pure Try.prog 42 [wpv x] (wpv (κP1 (ιP1 x).neg)) := by
  obtain ⟨x, b⟩ := x
  cases b with
  | true =>
    refine pureC_of_run TA1_ok (kdP A1).rs (g1_neg_runT x) (fun _ h => by cases h) (valsC1 (kdP _) _) ?_
    rw [neg_z1]; rfl
  | false =>
    refine pureC_of_run TA1_ok (kdP A1).rs (g1_neg_runF x) (fun _ h => by cases h) (valsC1 (kdP _) _) ?_
    simp only [negF, rdN, φκ]; rfl

/-! ### Add -/
def chX1 (l x1 x2 : Nat) : Nat := subF (subF (mulF l l) x1) x2
def chY1 (l x1 y1 x2 : Nat) : Nat := subF (mulF l (subF x1 (chX1 l x1 x2))) y1
def ch1 (l x1 y1 x2 : Nat) : P1 := ((chX1 l x1 x2, chY1 l x1 y1 x2), false)
noncomputable def slC1 (x y : A1) : Nat := mulF (subF (rdN y.2) (rdN x.2)) (invF (subF (rdN y.1) (rdN x.1)))
noncomputable def slT1 (x : A1) : Nat := mulF (addF (addF (mulF (rdN x.1) (rdN x.1)) (mulF (rdN x.1) (rdN x.1))) (mulF (rdN x.1) (rdN x.1))) (invF (addF (rdN x.2) (rdN x.2)))
theorem g1_add_runT (x : A1) (y : P1) : run1 TA1 44 [wP (x, true), wP y] [] = some (.one (wP (κP1 (ιP1 y))), []) := by kernel_rfl
theorem g1_add_runFT (x y : A1) : run1 TA1 44 [wP (x, false), wP (y, true)] [] = some (.one (wP ((rdN x.1, rdN x.2), false)), []) := by kernel_rfl
theorem g1_add_runA (x y : A1) : run1 TA1 44 [wP (x, false), wP (y, false)] [(42, false)] = some (.one (wP (ch1 (slC1 x y) (rdN x.1) (rdN x.2) (rdN y.1))), [eqW (rdN x.1) (rdN y.1) false]) := by kernel_rfl
theorem g1_add_runB (x y : A1) : run1 TA1 44 [wP (x, false), wP (y, false)] [(42, true), (58, false)] = some (.one (wP ((0, 0), true)), [eqW (rdN x.1) (rdN y.1) true, eqW (rdN x.2) (rdN y.2) false]) := by kernel_rfl
theorem g1_add_runC (x y : A1) : run1 TA1 44 [wP (x, false), wP (y, false)] [(42, true), (58, true), (63, true)] = some (.one (wP ((0, 0), true)), [eqW (rdN x.1) (rdN y.1) true, eqW (rdN x.2) (rdN y.2) true, eqW (rdN x.2) 0 true]) := by kernel_rfl
theorem g1_add_runD (x y : A1) : run1 TA1 44 [wP (x, false), wP (y, false)] [(42, true), (58, true), (63, false)] = some (.one (wP (ch1 (slT1 x) (rdN x.1) (rdN x.2) (rdN y.1))), [eqW (rdN x.1) (rdN y.1) true, eqW (rdN x.2) (rdN y.2) true, eqW (rdN x.2) 0 false]) := by kernel_rfl
theorem eqR1 {x y : Nat} {b : Bool} (h : φ x = φ y ↔ b = true) : eqW (rdN x) (rdN y) b := eqK1 h
theorem eqZ1 {x : Nat} {b : Bool} (h : φ x = 0 ↔ b = true) : eqW (rdN x) 0 b := by
  have : eqW (rdN x) (κF1 0) b := eqK1 h
  rw [← κz1z] at this
  exact this
theorem κ_sumBy1 {l x1 y1 x2 : Nat} {L X1 Y1 X2 : F} (hl : φ l = L) (h1 : φ x1 = X1) (h2 : φ y1 = Y1) (h3 : φ x2 = X2) : ch1 l x1 y1 x2 = κP1 (sumBy L X1 Y1 X2) := by
  subst hl h1 h2 h3
  unfold ch1 chY1 chX1 sumBy κP1
  simp only [subF, mulF, φκ]
theorem g1_add (x y : P1) : Pure Try.prog 44 [wpv x, wpv y] (wpv (κP1 (padd (ιP1 x) (ιP1 y)))) := by
  obtain ⟨x, b⟩ := x
  have hr : ∀ t : Nat, φ (rdN t) = φ t := fun t => φκ _
  cases b with
  | true =>
    refine pureC_of_run TA1_ok (kdP A1).rs (g1_add_runT x y) (fun _ h => by cases h) (valsC2 (kdP _) (kdP _) _ _) ?_
    show κP1 (ιP1 y) = κP1 (padd .inf (ιP1 y))
    rw [inf_add]
  | false =>
    obtain ⟨y, c⟩ := y
    cases c with
    | true => exact pureC_of_run TA1_ok (kdP A1).rs (g1_add_runFT x y) (fun _ h => by cases h) (valsC2 (kdP _) (kdP _) _ _) rfl
    | false =>
      show Pure _ _ _ (wpv (κP1 (padd (.aff (φ x.1) (φ x.2)) (.aff (φ y.1) (φ y.2)))))
      rw [padd_aff]
      by_cases hx : φ x.1 = φ y.1
      · rw [if_pos hx]
        by_cases hy : φ x.2 = φ y.2
        · by_cases h0 : φ x.2 = 0
          · rw [if_pos (.inr h0)]
            refine pureC_of_run TA1_ok (kdP A1).rs (g1_add_runC x y) ?_ (valsC2 (kdP _) (kdP _) _ _) rfl
            simp only [List.forall_mem_cons, List.not_mem_nil, false_imp_iff, implies_true, and_true]
            exact ⟨eqR1 (iff_t hx), eqR1 (iff_t hy), eqZ1 (iff_t h0)⟩
          · rw [if_neg (by rintro (e | e) <;> contradiction)]
            refine pureC_of_run TA1_ok (kdP A1).rs (g1_add_runD x y) ?_ (valsC2 (kdP _) (kdP _) _ _) ?_
            · simp only [List.forall_mem_cons, List.not_mem_nil, false_imp_iff, implies_true, and_true]
              exact ⟨eqR1 (iff_t hx), eqR1 (iff_t hy), eqZ1 (iff_f h0)⟩
            · refine κ_sumBy1 ?_ (hr _) (hr _) (hr _)
              unfold slT1
              simp only [mulF, addF, invF, rdN, φκ]
        · rw [if_pos (.inl hy)]
          refine pureC_of_run TA1_ok (kdP A1).rs (g1_add_runB x y) ?_ (valsC2 (kdP _) (kdP _) _ _) rfl
          simp only [List.forall_mem_cons, List.not_mem_nil, false_imp_iff, implies_true, and_true]
          exact ⟨eqR1 (iff_t hx), eqR1 (iff_f hy)⟩
      · rw [if_neg hx]
        refine pureC_of_run TA1_ok (kdP A1).rs (g1_add_runA x y) (one_mem (eqR1 (iff_f hx))) (valsC2 (kdP _) (kdP _) _ _) ?_
        refine κ_sumBy1 ?_ (hr _) (hr _) (hr _)
        unfold slC1
        simp only [mulF, subF, invF, rdN, φκ]
end Go.Proofs.Ythceokldlinjlaa
