/-
  The laws of chapter 13: what they compute.
-/
import Derived.Test.YtkbbocpahnlkkaaAw13
import Derived.Test.YtkbbocpahnlkkaaV2
import Derived.Test.YtkbbocpahnlkkaaOpp
namespace Go.Proofs.Ytkbbocpahnlkkaa
open Go Go.Eng Go.RowKit Go.Wd Go.Alg Go.Pr

theorem rg2_base_run : run1 none1 48 [] [] = some (.one (outOf (run1 none1 48 [] [])), []) := by kernel_rfl
theorem rg2_base_rd : (kdP A2).rd (outOf (run1 none1 48 [] [])) = some base2 := by kernel_rfl
theorem rg2_base : Pure Try.prog 48 [] (wpv base2) := pureX_of_run none1_ok (kdP A2) rg2_base_run rg2_base_rd (fun _ h => by cases h) vals0 rfl
noncomputable def rowsRF2 : List Row := rowC0 (kdP A2).rs 48 base2 :: rowC2 (kdP A2) (kdP A2) (kdP A2).rs 77 addP2 :: rowsRA2
theorem rowsRF2_ok : ∀ r ∈ rowsRF2, RowOk Try.prog r := by
  simp only [rowsRF2, List.forall_mem_cons]
  exact ⟨rowC0_ok rg2_base, rowC2_ok rg2_add, rowsRA2_ok⟩
noncomputable def TF13 : CallT := orT T13 (orT (tableT rowsRF2) (rowSB (kdP A2) rsM2 81 mulR2))
theorem TF13_ok : CallOk Try.prog TF13 := orT_ok T13_ok (orT_ok (tableT_ok rowsRF2_ok) rg2_mul_row)
theorem val_tt {b : Bool} (h : b = true) : ∀ ρ u, (vB b).val ρ = some u → u = .bool true := by subst h; exact val_true

/-! ### G2Names -/
theorem g2Names_run : run1 TF13 8 [] (allT 100) = some (vB true, [eqP' base2 base2 true]) := by kernel_rfl
theorem g2Names_gives (w : World) : Gives Try.prog 8 #[] (.bool true) w :=
  gives_of_run1 TF13_ok g2Names_run (one_mem (eqP_of rfl)) vals0 val_true w

/-! ### G2Adds -/
theorem g2Adds_run (p q : P2) : run1 TF13 17 [wP p, wP q] (allT 100) = some (vB (onC2 p == onB2 p), [eqP' (addP2 p q) (addP2 p q) true, eqP' (addP2 p p) (addP2 p p) true, eqP' (negP2 p) (negP2 p) true, eqP' (redP2 p) (redP2 p) true]) := by kernel_rfl
theorem valsP2 (p q : P2) : vals rho0 [wP p, wP q] = some [wpv p, wpv q] := valsC2 (kdP A2) (kdP A2) p q
theorem g2Adds_gives (p : P2) (_ : Sm p.1) (q : P2) (_ : Sm q.1) (w : World) : Gives Try.prog 17 #[wpv p, wpv q] (.bool true) w := by
  refine gives_of_run1 TF13_ok (g2Adds_run p q) ?_ (valsP2 p q) (val_tt ?_) w
  · exact all_cons (eqP_of rfl) (all_cons (eqP_of rfl) (all_cons (eqP_of rfl) (all_cons (eqP_of rfl) all_nil)))
  · rw [onC2_eq]; exact beq_self_eq_true _

/-! ### G2Muls -/
def slW (len cap : Nat) : AV := ⟨false, [.s 1 0 len cap]⟩
def slO : AV := ⟨false, [.v (.slice none 0 0)]⟩
theorem val_slO (ρ : Rho) : slO.val ρ = some (.slice none 0 0) := AV.val_v (ρ := ρ) (x := .slice none 0 0) rfl
theorem g2Muls_runA (p : P2) (len cap n : Nat) : runS TF13 18 [slW len cap, wP p] (mem1 len n) (hF 100 [13]) =
    some (vB true, [(len : Int) > 3 ↔ false = true, 0 = 0, len = len, len < 4294967296, 0 = 0, len = len, len < 4294967296, eqP' (mulR2 p (n % pw len)).1 (mulR2 p (n % pw len)).1 true, (mulR2 p (n % pw len)).2 = (mulR2 p (n % pw len)).2 ↔ true = true]) := by kernel_rfl
theorem g2Muls_runB (p : P2) (len cap n : Nat) : runS TF13 18 [slW len cap, wP p] (mem1 len n) (hF 100 []) = some (vB true, [(len : Int) > 3 ↔ true = true]) := by kernel_rfl
theorem g2Muls_runN (p : P2) : run1 TF13 18 [slO, wP p] (hF 100 [13]) = some (vB true, [(0 : Int) > 3 ↔ false = true, eqP' (mulR2 p (0 % pw 0)).1 (mulR2 p (0 % pw 0)).1 true, (mulR2 p (0 % pw 0)).2 = (mulR2 p (0 % pw 0)).2 ↔ true = true]) := by kernel_rfl
theorem g2Muls_gives (v : Value) (w : World) (hv : IsWords w v) (p : P2) (_ : Sm p.1) : Gives Try.prog 18 #[v, wpv p] (.bool true) w := by
  rcases hv with rfl | ⟨b, o, len, cap, n, rfl, hl, hs⟩
  · refine gives_of_run1 TF13_ok (g2Muls_runN p) ?_ (by simp only [vals, val_wP, val_slO]) val_true w
    exact all_cons (iff_f (by omega)) (all_cons (eqP_of rfl) (all_cons (iff_t rfl) all_nil))
  · have hv : vals (rho1 b o) [slW len cap, wP p] = some [.slice (some ⟨b, o, none⟩) len cap, wpv p] := vals_sl2 b o len cap p
    by_cases h8 : len ≤ 3
    · refine gives_of_runS TF13_ok (g2Muls_runA p len cap n) ?_ (mem_rho1 hs) (no_own1 b o) hv val_true
      exact all_cons (iff_f (by omega)) (all_cons rfl (all_cons rfl (all_cons (by omega) (all_cons rfl (all_cons rfl (all_cons (by omega) (all_cons (eqP_of rfl) (all_cons (iff_t rfl) all_nil))))))))
    · exact gives_of_runS TF13_ok (g2Muls_runB p len cap n) (one_mem (iff_t (by omega))) (mem_rho1 hs) (no_own1 b o) hv val_true

/-! ### G2Closed -/
def uA (k : Int) : AV := ⟨false, [.v (.int .u64 k)]⟩
theorem val_uA (ρ : Rho) (k : Int) : (uA k).val ρ = some (.int .u64 k) := AV.val_v (ρ := ρ) (x := .int .u64 k) rfl
def kN (k : Int) : Nat := (k.toNat + 0 * 18446744073709551616) % pw 1
theorem g2Closed_runA (p q : P2) (k : Int) : run1 (TO13 true) 9 [wP p, wP q, uA k] (allT 100) = some (vB true, [onB2 p = true, onB2 q = true, 1 < 4294967296, 0 ≤ k ∧ k < 18446744073709551616, onB2 (addP2 p q) = true, onB2 (mulR2 p (kN k)).1 = true, onB2 (negP2 p) = true,
    (mulR2 p (kN k)).2 = 0 ↔ true = true, eqP' (addP2 p q) (addP2 q p) true, eqP' (redP2 (addP2 p q)) (addP2 p q) true, eqP' (redP2 (mulR2 p (kN k)).1) (mulR2 p (kN k)).1 true]) := by kernel_rfl
theorem g2Closed_runB (p q : P2) (k : Int) : run1 (TO13 false) 9 [wP p, wP q, uA k] (allT 100) = some (vB true, [onB2 p = false]) := by kernel_rfl
def onF (p : P2) (b : Bool) : Prop := ∀ ρ, (vB (onC2 p)).val ρ = (vB b).val ρ
theorem onF_ok {p : P2} {b : Bool} (h : onB2 p = b) : onF p b := fun ρ => by rw [← onC2_eq, h]
theorem g2Closed_runC (p q : P2) (k : Int) : run1 (forceT T13 [(22, vB true), (26, vB false)]) 9 [wP p, wP q, uA k] (allT 100) = some (vB true, [onF p true, onF q false]) := by kernel_rfl
theorem valsC (p q : P2) (k : Int) : vals rho0 [wP p, wP q, uA k] = some [wpv p, wpv q, .int .u64 k] := by simp only [vals, val_wP, val_uA]
theorem onB_κ2 {p : Pt F2} (h : On b2 p) : onB2 (κP2 p) = true := (onB2_iff _).2 (by rw [ικP2]; exact h)
theorem red_κ2 (p : Pt F2) : redP2 (κP2 p) = κP2 p := by unfold redP2; rw [ικP2]
theorem g2Closed_gives (p : P2) (_ : Sm p.1) (q : P2) (_ : Sm q.1) (k : Int) (hk : 0 ≤ k ∧ k < 18446744073709551616) (w : World) : Gives Try.prog 9 #[wpv p, wpv q, .int .u64 k] (.bool true) w := by
  have hv := valsC p q k
  cases h1 : onB2 p with
  | false => exact gives_of_run1 (TO13_ok false) (g2Closed_runB p q k) (one_mem h1) hv val_true w
  | true =>
    cases h2 : onB2 q with
    | false => exact gives_of_run1 (forceT_ok T13_ok _) (g2Closed_runC p q k) (all_cons (onF_ok h1) (all_cons (onF_ok h2) all_nil)) hv val_true w
    | true =>
      have o1 := (onB2_iff p).1 h1
      have o2 := (onB2_iff q).1 h2
      have hm := mulR2_on h1 (kN k)
      refine gives_of_run1 (TO13_ok true) (g2Closed_runA p q k) ?_ hv val_true w
      refine all_cons h1 (all_cons h2 (all_cons (by omega) (all_cons hk (all_cons (onB_κ2 (on_add cv2 o1 o2)) (all_cons ?_ (all_cons (onB_κ2 (on_neg o1)) (all_cons (iff_t ?_) (all_cons (eqP_of ?_) (all_cons (eqP_of (red_κ2 _)) (all_cons (eqP_of ?_) all_nil))))))))))
      · rw [hm]; exact onB_κ2 (on_smul cv2 o1 _)
      · rw [hm]
      · unfold addP2; rw [add_comm_pt cv2 o1 o2]
      · rw [hm]; exact red_κ2 _

/-! ### G2Undoes -/
def undoOb (p : P2) : List Prop := [eqP' (addP2 p (negP2 p)) noneP2 true, eqP' (addP2 p noneP2) (redP2 p) true, eqP' (addP2 noneP2 p) (redP2 p) true, eqP' (negP2 (negP2 p)) (redP2 p) true]
theorem g2Undoes_runA (p q : P2) : run1 (TO13 true) 10 [wP p, wP q] (allT 100) = some (vB true, undoOb p ++ [onB2 p = true, onB2 q = true, eqP' (addP2 (addP2 p q) (negP2 q)) (redP2 p) true]) := by kernel_rfl
theorem g2Undoes_runB (p q : P2) : run1 (TO13 false) 10 [wP p, wP q] (allT 100) = some (vB true, undoOb p ++ [onB2 p = false]) := by kernel_rfl
theorem g2Undoes_runC (p q : P2) : run1 (forceT T13 [(56, vB true), (60, vB false)]) 10 [wP p, wP q] (allT 100) = some (vB true, undoOb p ++ [onF p true, onF q false]) := by kernel_rfl
theorem undoOb_ok (p : P2) : ∀ x ∈ undoOb p, x := by
  refine all_cons (eqP_of ?_) (all_cons (eqP_of ?_) (all_cons (eqP_of ?_) (all_cons (eqP_of ?_) all_nil)))
  · unfold addP2 negP2
    rw [ικP2, add_neg_pt cv2]; rfl
  · show κP2 (padd _ .inf) = _
    rw [add_inf]; rfl
  · show κP2 (padd .inf _) = _
    rw [inf_add]; rfl
  · unfold negP2 redP2
    rw [ικP2, neg_neg_pt]
theorem all_app {l m : List Prop} (h : ∀ q ∈ l, q) (k : ∀ q ∈ m, q) : ∀ q ∈ l ++ m, q := fun q hq => (List.mem_append.1 hq).elim (h q) (k q)
theorem g2Undoes_gives (p : P2) (_ : Sm p.1) (q : P2) (_ : Sm q.1) (w : World) : Gives Try.prog 10 #[wpv p, wpv q] (.bool true) w := by
  have hv := valsP2 p q
  cases h1 : onB2 p with
  | false => exact gives_of_run1 (TO13_ok false) (g2Undoes_runB p q) (all_app (undoOb_ok p) (one_mem h1)) hv val_true w
  | true =>
    cases h2 : onB2 q with
    | false => exact gives_of_run1 (forceT_ok T13_ok _) (g2Undoes_runC p q) (all_app (undoOb_ok p) (all_cons (onF_ok h1) (all_cons (onF_ok h2) all_nil))) hv val_true w
    | true =>
      have o1 := (onB2_iff p).1 h1
      have o2 := (onB2_iff q).1 h2
      refine gives_of_run1 (TO13_ok true) (g2Undoes_runA p q) (all_app (undoOb_ok p) (all_cons h1 (all_cons h2 (all_cons (eqP_of ?_) all_nil)))) hv val_true w
      unfold addP2 negP2 redP2
      rw [ικP2, ικP2, add_sub_pt cv2 o1 o2]
end Go.Proofs.Ytkbbocpahnlkkaa
