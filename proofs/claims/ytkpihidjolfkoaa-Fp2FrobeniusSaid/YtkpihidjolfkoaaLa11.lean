/-
  The laws of chapter 11 without the document's answer: what they compute.
-/
import Derived.Test.YtkpihidjolfkoaaFrob
namespace Go.Proofs.Ytkpihidjolfkoaa
open Go Go.Eng Go.RowKit Go.Wd Go.Alg Go.Pr

def o6 : N6 := ((1, 0), (0, 0), (0, 0))
theorem aw11_run : run1 (tableT rowsFr) 15 [] (allT 100) = some (vB true, [eqW (fr2 (0, 1) 1) (neg2 (0, 1)) true, eqW (fr2 (0, 1) 2) ((0, 1) : N2) true, eqW (fr12 (z6, o6) 6) (neg12 (z6, o6)) true, eqW (fr12 (z6, o6) 12) ((z6, o6) : N12) true]) := by kernel_rfl
theorem ι_w : ι12 (z6, o6) = ww := κ12_inj (by decide +kernel)
theorem w_κ : ((z6, o6) : N12) = κ12 ww := by decide +kernel
theorem conj_ww : ww.conj = -ww := κ12_inj (by decide +kernel)
theorem aw11 : Pure Try.prog 15 [] (.bool true) := by
  refine pureB_of_run (tableT_ok rowsFr_ok) aw11_run ?_ vals0
  simp only [List.forall_mem_cons, List.not_mem_nil, false_imp_iff, implies_true, and_true]
  refine ⟨eqW_of (by decide +kernel), eqW_of (by decide +kernel), eqW_of ?_, eqW_of ?_⟩
  · unfold fr12 neg12
    rw [ι_w, show ((6 : Int)) = ((6 : Nat) : Int) from rfl, σI_nat, σ6, conj_ww]
  · unfold fr12
    rw [ι_w, show ((12 : Int)) = ((12 : Nat) : Int) from rfl, σI_nat, σ12, w_κ]
/-- The document's remainder. -/
def tmR (n m : Int) : Int := IntKind.i64.wrap (n.tmod m + m)
theorem timesR_run1 (n : Int) : ∀ m, m = 2 ∨ m = 6 ∨ m = 12 → run1 none1 21 [iN n, iN m] [(9, true)] = some (vI .i64 (tmR n m), [n.tmod m < 0 ↔ true = true]) := by
  rintro m (rfl | rfl | rfl) <;> kernel_rfl
theorem timesR_run0 (n : Int) : ∀ m, m = 2 ∨ m = 6 ∨ m = 12 → run1 none1 21 [iN n, iN m] [(9, false)] = some (vI .i64 (n.tmod m), [n.tmod m < 0 ↔ false = true]) := by
  rintro m (rfl | rfl | rfl) <;> kernel_rfl
theorem timesR_pure (n m : Int) (h : m = 2 ∨ m = 6 ∨ m = 12) : Pure Try.prog 21 [.int .i64 n, .int .i64 m] (.int .i64 (n % m)) := by
  have h0 : 0 < m := by omega
  have a1 := Int.emod_nonneg n (show m ≠ 0 by omega)
  have a2 := Int.emod_lt_of_pos n h0
  have hm : m.natAbs = m := by omega
  have e1 : (n.tmod m = n % m) ∨ n.tmod m = n % m - m := by
    rw [Int.tmod_eq_emod]
    split
    · left; omega
    · right; rw [hm]
  by_cases hn : n.tmod m < 0
  · have e : n % m = tmR n m := by
      unfold tmR
      rw [wrap_small (by omega) (by omega)]; omega
    rw [e]
    refine pureI_of_run none1_ok (timesR_run1 n m h) ?_ (vals_i2 n m)
    intro p hp
    rw [List.mem_singleton] at hp
    subst hp
    exact iff_t hn
  · have e : n % m = n.tmod m := by omega
    rw [e]
    refine pureI_of_run none1_ok (timesR_run0 n m h) ?_ (vals_i2 n m)
    intro p hp
    rw [List.mem_singleton] at hp
    subst hp
    exact iff_f hn
def timesR : Row where
  f := 21
  ans := fun
    | [⟨false, [.v (.int .i64 n)]⟩, ⟨false, [.v (.int .i64 m)]⟩] => match m with
      | .ofNat 2 => some (vI .i64 (n % 2), [])
      | .ofNat 6 => some (vI .i64 (n % 6), [])
      | .ofNat 12 => some (vI .i64 (n % 12), [])
      | _ => none
    | _ => none
theorem timesR_ok : RowOk Try.prog timesR := by
  intro args s ob ha hob ρ vs hv
  unfold timesR at ha
  simp only at ha
  split at ha
  · rename_i n m
    rw [vals_i2' (n := n) (m := m) hv]
    split at ha
    · cases ha; exact ⟨_, vI_val _ _ _, timesR_pure n 2 (by omega)⟩
    · cases ha; exact ⟨_, vI_val _ _ _, timesR_pure n 6 (by omega)⟩
    · cases ha; exact ⟨_, vI_val _ _ _, timesR_pure n 12 (by omega)⟩
    · cases ha
  · cases ha
noncomputable def rows11 : List Row := rowB0 15 :: timesR :: rowsFr
theorem rows11_ok : ∀ r ∈ rows11, RowOk Try.prog r := by
  simp only [rows11, List.forall_mem_cons]
  exact ⟨rowB0_ok aw11, timesR_ok, rowsFr_ok⟩
theorem T11_ok : CallOk Try.prog (tableT rows11) := tableT_ok rows11_ok

/-! ### FrobHalf -/
theorem vals4i {A B C : Type} [Nm A] [Nm B] [Nm C] (a : A) (b : B) (c : C) (n : Int) : vals rho0 [wN a, wN b, wN c, iN n] = some [wv a, wv b, wv c, .int .i64 n] := by simp only [vals, val_wN, val_iN]
theorem vals3i {A B : Type} [Nm A] [Nm B] (a : A) (b : B) (n : Int) : vals rho0 [wN a, wN b, iN n] = some [wv a, wv b, .int .i64 n] := by simp only [vals, val_wN, val_iN]
def bk (k : Nat) : N12 := (((k, 0), (0, 0), (0, 0)), z6)
theorem frobHalf_run (a : N12) (b : N2) (k : Nat) (n : Int) : run1 (tableT rows11) 3 [wN a, wN b, wN k, iN n] (allT 100) = some (vB true, [eqW (fr12 a 6) (conj12 a) true, eqW (fr2 b 1) (conj2 b) true, eqW (fr12 (bk k) n) (red12 (bk k)) true]) := by kernel_rfl
theorem zφ : φ 0 = 0 := Z.ext (by decide +kernel)
theorem z2e : ι2 (0, 0) = 0 := κ2_inj (by decide +kernel)
theorem ι_bk (k : Nat) : ι12 (bk k) = up ⟨φ k, 0⟩ := by
  refine Quad.ext' (Cub.ext' (Quad.ext' rfl zφ) z2e z2e) ι_z6
theorem σ_up (z : F2) : σ (up z) = up z.conj := by rw [← frob12, up_p]
theorem σn_base (n : Nat) (t : F) : σn n (up ⟨t, 0⟩) = up ⟨t, 0⟩ := by
  induction n with
  | zero => rfl
  | succ n ih =>
    show σ (σn n _) = _
    rw [ih, σ_up]
    have : (⟨t, 0⟩ : F2).conj = ⟨t, 0⟩ := Quad.ext' rfl neg_zero
    rw [this]
theorem fr12_6 (a : N12) : fr12 a 6 = conj12 a := by
  unfold fr12 conj12
  rw [show ((6 : Int)) = ((6 : Nat) : Int) from rfl, σI_nat, σ6]
theorem frobHalf_gives (a : N12) (_ : Sm a) (b : N2) (_ : Sm b) (k : Nat) (_ : Sm k) (n : Int) (_ : (Lit.int .i64 n).wf = true) (w : World) : Gives Try.prog 3 #[wv a, wv b, wv k, .int .i64 n] (.bool true) w := by
  refine gives_of_run1 T11_ok (frobHalf_run a b k n) ?_ (vals4i a b k n) val_true w
  simp only [List.forall_mem_cons, List.not_mem_nil, false_imp_iff, implies_true, and_true]
  refine ⟨eqW_of (fr12_6 a), eqW_of rfl, eqW_of ?_⟩
  unfold fr12 red12 σI
  rw [ι_bk, σn_base]

/-! ### FrobSteps -/
def mI (n : Int) : Int := IntKind.i64.wrap (n % 12 + 1)
def nI (n : Int) : Int := IntKind.i64.wrap (0 - n % 12)
theorem frobSteps_run (a : N12) (n : Int) : run1 (tableT rows11) 4 [wN a, iN n] (allT 100) = some (vB true, [eqW (fr12 a n) (fr12 a (n % 12)) true, eqW (fr12 (fr12 a n) 1) (fr12 a (mI n)) true, eqW (fr12 (fr12 a (n % 12)) (nI n)) (red12 a) true,
    eqW (fr6 a.1 n) (fr6 a.1 (n % 6)) true, eqW (fr2 a.1.1 n) (fr2 a.1.1 (n % 2)) true, eqW (fr12 a 0) (red12 a) true]) := by kernel_rfl
theorem σI_mod {m n : Int} (h : m % 12 = n % 12) (z : F12) : σI m z = σI n z := by unfold σI; rw [h]
theorem σI_zero (z : F12) : σI 0 z = z := rfl
theorem fr12_fr12 (a : N12) (m n : Int) : fr12 (fr12 a n) m = κ12 (σI (m + n) (ι12 a)) := by
  unfold fr12
  rw [ικ12, ← σI_add]
theorem frobSteps_gives (a : N12) (_ : Sm a) (n : Int) (_ : (Lit.int .i64 n).wf = true) (w : World) : Gives Try.prog 4 #[wv a, .int .i64 n] (.bool true) w := by
  have a1 := Int.emod_nonneg n (show (12 : Int) ≠ 0 by omega)
  have a2 := Int.emod_lt_of_pos n (show (0 : Int) < 12 by omega)
  have em : mI n = n % 12 + 1 := wrap_small (by omega) (by omega)
  have en : nI n = 0 - n % 12 := wrap_small (by omega) (by omega)
  refine gives_of_run1 T11_ok (frobSteps_run a n) ?_ (vals_Ni a n) val_true w
  simp only [List.forall_mem_cons, List.not_mem_nil, false_imp_iff, implies_true, and_true]
  rw [em, en]
  refine ⟨eqW_of ?_, eqW_of ?_, eqW_of ?_, eqW_of ?_, eqW_of ?_, eqW_of ?_⟩
  · unfold fr12; rw [σI_mod (m := n) (n := n % 12) (by omega)]
  · rw [fr12_fr12]; unfold fr12; rw [σI_mod (m := 1 + n) (n := n % 12 + 1) (by omega)]
  · rw [fr12_fr12]; unfold red12; rw [σI_mod (m := 0 - n % 12 + n % 12) (n := 0) (by omega), σI_zero]
  · unfold fr6; rw [show n % 6 % 6 = n % 6 by omega]
  · unfold fr2; rw [show n % 2 % 2 = n % 2 by omega]
  · unfold fr12 red12; rw [σI_zero]

/-! ### FrobSums -/
theorem frobSums_run (a b : N12) (n : Int) : run1 (tableT rows11) 8 [wN a, wN b, iN n] (allT 100) = some (vB true, [eqW (fr12 (add12 a b) n) (add12 (fr12 a n) (fr12 b n)) true, eqW (fr12 (mul12 a b) n) (mul12 (fr12 a n) (fr12 b n)) true]) := by kernel_rfl
theorem frobSums_gives (a : N12) (_ : Sm a) (b : N12) (_ : Sm b) (n : Int) (_ : (Lit.int .i64 n).wf = true) (w : World) : Gives Try.prog 8 #[wv a, wv b, .int .i64 n] (.bool true) w := by
  refine gives_of_run1 T11_ok (frobSums_run a b n) ?_ (vals3i a b n) val_true w
  simp only [List.forall_mem_cons, List.not_mem_nil, false_imp_iff, implies_true, and_true]
  refine ⟨eqW_of ?_, eqW_of ?_⟩
  · unfold fr12 add12 σI; rw [ικ12, ικ12, ικ12, σn_sum]
  · unfold fr12 mul12 σI; rw [ικ12, ικ12, ικ12, σn_prod]

/-! ### FrobWithin -/
theorem frobWithin_run (a : N6) (b : N2) (n : Int) : run1 (tableT rows11) 6 [wN a, wN b, iN n] (allT 100) = some (vB true, [eqW (fr12 (a, z6) n) ((fr6 a n, z6) : N12) true,
    eqW (fr6 (b, (0, 0), (0, 0)) n) ((fr2 b n, (0, 0), (0, 0)) : N6) true, eqW (fr6 (mul6 a a) n) (mul6 (fr6 a n) (fr6 a n)) true]) := by kernel_rfl
/-- Without w it stays without. -/
theorem σ_up6 (z : F6) : ∃ y : F6, σ (up6 z) = up6 y := by
  refine ⟨(σ (up6 z)).a, Quad.ext' rfl ?_⟩
  have h0 : (0 : F2).conj = 0 := Quad.ext' rfl neg_zero
  refine Cub.ext' ?_ ?_ ?_
  · show (0 : F2).conj * facF 1 = 0; rw [h0, zero_mul]
  · show (0 : F2).conj * facF 3 = 0; rw [h0, zero_mul]
  · show (0 : F2).conj * facF 5 = 0; rw [h0, zero_mul]
theorem σn_up6 (n : Nat) (z : F6) : ∃ y : F6, σn n (up6 z) = up6 y := by
  induction n with
  | zero => exact ⟨z, rfl⟩
  | succ n ih =>
    obtain ⟨y, hy⟩ := ih
    obtain ⟨x, hx⟩ := σ_up6 y
    exact ⟨x, by show σ (σn n _) = _; rw [hy, hx]⟩
theorem σ6_up6 (z : F6) : σn 6 (up6 z) = up6 z := by rw [σ6]; exact Quad.ext' rfl neg_zero
theorem σn_mod6 (n : Nat) (z : F6) : σn n (up6 z) = σn (n % 6) (up6 z) := by
  have h : ∀ k m : Nat, σn (6 * k + m) (up6 z) = σn m (up6 z) := by
    intro k
    induction k with
    | zero => intro m; rw [Nat.mul_zero, Nat.zero_add]
    | succ k ih => intro m; rw [show 6 * (k + 1) + m = (6 * k + m) + 6 by omega, σn_add, σ6_up6]; exact ih m
  have e : n = 6 * (n / 6) + n % 6 := by omega
  conv => lhs; rw [e]
  exact h _ _
theorem σI_6 (n : Int) (z : F6) : σI n (up6 z) = σI (n % 6) (up6 z) := by
  unfold σI
  rw [σn_mod6, σn_mod6 (n % 6 % 12).toNat]
  congr 1
  omega
theorem σn_up2 (n : Nat) (z : F2) : σn n (up z) = up (if n % 2 = 1 then z.conj else z) := by
  induction n with
  | zero => rfl
  | succ n ih =>
    show σ (σn n _) = _
    rw [ih, σ_up]
    by_cases h : n % 2 = 1
    · rw [if_pos h, if_neg (by omega), conj_conj']
    · rw [if_neg h, if_pos (by omega)]
theorem up_up6 (z : F2) : up6 (up2 z) = up z := rfl
theorem frobWithin_gives (a : N6) (_ : Sm a) (b : N2) (_ : Sm b) (n : Int) (_ : (Lit.int .i64 n).wf = true) (w : World) : Gives Try.prog 6 #[wv a, wv b, .int .i64 n] (.bool true) w := by
  refine gives_of_run1 T11_ok (frobWithin_run a b n) ?_ (vals3i a b n) val_true w
  simp only [List.forall_mem_cons, List.not_mem_nil, false_imp_iff, implies_true, and_true]
  have hz : z6 = κ6 0 := by decide +kernel
  refine ⟨eqW_of ?_, eqW_of ?_, eqW_of ?_⟩
  · unfold fr12 fr6
    rw [ι_up6, σI_6]
    obtain ⟨y, hy⟩ := σn_up6 (n % 6 % 12).toNat (ι6 a)
    have : σI (n % 6) (up6 (ι6 a)) = up6 y := hy
    rw [this, hz]; rfl
  · unfold fr6 fr2
    have e : ι6 (b, (0, 0), (0, 0)) = up2 (ι2 b) := Cub.ext' rfl z2e z2e
    rw [e, up_up6]
    unfold σI
    rw [σn_up2]
    have h2 : (n % 6 % 12).toNat % 2 = 1 ↔ n % 2 = 1 := by omega
    have hz2 : ((0, 0) : N2) = κ2 0 := by decide +kernel
    by_cases h : n % 2 = 1
    · rw [if_pos h, if_pos (h2.2 h), hz2]; rfl
    · rw [if_neg h, if_neg (fun x => h (h2.1 x)), hz2]; rfl
  · unfold fr6 mul6
    rw [ικ6, ικ6]
    congr 1
    obtain ⟨y, hy⟩ := σn_up6 (n % 6 % 12).toNat (ι6 a)
    have h1 : σI (n % 6) (up6 (ι6 a)) = up6 y := hy
    have h2 : up6 (ι6 a * ι6 a) = up6 (ι6 a) * up6 (ι6 a) := (Quad.coe_mul _ _).symm
    have h3 : σI (n % 6) (up6 (ι6 a * ι6 a)) = up6 y * up6 y := by rw [h2]; show σn _ _ = _; rw [σn_prod]; rw [hy]
    rw [h1, h3]
    unfold up6
    rw [Quad.coe_mul]
end Go.Proofs.Ytkpihidjolfkoaa
