/-
  Powers of p: the rows of frob.
-/
import Derived.Test.YtfgbkanbppehgaaFrP
namespace Go.Proofs.Ytfgbkanbppehgaa
open Go Go.Eng Go.RowKit Go.Wd Go.Alg Go.Pr

/-- An integer's slot. -/
def iN (n : Int) : AV := ⟨false, [.v (.int .i64 n)]⟩
theorem val_iN (ρ : Rho) (n : Int) : (iN n).val ρ = some (.int .i64 n) := AV.val_v (ρ := ρ) (x := .int .i64 n) rfl
def tmI (n m : Int) : Int := (IntKind.i64.wrap (n.tmod m + m)).tmod m
theorem tmI_eq {n m : Int} (h0 : 0 < m) (h1 : m < 1000) : tmI n m = n % m := by
  have a1 := Int.emod_nonneg n (show m ≠ 0 by omega)
  have a2 := Int.emod_lt_of_pos n h0
  have hm : m.natAbs = m := by omega
  unfold tmI
  have e1 : n.tmod m = n % m ∨ n.tmod m = n % m - m := by
    rw [Int.tmod_eq_emod]
    split
    · left; omega
    · right; rw [hm]
  rcases e1 with e1 | e1
  · rw [e1, wrap_small (by omega) (by omega), Int.tmod_eq_emod_of_nonneg (by omega), Int.add_emod_right, Int.emod_emod_of_dvd _ (Int.dvd_refl m)]
  · rw [e1]
    have e : n % m - m + m = n % m := by omega
    rw [e, wrap_small (by omega) (by omega), Int.tmod_eq_emod_of_nonneg a1, Int.emod_emod_of_dvd _ (Int.dvd_refl m)]
theorem vals_i2 (n m : Int) : vals rho0 [iN n, iN m] = some [.int .i64 n, .int .i64 m] := by simp only [vals, val_iN]
theorem pureI_of_run {T : CallT} (hT : CallOk Try.prog T) {f : FuncId} {args : List AV} {vs : List Value} {hints : List (Nat × Bool)} {r : Int} {ob : List Prop} (h : run1 T f args hints = some (vI .i64 r, ob)) (hob : ∀ p ∈ ob, p)
    (hv : vals rho0 args = some vs) : Pure Try.prog f vs (.int .i64 r) := pure_of_run1 hT h hob hv fun ρ u hu => by
  rw [vI_val] at hu
  cases hu; rfl
theorem times2_run (n : Int) : run1 none1 73 [iN n, iN 2] [] = some (vI .i64 (tmI n 2), []) := by kernel_rfl
theorem times6_run (n : Int) : run1 none1 73 [iN n, iN 6] [] = some (vI .i64 (tmI n 6), []) := by kernel_rfl
theorem times12_run (n : Int) : run1 none1 73 [iN n, iN 12] [] = some (vI .i64 (tmI n 12), []) := by kernel_rfl
/-- The row for a remainder that is known: owed that it is so. -/
def timesQ (q : Int → Int → Int) : Row where
  f := 73
  ans := fun
    | [⟨false, [.v (.int .i64 n)]⟩, ⟨false, [.v (.int .i64 m)]⟩] => match m with
      | .ofNat 2 => some (vI .i64 (q n 2), [q n 2 = n % 2])
      | .ofNat 6 => some (vI .i64 (q n 6), [q n 6 = n % 6])
      | .ofNat 12 => some (vI .i64 (q n 12), [q n 12 = n % 12])
      | _ => none
    | _ => none
theorem vals_i2' {ρ : Rho} {n m : Int} {vs : List Value} (h : vals ρ [iN n, iN m] = some vs) : vs = [.int .i64 n, .int .i64 m] := by
  simp only [vals, val_iN, Option.some.injEq] at h
  exact h.symm
theorem timesQ_ok (q : Int → Int → Int) : RowOk Try.prog (timesQ q) := by
  intro args s ob ha hob ρ vs hv
  unfold timesQ at ha
  simp only at ha
  split at ha
  · rename_i n m
    rw [vals_i2' (n := n) (m := m) hv]
    split at ha
    · cases ha
      have h := hob _ (List.mem_singleton.2 rfl)
      exact ⟨_, vI_val _ _ _, by rw [h, ← tmI_eq (n := n) (m := 2) (by omega) (by omega)]; exact pureI_of_run none1_ok (times2_run n) (fun _ h => by cases h) (vals_i2 n 2)⟩
    · cases ha
      have h := hob _ (List.mem_singleton.2 rfl)
      exact ⟨_, vI_val _ _ _, by rw [h, ← tmI_eq (n := n) (m := 6) (by omega) (by omega)]; exact pureI_of_run none1_ok (times6_run n) (fun _ h => by cases h) (vals_i2 n 6)⟩
    · cases ha
      have h := hob _ (List.mem_singleton.2 rfl)
      exact ⟨_, vI_val _ _ _, by rw [h, ← tmI_eq (n := n) (m := 12) (by omega) (by omega)]; exact pureI_of_run none1_ok (times12_run n) (fun _ h => by cases h) (vals_i2 n 12)⟩
    · cases ha
  · cases ha

/-! ### step -/
noncomputable def fstN (x : N12) : N12 := κ12 (σ (ι12 x))
def facC (i : Nat) : N2 := match i with
  | 0 => (1, 0)
  | 1 => (0x1904d3bf02bb0667c231beb4202c0d1f0fd603fd3cbd5f4f7b2443d784bab9c4f67ea53d63e7813d8d0775ed92235fb8, 0x00fc3e2b36c4e03288e9e902231f9fb854a14787b6c7b36fec0c8ec971f63c5f282d5ac14d6c7ec22cf78a126ddc4af3)
  | 2 => (0, 0x1a0111ea397fe699ec02408663d4de85aa0d857d89759ad4897d29650fb85f9b409427eb4f49fffd8bfd00000000aaac)
  | 3 => (0x06af0e0437ff400b6831e36d6bd17ffe48395dabc2d3435e77f76e17009241c5ee67992f72ec05f4c81084fbede3cc09, 0x06af0e0437ff400b6831e36d6bd17ffe48395dabc2d3435e77f76e17009241c5ee67992f72ec05f4c81084fbede3cc09)
  | 4 => (0x1a0111ea397fe699ec02408663d4de85aa0d857d89759ad4897d29650fb85f9b409427eb4f49fffd8bfd00000000aaad, 0)
  | _ => (0x05b2cfd9013a5fd8df47fa6b48b1e045f39816240c0b8fee8beadf4d8e9c0566c63a3e6e257f87329b18fae980078116, 0x144e4211384586c16bd3ad4afa99cc9170df3560e77982d0db45f3536814f0bd5871c1908bd478cd1ee605167ff82995)
theorem facC_ok : ∀ i, i < 6 → κ2 (ι2 (facC i)) = κ2 (facF i) := by decide +kernel
noncomputable def TS : CallT := tableT rows06
theorem TS_ok : CallOk Try.prog TS := tableT_ok rows06_ok
def pt (x : N2) (i : Nat) : N2 := mul2 (conj2 x) (facC i)
theorem step_run (x : N12) : run1 TS 74 [wN x] [] = some (.one (wN ((pt x.1.1 0, pt x.1.2.1 2, pt x.1.2.2 4), (pt x.2.1 1, pt x.2.2.1 3, pt x.2.2.2 5))), []) := by kernel_rfl
theorem step_pure (x : N12) : Pure Try.prog 74 [wv x] (wv (fstN x)) := by
  refine pureN_of_run TS_ok (step_run x) (fun _ h => by cases h) (vals1 x) ?_
  have e : ∀ (y : N2) i, i < 6 → pt y i = κ2 ((ι2 y).conj * facF i) := by
    intro y i hi
    unfold pt mul2 conj2
    rw [ικ2, κ2_inj (facC_ok i hi)]
  rw [e _ 0 (by omega), e _ 1 (by omega), e _ 2 (by omega), e _ 3 (by omega), e _ 4 (by omega), e _ 5 (by omega)]
  rfl

/-! ### frob.Fp12, Fp6, Fp2 -/
noncomputable def itS : Nat → N12 → N12
  | 0, x => x
  | k + 1, x => fstN (itS k x)
theorem ι_itS (k : Nat) (x : N12) : ι12 (itS k x) = σn k (ι12 x) := by
  induction k with
  | zero => rfl
  | succ k ih => show ι12 (fstN (itS k x)) = σ (σn k (ι12 x)); unfold fstN; rw [ικ12, ih]
theorem κ_itS (k : Nat) (x : N12) : itS k (red12 x) = κ12 (σn k (ι12 x)) := by
  induction k with
  | zero => rfl
  | succ k ih => show fstN (itS k (red12 x)) = κ12 (σ (σn k (ι12 x))); rw [ih]; unfold fstN; rw [ικ12]
noncomputable def rowsQ (q : Int → Int → Int) : List Row := timesQ q :: rowN1 74 fstN :: rows06
theorem rowsQ_ok (q : Int → Int → Int) : ∀ r ∈ rowsQ q, RowOk Try.prog r := by
  simp only [rowsQ, List.forall_mem_cons]
  exact ⟨timesQ_ok q, rowN1_ok step_pure, rows06_ok⟩
def qk (k : Nat) (_ _ : Int) : Int := (k : Int)
theorem frun0 (x : N12) (n : Int) : run1 (tableT (rowsQ (qk 0))) 37 [wN x, iN n] [] = some (.one (wN (itS 0 (red12 x))), [((0 : Nat) : Int) = n % 12]) := by kernel_rfl
theorem frun1 (x : N12) (n : Int) : run1 (tableT (rowsQ (qk 1))) 37 [wN x, iN n] [] = some (.one (wN (itS 1 (red12 x))), [((1 : Nat) : Int) = n % 12]) := by kernel_rfl
theorem frun2 (x : N12) (n : Int) : run1 (tableT (rowsQ (qk 2))) 37 [wN x, iN n] [] = some (.one (wN (itS 2 (red12 x))), [((2 : Nat) : Int) = n % 12]) := by kernel_rfl
theorem frun3 (x : N12) (n : Int) : run1 (tableT (rowsQ (qk 3))) 37 [wN x, iN n] [] = some (.one (wN (itS 3 (red12 x))), [((3 : Nat) : Int) = n % 12]) := by kernel_rfl
theorem frun4 (x : N12) (n : Int) : run1 (tableT (rowsQ (qk 4))) 37 [wN x, iN n] [] = some (.one (wN (itS 4 (red12 x))), [((4 : Nat) : Int) = n % 12]) := by kernel_rfl
theorem frun5 (x : N12) (n : Int) : run1 (tableT (rowsQ (qk 5))) 37 [wN x, iN n] [] = some (.one (wN (itS 5 (red12 x))), [((5 : Nat) : Int) = n % 12]) := by kernel_rfl
theorem frun6 (x : N12) (n : Int) : run1 (tableT (rowsQ (qk 6))) 37 [wN x, iN n] [] = some (.one (wN (itS 6 (red12 x))), [((6 : Nat) : Int) = n % 12]) := by kernel_rfl
theorem frun7 (x : N12) (n : Int) : run1 (tableT (rowsQ (qk 7))) 37 [wN x, iN n] [] = some (.one (wN (itS 7 (red12 x))), [((7 : Nat) : Int) = n % 12]) := by kernel_rfl
theorem frun8 (x : N12) (n : Int) : run1 (tableT (rowsQ (qk 8))) 37 [wN x, iN n] [] = some (.one (wN (itS 8 (red12 x))), [((8 : Nat) : Int) = n % 12]) := by kernel_rfl
theorem frun9 (x : N12) (n : Int) : run1 (tableT (rowsQ (qk 9))) 37 [wN x, iN n] [] = some (.one (wN (itS 9 (red12 x))), [((9 : Nat) : Int) = n % 12]) := by kernel_rfl
theorem frun10 (x : N12) (n : Int) : run1 (tableT (rowsQ (qk 10))) 37 [wN x, iN n] [] = some (.one (wN (itS 10 (red12 x))), [((10 : Nat) : Int) = n % 12]) := by kernel_rfl
theorem frun11 (x : N12) (n : Int) : run1 (tableT (rowsQ (qk 11))) 37 [wN x, iN n] [] = some (.one (wN (itS 11 (red12 x))), [((11 : Nat) : Int) = n % 12]) := by kernel_rfl
theorem frob12_run (x : N12) (n : Int) : ∀ k, k < 12 → run1 (tableT (rowsQ (qk k))) 37 [wN x, iN n] [] = some (.one (wN (itS k (red12 x))), [(k : Int) = n % 12])
  | 0, _ => frun0 x n
  | 1, _ => frun1 x n
  | 2, _ => frun2 x n
  | 3, _ => frun3 x n
  | 4, _ => frun4 x n
  | 5, _ => frun5 x n
  | 6, _ => frun6 x n
  | 7, _ => frun7 x n
  | 8, _ => frun8 x n
  | 9, _ => frun9 x n
  | 10, _ => frun10 x n
  | 11, _ => frun11 x n
noncomputable def fr12 (x : N12) (n : Int) : N12 := κ12 (σI n (ι12 x))
theorem vals_Ni {A : Type} [Nm A] (a : A) (n : Int) : vals rho0 [wN a, iN n] = some [wv a, .int .i64 n] := by simp only [vals, val_wN, val_iN]
theorem frob12_pure (x : N12) (n : Int) : Pure Try.prog 37 [wv x, .int .i64 n] (wv (fr12 x n)) := by
  have h1 := Int.emod_nonneg n (show (12 : Int) ≠ 0 by omega)
  have h2 := Int.emod_lt_of_pos n (show (0 : Int) < 12 by omega)
  have hk : (((n % 12).toNat : Nat) : Int) = n % 12 := Int.toNat_of_nonneg h1
  refine pureN_of_run (tableT_ok (rowsQ_ok _)) (frob12_run x n (n % 12).toNat (by omega)) ?_ (vals_Ni x n) ?_
  · intro p hp
    rw [List.mem_singleton] at hp
    subst hp; exact hk
  · rw [κ_itS]; rfl
/-- A row that takes an integer besides. -/
def rowNI {A B : Type} [Nm A] [Nm B] (f : FuncId) (g : A → Int → B) : Row where
  f := f
  ans := fun
    | [x, ⟨false, [.v (.int .i64 n)]⟩] => match asN A x with
      | some a => some (.one (wN (g a n)), [])
      | none => none
    | _ => none
theorem rowNI_ok {A B : Type} [Nm A] [Nm B] {f : FuncId} {g : A → Int → B} (h : ∀ a n, Pure Try.prog f [wv a, .int .i64 n] (wv (g a n))) : RowOk Try.prog (rowNI f g) := by
  intro args s ob ha hob ρ vs hv
  unfold rowNI at ha
  simp only at ha
  split at ha
  · rename_i x n
    split at ha
    · rename_i a hn
      cases ha
      obtain ⟨v1, us, h1, h2, rfl⟩ := vals_cons hv
      obtain ⟨v2, us', h3, h4, rfl⟩ := vals_cons h2
      cases h4
      have e : AV.val ρ (iN n) = some v2 := h3
      rw [val_iN] at e
      cases e
      rw [asN_ok hn h1]
      exact ⟨_, val_wN _ _, h a n⟩
    · cases ha
  · cases ha
def qm (n m : Int) : Int := n % m
noncomputable def rowsR : List Row := rowNI 37 fr12 :: timesQ qm :: rows06
theorem rowsR_ok : ∀ r ∈ rowsR, RowOk Try.prog r := by
  simp only [rowsR, List.forall_mem_cons]
  exact ⟨rowNI_ok frob12_pure, timesQ_ok qm, rows06_ok⟩
def z6 : N6 := ((0, 0), (0, 0), (0, 0))
/-- A number without w. -/
def up6 (z : F6) : F12 := ⟨z, 0⟩
theorem ι_z6 : ι6 z6 = 0 := κ6_inj (by decide +kernel)
theorem ι_up6 (x : N6) : ι12 (x, z6) = up6 (ι6 x) := Quad.ext' rfl ι_z6
noncomputable def fr6 (x : N6) (n : Int) : N6 := κ6 (σI (n % 6) (up6 (ι6 x))).a
def fr2 (x : N2) (n : Int) : N2 := κ2 (if n % 2 = 1 then (ι2 x).conj else ι2 x)
noncomputable def rowsFr : List Row :=
  rowNI 37 fr12 :: timesQ qm :: rows06
theorem rowsFr_ok : ∀ r ∈ rowsFr, RowOk Try.prog r := by
  unfold rowsFr
  simp only [List.forall_mem_cons]
  exact ⟨rowNI_ok frob12_pure, timesQ_ok qm, rows06_ok⟩
end Go.Proofs.Ytfgbkanbppehgaa
