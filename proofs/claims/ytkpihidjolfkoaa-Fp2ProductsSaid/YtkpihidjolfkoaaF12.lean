/-
  Numbers with w: the rows of fp12.
-/
import Derived.Test.YtkpihidjolfkoaaF6
namespace Go.Proofs.Ytkpihidjolfkoaa
open Go Go.Eng Go.RowKit Go.Wd Go.Alg Go.Pr

abbrev F12 := Quad F6 vv
abbrev N12 := N6 × N6
def ι12 (x : N12) : F12 := ⟨ι6 x.1, ι6 x.2⟩
def κ12 (z : F12) : N12 := (κ6 z.a, κ6 z.b)
theorem ικ12 (z : F12) : ι12 (κ12 z) = z := Quad.ext' (ικ6 _) (ικ6 _)
theorem κ12_inj {x y : F12} (h : κ12 x = κ12 y) : x = y := by rw [← ικ12 x, h, ικ12]
instance : IsField F12 := quad_field no_root6
def red12 (x : N12) : N12 := κ12 (ι12 x)
def add12 (x y : N12) : N12 := κ12 (ι12 x + ι12 y)
def sub12 (x y : N12) : N12 := κ12 (ι12 x - ι12 y)
def mul12 (x y : N12) : N12 := κ12 (ι12 x * ι12 y)
def neg12 (x : N12) : N12 := κ12 (-ι12 x)
def conj12 (x : N12) : N12 := κ12 (ι12 x).conj
noncomputable def inve12 (x : N12) : N12 := κ12 (inv (ι12 x))
theorem n12_eq {z : F12} {m n : N6} (h1 : m = κ6 z.a) (h2 : n = κ6 z.b) : (m, n) = κ12 z := by rw [h1, h2]; rfl
noncomputable def TF6 : CallT := tableT rows04
theorem TF6_ok : CallOk Try.prog TF6 := tableT_ok rows04_ok
theorem fp12_reduce_run (x : N12) : run1 TF6 20 [wN x] [] = some (.one (wN (red6 x.1, red6 x.2)), []) := by kernel_rfl
theorem fp12_reduce (x : N12) : Pure Try.prog 20 [wv x] (wv (red12 x)) := pureN_of_run TF6_ok (fp12_reduce_run x) (fun _ h => by cases h) (vals1 x) (n12_eq rfl rfl)
theorem fp12_add_run (x y : N12) : run1 TF6 33 [wN x, wN y] [] = some (.one (wN (add6 x.1 y.1, add6 x.2 y.2)), []) := by kernel_rfl
theorem fp12_add (x y : N12) : Pure Try.prog 33 [wv x, wv y] (wv (add12 x y)) := pureN_of_run TF6_ok (fp12_add_run x y) (fun _ h => by cases h) (vals2 x y) (n12_eq rfl rfl)
theorem fp12_neg_run (x : N12) : run1 TF6 50 [wN x] [] = some (.one (wN (neg6 x.1, neg6 x.2)), []) := by kernel_rfl
theorem fp12_neg (x : N12) : Pure Try.prog 50 [wv x] (wv (neg12 x)) := pureN_of_run TF6_ok (fp12_neg_run x) (fun _ h => by cases h) (vals1 x) (n12_eq rfl rfl)
theorem fp12_conj_run (x : N12) : run1 TF6 17 [wN x] [] = some (.one (wN (red6 x.1, neg6 x.2)), []) := by kernel_rfl
theorem fp12_conj (x : N12) : Pure Try.prog 17 [wv x] (wv (conj12 x)) := pureN_of_run TF6_ok (fp12_conj_run x) (fun _ h => by cases h) (vals1 x) (n12_eq rfl rfl)
theorem fp12_mul_run (x y : N12) : run1 TF6 34 [wN x, wN y] [] = some (.one (wN (add6 (mul6 x.1 y.1) (v6 (mul6 x.2 y.2)), sub6 (mul6 (add6 x.1 x.2) (add6 y.1 y.2)) (add6 (mul6 x.1 y.1) (mul6 x.2 y.2)))), []) := by kernel_rfl
theorem fp12_mul (x y : N12) : Pure Try.prog 34 [wv x, wv y] (wv (mul12 x y)) := by
  refine pureN_of_run TF6_ok (fp12_mul_run x y) (fun _ h => by cases h) (vals2 x y) (n12_eq ?_ ?_)
  · simp only [add6, mul6, v6, ικ6]
    exact congrArg κ6 (ident (env [ι6 x.1, ι6 x.2, ι6 y.1, ι6 y.2, vv]) (x0 * x2 + x1 * x3 * x4) (x0 * x2 + x4 * (x1 * x3)) (by decide +kernel))
  · simp only [add6, sub6, mul6, ικ6]
    exact congrArg κ6 (ident (env [ι6 x.1, ι6 x.2, ι6 y.1, ι6 y.2]) ((x0 + x1) * (x2 + x3) - (x0 * x2 + x1 * x3)) (x0 * x3 + x1 * x2) (by decide +kernel))
noncomputable def rows06 : List Row := rowN1 20 red12 :: rowN2 33 add12 :: rowN1 50 neg12 :: rowN1 17 conj12 :: rowN2 34 mul12 :: rows04
theorem rows06_ok : ∀ r ∈ rows06, RowOk Try.prog r := by
  simp only [rows06, List.forall_mem_cons]
  exact ⟨rowN1_ok fp12_reduce, rowN2_ok fp12_add, rowN1_ok fp12_neg, rowN1_ok fp12_conj, rowN2_ok fp12_mul, rows04_ok⟩
/-- What a single bool owes nothing for. -/
theorem sm_append {A B : Type} [Nm A] [Nm B] {x : A × B} (h1 : Sm x.1) (h2 : Sm x.2) : Sm x := by
  intro n hn
  rcases List.mem_append.1 hn with h | h
  · exact h1 n h
  · exact h2 n h
theorem val_lt6 (z : F) : z.val < M6 := Nat.lt_trans z.lt pN_lt
theorem sm_κ2 (z : F2) : Sm (κ2 z) := by
  intro n hn
  have : n = z.a.val ∨ n = z.b.val := by simpa [Nm.toL, κ2] using hn
  rcases this with rfl | rfl <;> exact val_lt6 _
theorem sm_κ6 (z : F6) : Sm (κ6 z) := sm_append (sm_κ2 _) (sm_append (sm_κ2 _) (sm_κ2 _))
theorem sm_κ12 (z : F12) : Sm (κ12 z) := sm_append (sm_κ6 _) (sm_κ6 _)
theorem sm_val (z : F) : Sm z.val := by
  intro n hn
  have : n = z.val := by simpa [Nm.toL] using hn
  rw [this]; exact val_lt6 z
theorem eqK2 {x y : F2} {b : Bool} (h : x = y ↔ b = true) : eqW (κ2 x) (κ2 y) b := eqW_iff (sm_κ2 x) (sm_κ2 y) ⟨fun e => h.1 (κ2_inj e), fun e => by rw [h.2 e]⟩
theorem eqK6 {x y : F6} {b : Bool} (h : x = y ↔ b = true) : eqW (κ6 x) (κ6 y) b := eqW_iff (sm_κ6 x) (sm_κ6 y) ⟨fun e => h.1 (κ6_inj e), fun e => by rw [h.2 e]⟩
theorem eqK12 {x y : F12} {b : Bool} (h : x = y ↔ b = true) : eqW (κ12 x) (κ12 y) b := eqW_iff (sm_κ12 x) (sm_κ12 y) ⟨fun e => h.1 (κ12_inj e), fun e => by rw [h.2 e]⟩
theorem iff_t {p : Prop} (h : p) : p ↔ true = true := ⟨fun _ => rfl, fun _ => h⟩
theorem iff_f {p : Prop} (h : ¬ p) : p ↔ false = true := ⟨fun e => absurd e h, fun e => by cases e⟩
/-- Hints: some comparisons are false, all others true. -/
def hF (n : Nat) (fs : List Nat) : List (Nat × Bool) := fs.map (fun i => (i, false)) ++ allT n
theorem κz2 : ((0, 0) : N2) = κ2 0 := by decide +kernel
theorem κo2 : ((1, 0) : N2) = κ2 1 := by decide +kernel
theorem κz6 : (((0, 0), (0, 0), (0, 0)) : N6) = κ6 0 := by decide +kernel
theorem κo6 : (((1, 0), (0, 0), (0, 0)) : N6) = κ6 1 := by decide +kernel
theorem κz12 : ((((0, 0), (0, 0), (0, 0)), ((0, 0), (0, 0), (0, 0))) : N12) = κ12 0 := by decide +kernel
theorem κo12 : ((((1, 0), (0, 0), (0, 0)), ((0, 0), (0, 0), (0, 0))) : N12) = κ12 1 := by decide +kernel
theorem one2 : ι2 (1, 0) = 1 := κ2_inj (by decide +kernel)
end Go.Proofs.Ytkpihidjolfkoaa
