/-
  The law of chapter 10 on powers of sums and of products: what it computes.
-/
import Derived.Test.YthceokldlinjlaaAw10
import Derived.Test.YthceokldlinjlaaLm
import Derived.Test.YthceokldlinjlaaOpp
namespace Go.Proofs.Ythceokldlinjlaa
open Go Go.Eng Go.RowKit Go.Wd Go.Alg Go.Pr

theorem one12_run : run1 none1 17 [] [] = some (.one ⟨true, one72⟩, []) := by kernel_rfl
theorem one12_pure : Pure Try.prog 17 [] (wv (κ12 1)) := by
  refine pure_of_run1 none1_ok one12_run (fun p hp => by cases hp) vals0 fun ρ u hu => ?_
  obtain ⟨vs, h1, h2⟩ := AV.cells (x := ⟨true, one72⟩) (by exact hu)
  have h3 := one72_conc ρ vs h1
  rw [conc_ws] at h3
  rcases h2 with ⟨_, rfl⟩ | ⟨h2, _⟩
  · cases h3; rfl
  · cases h2
noncomputable def rowsA10 : List Row := rowN0 17 (κ12 1) :: rows10
theorem rowsA10_ok : ∀ r ∈ rowsA10, RowOk Try.prog r := List.forall_mem_cons.2 ⟨rowN0_ok one12_pure, rows10_ok⟩
noncomputable def T10m : CallT := orT TLm (orT (tableT rowsA10) (rowSA 14 pow12))
theorem T10m_ok : CallOk Try.prog T10m := orT_ok TLm_ok (orT_ok (tableT_ok rowsA10_ok) fp12_pow_row)
def sumN (a b : Int) : Nat := numW [la0 a b, la1 a b] % pw 2
def prodN (a b : Int) : Nat := numW [lm0 a b, lm1' a b] % pw 2
theorem fp12Adds_run (x : N12) (a b : Int) : run1 T10m 3 [wN x, uS a, uS b] (allT 200) =
  some (vB true, obLa a b ++ [1 < 4294967296, uOk a, 1 < 4294967296, uOk b, 2 < 4294967296, uOk (la0 a b), uOk (la1 a b), eqW (mul12 (pow12 x (nS a)) (pow12 x (nS b))) (pow12 x (sumN a b)) true, 1 < 4294967296, uOk b] ++ obLm a b ++
    [2 < 4294967296, uOk (lm0 a b), uOk (lm1' a b), eqW (pow12 (pow12 x (nS a)) (nS b)) (pow12 x (prodN a b)) true, eqW (pow12 x (0 % pw 0)) (κ12 1) true]) := by kernel_rfl
theorem valsA10 (x : N12) (a b : Int) : vals rho0 [wN x, uS a, uS b] = some [wv x, .int .u64 a, .int .u64 b] := by simp only [vals, val_uS, val_wN]
theorem fp12Adds_gives (x : N12) (_ : Sm x) (a : Int) (ha : 0 ≤ a ∧ a < 18446744073709551616) (b : Int) (hb : 0 ≤ b ∧ b < 18446744073709551616) (w : World) :
    Gives Try.prog 3 #[wv x, .int .u64 a, .int .u64 b] (.bool true) w := by
  obtain ⟨h0, h1, hn, hob⟩ := la_ok (x := a) (y := b) ha hb
  obtain ⟨k0, k1, kn, kob⟩ := lm_ok (x := a) (y := b) ha hb
  refine gives_of_run1 T10m_ok (fp12Adds_run x a b) ?_ (valsA10 x a b) val_true w
  refine all_appS (all_appS (all_appS hob (all_cons (by omega) (all_cons ha (all_cons (by omega) (all_cons hb (all_cons (by omega) (all_cons h0 (all_cons h1 (all_cons (eqW_of ?_) (all_cons (by omega) (all_cons hb all_nil))))))))))) kob) (all_cons (by omega) (all_cons k0 (all_cons k1 (all_cons (eqW_of ?_) (all_cons (eqW_of ?_) all_nil)))))
  · unfold sumN
    rw [hn]
    unfold mul12 pow12
    rw [ικ12, ικ12, pow_add]
  · unfold prodN
    rw [kn]
    unfold pow12
    rw [ικ12, pow_mul]
  · rw [Nat.zero_mod]; rfl
end Go.Proofs.Ythceokldlinjlaa
