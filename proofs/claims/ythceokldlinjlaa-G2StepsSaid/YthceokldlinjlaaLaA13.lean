/-
  The laws of chapter 13 on sums of numbers: what they compute.
-/
import Derived.Test.YthceokldlinjlaaAw13
import Derived.Test.YthceokldlinjlaaLm
import Derived.Test.YthceokldlinjlaaOpp
namespace Go.Proofs.Ythceokldlinjlaa
open Go Go.Eng Go.RowKit Go.Wd Go.Alg Go.Pr

noncomputable def T13m : CallT := orT TLm T13
theorem T13m_ok : CallOk Try.prog T13m := orT_ok TLm_ok T13_ok
noncomputable def TO13m (b : Bool) : CallT := orT TLm (TO13 b)
theorem TO13m_ok (b : Bool) : CallOk Try.prog (TO13m b) := orT_ok TLm_ok (TO13_ok b)
noncomputable def bA (a : Int) : P2 := (mulR2 base2 (nS a)).1
def sumN (a b : Int) : Nat := numW [la0 a b, la1 a b] % pw 2
def prodN (a b : Int) : Nat := numW [lm0 a b, lm1' a b] % pw 2
theorem g2Brackets_run (a b c : Int) : run1 T13m 4 [uS a, uS b, uS c] (allT 200) =
  some (vB true, [1 < 4294967296, uOk a, 1 < 4294967296, uOk b, 1 < 4294967296, uOk c] ++ obLa a b ++ [2 < 4294967296, uOk (la0 a b), uOk (la1 a b),
    eqP' (addP2 (addP2 (bA a) (bA b)) (negP2 (bA c))) (addP2 (bA a) (addP2 (bA b) (negP2 (bA c)))) true, eqP' (addP2 (bA a) (bA b)) (mulR2 base2 (sumN a b)).1 true, (mulR2 base2 (sumN a b)).2 = 0 ↔ true = true]) := by kernel_rfl
theorem ι_bA (a : Int) : ιP2 (bA a) = smul (nS a) (ιP2 base2) := by unfold bA; rw [mulR2_on base2_on]; exact ικP2 _
theorem ι_add (x y : P2) : ιP2 (addP2 x y) = padd (ιP2 x) (ιP2 y) := ικP2 _
theorem ι_neg (x : P2) : ιP2 (negP2 x) = (ιP2 x).neg := ικP2 _
theorem valsA13 (a b c : Int) : vals rho0 [uS a, uS b, uS c] = some [.int .u64 a, .int .u64 b, .int .u64 c] := by simp only [vals, val_uS]
theorem addP2_def (x y : P2) : addP2 x y = κP2 (padd (ιP2 x) (ιP2 y)) := rfl
theorem g2Brackets_gives (a : Int) (ha : 0 ≤ a ∧ a < 18446744073709551616) (b : Int) (hb : 0 ≤ b ∧ b < 18446744073709551616) (c : Int) (hc : 0 ≤ c ∧ c < 18446744073709551616) (w : World) :
    Gives Try.prog 4 #[.int .u64 a, .int .u64 b, .int .u64 c] (.bool true) w := by
  obtain ⟨h0, h1, hn, hob⟩ := la_ok (x := a) (y := b) ha hb
  have o : ∀ n, On b2 (smul n (ιP2 base2)) := on_smul cv2 base2_On
  refine gives_of_run1 T13m_ok (g2Brackets_run a b c) ?_ (valsA13 a b c) val_true w
  refine all_appS (all_appS (all_cons (by omega) (all_cons ha (all_cons (by omega) (all_cons hb (all_cons (by omega) (all_cons hc all_nil)))))) hob) (all_cons (by omega) (all_cons h0 (all_cons h1 (all_cons (eqP_of ?_) (all_cons (eqP_of ?_) (all_cons (iff_t ?_) all_nil))))))
  · rw [addP2_def (addP2 _ _), addP2_def (bA a) (addP2 _ _), ι_add, ι_add, ι_neg, ι_bA, ι_bA, ι_bA, add_assoc_pt cv2 (o _) (o _) (on_neg (o _))]
  · unfold sumN
    rw [mulR2_on base2_on, hn, smul_add cv2 base2_On, addP2_def, ι_bA, ι_bA]
  · rw [mulR2_on base2_on]

/-! ### G2Steps -/
def obSt (a b : Int) : List Prop := obLa a 1 ++ [2 < 4294967296, uOk (la0 a 1), uOk (la1 a 1), 1 < 4294967296, uOk b] ++ obLm a b ++ [2 < 4294967296, uOk (lm0 a b), uOk (lm1' a b)]
theorem g2Steps_runT (p : P2) (a b : Int) : run1 (TO13m true) 5 [wP p, uS a, uS b] (allT 200) =
  some (vB true, [1 < 4294967296, uOk a, onB2 p = true] ++ obSt a b ++ [(mulR2 p (nS a)).2 = 0 ↔ true = true, (mulR2 p (sumN a 1)).2 = 0 ↔ true = true, (mulR2 (mulR2 p (nS a)).1 (nS b)).2 = 0 ↔ true = true, (mulR2 p (prodN a b)).2 = 0 ↔ true = true, (mulR2 p (0 % pw 0)).2 = 0 ↔ true = true,
    eqP' (addP2 (mulR2 p (nS a)).1 p) (mulR2 p (sumN a 1)).1 true, eqP' (mulR2 (mulR2 p (nS a)).1 (nS b)).1 (mulR2 p (prodN a b)).1 true, eqP' (mulR2 p (0 % pw 0)).1 noneP2 true]) := by kernel_rfl
theorem g2Steps_runF (p : P2) (a b : Int) : run1 (TO13m false) 5 [wP p, uS a, uS b] (allT 200) =
  some (vB true, [1 < 4294967296, uOk a, onB2 p = false, (mulR2 p (nS a)).2 = 120 ↔ true = true, eqP' (mulR2 p (nS a)).1 zP2 true]) := by kernel_rfl
theorem valsS13 (p : P2) (a b : Int) : vals rho0 [wP p, uS a, uS b] = some [wpv p, .int .u64 a, .int .u64 b] := by simp only [vals, val_uS, val_wP]
theorem g2Steps_gives (p : P2) (_ : Sm p.1) (a : Int) (ha : 0 ≤ a ∧ a < 18446744073709551616) (b : Int) (hb : 0 ≤ b ∧ b < 18446744073709551616) (w : World) :
    Gives Try.prog 5 #[wpv p, .int .u64 a, .int .u64 b] (.bool true) w := by
  cases hp : onB2 p with
  | false =>
    refine gives_of_run1 (TO13m_ok false) (g2Steps_runF p a b) (all_cons (by omega) (all_cons ha (all_cons hp (all_cons (iff_t ?_) (all_cons (eqP_of ?_) all_nil))))) (valsS13 p a b) val_true w
    · rw [mulR2_off hp]
    · rw [mulR2_off hp]
  | true =>
    obtain ⟨h0, h1, hn, hob⟩ := la_ok (x := a) (y := 1) ha (by unfold uOk; omega)
    obtain ⟨k0, k1, kn, kob⟩ := lm_ok (x := a) (y := b) ha hb
    have hP : On b2 (ιP2 p) := (onB2_iff p).1 hp
    have hq : onB2 (κP2 (smul (nS a) (ιP2 p))) = true := (onB2_iff _).2 (by rw [ικP2]; exact on_smul cv2 hP _)
    have e1 : nS 1 = 1 := by decide +kernel
    refine gives_of_run1 (TO13m_ok true) (g2Steps_runT p a b) ?_ (valsS13 p a b) val_true w
    refine all_appS (all_appS (all_cons (by omega) (all_cons ha (all_cons hp all_nil))) (all_appS (all_appS (all_appS hob (all_cons (by omega) (all_cons h0 (all_cons h1 (all_cons (by omega) (all_cons hb all_nil)))))) kob) (all_cons (by omega) (all_cons k0 (all_cons k1 all_nil))))) ?_
    have s : ∀ n, mulR2 p n = (κP2 (smul n (ιP2 p)), 0) := fun n => mulR2_on hp n
    refine all_cons (iff_t (by rw [s])) (all_cons (iff_t (by rw [s])) (all_cons (iff_t (by rw [s, mulR2_on hq])) (all_cons (iff_t (by rw [s])) (all_cons (iff_t (by rw [s])) (all_cons (eqP_of ?_) (all_cons (eqP_of ?_) (all_cons (eqP_of ?_) all_nil)))))))
    · unfold sumN
      rw [s, s, hn, e1, addP2_def, ικP2]
      rfl
    · unfold prodN
      rw [s, mulR2_on hq, s, kn, Nat.mul_comm, smul_mul cv2 hP, ικP2]
    · rw [s, Nat.zero_mod]; rfl
end Go.Proofs.Ythceokldlinjlaa
