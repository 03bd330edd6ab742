/-
  The law of chapter 14 on images of points of order r: what it computes.
-/
import Derived.Test.YthceokldlinjlaaAw14
import Derived.Test.YthceokldlinjlaaLm
import Derived.Test.YthceokldlinjlaaOpp
namespace Go.Proofs.Ythceokldlinjlaa
open Go Go.Eng Go.RowKit Go.Wd Go.Alg Go.Pr

def xI : Int := 15132376222941642752
def xIn : Nat := 15132376222941642752
def xxIn : Nat := 15132376222941642752 * 15132376222941642752
def prodI (a b : Int) : Nat := numW [lm0 a b, lm1' a b] % pw 2
noncomputable def pJ (a : Int) : P1 := (mulR1 base1 (nS a)).1
noncomputable def qJ (a : Int) : P2 := (mulR2 base2 (nS a)).1
noncomputable def T14x : CallT := orT TLm T14
theorem T14x_ok : CallOk Try.prog T14x := orT_ok TLm_ok T14_ok
theorem subImages_run (a b : Int) : run1 T14x 10 [uS a, uS b] (allT 200) =
  some (vB true, [1 < 4294967296, uOk a, 1 < 4294967296, uOk b, 1 < 4294967296, uOk a, 1 < 4294967296, uOk b] ++ obLm xI xI ++ [2 < 4294967296, uOk (lm0 xI xI), uOk (lm1' xI xI), 1 < 4294967296, uOk xI,
    eqP' (phiN (pJ a)) (negP1 (mulR1 (pJ a) (prodI xI xI)).1) true, eqP' (psiN (qJ a)) (negP2 (mulR2 (qJ a) (nS xI)).1) true, (mulR1 (pJ a) (prodI xI xI)).2 = 0 ↔ true = true, (mulR2 (qJ a) (nS xI)).2 = 0 ↔ true = true,
    eqP' (phiN (addP1 (pJ a) (pJ b))) (addP1 (phiN (pJ a)) (phiN (pJ b))) true, eqP' (psiN (addP2 (qJ a) (qJ b))) (addP2 (psiN (qJ a)) (psiN (qJ b))) true]) := by kernel_rfl
theorem pJ_eq (a : Int) : pJ a = κP1 (smul (nS a) (ιP1 base1)) := by unfold pJ; rw [mulR1_on base1_on]
theorem qJ_eq (a : Int) : qJ a = κP2 (smul (nS a) (ιP2 base2)) := by unfold qJ; rw [mulR2_on base2_on]
theorem xxIn_lt : xxIn < 2 ^ 128 := by decide +kernel
theorem xIn_lt : xIn < 2 ^ 64 := by decide +kernel
theorem phi_base : (phiP (ιP1 base1)).neg = smul xxIn (ιP1 base1) := by
  have e1 : ιP1 base1 = .aff bx1 by1 := by kernel_rfl
  have e2 : (phiP (.aff bx1 by1)).neg = .aff (bx1 * φ betaN) (-by1) := by kernel_rfl
  rw [e1, e2]
  exact (jmul_is cv1 tz1_iff base1_On 128 xxIn_lt (by decide +kernel)).symm
theorem psi_base : (psiP (ιP2 base2)).neg = smul xIn (ιP2 base2) := by
  have e1 : ιP2 base2 = .aff bx2 by2 := by kernel_rfl
  have e2 : (psiP (.aff bx2 by2)).neg = .aff (bx2.conj * ι2 psX) (-(by2.conj * ι2 psY)) := by kernel_rfl
  rw [e1, e2]
  exact (jmul_is cv2 tz2_iff base2_On 64 xIn_lt (by decide +kernel)).symm
theorem phi_mult (n : Nat) : phiP (smul n (ιP1 base1)) = (smul xxIn (smul n (ιP1 base1))).neg := by
  rw [← smul_mul cv1 base1_On, Nat.mul_comm, smul_mul cv1 base1_On, ← phi_base, smul_neg cv1 ((phi_on _).2 base1_On), neg_neg_pt, phi_smul base1_On]
theorem psi_mult (n : Nat) : psiP (smul n (ιP2 base2)) = (smul xIn (smul n (ιP2 base2))).neg := by
  rw [← smul_mul cv2 base2_On, Nat.mul_comm, smul_mul cv2 base2_On, ← psi_base, smul_neg cv2 ((psi_on _).2 base2_On), neg_neg_pt, psi_smul base2_On]
theorem uOk_xI : uOk xI := by unfold uOk xI; omega
theorem nS_xI : nS xI = xIn := by decide +kernel
theorem xx_eq : xIn * xIn = xxIn := by decide +kernel
theorem onB1_pJ (a : Int) : onB1 (pJ a) = true := by rw [pJ_eq]; exact onB1_κ (on_smul cv1 base1_On _)
theorem onB2_qJ (a : Int) : onB2 (qJ a) = true := by rw [qJ_eq]; exact onB2_κ (on_smul cv2 base2_On _)
theorem ι_pJ (a : Int) : ιP1 (pJ a) = smul (nS a) (ιP1 base1) := by rw [pJ_eq, ικP1]
theorem ι_qJ (a : Int) : ιP2 (qJ a) = smul (nS a) (ιP2 base2) := by rw [qJ_eq, ικP2]
theorem phiN_def (p : P1) : phiN p = κP1 (phiP (ιP1 p)) := rfl
theorem psiN_def (p : P2) : psiN p = κP2 (psiP (ιP2 p)) := rfl
theorem negP1_def (p : P1) : negP1 p = κP1 (ιP1 p).neg := rfl
theorem negP2_def (p : P2) : negP2 p = κP2 (ιP2 p).neg := rfl
theorem addP1_def (p q : P1) : addP1 p q = κP1 (padd (ιP1 p) (ιP1 q)) := rfl
theorem addP2_def (p q : P2) : addP2 p q = κP2 (padd (ιP2 p) (ιP2 q)) := rfl
theorem img1 (a : Int) (n : Nat) (hn : n = xxIn) : phiN (pJ a) = negP1 (mulR1 (pJ a) n).1 := by
  rw [hn, mulR1_on (onB1_pJ a), fst1_1, phiN_def, negP1_def, ικP1, ι_pJ, phi_mult]
theorem img2 (a : Int) (n : Nat) (hn : n = xIn) : psiN (qJ a) = negP2 (mulR2 (qJ a) n).1 := by
  rw [hn, mulR2_on (onB2_qJ a), fst1_2, psiN_def, negP2_def, ικP2, ι_qJ, psi_mult]
theorem mulR1_snd {p : P1} (h : onB1 p = true) (n : Nat) : (mulR1 p n).2 = 0 := by rw [mulR1_on h, snd1_1]
theorem mulR2_snd {p : P2} (h : onB2 p = true) (n : Nat) : (mulR2 p n).2 = 0 := by rw [mulR2_on h, snd1_2]
theorem subImages_gives (a : Int) (ha : 0 ≤ a ∧ a < 18446744073709551616) (b : Int) (hb : 0 ≤ b ∧ b < 18446744073709551616) (w : World) : Gives Try.prog 10 #[.int .u64 a, .int .u64 b] (.bool true) w := by
  obtain ⟨k0, k1, kn, kob⟩ := lm_ok (x := xI) (y := xI) uOk_xI uOk_xI
  refine gives_of_run1 T14x_ok (subImages_run a b) ?_ (by simp only [vals, val_uS]) val_true w
  refine all_appS (all_appS (all_cons (by omega) (all_cons ha (all_cons (by omega) (all_cons hb (all_cons (by omega) (all_cons ha (all_cons (by omega) (all_cons hb all_nil)))))))) kob) (all_cons (by omega) (all_cons k0 (all_cons k1 (all_cons (by omega) (all_cons uOk_xI (all_cons (eqP_of ?_) (all_cons (eqP_of ?_) (all_cons (iff_t ?_) (all_cons (iff_t ?_) (all_cons (eqP_of ?_) (all_cons (eqP_of ?_) all_nil)))))))))))
  · exact img1 a _ (by unfold prodI; rw [kn, nS_xI, xx_eq])
  · exact img2 a _ nS_xI
  · exact mulR1_snd (onB1_pJ a) _
  · exact mulR2_snd (onB2_qJ a) _
  · rw [phiN_def, addP1_def, addP1_def, phiN_def, phiN_def, ικP1, ικP1, ικP1, phi_add ((onB1_iff _).1 (onB1_pJ a)) ((onB1_iff _).1 (onB1_pJ b))]
  · rw [psiN_def, addP2_def, addP2_def, psiN_def, psiN_def, ικP2, ικP2, ικP2, psi_add ((onB2_iff _).1 (onB2_qJ a)) ((onB2_iff _).1 (onB2_qJ b))]
end Go.Proofs.Ythceokldlinjlaa
