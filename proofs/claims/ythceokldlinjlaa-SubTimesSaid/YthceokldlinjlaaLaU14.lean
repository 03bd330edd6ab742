/-
  The law of chapter 14 on multiples and the number modulo r: what it computes.
-/
import Derived.Test.YthceokldlinjlaaAw14
import Derived.Test.YthceokldlinjlaaMd
import Derived.Test.YthceokldlinjlaaOpp
namespace Go.Proofs.Ythceokldlinjlaa
open Go Go.Eng Go.RowKit Go.Wd Go.Alg Go.Pr

noncomputable def T14u : CallT := orT modT T14
theorem T14u_ok : CallOk Try.prog T14u := orT_ok modT_ok T14_ok
def slU (len cap : Nat) : AV := ⟨false, [.s 1 0 len cap]⟩
def slUO : AV := ⟨false, [.v (.slice none 0 0)]⟩
theorem val_slUO (ρ : Rho) : slUO.val ρ = some (.slice none 0 0) := AV.val_v (ρ := ρ) (x := .slice none 0 0) rfl
noncomputable def pU (a : Int) : P1 := (mulR1 base1 (nS a)).1
noncomputable def qU (a : Int) : P2 := (mulR2 base2 (nS a)).1
/-- A multiple by the whole number, and by what is left of it. -/
noncomputable def obU (a : Int) (x y : Nat) : List Prop := [eqP' (mulR1 (pU a) x).1 (mulR1 (pU a) y).1 true, eqP' (mulR2 (qU a) x).1 (mulR2 (qU a) y).1 true,
  (mulR1 (pU a) x).2 = 0 ↔ true = true, (mulR1 (pU a) y).2 = 0 ↔ true = true, (mulR2 (qU a) x).2 = 0 ↔ true = true, (mulR2 (qU a) y).2 = 0 ↔ true = true]
theorem subTimes_runA (a : Int) (len cap n : Nat) : runS T14u 11 [slU len cap, uS a] (mem1 len n) (hF 200 [24]) =
  some (vB true, [(len : Int) > 8 ↔ false = true, numW rWs = rNum, 0 = 0, len = len, len < 4294967296, 4 < 4294967296] ++ okW rWs ++ [1 < 4294967296, uOk a, 1 < 4294967296, uOk a, 0 = 0, len = len, len < 4294967296, 4 < 4294967296, 0 = 0, len = len, len < 4294967296, 4 < 4294967296] ++
    obU a (n % pw len) (n % pw len % rNum % pw 4)) := by kernel_rfl
theorem subTimes_runB (a : Int) (len cap n : Nat) : runS T14u 11 [slU len cap, uS a] (mem1 len n) (hF 200 []) = some (vB true, [(len : Int) > 8 ↔ true = true]) := by kernel_rfl
def zW : List Int := [0, 0, 0, 0]
theorem subTimes_runN (a : Int) : run1 T14u 11 [slUO, uS a] (hF 200 [24, 19]) =
  some (vB true, [((0 : Nat) : Int) > 8 ↔ false = true, 1 < 4294967296, uOk a, 1 < 4294967296, uOk a, 4 < 4294967296] ++ okW zW ++ ((4 < 4294967296) :: okW zW) ++ obU a (0 % pw 0) (numW zW % pw 4)) := by kernel_rfl
theorem tor_mod {K : Type} [CRing K] [IsField K] {b : K} (C : Cv K b) {r : Nat} {p : Pt K} (h : Tor b r p) (n : Nat) : smul (n % r) p = smul n p := by
  have e : smul n p = padd (smul (n / r * r) p) (smul (n % r) p) := by
    rw [← smul_add C h.on, Nat.mul_comm, Nat.div_add_mod]
  rw [e, smul_mul C h.on, h.tor, smul_inf, inf_add]
theorem pU_eq (a : Int) : pU a = κP1 (smul (nS a) (ιP1 base1)) := by unfold pU; rw [mulR1_on base1_on]
theorem qU_eq (a : Int) : qU a = κP2 (smul (nS a) (ιP2 base2)) := by unfold qU; rw [mulR2_on base2_on]
theorem onB1_pU (a : Int) : onB1 (pU a) = true := by rw [pU_eq]; exact onB1_κ (on_smul cv1 base1_On _)
theorem onB2_qU (a : Int) : onB2 (qU a) = true := by rw [qU_eq]; exact onB2_κ (on_smul cv2 base2_On _)
theorem obU_ok (a : Int) {x y : Nat} (h : y = x % rNum) : ∀ p ∈ obU a x y, p := by
  have s1 : ∀ n, mulR1 (pU a) n = (κP1 (smul n (ιP1 (pU a))), 0) := fun n => mulR1_on (onB1_pU a) n
  have s2 : ∀ n, mulR2 (qU a) n = (κP2 (smul n (ιP2 (qU a))), 0) := fun n => mulR2_on (onB2_qU a) n
  have t1 : Tor b1 rNum (ιP1 (pU a)) := by unfold pU; exact mul1_tor _
  have t2 : Tor b2 rNum (ιP2 (qU a)) := by unfold qU; exact mul2_tor _
  refine all_cons (eqP_of ?_) (all_cons (eqP_of ?_) (all_cons (iff_t ?_) (all_cons (iff_t ?_) (all_cons (iff_t ?_) (all_cons (iff_t ?_) all_nil)))))
  · rw [s1, s1, h, tor_mod cv1 t1]
  · rw [s2, s2, h, tor_mod cv2 t2]
  · rw [s1]
  · rw [s1]
  · rw [s2]
  · rw [s2]
theorem rWs_num' : numW rWs = rNum := by decide +kernel
theorem zW_num : numW zW % pw 4 = 0 % pw 0 % rNum := by decide +kernel
theorem left_eq (x : Nat) : x % rNum % pw 4 = x % rNum := Nat.mod_eq_of_lt (Nat.lt_trans (Nat.mod_lt _ rNum_pos) rNum_lt4)
theorem subTimes_gives (v : Value) (w : World) (hv : IsWords w v) (a : Int) (ha : 0 ≤ a ∧ a < 18446744073709551616) : Gives Try.prog 11 #[v, .int .u64 a] (.bool true) w := by
  rcases hv with rfl | ⟨b, o, len, cap, n, rfl, hl, hs⟩
  · refine gives_of_run1 T14u_ok (subTimes_runN a) ?_ (by simp only [vals, val_uS, val_slUO]) val_true w
    exact all_appS (all_appS (all_appS (all_cons (iff_f (by omega)) (all_cons (by omega) (all_cons ha (all_cons (by omega) (all_cons ha (all_cons (by omega) all_nil)))))) (okW_ok (by decide +kernel))) (all_cons (by omega) (okW_ok (by decide +kernel)))) (obU_ok a zW_num)
  · have hv : vals (rho1 b o) [slU len cap, uS a] = some [.slice (some ⟨b, o, none⟩) len cap, .int .u64 a] := by
      have e : AV.val (rho1 b o) (slU len cap) = some (.slice (some ⟨b, o, none⟩) len cap) := val_sl1 b o len cap
      simp only [vals, val_uS, e]
    by_cases h8 : len ≤ 8
    · refine gives_of_runS T14u_ok (subTimes_runA a len cap n) ?_ (mem_rho1 hs) (no_own1 b o) hv val_true
      have h9 : len < 4294967296 := by omega
      exact all_appS (all_appS (all_appS (all_cons (iff_f (by omega)) (all_cons rWs_num' (all_cons rfl (all_cons rfl (all_cons h9 (all_cons (by omega) all_nil)))))) (okW_ok (by decide +kernel)))
        (all_cons (by omega) (all_cons ha (all_cons (by omega) (all_cons ha (all_cons rfl (all_cons rfl (all_cons h9 (all_cons (by omega) (all_cons rfl (all_cons rfl (all_cons h9 (all_cons (by omega) all_nil))))))))))))) (obU_ok a (left_eq _))
    · exact gives_of_runS T14u_ok (subTimes_runB a len cap n) (one_mem (iff_t (by omega))) (mem_rho1 hs) (no_own1 b o) hv val_true
end Go.Proofs.Ythceokldlinjlaa
