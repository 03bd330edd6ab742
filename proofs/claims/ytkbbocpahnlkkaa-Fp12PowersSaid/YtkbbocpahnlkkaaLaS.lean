/-
  The laws of powers by any words, with the document's answer: what they compute.
-/
import Derived.Test.YtkbbocpahnlkkaaAw7
import Derived.Test.YtkbbocpahnlkkaaAw10
import Derived.Test.YtkbbocpahnlkkaaOp
import Derived.Test.YtkbbocpahnlkkaaRp7
import Derived.Test.YtkbbocpahnlkkaaRp10
namespace Go.Proofs.Ytkbbocpahnlkkaa
open Go Go.Eng Go.RowKit Go.Wd Go.Alg Go.Pr

def slA (len cap : Nat) : AV := ⟨false, [.s 1 0 len cap]⟩
def slN : AV := ⟨false, [.v (.slice none 0 0)]⟩
theorem val_slN (ρ : Rho) : slN.val ρ = some (.slice none 0 0) := AV.val_v (ρ := ρ) (x := .slice none 0 0) rfl
noncomputable def T07S : CallT := orT (tableT rows07) (orT (rowSA 39 pow2) (rowSA 40 pow2))
theorem T07S_ok : CallOk Try.prog T07S := orT_ok T07_ok (orT_ok fp2_pow_row R7_row)

theorem fp2Powers_runA (a : N2) (len cap n : Nat) : runS T07S 6 [wN a, slA len cap] (mem1 len n) (hF 100 [9]) =
    some (vB true, [(len : Int) > 8 ↔ false = true, 0 = 0, len = len, len < 4294967296, 0 = 0, len = len, len < 4294967296, eqW (pow2 a (n % pw len)) (pow2 a (n % pw len)) true]) := by kernel_rfl
theorem fp2Powers_runB (a : N2) (len cap n : Nat) : runS T07S 6 [wN a, slA len cap] (mem1 len n) (hF 100 []) = some (vB true, [(len : Int) > 8 ↔ true = true]) := by kernel_rfl
theorem fp2Powers_runN (a : N2) : run1 T07S 6 [wN a, slN] ((9, false) :: allT 100) = some (vB true, [(0 : Int) > 8 ↔ false = true, eqW (pow2 a (0 % pw 0)) (pow2 a (0 % pw 0)) true]) := by kernel_rfl
theorem fp2Powers_gives (a : N2) (_ : Sm a) (v : Value) (w : World) (hv : IsWords w v) : Gives Try.prog 6 #[wv a, v] (.bool true) w := by
  rcases hv with rfl | ⟨b, o, len, cap, n, rfl, hl, hs⟩
  · refine gives_of_run1 T07S_ok (fp2Powers_runN a) (fun p hp => ?_) (by simp only [vals, val_wN, val_slN]) val_true w
    rcases List.mem_cons.1 hp with rfl | hp
    · exact iff_f (by omega)
    · rw [List.mem_singleton] at hp
      subst hp
      exact eqW_of rfl
  · have hv : vals (rho1 b o) [wN a, slA len cap] = some [wv a, .slice (some ⟨b, o, none⟩) len cap] := by
      show vals (rho1 b o) [wN a, ⟨false, [.s 1 0 len cap]⟩] = _
      simp only [vals, val_wN, val_sl1]
    by_cases h8 : len ≤ 8
    · refine gives_of_runS T07S_ok (fp2Powers_runA a len cap n) (fun p hp => ?_) (mem_rho1 hs) (no_own1 b o) hv val_true
      simp only [List.mem_cons, List.not_mem_nil, or_false] at hp
      rcases hp with rfl | rfl | rfl | rfl | rfl | rfl | rfl | rfl
      · exact iff_f (by omega)
      · trivial
      · trivial
      · omega
      · trivial
      · trivial
      · omega
      · exact eqW_of rfl
    · refine gives_of_runS T07S_ok (fp2Powers_runB a len cap n) (fun p hp => ?_) (mem_rho1 hs) (no_own1 b o) hv val_true
      rw [List.mem_singleton] at hp
      subst hp
      exact iff_t (by omega)
noncomputable def T10S : CallT := orT (tableT rows10) (orT (rowSA 42 pow12) (rowSA 76 pow12))
theorem T10S_ok : CallOk Try.prog T10S := orT_ok T10_ok (orT_ok fp12_pow_row ref12_pow_row)

theorem fp12Powers_runA (a : N12) (len cap n : Nat) : runS T10S 16 [wN a, slA len cap] (mem1 len n) (hF 100 [9]) =
    some (vB true, [(len : Int) > 4 ↔ false = true, 0 = 0, len = len, len < 4294967296, 0 = 0, len = len, len < 4294967296, eqW (pow12 a (n % pw len)) (pow12 a (n % pw len)) true]) := by kernel_rfl
theorem fp12Powers_runB (a : N12) (len cap n : Nat) : runS T10S 16 [wN a, slA len cap] (mem1 len n) (hF 100 []) = some (vB true, [(len : Int) > 4 ↔ true = true]) := by kernel_rfl
theorem fp12Powers_runN (a : N12) : run1 T10S 16 [wN a, slN] ((9, false) :: allT 100) = some (vB true, [(0 : Int) > 4 ↔ false = true, eqW (pow12 a (0 % pw 0)) (pow12 a (0 % pw 0)) true]) := by kernel_rfl
theorem fp12Powers_gives (a : N12) (_ : Sm a) (v : Value) (w : World) (hv : IsWords w v) : Gives Try.prog 16 #[wv a, v] (.bool true) w := by
  rcases hv with rfl | ⟨b, o, len, cap, n, rfl, hl, hs⟩
  · refine gives_of_run1 T10S_ok (fp12Powers_runN a) (fun p hp => ?_) (by simp only [vals, val_wN, val_slN]) val_true w
    rcases List.mem_cons.1 hp with rfl | hp
    · exact iff_f (by omega)
    · rw [List.mem_singleton] at hp
      subst hp
      exact eqW_of rfl
  · have hv : vals (rho1 b o) [wN a, slA len cap] = some [wv a, .slice (some ⟨b, o, none⟩) len cap] := by
      show vals (rho1 b o) [wN a, ⟨false, [.s 1 0 len cap]⟩] = _
      simp only [vals, val_wN, val_sl1]
    by_cases h8 : len ≤ 4
    · refine gives_of_runS T10S_ok (fp12Powers_runA a len cap n) (fun p hp => ?_) (mem_rho1 hs) (no_own1 b o) hv val_true
      simp only [List.mem_cons, List.not_mem_nil, or_false] at hp
      rcases hp with rfl | rfl | rfl | rfl | rfl | rfl | rfl | rfl
      · exact iff_f (by omega)
      · trivial
      · trivial
      · omega
      · trivial
      · trivial
      · omega
      · exact eqW_of rfl
    · refine gives_of_runS T10S_ok (fp12Powers_runB a len cap n) (fun p hp => ?_) (mem_rho1 hs) (no_own1 b o) hv val_true
      rw [List.mem_singleton] at hp
      subst hp
      exact iff_t (by omega)
end Go.Proofs.Ytkbbocpahnlkkaa
