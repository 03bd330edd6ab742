/-
  Laws of powers: a number with u to the power of p.
-/
import Derived.Test.YtkpihidjolfkoaaPw
import Derived.Test.YtkpihidjolfkoaaLa7
import Derived.Test.YtkpihidjolfkoaaLa11
namespace Go.Proofs.Ytkpihidjolfkoaa
open Go Go.Eng Go.RowKit Go.Wd Go.Alg Go.Pr

noncomputable def T07P : CallT := orT (tableT rows07) (rowSA 24 pow2)
theorem T07P_ok : CallOk Try.prog T07P := orT_ok T07_ok fp2_pow_row
theorem fp2Frobenius_run (a : N2) : run1 T07P 12 [wN a] (allT 40) = some (vB true, [6 < 4294967296, eqW (pow2 a (pN % pw 6)) (conj2 a) true]) := by kernel_rfl
theorem pN_pw : pN % pw 6 = pN := Nat.mod_eq_of_lt pN_lt
theorem pow2_p (a : N2) : pow2 a (pN % pw 6) = conj2 a := by
  unfold pow2 conj2
  rw [pN_pw, frob2]
theorem fp2Frobenius_gives (a : N2) (_ : Sm a) (w : World) : Gives Try.prog 12 #[wv a] (.bool true) w := by
  refine gives_of_run1 T07P_ok (fp2Frobenius_run a) (fun p hp => ?_) (vals1 a) val_true w
  rcases List.mem_cons.1 hp with rfl | hp
  · omega
  · rw [List.mem_singleton] at hp
    subst hp
    exact eqW_of (pow2_p a)
noncomputable def T11P : CallT := orT (tableT rows11) (rowSA 24 pow2)
theorem T11P_ok : CallOk Try.prog T11P := orT_ok T11_ok fp2_pow_row
theorem frobPowers_run (a : N2) : run1 T11P 5 [wN a] (allT 40) = some (vB true, [6 < 4294967296, eqW (fr2 a 1) (pow2 a (pN % pw 6)) true, eqW (fr2 a 2) (red2 a) true]) := by kernel_rfl
theorem frobPowers_gives (a : N2) (_ : Sm a) (w : World) : Gives Try.prog 5 #[wv a] (.bool true) w := by
  refine gives_of_run1 T11P_ok (frobPowers_run a) (fun p hp => ?_) (vals1 a) val_true w
  rcases List.mem_cons.1 hp with rfl | hp
  · omega
  rcases List.mem_cons.1 hp with rfl | hp
  · refine eqW_of ?_
    rw [pow2_p]; rfl
  · rw [List.mem_singleton] at hp
    subst hp
    exact eqW_of rfl
end Go.Proofs.Ytkpihidjolfkoaa
