/-
  The document's pairings: the rows of sigilref16.
-/
import Derived.Test.YtcidhcielgnfdaaGreatAw16
import Derived.Test.YtcidhcielgnfdaaGreatMr
import Derived.Test.YtcidhcielgnfdaaGreatRp10
namespace Go.Proofs.YtcidhcielgnfdaaGreat
open Go Go.Eng Go.RowKit Go.Wd Go.Alg Go.Pr

noncomputable def TRf0 : CallT := orT (tableT rowsH10) (orT (rowSA 24 pow12) (orT (rowSA 48 pow2) (tableT rowsI7)))
theorem TRf0_ok : CallOk Tryz.prog TRf0 := orT_ok (tableT_ok rowsH10_ok) (orT_ok ref12_pow_row (orT_ok R7_row (tableT_ok rowsI7_ok)))
def sixWs : List Int := [5308195848297902535, 368356918586201429, 16611565823685306630, 16578843054827078431, 902017296411783715, 312299769607923311]
def sv2 (x : N2) : SV := .one (wN x)
def svEq2 (x y : N2) : Prop := ∀ ρ, (sv2 x).val ρ = (sv2 y).val ρ

/-! ### frob -/
def fk (g : N2) : Nat → N2
  | 0 => (1, 0)
  | n + 1 => mul2 (fk g n) g
def frD (g : N2) (a : N12) : N12 := ((mul2 (conj2 a.1.1) (fk g 0), mul2 (conj2 a.1.2.1) (fk g 2), mul2 (conj2 a.1.2.2) (fk g 4)), (mul2 (conj2 a.2.1) (fk g 1), mul2 (conj2 a.2.2.1) (fk g 3), mul2 (conj2 a.2.2.2) (fk g 5)))
theorem ref16_frob_run (a : N12) (g : N2) : run1 (forceT TRf0 [(25, sv2 g)]) 23 [wN a] [] = some (sv12 (frD g a), svEq2 (pow2 (1, 1) (numW sixWs % pw 6)) g :: (6 < 4294967296) :: okW sixWs) := by kernel_rfl
theorem six_num : numW sixWs % pw 6 = sixth1 := by decide +kernel
theorem ι_xi : ι2 (1, 1) = ξ := κ2_inj (by decide +kernel)
theorem xi_six : pow2 (1, 1) sixth1 = κ2 g1 := by
  unfold pow2
  rw [ι_xi]
  exact congrArg κ2 (powB_eq ξ 381 sixth1 (by decide +kernel)).symm
theorem ι_fk (i : Nat) (h : i < 6) : ι2 (fk (κ2 g1) i) = facF i := by
  have e0 : ι2 (1, 0) = 1 := κ2_inj (by decide +kernel)
  have es : ∀ n, ι2 (fk (κ2 g1) (n + 1)) = ι2 (fk (κ2 g1) n) * g1 := fun n => by
    show ι2 (mul2 _ _) = _
    unfold mul2
    rw [ικ2, ικ2]
  have e0 : ι2 (fk (κ2 g1) 0) = 1 := e0
  match i, h with
  | 0, _ => exact e0
  | 1, _ => rw [es, e0, one_mul]; rfl
  | 2, _ => rw [es, es, e0, one_mul]; rfl
  | 3, _ => rw [es, es, es, e0, one_mul]; rfl
  | 4, _ => rw [es, es, es, es, e0, one_mul]; rfl
  | 5, _ => rw [es, es, es, es, es, e0, one_mul]; rfl
theorem frD_eq (a : N12) : frD (κ2 g1) a = fr12 a 1 := by
  rw [show (1 : Int) = ((1 : Nat) : Int) from rfl, fr12_nat]
  show frD (κ2 g1) a = κ12 (stepF facF (ι12 a))
  unfold frD mul2 conj2
  simp only [ι_fk _ (show 0 < 6 by omega), ι_fk _ (show 1 < 6 by omega), ι_fk _ (show 2 < 6 by omega), ι_fk _ (show 3 < 6 by omega), ι_fk _ (show 4 < 6 by omega), ι_fk _ (show 5 < 6 by omega), ικ2]
  rfl
theorem ref16_frob (a : N12) : Pure Tryz.prog 23 [wv a] (wv (fr12 a 1)) := by
  refine pureN_of_run (forceT_ok TRf0_ok _) (ref16_frob_run a (κ2 g1)) (all_cons (fun ρ => ?_) (all_cons (by omega) (okW_ok (by decide +kernel)))) (vals1 a) (frD_eq a)
  rw [six_num, xi_six]

/-! ### less, Final -/
noncomputable def rowsRf1 : List Row := [rowN1 23 (fun a => fr12 a 1)]
theorem rowsRf1_ok : ∀ r ∈ rowsRf1, RowOk Tryz.prog r := by
  simp only [rowsRf1, List.forall_mem_cons, List.not_mem_nil, false_imp_iff, implies_true, and_true]
  exact rowN1_ok ref16_frob
noncomputable def TRf1 : CallT := orT (tableT rowsRf1) TRf0
theorem TRf1_ok : CallOk Tryz.prog TRf1 := orT_ok (tableT_ok rowsRf1_ok) TRf0_ok
noncomputable def rgN (f : N12) : N12 := mul12 (conj12 f) (inve12 f)
noncomputable def rhN (g : N12) : N12 := mul12 (fr12 (fr12 g 1) 1) g
noncomputable def rbN (a a1 : N12) : N12 := mul12 (conj12 a1) (fr12 a 1)
noncomputable def rccN (b b2 : N12) : N12 := mul12 (mul12 (conj12 b2) (fr12 (fr12 b 1) 1)) (conj12 b)
noncomputable def forcedRf (g h a a1 b b1 b2 c : N12) : List (Nat × SV) := [(22, sv12 g), (29, sv12 h), (34, sv12 a), (39845892, sv12 a1), (41, sv12 b), (47185924, sv12 b1), (48234500, sv12 b2), (53, sv12 c)]
theorem ref16_final_run (f g h a a1 b b1 b2 c : N12) : run1 (forceT TRf1 (forcedRf g h a a1 b b1 b2 c)) 7 [wN f] [] =
    some (sv12 (mul12 c h), svEq (rgN f) g :: svEq (rhN g) h :: svEq (aN h) a :: (2 < 4294967296) :: okW hardWs ++ (svEq (xxN a) a1 :: obX ++ (svEq (rbN a a1) b :: (svEq (xxN b) b1 :: obX ++ (svEq (xxN (conj12 b1)) b2 :: obX ++ [svEq (rccN b b2) c]))))) := by kernel_rfl
theorem xx_turn (b : F12) : (xxF (xxF b).conj).conj = xxF (xxF b) := by
  have hp : ∀ (z : F12) (n : Nat), pow z.conj n = (pow z n).conj := by
    intro z n
    induction n with
    | zero => exact Quad.ext' rfl neg_zero.symm
    | succ n ih => rw [pow_succ, pow_succ, ih, ← conj_mul']
  unfold xxF
  rw [hp, conj_conj']
theorem σn_at1 (z : F12) : σn 1 z = σ z := rfl
theorem σn_at2 (z : F12) : σn 2 z = σ (σ z) := rfl
theorem ι_mul12 (x y : N12) : ι12 (mul12 x y) = ι12 x * ι12 y := by unfold mul12; rw [ικ12]
theorem ι_conj12 (x : N12) : ι12 (conj12 x) = (ι12 x).conj := by unfold conj12; rw [ικ12]
theorem ι_fr1 (x : N12) : ι12 (fr12 x 1) = σ (ι12 x) := by
  rw [show (1 : Int) = ((1 : Nat) : Int) from rfl, fr12_nat, ικ12, σn_at1]
theorem ι_rgN (f : N12) : ι12 (rgN f) = gF (ι12 f) := by unfold rgN gF; rw [ι_mul12, ι_conj12]; unfold inve12; rw [ικ12]
theorem ι_rhN (g : N12) : ι12 (rhN g) = hF12 (ι12 g) := by unfold rhN hF12; rw [ι_mul12, ι_fr1, ι_fr1, σn_at2]
theorem ι_rbN (a : N12) : ι12 (rbN a (xxN a)) = bF (ι12 a) := by unfold rbN bF; rw [ι_mul12, ι_fr1, ι_conj12, ι_xxN, σn_at1]
theorem ι_rcN (b : N12) : ι12 (rccN b (xxN (conj12 (xxN b)))) = cF (ι12 b) := by
  unfold rccN cF
  rw [ι_mul12, ι_mul12, ι_fr1, ι_fr1, ι_conj12, ι_conj12, ι_xxN, ι_conj12, ι_xxN, xx_turn, σn_at2]
theorem ref16_fin (f : N12) : mul12 (rccN (rbN (aN (rhN (rgN f))) (xxN (aN (rhN (rgN f))))) (xxN (conj12 (xxN (rbN (aN (rhN (rgN f))) (xxN (aN (rhN (rgN f))))))))) (rhN (rgN f)) = finN f := by
  rw [finN_eq]
  unfold mul12 finF
  rw [ι_rcN, ι_rbN, ι_aN, ι_rhN, ι_rgN]
theorem ref16_final (f : N12) : Pure Tryz.prog 7 [wv f] (wv (finN f)) := by
  have e : ∀ x, svEq x x := fun x ρ => rfl
  have hx := ref16_final_run f (rgN f) (rhN (rgN f)) (aN (rhN (rgN f))) (xxN (aN (rhN (rgN f)))) (rbN (aN (rhN (rgN f))) (xxN (aN (rhN (rgN f))))) (xxN (rbN (aN (rhN (rgN f))) (xxN (aN (rhN (rgN f)))))) (xxN (conj12 (xxN (rbN (aN (rhN (rgN f))) (xxN (aN (rhN (rgN f))))))))
    (rccN (rbN (aN (rhN (rgN f))) (xxN (aN (rhN (rgN f))))) (xxN (conj12 (xxN (rbN (aN (rhN (rgN f))) (xxN (aN (rhN (rgN f)))))))))
  refine pureN_of_run (forceT_ok TRf1_ok _) hx ?_ (vals1 f) (ref16_fin f)
  exact all_cons (e _) (all_cons (e _) (all_cons (e _) (all_appS (all_cons (by omega) (okW_ok (by decide +kernel))) (all_appS (all_cons (e _) obX_ok) (all_cons (e _) (all_appS (all_cons (e _) obX_ok) (all_appS (all_cons (e _) obX_ok) (all_cons (e _) all_nil))))))))
end Go.Proofs.YtcidhcielgnfdaaGreat
/-
  The law of powers that make pairings, with the document's answer: what it computes.
-/
namespace Go.Proofs.YtcidhcielgnfdaaGreat
open Go Go.Eng Go.RowKit Go.Wd Go.Alg Go.Pr

noncomputable def rowsLf : List Row := rowN1 7 finN :: rowsAw16
theorem rowsLf_ok : ∀ r ∈ rowsLf, RowOk Tryz.prog r := List.forall_mem_cons.2 ⟨rowN1_ok ref16_final, rowsAw16_ok⟩
noncomputable def TLf : CallT := tableT rowsLf
theorem TLf_ok : CallOk Tryz.prog TLf := tableT_ok rowsLf_ok
theorem pairingFinals_run (f : N12) : run1 TLf 3 [wN f] (allT 200) = some (vB true, [eqW (finN f) (finN f) true]) := by kernel_rfl
theorem pairingFinals_gives (f : N12) (_ : Sm f) (w : World) : Gives Tryz.prog 3 #[wv f] (.bool true) w :=
  gives_of_run1 TLf_ok (pairingFinals_run f) (all_cons (eqW_of rfl) all_nil) (vals1 f) val_true w
end Go.Proofs.YtcidhcielgnfdaaGreat
