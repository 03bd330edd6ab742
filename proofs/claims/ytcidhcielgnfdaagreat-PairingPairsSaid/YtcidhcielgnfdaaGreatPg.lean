/-
  The power that makes pairings: the row of the program's pairing.Final.
-/
import Derived.Test.YtcidhcielgnfdaaGreatSb
import Derived.Test.YtcidhcielgnfdaaGreatMl
import Derived.Test.YtcidhcielgnfdaaGreatFrP
namespace Go.Proofs.YtcidhcielgnfdaaGreat
open Go Go.Eng Go.RowKit Go.Wd Go.Alg Go.Pr

noncomputable def rowsPg0 : List Row := rowNI 17 fr12 :: rows065
theorem rowsPg0_ok : ∀ r ∈ rowsPg0, RowOk Tryz.prog r := by
  simp only [rowsPg0, List.forall_mem_cons]
  exact ⟨rowNI_ok frob12_pure, rows065_ok⟩
noncomputable def TPg0 : CallT := orT (tableT rowsPg0) (rowSA 19 pow12)
theorem TPg0_ok : CallOk Tryz.prog TPg0 := orT_ok (tableT_ok rowsPg0_ok) fp12_pow_row
def oneT : N12 := (((1, 0), (0, 0), (0, 0)), ((0, 0), (0, 0), (0, 0)))
theorem oneT_eq : oneT = κ12 1 := by decide +kernel
def hardWs : List Int := [10088250816726084267, 4137836090706223446]
def xWs : List Int := [15132376222941642752]
noncomputable def xxN (z : N12) : N12 := pow12 z (numW xWs % pw 1)
def sv12 (x : N12) : SV := .one (wN x)
/-- Two rows are one. -/
def svEq (x y : N12) : Prop := ∀ ρ, (sv12 x).val ρ = (sv12 y).val ρ
noncomputable def gN (f : N12) : N12 := mul12 (mul12 oneT (conj12 f)) (inve12 f)
noncomputable def hN (g : N12) : N12 := mul12 (mul12 oneT (fr12 g 2)) g
noncomputable def aN (h : N12) : N12 := pow12 h (numW hardWs % pw 2)
noncomputable def bN12 (a a1 : N12) : N12 := mul12 (mul12 oneT (conj12 a1)) (fr12 a 1)
noncomputable def ccN (b b2 : N12) : N12 := mul12 (mul12 (mul12 oneT b2) (fr12 b 2)) (conj12 b)
noncomputable def dlN (c h : N12) : N12 := mul12 (mul12 oneT c) h
noncomputable def baN (a : N12) : N12 := bN12 a (xxN a)
noncomputable def cbN (b : N12) : N12 := ccN b (xxN (xxN b))
/-- The power that makes pairings. -/
noncomputable def finN (f : N12) : N12 := dlN (cbN (baN (aN (hN (gN f))))) (hN (gN f))
def obX : List Prop := (1 < 4294967296) :: okW xWs
theorem obX_ok : ∀ p ∈ obX, p := all_cons (by omega) (okW_ok (by decide +kernel))
noncomputable def forcedFin (g h a a1 b b1 b2 c : N12) : List (Nat × SV) := [(24117276, sv12 g), (31457308, sv12 h), (36, sv12 a), (42991620, sv12 a1), (48234524, sv12 b), (54525956, sv12 b1), (55574532, sv12 b2), (61866023, sv12 c)]
theorem final_run (f g h a a1 b b1 b2 c : N12) : run1 (forceT TPg0 (forcedFin g h a a1 b b1 b2 c)) 6 [wN f] [] =
    some (sv12 (dlN c h), svEq (gN f) g :: svEq (hN g) h :: svEq (aN h) a :: (2 < 4294967296) :: okW hardWs ++ (svEq (xxN a) a1 :: obX ++ (svEq (bN12 a a1) b :: (svEq (xxN b) b1 :: obX ++ (svEq (xxN b1) b2 :: obX ++ [svEq (ccN b b2) c]))))) := by kernel_rfl
theorem pairing_final (f : N12) : Pure Tryz.prog 6 [wv f] (wv (finN f)) := by
  have e : ∀ x, svEq x x := fun x ρ => rfl
  refine pureN_of_run (forceT_ok TPg0_ok _) (final_run f (gN f) (hN (gN f)) (aN (hN (gN f))) (xxN (aN (hN (gN f)))) (baN (aN (hN (gN f)))) (xxN (baN (aN (hN (gN f))))) (xxN (xxN (baN (aN (hN (gN f)))))) (cbN (baN (aN (hN (gN f)))))) ?_ (vals1 f) rfl
  exact all_cons (e _) (all_cons (e _) (all_cons (e _) (all_appS (all_cons (by omega) (okW_ok (by decide +kernel))) (all_appS (all_cons (e _) obX_ok) (all_cons (e _) (all_appS (all_cons (e _) obX_ok) (all_appS (all_cons (e _) obX_ok) (all_cons (e _) all_nil))))))))

/-! ### Pair -/
noncomputable def rowsPg1 (b c : Bool) : List Row := [rowN1 6 finN, rowK1 (kdP A1) kdB.rs 29 (fun _ => b) (fun x => inB1 x = b), rowK1 (kdP A2) kdB.rs 30 (fun _ => c) (fun x => inB2 x = c)]
theorem rowsPg1_ok (b c : Bool) : ∀ r ∈ rowsPg1 b c, RowOk Tryz.prog r := by
  simp only [rowsPg1, List.forall_mem_cons, List.not_mem_nil, false_imp_iff, implies_true, and_true]
  exact ⟨rowN1_ok pairing_final, rowK1_ok fun x hx => by rw [← hx]; exact sub_in1 x, rowK1_ok fun x hx => by rw [← hx]; exact sub_in2 x⟩
noncomputable def TPg1 (b c : Bool) : CallT := orT (tableT (rowsPg1 b c)) TMi
theorem TPg1_ok (b c : Bool) : CallOk Tryz.prog (TPg1 b c) := orT_ok (tableT_ok (rowsPg1_ok b c)) TMi_ok
noncomputable def pairOk (p : P1) (q : P2) : N12 := finN (mul12 (mul12 oneT oneT) (loopR p q).1)
noncomputable def pairR (p : P1) (q : P2) : N12 × Int := match inB1 p && inB2 q with
  | true => (pairOk p q, 0)
  | false => (zN12, 140)
theorem pair_runT (p : P1) (q : P2) : run1 (TPg1 true true) 8 [wP p, wP q] [] = some (rsLoop.sv (pairOk p q, 0), [inB1 p = true, inB2 q = true]) := by kernel_rfl
theorem pair_runF (p : P1) (q : P2) (c : Bool) : run1 (TPg1 false c) 8 [wP p, wP q] [] = some (rsLoop.sv (zN12, 140), [inB1 p = false]) := by kernel_rfl
theorem pair_runG (p : P1) (q : P2) : run1 (TPg1 true false) 8 [wP p, wP q] [] = some (rsLoop.sv (zN12, 140), [inB1 p = true, inB2 q = false]) := by kernel_rfl
theorem pairR_t {p : P1} {q : P2} (h1 : inB1 p = true) (h2 : inB2 q = true) : pairR p q = (pairOk p q, 0) := by unfold pairR; rw [h1, h2]; rfl
theorem pairR_f {p : P1} {q : P2} (h : (inB1 p && inB2 q) = false) : pairR p q = (zN12, 140) := by unfold pairR; rw [h]
theorem pairing_pair (p : P1) (q : P2) : Pure Tryz.prog 8 [wpv p, wpv q] (rsLoop.vl (pairR p q)) := by
  cases h1 : inB1 p with
  | false => exact pureC_of_run (TPg1_ok false true) rsLoop (pair_runF p q true) (one_mem h1) (valsPQ p q) (pairR_f (by rw [h1]; rfl)).symm
  | true =>
    cases h2 : inB2 q with
    | false => exact pureC_of_run (TPg1_ok true false) rsLoop (pair_runG p q) (all_cons h1 (all_cons h2 all_nil)) (valsPQ p q) (pairR_f (by rw [h1, h2]; rfl)).symm
    | true => exact pureC_of_run (TPg1_ok true true) rsLoop (pair_runT p q) (all_cons h1 (all_cons h2 all_nil)) (valsPQ p q) (pairR_t h1 h2).symm
end Go.Proofs.YtcidhcielgnfdaaGreat
