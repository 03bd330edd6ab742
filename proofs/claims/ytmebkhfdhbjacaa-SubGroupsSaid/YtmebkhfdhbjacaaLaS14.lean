/-
  The laws of chapter 14, those on images, on what is cleared, on sums of points of order r: what they compute.
-/
import Derived.Test.YtmebkhfdhbjacaaAw14
import Derived.Test.YtmebkhfdhbjacaaOpp
namespace Go.Proofs.Ytmebkhfdhbjacaa
open Go Go.Eng Go.RowKit Go.Wd Go.Alg Go.Pr

theorem iff_tS {p : Prop} (h : p) : p ↔ true = true := iff_t h
/-! ### SubCurves -/
noncomputable def rowsO14 (b c : Bool) : List Row := [rowK1 (kdP A1) kdB.rs 46 (fun _ => b) (fun x => onB1 x = b), rowK1 (kdP A2) kdB.rs 32 (fun _ => c) (fun x => onB2 x = c)]
theorem rowsO14_ok (b c : Bool) : ∀ r ∈ rowsO14 b c, RowOk Try.prog r := by
  simp only [rowsO14, List.forall_mem_cons, List.not_mem_nil, false_imp_iff, implies_true, and_true]
  exact ⟨rowK1_ok fun x hx => by rw [← hx]; exact g1_on x, rowK1_ok fun x hx => by rw [← hx]; exact g2_on x⟩
noncomputable def T14o (b c : Bool) : CallT := orT (tableT (rowsO14 b c)) T14
theorem T14o_ok (b c : Bool) : CallOk Try.prog (T14o b c) := orT_ok (tableT_ok (rowsO14_ok b c)) T14_ok
theorem subCurves_run (p : P1) (q : P2) : ∀ b c : Bool, run1 (T14o b c) 12 [wP p, wP q] (allT 200) =
    some (vB true, [onB1 (phiN p) = b, onB1 p = b, onB2 (psiN q) = c, onB2 q = c, eqP' (phiN (phiN (phiN p))) (κP1 (ιP1 p)) true])
  | true, true => by kernel_rfl
  | true, false => by kernel_rfl
  | false, true => by kernel_rfl
  | false, false => by kernel_rfl
theorem valsS2 (p : P1) (q : P2) : vals rho0 [wP p, wP q] = some [wpv p, wpv q] := by simp only [vals, val_wP]
theorem phi3 (p : Pt F) : phiP (phiP (phiP p)) = p := by
  cases p with
  | inf => rfl
  | aff x y =>
    show Pt.aff (x * φ betaN * φ betaN * φ betaN) y = .aff x y
    have h : φ betaN * φ betaN * φ betaN = 1 := κF1_inj (by decide +kernel)
    rw [show x * φ betaN * φ betaN * φ betaN = x * (φ betaN * φ betaN * φ betaN) from ident (env [x, φ betaN]) (v0 * v1 * v1 * v1) (v0 * (v1 * v1 * v1)) (by decide +kernel), h, mul_one]
theorem subCurves_gives (p : P1) (_ : Sm p.1) (q : P2) (_ : Sm q.1) (w : World) : Gives Try.prog 12 #[wpv p, wpv q] (.bool true) w := by
  refine gives_of_run1 (T14o_ok _ _) (subCurves_run p q (onB1 p) (onB2 q)) ?_ (valsS2 p q) val_true w
  refine all_cons (onB1_phi p) (all_cons rfl (all_cons (onB2_psi q) (all_cons rfl (all_cons (eqP_of ?_) all_nil))))
  show κP1 (phiP (ιP1 (phiN (phiN p)))) = _
  rw [ιphiN, ιphiN, phi3]

/-! ### SubClears -/
noncomputable def T14r : CallT := orT T14 (rowSB (kdP A2) rsM2 90 mulR2)
theorem T14r_ok : CallOk Try.prog T14r := orT_ok T14_ok rg2_mul_row
theorem subClears_run (q : P2) : run1 T14r 17 [wP q] (allT 200) =
  some (vB true, (10 < 4294967296) :: okW c2Ws ++ [eqP' (clr2 q).1 (mulR2 q (numW c2Ws % pw 10)).1 true, (clr2 q).2 = (mulR2 q (numW c2Ws % pw 10)).2 ↔ true = true]) := by kernel_rfl
theorem subClears_gives (q : P2) (_ : Sm q.1) (w : World) : Gives Try.prog 17 #[wpv q] (.bool true) w := by
  have e : mulR2 q (numW c2Ws % pw 10) = clr2 q := by rw [c2Ws_num]; rfl
  refine gives_of_run1 T14r_ok (subClears_run q) (all_appS (all_cons (by omega) (okW_ok (by decide +kernel))) (all_cons (eqP_of ?_) (all_cons (iff_t ?_) all_nil))) (valsC1 (kdP A2) q) val_true w
  · rw [e]
  · rw [e]

/-! ### SubGroups -/
noncomputable def rowsI14 : List Row := [rowK1 (kdP A1) kdB.rs 53 (fun _ => true) (fun x => inB1 x = true), rowK1 (kdP A2) kdB.rs 54 (fun _ => true) (fun x => inB2 x = true)]
theorem rowsI14_ok : ∀ r ∈ rowsI14, RowOk Try.prog r := by
  simp only [rowsI14, List.forall_mem_cons, List.not_mem_nil, false_imp_iff, implies_true, and_true]
  exact ⟨rowK1_ok fun x hx => by rw [← hx]; exact sub_in1 x, rowK1_ok fun x hx => by rw [← hx]; exact sub_in2 x⟩
noncomputable def T14i : CallT := orT (tableT rowsI14) T14
theorem T14i_ok : CallOk Try.prog T14i := orT_ok (tableT_ok rowsI14_ok) T14_ok
def uS (k : Int) : AV := ⟨false, [.v (.int .u64 k)]⟩
theorem val_uS (ρ : Rho) (k : Int) : (uS k).val ρ = some (.int .u64 k) := AV.val_v (ρ := ρ) (x := .int .u64 k) rfl
def nS (k : Int) : Nat := numW [k] % pw 1
def nS2 (k l : Int) : Nat := numW [k, l] % pw 2
def uOk (k : Int) : Prop := 0 ≤ k ∧ k < 18446744073709551616
theorem subGroups_run (a b k : Int) : run1 T14i 15 [uS a, uS b, uS k] (allT 200) =
  some (vB true, [1 < 4294967296, uOk a, 1 < 4294967296, uOk b, 1 < 4294967296, uOk a, 2 < 4294967296, uOk b, uOk k,
    inB1 (κP1 (padd (ιP1 (mulR1 base1 (nS a)).1) (ιP1 (mulR1 base1 (nS b)).1))) = true, inB1 (κP1 (ιP1 (mulR1 base1 (nS a)).1).neg) = true,
    inB2 (κP2 (padd (ιP2 (mulR2 base2 (nS a)).1) (ιP2 (mulR2 base2 (nS2 b k)).1))) = true, inB2 (κP2 (ιP2 (mulR2 base2 (nS2 b k)).1).neg) = true,
    (mulR1 base1 (nS a)).2 = 0 ↔ true = true, (mulR1 base1 (nS b)).2 = 0 ↔ true = true, (mulR2 base2 (nS a)).2 = 0 ↔ true = true, (mulR2 base2 (nS2 b k)).2 = 0 ↔ true = true]) := by kernel_rfl
section
variable {K : Type} [CRing K] [IsField K] {b : K}
/-- A point of the curve, of order r. -/
structure Tor (b : K) (r : Nat) (p : Pt K) : Prop where
  on : On b p
  tor : smul r p = .inf
theorem Tor.add (C : Cv K b) {r : Nat} {p q : Pt K} (hp : Tor b r p) (hq : Tor b r q) : Tor b r (padd p q) := ⟨on_add C hp.on hq.on, by rw [smul_distr C hp.on hq.on, hp.tor, hq.tor]; rfl⟩
theorem Tor.smul (C : Cv K b) {r : Nat} {p : Pt K} (hp : Tor b r p) (n : Nat) : Tor b r (Alg.smul n p) := ⟨on_smul C hp.on n, by rw [← smul_mul C hp.on, Nat.mul_comm, smul_mul C hp.on, hp.tor, smul_inf]⟩
theorem Tor.neg (C : Cv K b) {r : Nat} {p : Pt K} (hp : Tor b r p) : Tor b r p.neg := ⟨on_neg hp.on, by rw [smul_neg C hp.on, hp.tor]; rfl⟩
end
section
variable {K : Type} [CRing K] {b : K}
theorem Tor.inf {r : Nat} : Tor b r .inf := ⟨trivial, smul_inf r⟩
end
theorem inB1_tor (p : P1) : inB1 p = true ↔ Tor b1 rNum (ιP1 p) := (inB1_iff p).trans ⟨fun h => ⟨h.1, h.2⟩, fun h => ⟨h.1, h.2⟩⟩
theorem inB2_tor (p : P2) : inB2 p = true ↔ Tor b2 rNum (ιP2 p) := (inB2_iff p).trans ⟨fun h => ⟨h.1, h.2⟩, fun h => ⟨h.1, h.2⟩⟩
theorem base1_tor : Tor b1 rNum (ιP1 base1) := ⟨base1_On, base1_r⟩
theorem base2_tor : Tor b2 rNum (ιP2 base2) := ⟨base2_On, base2_r⟩
theorem mul1_tor (n : Nat) : Tor b1 rNum (ιP1 (mulR1 base1 n).1) := by
  rw [mulR1_on base1_on, fst1_1, ικP1]; exact base1_tor.smul cv1 n
theorem mul2_tor (n : Nat) : Tor b2 rNum (ιP2 (mulR2 base2 n).1) := by
  rw [mulR2_on base2_on, fst1_2, ικP2]; exact base2_tor.smul cv2 n
theorem mul1_e (n : Nat) : (mulR1 base1 n).2 = 0 := by rw [mulR1_on base1_on, snd1_1]
theorem mul2_e (n : Nat) : (mulR2 base2 n).2 = 0 := by rw [mulR2_on base2_on, snd1_2]
theorem inB1_κ {p : Pt F} (h : Tor b1 rNum p) : inB1 (κP1 p) = true := (inB1_tor _).2 (by rw [ικP1]; exact h)
theorem inB2_κ {p : Pt F2} (h : Tor b2 rNum p) : inB2 (κP2 p) = true := (inB2_tor _).2 (by rw [ικP2]; exact h)
theorem subGroups_gives (a : Int) (ha : 0 ≤ a ∧ a < 18446744073709551616) (b : Int) (hb : 0 ≤ b ∧ b < 18446744073709551616) (k : Int) (hk : 0 ≤ k ∧ k < 18446744073709551616) (w : World) :
    Gives Try.prog 15 #[.int .u64 a, .int .u64 b, .int .u64 k] (.bool true) w := by
  refine gives_of_run1 T14i_ok (subGroups_run a b k) ?_ (by simp only [vals, val_uS]) val_true w
  refine all_cons (by omega) (all_cons ha (all_cons (by omega) (all_cons hb (all_cons (by omega) (all_cons ha (all_cons (by omega) (all_cons hb (all_cons hk ?_))))))))
  refine all_cons (inB1_κ ((mul1_tor _).add cv1 (mul1_tor _))) (all_cons (inB1_κ ((mul1_tor _).neg cv1)) (all_cons (inB2_κ ((mul2_tor _).add cv2 (mul2_tor _))) (all_cons (inB2_κ ((mul2_tor _).neg cv2)) ?_)))
  exact all_cons (iff_t (mul1_e _)) (all_cons (iff_t (mul1_e _)) (all_cons (iff_t (mul2_e _)) (all_cons (iff_t (mul2_e _)) all_nil)))
end Go.Proofs.Ytmebkhfdhbjacaa
