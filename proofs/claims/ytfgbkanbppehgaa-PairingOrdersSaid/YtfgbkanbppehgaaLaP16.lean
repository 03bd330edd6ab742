/-
  The laws of chapter 16: what they compute.
-/
import Derived.Test.YtfgbkanbppehgaaAw16
import Derived.Test.YtfgbkanbppehgaaPd
import Derived.Test.YtfgbkanbppehgaaOpp
namespace Go.Proofs.Ytfgbkanbppehgaa
open Go Go.Eng Go.RowKit Go.Wd Go.Alg Go.Pr

/-! ### PairingNames -/
theorem pairingNames_run : run1 T16 3 [] (allT 200) = some (vB true, []) := by kernel_rfl
theorem pairingNames_gives (w : World) : Gives Try.prog 3 #[] (.bool true) w :=
  gives_of_run1 T16_ok pairingNames_run all_nil vals0 val_true w

/-! ### PairingRefuses -/
noncomputable def rowsRf (n : N12) (e : Int) (b c : Bool) : List Row := [rowK2 (kdP A1) (kdP A2) rsLoop 13 (fun _ _ => (n, e)) (fun p q => pairR p q = (n, e)),
  rowK1 (kdP A1) kdB.rs 19 (fun _ => b) (fun x => inB1 x = b), rowK1 (kdP A2) kdB.rs 20 (fun _ => c) (fun x => inB2 x = c)]
theorem rowsRf_ok (n : N12) (e : Int) (b c : Bool) : ∀ r ∈ rowsRf n e b c, RowOk Try.prog r := by
  simp only [rowsRf, List.forall_mem_cons, List.not_mem_nil, false_imp_iff, implies_true, and_true]
  exact ⟨rowK2_ok fun p q h => by rw [← h]; exact pairing_pair p q, rowK1_ok fun x hx => by rw [← hx]; exact sub_in1 x, rowK1_ok fun x hx => by rw [← hx]; exact sub_in2 x⟩
noncomputable def T16r (n : N12) (e : Int) (b c : Bool) : CallT := orT (tableT (rowsRf n e b c)) T16
theorem T16r_ok (n : N12) (e : Int) (b c : Bool) : CallOk Try.prog (T16r n e b c) := orT_ok (tableT_ok (rowsRf_ok n e b c)) T16_ok
theorem pairingRefuses_runT (p : P1) (q : P2) (n : N12) : run1 (T16r n 0 true true) 6 [wP p, wP q] [(32, false)] = some (vB true, [pairR p q = (n, 0), inB1 p = true, inB2 q = true, eqW n zN12 false]) := by kernel_rfl
theorem pairingRefuses_runF (p : P1) (q : P2) : run1 (T16r zN12 140 false true) 6 [wP p, wP q] [(32, true)] = some (vB true, [pairR p q = (zN12, 140), inB1 p = false, eqW zN12 zN12 true]) := by kernel_rfl
theorem pairingRefuses_runG (p : P1) (q : P2) : run1 (T16r zN12 140 true false) 6 [wP p, wP q] [(32, true)] = some (vB true, [pairR p q = (zN12, 140), inB1 p = true, inB2 q = false, eqW zN12 zN12 true]) := by kernel_rfl
/-- The pairing of points of order r. -/
theorem pairOk_κ {p : P1} {q : P2} (h1 : inB1 p = true) (h2 : inB2 q = true) : pairOk p q = κ12 (GF (milF (ιP1 p) (ιP2 q))) := by
  have t1 := (inB1_tor p).1 h1
  have t2 := (inB2_tor q).1 h2
  obtain ⟨a, pb⟩ := p
  obtain ⟨c, qb⟩ := q
  have on1 := inB1_onB h1
  have on2 := inB2_onB h2
  have hpq : (onB1 (a, pb) && onB2 (c, qb)) = true := by rw [on1, on2]; rfl
  cases pb with
  | true =>
    rw [pairOk_inf hpq rfl, show ιP1 (a, true) = .inf from rfl, pair_inf_left _ t2]
  | false => cases qb with
    | true =>
      rw [pairOk_inf hpq rfl, show ιP2 (c, true) = .inf from rfl, pair_inf_right _ t1]
    | false => exact pairOk_aff on1 on2
theorem pairR_κ {p : P1} {q : P2} (h1 : inB1 p = true) (h2 : inB2 q = true) : pairR p q = (κ12 (GF (milF (ιP1 p) (ιP2 q))), 0) := by rw [pairR_t h1 h2, pairOk_κ h1 h2]
theorem zN12_κ : zN12 = κ12 0 := by decide +kernel
theorem sm_zN12 : Sm zN12 := by rw [zN12_κ]; exact sm_κ12 _
theorem pairingRefuses_gives (p : P1) (_ : Sm p.1) (q : P2) (_ : Sm q.1) (w : World) : Gives Try.prog 6 #[wpv p, wpv q] (.bool true) w := by
  cases h1 : inB1 p with
  | false => exact gives_of_run1 (T16r_ok _ _ _ _) (pairingRefuses_runF p q) (all_cons (pairR_f (by rw [h1]; rfl)) (all_cons h1 (all_cons (eqW_of rfl) all_nil))) (valsPQ p q) val_true w
  | true =>
    cases h2 : inB2 q with
    | false => exact gives_of_run1 (T16r_ok _ _ _ _) (pairingRefuses_runG p q) (all_cons (pairR_f (by rw [h1, h2]; rfl)) (all_cons h1 (all_cons h2 (all_cons (eqW_of rfl) all_nil)))) (valsPQ p q) val_true w
    | true =>
      refine gives_of_run1 (T16r_ok _ _ _ _) (pairingRefuses_runT p q _) (all_cons (pairR_κ h1 h2) (all_cons h1 (all_cons h2 (all_cons (eqW_iff (sm_κ12 _) sm_zN12 (iff_f ?_)) all_nil)))) (valsPQ p q) val_true w
      rw [zN12_κ]
      intro e
      exact GF_ne (mil_ne_all ((inB1_tor p).1 h1) ((inB2_tor q).1 h2).on) (κ12_inj e)

/-! ### PairingLinear, PairingSums -/
noncomputable def T16m : CallT := orT (tableT (mul64Row :: add64Row :: rowsAw16)) (orT TP1 (orT TP2 (orT (rowSA 18 pow12) T16)))
theorem T16m_ok : CallOk Try.prog T16m := orT_ok (tableT_ok (List.forall_mem_cons.2 ⟨mul64_ok, List.forall_mem_cons.2 ⟨add64_ok, rowsAw16_ok⟩⟩)) (orT_ok TP1_ok (orT_ok TP2_ok (orT_ok fp12_pow_row T16_ok)))
def uS (k : Int) : AV := ⟨false, [.v (.int .u64 k)]⟩
theorem val_uS (ρ : Rho) (k : Int) : (uS k).val ρ = some (.int .u64 k) := AV.val_v (ρ := ρ) (x := .int .u64 k) rfl
def nS (k : Int) : Nat := numW [k] % pw 1
def uOk (k : Int) : Prop := 0 ≤ k ∧ k < 18446744073709551616
/-- What limb.Mul makes of two numbers of one word. -/
def lmHi (x y : Int) : Nat := x.toNat * y.toNat / 18446744073709551616
def lmLo (x y : Int) : Nat := x.toNat * y.toNat % 18446744073709551616
def lmS (x y : Int) : Nat := ((lmLo x y : Nat) : Int).toNat + (0 : Int).toNat + (0 : Int).toNat
def lmL (x y : Int) : Nat := lmS x y % 18446744073709551616
def lmT (x y : Int) : Nat := (0 : Int).toNat + ((lmL x y : Nat) : Int).toNat + (0 : Int).toNat
def lm0 (x y : Int) : Int := ((lmT x y % 18446744073709551616 : Nat) : Int)
def lm1' (x y : Int) : Int := IntKind.u64.wrap (IntKind.u64.wrap ((lmHi x y : Nat) + ((lmS x y / 18446744073709551616 : Nat) : Int)) + ((lmT x y / 18446744073709551616 : Nat) : Int))
def obLm (x y : Int) : List Prop := [0 ≤ x ∧ x < 18446744073709551616 ∧ 0 ≤ y ∧ y < 18446744073709551616, 0 ≤ ((lmLo x y : Nat) : Int) ∧ (0 : Int) ≤ 0 ∧ (0 : Int) ≤ 0 ∧ (0 : Int) ≤ 1,
  (0 : Int) ≤ 0 ∧ 0 ≤ ((lmL x y : Nat) : Int) ∧ (0 : Int) ≤ 0 ∧ (0 : Int) ≤ 1]
noncomputable def pLin (x y : Int) : N12 × Int := pairR (mulR1 base1 (nS x)).1 (mulR2 base2 (nS y)).1
theorem pairingLinear_run (x y : Int) : run1 T16m 7 [uS x, uS y] (allT 200) =
  some (vB true, [1 < 4294967296, uOk x, 1 < 4294967296, uOk y, (pLin x y).2 = 0 ↔ true = true, (pairR base1 base2).2 = 0 ↔ true = true] ++ obLm x y ++
    [2 < 4294967296, uOk (lm0 x y), uOk (lm1' x y), eqW (pLin x y).1 (pow12 (pairR base1 base2).1 (numW [lm0 x y, lm1' x y] % pw 2)) true]) := by kernel_rfl
theorem nS_eq {x : Int} (h : uOk x) : nS x = x.toNat := by
  unfold nS numW numW uOk at *
  have : pw 1 = 18446744073709551616 := by decide +kernel
  rw [this]
  omega
theorem lm_ok {x y : Int} (hx : uOk x) (hy : uOk y) : uOk (lm0 x y) ∧ uOk (lm1' x y) ∧ numW [lm0 x y, lm1' x y] % pw 2 = nS x * nS y ∧ (∀ p ∈ obLm x y, p) := by
  rw [nS_eq hx, nS_eq hy]
  unfold uOk at hx hy
  have hp : pw 2 = 18446744073709551616 * 18446744073709551616 := by decide +kernel
  obtain ⟨a, rfl⟩ := Int.eq_ofNat_of_zero_le hx.1
  obtain ⟨b, rfl⟩ := Int.eq_ofNat_of_zero_le hy.1
  have ha : a < 18446744073709551616 := by omega
  have hb : b < 18446744073709551616 := by omega
  have hhi : a * b / 18446744073709551616 < 18446744073709551616 := by
    rw [Nat.div_lt_iff_lt_mul (by omega)]
    exact Nat.lt_of_le_of_lt (Nat.mul_le_mul (Nat.le_of_lt_succ (Nat.lt_succ_of_lt ha)) (Nat.le_refl b)) (by omega)
  have hlo : a * b % 18446744073709551616 < 18446744073709551616 := Nat.mod_lt _ (by omega)
  have hab := Nat.div_add_mod (a * b) 18446744073709551616
  have e1 : lmHi a b = a * b / 18446744073709551616 := by unfold lmHi; simp
  have e2 : lmLo a b = a * b % 18446744073709551616 := by unfold lmLo; simp
  have e3 : lmS a b = a * b % 18446744073709551616 := by unfold lmS; rw [e2, Int.toNat_natCast]; rfl
  have e4 : lmL a b = a * b % 18446744073709551616 := by unfold lmL; rw [e3, Nat.mod_mod]
  have e5 : lmT a b = a * b % 18446744073709551616 := by unfold lmT; rw [e4, Int.toNat_natCast]; exact Nat.zero_add _
  generalize a * b / 18446744073709551616 = hi at *
  generalize a * b % 18446744073709551616 = lo at *
  have d0 : lo / 18446744073709551616 = 0 := Nat.div_eq_of_lt hlo
  have w1 : IntKind.u64.wrap (hi : Int) = (hi : Int) := wrap_nat (by omega)
  have e6 : lm0 a b = (lo : Int) := by unfold lm0; rw [e5, Nat.mod_eq_of_lt hlo]
  have e7 : lm1' a b = (hi : Int) := by
    unfold lm1'
    rw [e1, e3, e5, d0]
    have z : ((0 : Nat) : Int) = 0 := rfl
    rw [z, Int.add_zero, Int.add_zero, w1, w1]
  rw [e6, e7]
  refine ⟨⟨by omega, by omega⟩, ⟨by omega, by omega⟩, ?_, ?_⟩
  · simp only [numW, Int.toNat_natCast]
    rw [hp, ← hab, Nat.mod_eq_of_lt]
    · omega
    · have : hi * 18446744073709551616 ≤ 18446744073709551615 * 18446744073709551616 := Nat.mul_le_mul (by omega) (Nat.le_refl _)
      omega
  · unfold obLm
    refine all_cons ⟨by omega, by omega, by omega, by omega⟩ (all_cons ⟨by omega, by omega, by omega, by omega⟩ (all_cons ⟨by omega, by omega, by omega, by omega⟩ all_nil))
theorem mul1_in (n : Nat) : inB1 (mulR1 base1 n).1 = true := (inB1_tor _).2 (mul1_tor n)
theorem mul2_in (n : Nat) : inB2 (mulR2 base2 n).1 = true := (inB2_tor _).2 (mul2_tor n)
theorem ι_mul1 (n : Nat) : ιP1 (mulR1 base1 n).1 = smul n (ιP1 base1) := by rw [mulR1_on base1_on, fst1_1, ικP1]
theorem ι_mul2 (n : Nat) : ιP2 (mulR2 base2 n).1 = smul n (ιP2 base2) := by rw [mulR2_on base2_on, fst1_2, ικP2]
theorem pLin_eq (x y : Int) : pLin x y = (κ12 (pow (GF (milF (ιP1 base1) (ιP2 base2))) (nS x * nS y)), 0) := by
  unfold pLin
  rw [pairR_κ (mul1_in _) (mul2_in _), ι_mul1, ι_mul2, pair_base_smul]
theorem pairR_base : pairR base1 base2 = (κ12 (GF (milF (ιP1 base1) (ιP2 base2))), 0) := pairR_κ base1_in base2_in
theorem pairingLinear_gives (a : Int) (ha : 0 ≤ a ∧ a < 18446744073709551616) (b : Int) (hb : 0 ≤ b ∧ b < 18446744073709551616) (w : World) : Gives Try.prog 7 #[.int .u64 a, .int .u64 b] (.bool true) w := by
  obtain ⟨h0, h1, hn, hob⟩ := lm_ok (x := a) (y := b) ha hb
  refine gives_of_run1 T16m_ok (pairingLinear_run a b) ?_ (by simp only [vals, val_uS]) val_true w
  refine all_appS (all_appS (all_cons (by omega) (all_cons ha (all_cons (by omega) (all_cons hb (all_cons (iff_t (by rw [pLin_eq])) (all_cons (iff_t (by rw [pairR_base])) all_nil)))))) hob) (all_cons (by omega) (all_cons h0 (all_cons h1 (all_cons (eqW_of ?_) all_nil))))
  rw [hn, pLin_eq, pairR_base]
  unfold pow12
  rw [ικ12]

/-! ### PairingSums -/
noncomputable def pA (x : Int) : P1 := (mulR1 base1 (nS x)).1
noncomputable def qA (x : Int) : P2 := (mulR2 base2 (nS x)).1
noncomputable def sumA (x y : Int) : P1 := κP1 (padd (ιP1 (pA x)) (ιP1 (pA y)))
noncomputable def negA (x : Int) : P2 := κP2 (ιP2 (qA x)).neg
theorem pairingSums_run (x y z : Int) : run1 T16m 8 [uS x, uS y, uS z] (allT 200) =
  some (vB true, [1 < 4294967296, uOk x, 1 < 4294967296, uOk y, 1 < 4294967296, uOk z, (pairR (pA x) (qA z)).2 = 0 ↔ true = true, (pairR (pA y) (qA z)).2 = 0 ↔ true = true, (pairR (sumA x y) (qA z)).2 = 0 ↔ true = true, (pairR (pA x) (negA z)).2 = 0 ↔ true = true,
    eqW (pairR (sumA x y) (qA z)).1 (mul12 (pairR (pA x) (qA z)).1 (pairR (pA y) (qA z)).1) true, eqW (mul12 (pairR (pA x) (qA z)).1 (pairR (pA x) (negA z)).1) (κ12 1) true]) := by kernel_rfl
theorem pA_in (x : Int) : inB1 (pA x) = true := mul1_in _
theorem qA_in (x : Int) : inB2 (qA x) = true := mul2_in _
theorem ι_pA (x : Int) : ιP1 (pA x) = smul (nS x) (ιP1 base1) := ι_mul1 _
theorem ι_qA (x : Int) : ιP2 (qA x) = smul (nS x) (ιP2 base2) := ι_mul2 _
theorem pA_tor (x : Int) : Tor b1 rNum (ιP1 (pA x)) := (inB1_tor _).1 (pA_in x)
theorem sumA_in (x y : Int) : inB1 (sumA x y) = true := inB1_κ ((pA_tor x).add cv1 (pA_tor y))
theorem negA_in (x : Int) : inB2 (negA x) = true := inB2_κ (((inB2_tor _).1 (qA_in x)).neg cv2)
theorem qA_torQ (x : Int) : TorQ (ιP2 (qA x)) := by rw [ι_qA]; exact torQ_base _
theorem torQ_neg {Q : Pt F2} (h : TorQ Q) : TorQ Q.neg := ⟨h.toTor.neg cv2, by rw [smul_neg cv2 h.on, h.psi, psiP_neg]⟩
theorem mul12_κ (x y : F12) : mul12 (κ12 x) (κ12 y) = κ12 (x * y) := by unfold mul12; rw [ικ12, ικ12]
theorem pairingSums_gives (a : Int) (ha : 0 ≤ a ∧ a < 18446744073709551616) (b : Int) (hb : 0 ≤ b ∧ b < 18446744073709551616) (c : Int) (hc : 0 ≤ c ∧ c < 18446744073709551616) (w : World) :
    Gives Try.prog 8 #[.int .u64 a, .int .u64 b, .int .u64 c] (.bool true) w := by
  have e1 := pairR_κ (pA_in a) (qA_in c)
  have e2 := pairR_κ (pA_in b) (qA_in c)
  have e3 := pairR_κ (sumA_in a b) (qA_in c)
  have e4 := pairR_κ (pA_in a) (negA_in c)
  refine gives_of_run1 T16m_ok (pairingSums_run a b c) ?_ (by simp only [vals, val_uS]) val_true w
  refine all_cons (by omega) (all_cons ha (all_cons (by omega) (all_cons hb (all_cons (by omega) (all_cons hc (all_cons (iff_t (by rw [e1])) (all_cons (iff_t (by rw [e2])) (all_cons (iff_t (by rw [e3])) (all_cons (iff_t (by rw [e4])) (all_cons (eqW_of ?_) (all_cons (eqW_of ?_) all_nil)))))))))))
  · rw [e1, e2, e3, mul12_κ]
    unfold sumA
    rw [ικP1, pair_add_left (pA_tor a) (pA_tor b) (qA_torQ c)]
  · rw [e1, e4, mul12_κ]
    unfold negA
    rw [ικP2, ← pair_add_right (pA_tor a) (qA_torQ c) (torQ_neg (qA_torQ c)), add_neg_pt cv2, pair_inf_right _ (pA_tor a)]

/-! ### PairingOrders -/
def flatN (k : N2) : N12 := ((k, (0, 0), (0, 0)), ((0, 0), (0, 0), (0, 0)))
noncomputable def obOr (f g : N12) : Prop := eqW (finN (mul12 f g)) (mul12 (finN f) (finN g)) true
theorem pairingOrders_runTT (f g : N12) (k : N2) : run1 T16m 5 [wN f, wN g, wN k] [(28, true), (32, true), (50, true), (61, true), (68, true)] =
  some (vB true, [eqW (red12 f) zN12 true, eqW (finN f) zN12 true, eqW (red12 (flatN k)) zN12 true, obOr f g, eqW (finN (flatN k)) zN12 true]) := by kernel_rfl
theorem pairingOrders_runTF (f g : N12) (k : N2) : run1 T16m 5 [wN f, wN g, wN k] [(28, true), (32, true), (50, false), (61, true), (76, true)] =
  some (vB true, [eqW (red12 f) zN12 true, eqW (finN f) zN12 true, eqW (red12 (flatN k)) zN12 false, obOr f g, eqW (finN (flatN k)) (κ12 1) true]) := by kernel_rfl
noncomputable def T16o (x y z : N12) : CallT := forceT T16m [(26, sv12 x), (74, sv12 z), (77, sv12 y)]
theorem T16o_ok (x y z : N12) : CallOk Try.prog (T16o x y z) := forceT_ok T16m_ok _
def obFr (f x : N12) : List Prop := [eqW (red12 f) zN12 false, eqW x zN12 false] ++ ((4 < 4294967296) :: okW rWs)
theorem pairingOrders_runFT (f g x y z : N12) (k : N2) : run1 (T16o x y z) 5 [wN f, wN g, wN k] [(28, false), (32, false), (42, true), (50, true), (61, true), (68, true)] =
  some (vB true, svEq (finN f) x :: obFr f x ++ [eqW (pow12 x (numW rWs % pw 4)) (κ12 1) true, eqW (red12 (flatN k)) zN12 true, svEq (finN (mul12 f g)) z, svEq (finN g) y, eqW z (mul12 x y) true, eqW (finN (flatN k)) zN12 true]) := by kernel_rfl
theorem pairingOrders_runFF (f g x y z : N12) (k : N2) : run1 (T16o x y z) 5 [wN f, wN g, wN k] [(28, false), (32, false), (42, true), (50, false), (61, true), (76, true)] =
  some (vB true, svEq (finN f) x :: obFr f x ++ [eqW (pow12 x (numW rWs % pw 4)) (κ12 1) true, eqW (red12 (flatN k)) zN12 false, svEq (finN (mul12 f g)) z, svEq (finN g) y, eqW z (mul12 x y) true, eqW (finN (flatN k)) (κ12 1) true]) := by kernel_rfl
theorem red12_z {f : N12} : red12 f = zN12 ↔ ι12 f = 0 := by
  unfold red12
  rw [zN12_κ]
  exact ⟨fun h => κ12_inj h, fun h => by rw [h]⟩
theorem finN_z {f : N12} : finN f = zN12 ↔ ι12 f = 0 := by
  rw [finN_eq, zN12_κ]
  refine ⟨fun h => Classical.byContradiction fun h0 => finF_ne h0 (κ12_inj h), fun h => by rw [h, finF_zero]⟩
theorem ι_flat (k : N2) : (ι12 (flatN k)).b = 0 := by
  show ι6 ((0, 0), (0, 0), (0, 0)) = 0
  exact κ6_inj (by decide +kernel)
theorem finN_flat {k : N2} (h : ι12 (flatN k) ≠ 0) : finN (flatN k) = κ12 1 := by rw [finN_eq, finF_flat (ι_flat k) h]
theorem sm_red (f : N12) : Sm (red12 f) := sm_κ12 _
theorem sm_fin (f : N12) : Sm (finN f) := by rw [finN_eq]; exact sm_κ12 _
theorem obOr_ok (f g : N12) : obOr f g := by
  refine eqW_of ?_
  rw [finN_eq, finN_eq, finN_eq, mul12_κ]
  unfold mul12
  rw [ικ12, finF_mul]
theorem fin_pow_r {f : N12} (h : ι12 f ≠ 0) : pow12 (finN f) (numW rWs % pw 4) = κ12 1 := by
  rw [rWs_num, finN_eq]
  unfold pow12
  rw [ικ12]
  exact congrArg κ12 (finF_r h)
theorem pairingOrders_gives (f : N12) (_ : Sm f) (g : N12) (_ : Sm g) (k : N2) (_ : Sm k) (w : World) : Gives Try.prog 5 #[wv f, wv g, wv k] (.bool true) w := by
  have hr : ∀ p ∈ ((4 < 4294967296) :: okW rWs), p := all_cons (by omega) (okW_ok (by decide +kernel))
  have zt : ∀ {f : N12}, ι12 f = 0 → eqW (red12 f) zN12 true := fun h => eqW_of (red12_z.2 h)
  have zf : ∀ {f : N12}, ι12 f ≠ 0 → eqW (red12 f) zN12 false := fun h => eqW_iff (sm_red _) sm_zN12 (iff_f fun e => h (red12_z.1 e))
  have nt : ∀ {f : N12}, ι12 f = 0 → eqW (finN f) zN12 true := fun h => eqW_of (finN_z.2 h)
  have nf : ∀ {f : N12}, ι12 f ≠ 0 → eqW (finN f) zN12 false := fun h => eqW_iff (sm_fin _) sm_zN12 (iff_f fun e => h (finN_z.1 e))
  by_cases h : ι12 f = 0
  · by_cases hk : ι12 (flatN k) = 0
    · exact gives_of_run1 T16m_ok (pairingOrders_runTT f g k) (all_cons (zt h) (all_cons (nt h) (all_cons (zt hk) (all_cons (obOr_ok f g) (all_cons (nt hk) all_nil))))) (vals3 f g k) val_true w
    · exact gives_of_run1 T16m_ok (pairingOrders_runTF f g k) (all_cons (zt h) (all_cons (nt h) (all_cons (zf hk) (all_cons (obOr_ok f g) (all_cons (eqW_of (finN_flat hk)) all_nil))))) (vals3 f g k) val_true w
  · by_cases hk : ι12 (flatN k) = 0
    · exact gives_of_run1 (T16o_ok _ _ _) (pairingOrders_runFT f g (finN f) (finN g) (finN (mul12 f g)) k) (all_cons (fun ρ => rfl) (all_appS (all_appS (all_cons (zf h) (all_cons (nf h) all_nil)) hr) (all_cons (eqW_of (fin_pow_r h)) (all_cons (zt hk) (all_cons (fun ρ => rfl) (all_cons (fun ρ => rfl) (all_cons (obOr_ok f g) (all_cons (nt hk) all_nil)))))))) (vals3 f g k) val_true w
    · exact gives_of_run1 (T16o_ok _ _ _) (pairingOrders_runFF f g (finN f) (finN g) (finN (mul12 f g)) k) (all_cons (fun ρ => rfl) (all_appS (all_appS (all_cons (zf h) (all_cons (nf h) all_nil)) hr) (all_cons (eqW_of (fin_pow_r h)) (all_cons (zf hk) (all_cons (fun ρ => rfl) (all_cons (fun ρ => rfl) (all_cons (obOr_ok f g) (all_cons (eqW_of (finN_flat hk)) all_nil)))))))) (vals3 f g k) val_true w

/-! ### PairingProducts -/
end Go.Proofs.Ytfgbkanbppehgaa
