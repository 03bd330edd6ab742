/-
  The head of the laws of chapter 16: true.
-/
import Derived.Test.YtcidhcielgnfdaaGreatPg
import Derived.Test.YtcidhcielgnfdaaGreatPb
import Derived.Test.YtcidhcielgnfdaaGreatAw7
namespace Go.Proofs.YtcidhcielgnfdaaGreat
open Go Go.Eng Go.RowKit Go.Wd Go.Alg Go.Pr

/-! ### what the numbers stand for -/
theorem ι_oneT : ι12 oneT = 1 := by rw [oneT_eq, ικ12]
theorem ι_mulT (x : N12) : mul12 oneT x = κ12 (ι12 x) := by unfold mul12; rw [ι_oneT, one_mul]
theorem hard_num : numW hardWs % pw 2 = hardP := by decide +kernel
theorem x_num : numW xWs % pw 1 = xP := by decide +kernel
theorem ι_gN (f : N12) : ι12 (gN f) = gF (ι12 f) := by unfold gN gF; rw [ι_mulT]; unfold mul12 conj12 inve12; rw [ικ12, ικ12, ικ12, ικ12]
theorem fr12_nat (x : N12) (n : Nat) : fr12 x (n : Int) = κ12 (σn n (ι12 x)) := by unfold fr12; rw [σI_nat]
theorem ι_hN (g : N12) : ι12 (hN g) = hF12 (ι12 g) := by
  unfold hN hF12
  rw [ι_mulT, show (2 : Int) = ((2 : Nat) : Int) from rfl, fr12_nat]
  unfold mul12
  rw [ικ12, ικ12, ικ12]
theorem ι_aN (h : N12) : ι12 (aN h) = pow (ι12 h) hardP := by unfold aN pow12; rw [hard_num, ικ12]
theorem ι_xxN (z : N12) : ι12 (xxN z) = xxF (ι12 z) := by unfold xxN pow12 xxF; rw [x_num, ικ12]
theorem ι_baN (a : N12) : ι12 (baN a) = bF (ι12 a) := by
  unfold baN bN12 bF
  rw [ι_mulT, show (1 : Int) = ((1 : Nat) : Int) from rfl, fr12_nat]
  unfold mul12 conj12
  rw [ικ12, ικ12, ικ12, ικ12, ι_xxN]
theorem ι_cbN (b : N12) : ι12 (cbN b) = cF (ι12 b) := by
  unfold cbN ccN cF
  rw [ι_mulT, show (2 : Int) = ((2 : Nat) : Int) from rfl, fr12_nat]
  unfold mul12 conj12
  rw [ικ12, ικ12, ικ12, ικ12, ικ12, ι_xxN, ι_xxN]
theorem dlN_eq (c h : N12) : dlN c h = κ12 (ι12 c * ι12 h) := by
  unfold dlN
  rw [ι_mulT]
  unfold mul12
  rw [ικ12]
theorem finN_eq (f : N12) : finN f = κ12 (finF (ι12 f)) := by
  unfold finN finF
  rw [dlN_eq, ι_cbN, ι_baN, ι_aN, ι_hN, ι_gN]
theorem mulTT (x : N12) : mul12 (mul12 oneT oneT) x = κ12 (ι12 x) := by
  rw [ι_mulT, ι_oneT]
  unfold mul12
  rw [ικ12, one_mul]
theorem pairOk_eq (p : P1) (q : P2) : pairOk p q = κ12 (finF (ι12 (loopR p q).1)) := by unfold pairOk; rw [finN_eq, mulTT, ικ12]
theorem loopR_on {p : A1} {q : A2} (hp : onB1 (p, false) = true) (hq : onB2 (q, false) = true) : ι12 (loopR (p, false) (q, false)).1 = (milF (ιP1 (p, false)) (ιP2 (q, false))).conj := by
  rw [loopR_t hp hq]
  show ι12 (conj12 (loopM (p, false) (q, false)).1) = _
  unfold conj12
  rw [ικ12, ι_loopM]
/-- The pairing of two points that are not infinity. -/
theorem pairOk_aff {p : A1} {q : A2} (hp : onB1 (p, false) = true) (hq : onB2 (q, false) = true) : pairOk (p, false) (q, false) = κ12 (GF (milF (ιP1 (p, false)) (ιP2 (q, false)))) := by
  rw [pairOk_eq, loopR_on hp hq]; rfl
theorem finF_one : finF 1 = 1 := finF_flat rfl one_ne_zero
theorem pairOk_inf {p : P1} {q : P2} (h : (onB1 p && onB2 q) = true) (k : (p.2 || q.2) = true) : pairOk p q = κ12 1 := by
  rw [pairOk_eq, loopR_i h k]
  show κ12 (finF (ι12 (κ12 1))) = _
  rw [ικ12, finF_one]
theorem finN_oneT : finN oneT = κ12 1 := by rw [finN_eq, ι_oneT, finF_one]
theorem inB1_onB {p : P1} (h : inB1 p = true) : onB1 p = true := (onB1_iff p).2 ((inB1_iff p).1 h).1
theorem inB2_onB {p : P2} (h : inB2 p = true) : onB2 p = true := (onB2_iff p).2 ((inB2_iff p).1 h).1
theorem none1_in : inB1 noneP1 = true := (inB1_iff _).2 ⟨(onB1_iff _).1 none1_on, none1_r⟩
theorem zero1_out : inB1 zP1 = false := by
  cases h : inB1 zP1 with
  | false => rfl
  | true => have := inB1_onB h; rw [zero1_off] at this; cases this
/-- The pairing of two points is never 0. -/
theorem pairOk_ne {p : P1} {q : P2} (h1 : inB1 p = true) (h2 : inB2 q = true) (hm : ∀ (a : A1) (c : A2), p = (a, false) → q = (c, false) → milF (ιP1 p) (ιP2 q) ≠ 0) : pairOk p q ≠ zN12 := by
  have hz : zN12 = κ12 0 := by decide +kernel
  have ho : κ12 1 ≠ κ12 0 := by decide +kernel
  obtain ⟨a, pb⟩ := p
  obtain ⟨c, qb⟩ := q
  have on1 := inB1_onB h1
  have on2 := inB2_onB h2
  have hpq : (onB1 (a, pb) && onB2 (c, qb)) = true := by rw [on1, on2]; rfl
  cases pb with
  | true => rw [pairOk_inf hpq rfl, hz]; exact ho
  | false => cases qb with
    | true => rw [pairOk_inf hpq rfl, hz]; exact ho
    | false =>
      rw [pairOk_aff on1 on2, hz]
      intro e
      have := congrArg ι12 e
      rw [ικ12, ικ12] at this
      exact GF_ne (hm a c rfl rfl) this
theorem pair_base : pairR base1 base2 = (κ12 (ι12 eLit), 0) := by
  rw [pairR_t base1_in base2_in]
  have := pairOk_aff (p := base1.1) (q := base2.1) base1_on base2_on
  rw [show pairOk base1 base2 = _ from this, show milF (ιP1 (base1.1, false)) (ιP2 (base2.1, false)) = milF (ιP1 base1) (ιP2 base2) from rfl, GF_base]

theorem ref10_one_run : run1 none1 10 [] [] = some (.one ⟨true, one72⟩, []) := by kernel_rfl
theorem ref10_one : Pure Tryz.prog 10 [] (wv (κ12 1)) := one72_pure none1_ok ref10_one_run
noncomputable def rowsPa : List Row := [rowC2 (kdP A1) (kdP A2) rsLoop 8 pairR, rowN1 6 finN, rowN0 10 (κ12 1)]
theorem rowsPa_ok : ∀ r ∈ rowsPa, RowOk Tryz.prog r := by
  simp only [rowsPa, List.forall_mem_cons, List.not_mem_nil, false_imp_iff, implies_true, and_true]
  exact ⟨rowC2_ok pairing_pair, rowN1_ok pairing_final, rowN0_ok ref10_one⟩
noncomputable def T16a : CallT := orT (tableT rowsPa) (orT (tableT rowsSb) TMi)
theorem T16a_ok : CallOk Tryz.prog T16a := orT_ok (tableT_ok rowsPa_ok) (orT_ok (tableT_ok rowsSb_ok) TMi_ok)
theorem aw16_run : run1 T16a 5 [] (hF 200 [56, 61]) = some (vB true, [eqW (pairR noneP1 base2).1 (κ12 1) true, (pairR noneP1 base2).2 = 0 ↔ true = true, eqW (finN oneT) (κ12 1) true, (0 : Int) = 0 ↔ true = true,
  (pairR zP1 base2).2 = 140 ↔ true = true, eqW (pairR base1 base2).1 (κ12 1) false, eqW (pairR base1 base2).1 zN12 false, (pairR base1 base2).2 = 0 ↔ true = true]) := by kernel_rfl
theorem aw16 : Pure Tryz.prog 5 [] (.bool true) := by
  have h1 : pairR noneP1 base2 = (κ12 1, 0) := by rw [pairR_t none1_in base2_in, pairOk_inf (by rw [none1_on, base2_on]; rfl) rfl]
  have h2 : pairR zP1 base2 = (zN12, 140) := pairR_f (by rw [zero1_out]; rfl)
  have hne : κ12 (ι12 eLit) ≠ κ12 1 := by decide +kernel
  have hnz : κ12 (ι12 eLit) ≠ zN12 := by decide +kernel
  refine pureB_of_run T16a_ok aw16_run ?_ vals0
  refine all_cons (eqW_of (by rw [h1])) (all_cons (iff_t (by rw [h1])) (all_cons (eqW_of finN_oneT) (all_cons (iff_t rfl) (all_cons (iff_t (by rw [h2])) (all_cons (eqW_iff ?_ (sm_κ12 _) (iff_f ?_)) (all_cons (eqW_iff ?_ (sm_of (by decide +kernel)) (iff_f ?_)) (all_cons (iff_t (by rw [pair_base])) all_nil)))))))
  · rw [pair_base]; exact sm_κ12 _
  · rw [pair_base]; exact hne
  · rw [pair_base]; exact sm_κ12 _
  · rw [pair_base]; exact hnz
noncomputable def rowsAw16 : List Row := rowB0 5 :: rowsPa
theorem rowsAw16_ok : ∀ r ∈ rowsAw16, RowOk Tryz.prog r := by
  simp only [rowsAw16, List.forall_mem_cons]
  exact ⟨rowB0_ok aw16, rowsPa_ok⟩
noncomputable def T16 : CallT := orT (tableT rowsAw16) (orT (tableT rowsSb) TMi)
theorem T16_ok : CallOk Tryz.prog T16 := orT_ok (tableT_ok rowsAw16_ok) (orT_ok (tableT_ok rowsSb_ok) TMi_ok)
end Go.Proofs.YtcidhcielgnfdaaGreat
