/-
  The head of the laws of chapter 15: true.
-/
import Derived.Test.YtmebkhfdhbjacaaMr
namespace Go.Proofs.Ytmebkhfdhbjacaa
open Go Go.Eng Go.RowKit Go.Wd Go.Alg Go.Pr

def rowK3 {A B D R : Type} (c : Cd A) (d : Cd B) (e : Cd D) (r : Rs R) (f : FuncId) (g : A → B → D → R) (k : A → B → D → Prop) : Row where
  f := f
  ans := fun
    | [x, y, z] => match c.rd x, d.rd y, e.rd z with
      | some a, some b, some u => some (r.sv (g a b u), [k a b u])
      | _, _, _ => none
    | _ => none
theorem rowK3_ok {A B D R : Type} {c : Cd A} {d : Cd B} {e : Cd D} {r : Rs R} {f : FuncId} {g : A → B → D → R} {k : A → B → D → Prop} (h : ∀ a b u, k a b u → Pure Try.prog f [c.vl a, d.vl b, e.vl u] (r.vl (g a b u))) : RowOk Try.prog (rowK3 c d e r f g k) := by
  intro args s ob ha hob ρ vs hv
  unfold rowK3 at ha
  simp only at ha
  split at ha
  · split at ha
    · rename_i a b u hn hm hk
      cases ha
      obtain ⟨v1, us, h1, h2, rfl⟩ := vals_cons hv
      obtain ⟨v2, us', h3, h4, rfl⟩ := vals_cons h2
      obtain ⟨v3, us'', h5, h6, rfl⟩ := vals_cons h4
      cases h6
      rw [c.ok hn h1, d.ok hm h3, e.ok hk h5]
      exact ⟨_, r.val _ _, h a b u (hob _ (List.mem_singleton.2 rfl))⟩
    · cases ha
  · cases ha
noncomputable def rowsOne : List Row := [rowN0 26 (κ12 1)]
theorem rowsOne_ok : ∀ r ∈ rowsOne, RowOk Try.prog r := by
  simp only [rowsOne, List.forall_mem_cons, List.not_mem_nil, false_imp_iff, implies_true, and_true]
  exact rowN0_ok ref12_one
noncomputable def T15a : CallT := orT (tableT rowsOne) TMi
theorem T15a_ok : CallOk Try.prog T15a := orT_ok (tableT_ok rowsOne_ok) TMi_ok
theorem none1_on : onB1 noneP1 = true := by rw [onC1_eq]; decide +kernel
theorem aw15_run : run1 T15a 36 [] (allT 200) = some (vB true, [eqW (loopR noneP1 base2).1 (κ12 1) true, (loopR noneP1 base2).2 = 0 ↔ true = true, (loopR zP1 base2).2 = 120 ↔ true = true,
  eqP' (stepN base2 base2 base1).1 (addP2 base2 base2) true, eqW (stepN base2 base2 base1).2.2.2.1.1 base1.1.2 true]) := by kernel_rfl
theorem base2_y : ι2 base2.1.2 ≠ 0 := by
  intro h
  have : κ2 (ι2 base2.1.2) = κ2 0 := by rw [h]
  revert this
  decide +kernel
theorem step_base : (stepN base2 base2 base1).2 = κ12 (lnF ((ι2 base2.1.1 * ι2 base2.1.1 + ι2 base2.1.1 * ι2 base2.1.1 + ι2 base2.1.1 * ι2 base2.1.1) * inv (ι2 base2.1.2 + ι2 base2.1.2)) (ι2 base2.1.1) (ι2 base2.1.2) (φ base1.1.1) (φ base1.1.2)) := by
  show κ12 (stF (.aff (ι2 base2.1.1) (ι2 base2.1.2)) (.aff (ι2 base2.1.1) (ι2 base2.1.2)) (.aff (φ base1.1.1) (φ base1.1.2))) = _
  rw [stF_aff, if_pos rfl, if_neg (fun h => h.elim (fun e => e rfl) base2_y)]
theorem aw15 : Pure Try.prog 36 [] (.bool true) := by
  have h1 : loopR noneP1 base2 = (κ12 1, 0) := loopR_i (by rw [none1_on, base2_on]; rfl) rfl
  have h2 : loopR zP1 base2 = (zN12, 120) := loopR_f (by rw [zero1_off]; rfl)
  refine pureB_of_run T15a_ok aw15_run ?_ vals0
  refine all_cons (eqW_of (by rw [h1])) (all_cons (iff_t (by rw [h1])) (all_cons (iff_t (by rw [h2])) (all_cons (eqP_of rfl) (all_cons (eqW_of ?_) all_nil))))
  rw [step_base, κ12_ln]
  show (φ base1.1.2).val = base1.1.2
  decide +kernel
noncomputable def T15 : CallT := orT (tableT (rowB0 36 :: rowsOne)) (orT TMi TMr)
theorem T15_ok : CallOk Try.prog T15 := orT_ok (tableT_ok (List.forall_mem_cons.2 ⟨rowB0_ok aw15, rowsOne_ok⟩)) (orT_ok TMi_ok TMr_ok)
end Go.Proofs.Ytmebkhfdhbjacaa
