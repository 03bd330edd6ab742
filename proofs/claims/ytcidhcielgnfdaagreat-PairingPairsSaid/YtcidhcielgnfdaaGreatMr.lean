/-
  The document's Miller: the rows of sigilref15.
-/
import Derived.Test.YtcidhcielgnfdaaGreatMl
import Derived.Test.YtcidhcielgnfdaaGreatV1
import Derived.Test.YtcidhcielgnfdaaGreatV2
namespace Go.Proofs.YtcidhcielgnfdaaGreat
open Go Go.Eng Go.RowKit Go.Wd Go.Alg Go.Pr

noncomputable def rowsMR2 : List Row := rowC2 (kdP A2) (kdP A2) (kdP A2).rs 110 addP2 :: rowsRA2
theorem rowsMR2_ok : ∀ r ∈ rowsMR2, RowOk Tryz.prog r := by
  simp only [rowsMR2, List.forall_mem_cons]
  exact ⟨rowC2_ok rg2_add, rowsRA2_ok⟩
noncomputable def TMr0 : CallT := orT (tableT rowsMR2) (orT (tableT rowsRA1) (tableT rowsH10))
theorem TMr0_ok : CallOk Tryz.prog TMr0 := orT_ok (tableT_ok rowsMR2_ok) (orT_ok (tableT_ok rowsRA1_ok) (tableT_ok rowsH10_ok))
theorem ref15_line_run (s : N2) (q : P2) (p : P1) : run1 TMr0 112 [wN s, wP q, wP p] [] = some (.one (wN (lnN s q.1.1 q.1.2 p.1.1 p.1.2)), []) := by kernel_rfl
theorem ref15_line (s : N2) (q : P2) (p : P1) : Pure Tryz.prog 112 [wv s, wpv q, wpv p] (wv (lineN s q p)) := by
  refine pureC_of_run TMr0_ok (kdN N12).rs (ref15_line_run s q p) (fun _ h => by cases h) ?_ (lnN_eq _ _ _ _ _)
  simp only [vals, val_wN, val_wP]
noncomputable def rowsMr1 (b : Bool) : List Row := [rowSl2 b, rowC3 (kdN N2) (kdP A2) (kdP A1) (kdN N12).rs 112 lineN]
theorem rowsMr1_ok (b : Bool) : ∀ r ∈ rowsMr1 b, RowOk Tryz.prog r := by
  simp only [rowsMr1, List.forall_mem_cons, List.not_mem_nil, false_imp_iff, implies_true, and_true]
  exact ⟨rowSl2_ok b, rowC3_ok ref15_line⟩
noncomputable def TMr1 (b : Bool) : CallT := orT (tableT (rowsMr1 b)) TMr0
theorem TMr1_ok (b : Bool) : CallOk Tryz.prog (TMr1 b) := orT_ok (tableT_ok (rowsMr1_ok b)) TMr0_ok
theorem ref15_step_run1 (t q : P2) (x : A1) : run1 (TMr1 true) 58 [wP t, wP q, wP (x, true)] [] = some (rsStep.sv (addP2 t q, κ12 1), []) := by kernel_rfl
theorem ref15_step_run2 (t : A2) (q : P2) (x : A1) : run1 (TMr1 true) 58 [wP (t, true), wP q, wP (x, false)] [] = some (rsStep.sv (addP2 (t, true) q, κ12 1), []) := by kernel_rfl
theorem ref15_step_run3 (t q : A2) (x : A1) : run1 (TMr1 true) 58 [wP (t, false), wP (q, true), wP (x, false)] [] = some (rsStep.sv (addP2 (t, false) (q, true), κ12 1), []) := by kernel_rfl
theorem ref15_step_runY (x y : A2) (p : A1) : run1 (TMr1 true) 58 [wP (x, false), wP (y, false), wP (p, false)] [] =
  some (rsStep.sv (addP2 (x, false) (y, false), lineN (slR2 (x, false) (y, false)).1 (x, false) (p, false)), [false = false ∧ false = false ∧ (slR2 (x, false) (y, false)).2 = true]) := by kernel_rfl
theorem ref15_step_runN (x y : A2) (p : A1) : run1 (TMr1 false) 58 [wP (x, false), wP (y, false), wP (p, false)] [] =
  some (rsStep.sv (addP2 (x, false) (y, false), ((red2 x.1, (negF p.1, 0), (0, 0)), ((0, 0), (0, 0), (0, 0)))), [false = false ∧ false = false ∧ (slR2 (x, false) (y, false)).2 = false]) := by kernel_rfl
theorem lineN_eq (s : N2) (x : A2) (p : A1) : lineN s (x, false) (p, false) = κ12 (lnF (ι2 s) (ι2 x.1) (ι2 x.2) (φ p.1) (φ p.2)) := rfl
open Classical in
theorem ref15_step (t q : P2) (p : P1) : Pure Tryz.prog 58 [wpv t, wpv q, wpv p] (rsStep.vl (stepN t q p)) := by
  obtain ⟨p, pb⟩ := p
  cases pb with
  | true => exact pureC_of_run (TMr1_ok true) rsStep (ref15_step_run1 t q p) (fun _ h => by cases h) (valsStep _ _ _) (step_eq rfl (by rw [show ιP1 (p, true) = .inf from rfl, stF_p]))
  | false =>
    obtain ⟨t, tb⟩ := t
    cases tb with
    | true => exact pureC_of_run (TMr1_ok true) rsStep (ref15_step_run2 t q p) (fun _ h => by cases h) (valsStep _ _ _) (step_eq rfl (by rw [show ιP2 (t, true) = .inf from rfl, stF_t]))
    | false =>
      obtain ⟨q, qb⟩ := q
      cases qb with
      | true => exact pureC_of_run (TMr1_ok true) rsStep (ref15_step_run3 t q p) (fun _ h => by cases h) (valsStep _ _ _) (step_eq rfl (by rw [show ιP2 (q, true) = .inf from rfl, stF_q]))
      | false =>
        have e2 : stF (ιP2 (t, false)) (ιP2 (q, false)) (ιP1 (p, false)) = stF (.aff (ι2 t.1) (ι2 t.2)) (.aff (ι2 q.1) (ι2 q.2)) (.aff (φ p.1) (φ p.2)) := rfl
        have hsl : slR2 (t, false) (q, false) = if ι2 t.1 = ι2 q.1 then (if ι2 t.2 ≠ ι2 q.2 ∨ ι2 t.2 = 0 then ((0, 0), false) else (slV2 t, true)) else (slC2 t q, true) := rfl
        by_cases hx : ι2 t.1 = ι2 q.1
        · rw [if_pos hx] at hsl
          by_cases hy : ι2 t.2 ≠ ι2 q.2 ∨ ι2 t.2 = 0
          · rw [if_pos hy] at hsl
            refine pureC_of_run (TMr1_ok false) rsStep (ref15_step_runN t q p) (one_mem ⟨rfl, rfl, by rw [hsl]⟩) (valsStep _ _ _) (step_eq rfl ?_)
            rw [e2, stF_aff, if_pos hx, if_pos hy]; exact vlN_eq _ _
          · rw [if_neg hy] at hsl
            refine pureC_of_run (TMr1_ok true) rsStep (ref15_step_runY t q p) (one_mem ⟨rfl, rfl, by rw [hsl]⟩) (valsStep _ _ _) (step_eq rfl ?_)
            rw [hsl, e2, stF_aff, if_pos hx, if_neg hy, lineN_eq, ι_slV2]
        · rw [if_neg hx] at hsl
          refine pureC_of_run (TMr1_ok true) rsStep (ref15_step_runY t q p) (one_mem ⟨rfl, rfl, by rw [hsl]⟩) (valsStep _ _ _) (step_eq rfl ?_)
          rw [hsl, e2, stF_aff, if_neg hx, lineN_eq, ι_slC2]
noncomputable def rowsMrs : List Row := [rowC3 (kdP A2) (kdP A2) (kdP A1) rsStep 58 stepN, rowC3 (kdN N2) (kdP A2) (kdP A1) (kdN N12).rs 112 lineN]
theorem rowsMrs_ok : ∀ r ∈ rowsMrs, RowOk Tryz.prog r := by
  simp only [rowsMrs, List.forall_mem_cons, List.not_mem_nil, false_imp_iff, implies_true, and_true]
  exact ⟨rowC3_ok ref15_step, rowC3_ok ref15_line⟩
noncomputable def TMr2 : CallT := orT (tableT rowsMrs) TMr0
theorem TMr2_ok : CallOk Tryz.prog TMr2 := orT_ok (tableT_ok rowsMrs_ok) TMr0_ok

/-! ### the loop -/
noncomputable def dRL : Fn1 := match fn1 28 with
  | some d => d
  | none => ⟨.skip, [], 0⟩
theorem dRL_ok : FnOk Tryz.prog 28 dRL := fn1_ok _ _ (by kernel_rfl)
noncomputable def rowsOR (b c : Bool) : List Row := [rowK1 (kdP A1) kdB.rs 55 (fun _ => b) (fun x => onB1 x = b), rowK1 (kdP A2) kdB.rs 56 (fun _ => c) (fun x => onB2 x = c)]
theorem rowsOR_ok (b c : Bool) : ∀ r ∈ rowsOR b c, RowOk Tryz.prog r := by
  simp only [rowsOR, List.forall_mem_cons, List.not_mem_nil, false_imp_iff, implies_true, and_true]
  exact ⟨rowK1_ok fun x hx => by rw [← hx]; exact rg1_on x, rowK1_ok fun x hx => by rw [← hx]; exact rg2_on x⟩
noncomputable def TRo (b c : Bool) : CallT := orT (tableT (rowsOR b c)) TMr2
theorem TRo_ok (b c : Bool) : CallOk Tryz.prog (TRo b c) := orT_ok (tableT_ok (rowsOR_ok b c)) TMr2_ok
noncomputable def ERL : Eng := { tab := tyTab, call := callN tyTab (TRo true true) fn1 1000 6, N := 71 }
set_option maxRecDepth 100000 in
theorem callRL : CallOk Tryz.prog ERL.call := callN_ok mixed tyTab_ok (TRo_ok true true) fn1_ok 1000 6
noncomputable def cR0 : Code := seqL dRL.body
noncomputable def cR1 : Code := seqL (seqR dRL.body)
noncomputable def cR2 : Code := seqL (seqR (seqR dRL.body))
noncomputable def cR3 : Code := seqL (seqR (seqR (seqR dRL.body)))
noncomputable def cR5 : Code := seqL (seqR (seqR (seqR (seqR dRL.body))))
noncomputable def cR6 : Code := seqL (seqR (seqR (seqR (seqR (seqR dRL.body)))))
noncomputable def cR8 : Code := seqL (seqR (seqR (seqR (seqR (seqR (seqR dRL.body))))))
noncomputable def cRY : Code := seqR (seqR (seqR (seqR (seqR (seqR (seqR dRL.body))))))
noncomputable def cR9 : Code := seqL (seqL cRY)
noncomputable def cRL : Code := loopIn (blockIn (seqR (seqL cRY)))
noncomputable def cRT : Code := seqR cRY
theorem dRL_body : dRL.body = chain [cR0, cR1, cR2, cR3, cR5, cR6, cR8] (.seq (.seq cR9 (.block 0 (.loop cRL))) cRT) := by kernel_rfl
theorem dRL_ntmps : dRL.ntmps = 71 := by kernel_rfl
theorem dRL_results : dRL.results = [.cell 4 30, .tmp 5] := by kernel_rfl
noncomputable def inRL (p : A1) (q : A2) : St := initSlots 0 [wP (p, false), wP (q, false)] (71 - [wP (p, false), wP (q, false)].length) ++ []
def stRA (p : A1) (q : A2) : St := [(4, spt 16), (6, spt 17), (8, spt 18), (10, sI 0), (33, bP1 (p, false)), (35, bP2 (q, false)), (37, bN zN12)]
def stRB (p : A1) (q : A2) (f : N12) : St := [(4, spt 16), (6, spt 17), (8, spt 18), (10, sI 0), (16, spt 41), (33, bP1 (p, false)), (35, bP2 (q, false)), (37, bN zN12), (83, bN f)]
def stRC (p : A1) (q : A2) (s : SM) : St := [(4, spt 16), (6, spt 17), (8, spt 18), (10, sI 0), (16, spt 41), (18, spt 52), (33, bP1 (p, false)), (35, bP2 (q, false)), (37, bN zN12), (83, bN s.1), (105, bP2 s.2)]
def stRL (p : A1) (q : A2) (i : Int) (s : SM) : St := [(4, spt 16), (6, spt 17), (8, spt 18), (10, sI 0), (16, spt 41), (18, spt 52), (20, sI i), (33, bP1 (p, false)), (35, bP2 (q, false)), (37, bN zN12), (83, bN s.1), (105, bP2 s.2)]
theorem RL_a (p : A1) (q : A2) : probes ERL 100 [cR0] (inRL p q) 16 [] ((stRA p q).map (·.1)) = some (0, [], (stRA p q).map fun x => some x.2) := by kernel_rfl
theorem RL_b (p : A1) (q : A2) : probes ERL 100 [cR1, cR2, cR3] (stRA p q) 30 [] ((stRA p q).map (·.1)) = some (0, [onB1 (p, false) = true, onB2 (q, false) = true], (stRA p q).map fun x => some x.2) := by kernel_rfl
theorem RL_c (p : A1) (q : A2) : probes ERL 100 [cR5] (stRA p q) 40 [] ((stRB p q (κ12 1)).map (·.1)) = some (0, [], (stRB p q (κ12 1)).map fun x => some x.2) := by kernel_rfl
theorem RL_d (p : A1) (q : A2) (f : N12) : probes ERL 100 [cR6] (stRB p q f) 45 [] ((stRB p q f).map (·.1)) = some (0, [], (stRB p q f).map fun x => some x.2) := by kernel_rfl
theorem RL_e (p : A1) (q : A2) (f : N12) : probes ERL 100 [cR8] (stRB p q f) 50 [] ((stRC p q (f, κP2 (ιP2 (q, false)))).map (·.1)) = some (0, [], (stRC p q (f, κP2 (ιP2 (q, false)))).map fun x => some x.2) := by kernel_rfl
theorem RL_f (p : A1) (q : A2) (s : SM) : probe ERL 100 cR9 (stRC p q s) 80 [] ((stRL p q 62 s).map (·.1)) = some (0, [], (stRL p q 62 s).map fun x => some x.2) := by kernel_rfl
theorem RL_exit (p : A1) (q : A2) (i : Int) (s : SM) : probe ERL 100 cRL (stRL p q i s) 100 [(37, false)] ((stRL p q i s).map (·.1)) = some (2, [i ≥ 0 ↔ false = true], (stRL p q i s).map fun x => some x.2) := by kernel_rfl
def bitJ (i : Int) : Int := Eng.bits .and .u64 ((15132376222941642752 : Int).fdiv (2 ^ min (IntKind.u64.wrap i).toNat IntKind.u64.bits)) 1
def obRL (i : Int) (b : Bool) : List Prop := [i ≥ 0 ↔ true = true, 0 ≤ IntKind.u64.wrap i, bitJ i = 1 ↔ b = true]
theorem RL_zero (p : A1) (q : A2) (i : Int) (s : SM) : probe ERL 100 cRL (stRL p q i s) 100 [(37, true), (55, true), (57, false)] ((stRL p q (IntKind.i64.wrap (i - 1)) (dblM (p, false) s)).map (·.1)) = some (0, obRL i false, (stRL p q (IntKind.i64.wrap (i - 1)) (dblM (p, false) s)).map fun x => some x.2) := by kernel_rfl
theorem RL_one (p : A1) (q : A2) (i : Int) (s : SM) : probe ERL 100 cRL (stRL p q i s) 100 [(37, true), (55, true), (57, true)] ((stRL p q (IntKind.i64.wrap (i - 1)) (stepM (p, false) (dblM (p, false) s) (q, false))).map (·.1)) =
  some (0, obRL i true, (stRL p q (IntKind.i64.wrap (i - 1)) (stepM (p, false) (dblM (p, false) s) (q, false))).map fun x => some x.2) := by kernel_rfl
theorem RL_tail (p : A1) (q : A2) (i : Int) (s : SM) : probe ERL 100 cRT (stRL p q i s) 100 [] ((endML (conj12 s.1)).map (·.1)) = some (1, [], (endML (conj12 s.1)).map fun x => some x.2) := by kernel_rfl
theorem bitJ_ok : ∀ i : Nat, i < 63 → (bitJ (i : Int) = 1 ↔ bitM i = true) := by decide +kernel
theorem obRL_ok {i : Nat} (h : i < 63) {b : Bool} (hb : bitM i = b) : ∀ x ∈ obRL (i : Int) b, x :=
  all_cons (iff_t (by omega)) (all_cons (by rw [wrap_nat (by omega)]; omega) (all_cons (by rw [← hb]; exact bitJ_ok i h) all_nil))
theorem blk_RL (p : A1) (q : A2) (i : Int) (s : SM) : ∀ id ∈ [16, 17, 18, 41, 52], ∃ l, (stRL p q i s).blk id = some l := by
  intro id hid
  simp only [List.mem_cons, List.not_mem_nil, or_false] at hid
  rcases hid with rfl | rfl | rfl | rfl | rfl <;> exact ⟨_, rfl⟩
theorem blk_RC (p : A1) (q : A2) (s : SM) : ∀ id ∈ [16, 17, 18, 41, 52], ∃ l, (stRC p q s).blk id = some l := by
  intro id hid
  simp only [List.mem_cons, List.not_mem_nil, or_false] at hid
  rcases hid with rfl | rfl | rfl | rfl | rfl <;> exact ⟨_, rfl⟩
theorem blk_RB (p : A1) (q : A2) (f : N12) : ∀ id ∈ [16, 17, 18, 41], ∃ l, (stRB p q f).blk id = some l := by
  intro id hid
  simp only [List.mem_cons, List.not_mem_nil, or_false] at hid
  rcases hid with rfl | rfl | rfl | rfl <;> exact ⟨_, rfl⟩
theorem blk_RA (p : A1) (q : A2) : ∀ id ∈ [16, 17, 18], ∃ l, (stRA p q).blk id = some l := by
  intro id hid
  simp only [List.mem_cons, List.not_mem_nil, or_false] at hid
  rcases hid with rfl | rfl | rfl <;> exact ⟨_, rfl⟩
theorem keep_RL (p : A1) (q : A2) (i : Int) (s : SM) : keepsB (stRL p q i s) [16, 17, 18, 41, 52] = true := by kernel_rfl
theorem keep_RC (p : A1) (q : A2) (s : SM) : keepsB (stRC p q s) [16, 17, 18, 41, 52] = true := by kernel_rfl
theorem keep_RB (p : A1) (q : A2) (f : N12) : keepsB (stRB p q f) [16, 17, 18, 41] = true := by kernel_rfl
theorem keep_RA (p : A1) (q : A2) : keepsB (stRA p q) [16, 17, 18] = true := by kernel_rfl
theorem RL_loop {w0 : World} (p : A1) (q : A2) {Q : Exit → Act → World → Prop} {s0 : SM} (hQ : ∀ s a w, s = itM (p, false) (q, false) 63 s0 → At 71 rho0 w0 (stRL p q (-1) s) a w → Q (.exit 0) a w) {a : Act} {w : World}
    (hA : At 71 rho0 w0 (stRL p q (((63 : Nat) : Int) - 1) s0) a w) : (Code.loop cRL).wp Tryz.prog Q a w := by
  refine loop_rule (w0 := w0) (ρ0 := rho0) (N := 71) (ι := Nat × SM) (fun x => x.1 ≤ 63 ∧ itM (p, false) (q, false) x.1 x.2 = itM (p, false) (q, false) 63 s0) (fun x => stRL p q ((x.1 : Int) - 1) x.2) (fun x => x.1) ?_ (63, s0) ⟨Nat.le_refl _, rfl⟩ a w hA
  rintro ⟨j, s⟩ ⟨hj, hI⟩ a w hA
  have hj : j ≤ 63 := hj
  have hI : itM (p, false) (q, false) j s = itM (p, false) (q, false) 63 s0 := hI
  have hA : At 71 rho0 w0 (stRL p q ((j : Int) - 1) s) a w := hA
  cases j with
  | zero =>
    exact At.probe (E := ERL) mixed tyTab_ok callRL (RL_exit p q _ s) (one_mem (iff_f (by omega))) hA [16, 17, 18, 41, 52] (blk_RL _ _ _ _) (keep_RL _ _ _ _) (no_rho0 _) fun a' w' hA' => hQ s a' w' hI hA'
  | succ k =>
    have ei : ((k + 1 : Nat) : Int) - 1 = (k : Int) := by omega
    rw [ei] at hA
    have hw : IntKind.i64.wrap ((k : Int) - 1) = (k : Int) - 1 := wrap_small (by omega) (by omega)
    cases hb : bitM k with
    | false =>
      refine At.probe (E := ERL) mixed tyTab_ok callRL (RL_zero p q _ s) (obRL_ok (by omega) hb) hA [16, 17, 18, 41, 52] (blk_RL _ _ _ _) (keep_RL _ _ _ _) (no_rho0 _) fun a' w' hA' => ⟨(k, dblM (p, false) s), ⟨by show k ≤ 63; omega, ?_⟩, by show k < k + 1; omega, ?_⟩
      · rw [← hI]
        show _ = itM _ _ k (roundM _ _ k s)
        unfold roundM
        rw [hb]
      · rw [hw] at hA'
        exact hA'
    | true =>
      refine At.probe (E := ERL) mixed tyTab_ok callRL (RL_one p q _ s) (obRL_ok (by omega) hb) hA [16, 17, 18, 41, 52] (blk_RL _ _ _ _) (keep_RL _ _ _ _) (no_rho0 _) fun a' w' hA' => ⟨(k, stepM (p, false) (dblM (p, false) s) (q, false)), ⟨by show k ≤ 63; omega, ?_⟩, by show k < k + 1; omega, ?_⟩
      · rw [← hI]
        show _ = itM _ _ k (roundM _ _ k s)
        unfold roundM
        rw [hb]
      · rw [hw] at hA'
        exact hA'
theorem ref15_loopF (p : A1) (q : A2) (hp : onB1 (p, false) = true) (hq : onB2 (q, false) = true) : Pure Tryz.prog 28 [wpv (p, false), wpv (q, false)] (rsLoop.vl (loopR (p, false) (q, false))) := by
  intro w
  refine .inr ⟨dRL_ok.enter _ _, ?_⟩
  refine (calls_of_at (G := fun xs st => xs = [wN (conj12 (loopM (p, false) (q, false)).1), wI1 0]) tyTab_ok dRL_ok (mem_rho0 w) rfl (valsPQ (p, false) (q, false)) (by rw [dRL_ntmps]; simp) fun a hA0 => ?_).mono ?_
  · rw [dRL_ntmps] at hA0
    have hA0 : At 71 rho0 w (inRL p q) a w := hA0
    rw [dRL_ntmps, dRL_results, dRL_body]
    refine At.probes (E := ERL) (l := [cR0]) mixed tyTab_ok callRL (RL_a p q) (fun x hx => by cases hx) hA0 [16, 17, 18] (blk_RA _ _) (keep_RA _ _) (no_rho0 _) fun a1 w1 h1 => ?_
    refine At.probes (E := ERL) (l := [cR1, cR2, cR3]) mixed tyTab_ok callRL (RL_b p q) (all_cons hp (all_cons hq all_nil)) h1 [16, 17, 18] (blk_RA _ _) (keep_RA _ _) (no_rho0 _) fun a2 w2 h2 => ?_
    refine At.probes (E := ERL) (l := [cR5]) mixed tyTab_ok callRL (RL_c p q) (fun x hx => by cases hx) h2 [16, 17, 18, 41] (blk_RB _ _ _) (keep_RB _ _ _) (no_rho0 _) fun a3 w3 h3 => ?_
    refine At.probes (E := ERL) (l := [cR6]) mixed tyTab_ok callRL (RL_d p q (κ12 1)) (fun x hx => by cases hx) h3 [16, 17, 18, 41] (blk_RB _ _ _) (keep_RB _ _ _) (no_rho0 _) fun a4 w4 h4 => ?_
    refine At.probes (E := ERL) (l := [cR8]) mixed tyTab_ok callRL (RL_e p q (κ12 1)) (fun x hx => by cases hx) h4 [16, 17, 18, 41, 52] (blk_RC _ _ _) (keep_RC _ _ _) (no_rho0 _) fun a5 w5 h5 => ?_
    show Code.wp _ _ _ _ _
    refine wp_seq (wp_seq (At.probe (E := ERL) mixed tyTab_ok callRL (RL_f p q _) (fun x hx => by cases hx) h5 [16, 17, 18, 41, 52] (blk_RL _ _ _ _) (keep_RL _ _ _ _) (no_rho0 _) fun a6 w6 h6 => ?_))
    show Code.wp _ _ _ _ _
    refine wp_block (RL_loop p q (fun s a7 w7 hs h7 => ?_) h6)
    show Code.wp _ _ _ _ _
    refine At.probe (E := ERL) mixed tyTab_ok callRL (RL_tail p q _ s) (fun x hx => by cases hx) h7 [18] (fun id hid => by rw [List.mem_singleton] at hid; subst hid; exact ⟨_, rfl⟩) (keep_endML _) (no_rho0 _) fun a8 w8 h8 => ?_
    rw [hs] at h8
    exact ⟨.inr rfl, _, _, h8, by kernel_rfl, rfl⟩
  · rintro e w' ⟨v, rfl, xs, st, ρ', hE, hval, hMk, rfl⟩
    refine ⟨v, rfl, ?_, hE.below no_own0⟩
    rw [loopR_t hp hq]
    have e := rsLoop.val ρ' (conj12 (loopM (p, false) (q, false)).1, 0)
    have : (rsLoop.sv (conj12 (loopM (p, false) (q, false)).1, 0)).val ρ' = some v := hval
    rw [e] at this
    cases this; rfl
theorem ref15_loop_runX (p : P1) (q : P2) (c : Bool) : run1 (TRo false c) 28 [wP p, wP q] [] = some (rsLoop.sv (zN12, 120), [onB1 p = false, onB2 q = c]) := by kernel_rfl
theorem ref15_loop_runY (p : P1) (q : P2) : run1 (TRo true false) 28 [wP p, wP q] [] = some (rsLoop.sv (zN12, 120), [onB1 p = true, onB2 q = false]) := by kernel_rfl
theorem ref15_loop_runP (p : A1) (q : P2) : run1 (TRo true true) 28 [wP (p, true), wP q] [] = some (rsLoop.sv (κ12 1, 0), [onB1 (p, true) = true, onB2 q = true]) := by kernel_rfl
theorem ref15_loop_runQ (p : A1) (q : A2) : run1 (TRo true true) 28 [wP (p, false), wP (q, true)] [] = some (rsLoop.sv (κ12 1, 0), [onB1 (p, false) = true, onB2 (q, true) = true]) := by kernel_rfl
theorem ref15_loop (p : P1) (q : P2) : Pure Tryz.prog 28 [wpv p, wpv q] (rsLoop.vl (loopR p q)) := by
  cases hp : onB1 p with
  | false => exact pureC_of_run (TRo_ok false (onB2 q)) rsLoop (ref15_loop_runX p q (onB2 q)) (all_cons hp (all_cons rfl all_nil)) (valsPQ p q) (loopR_f (by rw [hp]; rfl)).symm
  | true =>
    cases hq : onB2 q with
    | false => exact pureC_of_run (TRo_ok true false) rsLoop (ref15_loop_runY p q) (all_cons hp (all_cons hq all_nil)) (valsPQ p q) (loopR_f (by rw [hp, hq]; rfl)).symm
    | true =>
      have hpq : (onB1 p && onB2 q) = true := by rw [hp, hq]; rfl
      obtain ⟨p, pb⟩ := p
      obtain ⟨q, qb⟩ := q
      cases pb with
      | true => exact pureC_of_run (TRo_ok true true) rsLoop (ref15_loop_runP p (q, qb)) (all_cons hp (all_cons hq all_nil)) (valsPQ _ _) (loopR_i hpq rfl).symm
      | false =>
        cases qb with
        | true => exact pureC_of_run (TRo_ok true true) rsLoop (ref15_loop_runQ p q) (all_cons hp (all_cons hq all_nil)) (valsPQ _ _) (loopR_i hpq rfl).symm
        | false => exact ref15_loopF p q hp hq
noncomputable def rowsMrl : List Row := rowC2 (kdP A1) (kdP A2) rsLoop 28 loopR :: rowsMrs
theorem rowsMrl_ok : ∀ r ∈ rowsMrl, RowOk Tryz.prog r := by
  simp only [rowsMrl, List.forall_mem_cons]
  exact ⟨rowC2_ok ref15_loop, rowsMrs_ok⟩
noncomputable def TMr : CallT := orT (tableT rowsMrl) TMr0
theorem TMr_ok : CallOk Tryz.prog TMr := orT_ok (tableT_ok rowsMrl_ok) TMr0_ok
end Go.Proofs.YtcidhcielgnfdaaGreat
