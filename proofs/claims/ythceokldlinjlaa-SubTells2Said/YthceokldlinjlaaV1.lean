/-
  Multiples of points: the row of the document's sigilref12.Mul.
-/
import Derived.Test.YthceokldlinjlaaH1
namespace Go.Proofs.Ythceokldlinjlaa
open Go Go.Eng Go.RowKit Go.Wd Go.Alg Go.Pr

/-- The table in which On's answer is known. -/
noncomputable def rowsV1 (b : Bool) : List Row := rowK1 (kdP A1) kdB.rs 122 (fun _ => b) (fun x => onB1 x = b) :: rowK2 (kdN J1) (kdP A1) (kdN J1).rs 125 pl1 (fun f _ => RdJ1 f) :: rowsRB1
theorem rowsV1_ok (b : Bool) : ∀ r ∈ rowsV1 b, RowOk Try.prog r := by
  simp only [rowsV1, List.forall_mem_cons]
  exact ⟨rowK1_ok fun x hx => by rw [← hx]; exact rg1_on x, rowK2_ok fun f q hf => rg1_plus f q hf, rowsRB1_ok⟩
noncomputable def TV1 (b : Bool) : CallT := tableT (rowsV1 b)
theorem TV1_ok (b : Bool) : CallOk Try.prog (TV1 b) := tableT_ok (rowsV1_ok b)
noncomputable def dV1 : Fn1 := match fn1 83 with
  | some d => d
  | none => ⟨.skip, [], 0⟩
theorem dV1_ok : FnOk Try.prog 83 dV1 := fn1_ok _ _ (by kernel_rfl)
noncomputable def EV1 : Eng := { tab := tyTab, call := callN tyTab (TV1 true) fn1 1000 6, N := 68 }
set_option maxRecDepth 100000 in
theorem callV1 : CallOk Try.prog EV1.call := callN_ok mixed tyTab_ok (TV1_ok true) fn1_ok 1000 6
noncomputable def cV10 : Code := seqL dV1.body
noncomputable def cV11 : Code := seqL (seqR dV1.body)
noncomputable def cV12 : Code := seqL (seqR (seqR dV1.body))
noncomputable def cV13 : Code := seqL (seqR (seqR (seqR dV1.body)))
noncomputable def cV14 : Code := seqL (seqR (seqR (seqR (seqR dV1.body))))
noncomputable def cV15 : Code := seqL (seqR (seqR (seqR (seqR (seqR dV1.body)))))
noncomputable def cV1Y : Code := seqR (seqR (seqR (seqR (seqR (seqR dV1.body)))))
noncomputable def cV17 : Code := seqL (seqL cV1Y)
noncomputable def cV1L : Code := loopIn (blockIn (seqR (seqL cV1Y)))
noncomputable def cV1T : Code := seqR cV1Y
theorem dV1_body : dV1.body = chain [cV10, cV11, cV12, cV13] (chain [cV14] (chain [cV15] (.seq (.seq cV17 (.block 0 (.loop cV1L))) cV1T))) := by kernel_rfl
theorem dV1_ntmps : dV1.ntmps = 68 := by kernel_rfl
theorem dV1_results : dV1.results = [.cell 4 52, .tmp 5] := by kernel_rfl
noncomputable def inV1 (x : A1) (len cap n : Nat) : St := initSlots 0 [⟨false, [.s 1 0 len cap]⟩, wP (x, false)] (68 - [(⟨false, [.s 1 0 len cap]⟩ : AV), wP (x, false)].length) ++ mem1 len n
def stV1A (x : A1) (len cap n : Nat) : St := [(0, sS 1 len cap), (6, spt 16), (8, spt 17), (10, sI 0), (3, .bl (anyW len n)), (33, bP1 (x, false)), (35, bP1 zP1)]
noncomputable def stV1B (x : A1) (len cap n : Nat) : St := [(0, sS 1 len cap), (8, spt 17), (10, sI 0), (14, spt 62), (3, .bl (anyW len n)), (35, bP1 zP1), (125, bP1 (rP1 x))]
noncomputable def stV1C (x : A1) (len cap n : Nat) : St := [(0, sS 1 len cap), (8, spt 17), (10, sI 0), (14, spt 62), (16, spt 70), (3, .bl (anyW len n)), (35, bP1 zP1), (125, bP1 (rP1 x)), (141, bN zJ1)]
noncomputable def stV1 (x : A1) (len cap n : Nat) (i : Int) (o : J1) : St := [(0, sS 1 len cap), (8, spt 17), (10, sI 0), (14, spt 62), (16, spt 70), (18, sI i), (3, .bl (anyW len n)), (35, bP1 zP1), (125, bP1 (rP1 x)), (141, bN o)]
theorem V1_a (x : A1) (len cap n : Nat) : probes EV1 100 [cV10, cV11, cV12, cV13] (inV1 x len cap n) 16 [] ((stV1A x len cap n).map (·.1)) = some (0, [onB1 (x, false) = true], (stV1A x len cap n).map fun p => some p.2) := by kernel_rfl
theorem V1_b (x : A1) (len cap n : Nat) : probes EV1 100 [cV14] (stV1A x len cap n) 60 [] ((stV1B x len cap n).map (·.1)) = some (0, [], (stV1B x len cap n).map fun p => some p.2) := by kernel_rfl
theorem V1_c (x : A1) (len cap n : Nat) : probes EV1 100 [cV15] (stV1B x len cap n) 70 [] ((stV1C x len cap n).map (·.1)) = some (0, [], (stV1C x len cap n).map fun p => some p.2) := by kernel_rfl
theorem V1_d (x : A1) (len cap n : Nat) : probe EV1 100 cV17 (stV1C x len cap n) 80 [] ((stV1 x len cap n (iT len) zJ1).map (·.1)) = some (0, [], (stV1 x len cap n (iT len) zJ1).map fun p => some p.2) := by kernel_rfl
theorem V1_exit (x : A1) (len cap n : Nat) (i : Int) (o : J1) : probe EV1 100 cV1L (stV1 x len cap n i o) 100 [(27, false)] ((stV1 x len cap n i o).map (·.1)) = some (2, [i ≥ 0 ↔ false = true], (stV1 x len cap n i o).map fun p => some p.2) := by kernel_rfl
def obV1 (len n : Nat) (i : Int) (b : Bool) (o : J1) : List Prop := match b with
  | true => obW len n i true ++ [RdJ1 (tw1 o)]
  | false => obW len n i false
theorem V1_zero (x : A1) (len cap n : Nat) (i : Int) (o : J1) : probe EV1 100 cV1L (stV1 x len cap n i o) 100 [(27, true), (35, false), (40, true), (42, false)] ((stV1 x len cap n (IntKind.i64.wrap (i - 1)) (tw1 o)).map (·.1)) =
  some (0, obV1 len n i false o, (stV1 x len cap n (IntKind.i64.wrap (i - 1)) (tw1 o)).map fun p => some p.2) := by kernel_rfl
theorem V1_one (x : A1) (len cap n : Nat) (i : Int) (o : J1) : probe EV1 100 cV1L (stV1 x len cap n i o) 100 [(27, true), (35, false), (40, true), (42, true)] ((stV1 x len cap n (IntKind.i64.wrap (i - 1)) (pl1 (tw1 o) (rP1 x))).map (·.1)) =
  some (0, obV1 len n i true o, (stV1 x len cap n (IntKind.i64.wrap (i - 1)) (pl1 (tw1 o) (rP1 x))).map fun p => some p.2) := by kernel_rfl
noncomputable def endV1 (len n : Nat) (p : P1) : St := [(8, spt 17), (10, sI 0), (3, .bl (anyW len n)), (35, bP1 p)]
noncomputable def fin1 (o : J1) : P1 := ((mulF o.1 (mulF (invF o.2.2) (invF o.2.2)), mulF o.2.1 (mulF (mulF (invF o.2.2) (invF o.2.2)) (invF o.2.2))), false)
theorem V1_tailT (x : A1) (len cap n : Nat) (i : Int) (o : J1) : probe EV1 100 cV1T (stV1 x len cap n i o) 100 [(49, true)] ((endV1 len n ((0, 0), true)).map (·.1)) = some (1, [eqW o.2.2 (0 : Nat) true], (endV1 len n ((0, 0), true)).map fun p => some p.2) := by kernel_rfl
theorem V1_tailF (x : A1) (len cap n : Nat) (i : Int) (o : J1) : probe EV1 100 cV1T (stV1 x len cap n i o) 100 [(49, false)] ((endV1 len n (fin1 o)).map (·.1)) = some (1, [eqW o.2.2 (0 : Nat) false], (endV1 len n (fin1 o)).map fun p => some p.2) := by kernel_rfl
theorem keep_V1A (x : A1) (len cap n : Nat) : keepsB (stV1A x len cap n) [1, 16, 17] = true := by kernel_rfl
theorem keep_V1B (x : A1) (len cap n : Nat) : keepsB (stV1B x len cap n) [1, 17, 62] = true := by kernel_rfl
theorem keep_V1C (x : A1) (len cap n : Nat) : keepsB (stV1C x len cap n) [1, 17, 62, 70] = true := by kernel_rfl
theorem keep_V1 (x : A1) (len cap n : Nat) (i : Int) (o : J1) : keepsB (stV1 x len cap n i o) [1, 17, 62, 70] = true := by kernel_rfl
theorem keep_V1E (len n : Nat) (o : P1) : keepsB (endV1 len n o) [1, 17] = true := by kernel_rfl
theorem blk_V1A (x : A1) (len cap n : Nat) : ∀ id ∈ [1, 16, 17], ∃ l, (stV1A x len cap n).blk id = some l := by
  intro id hid
  simp only [List.mem_cons, List.not_mem_nil, or_false] at hid
  rcases hid with rfl | rfl | rfl <;> exact ⟨_, rfl⟩
theorem blk_V1B (x : A1) (len cap n : Nat) : ∀ id ∈ [1, 17, 62], ∃ l, (stV1B x len cap n).blk id = some l := by
  intro id hid
  simp only [List.mem_cons, List.not_mem_nil, or_false] at hid
  rcases hid with rfl | rfl | rfl <;> exact ⟨_, rfl⟩
theorem blk_V1C (x : A1) (len cap n : Nat) : ∀ id ∈ [1, 17, 62, 70], ∃ l, (stV1C x len cap n).blk id = some l := by
  intro id hid
  simp only [List.mem_cons, List.not_mem_nil, or_false] at hid
  rcases hid with rfl | rfl | rfl | rfl <;> exact ⟨_, rfl⟩
theorem blk_V1 (x : A1) (len cap n : Nat) (i : Int) (o : J1) : ∀ id ∈ [1, 17, 62, 70], ∃ l, (stV1 x len cap n i o).blk id = some l := by
  intro id hid
  simp only [List.mem_cons, List.not_mem_nil, or_false] at hid
  rcases hid with rfl | rfl | rfl | rfl <;> exact ⟨_, rfl⟩
theorem blk_V1E (len n : Nat) (o : P1) : ∀ id ∈ [1, 17], ∃ l, (endV1 len n o).blk id = some l := by
  intro id hid
  simp only [List.mem_cons, List.not_mem_nil, or_false] at hid
  rcases hid with rfl | rfl <;> exact ⟨_, rfl⟩
theorem fin1_eq {o : J1} (h : φ o.2.2 ≠ 0) : fin1 o = κP1 (jpt (ιJ1 o)) := by
  unfold jpt
  rw [if_neg (show ¬ (ιJ1 o).z = 0 from h)]
  unfold fin1 κP1 ιJ1
  simp only [mulF, invF, φκ]
theorem rg1_mulF (x : A1) (hp : On b1 (ιP1 (x, false))) : PureS Try.prog 83 (fun s => [s, wpv (x, false)]) (fun len n => rsM1.vl (κP1 (smul (n % pw len) (ιP1 (x, false))), 0)) := by
  intro b o len cap n hlen w hsl
  refine .inr ⟨dV1_ok.enter _ _, ?_⟩
  have hv := vals_sl1 b o len cap (x, false)
  refine (calls_of_at (G := fun xs st => xs = [wP (κP1 (smul (n % pw len) (ιP1 (x, false)))), wI1 0]) tyTab_ok dV1_ok (mem_rho1 hsl) (by kernel_rfl) hv (by rw [dV1_ntmps]; simp) fun a hA0 => ?_).mono ?_
  · rw [dV1_ntmps] at hA0
    have hA0 : At 68 (rho1 b o) w (inV1 x len cap n) a w := hA0
    rw [dV1_ntmps, dV1_results, dV1_body]
    refine At.probes (E := EV1) mixed tyTab_ok callV1 (V1_a x len cap n) (one_mem ((onB1_iff _).2 hp)) hA0 [1, 16, 17] (blk_V1A _ _ _ _) (keep_V1A _ _ _ _) (no_rho1 (by simp)) fun a1 w1 h1 => ?_
    show Code.wp _ _ _ _ _
    refine At.probes (E := EV1) mixed tyTab_ok callV1 (V1_b x len cap n) (fun p hp => by cases hp) h1 [1, 17, 62] (blk_V1B _ _ _ _) (keep_V1B _ _ _ _) (no_rho1 (by simp)) fun a2 w2 h2 => ?_
    show Code.wp _ _ _ _ _
    refine At.probes (E := EV1) mixed tyTab_ok callV1 (V1_c x len cap n) (fun p hp => by cases hp) h2 [1, 17, 62, 70] (blk_V1C _ _ _ _) (keep_V1C _ _ _ _) (no_rho1 (by simp)) fun a3 w3 h3 => ?_
    show Code.wp _ _ _ _ _
    refine wp_seq (wp_seq (At.probe (E := EV1) mixed tyTab_ok callV1 (V1_d x len cap n) (fun p hp => by cases hp) h3 [1, 17, 62, 70] (blk_V1 _ _ _ _ _ _) (keep_V1 _ _ _ _ _ _) (no_rho1 (by simp)) fun a' w' hA' => ?_))
    rw [iT_eq hlen] at hA'
    show Code.wp _ _ _ _ _
    have hm : n % pw len < 2 ^ (64 * len) := Nat.mod_lt _ (Nat.two_pow_pos _)
    refine wp_block (bit_loop (E := EV1) tyTab_ok callV1 (stV1 x len cap n) [1, 17, 62, 70] (by simp) (keep_V1 x len cap n) (blk_V1 x len cap n) hlen tw1 (fun o => pl1 o (rP1 x)) (IM1 (ιP1 (x, false)) (n % pw len))
      (kx := 0) (V1_exit x len cap n) (obV1 len n) (fun j b s hj _ hb => ?_) (V1_zero x len cap n) (V1_one x len cap n) (fun j s _ hI e => IM1_zero hp hI e) (fun j s _ hI e => IM1_one hp hI e) (fun s a2 w2 hI h2 => ?_) ?_ hA')
    · cases b with
      | true =>
        intro p hp
        rcases List.mem_append.1 hp with hp | hp
        · exact obW_ok hlen hj hb p hp
        · exact one_mem (rd_tw1 s) p hp
      | false => exact obW_ok hlen hj hb
    · have e3 : jpt (ιJ1 s) = smul (n % pw len) (ιP1 (x, false)) := by
        have := rep_pt hI.2
        rwa [Nat.pow_zero, Nat.div_one] at this
      show Code.wp _ _ _ _ _
      by_cases h0 : φ s.2.2 = 0
      · have ei : κP1 (smul (n % pw len) (ιP1 (x, false))) = ((0, 0), true) := by
          rw [← e3]
          unfold jpt
          rw [if_pos (show (ιJ1 s).z = 0 from h0)]; rfl
        refine At.probe (E := EV1) mixed tyTab_ok callV1 (V1_tailT x len cap n _ s) (one_mem (eqZd1 hI.1.z (iff_t h0))) h2 [1, 17] (blk_V1E _ _ _) (keep_V1E _ _ _) (no_rho1 (by simp)) fun a3 w3 h3 => ?_
        rw [← ei] at h3
        exact ⟨.inr rfl, _, _, h3, by kernel_rfl, rfl⟩
      · refine At.probe (E := EV1) mixed tyTab_ok callV1 (V1_tailF x len cap n _ s) (one_mem (eqZd1 hI.1.z (iff_f h0))) h2 [1, 17] (blk_V1E _ _ _) (keep_V1E _ _ _) (no_rho1 (by simp)) fun a3 w3 h3 => ?_
        rw [fin1_eq h0, e3] at h3
        exact ⟨.inr rfl, _, _, h3, by kernel_rfl, rfl⟩
    · have e : n % pw len / 2 ^ (64 * len) = 0 := Nat.div_eq_of_lt hm
      refine ⟨rd_zJ1, ?_⟩
      rw [e]
      exact zJ_z1
  · rintro e w' ⟨v, rfl, xs, st, ρ', hE, hval, hMk, rfl⟩
    refine ⟨v, rfl, ?_, hE.below (no_own1 b o)⟩
    have e := rsM1.val ρ' (κP1 (smul (n % pw len) (ιP1 (x, false))), 0)
    have : (rsM1.sv (κP1 (smul (n % pw len) (ιP1 (x, false))), 0)).val ρ' = some v := hval
    rw [e] at this
    cases this; rfl

/-! ### what is not on the curve; infinity; no words -/
theorem rg1_mul_runN (x : P1) (len cap n : Nat) : runS (TV1 false) 83 [⟨false, [.s 1 0 len cap]⟩, wP x] (mem1 len n) [] = some (.tup [wP (((0, 0), false) : P1), wI1 120], [onB1 x = false]) := by kernel_rfl
theorem rg1_mul_runI (x : A1) (len cap n : Nat) : runS (TV1 true) 83 [⟨false, [.s 1 0 len cap]⟩, wP (x, true)] (mem1 len n) [] = some (.tup [wP (((0, 0), true) : P1), wI1 0], [onB1 (x, true) = true]) := by kernel_rfl
theorem rg1_mul_nilN (x : P1) : run1 (TV1 false) 83 [⟨false, [.v (.slice none 0 0)]⟩, wP x] [] = some (.tup [wP (((0, 0), false) : P1), wI1 120], [onB1 x = false]) := by kernel_rfl
theorem rg1_mul_nilI (x : A1) : run1 (TV1 true) 83 [⟨false, [.v (.slice none 0 0)]⟩, wP (x, true)] [] = some (.tup [wP (((0, 0), true) : P1), wI1 0], [onB1 (x, true) = true]) := by kernel_rfl
theorem rg1_mul_nilF (x : A1) : run1 (TV1 true) 83 [⟨false, [.v (.slice none 0 0)]⟩, wP (x, false)] [(49, true)] = some (.tup [wP (((0, 0), true) : P1), wI1 0], [onB1 (x, false) = true, eqW (0 : Nat) 0 true]) := by kernel_rfl
theorem rg1_mul (x : P1) : PureS Try.prog 83 (fun s => [s, wpv x]) (fun len n => rsM1.vl (mulR1 x (n % pw len))) := by
  by_cases hon : On b1 (ιP1 x)
  · have hb := (onB1_iff x).2 hon
    unfold mulR1
    rw [hb]
    obtain ⟨x, c⟩ := x
    cases c with
    | false => exact rg1_mulF x hon
    | true =>
      intro b o len cap n hlen w hsl
      have h0 : smul (n % pw len) (ιP1 (x, true)) = .inf := smul_inf _
      show Invoked _ _ _ _ fun u w' => u = rsM1.vl (κP1 (smul (n % pw len) (ιP1 (x, true))), 0) ∧ _
      rw [h0]
      exact pureS_of_runS (TV1_ok true) (rg1_mul_runI x len cap n) (one_mem hb) (mem_rho1 hsl) (no_own1 b o) (vals_sl1 b o len cap (x, true)) (val_tup1 _ _)
  · have hb := onB1_not hon
    unfold mulR1
    rw [hb]
    intro b o len cap n hlen w hsl
    exact pureS_of_runS (TV1_ok false) (rg1_mul_runN x len cap n) (one_mem hb) (mem_rho1 hsl) (no_own1 b o) (vals_sl1 b o len cap x) (val_tup1 _ _)
theorem rg1_mul_nil (x : P1) : Pure Try.prog 83 [.slice none 0 0, wpv x] (rsM1.vl (mulR1 x 0)) := by
  by_cases hon : On b1 (ιP1 x)
  · have hb := (onB1_iff x).2 hon
    unfold mulR1
    rw [hb]
    obtain ⟨x, c⟩ := x
    cases c with
    | false =>
      refine pure_of_run1 (TV1_ok true) (rg1_mul_nilF x) ?_ (vals_nil1 _) fun ρ u hu => ?_
      · simp only [List.forall_mem_cons, List.not_mem_nil, false_imp_iff, implies_true, and_true]
        exact ⟨hb, eqW_of rfl⟩
      · rw [val_tup1 _ _ ρ u hu]; rfl
    | true =>
      refine pure_of_run1 (TV1_ok true) (rg1_mul_nilI x) (one_mem hb) (vals_nil1 _) fun ρ u hu => ?_
      rw [val_tup1 _ _ ρ u hu]; rfl
  · have hb := onB1_not hon
    unfold mulR1
    rw [hb]
    exact pure_of_run1 (TV1_ok false) (rg1_mul_nilN x) (one_mem hb) (vals_nil1 _) (val_tup1 _ _)
theorem rg1_mul_row : CallOk Try.prog (rowSB (kdP A1) rsM1 83 mulR1) := rowSB_ok rg1_mul rg1_mul_nil
end Go.Proofs.Ythceokldlinjlaa
