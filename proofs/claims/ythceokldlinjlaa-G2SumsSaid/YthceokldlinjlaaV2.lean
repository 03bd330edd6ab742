/-
  Multiples of points: the row of the document's sigilref13.Mul.
-/
import Derived.Test.YthceokldlinjlaaH2
namespace Go.Proofs.Ythceokldlinjlaa
open Go Go.Eng Go.RowKit Go.Wd Go.Alg Go.Pr

/-- The table in which On's answer is known. -/
noncomputable def rowsV2 (b : Bool) : List Row := rowK1 (kdP A2) kdB.rs 109 (fun _ => b) (fun x => onB2 x = b) :: rowK2 (kdN J2) (kdP A2) (kdN J2).rs 112 pl2 (fun f _ => RdJ2 f) :: rowsRB2
theorem rowsV2_ok (b : Bool) : ∀ r ∈ rowsV2 b, RowOk Try.prog r := by
  simp only [rowsV2, List.forall_mem_cons]
  exact ⟨rowK1_ok fun x hx => by rw [← hx]; exact rg2_on x, rowK2_ok fun f q hf => rg2_plus f q hf, rowsRB2_ok⟩
noncomputable def TV2 (b : Bool) : CallT := tableT (rowsV2 b)
theorem TV2_ok (b : Bool) : CallOk Try.prog (TV2 b) := tableT_ok (rowsV2_ok b)
noncomputable def dV2 : Fn1 := match fn1 73 with
  | some d => d
  | none => ⟨.skip, [], 0⟩
theorem dV2_ok : FnOk Try.prog 73 dV2 := fn1_ok _ _ (by kernel_rfl)
noncomputable def EV2 : Eng := { tab := tyTab, call := callN tyTab (TV2 true) fn1 1000 6, N := 68 }
set_option maxRecDepth 100000 in
theorem callV2 : CallOk Try.prog EV2.call := callN_ok mixed tyTab_ok (TV2_ok true) fn1_ok 1000 6
noncomputable def cV20 : Code := seqL dV2.body
noncomputable def cV21 : Code := seqL (seqR dV2.body)
noncomputable def cV22 : Code := seqL (seqR (seqR dV2.body))
noncomputable def cV23 : Code := seqL (seqR (seqR (seqR dV2.body)))
noncomputable def cV24 : Code := seqL (seqR (seqR (seqR (seqR dV2.body))))
noncomputable def cV25 : Code := seqL (seqR (seqR (seqR (seqR (seqR dV2.body)))))
noncomputable def cV2Y : Code := seqR (seqR (seqR (seqR (seqR (seqR dV2.body)))))
noncomputable def cV27 : Code := seqL (seqL cV2Y)
noncomputable def cV2L : Code := loopIn (blockIn (seqR (seqL cV2Y)))
noncomputable def cV2T : Code := seqR cV2Y
theorem dV2_body : dV2.body = chain [cV20, cV21, cV22, cV23] (chain [cV24] (chain [cV25] (.seq (.seq cV27 (.block 0 (.loop cV2L))) cV2T))) := by kernel_rfl
theorem dV2_ntmps : dV2.ntmps = 68 := by kernel_rfl
theorem dV2_results : dV2.results = [.cell 4 41, .tmp 5] := by kernel_rfl
noncomputable def inV2 (x : A2) (len cap n : Nat) : St := initSlots 0 [⟨false, [.s 1 0 len cap]⟩, wP (x, false)] (68 - [(⟨false, [.s 1 0 len cap]⟩ : AV), wP (x, false)].length) ++ mem1 len n
def stV2A (x : A2) (len cap n : Nat) : St := [(0, sS 1 len cap), (6, spt 16), (8, spt 17), (10, sI 0), (3, .bl (anyW len n)), (33, bP2 (x, false)), (35, bP2 zP2)]
noncomputable def stV2B (x : A2) (len cap n : Nat) : St := [(0, sS 1 len cap), (8, spt 17), (10, sI 0), (14, spt 62), (3, .bl (anyW len n)), (35, bP2 zP2), (125, bP2 (rP2 x))]
noncomputable def stV2C (x : A2) (len cap n : Nat) : St := [(0, sS 1 len cap), (8, spt 17), (10, sI 0), (14, spt 62), (16, spt 70), (3, .bl (anyW len n)), (35, bP2 zP2), (125, bP2 (rP2 x)), (141, bN zJ2)]
noncomputable def stV2 (x : A2) (len cap n : Nat) (i : Int) (o : J2) : St := [(0, sS 1 len cap), (8, spt 17), (10, sI 0), (14, spt 62), (16, spt 70), (18, sI i), (3, .bl (anyW len n)), (35, bP2 zP2), (125, bP2 (rP2 x)), (141, bN o)]
theorem V2_a (x : A2) (len cap n : Nat) : probes EV2 100 [cV20, cV21, cV22, cV23] (inV2 x len cap n) 16 [] ((stV2A x len cap n).map (·.1)) = some (0, [onB2 (x, false) = true], (stV2A x len cap n).map fun p => some p.2) := by kernel_rfl
theorem V2_b (x : A2) (len cap n : Nat) : probes EV2 100 [cV24] (stV2A x len cap n) 60 [] ((stV2B x len cap n).map (·.1)) = some (0, [], (stV2B x len cap n).map fun p => some p.2) := by kernel_rfl
theorem V2_c (x : A2) (len cap n : Nat) : probes EV2 100 [cV25] (stV2B x len cap n) 70 [] ((stV2C x len cap n).map (·.1)) = some (0, [], (stV2C x len cap n).map fun p => some p.2) := by kernel_rfl
theorem V2_d (x : A2) (len cap n : Nat) : probe EV2 100 cV27 (stV2C x len cap n) 80 [] ((stV2 x len cap n (iT len) zJ2).map (·.1)) = some (0, [], (stV2 x len cap n (iT len) zJ2).map fun p => some p.2) := by kernel_rfl
theorem V2_exit (x : A2) (len cap n : Nat) (i : Int) (o : J2) : probe EV2 100 cV2L (stV2 x len cap n i o) 100 [(27, false)] ((stV2 x len cap n i o).map (·.1)) = some (2, [i ≥ 0 ↔ false = true], (stV2 x len cap n i o).map fun p => some p.2) := by kernel_rfl
def obV2 (len n : Nat) (i : Int) (b : Bool) (o : J2) : List Prop := match b with
  | true => obW len n i true ++ [RdJ2 (tw2 o)]
  | false => obW len n i false
theorem V2_zero (x : A2) (len cap n : Nat) (i : Int) (o : J2) : probe EV2 100 cV2L (stV2 x len cap n i o) 100 [(27, true), (35, false), (40, true), (42, false)] ((stV2 x len cap n (IntKind.i64.wrap (i - 1)) (tw2 o)).map (·.1)) =
  some (0, obV2 len n i false o, (stV2 x len cap n (IntKind.i64.wrap (i - 1)) (tw2 o)).map fun p => some p.2) := by kernel_rfl
theorem V2_one (x : A2) (len cap n : Nat) (i : Int) (o : J2) : probe EV2 100 cV2L (stV2 x len cap n i o) 100 [(27, true), (35, false), (40, true), (42, true)] ((stV2 x len cap n (IntKind.i64.wrap (i - 1)) (pl2 (tw2 o) (rP2 x))).map (·.1)) =
  some (0, obV2 len n i true o, (stV2 x len cap n (IntKind.i64.wrap (i - 1)) (pl2 (tw2 o) (rP2 x))).map fun p => some p.2) := by kernel_rfl
noncomputable def endV2 (len n : Nat) (p : P2) : St := [(8, spt 17), (10, sI 0), (3, .bl (anyW len n)), (35, bP2 p)]
noncomputable def fin2 (o : J2) : P2 := ((mul2 o.1 (mul2 (inve2 o.2.2) (inve2 o.2.2)), mul2 o.2.1 (mul2 (mul2 (inve2 o.2.2) (inve2 o.2.2)) (inve2 o.2.2))), false)
theorem V2_tailT (x : A2) (len cap n : Nat) (i : Int) (o : J2) : probe EV2 100 cV2T (stV2 x len cap n i o) 100 [(49, true)] ((endV2 len n (((0, 0), (0, 0)), true)).map (·.1)) = some (1, [eqW o.2.2 ((0, 0) : N2) true], (endV2 len n (((0, 0), (0, 0)), true)).map fun p => some p.2) := by kernel_rfl
theorem V2_tailF (x : A2) (len cap n : Nat) (i : Int) (o : J2) : probe EV2 100 cV2T (stV2 x len cap n i o) 100 [(49, false)] ((endV2 len n (fin2 o)).map (·.1)) = some (1, [eqW o.2.2 ((0, 0) : N2) false], (endV2 len n (fin2 o)).map fun p => some p.2) := by kernel_rfl
theorem keep_V2A (x : A2) (len cap n : Nat) : keepsB (stV2A x len cap n) [1, 16, 17] = true := by kernel_rfl
theorem keep_V2B (x : A2) (len cap n : Nat) : keepsB (stV2B x len cap n) [1, 17, 62] = true := by kernel_rfl
theorem keep_V2C (x : A2) (len cap n : Nat) : keepsB (stV2C x len cap n) [1, 17, 62, 70] = true := by kernel_rfl
theorem keep_V2 (x : A2) (len cap n : Nat) (i : Int) (o : J2) : keepsB (stV2 x len cap n i o) [1, 17, 62, 70] = true := by kernel_rfl
theorem keep_V2E (len n : Nat) (o : P2) : keepsB (endV2 len n o) [1, 17] = true := by kernel_rfl
theorem blk_V2A (x : A2) (len cap n : Nat) : ∀ id ∈ [1, 16, 17], ∃ l, (stV2A x len cap n).blk id = some l := by
  intro id hid
  simp only [List.mem_cons, List.not_mem_nil, or_false] at hid
  rcases hid with rfl | rfl | rfl <;> exact ⟨_, rfl⟩
theorem blk_V2B (x : A2) (len cap n : Nat) : ∀ id ∈ [1, 17, 62], ∃ l, (stV2B x len cap n).blk id = some l := by
  intro id hid
  simp only [List.mem_cons, List.not_mem_nil, or_false] at hid
  rcases hid with rfl | rfl | rfl <;> exact ⟨_, rfl⟩
theorem blk_V2C (x : A2) (len cap n : Nat) : ∀ id ∈ [1, 17, 62, 70], ∃ l, (stV2C x len cap n).blk id = some l := by
  intro id hid
  simp only [List.mem_cons, List.not_mem_nil, or_false] at hid
  rcases hid with rfl | rfl | rfl | rfl <;> exact ⟨_, rfl⟩
theorem blk_V2 (x : A2) (len cap n : Nat) (i : Int) (o : J2) : ∀ id ∈ [1, 17, 62, 70], ∃ l, (stV2 x len cap n i o).blk id = some l := by
  intro id hid
  simp only [List.mem_cons, List.not_mem_nil, or_false] at hid
  rcases hid with rfl | rfl | rfl | rfl <;> exact ⟨_, rfl⟩
theorem blk_V2E (len n : Nat) (o : P2) : ∀ id ∈ [1, 17], ∃ l, (endV2 len n o).blk id = some l := by
  intro id hid
  simp only [List.mem_cons, List.not_mem_nil, or_false] at hid
  rcases hid with rfl | rfl <;> exact ⟨_, rfl⟩
theorem fin2_eq {o : J2} (h : ι2 o.2.2 ≠ 0) : fin2 o = κP2 (jpt (ιJ2 o)) := by
  unfold jpt
  rw [if_neg (show ¬ (ιJ2 o).z = 0 from h)]
  unfold fin2 κP2 ιJ2
  simp only [mul2, inve2, ικ2]
theorem rg2_mulF (x : A2) (hp : On b2 (ιP2 (x, false))) : PureS Try.prog 73 (fun s => [s, wpv (x, false)]) (fun len n => rsM2.vl (κP2 (smul (n % pw len) (ιP2 (x, false))), 0)) := by
  intro b o len cap n hlen w hsl
  refine .inr ⟨dV2_ok.enter _ _, ?_⟩
  have hv := vals_sl2 b o len cap (x, false)
  refine (calls_of_at (G := fun xs st => xs = [wP (κP2 (smul (n % pw len) (ιP2 (x, false)))), wI1 0]) tyTab_ok dV2_ok (mem_rho1 hsl) (by kernel_rfl) hv (by rw [dV2_ntmps]; simp) fun a hA0 => ?_).mono ?_
  · rw [dV2_ntmps] at hA0
    have hA0 : At 68 (rho1 b o) w (inV2 x len cap n) a w := hA0
    rw [dV2_ntmps, dV2_results, dV2_body]
    refine At.probes (E := EV2) mixed tyTab_ok callV2 (V2_a x len cap n) (one_mem ((onB2_iff _).2 hp)) hA0 [1, 16, 17] (blk_V2A _ _ _ _) (keep_V2A _ _ _ _) (no_rho1 (by simp)) fun a1 w1 h1 => ?_
    show Code.wp _ _ _ _ _
    refine At.probes (E := EV2) mixed tyTab_ok callV2 (V2_b x len cap n) (fun p hp => by cases hp) h1 [1, 17, 62] (blk_V2B _ _ _ _) (keep_V2B _ _ _ _) (no_rho1 (by simp)) fun a2 w2 h2 => ?_
    show Code.wp _ _ _ _ _
    refine At.probes (E := EV2) mixed tyTab_ok callV2 (V2_c x len cap n) (fun p hp => by cases hp) h2 [1, 17, 62, 70] (blk_V2C _ _ _ _) (keep_V2C _ _ _ _) (no_rho1 (by simp)) fun a3 w3 h3 => ?_
    show Code.wp _ _ _ _ _
    refine wp_seq (wp_seq (At.probe (E := EV2) mixed tyTab_ok callV2 (V2_d x len cap n) (fun p hp => by cases hp) h3 [1, 17, 62, 70] (blk_V2 _ _ _ _ _ _) (keep_V2 _ _ _ _ _ _) (no_rho1 (by simp)) fun a' w' hA' => ?_))
    rw [iT_eq hlen] at hA'
    show Code.wp _ _ _ _ _
    have hm : n % pw len < 2 ^ (64 * len) := Nat.mod_lt _ (Nat.two_pow_pos _)
    refine wp_block (bit_loop (E := EV2) tyTab_ok callV2 (stV2 x len cap n) [1, 17, 62, 70] (by simp) (keep_V2 x len cap n) (blk_V2 x len cap n) hlen tw2 (fun o => pl2 o (rP2 x)) (IM2 (ιP2 (x, false)) (n % pw len))
      (kx := 0) (V2_exit x len cap n) (obV2 len n) (fun j b s hj _ hb => ?_) (V2_zero x len cap n) (V2_one x len cap n) (fun j s _ hI e => IM2_zero hp hI e) (fun j s _ hI e => IM2_one hp hI e) (fun s a2 w2 hI h2 => ?_) ?_ hA')
    · cases b with
      | true =>
        intro p hp
        rcases List.mem_append.1 hp with hp | hp
        · exact obW_ok hlen hj hb p hp
        · exact one_mem (rd_tw2 s) p hp
      | false => exact obW_ok hlen hj hb
    · have e3 : jpt (ιJ2 s) = smul (n % pw len) (ιP2 (x, false)) := by
        have := rep_pt hI.2
        rwa [Nat.pow_zero, Nat.div_one] at this
      show Code.wp _ _ _ _ _
      by_cases h0 : ι2 s.2.2 = 0
      · have ei : κP2 (smul (n % pw len) (ιP2 (x, false))) = (((0, 0), (0, 0)), true) := by
          rw [← e3]
          unfold jpt
          rw [if_pos (show (ιJ2 s).z = 0 from h0)]; rfl
        refine At.probe (E := EV2) mixed tyTab_ok callV2 (V2_tailT x len cap n _ s) (one_mem (eqZd2 hI.1.z (iff_t h0))) h2 [1, 17] (blk_V2E _ _ _) (keep_V2E _ _ _) (no_rho1 (by simp)) fun a3 w3 h3 => ?_
        rw [← ei] at h3
        exact ⟨.inr rfl, _, _, h3, by kernel_rfl, rfl⟩
      · refine At.probe (E := EV2) mixed tyTab_ok callV2 (V2_tailF x len cap n _ s) (one_mem (eqZd2 hI.1.z (iff_f h0))) h2 [1, 17] (blk_V2E _ _ _) (keep_V2E _ _ _) (no_rho1 (by simp)) fun a3 w3 h3 => ?_
        rw [fin2_eq h0, e3] at h3
        exact ⟨.inr rfl, _, _, h3, by kernel_rfl, rfl⟩
    · have e : n % pw len / 2 ^ (64 * len) = 0 := Nat.div_eq_of_lt hm
      refine ⟨rd_zJ2, ?_⟩
      rw [e]
      exact zJ_z2
  · rintro e w' ⟨v, rfl, xs, st, ρ', hE, hval, hMk, rfl⟩
    refine ⟨v, rfl, ?_, hE.below (no_own1 b o)⟩
    have e := rsM2.val ρ' (κP2 (smul (n % pw len) (ιP2 (x, false))), 0)
    have : (rsM2.sv (κP2 (smul (n % pw len) (ιP2 (x, false))), 0)).val ρ' = some v := hval
    rw [e] at this
    cases this; rfl

/-! ### what is not on the curve; infinity; no words -/
theorem rg2_mul_runN (x : P2) (len cap n : Nat) : runS (TV2 false) 73 [⟨false, [.s 1 0 len cap]⟩, wP x] (mem1 len n) [] = some (.tup [wP ((((0, 0), (0, 0)), false) : P2), wI1 120], [onB2 x = false]) := by kernel_rfl
theorem rg2_mul_runI (x : A2) (len cap n : Nat) : runS (TV2 true) 73 [⟨false, [.s 1 0 len cap]⟩, wP (x, true)] (mem1 len n) [] = some (.tup [wP ((((0, 0), (0, 0)), true) : P2), wI1 0], [onB2 (x, true) = true]) := by kernel_rfl
theorem rg2_mul_nilN (x : P2) : run1 (TV2 false) 73 [⟨false, [.v (.slice none 0 0)]⟩, wP x] [] = some (.tup [wP ((((0, 0), (0, 0)), false) : P2), wI1 120], [onB2 x = false]) := by kernel_rfl
theorem rg2_mul_nilI (x : A2) : run1 (TV2 true) 73 [⟨false, [.v (.slice none 0 0)]⟩, wP (x, true)] [] = some (.tup [wP ((((0, 0), (0, 0)), true) : P2), wI1 0], [onB2 (x, true) = true]) := by kernel_rfl
theorem rg2_mul_nilF (x : A2) : run1 (TV2 true) 73 [⟨false, [.v (.slice none 0 0)]⟩, wP (x, false)] [(49, true)] = some (.tup [wP ((((0, 0), (0, 0)), true) : P2), wI1 0], [onB2 (x, false) = true, eqW ((0, 0) : N2) (0, 0) true]) := by kernel_rfl
theorem rg2_mul (x : P2) : PureS Try.prog 73 (fun s => [s, wpv x]) (fun len n => rsM2.vl (mulR2 x (n % pw len))) := by
  by_cases hon : On b2 (ιP2 x)
  · have hb := (onB2_iff x).2 hon
    unfold mulR2
    rw [hb]
    obtain ⟨x, c⟩ := x
    cases c with
    | false => exact rg2_mulF x hon
    | true =>
      intro b o len cap n hlen w hsl
      have h0 : smul (n % pw len) (ιP2 (x, true)) = .inf := smul_inf _
      show Invoked _ _ _ _ fun u w' => u = rsM2.vl (κP2 (smul (n % pw len) (ιP2 (x, true))), 0) ∧ _
      rw [h0]
      exact pureS_of_runS (TV2_ok true) (rg2_mul_runI x len cap n) (one_mem hb) (mem_rho1 hsl) (no_own1 b o) (vals_sl2 b o len cap (x, true)) (val_tup2 _ _)
  · have hb := onB2_not hon
    unfold mulR2
    rw [hb]
    intro b o len cap n hlen w hsl
    exact pureS_of_runS (TV2_ok false) (rg2_mul_runN x len cap n) (one_mem hb) (mem_rho1 hsl) (no_own1 b o) (vals_sl2 b o len cap x) (val_tup2 _ _)
theorem rg2_mul_nil (x : P2) : Pure Try.prog 73 [.slice none 0 0, wpv x] (rsM2.vl (mulR2 x 0)) := by
  by_cases hon : On b2 (ιP2 x)
  · have hb := (onB2_iff x).2 hon
    unfold mulR2
    rw [hb]
    obtain ⟨x, c⟩ := x
    cases c with
    | false =>
      refine pure_of_run1 (TV2_ok true) (rg2_mul_nilF x) ?_ (vals_nil2 _) fun ρ u hu => ?_
      · simp only [List.forall_mem_cons, List.not_mem_nil, false_imp_iff, implies_true, and_true]
        exact ⟨hb, eqW_of rfl⟩
      · rw [val_tup2 _ _ ρ u hu]; rfl
    | true =>
      refine pure_of_run1 (TV2_ok true) (rg2_mul_nilI x) (one_mem hb) (vals_nil2 _) fun ρ u hu => ?_
      rw [val_tup2 _ _ ρ u hu]; rfl
  · have hb := onB2_not hon
    unfold mulR2
    rw [hb]
    exact pure_of_run1 (TV2_ok false) (rg2_mul_nilN x) (one_mem hb) (vals_nil2 _) (val_tup2 _ _)
theorem rg2_mul_row : CallOk Try.prog (rowSB (kdP A2) rsM2 73 mulR2) := rowSB_ok rg2_mul rg2_mul_nil
end Go.Proofs.Ythceokldlinjlaa
