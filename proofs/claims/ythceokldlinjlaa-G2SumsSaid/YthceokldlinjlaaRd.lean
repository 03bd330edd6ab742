/-
  The document's base field, 2: a number of seven words less p times a word.
-/
import Derived.Test.YthceokldlinjlaaN
/-
  The document's base field, 1: P, Below, minus, Reduce, Add, Neg, Sub.
-/
namespace Go.Proofs.Ythceokldlinjlaa
open Go Go.Eng Go.RowKit Go.Wd Go.Alg Go.Pr

theorem rP_run : run1 none1 130 [] [] = some (sw ((List.range 6).map fun i => uv (dg pN i)), []) := by kernel_rfl
theorem rP_pure : Pure Try.prog 130 [] (wv pN) := by
  refine pure_of_run1 none1_ok rP_run (fun p hp => by cases hp) rfl fun ρ u hu => ?_
  rw [sw_val hu, range6_uv fun i _ => dg_lt _ _, num_dg, words_mod, wv_nat]
/-- The modulus by a name: owed that it is. -/
def rPQ (q : Nat) : Row where
  f := 130
  ans := fun
    | [] => some (.one (wN q), [q = pN])
    | _ => none
theorem rPQ_ok (q : Nat) : RowOk Try.prog (rPQ q) := by
  intro args s ob ha hob ρ vs hv
  unfold rPQ at ha
  simp only at ha
  split at ha
  · cases ha; cases hv
    have h := hob _ (List.mem_singleton.2 rfl)
    exact ⟨_, val_wN (A := Nat) rho0 q, by rw [h]; exact rP_pure⟩
  · cases ha
noncomputable def TQ1 (q : Nat) : CallT := tableT [sub64Row, add64Row, rPQ q]
theorem TQ1_ok (q : Nat) : CallOk Try.prog (TQ1 q) := tableT_ok (by
  simp only [List.forall_mem_cons, List.not_mem_nil, false_imp_iff, implies_true, and_true]
  exact ⟨sub64_ok, add64_ok, rPQ_ok q⟩)

/-! ### Below -/
def neO (u x j : Nat) (b : Bool) : Prop := ((dg u j : Nat) : Int) ≠ ((dg x j : Nat) : Int) ↔ b = true
def belowH (n : Nat) (b : Bool) : List (Nat × Bool) := List.replicate n (16, false) ++ [(16, true), (23, b)]
def BelowRun (n : Nat) : Prop := ∀ (u q : Nat) (b : Bool), run1 (TQ1 q) 128 [wN u] (belowH n b) = some (vB b, (q = pN) :: ((List.range n).map (fun j => neO u q (5 - j) false) ++ [neO u q (5 - n) true, ltO u q (5 - n) b]))
theorem below0 : BelowRun 0 := by intro u x b; cases b <;> kernel_rfl
theorem below1 : BelowRun 1 := by intro u x b; cases b <;> kernel_rfl
theorem below2 : BelowRun 2 := by intro u x b; cases b <;> kernel_rfl
theorem below3 : BelowRun 3 := by intro u x b; cases b <;> kernel_rfl
theorem below4 : BelowRun 4 := by intro u x b; cases b <;> kernel_rfl
theorem below5 : BelowRun 5 := by intro u x b; cases b <;> kernel_rfl
theorem below6 (u q : Nat) : run1 (TQ1 q) 128 [wN u] (List.replicate 6 (16, false)) = some (vB false, (q = pN) :: (List.range 6).map (fun j => neO u q (5 - j) false)) := by kernel_rfl
theorem belowR (n : Nat) (h : n < 6) : BelowRun n := by
  have : n = 0 ∨ n = 1 ∨ n = 2 ∨ n = 3 ∨ n = 4 ∨ n = 5 := by omega
  rcases this with rfl | rfl | rfl | rfl | rfl | rfl
  · exact below0
  · exact below1
  · exact below2
  · exact below3
  · exact below4
  · exact below5
theorem below_find {u : Nat} : ∀ m, m ≤ 6 → (∀ j, m ≤ j → j < 6 → dg u j = dg pN j) → ∃ (h : List (Nat × Bool)) (ob : List Prop), run1 (TQ1 pN) 128 [wN u] h = some (vB (decide (num (dg u) m < num (dg pN) m)), ob) ∧ ∀ p ∈ ob, p := by
  intro m
  induction m with
  | zero =>
    intro _ heq
    refine ⟨_, _, below6 u pN, fun p hp => ?_⟩
    rcases List.mem_cons.1 hp with rfl | hp
    · rfl
    obtain ⟨j, hj, rfl⟩ := List.mem_map.1 hp
    have hj : j < 6 := by simpa using hj
    have := heq (5 - j) (by omega) (by omega)
    unfold neO; rw [this]; simp
  | succ m ih =>
    intro hm heq
    have hu : num (dg u) m < pw m := num_lt m fun i _ => dg_lt u i
    have hx : num (dg pN) m < pw m := num_lt m fun i _ => dg_lt pN i
    by_cases h : dg u m = dg pN m
    · obtain ⟨hh, ob, h1, h2⟩ := ih (by omega) fun j h1 h2 => by
        by_cases e : j = m
        · rw [e]; exact h
        · exact heq j (by omega) h2
      refine ⟨hh, ob, ?_, h2⟩
      have : decide (num (dg u) (m + 1) < num (dg pN) (m + 1)) = decide (num (dg u) m < num (dg pN) m) := by
        show decide (num (dg u) m + dg u m * pw m < num (dg pN) m + dg pN m * pw m) = _
        rw [h]
        apply decide_eq_decide.2
        omega
      rw [this]; exact h1
    · have hrun := belowR (5 - m) (by omega) u pN (decide (dg u m < dg pN m))
      have e5 : 5 - (5 - m) = m := by omega
      rw [e5] at hrun
      have hv : decide (dg u m < dg pN m) = decide (num (dg u) (m + 1) < num (dg pN) (m + 1)) := by
        show _ = decide (num (dg u) m + dg u m * pw m < num (dg pN) m + dg pN m * pw m)
        apply decide_eq_decide.2
        generalize num (dg pN) m = c at *
        generalize num (dg u) m = d at *
        generalize dg pN m = e at *
        generalize dg u m = f at *
        by_cases hl : f < e
        · have hb : (f + 1) * pw m ≤ e * pw m := Nat.mul_le_mul_right _ hl
          rw [Nat.add_mul, Nat.one_mul] at hb
          exact ⟨fun _ => by omega, fun _ => hl⟩
        · have hb : (e + 1) * pw m ≤ f * pw m := Nat.mul_le_mul_right _ (by omega)
          rw [Nat.add_mul, Nat.one_mul] at hb
          exact ⟨fun x => absurd x hl, fun _ => by omega⟩
      rw [← hv]
      refine ⟨_, _, hrun, fun p hp => ?_⟩
      rcases List.mem_cons.1 hp with rfl | hp
      · rfl
      simp only [List.mem_append, List.mem_cons, List.not_mem_nil, or_false] at hp
      rcases hp with hp | rfl | rfl
      · obtain ⟨j, hj, rfl⟩ := List.mem_map.1 hp
        have hj : j < 5 - m := by simpa using hj
        have := heq (5 - j) (by omega) (by omega)
        unfold neO; rw [this]; simp
      · unfold neO
        have : ((dg u m : Nat) : Int) ≠ ((dg pN m : Nat) : Int) := by omega
        simp [this]
      · unfold ltO
        rw [decide_eq_true_iff]; omega
theorem below_pure (u : Nat) : Pure Try.prog 128 [wv u] (.bool (decide (u % M6 < pN))) := by
  obtain ⟨h, ob, h1, h2⟩ := below_find (u := u) 6 (by omega) (fun j hj hj' => by omega)
  rw [num_dg, dg_pN] at h1
  refine pure_of_run1 (TQ1_ok pN) h1 h2 (vals1 u) fun ρ v hv => ?_
  rw [vB_val] at hv
  cases hv; rfl
def belowQ (b : Bool) : Row where
  f := 128
  ans := fun
    | [x] => match asN Nat x with
      | some n => some (vB b, [n % M6 < pN ↔ b = true])
      | none => none
    | _ => none
theorem belowQ_ok (b : Bool) : RowOk Try.prog (belowQ b) := by
  intro args s ob ha hob ρ vs hv
  unfold belowQ at ha
  simp only at ha
  split at ha
  · split at ha
    · rename_i n hn
      cases ha
      obtain ⟨v1, us, h1, h2, rfl⟩ := vals_cons hv
      cases h2
      rw [asN_ok hn h1]
      have h := hob _ (List.mem_singleton.2 rfl)
      have e : decide (n % M6 < pN) = b := by
        cases b with
        | true => exact decide_eq_true (h.2 rfl)
        | false => exact decide_eq_false fun x => by cases h.1 x
      exact ⟨_, vB_val _ _, e ▸ below_pure n⟩
    · cases ha
  · cases ha

/-! ### minus -/
theorem minus_rrun (a b : Nat) : run1 (TQ1 0) 129 [wN a, wN b] [] = some (sw ((List.range 6).map fun i => uv (bd (dg a) (dg b) i)), (List.range 6).map (subOb (dg a) (dg b))) := by kernel_rfl
def minN (a b : Nat) : Nat := num (bd (dg a) (dg b)) 6
theorem minus_rpure (a b : Nat) : Pure Try.prog 129 [wv a, wv b] (wv (minN a b)) := by
  refine pure_of_run1 (TQ1_ok 0) (minus_rrun a b) (fun p hp => ?_) (vals2 a b) fun ρ u hu => ?_
  · obtain ⟨i, _, rfl⟩ := List.mem_map.1 hp; exact subOb_ok _ _ _
  · rw [sw_val hu, range6_uv fun i _ => bd_lt _ _ _, wv_nat]; rfl
theorem minN_eq {a b : Nat} (h : b % M6 ≤ a % M6) : minN a b = a % M6 - b % M6 := by
  have hs := num_bd (x := dg a) (y := dg b) 6 (fun i _ => dg_lt _ _) (fun i _ => dg_lt _ _)
  rw [num_dg, num_dg] at hs
  have hl : num (bd (dg a) (dg b)) 6 < M6 := num_lt 6 fun i _ => bd_lt _ _ i
  have hb := bw_le (dg a) (dg b) 6
  have hn : a % M6 < M6 := Nat.mod_lt _ M6_pos
  unfold minN
  have e : M6 = pw 6 := rfl
  rw [← e] at hs
  rcases Nat.lt_or_ge 0 (bw (dg a) (dg b) 6) with h1 | h1
  · have h2 : bw (dg a) (dg b) 6 = 1 := by omega
    rw [h2, Nat.one_mul] at hs; omega
  · have h2 : bw (dg a) (dg b) 6 = 0 := by omega
    rw [h2, Nat.zero_mul] at hs; omega

/-! ### Reduce -/
noncomputable def dRR : Fn1 := match fn1 87 with
  | some d => d
  | none => ⟨.skip, [], 0⟩
theorem dRR_ok : FnOk Try.prog 87 dRR := fn1_ok _ _ (by kernel_rfl)
noncomputable def ERR (b : Bool) : Eng := { tab := tyTab, call := callN tyTab (tableT [belowQ b, rowN0 130 pN, rowN2 129 minN]) fn1 1000 6, N := 10 }
set_option maxRecDepth 100000 in
theorem callRR (b : Bool) : CallOk Try.prog (ERR b).call := callN_ok mixed tyTab_ok (tableT_ok (by
  simp only [List.forall_mem_cons, List.not_mem_nil, false_imp_iff, implies_true, and_true]
  exact ⟨belowQ_ok b, rowN0_ok rP_pure, rowN2_ok minus_rpure⟩)) fn1_ok 1000 6
theorem tabRR (b : Bool) : ∀ t d, (ERR b).tab t = some d → TyOk Try.prog t d := tyTab_ok
noncomputable def cRRa : Code := seqL dRR.body
noncomputable def cRRL : Code := loopIn (blockIn (seqL (seqR dRR.body)))
noncomputable def cRRT : Code := seqR (seqR dRR.body)
theorem dRR_body : dRR.body = .seq cRRa (.seq (.block 0 (.loop cRRL)) cRRT) := by kernel_rfl
theorem dRR_ntmps : dRR.ntmps = 10 := by kernel_rfl
theorem dRR_results : dRR.results = [.cell 2 24] := by kernel_rfl
def stRR (n : Nat) : St := [(2, spt 16), (4, spt 17), (33, .bl [.w 6 n]), (35, .bl [.w 6 0])]
noncomputable def inRR (n : Nat) : St := initSlots 0 [wN n] (10 - [wN n].length) ++ []
theorem RR_start (n : Nat) : probe (ERR true) 100 cRRa (inRR n) 16 [] ((stRR n).map (·.1)) = some (0, [], (stRR n).map fun p => some p.2) := by kernel_rfl
theorem RR_exit (n : Nat) : probe (ERR true) 100 cRRL (stRR n) 20 [] ((stRR n).map (·.1)) = some (2, [n % M6 < pN ↔ true = true], (stRR n).map fun p => some p.2) := by kernel_rfl
theorem RR_step (n : Nat) : probe (ERR false) 100 cRRL (stRR n) 20 [] ((stRR (minN n pN)).map (·.1)) = some (0, [n % M6 < pN ↔ false = true], (stRR (minN n pN)).map fun p => some p.2) := by kernel_rfl
theorem RR_tail (n : Nat) : probe (ERR true) 100 cRRT (stRR n) 20 [] (([(4, spt 17), (35, .bl [.w 6 n])] : St).map (·.1)) = some (1, [], ([(4, spt 17), (35, .bl [.w 6 n])] : St).map fun p => some p.2) := by kernel_rfl
theorem keep_RR (n : Nat) : keepsB (stRR n) [16, 17] = true := by kernel_rfl
theorem blk_RR (n : Nat) : ∀ id ∈ [16, 17], ∃ l, (stRR n).blk id = some l := by
  intro id hid
  simp only [List.mem_cons, List.not_mem_nil, or_false] at hid
  rcases hid with rfl | rfl <;> exact ⟨_, rfl⟩
theorem RR_loop {w0 : World} {Q : Exit → Act → World → Prop} {n0 : Nat} (hQ : ∀ n a w, n % M6 = rd n0 → At 10 rho0 w0 (stRR n) a w → Q (.exit 0) a w) {a : Act} {w : World} (hA : At 10 rho0 w0 (stRR n0) a w) : (Code.loop cRRL).wp Try.prog Q a w := by
  have hp := pN_pos
  refine loop_rule (w0 := w0) (ρ0 := rho0) (N := 10) (ι := Nat) (fun n => n % M6 % pN = rd n0) (fun n => stRR n) (fun n => n % M6) ?_ n0 rfl a w hA
  intro n hn a w hA
  have hn : n % M6 % pN = rd n0 := hn
  by_cases h : n % M6 < pN
  · refine At.probe (E := ERR true) mixed (tabRR _) (callRR _) (RR_exit n) (fun p hp => by rw [List.mem_singleton] at hp; subst hp; exact ⟨fun _ => rfl, fun _ => h⟩) hA [16, 17] (blk_RR _) (keep_RR _) (no_rho0 _) fun a' w' hA' => ?_
    exact hQ n a' w' (by rw [← hn, Nat.mod_eq_of_lt h]) hA'
  · have hlt : pN % M6 = pN := Nat.mod_eq_of_lt pN_lt
    have e : minN n pN = n % M6 - pN := by rw [minN_eq (by rw [hlt]; omega), hlt]
    have hM : n % M6 < M6 := Nat.mod_lt _ M6_pos
    refine At.probe (E := ERR false) mixed (tabRR _) (callRR _) (RR_step n) (fun p hp => by rw [List.mem_singleton] at hp; subst hp; exact ⟨fun x => absurd x h, fun x => by cases x⟩) hA [16, 17] (blk_RR _) (keep_RR _) (no_rho0 _) fun a' w' hA' => ⟨minN n pN, ?_, ?_, hA'⟩
    · show minN n pN % M6 % pN = rd n0
      rw [e, Nat.mod_eq_of_lt (a := n % M6 - pN) (b := M6) (by omega), ← hn]
      exact (Nat.mod_eq_sub_mod (by omega)).symm
    · show minN n pN % M6 < n % M6
      rw [e, Nat.mod_eq_of_lt (a := n % M6 - pN) (b := M6) (by omega)]; omega
theorem rReduce (n : Nat) : Pure Try.prog 87 [wv n] (wv (rdN n)) := by
  intro w
  refine .inr ⟨dRR_ok.enter _ _, ?_⟩
  refine (calls_of_at (G := fun xs st => ∃ k, k % M6 = rd n ∧ xs = [wN k]) tyTab_ok dRR_ok (mem_rho0 w) (by kernel_rfl) (vals1 n) (by rw [dRR_ntmps]; simp) fun a hA0 => ?_).mono ?_
  · rw [dRR_ntmps] at hA0
    have hA0 : At 10 rho0 w (inRR n) a w := hA0
    rw [dRR_ntmps, dRR_results, dRR_body]
    refine wp_seq (At.probe (E := ERR true) mixed (tabRR _) (callRR _) (RR_start n) (fun p hp => by cases hp) hA0 [16, 17] (blk_RR _) (keep_RR _) (no_rho0 _) fun a1 w1 h1 => ?_)
    show Code.wp _ _ _ _ _
    refine wp_seq (wp_block (RR_loop (fun k a2 w2 hk h2 => ?_) h1))
    show Code.wp _ _ _ _ _
    refine At.probe (E := ERR true) mixed (tabRR _) (callRR _) (RR_tail k) (fun p hp => by cases hp) h2 [17] (fun id hid => by rw [List.mem_singleton] at hid; subst hid; exact ⟨_, rfl⟩) (by kernel_rfl) (no_rho0 _) fun a3 w3 h3 => ?_
    exact ⟨.inr rfl, _, [wN k], h3, by kernel_rfl, k, hk, rfl⟩
  · rintro e w' ⟨v, rfl, xs, st, ρ', hE, hval, hMk, k, hk, rfl⟩
    refine ⟨v, rfl, ?_, hE.below fun b ⟨id, _, _, hq⟩ => by cases hq⟩
    have : (wN k).val ρ' = some v := hval
    rw [val_wN] at this
    cases this
    rw [wv_nat, wv_nat, rdN, ← rd_val, ← hk]
    exact congrArg (fun l => Value.agg l.toArray) (words_mod 6 k).symm

/-! ### Add, Neg, Sub -/
noncomputable def rowsR4 : List Row := [sub64Row, add64Row, rowN0 130 pN, rowN2 129 minN, rowN1 87 rdN]
theorem rowsR4_ok : ∀ r ∈ rowsR4, RowOk Try.prog r := by
  simp only [rowsR4, List.forall_mem_cons, List.not_mem_nil, false_imp_iff, implies_true, and_true]
  exact ⟨sub64_ok, add64_ok, rowN0_ok rP_pure, rowN2_ok minus_rpure, rowN1_ok rReduce⟩
theorem rNeg_run (n : Nat) : run1 (tableT rowsR4) 121 [wN n] [] = some (.one (wN (rdN (minN pN (rdN n)))), []) := by kernel_rfl
theorem rNeg (n : Nat) : Pure Try.prog 121 [wv n] (wv (negF n)) := by
  refine pureN_of_run (tableT_ok rowsR4_ok) (rNeg_run n) (fun _ h => by cases h) (vals1 n) ?_
  have hz := (φ n).lt
  have hp : pN < M6 := pN_lt
  have hr : rdN n = (φ n).val := rfl
  have e1 : pN % M6 = pN := Nat.mod_eq_of_lt hp
  have e2 : rdN n % M6 = rdN n := Nat.mod_eq_of_lt (by rw [hr]; omega)
  have e : minN pN (rdN n) = pN - rdN n := by rw [minN_eq (by rw [e1, e2, hr]; omega), e1, e2]
  unfold negF
  show (φ (minN pN (rdN n))).val = _
  rw [e, ← rd_val, hr]
  show rd (pN - (φ n).val) = (pN - (φ n).val) % pN
  unfold rd
  rw [Nat.mod_eq_of_lt (a := pN - (φ n).val) (b := M6) (by omega)]
theorem rReduce' (n : Nat) : Pure Try.prog 87 [.agg (words 6 n).toArray] (.agg (words 6 (rd n)).toArray) := by
  have := rReduce n
  rw [wv_nat, wv_nat, rdN, ← rd_val] at this
  exact this
noncomputable def rowsR5 : List Row := [sub64Row, add64Row, row1 87 rd, row1 121 negF]
theorem rowsR5_ok : ∀ r ∈ rowsR5, RowOk Try.prog r := by
  simp only [rowsR5, List.forall_mem_cons, List.not_mem_nil, false_imp_iff, implies_true, and_true]
  exact ⟨sub64_ok, add64_ok, row1_ok rReduce', row1_ok fun n => by have := rNeg n; rw [wv_nat, wv_nat] at this; exact this⟩
theorem rAdd_run (m n : Nat) : run1 (tableT rowsR5) 120 [W6 m, W6 n] [] = some (.one (W6 (rd (asN6 (cd 0 (dg (rd m)) (dg (rd n)))))), (List.range 6).map (addOb 0 (dg (rd m)) (dg (rd n))) ++ [ob6 (cd 0 (dg (rd m)) (dg (rd n)))]) := by kernel_rfl
theorem rAdd (m n : Nat) : Pure Try.prog 120 [wv m, wv n] (wv (addF m n)) := by
  have hx := rd_lt m
  have hy := rd_lt n
  have h2 := M6_2p
  have hs := num_cd (c := 0) (x := dg (rd m)) (y := dg (rd n)) 6
  rw [dg_rd, dg_rd] at hs
  have hl := num_lt (d := cd 0 (dg (rd m)) (dg (rd n))) 6 fun i _ => cd_lt _ _ _ i
  have hl : num (cd 0 (dg (rd m)) (dg (rd n))) 6 < M6 := hl
  have hc : cw 0 (dg (rd m)) (dg (rd n)) 6 = 0 := by
    rcases Nat.eq_zero_or_pos (cw 0 (dg (rd m)) (dg (rd n)) 6) with h | h
    · exact h
    · have : 1 * pw 6 ≤ cw 0 (dg (rd m)) (dg (rd n)) 6 * pw 6 := Nat.mul_le_mul_right _ h
      have e : M6 = pw 6 := rfl
      omega
  rw [hc, Nat.zero_mul, Nat.add_zero, Nat.add_zero] at hs
  rw [wv_nat, wv_nat, wv_nat]
  refine pure2_of_run (tableT_ok rowsR5_ok) (rAdd_run m n) ?_ ?_
  · intro q hq
    simp only [List.mem_append, List.mem_cons, List.not_mem_nil, or_false] at hq
    rcases hq with hq | rfl
    · obtain ⟨i, _, rfl⟩ := List.mem_map.1 hq
      have : cw 0 (dg (rd m)) (dg (rd n)) i ≤ 1 := cw_le (by omega) i (fun _ _ => dg_lt _ _) (fun _ _ => dg_lt _ _)
      unfold addOb; omega
    · exact ob6_ok fun i => cd_lt _ _ _ i
  · rw [asN6_eq, hs, addF, ← add_val]
    refine congrArg (words 6) ?_
    show (rd m + rd n) % M6 % pN = _
    rw [Nat.mod_eq_of_lt (a := rd m + rd n) (b := M6) (by omega)]; rfl
theorem rSub_run (m n : Nat) : run1 (tableT [rowN2 120 addF, rowN1 121 negF]) 119 [wN m, wN n] [] = some (.one (wN (addF m (negF n))), []) := by kernel_rfl
theorem rSub (m n : Nat) : Pure Try.prog 119 [wv m, wv n] (wv (subF m n)) := by
  refine pureN_of_run (tableT_ok (by
    simp only [List.forall_mem_cons, List.not_mem_nil, false_imp_iff, implies_true, and_true]
    exact ⟨rowN2_ok rAdd, rowN1_ok rNeg⟩)) (rSub_run m n) (fun _ h => by cases h) (vals2 m n) ?_
  unfold addF negF subF
  rw [φ_val]; rfl
end Go.Proofs.Ythceokldlinjlaa
namespace Go.Proofs.Ythceokldlinjlaa
open Go Go.Eng Go.RowKit Go.Wd Go.Alg Go.Pr

/-- The run's own words: p's digits times q, with what is carried; then the difference. -/
def wI (n i : Nat) : Int := ((dg n i : Nat) : Int)
def hiI (pq q i : Nat) : Int := match Nat.blt i 6 with
  | true => (((wI pq i).toNat * ((q : Nat) : Int).toNat / 18446744073709551616 : Nat) : Int)
  | false => 0
def loI (pq q i : Nat) : Int := match Nat.blt i 6 with
  | true => (((wI pq i).toNat * ((q : Nat) : Int).toNat % 18446744073709551616 : Nat) : Int)
  | false => 0
def lcI (pq q : Nat) : Nat → Int
  | 0 => 0
  | i + 1 => IntKind.u64.wrap (hiI pq q i + ((((loI pq q i).toNat + (lcI pq q i).toNat + (0 : Int).toNat) / 18446744073709551616 : Nat) : Int))
def lsI (pq q i : Nat) : Int := ((((loI pq q i).toNat + (lcI pq q i).toNat + (0 : Int).toNat) % 18446744073709551616 : Nat) : Int)
def lbI (n pq q : Nat) : Nat → Int
  | 0 => 0
  | i + 1 => ((if (wI n i).toNat < (lsI pq q i).toNat + (lbI n pq q i).toNat then 1 else 0 : Nat) : Int)
def ldI (n pq q i : Nat) : Int := ((((wI n i).toNat + 18446744073709551616 - (lsI pq q i).toNat - (lbI n pq q i).toNat) % 18446744073709551616 : Nat) : Int)
noncomputable def TL (pq : Nat) : CallT := tableT [sub64Row, add64Row, mul64Row, rPQ pq]
theorem TL_ok (pq : Nat) : CallOk Try.prog (TL pq) := tableT_ok (by
  simp only [List.forall_mem_cons, List.not_mem_nil, false_imp_iff, implies_true, and_true]
  exact ⟨sub64_ok, add64_ok, mul64_ok, rPQ_ok pq⟩)
def mOb (x y : Int) : Prop := 0 ≤ x ∧ x < 18446744073709551616 ∧ 0 ≤ y ∧ y < 18446744073709551616
def cOb (x y z : Int) : Prop := 0 ≤ x ∧ 0 ≤ y ∧ 0 ≤ z ∧ z ≤ 1
def lessOb (n pq q i : Nat) : List Prop := match Nat.blt i 6 with
  | true => [mOb (wI pq i) (q : Int), cOb (loI pq q i) (lcI pq q i) 0, cOb (wI n i) (lsI pq q i) (lbI n pq q i)]
  | false => [cOb (loI pq q i) (lcI pq q i) 0, cOb (wI n i) (lsI pq q i) (lbI n pq q i)]
def W7 (n : Nat) : AV := ⟨true, [.w 7 n]⟩
theorem rless_run (n pq q : Nat) : run1 (TL pq) 146 [W7 n, uw q] [] = some (sw ((List.range 7).map fun i => .int .u64 (ldI n pq q i)), (pq = pN) :: ((List.range 7).map (lessOb n pq q)).flatten) := by kernel_rfl

/-! plainly -/
def hiN (pq q i : Nat) : Nat := match Nat.blt i 6 with
  | true => dg pq i * q / 18446744073709551616
  | false => 0
def loN (pq q i : Nat) : Nat := match Nat.blt i 6 with
  | true => dg pq i * q % 18446744073709551616
  | false => 0
def lcN (pq q : Nat) : Nat → Nat
  | 0 => 0
  | i + 1 => hiN pq q i + (loN pq q i + lcN pq q i) / 18446744073709551616
def lsN (pq q i : Nat) : Nat := (loN pq q i + lcN pq q i) % 18446744073709551616
theorem wI_toNat (n i : Nat) : (wI n i).toNat = dg n i := Int.toNat_natCast _
theorem hiI_eq (pq q i : Nat) : hiI pq q i = ((hiN pq q i : Nat) : Int) := by
  unfold hiI hiN
  split
  · rw [wI_toNat, Int.toNat_natCast]
  · rfl
theorem loI_eq (pq q i : Nat) : loI pq q i = ((loN pq q i : Nat) : Int) := by
  unfold loI loN
  split
  · rw [wI_toNat, Int.toNat_natCast]
  · rfl
theorem hilo (pq : Nat) {q : Nat} (hq : q < 18446744073709551616) (i : Nat) : hiN pq q i ≤ 18446744073709551614 ∧ loN pq q i < 18446744073709551616 := by
  unfold hiN loN
  have hd := dg_lt pq i
  split
  · refine ⟨?_, Nat.mod_lt _ (by decide)⟩
    have : dg pq i * q ≤ 18446744073709551615 * 18446744073709551615 := Nat.mul_le_mul (by omega) (by omega)
    have h2 : dg pq i * q / 18446744073709551616 ≤ 18446744073709551615 * 18446744073709551615 / 18446744073709551616 := Nat.div_le_div_right this
    exact Nat.le_trans h2 (by decide)
  · exact ⟨by decide, by decide⟩
theorem lcN_lt (pq : Nat) {q : Nat} (hq : q < 18446744073709551616) : ∀ i, lcN pq q i < 18446744073709551616 := by
  intro i
  induction i with
  | zero => show 0 < _; decide
  | succ i ih =>
    obtain ⟨h1, h2⟩ := hilo pq hq i
    show hiN pq q i + (loN pq q i + lcN pq q i) / 18446744073709551616 < _
    omega
theorem lcI_eq (pq : Nat) {q : Nat} (hq : q < 18446744073709551616) : ∀ i, lcI pq q i = ((lcN pq q i : Nat) : Int) := by
  intro i
  induction i with
  | zero => rfl
  | succ i ih =>
    show IntKind.u64.wrap _ = _
    rw [hiI_eq, loI_eq, ih, Int.toNat_natCast, Int.toNat_natCast, ← Int.natCast_add]
    have := lcN_lt pq hq (i + 1)
    have e : hiN pq q i + (loN pq q i + lcN pq q i + (0 : Int).toNat) / 18446744073709551616 = lcN pq q (i + 1) := rfl
    rw [e]
    exact wrap_nat this
theorem lsI_eq (pq : Nat) {q : Nat} (hq : q < 18446744073709551616) (i : Nat) : lsI pq q i = ((lsN pq q i : Nat) : Int) := by
  unfold lsI
  rw [loI_eq, lcI_eq pq hq, Int.toNat_natCast, Int.toNat_natCast]; rfl
theorem lbI_eq (n pq : Nat) {q : Nat} (hq : q < 18446744073709551616) : ∀ i, lbI n pq q i = ((bw (dg n) (lsN pq q) i : Nat) : Int) := by
  intro i
  induction i with
  | zero => rfl
  | succ i ih =>
    show ((if _ then 1 else 0 : Nat) : Int) = ((if _ then 1 else 0 : Nat) : Int)
    rw [wI_toNat, lsI_eq pq hq, ih, Int.toNat_natCast, Int.toNat_natCast]
theorem ldI_eq (n pq : Nat) {q : Nat} (hq : q < 18446744073709551616) (i : Nat) : ldI n pq q i = ((bd (dg n) (lsN pq q) i : Nat) : Int) := by
  unfold ldI
  rw [wI_toNat, lsI_eq pq hq, lbI_eq n pq hq, Int.toNat_natCast, Int.toNat_natCast]; rfl
theorem num_ls (pq : Nat) {q : Nat} : ∀ k, k ≤ 6 → num (lsN pq q) k + lcN pq q k * pw k = num (dg pq) k * q := by
  intro k
  induction k with
  | zero => intro _; simp [num, lcN]
  | succ k ih =>
    intro hk
    have h1 := ih (by omega)
    have hb : Nat.blt k 6 = true := by rw [Nat.blt_eq]; omega
    have h2 : lsN pq q k + lcN pq q (k + 1) * 18446744073709551616 = dg pq k * q + lcN pq q k := by
      show (loN pq q k + lcN pq q k) % 18446744073709551616 + (hiN pq q k + (loN pq q k + lcN pq q k) / 18446744073709551616) * 18446744073709551616 = _
      have e1 : loN pq q k = dg pq k * q % 18446744073709551616 := by unfold loN; rw [hb]
      have e2 : hiN pq q k = dg pq k * q / 18446744073709551616 := by unfold hiN; rw [hb]
      rw [e1, e2]
      generalize dg pq k * q = z
      omega
    simp only [num]
    rw [pw_succ, Nat.add_mul, ← h1, Nat.mul_comm (pw k) 18446744073709551616, ← Nat.mul_assoc]
    have h3 : (lsN pq q k + lcN pq q (k + 1) * 18446744073709551616) * pw k = (dg pq k * q + lcN pq q k) * pw k := by rw [h2]
    rw [Nat.add_mul, Nat.add_mul] at h3
    have h4 : dg pq k * pw k * q = dg pq k * q * pw k := by rw [Nat.mul_right_comm]
    rw [h4]
    omega
theorem num_ls7 {q : Nat} (hq : q < 18446744073709551616) : num (lsN pN q) 7 = pN * q := by
  have h := num_ls pN (q := q) 6 (Nat.le_refl _)
  rw [dg_pN] at h
  have hl := lcN_lt pN hq 6
  have e : lsN pN q 6 = lcN pN q 6 := by
    show (0 + lcN pN q 6) % 18446744073709551616 = _
    rw [Nat.zero_add, Nat.mod_eq_of_lt hl]
  show num (lsN pN q) 6 + lsN pN q 6 * pw 6 = _
  rw [e]; exact h
/-- A number of seven words less p times q. -/
def lessM (n q : Nat) : Nat := num (bd (dg n) (lsN pN q)) 7
theorem lessM_eq {n q : Nat} (hq : q < 18446744073709551616) (h : pN * q ≤ n % pw 7) : lessM n q = n % pw 7 - pN * q := by
  have hs := num_bd (x := dg n) (y := lsN pN q) 7 (fun i _ => dg_lt _ _) (fun i _ => Nat.mod_lt _ (by decide))
  rw [num_dg, num_ls7 hq] at hs
  have hl : num (bd (dg n) (lsN pN q)) 7 < pw 7 := num_lt 7 fun i _ => bd_lt _ _ i
  have hb := bw_le (dg n) (lsN pN q) 7
  have hn : n % pw 7 < pw 7 := Nat.mod_lt _ (pw_pos 7)
  unfold lessM
  rcases Nat.lt_or_ge 0 (bw (dg n) (lsN pN q) 7) with h1 | h1
  · have h2 : bw (dg n) (lsN pN q) 7 = 1 := by omega
    rw [h2, Nat.one_mul] at hs; omega
  · have h2 : bw (dg n) (lsN pN q) 7 = 0 := by omega
    rw [h2, Nat.zero_mul] at hs; omega
theorem val_W7 (ρ : Rho) (n : Nat) : (W7 n).val ρ = some (.agg (words 7 n).toArray) := by simp [W7, AV.val, conc, It.cs]
theorem rless_pure (n : Nat) {q : Nat} (hq : q < 18446744073709551616) : Pure Try.prog 146 [.agg (words 7 n).toArray, uv q] (.agg (words 7 (lessM n q)).toArray) := by
  have hv : vals rho0 [W7 n, uw q] = some [.agg (words 7 n).toArray, uv q] := by
    have e : AV.val rho0 (uw q) = some (uv q) := AV.val_v (ρ := rho0) (x := uv q) rfl
    simp only [vals, val_W7, e]
  refine pure_of_run1 (TL_ok pN) (rless_run n pN q) (fun p hp => ?_) hv fun ρ u hu => ?_
  · rcases List.mem_cons.1 hp with rfl | hp
    · rfl
    obtain ⟨l, hl, hp⟩ := List.mem_flatten.1 hp
    obtain ⟨i, hi, rfl⟩ := List.mem_map.1 hl
    have hb := bw_le (dg n) (lsN pN q) i
    have c1 : cOb (loI pN q i) (lcI pN q i) 0 := by
      unfold cOb; rw [loI_eq, lcI_eq pN hq]; omega
    have c2 : cOb (wI n i) (lsI pN q i) (lbI n pN q i) := by
      unfold cOb wI; rw [lsI_eq pN hq, lbI_eq n pN hq]; omega
    have c3 : mOb (wI pN i) (q : Int) := by
      have := dg_lt pN i
      unfold mOb wI; omega
    unfold lessOb at hp
    split at hp
    · simp only [List.mem_cons, List.not_mem_nil, or_false] at hp
      rcases hp with rfl | rfl | rfl
      · exact c3
      · exact c1
      · exact c2
    · simp only [List.mem_cons, List.not_mem_nil, or_false] at hp
      rcases hp with rfl | rfl
      · exact c1
      · exact c2
  · rw [sw_val hu]
    have : ((List.range 7).map fun i => Value.int .u64 (ldI n pN q i)) = words 7 (lessM n q) := by
      unfold lessM
      rw [words_map 7 fun i _ => bd_lt _ _ i]
      apply List.map_congr_left
      intro i _
      rw [ldI_eq n pN hq]
    rw [this]
end Go.Proofs.Ythceokldlinjlaa
/-
  bits.Div64 by the constant that p's highest word and one make: its row.
-/
/-
  bits.Div64 by the constant that p's highest word and one make.
-/
namespace Go.Proofs.Ythceokldlinjlaa
open Go Go.Eng Go.RowKit Go.Wd Go.Alg Go.Pr

/-! ### plainly: a digit of a quotient, as Knuth has it -/
section
variable {v1 v0 U d : Nat}
/-- The digit. -/
def kQ (v1 v0 U d : Nat) : Nat := (U * 4294967296 + d) / (v1 * 4294967296 + v0)
structure KInv (v1 v0 U d q r : Nat) : Prop where
  sum : q * v1 + r = U
  ge : kQ v1 v0 U d ≤ q
  le : q ≤ 4294967297
  rlt : r < 4294967296
theorem kq_mul : kQ v1 v0 U d * (v1 * 4294967296 + v0) ≤ U * 4294967296 + d := Nat.div_mul_le_self _ _
theorem k_start (h1 : 2147483648 ≤ v1) (h1' : v1 < 4294967296) (h0 : v0 < 4294967296) (hd : d < 4294967296) (hU : U < v1 * 4294967296 + v0) : KInv v1 v0 U d (U / v1) (U % v1) := by
  have hv : 0 < v1 := by omega
  refine ⟨by rw [Nat.mul_comm]; exact Nat.div_add_mod U v1, ?_, ?_, by have := Nat.mod_lt U hv; omega⟩
  · rw [Nat.le_div_iff_mul_le hv]
    have h := kq_mul (v1 := v1) (v0 := v0) (U := U) (d := d)
    generalize kQ v1 v0 U d = q at *
    rw [Nat.mul_add, ← Nat.mul_assoc] at h
    have : q * v1 * 4294967296 < (U + 1) * 4294967296 := by
      rw [Nat.add_mul]; omega
    have := Nat.lt_of_mul_lt_mul_right this
    omega
  · have : U / v1 < 4294967298 := by
      rw [Nat.div_lt_iff_lt_mul hv]
      have : v1 * 4294967296 + v0 ≤ 4294967298 * v1 := by omega
      omega
    omega
/-- The check tells that q is too large. -/
theorem KInv.big {q r : Nat} (h : KInv v1 v0 U d q r) (hU : U < v1 * 4294967296 + v0) (hd : d < 4294967296) (hc : 4294967296 ≤ q ∨ 4294967296 * r + d < q * v0) : kQ v1 v0 U d + 1 ≤ q := by
  have hs := h.sum
  rcases hc with hc | hc
  · have : kQ v1 v0 U d < 4294967296 := by
      unfold kQ
      rw [Nat.div_lt_iff_lt_mul (by omega)]
      have : (U + 1) * 4294967296 ≤ (v1 * 4294967296 + v0) * 4294967296 := Nat.mul_le_mul_right _ hU
      rw [Nat.add_mul] at this
      rw [Nat.mul_comm 4294967296]; omega
    omega
  · have hm := kq_mul (v1 := v1) (v0 := v0) (U := U) (d := d)
    rcases Nat.lt_or_ge (kQ v1 v0 U d) q with h2 | h2
    · exact h2
    · have h3 : q * (v1 * 4294967296 + v0) ≤ kQ v1 v0 U d * (v1 * 4294967296 + v0) := Nat.mul_le_mul_right _ h2
      rw [Nat.mul_add q, ← Nat.mul_assoc] at h3
      generalize q * v1 = z at *
      omega
theorem KInv.fit {q r : Nat} (h : q * v1 + r = U) (hg : kQ v1 v0 U d ≤ q) (hv : 0 < v1 * 4294967296 + v0) (hc : q * v0 ≤ 4294967296 * r + d) : q = kQ v1 v0 U d := by
  refine Nat.le_antisymm ?_ hg
  unfold kQ
  rw [Nat.le_div_iff_mul_le hv, Nat.mul_add, ← Nat.mul_assoc]
  generalize q * v1 = z at *
  omega
/-- One less, as long as what is left stays below 2^32. -/
theorem KInv.next {q r : Nat} (h : KInv v1 v0 U d q r) (hU : U < v1 * 4294967296 + v0) (hd : d < 4294967296) (hc : 4294967296 ≤ q ∨ 4294967296 * r + d < q * v0) (hr : r + v1 < 4294967296) : KInv v1 v0 U d (q - 1) (r + v1) := by
  have hb := h.big hU hd hc
  refine ⟨?_, by omega, by have := h.le; omega, hr⟩
  have : (q - 1) * v1 + v1 = q * v1 := by
    rw [← Nat.succ_mul]; congr 1; omega
  have := h.sum; omega
/-- One less, and done. -/
theorem KInv.break {q r : Nat} (h : KInv v1 v0 U d q r) (hU : U < v1 * 4294967296 + v0) (hd : d < 4294967296) (h0 : v0 < 4294967296) (hc : 4294967296 ≤ q ∨ 4294967296 * r + d < q * v0) (hr : 4294967296 ≤ r + v1) : q - 1 = kQ v1 v0 U d := by
  have hb := h.big hU hd hc
  have hl := h.le
  have hs : (q - 1) * v1 + (r + v1) = U := by
    have : (q - 1) * v1 + v1 = q * v1 := by
      rw [← Nat.succ_mul]; congr 1; omega
    have := h.sum; omega
  refine KInv.fit hs (by omega) (by omega) ?_
  have : (q - 1) * v0 ≤ 4294967296 * 4294967296 := Nat.mul_le_mul (by omega) (by omega)
  have : 4294967296 * 4294967296 ≤ 4294967296 * (r + v1) := Nat.mul_le_mul_left _ hr
  omega
theorem KInv.done {q r : Nat} (h : KInv v1 v0 U d q r) (hv : 0 < v1 * 4294967296 + v0) (hc : q * v0 ≤ 4294967296 * r + d) : q = kQ v1 v0 U d := KInv.fit h.sum h.ge hv hc
end
end Go.Proofs.Ythceokldlinjlaa
/-
  bits.Div64 by the constant that p's highest word and one make: the runs.
-/
namespace Go.Proofs.Ythceokldlinjlaa
open Go Go.Eng Go.RowKit Go.Wd Go.Alg Go.Pr

def y0N : Nat := 0x1a0111ea397fe69b
theorem lz_run : run1 none1 148 [uw y0N] [] = some (vI .i64 3, []) := by kernel_rfl
theorem val_uw (ρ : Rho) (n : Nat) : (uw n).val ρ = some (uv n) := AV.val_v (ρ := ρ) (x := uv n) rfl
theorem vals_uw (n : Nat) : vals rho0 [uw n] = some [uv n] := by simp only [vals, val_uw]
theorem lz_pure : Pure Try.prog 148 [uv y0N] (.int .i64 3) := pure_of_run1 none1_ok lz_run (fun p hp => by cases hp) (vals_uw y0N) fun ρ u hu => by
  rw [vI_val] at hu
  cases hu; rfl
def lzRow : Row where
  f := 148
  ans := fun
    | [⟨false, [.v (.int .u64 x)]⟩] => match x with
      | .ofNat n => match Nat.beq n y0N with
        | true => some (vI .i64 3, [])
        | false => none
      | _ => none
    | _ => none
theorem lz_ok : RowOk Try.prog lzRow := by
  intro args s ob ha hob ρ vs hv
  unfold lzRow at ha
  simp only at ha
  split at ha
  · rename_i x
    split at ha
    · rename_i n
      split at ha
      · rename_i hb
        cases ha
        have e := Nat.eq_of_beq_eq_true hb
        subst e
        have : vals ρ [uw y0N] = some [uv y0N] := by simp only [vals, val_uw]
        have hv : vals ρ [uw y0N] = some vs := hv
        rw [this] at hv
        cases hv
        exact ⟨_, vI_val _ _ _, lz_pure⟩
      · cases ha
    · cases ha
  · cases ha
def takeS : Nat → Code → List Code
  | 0, _ => []
  | n + 1, .seq a b => a :: takeS n b
  | _, _ => []
def dropS : Nat → Code → Code
  | 0, c => c
  | n + 1, .seq _ b => dropS n b
  | _, c => c
noncomputable def dD : Fn1 := match fn1 136 with
  | some d => d
  | none => ⟨.skip, [], 0⟩
theorem dD_ok : FnOk Try.prog 136 dD := fn1_ok _ _ (by kernel_rfl)
noncomputable def ED : Eng := { tab := tyTab, call := callN tyTab (tableT [lzRow]) fn1 1000 6, N := 135 }
set_option maxRecDepth 100000 in
theorem callD : CallOk Try.prog ED.call := callN_ok mixed tyTab_ok (tableT_ok (by
  simp only [List.forall_mem_cons, List.not_mem_nil, false_imp_iff, implies_true, and_true]
  exact lz_ok)) fn1_ok 1000 6
noncomputable def cD1 : List Code := takeS 14 dD.body
noncomputable def cDL1 : Code := loopIn (blockIn (seqL (dropS 14 dD.body)))
noncomputable def cD2 : List Code := takeS 3 (dropS 15 dD.body)
noncomputable def cDL2 : Code := loopIn (blockIn (seqL (dropS 18 dD.body)))
noncomputable def cDT : Code := dropS 19 dD.body
theorem dD_chain : dD.body = chain cD1 (.seq (.block 0 (.loop cDL1)) (chain cD2 (.seq (.block 2 (.loop cDL2)) cDT))) := by kernel_rfl
theorem dD_ntmps : dD.ntmps = 135 := by kernel_rfl
theorem dD_results : dD.results = [.tmp 6, .tmp 7] := by kernel_rfl
def y8N : Nat := 0xd0088f51cbff34d8
def v1N : Nat := 0xd0088f51
def v0N : Nat := 0xcbff34d8
/-- The run's own words. -/
def un32I (hi lo : Nat) : Int := Eng.bits .or .u64 (IntKind.u64.wrap ((hi : Int) * 2 ^ min (Int.toNat 3) IntKind.u64.bits)) ((lo : Int).fdiv (2 ^ min (Int.toNat 61) IntKind.u64.bits))
def un10I (lo : Nat) : Int := IntKind.u64.wrap ((lo : Int) * 2 ^ min (Int.toNat 3) IntKind.u64.bits)
def hi32 (x : Int) : Int := x.fdiv (2 ^ min (Int.toNat 32) IntKind.u64.bits)
def lo32 (x : Int) : Int := Eng.bits .and .u64 x 4294967295
/-- Ahead of the first loop. -/
def stD1 (U d1 d0 q r : Int) : St := [(4, su y8N), (16, su 3), (18, su v1N), (20, su v0N), (22, su U), (26, su d1), (28, su d0), (30, su q), (32, su r)]
def qI (U : Int) : Int := IntKind.u64.wrap (U.tdiv (v1N : Int))
def rI (U : Int) : Int := IntKind.u64.wrap (U - IntKind.u64.wrap (qI U * (v1N : Int)))
noncomputable def inD (hi lo : Nat) : St := initSlots 0 [uw hi, uw lo, uw y0N] (135 - [uw hi, uw lo, uw y0N].length) ++ []
theorem D_zero (hi lo : Nat) : run1 (tableT [lzRow]) 136 [uw hi, uw lo, uw y0N] [(24, false), (27, true)] = some (.tup [⟨false, [.v (.int .u64 (IntKind.u64.wrap ((lo : Int).tdiv (y0N : Int))))]⟩, ⟨false, [.v (.int .u64 ((lo : Int).tmod (y0N : Int)))]⟩],
  [(y0N : Int) ≤ (hi : Int) ↔ false = true, (hi : Int) = 0 ↔ true = true]) := by kernel_rfl
theorem D_start (hi lo : Nat) : probes ED 100 cD1 (inD hi lo) 16 [(24, false), (27, false)] ((stD1 (un32I hi lo) (hi32 (un10I lo)) (lo32 (un10I lo)) (qI (un32I hi lo)) (rI (un32I hi lo))).map (·.1)) =
  some (0, [(y0N : Int) ≤ (hi : Int) ↔ false = true, (hi : Int) = 0 ↔ false = true], (stD1 (un32I hi lo) (hi32 (un10I lo)) (lo32 (un10I lo)) (qI (un32I hi lo)) (rI (un32I hi lo))).map fun p => some p.2) := by kernel_rfl
def cA (q : Int) (b : Bool) : Prop := q ≥ 4294967296 ↔ b = true
def cB (q r d : Int) (b : Bool) : Prop := IntKind.u64.wrap (q * (v0N : Int)) > IntKind.u64.wrap (IntKind.u64.wrap (4294967296 * r) + d) ↔ b = true
def r2I (r : Int) : Int := IntKind.u64.wrap (r + (v1N : Int))
def q2I (q : Int) : Int := IntKind.u64.wrap (q - 1)
theorem D1_done (U d1 d0 q r : Int) : probe ED 100 cDL1 (stD1 U d1 d0 q r) 40 [(68, false), (77, false)] ((stD1 U d1 d0 q r).map (·.1)) = some (2, [cA q false, cB q r d1 false], (stD1 U d1 d0 q r).map fun p => some p.2) := by kernel_rfl
theorem D1_an (U d1 d0 q r : Int) : probe ED 100 cDL1 (stD1 U d1 d0 q r) 40 [(68, true), (85, false)] ((stD1 U d1 d0 (q2I q) (r2I r)).map (·.1)) = some (0, [cA q true, cA (r2I r) false], (stD1 U d1 d0 (q2I q) (r2I r)).map fun p => some p.2) := by kernel_rfl
theorem D1_ab (U d1 d0 q r : Int) : probe ED 100 cDL1 (stD1 U d1 d0 q r) 40 [(68, true), (85, true)] ((stD1 U d1 d0 (q2I q) (r2I r)).map (·.1)) = some (2, [cA q true, cA (r2I r) true], (stD1 U d1 d0 (q2I q) (r2I r)).map fun p => some p.2) := by kernel_rfl
theorem D1_bn (U d1 d0 q r : Int) : probe ED 100 cDL1 (stD1 U d1 d0 q r) 40 [(68, false), (77, true), (85, false)] ((stD1 U d1 d0 (q2I q) (r2I r)).map (·.1)) = some (0, [cA q false, cB q r d1 true, cA (r2I r) false], (stD1 U d1 d0 (q2I q) (r2I r)).map fun p => some p.2) := by kernel_rfl
theorem D1_bb (U d1 d0 q r : Int) : probe ED 100 cDL1 (stD1 U d1 d0 q r) 40 [(68, false), (77, true), (85, true)] ((stD1 U d1 d0 (q2I q) (r2I r)).map (·.1)) = some (2, [cA q false, cB q r d1 true, cA (r2I r) true], (stD1 U d1 d0 (q2I q) (r2I r)).map fun p => some p.2) := by kernel_rfl
/-- Ahead of the second loop. -/
def stD2 (q1 V d0 q r : Int) : St := [(4, su y8N), (16, su 3), (18, su v1N), (20, su v0N), (28, su d0), (30, su q1), (34, su V), (36, su q), (32, su r)]
def un21I (U d1 q : Int) : Int := IntKind.u64.wrap (IntKind.u64.wrap (IntKind.u64.wrap (U * 4294967296) + d1) - IntKind.u64.wrap (q * (y8N : Int)))
theorem D_mid (U d1 d0 q r : Int) : probes ED 100 cD2 (stD1 U d1 d0 q r) 40 [] ((stD2 q (un21I U d1 q) d0 (qI (un21I U d1 q)) (rI (un21I U d1 q))).map (·.1)) = some (0, [], (stD2 q (un21I U d1 q) d0 (qI (un21I U d1 q)) (rI (un21I U d1 q))).map fun p => some p.2) := by kernel_rfl
theorem D2_done (q1 V d0 q r : Int) : probe ED 100 cDL2 (stD2 q1 V d0 q r) 40 [(103, false), (112, false)] ((stD2 q1 V d0 q r).map (·.1)) = some (4, [cA q false, cB q r d0 false], (stD2 q1 V d0 q r).map fun p => some p.2) := by kernel_rfl
theorem D2_an (q1 V d0 q r : Int) : probe ED 100 cDL2 (stD2 q1 V d0 q r) 40 [(103, true), (120, false)] ((stD2 q1 V d0 (q2I q) (r2I r)).map (·.1)) = some (0, [cA q true, cA (r2I r) false], (stD2 q1 V d0 (q2I q) (r2I r)).map fun p => some p.2) := by kernel_rfl
theorem D2_ab (q1 V d0 q r : Int) : probe ED 100 cDL2 (stD2 q1 V d0 q r) 40 [(103, true), (120, true)] ((stD2 q1 V d0 (q2I q) (r2I r)).map (·.1)) = some (4, [cA q true, cA (r2I r) true], (stD2 q1 V d0 (q2I q) (r2I r)).map fun p => some p.2) := by kernel_rfl
theorem D2_bn (q1 V d0 q r : Int) : probe ED 100 cDL2 (stD2 q1 V d0 q r) 40 [(103, false), (112, true), (120, false)] ((stD2 q1 V d0 (q2I q) (r2I r)).map (·.1)) = some (0, [cA q false, cB q r d0 true, cA (r2I r) false], (stD2 q1 V d0 (q2I q) (r2I r)).map fun p => some p.2) := by kernel_rfl
theorem D2_bb (q1 V d0 q r : Int) : probe ED 100 cDL2 (stD2 q1 V d0 q r) 40 [(103, false), (112, true), (120, true)] ((stD2 q1 V d0 (q2I q) (r2I r)).map (·.1)) = some (4, [cA q false, cB q r d0 true, cA (r2I r) true], (stD2 q1 V d0 (q2I q) (r2I r)).map fun p => some p.2) := by kernel_rfl
def quoI (q1 q : Int) : Int := IntKind.u64.wrap (IntKind.u64.wrap (q1 * 4294967296) + q)
def remI (V d0 q : Int) : Int := (IntKind.u64.wrap (IntKind.u64.wrap (IntKind.u64.wrap (V * 4294967296) + d0) - IntKind.u64.wrap (q * (y8N : Int)))).fdiv (2 ^ min (Int.toNat 3) IntKind.u64.bits)
theorem D_tail (q1 V d0 q r : Int) : probe ED 100 cDT (stD2 q1 V d0 q r) 40 [] (([(12, su (quoI q1 q)), (14, su (remI V d0 q))] : St).map (·.1)) = some (1, [], ([(12, su (quoI q1 q)), (14, su (remI V d0 q))] : St).map fun p => some p.2) := by kernel_rfl
end Go.Proofs.Ythceokldlinjlaa
/-
  bits.Div64 by the constant that p's highest word and one make: the contract.
-/
namespace Go.Proofs.Ythceokldlinjlaa
open Go Go.Eng Go.RowKit Go.Wd Go.Alg Go.Pr

theorem tIff {p : Prop} (h : p) : p ↔ true = true := ⟨fun _ => rfl, fun _ => h⟩
theorem fIff {p : Prop} (h : ¬ p) : p ↔ false = true := ⟨fun e => absurd e h, fun e => by cases e⟩
theorem v_eq : v1N * 4294967296 + v0N = y8N := by decide +kernel
theorem v1_ge : 2147483648 ≤ v1N := by decide +kernel
theorem v1_lt : v1N < 4294967296 := by decide +kernel
theorem v0_lt : v0N < 4294967296 := by decide +kernel
theorem y8_eq : y8N = y0N * 8 := by decide +kernel
theorem y8_lt : y8N < 18446744073709551616 := by decide +kernel
theorem hi32_eq (x : Nat) : hi32 (x : Int) = ((x / 4294967296 : Nat) : Int) := shr32 x
theorem lo32_eq (x : Nat) : lo32 (x : Int) = ((x % 4294967296 : Nat) : Int) := and32 x
theorem un10_eq (lo : Nat) : un10I lo = ((lo * 8 % 18446744073709551616 : Nat) : Int) := by
  unfold un10I
  have : (2 : Int) ^ min (Int.toNat 3) IntKind.u64.bits = ((8 : Nat) : Int) := by decide
  rw [this, ← Int.natCast_mul, wrap_mod]
theorem or_add (a b : Nat) (ha : a * 8 < 18446744073709551616) (hb : b < 8) : Eng.bits .or .u64 ((a * 8 : Nat) : Int) (b : Int) = ((a * 8 + b : Nat) : Int) := by
  have e : (BitVec.ofInt IntKind.u64.bits ((a * 8 : Nat) : Int) ||| BitVec.ofInt IntKind.u64.bits (b : Int)).toNat = a * 8 + b := by
    show (BitVec.ofInt 64 ((a * 8 : Nat) : Int) ||| BitVec.ofInt 64 (b : Int)).toNat = a * 8 + b
    rw [BitVec.toNat_or, BitVec.toNat_ofInt, BitVec.toNat_ofInt]
    have h1 : (((a * 8 : Nat) : Int) % ((2 ^ 64 : Nat) : Int)).toNat = a * 8 := by omega
    have h2 : ((b : Int) % ((2 ^ 64 : Nat) : Int)).toNat = b := by omega
    rw [h1, h2]
    have h3 := Nat.shiftLeft_add_eq_or_of_lt (show b < 2 ^ 3 by omega) a
    rw [Nat.shiftLeft_eq] at h3
    exact h3.symm
  unfold Eng.bits
  simp only [e]
  exact wrap_nat (by omega)
theorem un32_eq (hi lo : Nat) (hh : hi * 8 < 18446744073709551616) (hl : lo < 18446744073709551616) : un32I hi lo = ((hi * 8 + lo / 2305843009213693952 : Nat) : Int) := by
  unfold un32I
  have e1 : (2 : Int) ^ min (Int.toNat 3) IntKind.u64.bits = ((8 : Nat) : Int) := by decide
  have e2 : (2 : Int) ^ min (Int.toNat 61) IntKind.u64.bits = ((2305843009213693952 : Nat) : Int) := by decide
  rw [e1, e2, ← Int.natCast_mul, wrap_nat hh, ← Int.ofNat_fdiv]
  exact or_add hi _ hh (by omega)
theorem qI_eq {U : Nat} (h : U < 18446744073709551616) : qI (U : Int) = ((U / v1N : Nat) : Int) := by
  unfold qI
  rw [← Int.ofNat_tdiv]
  exact wrap_nat (Nat.lt_of_le_of_lt (Nat.div_le_self _ _) h)
theorem rI_eq {U : Nat} (h : U < 18446744073709551616) : rI (U : Int) = ((U % v1N : Nat) : Int) := by
  unfold rI
  rw [qI_eq h, ← Int.natCast_mul]
  have h1 := Nat.div_add_mod U v1N
  rw [Nat.mul_comm] at h1
  rw [wrap_nat (by omega)]
  have : (U : Int) - ((U / v1N * v1N : Nat) : Int) = ((U % v1N : Nat) : Int) := by omega
  rw [this]
  exact wrap_nat (by omega)
theorem r2I_eq {r : Nat} (h : r < 4294967296) : r2I (r : Int) = ((r + v1N : Nat) : Int) := by
  unfold r2I
  have := v1_lt
  rw [← Int.natCast_add]
  exact wrap_nat (by omega)
theorem q2I_eq {q : Nat} (h : 1 ≤ q) (h2 : q ≤ 4294967297) : q2I (q : Int) = ((q - 1 : Nat) : Int) := by
  unfold q2I
  have : (q : Int) - 1 = ((q - 1 : Nat) : Int) := by omega
  rw [this]
  exact wrap_nat (by omega)
theorem cA_iff {q : Nat} {b : Bool} : cA (q : Int) b ↔ (4294967296 ≤ q ↔ b = true) := by
  unfold cA
  have : (q : Int) ≥ 4294967296 ↔ 4294967296 ≤ q := by omega
  rw [this]
theorem cB_iff {q r d : Nat} (hq : q < 4294967296) (hr : r < 4294967296) (hd : d < 4294967296) {b : Bool} : cB (q : Int) (r : Int) (d : Int) b ↔ (4294967296 * r + d < q * v0N ↔ b = true) := by
  unfold cB
  have h1 : q * v0N < 18446744073709551616 := by
    have : q * v0N ≤ 4294967295 * 4294967295 := Nat.mul_le_mul (by omega) (by have := v0_lt; omega)
    omega
  have e1 : (4294967296 : Int) * (r : Int) = ((4294967296 * r : Nat) : Int) := by omega
  rw [← Int.natCast_mul, wrap_nat h1, e1, wrap_nat (by omega), ← Int.natCast_add, wrap_nat (by omega)]
  have : ((q * v0N : Nat) : Int) > ((4294967296 * r + d : Nat) : Int) ↔ 4294967296 * r + d < q * v0N := by omega
  rw [this]
theorem keep_D1 (U d1 d0 q r : Int) : keepsB (stD1 U d1 d0 q r) [] = true := by kernel_rfl
theorem keep_D2 (U d1 d0 q r : Int) : keepsB (stD2 U d1 d0 q r) [] = true := by kernel_rfl
theorem none_blk (st : St) : ∀ id ∈ ([] : List Nat), ∃ l, st.blk id = some l := fun id h => by cases h
theorem D1_loop {w0 : World} {Q : Exit → Act → World → Prop} {U d d0 q0 r0 : Nat} (hU : U < y8N) (hd : d < 4294967296)
    (hQ : ∀ (r : Int) a w, At 135 rho0 w0 (stD1 (U : Int) (d : Int) (d0 : Int) ((kQ v1N v0N U d : Nat) : Int) r) a w → Q (.exit 0) a w) {a : Act} {w : World}
    (hI : KInv v1N v0N U d q0 r0) (hA : At 135 rho0 w0 (stD1 (U : Int) (d : Int) (d0 : Int) (q0 : Int) (r0 : Int)) a w) : (Code.loop cDL1).wp Try.prog Q a w := by
  have hU' : U < v1N * 4294967296 + v0N := by rw [v_eq]; exact hU
  refine loop_rule (w0 := w0) (ρ0 := rho0) (N := 135) (ι := Nat × Nat) (fun p => KInv v1N v0N U d p.1 p.2) (fun p => stD1 (U : Int) (d : Int) (d0 : Int) (p.1 : Int) (p.2 : Int)) (fun p => p.1) ?_ (q0, r0) hI a w hA
  rintro ⟨q, r⟩ hI a w hA
  have hI : KInv v1N v0N U d q r := hI
  have hr := hI.rlt
  have hv0 := v0_lt
  have hv1 := v1_lt
  have er := r2I_eq hr
  by_cases hAq : 4294967296 ≤ q
  · have hb := hI.big hU' hd (.inl hAq)
    have eq := q2I_eq (q := q) (by omega) hI.le
    by_cases hr2 : 4294967296 ≤ r + v1N
    · refine At.probe (E := ED) mixed tyTab_ok callD (D1_ab _ _ _ _ _) (fun p hp => ?_) hA [] (none_blk _) (keep_D1 _ _ _ _ _) (no_rho0 _) fun a' w' hA' => ?_
      · rw [er] at hp
        simp only [List.mem_cons, List.not_mem_nil, or_false] at hp
        rcases hp with rfl | rfl
        · rw [cA_iff]; exact tIff hAq
        · rw [cA_iff]; exact tIff hr2
      · rw [eq, hI.break hU' hd hv0 (.inl hAq) hr2] at hA'
        exact hQ _ a' w' hA'
    · refine At.probe (E := ED) mixed tyTab_ok callD (D1_an _ _ _ _ _) (fun p hp => ?_) hA [] (none_blk _) (keep_D1 _ _ _ _ _) (no_rho0 _) fun a' w' hA' => ⟨(q - 1, r + v1N), hI.next hU' hd (.inl hAq) (by omega), by show q - 1 < q; omega, by rw [eq, er] at hA'; exact hA'⟩
      rw [er] at hp
      simp only [List.mem_cons, List.not_mem_nil, or_false] at hp
      rcases hp with rfl | rfl
      · rw [cA_iff]; exact tIff hAq
      · rw [cA_iff]; exact fIff hr2
  · have hq : q < 4294967296 := by omega
    by_cases hBq : 4294967296 * r + d < q * v0N
    · have hb := hI.big hU' hd (.inr hBq)
      have eq := q2I_eq (q := q) (by omega) hI.le
      by_cases hr2 : 4294967296 ≤ r + v1N
      · refine At.probe (E := ED) mixed tyTab_ok callD (D1_bb _ _ _ _ _) (fun p hp => ?_) hA [] (none_blk _) (keep_D1 _ _ _ _ _) (no_rho0 _) fun a' w' hA' => ?_
        · rw [er] at hp
          simp only [List.mem_cons, List.not_mem_nil, or_false] at hp
          rcases hp with rfl | rfl | rfl
          · rw [cA_iff]; exact fIff hAq
          · rw [cB_iff hq hr hd]; exact tIff hBq
          · rw [cA_iff]; exact tIff hr2
        · rw [eq, hI.break hU' hd hv0 (.inr hBq) hr2] at hA'
          exact hQ _ a' w' hA'
      · refine At.probe (E := ED) mixed tyTab_ok callD (D1_bn _ _ _ _ _) (fun p hp => ?_) hA [] (none_blk _) (keep_D1 _ _ _ _ _) (no_rho0 _) fun a' w' hA' => ⟨(q - 1, r + v1N), hI.next hU' hd (.inr hBq) (by omega), by show q - 1 < q; omega, by rw [eq, er] at hA'; exact hA'⟩
        rw [er] at hp
        simp only [List.mem_cons, List.not_mem_nil, or_false] at hp
        rcases hp with rfl | rfl | rfl
        · rw [cA_iff]; exact fIff hAq
        · rw [cB_iff hq hr hd]; exact tIff hBq
        · rw [cA_iff]; exact fIff hr2
    · refine At.probe (E := ED) mixed tyTab_ok callD (D1_done _ _ _ _ _) (fun p hp => ?_) hA [] (none_blk _) (keep_D1 _ _ _ _ _) (no_rho0 _) fun a' w' hA' => ?_
      · simp only [List.mem_cons, List.not_mem_nil, or_false] at hp
        rcases hp with rfl | rfl
        · rw [cA_iff]; exact fIff hAq
        · rw [cB_iff hq hr hd]; exact fIff hBq
      · rw [hI.done (by rw [v_eq]; decide +kernel) (by omega)] at hA'
        exact hQ _ a' w' hA'
theorem D2_loop {w0 : World} {Q : Exit → Act → World → Prop} {q1 U d q0 r0 : Nat} (hU : U < y8N) (hd : d < 4294967296)
    (hQ : ∀ (r : Int) a w, At 135 rho0 w0 (stD2 (q1 : Int) (U : Int) (d : Int) ((kQ v1N v0N U d : Nat) : Int) r) a w → Q (.exit 2) a w) {a : Act} {w : World}
    (hI : KInv v1N v0N U d q0 r0) (hA : At 135 rho0 w0 (stD2 (q1 : Int) (U : Int) (d : Int) (q0 : Int) (r0 : Int)) a w) : (Code.loop cDL2).wp Try.prog Q a w := by
  have hU' : U < v1N * 4294967296 + v0N := by rw [v_eq]; exact hU
  refine loop_rule (w0 := w0) (ρ0 := rho0) (N := 135) (ι := Nat × Nat) (fun p => KInv v1N v0N U d p.1 p.2) (fun p => stD2 (q1 : Int) (U : Int) (d : Int) (p.1 : Int) (p.2 : Int)) (fun p => p.1) ?_ (q0, r0) hI a w hA
  rintro ⟨q, r⟩ hI a w hA
  have hI : KInv v1N v0N U d q r := hI
  have hr := hI.rlt
  have hv0 := v0_lt
  have hv1 := v1_lt
  have er := r2I_eq hr
  by_cases hAq : 4294967296 ≤ q
  · have hb := hI.big hU' hd (.inl hAq)
    have eq := q2I_eq (q := q) (by omega) hI.le
    by_cases hr2 : 4294967296 ≤ r + v1N
    · refine At.probe (E := ED) mixed tyTab_ok callD (D2_ab _ _ _ _ _) (fun p hp => ?_) hA [] (none_blk _) (keep_D2 _ _ _ _ _) (no_rho0 _) fun a' w' hA' => ?_
      · rw [er] at hp
        simp only [List.mem_cons, List.not_mem_nil, or_false] at hp
        rcases hp with rfl | rfl
        · rw [cA_iff]; exact tIff hAq
        · rw [cA_iff]; exact tIff hr2
      · rw [eq, hI.break hU' hd hv0 (.inl hAq) hr2] at hA'
        exact hQ _ a' w' hA'
    · refine At.probe (E := ED) mixed tyTab_ok callD (D2_an _ _ _ _ _) (fun p hp => ?_) hA [] (none_blk _) (keep_D2 _ _ _ _ _) (no_rho0 _) fun a' w' hA' => ⟨(q - 1, r + v1N), hI.next hU' hd (.inl hAq) (by omega), by show q - 1 < q; omega, by rw [eq, er] at hA'; exact hA'⟩
      rw [er] at hp
      simp only [List.mem_cons, List.not_mem_nil, or_false] at hp
      rcases hp with rfl | rfl
      · rw [cA_iff]; exact tIff hAq
      · rw [cA_iff]; exact fIff hr2
  · have hq : q < 4294967296 := by omega
    by_cases hBq : 4294967296 * r + d < q * v0N
    · have hb := hI.big hU' hd (.inr hBq)
      have eq := q2I_eq (q := q) (by omega) hI.le
      by_cases hr2 : 4294967296 ≤ r + v1N
      · refine At.probe (E := ED) mixed tyTab_ok callD (D2_bb _ _ _ _ _) (fun p hp => ?_) hA [] (none_blk _) (keep_D2 _ _ _ _ _) (no_rho0 _) fun a' w' hA' => ?_
        · rw [er] at hp
          simp only [List.mem_cons, List.not_mem_nil, or_false] at hp
          rcases hp with rfl | rfl | rfl
          · rw [cA_iff]; exact fIff hAq
          · rw [cB_iff hq hr hd]; exact tIff hBq
          · rw [cA_iff]; exact tIff hr2
        · rw [eq, hI.break hU' hd hv0 (.inr hBq) hr2] at hA'
          exact hQ _ a' w' hA'
      · refine At.probe (E := ED) mixed tyTab_ok callD (D2_bn _ _ _ _ _) (fun p hp => ?_) hA [] (none_blk _) (keep_D2 _ _ _ _ _) (no_rho0 _) fun a' w' hA' => ⟨(q - 1, r + v1N), hI.next hU' hd (.inr hBq) (by omega), by show q - 1 < q; omega, by rw [eq, er] at hA'; exact hA'⟩
        rw [er] at hp
        simp only [List.mem_cons, List.not_mem_nil, or_false] at hp
        rcases hp with rfl | rfl | rfl
        · rw [cA_iff]; exact fIff hAq
        · rw [cB_iff hq hr hd]; exact tIff hBq
        · rw [cA_iff]; exact fIff hr2
    · refine At.probe (E := ED) mixed tyTab_ok callD (D2_done _ _ _ _ _) (fun p hp => ?_) hA [] (none_blk _) (keep_D2 _ _ _ _ _) (no_rho0 _) fun a' w' hA' => ?_
      · simp only [List.mem_cons, List.not_mem_nil, or_false] at hp
        rcases hp with rfl | rfl
        · rw [cA_iff]; exact fIff hAq
        · rw [cB_iff hq hr hd]; exact fIff hBq
      · rw [hI.done (by rw [v_eq]; decide +kernel) (by omega)] at hA'
        exact hQ _ a' w' hA'

/-! ### the contract -/
def dvd64 (hi lo : Nat) : Nat := hi * 18446744073709551616 + lo
theorem div_two (U e1 e0 B y : Nat) (hy : 0 < y) : ((U * B + e1) * B + e0) / y = (U * B + e1) / y * B + ((U * B + e1) % y * B + e0) / y := by
  have h := Nat.div_add_mod (U * B + e1) y
  generalize (U * B + e1) / y = a at *
  generalize (U * B + e1) % y = b at *
  have e : (U * B + e1) * B + e0 = (b * B + e0) + a * B * y := by
    rw [← h, Nat.add_mul]
    have e2 : a * B * y = y * a * B := by rw [Nat.mul_comm, Nat.mul_assoc]
    rw [e2]; omega
  rw [e, Nat.add_mul_div_right _ _ hy]; omega
theorem mod_two (A e0 B y : Nat) : (A % y * B + e0) % y = (A * B + e0) % y := by
  rw [Nat.add_mod, Nat.mod_mul_mod, ← Nat.add_mod]
theorem div64_law {hi lo : Nat} (hh : hi < y0N) (hl : lo < 18446744073709551616) :
    let U := hi * 8 + lo / 2305843009213693952
    let w := lo * 8 % 18446744073709551616
    let V := (U * 4294967296 + w / 4294967296) % y8N
    U < y8N ∧ V < y8N ∧ kQ v1N v0N U (w / 4294967296) * 4294967296 + kQ v1N v0N V (w % 4294967296) = dvd64 hi lo / y0N ∧ kQ v1N v0N U (w / 4294967296) < 4294967296 ∧ kQ v1N v0N V (w % 4294967296) < 4294967296 ∧
      (V * 4294967296 + w % 4294967296) - kQ v1N v0N V (w % 4294967296) * y8N = dvd64 hi lo % y0N * 8 ∧ kQ v1N v0N V (w % 4294967296) * y8N ≤ V * 4294967296 + w % 4294967296 := by
  intro U w V
  have hy0 : 0 < y0N := by decide +kernel
  have hy8 : 0 < y8N := by decide +kernel
  have h8 := y8_eq
  have hU : U < y8N := by show hi * 8 + lo / 2305843009213693952 < y8N; omega
  have hV : V < y8N := Nat.mod_lt _ hy8
  have hx : (U * 4294967296 + w / 4294967296) * 4294967296 + w % 4294967296 = dvd64 hi lo * 8 := by
    show ((hi * 8 + lo / 2305843009213693952) * 4294967296 + lo * 8 % 18446744073709551616 / 4294967296) * 4294967296 + lo * 8 % 18446744073709551616 % 4294967296 = (hi * 18446744073709551616 + lo) * 8
    omega
  have hd := div_two U (w / 4294967296) (w % 4294967296) 4294967296 y8N hy8
  rw [hx] at hd
  have hq : dvd64 hi lo * 8 / y8N = dvd64 hi lo / y0N := by rw [h8, Nat.mul_div_mul_right _ _ (by decide)]
  have k1 : kQ v1N v0N U (w / 4294967296) = (U * 4294967296 + w / 4294967296) / y8N := by unfold kQ; rw [v_eq]
  have k2 : kQ v1N v0N V (w % 4294967296) = (V * 4294967296 + w % 4294967296) / y8N := by unfold kQ; rw [v_eq]
  have hlt : ∀ {A e : Nat}, A < y8N → e < 4294967296 → (A * 4294967296 + e) / y8N < 4294967296 := by
    intro A e hA he
    rw [Nat.div_lt_iff_lt_mul hy8]
    have : (A + 1) * 4294967296 ≤ y8N * 4294967296 := Nat.mul_le_mul_right _ hA
    rw [Nat.add_mul] at this
    rw [Nat.mul_comm 4294967296]; omega
  have hm : (V * 4294967296 + w % 4294967296) % y8N = dvd64 hi lo % y0N * 8 := by
    have e1 : dvd64 hi lo * 8 % y8N = dvd64 hi lo % y0N * 8 := by rw [h8, Nat.mul_mod_mul_right]
    rw [← e1, ← hx]
    exact mod_two _ _ _ _
  have hdm := Nat.div_add_mod (V * 4294967296 + w % 4294967296) y8N
  rw [Nat.mul_comm] at hdm
  refine ⟨hU, hV, ?_, ?_, ?_, ?_, ?_⟩
  · rw [k1, k2, ← hq, hd]
  · rw [k1]; exact hlt hU (by omega)
  · rw [k2]; exact hlt hV (by omega)
  · rw [k2, ← hm]; omega
  · rw [k2]; omega
end Go.Proofs.Ythceokldlinjlaa
namespace Go.Proofs.Ythceokldlinjlaa
open Go Go.Eng Go.RowKit Go.Wd Go.Alg Go.Pr

theorem vals_D (hi lo : Nat) : vals rho0 [uw hi, uw lo, uw y0N] = some [uv hi, uv lo, uv y0N] := by simp only [vals, val_uw]
theorem y0_lt8 : y0N * 8 < 18446744073709551616 := by decide +kernel
theorem un21_eq {U d q : Nat} (hq : q * y8N ≤ U * 4294967296 + d) (hlt : U * 4294967296 + d - q * y8N < 18446744073709551616) : un21I (U : Int) (d : Int) (q : Int) = ((U * 4294967296 + d - q * y8N : Nat) : Int) := by
  unfold un21I
  have e1 : IntKind.u64.wrap ((U : Int) * 4294967296) = ((U * 4294967296 % 18446744073709551616 : Nat) : Int) := by
    rw [show (U : Int) * 4294967296 = ((U * 4294967296 : Nat) : Int) by omega, wrap_mod]
  rw [e1, ← Int.natCast_add, wrap_mod, ← Int.natCast_mul, wrap_mod]
  generalize q * y8N = z at *
  generalize U * 4294967296 = x at *
  unfold IntKind.wrap
  simp only [IntKind.signed, IntKind.bits, Bool.false_and, Bool.false_eq_true, if_false]
  omega
theorem div64_pure {hi lo : Nat} (hh : hi < y0N) (hl : lo < 18446744073709551616) : Pure Try.prog 136 [uv hi, uv lo, uv y0N] (.tuple #[uv (dvd64 hi lo / y0N), uv (dvd64 hi lo % y0N)]) := by
  have hy0 : 0 < y0N := by decide +kernel
  have hy8 := y0_lt8
  by_cases h0 : hi = 0
  · subst h0
    refine pure_of_run1 (tableT_ok (by
      simp only [List.forall_mem_cons, List.not_mem_nil, false_imp_iff, implies_true, and_true]
      exact lz_ok)) (D_zero 0 lo) (fun p hp => ?_) (vals_D 0 lo) fun ρ u hu => ?_
    · rcases List.mem_cons.1 hp with rfl | hp
      · exact fIff (by omega)
      · rw [List.mem_singleton] at hp
        subst hp
        exact tIff rfl
    · rw [tup2_val hu]
      have e : dvd64 0 lo = lo := by unfold dvd64; omega
      rw [e, ← Int.ofNat_tdiv, ← Int.ofNat_tmod]
      have : lo / y0N < 18446744073709551616 := Nat.lt_of_le_of_lt (Nat.div_le_self _ _) hl
      rw [wrap_nat this]; rfl
  · intro w
    refine .inr ⟨dD_ok.enter _ _, ?_⟩
    obtain ⟨hU, hV, hq, k1, k2, hr, hr2⟩ := div64_law hh hl
    have hU1 := un32_eq hi lo (by omega) hl
    have hw1 := un10_eq lo
    generalize hUU : hi * 8 + lo / 2305843009213693952 = U at *
    generalize hww : lo * 8 % 18446744073709551616 = t at *
    have ht : t < 18446744073709551616 := by rw [← hww]; exact Nat.mod_lt _ (by decide)
    have hy8l := y8_lt
    have hQ1 : kQ v1N v0N U (t / 4294967296) = (U * 4294967296 + t / 4294967296) / y8N := by unfold kQ; rw [v_eq]
    have hV1 : (U * 4294967296 + t / 4294967296) % y8N = U * 4294967296 + t / 4294967296 - kQ v1N v0N U (t / 4294967296) * y8N := by
      rw [hQ1]
      have := Nat.div_add_mod (U * 4294967296 + t / 4294967296) y8N
      rw [Nat.mul_comm] at this; omega
    have hV2 : kQ v1N v0N U (t / 4294967296) * y8N ≤ U * 4294967296 + t / 4294967296 := by rw [hQ1]; exact Nat.div_mul_le_self _ _
    generalize hVV : (U * 4294967296 + t / 4294967296) % y8N = V at *
    refine (calls_of_at (G := fun xs st => xs = [uw (dvd64 hi lo / y0N), uw (dvd64 hi lo % y0N)]) tyTab_ok dD_ok (mem_rho0 w) (by kernel_rfl) (vals_D hi lo) (by rw [dD_ntmps]; simp) fun a hA0 => ?_).mono ?_
    · rw [dD_ntmps] at hA0
      have hA0 : At 135 rho0 w (inD hi lo) a w := hA0
      rw [dD_ntmps, dD_results, dD_chain]
      refine At.probes (E := ED) mixed tyTab_ok callD (D_start hi lo) (fun p hp => ?_) hA0 [] (none_blk _) (keep_D1 _ _ _ _ _) (no_rho0 _) fun a1 w1 h1 => ?_
      · simp only [List.mem_cons, List.not_mem_nil, or_false] at hp
        rcases hp with rfl | rfl
        · exact fIff (by omega)
        · exact fIff (by omega)
      rw [hU1, hw1, hi32_eq, lo32_eq, qI_eq (by omega), rI_eq (by omega)] at h1
      show Code.wp _ _ _ _ _
      refine wp_seq (wp_block (D1_loop hU (by omega) (fun r a2 w2 h2 => ?_) (k_start v1_ge v1_lt v0_lt (by omega) (by rw [v_eq]; exact hU)) h1))
      show Code.wp _ _ _ _ _
      refine At.probes (E := ED) mixed tyTab_ok callD (D_mid _ _ _ _ _) (fun p hp => by cases hp) h2 [] (none_blk _) (keep_D2 _ _ _ _ _) (no_rho0 _) fun a3 w3 h3 => ?_
      rw [un21_eq hV2 (by omega), ← hV1, qI_eq (by omega), rI_eq (by omega)] at h3
      show Code.wp _ _ _ _ _
      refine wp_seq (wp_block (D2_loop hV (by omega) (fun r a4 w4 h4 => ?_) (k_start v1_ge v1_lt v0_lt (by omega) (by rw [v_eq]; exact hV)) h3))
      show Code.wp _ _ _ _ _
      refine At.probe (E := ED) mixed tyTab_ok callD (D_tail _ _ _ _ _) (fun p hp => by cases hp) h4 [] (none_blk _) (by kernel_rfl) (no_rho0 _) fun a5 w5 h5 => ?_
      have eq : quoI ((kQ v1N v0N U (t / 4294967296) : Nat) : Int) ((kQ v1N v0N V (t % 4294967296) : Nat) : Int) = ((dvd64 hi lo / y0N : Nat) : Int) := by
        unfold quoI
        rw [← hq, show ((kQ v1N v0N U (t / 4294967296) : Nat) : Int) * 4294967296 = ((kQ v1N v0N U (t / 4294967296) * 4294967296 : Nat) : Int) by omega, wrap_nat (by omega), ← Int.natCast_add, wrap_nat (by omega)]
      have er : remI (V : Int) ((t % 4294967296 : Nat) : Int) ((kQ v1N v0N V (t % 4294967296) : Nat) : Int) = ((dvd64 hi lo % y0N : Nat) : Int) := by
        have hm : dvd64 hi lo % y0N < y0N := Nat.mod_lt _ hy0
        have := un21_eq (U := V) (d := t % 4294967296) hr2 (by omega)
        unfold un21I at this
        unfold remI
        rw [this, hr]
        have e2 : (2 : Int) ^ min (Int.toNat 3) IntKind.u64.bits = ((8 : Nat) : Int) := by decide
        rw [e2, ← Int.ofNat_fdiv, Nat.mul_div_cancel _ (by decide)]
      rw [eq, er] at h5
      exact ⟨.inr rfl, _, [uw (dvd64 hi lo / y0N), uw (dvd64 hi lo % y0N)], h5, rfl, rfl⟩
    · rintro e w' ⟨v, rfl, xs, st, ρ', hE, hval, hMk, rfl⟩
      refine ⟨v, rfl, ?_, hE.below fun b ⟨id, _, _, hq⟩ => by cases hq⟩
      have : SV.val ρ' (.tup [⟨false, [.v (.int .u64 ((dvd64 hi lo / y0N : Nat) : Int))]⟩, ⟨false, [.v (.int .u64 ((dvd64 hi lo % y0N : Nat) : Int))]⟩]) = some v := hval
      exact tup2_val this
def div64Row : Row where
  f := 136
  ans := fun
    | [⟨false, [.v (.int .u64 x)]⟩, ⟨false, [.v (.int .u64 y)]⟩, ⟨false, [.v (.int .u64 z)]⟩] =>
      some (.tup [uw ((x.toNat * 18446744073709551616 + y.toNat) / y0N), uw ((x.toNat * 18446744073709551616 + y.toNat) % y0N)], [0 ≤ x ∧ x < (y0N : Int) ∧ 0 ≤ y ∧ y < 18446744073709551616 ∧ z = (y0N : Int)])
    | _ => none
theorem div64_ok : RowOk Try.prog div64Row := by
  intro args s ob h hob ρ vs hv
  unfold div64Row at h
  simp only at h
  split at h
  · rename_i x y z
    cases h
    obtain ⟨h1, h2, h3, h4, h5⟩ := hob _ (List.mem_singleton.2 rfl)
    rw [vals_u3 hv]
    refine ⟨.tuple #[uv ((x.toNat * 18446744073709551616 + y.toNat) / y0N), uv ((x.toNat * 18446744073709551616 + y.toNat) % y0N)], ?_, ?_⟩
    · have e : ∀ n : Nat, AV.val rho0 (uw n) = some (uv n) := fun n => AV.val_v (ρ := rho0) (x := uv n) rfl
      simp only [SV.val, vals, e]
    · have hp := div64_pure (hi := x.toNat) (lo := y.toNat) (by omega) (by omega)
      have ex : x = ((x.toNat : Nat) : Int) := by omega
      have ey : y = ((y.toNat : Nat) : Int) := by omega
      rw [h5]
      unfold uv dvd64 at hp
      rw [← ex, ← ey] at hp
      exact hp
  · cases h
end Go.Proofs.Ythceokldlinjlaa
/-
  The document's base field, 4: one word more of a long division by p: what it computes.
-/
/-
  The document's base field, 3: one word more of a long division by p.
-/
namespace Go.Proofs.Ythceokldlinjlaa
open Go Go.Eng Go.RowKit Go.Wd Go.Alg Go.Pr

/-- Seven words as a number, and what is owed for it. -/
def as7 : List It → Option (Nat × List Prop)
  | [.w 7 n] => some (n, [])
  | [.v (.int .u64 a), .v (.int .u64 b), .v (.int .u64 c), .v (.int .u64 d), .v (.int .u64 e), .v (.int .u64 f), .v (.int .u64 g)] =>
    some (num (fun i => ([a, b, c, d, e, f, g].getD i 0).toNat) 7, [∀ x ∈ [a, b, c, d, e, f, g], 0 ≤ x ∧ x < 18446744073709551616])
  | _ => none
theorem as7_ok {l : List It} {n : Nat} {ob : List Prop} (h : as7 l = some (n, ob)) (hob : ∀ p ∈ ob, p) {ρ : Rho} {vs : List Value} (hv : conc ρ l = some vs) : vs = words 7 n := by
  unfold as7 at h
  split at h
  · cases h; cases hv; simp
  · rename_i a b c d e f g
    cases h
    have hall := hob _ (List.mem_singleton.2 rfl)
    have hc : conc ρ ([Value.int .u64 a, .int .u64 b, .int .u64 c, .int .u64 d, .int .u64 e, .int .u64 f, .int .u64 g].map It.v) = some [.int .u64 a, .int .u64 b, .int .u64 c, .int .u64 d, .int .u64 e, .int .u64 f, .int .u64 g] :=
      val_plain ρ _ (by intro v hv; simp only [List.mem_cons, List.not_mem_nil, or_false] at hv; rcases hv with rfl | rfl | rfl | rfl | rfl | rfl | rfl <;> rfl)
    have e0 : vs = [.int .u64 a, .int .u64 b, .int .u64 c, .int .u64 d, .int .u64 e, .int .u64 f, .int .u64 g] := Option.some.inj (hv.symm.trans hc)
    have h0 := hall a (by simp)
    have h1 := hall b (by simp)
    have h2 := hall c (by simp)
    have h3 := hall d (by simp)
    have h4 := hall e (by simp)
    have h5 := hall f (by simp)
    have h6 := hall g (by simp)
    rw [e0, words_map 7 (fun i hi => by
      have : i = 0 ∨ i = 1 ∨ i = 2 ∨ i = 3 ∨ i = 4 ∨ i = 5 ∨ i = 6 := by omega
      rcases this with rfl | rfl | rfl | rfl | rfl | rfl | rfl <;> simp <;> omega)]
    simp only [List.range, List.range.loop, List.map_cons, List.map_nil, List.getD_cons_zero, List.getD_cons_succ, List.cons.injEq, Value.int.injEq, true_and, and_true]
    refine ⟨?_, ?_, ?_, ?_, ?_, ?_, ?_⟩ <;> omega
  · cases h
def rLessRow : Row where
  f := 146
  ans := fun
    | [⟨true, l⟩, ⟨false, [.v (.int .u64 q)]⟩] => match as7 l with
      | some (n, ob) => some (.one (W7 (lessM n q.toNat)), (0 ≤ q ∧ q < 18446744073709551616) :: ob)
      | none => none
    | _ => none
theorem rLessRow_ok : RowOk Try.prog rLessRow := by
  intro args s ob ha hob ρ vs hv
  unfold rLessRow at ha
  simp only at ha
  split at ha
  · rename_i l q
    split at ha
    · rename_i n ob' hn
      cases ha
      obtain ⟨v1, us, h1, h2, rfl⟩ := vals_cons hv
      obtain ⟨v2, us', h3, h4, rfl⟩ := vals_cons h2
      cases h4
      obtain ⟨ws, hw, rfl⟩ := val_agg h1
      have hb := hob _ List.mem_cons_self
      have e := as7_ok hn (fun p hp => hob p (List.mem_cons_of_mem _ hp)) hw
      subst e
      have e2 : AV.val ρ ⟨false, [.v (.int .u64 q)]⟩ = some (.int .u64 q) := AV.val_v (ρ := ρ) (x := .int .u64 q) rfl
      rw [e2] at h3
      cases h3
      refine ⟨_, val_W7 rho0 _, ?_⟩
      have hp := rless_pure n (q := q.toNat) (by omega)
      have eq : ((q.toNat : Nat) : Int) = q := by omega
      unfold uv at hp
      rw [eq] at hp
      exact hp
    · cases ha
  · cases ha
noncomputable def dN : Fn1 := match fn1 127 with
  | some d => d
  | none => ⟨.skip, [], 0⟩
theorem dN_ok : FnOk Try.prog 127 dN := fn1_ok _ _ (by kernel_rfl)
noncomputable def EN (pq : Nat) : Eng := { tab := tyTab, call := callN tyTab (tableT [rPQ pq, div64Row, rLessRow, row1 87 rd]) fn1 1000 6, N := 57 }
set_option maxRecDepth 100000 in
theorem callNx (pq : Nat) : CallOk Try.prog (EN pq).call := callN_ok mixed tyTab_ok (tableT_ok (by
  simp only [List.forall_mem_cons, List.not_mem_nil, false_imp_iff, implies_true, and_true]
  exact ⟨rPQ_ok pq, div64_ok, rLessRow_ok, row1_ok rReduce'⟩)) fn1_ok 1000 6
theorem tabNx (pq : Nat) : ∀ t d, (EN pq).tab t = some d → TyOk Try.prog t d := tyTab_ok
noncomputable def cN1 : List Code := takeS 5 dN.body
noncomputable def cNL : Code := loopIn (blockIn (seqL (dropS 5 dN.body)))
noncomputable def cNT : Code := dropS 6 dN.body
theorem dN_chain : dN.body = chain cN1 (.seq (.block 0 (.loop cNL)) cNT) := by kernel_rfl
theorem dN_ntmps : dN.ntmps = 57 := by kernel_rfl
theorem dN_results : dN.results = [.cell 4 24] := by kernel_rfl
def stN (n : Nat) : St := [(8, spt 17), (12, spt 35), (35, .bl [.w 6 0]), (71, .bl [.w 7 n])]
noncomputable def inN (a wd : Nat) : St := initSlots 0 [W6 a, uw wd] (57 - [W6 a, uw wd].length) ++ []
def tL (a wd : Nat) : List Int := [(wd : Int), wI a 0, wI a 1, wI a 2, wI a 3, wI a 4, wI a 5]
def tNx (a wd : Nat) : Nat := num (fun i => ((tL a wd).getD i 0).toNat) 7
def qN (a : Nat) : Nat := ((wI a 5).toNat * 18446744073709551616 + (wI a 4).toNat) / y0N
def nxOb (a wd pq : Nat) : List Prop := [pq = pN, 0 ≤ wI a 5 ∧ wI a 5 < (y0N : Int) ∧ 0 ≤ wI a 4 ∧ wI a 4 < 18446744073709551616 ∧ IntKind.u64.wrap (wI pq 5 + 1) = (y0N : Int),
  0 ≤ ((qN a : Nat) : Int) ∧ ((qN a : Nat) : Int) < 18446744073709551616, ∀ x ∈ tL a wd, 0 ≤ x ∧ x < 18446744073709551616]
def n1N (a wd : Nat) : Nat := lessM (tNx a wd) ((qN a : Nat) : Int).toNat
theorem N_start (a wd pq : Nat) : probes (EN pq) 100 cN1 (inN a wd) 16 [] ((stN (n1N a wd)).map (·.1)) = some (0, nxOb a wd pq, (stN (n1N a wd)).map fun p => some p.2) := by kernel_rfl
theorem N_exit (n : Nat) : probe (EN 0) 100 cNL (stN n) 60 [(40, false)] ((stN n).map (·.1)) = some (2, [wI n 6 > 0 ↔ false = true], (stN n).map fun p => some p.2) := by kernel_rfl
theorem N_step (n : Nat) : probe (EN 0) 100 cNL (stN n) 60 [(40, true)] ((stN (lessM n (1 : Int).toNat)).map (·.1)) = some (0, [wI n 6 > 0 ↔ true = true, (0 : Int) ≤ 1 ∧ (1 : Int) < 18446744073709551616], (stN (lessM n (1 : Int).toNat)).map fun p => some p.2) := by kernel_rfl
theorem N_tail (n : Nat) : probe (EN 0) 100 cNT (stN n) 60 [] (([(8, spt 17), (35, .bl [.w 6 (rd (asN6 (dg n)))])] : St).map (·.1)) = some (1, [ob6 (dg n)], ([(8, spt 17), (35, .bl [.w 6 (rd (asN6 (dg n)))])] : St).map fun p => some p.2) := by kernel_rfl
end Go.Proofs.Ythceokldlinjlaa
namespace Go.Proofs.Ythceokldlinjlaa
open Go Go.Eng Go.RowKit Go.Wd Go.Alg Go.Pr

theorem num_cons (d e : Nat → Nat) (h : ∀ i, e (i + 1) = d i) : ∀ k, num e (k + 1) = e 0 + 18446744073709551616 * num d k := by
  intro k
  induction k with
  | zero => simp [num, pw_zero]
  | succ k ih =>
    show num e (k + 1) + e (k + 1) * pw (k + 1) = e 0 + 18446744073709551616 * (num d k + d k * pw k)
    rw [ih, h, pw_succ, Nat.mul_add, ← Nat.mul_assoc (d k), Nat.mul_comm (d k * pw k)]
    omega
theorem tNx_eq (a wd : Nat) : tNx a wd = wd + 18446744073709551616 * (a % pw 6) := by
  rw [← num_dg]
  have e : tNx a wd = num (fun i => match i with | 0 => wd | i + 1 => dg a i) 7 := by
    refine num_congr 7 fun i hi => ?_
    have : i = 0 ∨ i = 1 ∨ i = 2 ∨ i = 3 ∨ i = 4 ∨ i = 5 ∨ i = 6 := by omega
    rcases this with rfl | rfl | rfl | rfl | rfl | rfl | rfl <;> simp [tL, wI]
  rw [e, num_cons (dg a) _ (fun _ => rfl)]
/-- The two words at the head. -/
theorem head_eq (a : Nat) : dg a 5 * 18446744073709551616 + dg a 4 = a % pw 6 / pw 4 := by
  have h := num_dg a 6
  have h4 := num_dg a 4
  have hl : num (dg a) 4 < pw 4 := num_lt 4 fun i _ => dg_lt a i
  have e : num (dg a) 6 = num (dg a) 4 + dg a 4 * pw 4 + dg a 5 * pw 5 := rfl
  rw [← h, e, pw_succ 4, show num (dg a) 4 + dg a 4 * pw 4 + dg a 5 * (pw 4 * 18446744073709551616) = num (dg a) 4 + (dg a 5 * 18446744073709551616 + dg a 4) * pw 4 by
    rw [Nat.add_mul, Nat.mul_assoc, Nat.mul_comm (pw 4)]; omega]
  rw [Nat.add_mul_div_right _ _ (pw_pos 4), Nat.div_eq_of_lt hl, Nat.zero_add]
theorem y0_p : pN < y0N * pw 5 := by decide +kernel
theorem y0_p' : pN < y0N * (pw 4 * 18446744073709551616) := by decide +kernel
theorem y0_pos : 0 < y0N := by decide +kernel
theorem p_lt6 : pN < pw 6 := by decide +kernel
theorem qN_eq (a : Nat) : qN a = a % pw 6 / pw 4 / y0N := by
  unfold qN
  rw [wI_toNat, wI_toNat, head_eq]
theorem head_lt {a : Nat} (h : a % pw 6 < pN) : a % pw 6 / pw 4 < y0N * 18446744073709551616 := by
  have h1 := Nat.lt_trans h y0_p'
  rw [Nat.div_lt_iff_lt_mul (pw_pos 4)]
  rw [Nat.mul_comm (pw 4), ← Nat.mul_assoc] at h1
  exact h1
theorem qN_lt {a : Nat} (h : a % pw 6 < pN) : qN a < 18446744073709551616 := by
  rw [qN_eq, Nat.div_lt_iff_lt_mul y0_pos, Nat.mul_comm]
  exact head_lt h
theorem dg5_lt {a : Nat} (h : a % pw 6 < pN) : dg a 5 < y0N := by
  have := head_lt h
  rw [← head_eq] at this
  exact Nat.lt_of_mul_lt_mul_right (Nat.lt_of_le_of_lt (Nat.le_add_right _ _) this)
theorem qN_le {a : Nat} (wd : Nat) : pN * qN a ≤ tNx a wd := by
  have h1 : qN a * y0N ≤ a % pw 6 / pw 4 := by rw [qN_eq]; exact Nat.div_mul_le_self _ _
  have h2 : a % pw 6 / pw 4 * pw 4 ≤ a % pw 6 := Nat.div_mul_le_self _ _
  have h3 : pN * qN a ≤ y0N * pw 5 * qN a := Nat.mul_le_mul_right _ (Nat.le_of_lt y0_p)
  have h4 : y0N * pw 5 * qN a = 18446744073709551616 * (qN a * y0N * pw 4) := by
    rw [pw_succ 4]
    simp only [Nat.mul_comm, Nat.mul_left_comm, Nat.mul_assoc]
  have h5 : qN a * y0N * pw 4 ≤ a % pw 6 / pw 4 * pw 4 := Nat.mul_le_mul_right _ h1
  rw [tNx_eq]
  have h6 : 18446744073709551616 * (qN a * y0N * pw 4) ≤ 18446744073709551616 * (a % pw 6) := Nat.mul_le_mul_left _ (Nat.le_trans h5 h2)
  omega
theorem tNx_lt {a wd : Nat} (hw : wd < 18446744073709551616) : tNx a wd < pw 7 := by
  have : a % pw 6 < pw 6 := Nat.mod_lt _ (pw_pos 6)
  rw [tNx_eq, pw_succ 6]
  omega
def NInv (t n : Nat) : Prop := n < pw 7 ∧ n % pN = t % pN
theorem sub_mod_p {n q : Nat} (h : pN * q ≤ n) : (n - pN * q) % pN = n % pN := by
  have e : n = (n - pN * q) + pN * q := by omega
  conv => rhs; rw [e, Nat.add_mul_mod_self_left]
theorem n_first {a wd : Nat} (h : a % pw 6 < pN) (hw : wd < 18446744073709551616) : NInv (tNx a wd) (n1N a wd) := by
  have ht := tNx_lt (a := a) hw
  have e : n1N a wd = tNx a wd - pN * qN a := by
    unfold n1N
    rw [Int.toNat_natCast, lessM_eq (qN_lt h) (by rw [Nat.mod_eq_of_lt ht]; exact qN_le wd), Nat.mod_eq_of_lt ht]
  rw [e]
  exact ⟨by omega, sub_mod_p (qN_le wd)⟩
theorem dg6_pos {n : Nat} (hn : n < pw 7) : 0 < dg n 6 ↔ pw 6 ≤ n := by
  have h : n / pw 6 < 18446744073709551616 := by
    rw [Nat.div_lt_iff_lt_mul (pw_pos 6), Nat.mul_comm, ← pw_succ]; exact hn
  have e : dg n 6 = n / pw 6 := by unfold dg; rw [two64]; exact Nat.mod_eq_of_lt h
  rw [e, Nat.div_pos_iff]
  have := pw_pos 6
  omega
theorem lessM_one {n : Nat} (hn : n < pw 7) (h : pw 6 ≤ n) : lessM n (1 : Int).toNat = n - pN := by
  have hp := p_lt6
  have e1 : pN * (1 : Int).toNat = pN := Nat.mul_one _
  have := lessM_eq (n := n) (q := (1 : Int).toNat) (by decide) (by rw [e1, Nat.mod_eq_of_lt hn]; omega)
  rw [this, e1, Nat.mod_eq_of_lt hn]
theorem keep_N (n : Nat) : keepsB (stN n) [17, 35] = true := by kernel_rfl
theorem blk_N (n : Nat) : ∀ id ∈ [17, 35], ∃ l, (stN n).blk id = some l := by
  intro id hid
  simp only [List.mem_cons, List.not_mem_nil, or_false] at hid
  rcases hid with rfl | rfl <;> exact ⟨_, rfl⟩
def stNR (n : Nat) : St := [(8, spt 17), (35, .bl [.w 6 (rd (asN6 (dg n)))])]
theorem keep_NR (n : Nat) : keepsB (stNR n) [17] = true := by kernel_rfl
theorem blk_NR (n : Nat) : ∀ id ∈ [17], ∃ l, (stNR n).blk id = some l := by
  intro id hid
  simp only [List.mem_cons, List.not_mem_nil, or_false] at hid
  subst hid
  exact ⟨_, rfl⟩
theorem res_NR (n : Nat) : resultsOf tyTab (stNR n) [.cell 4 24] = some [W6 (rd (asN6 (dg n)))] := by kernel_rfl
theorem N_loop {w0 : World} {Q : Exit → Act → World → Prop} {t n : Nat}
    (hQ : ∀ n a w, NInv t n → n < pw 6 → At 57 rho0 w0 (stN n) a w → Q (.exit 0) a w) {a : Act} {w : World}
    (hI : NInv t n) (hA : At 57 rho0 w0 (stN n) a w) : (Code.loop cNL).wp Try.prog Q a w := by
  refine loop_rule (w0 := w0) (ρ0 := rho0) (N := 57) (ι := Nat) (fun n => NInv t n) stN (fun n => n) ?_ n hI a w hA
  intro n hI a w hA
  have hI : NInv t n := hI
  have hd := dg6_pos hI.1
  by_cases h6 : pw 6 ≤ n
  · refine At.probe (E := EN 0) mixed (tabNx 0) (callNx 0) (N_step n) (fun p hp => ?_) hA [17, 35] (blk_N _) (keep_N _) (no_rho0 _) fun a' w' hA' => ⟨lessM n (1 : Int).toNat, ?_, ?_, hA'⟩
    · simp only [List.mem_cons, List.not_mem_nil, or_false] at hp
      rcases hp with rfl | rfl
      · have := hd.2 h6
        refine ⟨fun _ => trivial, fun _ => show wI n 6 > 0 from ?_⟩
        unfold wI; omega
      · omega
    · rw [lessM_one hI.1 h6]
      have hp := p_lt6
      refine ⟨by have := hI.1; omega, ?_⟩
      have := sub_mod_p (n := n) (q := 1) (by omega)
      rw [Nat.mul_one] at this
      rw [this]; exact hI.2
    · show lessM n (1 : Int).toNat < n
      rw [lessM_one hI.1 h6]
      have hp := p_lt6
      have := pN_pos
      omega
  · refine At.probe (E := EN 0) mixed (tabNx 0) (callNx 0) (N_exit n) (fun p hp => ?_) hA [17, 35] (blk_N _) (keep_N _) (no_rho0 _) fun a' w' hA' => hQ n a' w' hI (by omega) hA'
    rw [List.mem_singleton] at hp
    subst hp
    have : ¬ 0 < dg n 6 := fun e => h6 (hd.1 e)
    refine fIff (show ¬ wI n 6 > 0 from ?_)
    unfold wI; omega
/-- One word more of a long division by p. -/
def nextN (a wd : Nat) : Nat := (wd + 18446744073709551616 * (a % pw 6)) % pN
theorem y0_wrap : IntKind.u64.wrap (wI pN 5 + 1) = (y0N : Int) := by decide +kernel
theorem nextN_rd {t n : Nat} (h : NInv t n) (hn : n < pw 6) : rd (asN6 (dg n)) = t % pN := by
  rw [asN6_eq, num_dg]
  unfold rd
  rw [show M6 = pw 6 from rfl, Nat.mod_mod, Nat.mod_eq_of_lt hn]
  exact h.2
theorem next_pure {a wd : Nat} (h : a % pw 6 < pN) (hw : wd < 18446744073709551616) : Pure Try.prog 127 [.agg (words 6 a).toArray, uv wd] (.agg (words 6 (nextN a wd)).toArray) := by
  intro w
  refine .inr ⟨dN_ok.enter _ _, ?_⟩
  have hv : vals rho0 [W6 a, uw wd] = some [.agg (words 6 a).toArray, uv wd] := by simp only [vals, val_W6, val_uw]
  refine (calls_of_at (G := fun xs st => xs = [W6 (nextN a wd)]) tyTab_ok dN_ok (mem_rho0 w) (by kernel_rfl) hv (by rw [dN_ntmps]; simp) fun b hA0 => ?_).mono ?_
  · rw [dN_ntmps] at hA0
    have hA0 : At 57 rho0 w (inN a wd) b w := hA0
    rw [dN_ntmps, dN_results, dN_chain]
    refine At.probes (E := EN pN) mixed (tabNx pN) (callNx pN) (N_start a wd pN) (fun p hp => ?_) hA0 [17, 35] (blk_N _) (keep_N _) (no_rho0 _) fun a1 w1 h1 => ?_
    · simp only [nxOb, List.mem_cons, List.not_mem_nil, or_false] at hp
      rcases hp with rfl | rfl | rfl | rfl
      · trivial
      · have h5 := dg5_lt h
        have h4 := dg_lt a 4
        exact ⟨by unfold wI; omega, by unfold wI; omega, by unfold wI; omega, by unfold wI; omega, y0_wrap⟩
      · have := qN_lt h
        omega
      · intro x hx
        have hd := dg_lt a
        simp only [tL, List.mem_cons, List.not_mem_nil, or_false] at hx
        rcases hx with rfl | rfl | rfl | rfl | rfl | rfl | rfl
        · omega
        · have := hd 0; unfold wI; omega
        · have := hd 1; unfold wI; omega
        · have := hd 2; unfold wI; omega
        · have := hd 3; unfold wI; omega
        · have := hd 4; unfold wI; omega
        · have := hd 5; unfold wI; omega
    show Code.wp _ _ _ _ _
    refine wp_seq (wp_block (N_loop (fun n a2 w2 hn hlt h2 => ?_) (n_first h hw) h1))
    show Code.wp _ _ _ _ _
    refine At.probe (E := EN 0) mixed (tabNx 0) (callNx 0) (N_tail n) (fun p hp => ?_) h2 [17] (blk_NR n) (keep_NR n) (no_rho0 _) fun a3 w3 h3 => ?_
    · rw [List.mem_singleton] at hp
      subst hp
      exact ob6_ok (dg_lt n)
    · refine ⟨.inr rfl, stNR n, [W6 (rd (asN6 (dg n)))], h3, res_NR n, ?_⟩
      rw [nextN_rd hn hlt, tNx_eq]
      rfl
  · rintro e w' ⟨v, rfl, xs, st, ρ', hE, hval, hMk, rfl⟩
    refine ⟨v, rfl, ?_, hE.below fun b ⟨id, _, _, hq⟩ => by cases hq⟩
    have : (W6 (nextN a wd)).val ρ' = some v := hval
    rw [val_W6] at this
    cases this; rfl
end Go.Proofs.Ythceokldlinjlaa
/-
  The document's base field, 7: Mul's contract.
-/
/-
  The document's base field, 5: products: runs.
-/
namespace Go.Proofs.Ythceokldlinjlaa
open Go Go.Eng Go.RowKit Go.Wd Go.Alg Go.Pr

noncomputable def dMu : Fn1 := match fn1 85 with
  | some d => d
  | none => ⟨.skip, [], 0⟩
theorem dMu_ok : FnOk Try.prog 85 dMu := fn1_ok _ _ (by kernel_rfl)
/-- A row for next. -/
def nextRow : Row where
  f := 127
  ans := fun
    | [⟨true, l⟩, ⟨false, [.v (.int .u64 z)]⟩] => match asW6 l with
      | some (a, ob) => some (.one (W6 (nextN a z.toNat)), (a % pw 6 < pN ∧ 0 ≤ z ∧ z < 18446744073709551616) :: ob)
      | none => none
    | _ => none
theorem nextRow_ok : RowOk Try.prog nextRow := by
  intro args s ob ha hob ρ vs hv
  unfold nextRow at ha
  simp only at ha
  split at ha
  · rename_i l z
    split at ha
    · rename_i a ob' hn
      cases ha
      obtain ⟨h1, h2, h3⟩ := hob _ List.mem_cons_self
      obtain ⟨v1, us, g1, g2, rfl⟩ := vals_cons hv
      obtain ⟨v2, us', g3, g4, rfl⟩ := vals_cons g2
      cases g4
      obtain ⟨ws, hw, rfl⟩ := val_agg g1
      have e := asW6_ok hn (fun p hp => hob p (List.mem_cons_of_mem _ hp)) hw
      subst e
      have e2 : AV.val ρ ⟨false, [.v (.int .u64 z)]⟩ = some (.int .u64 z) := AV.val_v (ρ := ρ) (x := .int .u64 z) rfl
      rw [e2] at g3
      cases g3
      refine ⟨_, val_W6 (ρ := rho0) (nextN a z.toNat), ?_⟩
      have hp := next_pure (a := a) (wd := z.toNat) h1 (by omega)
      have eq : ((z.toNat : Nat) : Int) = z := by omega
      unfold uv at hp
      rw [eq] at hp
      exact hp
    · cases ha
  · cases ha
noncomputable def EM : Eng := { tab := tyTab, call := callN tyTab (tableT [mul64Row, add64Row, nextRow, row1 87 rd]) fn1 1000 6, N := 94 }
set_option maxRecDepth 100000 in
theorem callMu : CallOk Try.prog EM.call := callN_ok mixed tyTab_ok (tableT_ok (by
  simp only [List.forall_mem_cons, List.not_mem_nil, false_imp_iff, implies_true, and_true]
  exact ⟨mul64_ok, add64_ok, nextRow_ok, row1_ok rReduce'⟩)) fn1_ok 1000 6
noncomputable def cM1 : List Code := takeS 4 dMu.body
noncomputable def cMH : Code := seqL (seqL (dropS 4 dMu.body))
noncomputable def cML : Code := loopIn (blockIn (seqR (seqL (dropS 4 dMu.body))))
noncomputable def cMT : Code := dropS 5 dMu.body
theorem dMu_chain : dMu.body = chain cM1 (.seq (.seq cMH (.block 0 (.loop cML))) cMT) := by kernel_rfl
theorem dMu_ntmps : dMu.ntmps = 94 := by kernel_rfl
theorem dMu_results : dMu.results = [.cell 4 24] := by kernel_rfl
noncomputable def inM (a b : Nat) : St := initSlots 0 [W6 a, W6 b] (94 - [W6 a, W6 b].length) ++ []
def sJ (i : Int) : Ct := .sl (vI .i64 i)
def l12 (T : Nat → Int) : List It := (List.range 12).map fun j => .v (.int .u64 (T j))
def stM (a b : Nat) (i : Int) (l : List It) : St := [(8, spt 18), (10, spt 21), (12, spt 25), (14, spt 27), (37, .bl [.w 6 0]), (43, .bl [.w 6 a]), (51, .bl [.w 6 b]), (55, .bl l), (16, sJ i)]
def stM0 (a b : Nat) : St := [(8, spt 18), (10, spt 21), (12, spt 25), (14, spt 27), (37, .bl [.w 6 0]), (43, .bl [.w 6 a]), (51, .bl [.w 6 b]), (55, .bl [.w 12 0])]
theorem M_start (a b : Nat) : probes EM 100 cM1 (inM a b) 16 [] ((stM0 (rd a) (rd b)).map (·.1)) = some (0, [], (stM0 (rd a) (rd b)).map fun p => some p.2) := by kernel_rfl
theorem M_head (a b : Nat) : probe EM 100 cMH (stM0 a b) 60 [] ((stM a b 0 [.w 12 0]).map (·.1)) = some (0, [], (stM a b 0 [.w 12 0]).map fun p => some p.2) := by kernel_rfl
/-! one row of the product -/
def mhI (a b i k : Nat) : Int := (((wI a i).toNat * (wI b k).toNat / 18446744073709551616 : Nat) : Int)
def mlI (a b i k : Nat) : Int := (((wI a i).toNat * (wI b k).toNat % 18446744073709551616 : Nat) : Int)
def rcI (a b : Nat) (T : Nat → Int) (i : Nat) : Nat → Int
  | 0 => 0
  | k + 1 => IntKind.u64.wrap (IntKind.u64.wrap (mhI a b i k + ((((mlI a b i k).toNat + (rcI a b T i k).toNat + (0 : Int).toNat) / 18446744073709551616 : Nat) : Int)) +
      ((((T (i + k)).toNat + ((((mlI a b i k).toNat + (rcI a b T i k).toNat + (0 : Int).toNat) % 18446744073709551616 : Nat) : Int).toNat + (0 : Int).toNat) / 18446744073709551616 : Nat) : Int))
def rlI (a b : Nat) (T : Nat → Int) (i k : Nat) : Int := ((((mlI a b i k).toNat + (rcI a b T i k).toNat + (0 : Int).toNat) % 18446744073709551616 : Nat) : Int)
def rsI (a b : Nat) (T : Nat → Int) (i k : Nat) : Int := ((((T (i + k)).toNat + (rlI a b T i k).toNat + (0 : Int).toNat) % 18446744073709551616 : Nat) : Int)
def rowI (a b : Nat) (T : Nat → Int) (i j : Nat) : Int := match Nat.blt j i with
  | true => T j
  | false => match Nat.blt j (i + 6) with
    | true => rsI a b T i (j - i)
    | false => match Nat.beq j (i + 6) with
      | true => rcI a b T i 6
      | false => T j
def rowOb (a b : Nat) (T : Nat → Int) (i k : Nat) : List Prop := [mOb (wI a i) (wI b k), cOb (mlI a b i k) (rcI a b T i k) 0, cOb (T (i + k)) (rlI a b T i k) 0]
theorem M_row0 (a b : Nat) (T : Nat → Int) : probe EM 100 cML (stM a b 0 (l12 T)) 60 [] ((stM a b 1 (l12 (rowI a b T 0))).map (·.1)) = some (0, ((List.range 6).map (rowOb a b T 0)).flatten, (stM a b 1 (l12 (rowI a b T 0))).map fun p => some p.2) := by kernel_rfl
theorem M_row1 (a b : Nat) (T : Nat → Int) : probe EM 100 cML (stM a b 1 (l12 T)) 60 [] ((stM a b 2 (l12 (rowI a b T 1))).map (·.1)) = some (0, ((List.range 6).map (rowOb a b T 1)).flatten, (stM a b 2 (l12 (rowI a b T 1))).map fun p => some p.2) := by kernel_rfl
theorem M_row2 (a b : Nat) (T : Nat → Int) : probe EM 100 cML (stM a b 2 (l12 T)) 60 [] ((stM a b 3 (l12 (rowI a b T 2))).map (·.1)) = some (0, ((List.range 6).map (rowOb a b T 2)).flatten, (stM a b 3 (l12 (rowI a b T 2))).map fun p => some p.2) := by kernel_rfl
theorem M_row3 (a b : Nat) (T : Nat → Int) : probe EM 100 cML (stM a b 3 (l12 T)) 60 [] ((stM a b 4 (l12 (rowI a b T 3))).map (·.1)) = some (0, ((List.range 6).map (rowOb a b T 3)).flatten, (stM a b 4 (l12 (rowI a b T 3))).map fun p => some p.2) := by kernel_rfl
theorem M_row4 (a b : Nat) (T : Nat → Int) : probe EM 100 cML (stM a b 4 (l12 T)) 60 [] ((stM a b 5 (l12 (rowI a b T 4))).map (·.1)) = some (0, ((List.range 6).map (rowOb a b T 4)).flatten, (stM a b 5 (l12 (rowI a b T 4))).map fun p => some p.2) := by kernel_rfl
theorem M_row5 (a b : Nat) (T : Nat → Int) : probe EM 100 cML (stM a b 5 (l12 T)) 60 [] ((stM a b 6 (l12 (rowI a b T 5))).map (·.1)) = some (0, ((List.range 6).map (rowOb a b T 5)).flatten, (stM a b 6 (l12 (rowI a b T 5))).map fun p => some p.2) := by kernel_rfl
theorem M_exit (a b : Nat) (T : Nat → Int) : probe EM 100 cML (stM a b 6 (l12 T)) 60 [] ((stM a b 6 (l12 T)).map (·.1)) = some (2, [], (stM a b 6 (l12 T)).map fun p => some p.2) := by kernel_rfl
def hiTI (T : Nat → Int) : Nat := num (fun i => ([T 6, T 7, T 8, T 9, T 10, T 11].getD i 0).toNat) 6
def nxI (T : Nat → Int) : Nat → Nat
  | 0 => hiTI T
  | k + 1 => nextN (nxI T k) (T (5 - k)).toNat
def nxIOb (T : Nat → Int) (k : Nat) : Prop := nxI T k % pw 6 < pN ∧ 0 ≤ T (5 - k) ∧ T (5 - k) < 18446744073709551616
def tailOb (T : Nat → Int) : List Prop := [nxIOb T 0, ∀ x ∈ [T 6, T 7, T 8, T 9, T 10, T 11], 0 ≤ x ∧ x < 18446744073709551616, nxIOb T 1, nxIOb T 2, nxIOb T 3, nxIOb T 4, nxIOb T 5]
def stMR (n : Nat) : St := [(8, spt 18), (37, .bl [.w 6 n])]
theorem M_tail (a b : Nat) (T : Nat → Int) : probe EM 100 cMT (stM a b 6 (l12 T)) 60 [] ((stMR (nxI T 6)).map (·.1)) = some (1, tailOb T, (stMR (nxI T 6)).map fun p => some p.2) := by kernel_rfl
end Go.Proofs.Ythceokldlinjlaa
/-
  The document's base field, 6: products.
-/
namespace Go.Proofs.Ythceokldlinjlaa
open Go Go.Eng Go.RowKit Go.Wd Go.Alg Go.Pr

/-! plainly -/
def mhN (a b i k : Nat) : Nat := dg a i * dg b k / 18446744073709551616
def mlN (a b i k : Nat) : Nat := dg a i * dg b k % 18446744073709551616
def rcN (a b : Nat) (T : Nat → Nat) (i : Nat) : Nat → Nat
  | 0 => 0
  | k + 1 => mhN a b i k + (mlN a b i k + rcN a b T i k) / 18446744073709551616 + (T (i + k) + (mlN a b i k + rcN a b T i k) % 18446744073709551616) / 18446744073709551616
def rlN (a b : Nat) (T : Nat → Nat) (i k : Nat) : Nat := (mlN a b i k + rcN a b T i k) % 18446744073709551616
def rsN (a b : Nat) (T : Nat → Nat) (i k : Nat) : Nat := (T (i + k) + rlN a b T i k) % 18446744073709551616
def rowM (a b : Nat) (T : Nat → Nat) (i j : Nat) : Nat := match Nat.blt j i with
  | true => T j
  | false => match Nat.blt j (i + 6) with
    | true => rsN a b T i (j - i)
    | false => match Nat.beq j (i + 6) with
      | true => rcN a b T i 6
      | false => T j
theorem mul_le_w (a b i k : Nat) : dg a i * dg b k ≤ 340282366920938463426481119284349108225 := by
  have h1 := dg_lt a i
  have h2 := dg_lt b k
  exact Nat.mul_le_mul (show dg a i ≤ 18446744073709551615 by omega) (show dg b k ≤ 18446744073709551615 by omega)
theorem step_w {z c t : Nat} (hz : z ≤ 340282366920938463426481119284349108225) (hc : c < 18446744073709551616) (ht : t < 18446744073709551616) :
    z / 18446744073709551616 + (z % 18446744073709551616 + c) / 18446744073709551616 + (t + (z % 18446744073709551616 + c) % 18446744073709551616) / 18446744073709551616 < 18446744073709551616 := by
  omega
theorem rcN_lt (a b : Nat) {T : Nat → Nat} (hT : ∀ j, T j < 18446744073709551616) (i : Nat) : ∀ k, rcN a b T i k < 18446744073709551616 := by
  intro k
  induction k with
  | zero => show 0 < _; decide
  | succ k ih => exact step_w (mul_le_w a b i k) ih (hT (i + k))
def cst (T : Nat → Nat) : Nat → Int := fun j => ((T j : Nat) : Int)
theorem mhI_eq (a b i k : Nat) : mhI a b i k = ((mhN a b i k : Nat) : Int) := by unfold mhI mhN; rw [wI_toNat, wI_toNat]
theorem mlI_eq (a b i k : Nat) : mlI a b i k = ((mlN a b i k : Nat) : Int) := by unfold mlI mlN; rw [wI_toNat, wI_toNat]
theorem rcI_eq (a b : Nat) {T : Nat → Nat} (hT : ∀ j, T j < 18446744073709551616) (i : Nat) : ∀ k, rcI a b (cst T) i k = ((rcN a b T i k : Nat) : Int) := by
  intro k
  induction k with
  | zero => rfl
  | succ k ih =>
    have h := rcN_lt a b hT i (k + 1)
    have h1 : mhN a b i k + (mlN a b i k + rcN a b T i k) / 18446744073709551616 < 18446744073709551616 := Nat.lt_of_le_of_lt (Nat.le_add_right _ _) h
    show IntKind.u64.wrap (IntKind.u64.wrap _ + _) = _
    rw [ih, mhI_eq, mlI_eq]
    simp only [Int.toNat_natCast, cst, show (0 : Int).toNat = 0 from rfl, Nat.add_zero]
    rw [← Int.natCast_add, wrap_nat h1, ← Int.natCast_add]
    exact wrap_nat h
theorem rlI_eq (a b : Nat) {T : Nat → Nat} (hT : ∀ j, T j < 18446744073709551616) (i k : Nat) : rlI a b (cst T) i k = ((rlN a b T i k : Nat) : Int) := by
  unfold rlI rlN
  rw [rcI_eq a b hT, mlI_eq]
  simp only [Int.toNat_natCast, show (0 : Int).toNat = 0 from rfl, Nat.add_zero]
theorem rsI_eq (a b : Nat) {T : Nat → Nat} (hT : ∀ j, T j < 18446744073709551616) (i k : Nat) : rsI a b (cst T) i k = ((rsN a b T i k : Nat) : Int) := by
  unfold rsI rsN
  rw [rlI_eq a b hT]
  simp only [Int.toNat_natCast, cst, show (0 : Int).toNat = 0 from rfl, Nat.add_zero]
theorem rowI_eq (a b : Nat) {T : Nat → Nat} (hT : ∀ j, T j < 18446744073709551616) (i : Nat) : rowI a b (cst T) i = cst (rowM a b T i) := by
  funext j
  show rowI a b (cst T) i j = ((rowM a b T i j : Nat) : Int)
  unfold rowI rowM
  cases Nat.blt j i
  · cases Nat.blt j (i + 6)
    · cases Nat.beq j (i + 6)
      · rfl
      · exact rcI_eq a b hT i 6
    · exact rsI_eq a b hT i (j - i)
  · rfl
theorem rowM_lt (a b : Nat) {T : Nat → Nat} (hT : ∀ j, T j < 18446744073709551616) (i j : Nat) : rowM a b T i j < 18446744073709551616 := by
  unfold rowM
  split
  · exact hT j
  · split
    · exact Nat.mod_lt _ (by decide)
    · split
      · exact rcN_lt a b hT i 6
      · exact hT j
theorem rowOb_ok (a b : Nat) {T : Nat → Nat} (hT : ∀ j, T j < 18446744073709551616) (i : Nat) : ∀ p ∈ ((List.range 6).map (rowOb a b (cst T) i)).flatten, p := by
  intro p hp
  obtain ⟨l, hl, hp⟩ := List.mem_flatten.1 hp
  obtain ⟨k, hk, rfl⟩ := List.mem_map.1 hl
  have h1 := dg_lt a i
  have h2 := dg_lt b k
  have h3 := rcN_lt a b hT i k
  simp only [rowOb, List.mem_cons, List.not_mem_nil, or_false] at hp
  rcases hp with rfl | rfl | rfl
  · unfold mOb wI; omega
  · rw [mlI_eq, rcI_eq a b hT]; unfold cOb; omega
  · rw [rlI_eq a b hT]; unfold cOb cst; omega
theorem num_rs (a b : Nat) (T : Nat → Nat) (i : Nat) : ∀ k, num (rsN a b T i) k + rcN a b T i k * pw k = dg a i * num (dg b) k + num (fun j => T (i + j)) k := by
  intro k
  induction k with
  | zero => simp [num, rcN]
  | succ k ih =>
    have h2 : rsN a b T i k + rcN a b T i (k + 1) * 18446744073709551616 = dg a i * dg b k + rcN a b T i k + T (i + k) := by
      show (T (i + k) + (mlN a b i k + rcN a b T i k) % 18446744073709551616) % 18446744073709551616 + (mhN a b i k + (mlN a b i k + rcN a b T i k) / 18446744073709551616 + (T (i + k) + (mlN a b i k + rcN a b T i k) % 18446744073709551616) / 18446744073709551616) * 18446744073709551616 = _
      unfold mhN mlN
      generalize dg a i * dg b k = z
      omega
    have h3 : (rsN a b T i k + rcN a b T i (k + 1) * 18446744073709551616) * pw k = (dg a i * dg b k + rcN a b T i k + T (i + k)) * pw k := by rw [h2]
    rw [Nat.add_mul, Nat.add_mul, Nat.add_mul] at h3
    simp only [num]
    rw [pw_succ, Nat.mul_add, Nat.mul_comm (pw k) 18446744073709551616, ← Nat.mul_assoc, ← Nat.mul_assoc]
    omega
theorem num_split (T : Nat → Nat) (i : Nat) : ∀ k, num T (i + k) = num T i + pw i * num (fun j => T (i + j)) k := by
  intro k
  induction k with
  | zero => simp [num]
  | succ k ih =>
    show num T (i + k) + T (i + k) * pw (i + k) = num T i + pw i * (num (fun j => T (i + j)) k + T (i + k) * pw k)
    rw [ih, pw_add, Nat.mul_add, ← Nat.mul_assoc (pw i), Nat.mul_comm (pw i) (T (i + k)), Nat.mul_assoc (T (i + k))]
    omega
def TT (a b : Nat) : Nat → Nat → Nat
  | 0 => fun _ => 0
  | i + 1 => rowM a b (TT a b i) i
theorem TT_lt (a b : Nat) : ∀ i j, TT a b i j < 18446744073709551616 := by
  intro i
  induction i with
  | zero => intro j; show 0 < _; decide
  | succ i ih => intro j; exact rowM_lt a b ih i j
theorem rowM_low (a b : Nat) (T : Nat → Nat) {i j : Nat} (h : j < i) : rowM a b T i j = T j := by
  unfold rowM
  have : Nat.blt j i = true := by rw [Nat.blt_eq]; exact h
  rw [this]
theorem rowM_mid (a b : Nat) (T : Nat → Nat) {i k : Nat} (h : k < 6) : rowM a b T i (i + k) = rsN a b T i k := by
  unfold rowM
  have h1 : Nat.blt (i + k) i = false := by rw [Bool.eq_false_iff]; intro e; rw [Nat.blt_eq] at e; omega
  have h2 : Nat.blt (i + k) (i + 6) = true := by rw [Nat.blt_eq]; omega
  rw [h1, h2, Nat.add_sub_cancel_left]
theorem rowM_top (a b : Nat) (T : Nat → Nat) (i : Nat) : rowM a b T i (i + 6) = rcN a b T i 6 := by
  unfold rowM
  have h1 : Nat.blt (i + 6) i = false := by rw [Bool.eq_false_iff]; intro e; rw [Nat.blt_eq] at e; omega
  have h2 : Nat.blt (i + 6) (i + 6) = false := by rw [Bool.eq_false_iff]; intro e; rw [Nat.blt_eq] at e; omega
  have h3 : Nat.beq (i + 6) (i + 6) = true := by rw [Nat.beq_eq]
  rw [h1, h2, h3]
theorem num_succ' (d : Nat → Nat) (k : Nat) : num d (k + 1) = num d k + d k * pw k := rfl
theorem num_rowM (a b : Nat) (T : Nat → Nat) (i : Nat) : num (rowM a b T i) (i + (6 + 1)) = num T (i + 6) + pw i * (dg a i * num (dg b) 6) := by
  have e1 : num (rowM a b T i) i = num T i := num_congr i fun j hj => rowM_low a b T hj
  have e2 : num (fun j => rowM a b T i (i + j)) 6 = num (rsN a b T i) 6 := num_congr 6 fun j hj => rowM_mid a b T hj
  have h := num_split T i 6
  rw [num_split (rowM a b T i) i (6 + 1), num_succ', e1, e2]
  show num T i + pw i * (num (rsN a b T i) 6 + rowM a b T i (i + 6) * pw 6) = _
  rw [rowM_top, num_rs, h, Nat.mul_add]
  omega
theorem num_TT (a b : Nat) : ∀ i, num (TT a b i) (i + 6) = num (dg a) i * num (dg b) 6 := by
  intro i
  induction i with
  | zero => 
    have : ∀ k, num (fun _ => 0) k = 0 := fun k => by
      induction k with
      | zero => rfl
      | succ k ih => rw [num_succ', ih]; simp
    show num (fun _ => 0) (0 + 6) = num (dg a) 0 * _
    rw [this, show num (dg a) 0 = 0 from rfl, Nat.zero_mul]
  | succ i ih =>
    have e : i + 1 + 6 = i + (6 + 1) := by omega
    rw [e]
    show num (rowM a b (TT a b i) i) (i + (6 + 1)) = _
    rw [num_rowM, ih, num_succ' (dg a) i, Nat.add_mul, ← Nat.mul_assoc, Nat.mul_comm (pw i) (dg a i)]
/-! the six words more -/
def nxN (T : Nat → Nat) : Nat → Nat
  | 0 => num (fun j => T (6 + j)) 6
  | k + 1 => nextN (nxN T k) (T (5 - k))
theorem hiTI_eq (T : Nat → Nat) : hiTI (cst T) = num (fun j => T (6 + j)) 6 := by
  unfold hiTI
  refine num_congr 6 fun i hi => ?_
  have : i = 0 ∨ i = 1 ∨ i = 2 ∨ i = 3 ∨ i = 4 ∨ i = 5 := by omega
  rcases this with rfl | rfl | rfl | rfl | rfl | rfl <;> simp [cst]
theorem nxI_eq (T : Nat → Nat) : ∀ k, nxI (cst T) k = nxN T k := by
  intro k
  induction k with
  | zero => exact hiTI_eq T
  | succ k ih => show nextN (nxI (cst T) k) (cst T (5 - k)).toNat = _; rw [ih]; rfl
theorem nxN_law {T : Nat → Nat} (h : num (fun j => T (6 + j)) 6 < pN) : ∀ k, k ≤ 6 → nxN T k < pN ∧ nxN T k = num (fun j => T (6 - k + j)) (6 + k) % pN := by
  intro k
  induction k with
  | zero => intro _; exact ⟨h, (Nat.mod_eq_of_lt h).symm⟩
  | succ k ih =>
    intro hk
    obtain ⟨h1, h2⟩ := ih (by omega)
    refine ⟨Nat.mod_lt _ pN_pos, ?_⟩
    show (T (5 - k) + 18446744073709551616 * (nxN T k % pw 6)) % pN = _
    have e0 : num (fun j => T (6 - (k + 1) + j)) (6 + k + 1) = T (5 - k) + 18446744073709551616 * num (fun j => T (6 - k + j)) (6 + k) := by
      rw [num_cons (fun j => T (6 - k + j)) (fun j => T (6 - (k + 1) + j)) (fun i => congrArg T (by omega))]
      rw [show 6 - (k + 1) + 0 = 5 - k by omega]
    show _ = num (fun j => T (6 - (k + 1) + j)) (6 + k + 1) % pN
    rw [e0, Nat.mod_eq_of_lt (Nat.lt_trans h1 p_lt6), h2, Nat.add_mod, Nat.mul_mod_mod, ← Nat.add_mod]
theorem prod_law {a b : Nat} (ha : a < pN) (hb : b < pN) : num (fun j => TT a b 6 (6 + j)) 6 < pN ∧ nxN (TT a b 6) 6 = a * b % pN := by
  have h := num_TT a b 6
  rw [num_dg, num_dg, Nat.mod_eq_of_lt (Nat.lt_trans ha p_lt6), Nat.mod_eq_of_lt (Nat.lt_trans hb p_lt6)] at h
  have hs := num_split (TT a b 6) 6 6
  have h12 : num (TT a b 6) 12 = a * b := h
  rw [h] at hs
  have hlt : num (fun j => TT a b 6 (6 + j)) 6 < pN := by
    refine Nat.lt_of_mul_lt_mul_left (a := pw 6) ?_
    have h1 : a * b ≤ a * pN := Nat.mul_le_mul_left _ (Nat.le_of_lt hb)
    have h2 : a * pN < pw 6 * pN := Nat.mul_lt_mul_of_pos_right (Nat.lt_trans ha p_lt6) pN_pos
    omega
  refine ⟨hlt, ?_⟩
  rw [(nxN_law hlt 6 (Nat.le_refl _)).2]
  have e : num (fun j => TT a b 6 (6 - 6 + j)) (6 + 6) = num (TT a b 6) 12 := num_congr 12 fun j _ => congrArg _ (by omega)
  rw [e, h12]
theorem tailOb_ok {T : Nat → Nat} (hT : ∀ j, T j < 18446744073709551616) (h : num (fun j => T (6 + j)) 6 < pN) : ∀ p ∈ tailOb (cst T), p := by
  have hn : ∀ k, k ≤ 5 → nxIOb (cst T) k := fun k hk => by
    have h1 := (nxN_law h k (by omega)).1
    have h2 := hT (5 - k)
    unfold nxIOb
    rw [nxI_eq, Nat.mod_eq_of_lt (Nat.lt_trans h1 p_lt6)]
    refine ⟨h1, ?_, ?_⟩ <;> unfold cst <;> omega
  intro p hp
  simp only [tailOb, List.mem_cons, List.not_mem_nil, or_false] at hp
  rcases hp with rfl | rfl | rfl | rfl | rfl | rfl | rfl
  · exact hn 0 (by omega)
  · intro x hx
    simp only [List.mem_cons, List.not_mem_nil, or_false, cst] at hx
    have h6 := hT 6
    have h7 := hT 7
    have h8 := hT 8
    have h9 := hT 9
    have h10 := hT 10
    have h11 := hT 11
    rcases hx with rfl | rfl | rfl | rfl | rfl | rfl <;> omega
  · exact hn 1 (by omega)
  · exact hn 2 (by omega)
  · exact hn 3 (by omega)
  · exact hn 4 (by omega)
  · exact hn 5 (by omega)
end Go.Proofs.Ythceokldlinjlaa
namespace Go.Proofs.Ythceokldlinjlaa
open Go Go.Eng Go.RowKit Go.Wd Go.Alg Go.Pr

theorem zeroR12 : ∀ ρ vs, conc ρ [.w 12 0] = some vs → conc ρ (l12 (cst (fun _ => 0))) = some vs := by
  intro ρ vs h
  have e6 : words 12 0 = (List.range 12).map fun _ => Value.int .u64 0 := by kernel_rfl
  have e : conc ρ [.w 12 0] = some (words 12 0) := by simp [conc, It.cs]
  rw [e, e6] at h
  cases h
  have hc : conc ρ (((List.range 12).map fun _ => Value.int .u64 0).map It.v) = some ((List.range 12).map fun _ => Value.int .u64 0) :=
    val_plain ρ _ (by intro v hv; obtain ⟨_, _, rfl⟩ := List.mem_map.1 hv; rfl)
  exact hc
theorem same_M (a b : Nat) : ∀ k, match Eng.look (stM a b 0 [.w 12 0]) k, Eng.look (stM a b 0 (l12 (cst (fun _ => 0)))) k with | some c, some c' => SameCt c c' | none, none => True | _, _ => False := by
  intro k
  by_cases e1 : k = 55
  · subst e1; exact zeroR12
  · have f1 : (55 == k) = false := by simp; omega
    have : Eng.look (stM a b 0 [.w 12 0]) k = Eng.look (stM a b 0 (l12 (cst (fun _ => 0)))) k := by
      simp only [stM, Eng.look, f1]
      rfl
    rw [this]
    split
    · rename_i x y e3 e4; rw [e3] at e4; cases e4; exact SameCt.refl _
    · trivial
    · rename_i h3 h4; cases h5 : Eng.look (stM a b 0 (l12 (cst (fun _ => 0)))) k with
      | none => exact h4 h5 h5
      | some c => exact h3 c c h5 h5
theorem keep_M (a b : Nat) (i : Int) (T : Nat → Int) : keepsB (stM a b i (l12 T)) [18, 21, 25, 27] = true := by kernel_rfl
theorem keep_Mz (a b : Nat) (i : Int) : keepsB (stM a b i [.w 12 0]) [18, 21, 25, 27] = true := by kernel_rfl
theorem blk_M (a b : Nat) (i : Int) (l : List It) : ∀ id ∈ [18, 21, 25, 27], ∃ l', (stM a b i l).blk id = some l' := by
  intro id hid
  simp only [List.mem_cons, List.not_mem_nil, or_false] at hid
  rcases hid with rfl | rfl | rfl | rfl <;> exact ⟨_, rfl⟩
theorem keep_M0 (a b : Nat) : keepsB (stM0 a b) [18, 21, 25, 27] = true := by kernel_rfl
theorem blk_M0 (a b : Nat) : ∀ id ∈ [18, 21, 25, 27], ∃ l', (stM0 a b).blk id = some l' := by
  intro id hid
  simp only [List.mem_cons, List.not_mem_nil, or_false] at hid
  rcases hid with rfl | rfl | rfl | rfl <;> exact ⟨_, rfl⟩
theorem keep_MR (n : Nat) : keepsB (stMR n) [18] = true := by kernel_rfl
theorem blk_MR (n : Nat) : ∀ id ∈ [18], ∃ l', (stMR n).blk id = some l' := by
  intro id hid
  simp only [List.mem_cons, List.not_mem_nil, or_false] at hid
  subst hid
  exact ⟨_, rfl⟩
theorem res_MR (n : Nat) : resultsOf tyTab (stMR n) [.cell 4 24] = some [W6 n] := by kernel_rfl
def stT (a b i : Nat) : St := stM a b (i : Int) (l12 (cst (TT a b i)))
theorem M_loop {w0 : World} {Q : Exit → Act → World → Prop} {a b : Nat}
    (hQ : ∀ c w, At 94 rho0 w0 (stT a b 6) c w → Q (.exit 0) c w) {c : Act} {w : World}
    (hA : At 94 rho0 w0 (stT a b 0) c w) : (Code.loop cML).wp Try.prog Q c w := by
  refine loop_rule (w0 := w0) (ρ0 := rho0) (N := 94) (ι := Nat) (fun i => i ≤ 6) (stT a b) (fun i => 6 - i) ?_ 0 (by omega) c w hA
  intro i hi c w hA
  have hi : i ≤ 6 := hi
  have step : ∀ (i : Nat), i < 6 → probe EM 100 cML (stT a b i) 60 [] ((stM a b ((i + 1 : Nat) : Int) (l12 (rowI a b (cst (TT a b i)) i))).map (·.1)) = some (0, ((List.range 6).map (rowOb a b (cst (TT a b i)) i)).flatten, (stM a b ((i + 1 : Nat) : Int) (l12 (rowI a b (cst (TT a b i)) i))).map fun p => some p.2) →
      At 94 rho0 w0 (stT a b i) c w → cML.wp Try.prog (Exit.then (fun a' w' => ∃ i', i' ≤ 6 ∧ 6 - i' < 6 - i ∧ At 94 rho0 w0 (stT a b i') a' w') Q) c w := by
    intro i hi hp hA
    refine At.probe (E := EM) mixed tyTab_ok callMu hp (rowOb_ok a b (TT_lt a b i) i) hA [18, 21, 25, 27] (blk_M _ _ _ _) (keep_M _ _ _ _) (no_rho0 _) fun a' w' hA' => ⟨i + 1, by omega, by omega, ?_⟩
    rw [rowI_eq a b (TT_lt a b i)] at hA'
    exact hA'
  have hc : i = 0 ∨ i = 1 ∨ i = 2 ∨ i = 3 ∨ i = 4 ∨ i = 5 ∨ i = 6 := by omega
  rcases hc with rfl | rfl | rfl | rfl | rfl | rfl | rfl
  · exact step 0 (by omega) (M_row0 a b _) hA
  · exact step 1 (by omega) (M_row1 a b _) hA
  · exact step 2 (by omega) (M_row2 a b _) hA
  · exact step 3 (by omega) (M_row3 a b _) hA
  · exact step 4 (by omega) (M_row4 a b _) hA
  · exact step 5 (by omega) (M_row5 a b _) hA
  · exact At.probe (E := EM) mixed tyTab_ok callMu (M_exit a b _) (fun p hp => by cases hp) hA [18, 21, 25, 27] (blk_M _ _ _ _) (keep_M _ _ _ _) (no_rho0 _) fun a' w' hA' => hQ a' w' hA'
theorem rMul (m n : Nat) : Pure Try.prog 85 [wv m, wv n] (wv (mulF m n)) := by
  have hm : mulF m n = rd m * rd n % pN := by unfold mulF; rw [← mul_val]; rfl
  rw [wv_nat, wv_nat, wv_nat, hm]
  intro w
  refine .inr ⟨dMu_ok.enter _ _, ?_⟩
  have hv : vals rho0 [W6 m, W6 n] = some [.agg (words 6 m).toArray, .agg (words 6 n).toArray] := by simp only [vals, val_W6]
  obtain ⟨hlt, hpr⟩ := prod_law (rd_lt m) (rd_lt n)
  refine (calls_of_at (G := fun xs st => xs = [W6 (rd m * rd n % pN)]) tyTab_ok dMu_ok (mem_rho0 w) (by kernel_rfl) hv (by rw [dMu_ntmps]; simp) fun b hA0 => ?_).mono ?_
  · rw [dMu_ntmps] at hA0
    have hA0 : At 94 rho0 w (inM m n) b w := hA0
    rw [dMu_ntmps, dMu_results, dMu_chain]
    refine At.probes (E := EM) mixed tyTab_ok callMu (M_start m n) (fun p hp => by cases hp) hA0 [18, 21, 25, 27] (blk_M0 _ _) (keep_M0 _ _) (no_rho0 _) fun a1 w1 h1 => ?_
    show Code.wp _ _ _ _ _
    refine wp_seq (wp_seq (At.probe (E := EM) mixed tyTab_ok callMu (M_head (rd m) (rd n)) (fun p hp => by cases hp) h1 [18, 21, 25, 27] (blk_M _ _ _ _) (keep_Mz _ _ _) (no_rho0 _) fun a' w' hA' => ?_))
    have hA' := hA'.same (same_M (rd m) (rd n))
    show Code.wp _ _ _ _ _
    refine wp_block (M_loop (fun a2 w2 h2 => ?_) hA')
    show Code.wp _ _ _ _ _
    refine At.probe (E := EM) mixed tyTab_ok callMu (M_tail (rd m) (rd n) _) (tailOb_ok (TT_lt _ _ 6) hlt) h2 [18] (blk_MR _) (keep_MR _) (no_rho0 _) fun a3 w3 h3 => ?_
    refine ⟨.inr rfl, stMR _, [W6 _], h3, res_MR _, ?_⟩
    rw [nxI_eq, hpr]
  · rintro e w' ⟨v, rfl, xs, st, ρ', hE, hval, hMk, rfl⟩
    refine ⟨v, rfl, ?_, hE.below fun b ⟨id, _, _, hq⟩ => by cases hq⟩
    have : (W6 (rd m * rd n % pN)).val ρ' = some v := hval
    rw [val_W6] at this
    cases this; rfl
end Go.Proofs.Ythceokldlinjlaa
