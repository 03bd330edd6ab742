/-
  The document's base field, 2: a number of seven words less p times a word.
-/
import Derived.Test.YtkpihidjolfkoaaN
/-
  The document's base field, 1: P, Below, minus, Reduce, Add, Neg, Sub.
-/
namespace Go.Proofs.Ytkpihidjolfkoaa
open Go Go.Eng Go.RowKit Go.Wd Go.Alg Go.Pr

theorem rP_run : run1 none1 85 [] [] = some (sw ((List.range 6).map fun i => uv (dg pN i)), []) := by kernel_rfl
theorem rP_pure : Pure Try.prog 85 [] (wv pN) := by
  refine pure_of_run1 none1_ok rP_run (fun p hp => by cases hp) rfl fun ρ u hu => ?_
  rw [sw_val hu, range6_uv fun i _ => dg_lt _ _, num_dg, words_mod, wv_nat]
/-- The modulus by a name: owed that it is. -/
def rPQ (q : Nat) : Row where
  f := 85
  ans := fun
    | [] => some (.one (wN q), [q = pN])
    | _ => none
theorem rPQ_ok (q : Nat) : RowOk Try.prog (rPQ q) := by
  intro args s ob ha hob ρ vs hv
  unfold rPQ at ha
  simp only at ha
  split at ha
  · cases ha; cases hv
    have h := hob _ (List.mem_singleton.2 rfl)
    exact ⟨_, val_wN (A := Nat) rho0 q, by rw [h]; exact rP_pure⟩
  · cases ha
noncomputable def TQ1 (q : Nat) : CallT := tableT [sub64Row, add64Row, rPQ q]
theorem TQ1_ok (q : Nat) : CallOk Try.prog (TQ1 q) := tableT_ok (by
  simp only [List.forall_mem_cons, List.not_mem_nil, false_imp_iff, implies_true, and_true]
  exact ⟨sub64_ok, add64_ok, rPQ_ok q⟩)

/-! ### Below -/
def neO (u x j : Nat) (b : Bool) : Prop := ((dg u j : Nat) : Int) ≠ ((dg x j : Nat) : Int) ↔ b = true
def belowH (n : Nat) (b : Bool) : List (Nat × Bool) := List.replicate n (16, false) ++ [(16, true), (23, b)]
def BelowRun (n : Nat) : Prop := ∀ (u q : Nat) (b : Bool), run1 (TQ1 q) 87 [wN u] (belowH n b) = some (vB b, (q = pN) :: ((List.range n).map (fun j => neO u q (5 - j) false) ++ [neO u q (5 - n) true, ltO u q (5 - n) b]))
theorem below0 : BelowRun 0 := by intro u x b; cases b <;> kernel_rfl
theorem below1 : BelowRun 1 := by intro u x b; cases b <;> kernel_rfl
theorem below2 : BelowRun 2 := by intro u x b; cases b <;> kernel_rfl
theorem below3 : BelowRun 3 := by intro u x b; cases b <;> kernel_rfl
theorem below4 : BelowRun 4 := by intro u x b; cases b <;> kernel_rfl
theorem below5 : BelowRun 5 := by intro u x b; cases b <;> kernel_rfl
theorem below6 (u q : Nat) : run1 (TQ1 q) 87 [wN u] (List.replicate 6 (16, false)) = some (vB false, (q = pN) :: (List.range 6).map (fun j => neO u q (5 - j) false)) := by kernel_rfl
theorem belowR (n : Nat) (h : n < 6) : BelowRun n := by
  have : n = 0 ∨ n = 1 ∨ n = 2 ∨ n = 3 ∨ n = 4 ∨ n = 5 := by omega
  rcases this with rfl | rfl | rfl | rfl | rfl | rfl
  · exact below0
  · exact below1
  · exact below2
  · exact below3
  · exact below4
  · exact below5
theorem below_find {u : Nat} : ∀ m, m ≤ 6 → (∀ j, m ≤ j → j < 6 → dg u j = dg pN j) → ∃ (h : List (Nat × Bool)) (ob : List Prop), run1 (TQ1 pN) 87 [wN u] h = some (vB (decide (num (dg u) m < num (dg pN) m)), ob) ∧ ∀ p ∈ ob, p := by
  intro m
  induction m with
  | zero =>
    intro _ heq
    refine ⟨_, _, below6 u pN, fun p hp => ?_⟩
    rcases List.mem_cons.1 hp with rfl | hp
    · rfl
    obtain ⟨j, hj, rfl⟩ := List.mem_map.1 hp
    have hj : j < 6 := by simpa using hj
    have := heq (5 - j) (by omega) (by omega)
    unfold neO; rw [this]; simp
  | succ m ih =>
    intro hm heq
    have hu : num (dg u) m < pw m := num_lt m fun i _ => dg_lt u i
    have hx : num (dg pN) m < pw m := num_lt m fun i _ => dg_lt pN i
    by_cases h : dg u m = dg pN m
    · obtain ⟨hh, ob, h1, h2⟩ := ih (by omega) fun j h1 h2 => by
        by_cases e : j = m
        · rw [e]; exact h
        · exact heq j (by omega) h2
      refine ⟨hh, ob, ?_, h2⟩
      have : decide (num (dg u) (m + 1) < num (dg pN) (m + 1)) = decide (num (dg u) m < num (dg pN) m) := by
        show decide (num (dg u) m + dg u m * pw m < num (dg pN) m + dg pN m * pw m) = _
        rw [h]
        apply decide_eq_decide.2
        omega
      rw [this]; exact h1
    · have hrun := belowR (5 - m) (by omega) u pN (decide (dg u m < dg pN m))
      have e5 : 5 - (5 - m) = m := by omega
      rw [e5] at hrun
      have hv : decide (dg u m < dg pN m) = decide (num (dg u) (m + 1) < num (dg pN) (m + 1)) := by
        show _ = decide (num (dg u) m + dg u m * pw m < num (dg pN) m + dg pN m * pw m)
        apply decide_eq_decide.2
        generalize num (dg pN) m = c at *
        generalize num (dg u) m = d at *
        generalize dg pN m = e at *
        generalize dg u m = f at *
        by_cases hl : f < e
        · have hb : (f + 1) * pw m ≤ e * pw m := Nat.mul_le_mul_right _ hl
          rw [Nat.add_mul, Nat.one_mul] at hb
          exact ⟨fun _ => by omega, fun _ => hl⟩
        · have hb : (e + 1) * pw m ≤ f * pw m := Nat.mul_le_mul_right _ (by omega)
          rw [Nat.add_mul, Nat.one_mul] at hb
          exact ⟨fun x => absurd x hl, fun _ => by omega⟩
      rw [← hv]
      refine ⟨_, _, hrun, fun p hp => ?_⟩
      rcases List.mem_cons.1 hp with rfl | hp
      · rfl
      simp only [List.mem_append, List.mem_cons, List.not_mem_nil, or_false] at hp
      rcases hp with hp | rfl | rfl
      · obtain ⟨j, hj, rfl⟩ := List.mem_map.1 hp
        have hj : j < 5 - m := by simpa using hj
        have := heq (5 - j) (by omega) (by omega)
        unfold neO; rw [this]; simp
      · unfold neO
        have : ((dg u m : Nat) : Int) ≠ ((dg pN m : Nat) : Int) := by omega
        simp [this]
      · unfold ltO
        rw [decide_eq_true_iff]; omega
theorem below_pure (u : Nat) : Pure Try.prog 87 [wv u] (.bool (decide (u % M6 < pN))) := by
  obtain ⟨h, ob, h1, h2⟩ := below_find (u := u) 6 (by omega) (fun j hj hj' => by omega)
  rw [num_dg, dg_pN] at h1
  refine pure_of_run1 (TQ1_ok pN) h1 h2 (vals1 u) fun ρ v hv => ?_
  rw [vB_val] at hv
  cases hv; rfl
def belowQ (b : Bool) : Row where
  f := 87
  ans := fun
    | [x] => match asN Nat x with
      | some n => some (vB b, [n % M6 < pN ↔ b = true])
      | none => none
    | _ => none
theorem belowQ_ok (b : Bool) : RowOk Try.prog (belowQ b) := by
  intro args s ob ha hob ρ vs hv
  unfold belowQ at ha
  simp only at ha
  split at ha
  · split at ha
    · rename_i n hn
      cases ha
      obtain ⟨v1, us, h1, h2, rfl⟩ := vals_cons hv
      cases h2
      rw [asN_ok hn h1]
      have h := hob _ (List.mem_singleton.2 rfl)
      have e : decide (n % M6 < pN) = b := by
        cases b with
        | true => exact decide_eq_true (h.2 rfl)
        | false => exact decide_eq_false fun x => by cases h.1 x
      exact ⟨_, vB_val _ _, e ▸ below_pure n⟩
    · cases ha
  · cases ha

/-! ### minus -/
theorem minus_rrun (a b : Nat) : run1 (TQ1 0) 88 [wN a, wN b] [] = some (sw ((List.range 6).map fun i => uv (bd (dg a) (dg b) i)), (List.range 6).map (subOb (dg a) (dg b))) := by kernel_rfl
def minN (a b : Nat) : Nat := num (bd (dg a) (dg b)) 6
theorem minus_rpure (a b : Nat) : Pure Try.prog 88 [wv a, wv b] (wv (minN a b)) := by
  refine pure_of_run1 (TQ1_ok 0) (minus_rrun a b) (fun p hp => ?_) (vals2 a b) fun ρ u hu => ?_
  · obtain ⟨i, _, rfl⟩ := List.mem_map.1 hp; exact subOb_ok _ _ _
  · rw [sw_val hu, range6_uv fun i _ => bd_lt _ _ _, wv_nat]; rfl
theorem minN_eq {a b : Nat} (h : b % M6 ≤ a % M6) : minN a b = a % M6 - b % M6 := by
  have hs := num_bd (x := dg a) (y := dg b) 6 (fun i _ => dg_lt _ _) (fun i _ => dg_lt _ _)
  rw [num_dg, num_dg] at hs
  have hl : num (bd (dg a) (dg b)) 6 < M6 := num_lt 6 fun i _ => bd_lt _ _ i
  have hb := bw_le (dg a) (dg b) 6
  have hn : a % M6 < M6 := Nat.mod_lt _ M6_pos
  unfold minN
  have e : M6 = pw 6 := rfl
  rw [← e] at hs
  rcases Nat.lt_or_ge 0 (bw (dg a) (dg b) 6) with h1 | h1
  · have h2 : bw (dg a) (dg b) 6 = 1 := by omega
    rw [h2, Nat.one_mul] at hs; omega
  · have h2 : bw (dg a) (dg b) 6 = 0 := by omega
    rw [h2, Nat.zero_mul] at hs; omega

/-! ### Reduce -/
noncomputable def dRR : Fn1 := match fn1 73 with
  | some d => d
  | none => ⟨.skip, [], 0⟩
theorem dRR_ok : FnOk Try.prog 73 dRR := fn1_ok _ _ (by kernel_rfl)
noncomputable def ERR (b : Bool) : Eng := { tab := tyTab, call := callN tyTab (tableT [belowQ b, rowN0 85 pN, rowN2 88 minN]) fn1 1000 6, N := 10 }
set_option maxRecDepth 100000 in
theorem callRR (b : Bool) : CallOk Try.prog (ERR b).call := callN_ok mixed tyTab_ok (tableT_ok (by
  simp only [List.forall_mem_cons, List.not_mem_nil, false_imp_iff, implies_true, and_true]
  exact ⟨belowQ_ok b, rowN0_ok rP_pure, rowN2_ok minus_rpure⟩)) fn1_ok 1000 6
theorem tabRR (b : Bool) : ∀ t d, (ERR b).tab t = some d → TyOk Try.prog t d := tyTab_ok
noncomputable def cRRa : Code := seqL dRR.body
noncomputable def cRRL : Code := loopIn (blockIn (seqL (seqR dRR.body)))
noncomputable def cRRT : Code := seqR (seqR dRR.body)
theorem dRR_body : dRR.body = .seq cRRa (.seq (.block 0 (.loop cRRL)) cRRT) := by kernel_rfl
theorem dRR_ntmps : dRR.ntmps = 10 := by kernel_rfl
theorem dRR_results : dRR.results = [.cell 2 24] := by kernel_rfl
def stRR (n : Nat) : St := [(2, spt 16), (4, spt 17), (33, .bl [.w 6 n]), (35, .bl [.w 6 0])]
noncomputable def inRR (n : Nat) : St := initSlots 0 [wN n] (10 - [wN n].length) ++ []
theorem RR_start (n : Nat) : probe (ERR true) 100 cRRa (inRR n) 16 [] ((stRR n).map (·.1)) = some (0, [], (stRR n).map fun p => some p.2) := by kernel_rfl
theorem RR_exit (n : Nat) : probe (ERR true) 100 cRRL (stRR n) 20 [] ((stRR n).map (·.1)) = some (2, [n % M6 < pN ↔ true = true], (stRR n).map fun p => some p.2) := by kernel_rfl
theorem RR_step (n : Nat) : probe (ERR false) 100 cRRL (stRR n) 20 [] ((stRR (minN n pN)).map (·.1)) = some (0, [n % M6 < pN ↔ false = true], (stRR (minN n pN)).map fun p => some p.2) := by kernel_rfl
theorem RR_tail (n : Nat) : probe (ERR true) 100 cRRT (stRR n) 20 [] (([(4, spt 17), (35, .bl [.w 6 n])] : St).map (·.1)) = some (1, [], ([(4, spt 17), (35, .bl [.w 6 n])] : St).map fun p => some p.2) := by kernel_rfl
theorem keep_RR (n : Nat) : keepsB (stRR n) [16, 17] = true := by kernel_rfl
theorem blk_RR (n : Nat) : ∀ id ∈ [16, 17], ∃ l, (stRR n).blk id = some l := by
  intro id hid
  simp only [List.mem_cons, List.not_mem_nil, or_false] at hid
  rcases hid with rfl | rfl <;> exact ⟨_, rfl⟩
theorem RR_loop {w0 : World} {Q : Exit → Act → World → Prop} {n0 : Nat} (hQ : ∀ n a w, n % M6 = rd n0 → At 10 rho0 w0 (stRR n) a w → Q (.exit 0) a w) {a : Act} {w : World} (hA : At 10 rho0 w0 (stRR n0) a w) : (Code.loop cRRL).wp Try.prog Q a w := by
  have hp := pN_pos
  refine loop_rule (w0 := w0) (ρ0 := rho0) (N := 10) (ι := Nat) (fun n => n % M6 % pN = rd n0) (fun n => stRR n) (fun n => n % M6) ?_ n0 rfl a w hA
  intro n hn a w hA
  have hn : n % M6 % pN = rd n0 := hn
  by_cases h : n % M6 < pN
  · refine At.probe (E := ERR true) mixed (tabRR _) (callRR _) (RR_exit n) (fun p hp => by rw [List.mem_singleton] at hp; subst hp; exact ⟨fun _ => rfl, fun _ => h⟩) hA [16, 17] (blk_RR _) (keep_RR _) (no_rho0 _) fun a' w' hA' => ?_
    exact hQ n a' w' (by rw [← hn, Nat.mod_eq_of_lt h]) hA'
  · have hlt : pN % M6 = pN := Nat.mod_eq_of_lt pN_lt
    have e : minN n pN = n % M6 - pN := by rw [minN_eq (by rw [hlt]; omega), hlt]
    have hM : n % M6 < M6 := Nat.mod_lt _ M6_pos
    refine At.probe (E := ERR false) mixed (tabRR _) (callRR _) (RR_step n) (fun p hp => by rw [List.mem_singleton] at hp; subst hp; exact ⟨fun x => absurd x h, fun x => by cases x⟩) hA [16, 17] (blk_RR _) (keep_RR _) (no_rho0 _) fun a' w' hA' => ⟨minN n pN, ?_, ?_, hA'⟩
    · show minN n pN % M6 % pN = rd n0
      rw [e, Nat.mod_eq_of_lt (a := n % M6 - pN) (b := M6) (by omega), ← hn]
      exact (Nat.mod_eq_sub_mod (by omega)).symm
    · show minN n pN % M6 < n % M6
      rw [e, Nat.mod_eq_of_lt (a := n % M6 - pN) (b := M6) (by omega)]; omega
theorem rReduce (n : Nat) : Pure Try.prog 73 [wv n] (wv (rdN n)) := by
  intro w
  refine .inr ⟨dRR_ok.enter _ _, ?_⟩
  refine (calls_of_at (G := fun xs st => ∃ k, k % M6 = rd n ∧ xs = [wN k]) tyTab_ok dRR_ok (mem_rho0 w) (by kernel_rfl) (vals1 n) (by rw [dRR_ntmps]; simp) fun a hA0 => ?_).mono ?_
  · rw [dRR_ntmps] at hA0
    have hA0 : At 10 rho0 w (inRR n) a w := hA0
    rw [dRR_ntmps, dRR_results, dRR_body]
    refine wp_seq (At.probe (E := ERR true) mixed (tabRR _) (callRR _) (RR_start n) (fun p hp => by cases hp) hA0 [16, 17] (blk_RR _) (keep_RR _) (no_rho0 _) fun a1 w1 h1 => ?_)
    show Code.wp _ _ _ _ _
    refine wp_seq (wp_block (RR_loop (fun k a2 w2 hk h2 => ?_) h1))
    show Code.wp _ _ _ _ _
    refine At.probe (E := ERR true) mixed (tabRR _) (callRR _) (RR_tail k) (fun p hp => by cases hp) h2 [17] (fun id hid => by rw [List.mem_singleton] at hid; subst hid; exact ⟨_, rfl⟩) (by kernel_rfl) (no_rho0 _) fun a3 w3 h3 => ?_
    exact ⟨.inr rfl, _, [wN k], h3, by kernel_rfl, k, hk, rfl⟩
  · rintro e w' ⟨v, rfl, xs, st, ρ', hE, hval, hMk, k, hk, rfl⟩
    refine ⟨v, rfl, ?_, hE.below fun b ⟨id, _, hq⟩ => by cases hq⟩
    have : (wN k).val ρ' = some v := hval
    rw [val_wN] at this
    cases this
    rw [wv_nat, wv_nat, rdN, ← rd_val, ← hk]
    exact congrArg (fun l => Value.agg l.toArray) (words_mod 6 k).symm

/-! ### Add, Neg, Sub -/
noncomputable def rowsR4 : List Row := [sub64Row, add64Row, rowN0 85 pN, rowN2 88 minN, rowN1 73 rdN]
theorem rowsR4_ok : ∀ r ∈ rowsR4, RowOk Try.prog r := by
  simp only [rowsR4, List.forall_mem_cons, List.not_mem_nil, false_imp_iff, implies_true, and_true]
  exact ⟨sub64_ok, add64_ok, rowN0_ok rP_pure, rowN2_ok minus_rpure, rowN1_ok rReduce⟩
theorem rNeg_run (n : Nat) : run1 (tableT rowsR4) 74 [wN n] [] = some (.one (wN (rdN (minN pN (rdN n)))), []) := by kernel_rfl
theorem rNeg (n : Nat) : Pure Try.prog 74 [wv n] (wv (negF n)) := by
  refine pureN_of_run (tableT_ok rowsR4_ok) (rNeg_run n) (fun _ h => by cases h) (vals1 n) ?_
  have hz := (φ n).lt
  have hp : pN < M6 := pN_lt
  have hr : rdN n = (φ n).val := rfl
  have e1 : pN % M6 = pN := Nat.mod_eq_of_lt hp
  have e2 : rdN n % M6 = rdN n := Nat.mod_eq_of_lt (by rw [hr]; omega)
  have e : minN pN (rdN n) = pN - rdN n := by rw [minN_eq (by rw [e1, e2, hr]; omega), e1, e2]
  unfold negF
  show (φ (minN pN (rdN n))).val = _
  rw [e, ← rd_val, hr]
  show rd (pN - (φ n).val) = (pN - (φ n).val) % pN
  unfold rd
  rw [Nat.mod_eq_of_lt (a := pN - (φ n).val) (b := M6) (by omega)]
theorem rReduce' (n : Nat) : Pure Try.prog 73 [.agg (words 6 n).toArray] (.agg (words 6 (rd n)).toArray) := by
  have := rReduce n
  rw [wv_nat, wv_nat, rdN, ← rd_val] at this
  exact this
noncomputable def rowsR5 : List Row := [sub64Row, add64Row, row1 73 rd, row1 74 negF]
theorem rowsR5_ok : ∀ r ∈ rowsR5, RowOk Try.prog r := by
  simp only [rowsR5, List.forall_mem_cons, List.not_mem_nil, false_imp_iff, implies_true, and_true]
  exact ⟨sub64_ok, add64_ok, row1_ok rReduce', row1_ok fun n => by have := rNeg n; rw [wv_nat, wv_nat] at this; exact this⟩
theorem rAdd_run (m n : Nat) : run1 (tableT rowsR5) 71 [W6 m, W6 n] [] = some (.one (W6 (rd (asN6 (cd 0 (dg (rd m)) (dg (rd n)))))), (List.range 6).map (addOb 0 (dg (rd m)) (dg (rd n))) ++ [ob6 (cd 0 (dg (rd m)) (dg (rd n)))]) := by kernel_rfl
theorem rAdd (m n : Nat) : Pure Try.prog 71 [wv m, wv n] (wv (addF m n)) := by
  have hx := rd_lt m
  have hy := rd_lt n
  have h2 := M6_2p
  have hs := num_cd (c := 0) (x := dg (rd m)) (y := dg (rd n)) 6
  rw [dg_rd, dg_rd] at hs
  have hl := num_lt (d := cd 0 (dg (rd m)) (dg (rd n))) 6 fun i _ => cd_lt _ _ _ i
  have hl : num (cd 0 (dg (rd m)) (dg (rd n))) 6 < M6 := hl
  have hc : cw 0 (dg (rd m)) (dg (rd n)) 6 = 0 := by
    rcases Nat.eq_zero_or_pos (cw 0 (dg (rd m)) (dg (rd n)) 6) with h | h
    · exact h
    · have : 1 * pw 6 ≤ cw 0 (dg (rd m)) (dg (rd n)) 6 * pw 6 := Nat.mul_le_mul_right _ h
      have e : M6 = pw 6 := rfl
      omega
  rw [hc, Nat.zero_mul, Nat.add_zero, Nat.add_zero] at hs
  rw [wv_nat, wv_nat, wv_nat]
  refine pure2_of_run (tableT_ok rowsR5_ok) (rAdd_run m n) ?_ ?_
  · intro q hq
    simp only [List.mem_append, List.mem_cons, List.not_mem_nil, or_false] at hq
    rcases hq with hq | rfl
    · obtain ⟨i, _, rfl⟩ := List.mem_map.1 hq
      have : cw 0 (dg (rd m)) (dg (rd n)) i ≤ 1 := cw_le (by omega) i (fun _ _ => dg_lt _ _) (fun _ _ => dg_lt _ _)
      unfold addOb; omega
    · exact ob6_ok fun i => cd_lt _ _ _ i
  · rw [asN6_eq, hs, addF, ← add_val]
    refine congrArg (words 6) ?_
    show (rd m + rd n) % M6 % pN = _
    rw [Nat.mod_eq_of_lt (a := rd m + rd n) (b := M6) (by omega)]; rfl
theorem rSub_run (m n : Nat) : run1 (tableT [rowN2 71 addF, rowN1 74 negF]) 69 [wN m, wN n] [] = some (.one (wN (addF m (negF n))), []) := by kernel_rfl
theorem rSub (m n : Nat) : Pure Try.prog 69 [wv m, wv n] (wv (subF m n)) := by
  refine pureN_of_run (tableT_ok (by
    simp only [List.forall_mem_cons, List.not_mem_nil, false_imp_iff, implies_true, and_true]
    exact ⟨rowN2_ok rAdd, rowN1_ok rNeg⟩)) (rSub_run m n) (fun _ h => by cases h) (vals2 m n) ?_
  unfold addF negF subF
  rw [φ_val]; rfl
end Go.Proofs.Ytkpihidjolfkoaa
namespace Go.Proofs.Ytkpihidjolfkoaa
open Go Go.Eng Go.RowKit Go.Wd Go.Alg Go.Pr

/-- The run's own words: p's digits times q, with what is carried; then the difference. -/
def wI (n i : Nat) : Int := ((dg n i : Nat) : Int)
def hiI (pq q i : Nat) : Int := match Nat.blt i 6 with
  | true => (((wI pq i).toNat * ((q : Nat) : Int).toNat / 18446744073709551616 : Nat) : Int)
  | false => 0
def loI (pq q i : Nat) : Int := match Nat.blt i 6 with
  | true => (((wI pq i).toNat * ((q : Nat) : Int).toNat % 18446744073709551616 : Nat) : Int)
  | false => 0
def lcI (pq q : Nat) : Nat → Int
  | 0 => 0
  | i + 1 => IntKind.u64.wrap (hiI pq q i + ((((loI pq q i).toNat + (lcI pq q i).toNat + (0 : Int).toNat) / 18446744073709551616 : Nat) : Int))
def lsI (pq q i : Nat) : Int := ((((loI pq q i).toNat + (lcI pq q i).toNat + (0 : Int).toNat) % 18446744073709551616 : Nat) : Int)
def lbI (n pq q : Nat) : Nat → Int
  | 0 => 0
  | i + 1 => ((if (wI n i).toNat < (lsI pq q i).toNat + (lbI n pq q i).toNat then 1 else 0 : Nat) : Int)
def ldI (n pq q i : Nat) : Int := ((((wI n i).toNat + 18446744073709551616 - (lsI pq q i).toNat - (lbI n pq q i).toNat) % 18446744073709551616 : Nat) : Int)
noncomputable def TL (pq : Nat) : CallT := tableT [sub64Row, add64Row, mul64Row, rPQ pq]
theorem TL_ok (pq : Nat) : CallOk Try.prog (TL pq) := tableT_ok (by
  simp only [List.forall_mem_cons, List.not_mem_nil, false_imp_iff, implies_true, and_true]
  exact ⟨sub64_ok, add64_ok, mul64_ok, rPQ_ok pq⟩)
def mOb (x y : Int) : Prop := 0 ≤ x ∧ x < 18446744073709551616 ∧ 0 ≤ y ∧ y < 18446744073709551616
def cOb (x y z : Int) : Prop := 0 ≤ x ∧ 0 ≤ y ∧ 0 ≤ z ∧ z ≤ 1
def lessOb (n pq q i : Nat) : List Prop := match Nat.blt i 6 with
  | true => [mOb (wI pq i) (q : Int), cOb (loI pq q i) (lcI pq q i) 0, cOb (wI n i) (lsI pq q i) (lbI n pq q i)]
  | false => [cOb (loI pq q i) (lcI pq q i) 0, cOb (wI n i) (lsI pq q i) (lbI n pq q i)]
def W7 (n : Nat) : AV := ⟨true, [.w 7 n]⟩
theorem rless_run (n pq q : Nat) : run1 (TL pq) 92 [W7 n, uw q] [] = some (sw ((List.range 7).map fun i => .int .u64 (ldI n pq q i)), (pq = pN) :: ((List.range 7).map (lessOb n pq q)).flatten) := by kernel_rfl

/-! plainly -/
def hiN (pq q i : Nat) : Nat := match Nat.blt i 6 with
  | true => dg pq i * q / 18446744073709551616
  | false => 0
def loN (pq q i : Nat) : Nat := match Nat.blt i 6 with
  | true => dg pq i * q % 18446744073709551616
  | false => 0
def lcN (pq q : Nat) : Nat → Nat
  | 0 => 0
  | i + 1 => hiN pq q i + (loN pq q i + lcN pq q i) / 18446744073709551616
def lsN (pq q i : Nat) : Nat := (loN pq q i + lcN pq q i) % 18446744073709551616
theorem wI_toNat (n i : Nat) : (wI n i).toNat = dg n i := Int.toNat_natCast _
theorem hiI_eq (pq q i : Nat) : hiI pq q i = ((hiN pq q i : Nat) : Int) := by
  unfold hiI hiN
  split
  · rw [wI_toNat, Int.toNat_natCast]
  · rfl
theorem loI_eq (pq q i : Nat) : loI pq q i = ((loN pq q i : Nat) : Int) := by
  unfold loI loN
  split
  · rw [wI_toNat, Int.toNat_natCast]
  · rfl
theorem hilo (pq : Nat) {q : Nat} (hq : q < 18446744073709551616) (i : Nat) : hiN pq q i ≤ 18446744073709551614 ∧ loN pq q i < 18446744073709551616 := by
  unfold hiN loN
  have hd := dg_lt pq i
  split
  · refine ⟨?_, Nat.mod_lt _ (by decide)⟩
    have : dg pq i * q ≤ 18446744073709551615 * 18446744073709551615 := Nat.mul_le_mul (by omega) (by omega)
    have h2 : dg pq i * q / 18446744073709551616 ≤ 18446744073709551615 * 18446744073709551615 / 18446744073709551616 := Nat.div_le_div_right this
    exact Nat.le_trans h2 (by decide)
  · exact ⟨by decide, by decide⟩
theorem lcN_lt (pq : Nat) {q : Nat} (hq : q < 18446744073709551616) : ∀ i, lcN pq q i < 18446744073709551616 := by
  intro i
  induction i with
  | zero => show 0 < _; decide
  | succ i ih =>
    obtain ⟨h1, h2⟩ := hilo pq hq i
    show hiN pq q i + (loN pq q i + lcN pq q i) / 18446744073709551616 < _
    omega
theorem lcI_eq (pq : Nat) {q : Nat} (hq : q < 18446744073709551616) : ∀ i, lcI pq q i = ((lcN pq q i : Nat) : Int) := by
  intro i
  induction i with
  | zero => rfl
  | succ i ih =>
    show IntKind.u64.wrap _ = _
    rw [hiI_eq, loI_eq, ih, Int.toNat_natCast, Int.toNat_natCast, ← Int.natCast_add]
    have := lcN_lt pq hq (i + 1)
    have e : hiN pq q i + (loN pq q i + lcN pq q i + (0 : Int).toNat) / 18446744073709551616 = lcN pq q (i + 1) := rfl
    rw [e]
    exact wrap_nat this
theorem lsI_eq (pq : Nat) {q : Nat} (hq : q < 18446744073709551616) (i : Nat) : lsI pq q i = ((lsN pq q i : Nat) : Int) := by
  unfold lsI
  rw [loI_eq, lcI_eq pq hq, Int.toNat_natCast, Int.toNat_natCast]; rfl
theorem lbI_eq (n pq : Nat) {q : Nat} (hq : q < 18446744073709551616) : ∀ i, lbI n pq q i = ((bw (dg n) (lsN pq q) i : Nat) : Int) := by
  intro i
  induction i with
  | zero => rfl
  | succ i ih =>
    show ((if _ then 1 else 0 : Nat) : Int) = ((if _ then 1 else 0 : Nat) : Int)
    rw [wI_toNat, lsI_eq pq hq, ih, Int.toNat_natCast, Int.toNat_natCast]
theorem ldI_eq (n pq : Nat) {q : Nat} (hq : q < 18446744073709551616) (i : Nat) : ldI n pq q i = ((bd (dg n) (lsN pq q) i : Nat) : Int) := by
  unfold ldI
  rw [wI_toNat, lsI_eq pq hq, lbI_eq n pq hq, Int.toNat_natCast, Int.toNat_natCast]; rfl
theorem num_ls (pq : Nat) {q : Nat} : ∀ k, k ≤ 6 → num (lsN pq q) k + lcN pq q k * pw k = num (dg pq) k * q := by
  intro k
  induction k with
  | zero => intro _; simp [num, lcN]
  | succ k ih =>
    intro hk
    have h1 := ih (by omega)
    have hb : Nat.blt k 6 = true := by rw [Nat.blt_eq]; omega
    have h2 : lsN pq q k + lcN pq q (k + 1) * 18446744073709551616 = dg pq k * q + lcN pq q k := by
      show (loN pq q k + lcN pq q k) % 18446744073709551616 + (hiN pq q k + (loN pq q k + lcN pq q k) / 18446744073709551616) * 18446744073709551616 = _
      have e1 : loN pq q k = dg pq k * q % 18446744073709551616 := by unfold loN; rw [hb]
      have e2 : hiN pq q k = dg pq k * q / 18446744073709551616 := by unfold hiN; rw [hb]
      rw [e1, e2]
      generalize dg pq k * q = z
      omega
    simp only [num]
    rw [pw_succ, Nat.add_mul, ← h1, Nat.mul_comm (pw k) 18446744073709551616, ← Nat.mul_assoc]
    have h3 : (lsN pq q k + lcN pq q (k + 1) * 18446744073709551616) * pw k = (dg pq k * q + lcN pq q k) * pw k := by rw [h2]
    rw [Nat.add_mul, Nat.add_mul] at h3
    have h4 : dg pq k * pw k * q = dg pq k * q * pw k := by rw [Nat.mul_right_comm]
    rw [h4]
    omega
theorem num_ls7 {q : Nat} (hq : q < 18446744073709551616) : num (lsN pN q) 7 = pN * q := by
  have h := num_ls pN (q := q) 6 (Nat.le_refl _)
  rw [dg_pN] at h
  have hl := lcN_lt pN hq 6
  have e : lsN pN q 6 = lcN pN q 6 := by
    show (0 + lcN pN q 6) % 18446744073709551616 = _
    rw [Nat.zero_add, Nat.mod_eq_of_lt hl]
  show num (lsN pN q) 6 + lsN pN q 6 * pw 6 = _
  rw [e]; exact h
/-- A number of seven words less p times q. -/
def lessM (n q : Nat) : Nat := num (bd (dg n) (lsN pN q)) 7
theorem lessM_eq {n q : Nat} (hq : q < 18446744073709551616) (h : pN * q ≤ n % pw 7) : lessM n q = n % pw 7 - pN * q := by
  have hs := num_bd (x := dg n) (y := lsN pN q) 7 (fun i _ => dg_lt _ _) (fun i _ => Nat.mod_lt _ (by decide))
  rw [num_dg, num_ls7 hq] at hs
  have hl : num (bd (dg n) (lsN pN q)) 7 < pw 7 := num_lt 7 fun i _ => bd_lt _ _ i
  have hb := bw_le (dg n) (lsN pN q) 7
  have hn : n % pw 7 < pw 7 := Nat.mod_lt _ (pw_pos 7)
  unfold lessM
  rcases Nat.lt_or_ge 0 (bw (dg n) (lsN pN q) 7) with h1 | h1
  · have h2 : bw (dg n) (lsN pN q) 7 = 1 := by omega
    rw [h2, Nat.one_mul] at hs; omega
  · have h2 : bw (dg n) (lsN pN q) 7 = 0 := by omega
    rw [h2, Nat.zero_mul] at hs; omega
theorem val_W7 (ρ : Rho) (n : Nat) : (W7 n).val ρ = some (.agg (words 7 n).toArray) := by simp [W7, AV.val, conc, It.cs]
theorem rless_pure (n : Nat) {q : Nat} (hq : q < 18446744073709551616) : Pure Try.prog 92 [.agg (words 7 n).toArray, uv q] (.agg (words 7 (lessM n q)).toArray) := by
  have hv : vals rho0 [W7 n, uw q] = some [.agg (words 7 n).toArray, uv q] := by
    have e : AV.val rho0 (uw q) = some (uv q) := AV.val_v (ρ := rho0) (x := uv q) rfl
    simp only [vals, val_W7, e]
  refine pure_of_run1 (TL_ok pN) (rless_run n pN q) (fun p hp => ?_) hv fun ρ u hu => ?_
  · rcases List.mem_cons.1 hp with rfl | hp
    · rfl
    obtain ⟨l, hl, hp⟩ := List.mem_flatten.1 hp
    obtain ⟨i, hi, rfl⟩ := List.mem_map.1 hl
    have hb := bw_le (dg n) (lsN pN q) i
    have c1 : cOb (loI pN q i) (lcI pN q i) 0 := by
      unfold cOb; rw [loI_eq, lcI_eq pN hq]; omega
    have c2 : cOb (wI n i) (lsI pN q i) (lbI n pN q i) := by
      unfold cOb wI; rw [lsI_eq pN hq, lbI_eq n pN hq]; omega
    have c3 : mOb (wI pN i) (q : Int) := by
      have := dg_lt pN i
      unfold mOb wI; omega
    unfold lessOb at hp
    split at hp
    · simp only [List.mem_cons, List.not_mem_nil, or_false] at hp
      rcases hp with rfl | rfl | rfl
      · exact c3
      · exact c1
      · exact c2
    · simp only [List.mem_cons, List.not_mem_nil, or_false] at hp
      rcases hp with rfl | rfl
      · exact c1
      · exact c2
  · rw [sw_val hu]
    have : ((List.range 7).map fun i => Value.int .u64 (ldI n pN q i)) = words 7 (lessM n q) := by
      unfold lessM
      rw [words_map 7 fun i _ => bd_lt _ _ i]
      apply List.map_congr_left
      intro i _
      rw [ldI_eq n pN hq]
    rw [this]
end Go.Proofs.Ytkpihidjolfkoaa
