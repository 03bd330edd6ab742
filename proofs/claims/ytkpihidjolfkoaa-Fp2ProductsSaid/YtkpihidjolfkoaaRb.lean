/-
  The document's base field, 4: one word more of a long division by p: what it computes.
-/
import Derived.Test.YtkpihidjolfkoaaRd
/-
  The document's base field, 3: one word more of a long division by p.
-/
namespace Go.Proofs.Ytkpihidjolfkoaa
open Go Go.Eng Go.RowKit Go.Wd Go.Alg Go.Pr

/-- Seven words as a number, and what is owed for it. -/
def as7 : List It → Option (Nat × List Prop)
  | [.w 7 n] => some (n, [])
  | [.v (.int .u64 a), .v (.int .u64 b), .v (.int .u64 c), .v (.int .u64 d), .v (.int .u64 e), .v (.int .u64 f), .v (.int .u64 g)] =>
    some (num (fun i => ([a, b, c, d, e, f, g].getD i 0).toNat) 7, [∀ x ∈ [a, b, c, d, e, f, g], 0 ≤ x ∧ x < 18446744073709551616])
  | _ => none
theorem as7_ok {l : List It} {n : Nat} {ob : List Prop} (h : as7 l = some (n, ob)) (hob : ∀ p ∈ ob, p) {ρ : Rho} {vs : List Value} (hv : conc ρ l = some vs) : vs = words 7 n := by
  unfold as7 at h
  split at h
  · cases h; cases hv; simp
  · rename_i a b c d e f g
    cases h
    have hall := hob _ (List.mem_singleton.2 rfl)
    have hc : conc ρ ([Value.int .u64 a, .int .u64 b, .int .u64 c, .int .u64 d, .int .u64 e, .int .u64 f, .int .u64 g].map It.v) = some [.int .u64 a, .int .u64 b, .int .u64 c, .int .u64 d, .int .u64 e, .int .u64 f, .int .u64 g] :=
      val_plain ρ _ (by intro v hv; simp only [List.mem_cons, List.not_mem_nil, or_false] at hv; rcases hv with rfl | rfl | rfl | rfl | rfl | rfl | rfl <;> rfl)
    have e0 : vs = [.int .u64 a, .int .u64 b, .int .u64 c, .int .u64 d, .int .u64 e, .int .u64 f, .int .u64 g] := Option.some.inj (hv.symm.trans hc)
    have h0 := hall a (by simp)
    have h1 := hall b (by simp)
    have h2 := hall c (by simp)
    have h3 := hall d (by simp)
    have h4 := hall e (by simp)
    have h5 := hall f (by simp)
    have h6 := hall g (by simp)
    rw [e0, words_map 7 (fun i hi => by
      have : i = 0 ∨ i = 1 ∨ i = 2 ∨ i = 3 ∨ i = 4 ∨ i = 5 ∨ i = 6 := by omega
      rcases this with rfl | rfl | rfl | rfl | rfl | rfl | rfl <;> simp <;> omega)]
    simp only [List.range, List.range.loop, List.map_cons, List.map_nil, List.getD_cons_zero, List.getD_cons_succ, List.cons.injEq, Value.int.injEq, true_and, and_true]
    refine ⟨?_, ?_, ?_, ?_, ?_, ?_, ?_⟩ <;> omega
  · cases h
def rLessRow : Row where
  f := 92
  ans := fun
    | [⟨true, l⟩, ⟨false, [.v (.int .u64 q)]⟩] => match as7 l with
      | some (n, ob) => some (.one (W7 (lessM n q.toNat)), (0 ≤ q ∧ q < 18446744073709551616) :: ob)
      | none => none
    | _ => none
theorem rLessRow_ok : RowOk Try.prog rLessRow := by
  intro args s ob ha hob ρ vs hv
  unfold rLessRow at ha
  simp only at ha
  split at ha
  · rename_i l q
    split at ha
    · rename_i n ob' hn
      cases ha
      obtain ⟨v1, us, h1, h2, rfl⟩ := vals_cons hv
      obtain ⟨v2, us', h3, h4, rfl⟩ := vals_cons h2
      cases h4
      obtain ⟨ws, hw, rfl⟩ := val_agg h1
      have hb := hob _ List.mem_cons_self
      have e := as7_ok hn (fun p hp => hob p (List.mem_cons_of_mem _ hp)) hw
      subst e
      have e2 : AV.val ρ ⟨false, [.v (.int .u64 q)]⟩ = some (.int .u64 q) := AV.val_v (ρ := ρ) (x := .int .u64 q) rfl
      rw [e2] at h3
      cases h3
      refine ⟨_, val_W7 rho0 _, ?_⟩
      have hp := rless_pure n (q := q.toNat) (by omega)
      have eq : ((q.toNat : Nat) : Int) = q := by omega
      unfold uv at hp
      rw [eq] at hp
      exact hp
    · cases ha
  · cases ha
noncomputable def dN : Fn1 := match fn1 84 with
  | some d => d
  | none => ⟨.skip, [], 0⟩
theorem dN_ok : FnOk Try.prog 84 dN := fn1_ok _ _ (by kernel_rfl)
noncomputable def EN (pq : Nat) : Eng := { tab := tyTab, call := callN tyTab (tableT [rPQ pq, div64Row, rLessRow, row1 73 rd]) fn1 1000 6, N := 57 }
set_option maxRecDepth 100000 in
theorem callNx (pq : Nat) : CallOk Try.prog (EN pq).call := callN_ok mixed tyTab_ok (tableT_ok (by
  simp only [List.forall_mem_cons, List.not_mem_nil, false_imp_iff, implies_true, and_true]
  exact ⟨rPQ_ok pq, div64_ok, rLessRow_ok, row1_ok rReduce'⟩)) fn1_ok 1000 6
theorem tabNx (pq : Nat) : ∀ t d, (EN pq).tab t = some d → TyOk Try.prog t d := tyTab_ok
noncomputable def cN1 : List Code := takeS 5 dN.body
noncomputable def cNL : Code := loopIn (blockIn (seqL (dropS 5 dN.body)))
noncomputable def cNT : Code := dropS 6 dN.body
theorem dN_chain : dN.body = chain cN1 (.seq (.block 0 (.loop cNL)) cNT) := by kernel_rfl
theorem dN_ntmps : dN.ntmps = 57 := by kernel_rfl
theorem dN_results : dN.results = [.cell 4 24] := by kernel_rfl
def stN (n : Nat) : St := [(8, spt 17), (12, spt 35), (35, .bl [.w 6 0]), (71, .bl [.w 7 n])]
noncomputable def inN (a wd : Nat) : St := initSlots 0 [W6 a, uw wd] (57 - [W6 a, uw wd].length) ++ []
def tL (a wd : Nat) : List Int := [(wd : Int), wI a 0, wI a 1, wI a 2, wI a 3, wI a 4, wI a 5]
def tNx (a wd : Nat) : Nat := num (fun i => ((tL a wd).getD i 0).toNat) 7
def qN (a : Nat) : Nat := ((wI a 5).toNat * 18446744073709551616 + (wI a 4).toNat) / y0N
def nxOb (a wd pq : Nat) : List Prop := [pq = pN, 0 ≤ wI a 5 ∧ wI a 5 < (y0N : Int) ∧ 0 ≤ wI a 4 ∧ wI a 4 < 18446744073709551616 ∧ IntKind.u64.wrap (wI pq 5 + 1) = (y0N : Int),
  0 ≤ ((qN a : Nat) : Int) ∧ ((qN a : Nat) : Int) < 18446744073709551616, ∀ x ∈ tL a wd, 0 ≤ x ∧ x < 18446744073709551616]
def n1N (a wd : Nat) : Nat := lessM (tNx a wd) ((qN a : Nat) : Int).toNat
theorem N_start (a wd pq : Nat) : probes (EN pq) 100 cN1 (inN a wd) 16 [] ((stN (n1N a wd)).map (·.1)) = some (0, nxOb a wd pq, (stN (n1N a wd)).map fun p => some p.2) := by kernel_rfl
theorem N_exit (n : Nat) : probe (EN 0) 100 cNL (stN n) 60 [(40, false)] ((stN n).map (·.1)) = some (2, [wI n 6 > 0 ↔ false = true], (stN n).map fun p => some p.2) := by kernel_rfl
theorem N_step (n : Nat) : probe (EN 0) 100 cNL (stN n) 60 [(40, true)] ((stN (lessM n (1 : Int).toNat)).map (·.1)) = some (0, [wI n 6 > 0 ↔ true = true, (0 : Int) ≤ 1 ∧ (1 : Int) < 18446744073709551616], (stN (lessM n (1 : Int).toNat)).map fun p => some p.2) := by kernel_rfl
theorem N_tail (n : Nat) : probe (EN 0) 100 cNT (stN n) 60 [] (([(8, spt 17), (35, .bl [.w 6 (rd (asN6 (dg n)))])] : St).map (·.1)) = some (1, [ob6 (dg n)], ([(8, spt 17), (35, .bl [.w 6 (rd (asN6 (dg n)))])] : St).map fun p => some p.2) := by kernel_rfl
end Go.Proofs.Ytkpihidjolfkoaa
namespace Go.Proofs.Ytkpihidjolfkoaa
open Go Go.Eng Go.RowKit Go.Wd Go.Alg Go.Pr

theorem num_cons (d e : Nat → Nat) (h : ∀ i, e (i + 1) = d i) : ∀ k, num e (k + 1) = e 0 + 18446744073709551616 * num d k := by
  intro k
  induction k with
  | zero => simp [num, pw_zero]
  | succ k ih =>
    show num e (k + 1) + e (k + 1) * pw (k + 1) = e 0 + 18446744073709551616 * (num d k + d k * pw k)
    rw [ih, h, pw_succ, Nat.mul_add, ← Nat.mul_assoc (d k), Nat.mul_comm (d k * pw k)]
    omega
theorem tNx_eq (a wd : Nat) : tNx a wd = wd + 18446744073709551616 * (a % pw 6) := by
  rw [← num_dg]
  have e : tNx a wd = num (fun i => match i with | 0 => wd | i + 1 => dg a i) 7 := by
    refine num_congr 7 fun i hi => ?_
    have : i = 0 ∨ i = 1 ∨ i = 2 ∨ i = 3 ∨ i = 4 ∨ i = 5 ∨ i = 6 := by omega
    rcases this with rfl | rfl | rfl | rfl | rfl | rfl | rfl <;> simp [tL, wI]
  rw [e, num_cons (dg a) _ (fun _ => rfl)]
/-- The two words at the head. -/
theorem head_eq (a : Nat) : dg a 5 * 18446744073709551616 + dg a 4 = a % pw 6 / pw 4 := by
  have h := num_dg a 6
  have h4 := num_dg a 4
  have hl : num (dg a) 4 < pw 4 := num_lt 4 fun i _ => dg_lt a i
  have e : num (dg a) 6 = num (dg a) 4 + dg a 4 * pw 4 + dg a 5 * pw 5 := rfl
  rw [← h, e, pw_succ 4, show num (dg a) 4 + dg a 4 * pw 4 + dg a 5 * (pw 4 * 18446744073709551616) = num (dg a) 4 + (dg a 5 * 18446744073709551616 + dg a 4) * pw 4 by
    rw [Nat.add_mul, Nat.mul_assoc, Nat.mul_comm (pw 4)]; omega]
  rw [Nat.add_mul_div_right _ _ (pw_pos 4), Nat.div_eq_of_lt hl, Nat.zero_add]
theorem y0_p : pN < y0N * pw 5 := by decide +kernel
theorem y0_p' : pN < y0N * (pw 4 * 18446744073709551616) := by decide +kernel
theorem y0_pos : 0 < y0N := by decide +kernel
theorem p_lt6 : pN < pw 6 := by decide +kernel
theorem qN_eq (a : Nat) : qN a = a % pw 6 / pw 4 / y0N := by
  unfold qN
  rw [wI_toNat, wI_toNat, head_eq]
theorem head_lt {a : Nat} (h : a % pw 6 < pN) : a % pw 6 / pw 4 < y0N * 18446744073709551616 := by
  have h1 := Nat.lt_trans h y0_p'
  rw [Nat.div_lt_iff_lt_mul (pw_pos 4)]
  rw [Nat.mul_comm (pw 4), ← Nat.mul_assoc] at h1
  exact h1
theorem qN_lt {a : Nat} (h : a % pw 6 < pN) : qN a < 18446744073709551616 := by
  rw [qN_eq, Nat.div_lt_iff_lt_mul y0_pos, Nat.mul_comm]
  exact head_lt h
theorem dg5_lt {a : Nat} (h : a % pw 6 < pN) : dg a 5 < y0N := by
  have := head_lt h
  rw [← head_eq] at this
  exact Nat.lt_of_mul_lt_mul_right (Nat.lt_of_le_of_lt (Nat.le_add_right _ _) this)
theorem qN_le {a : Nat} (wd : Nat) : pN * qN a ≤ tNx a wd := by
  have h1 : qN a * y0N ≤ a % pw 6 / pw 4 := by rw [qN_eq]; exact Nat.div_mul_le_self _ _
  have h2 : a % pw 6 / pw 4 * pw 4 ≤ a % pw 6 := Nat.div_mul_le_self _ _
  have h3 : pN * qN a ≤ y0N * pw 5 * qN a := Nat.mul_le_mul_right _ (Nat.le_of_lt y0_p)
  have h4 : y0N * pw 5 * qN a = 18446744073709551616 * (qN a * y0N * pw 4) := by
    rw [pw_succ 4]
    simp only [Nat.mul_comm, Nat.mul_left_comm, Nat.mul_assoc]
  have h5 : qN a * y0N * pw 4 ≤ a % pw 6 / pw 4 * pw 4 := Nat.mul_le_mul_right _ h1
  rw [tNx_eq]
  have h6 : 18446744073709551616 * (qN a * y0N * pw 4) ≤ 18446744073709551616 * (a % pw 6) := Nat.mul_le_mul_left _ (Nat.le_trans h5 h2)
  omega
theorem tNx_lt {a wd : Nat} (hw : wd < 18446744073709551616) : tNx a wd < pw 7 := by
  have : a % pw 6 < pw 6 := Nat.mod_lt _ (pw_pos 6)
  rw [tNx_eq, pw_succ 6]
  omega
def NInv (t n : Nat) : Prop := n < pw 7 ∧ n % pN = t % pN
theorem sub_mod_p {n q : Nat} (h : pN * q ≤ n) : (n - pN * q) % pN = n % pN := by
  have e : n = (n - pN * q) + pN * q := by omega
  conv => rhs; rw [e, Nat.add_mul_mod_self_left]
theorem n_first {a wd : Nat} (h : a % pw 6 < pN) (hw : wd < 18446744073709551616) : NInv (tNx a wd) (n1N a wd) := by
  have ht := tNx_lt (a := a) hw
  have e : n1N a wd = tNx a wd - pN * qN a := by
    unfold n1N
    rw [Int.toNat_natCast, lessM_eq (qN_lt h) (by rw [Nat.mod_eq_of_lt ht]; exact qN_le wd), Nat.mod_eq_of_lt ht]
  rw [e]
  exact ⟨by omega, sub_mod_p (qN_le wd)⟩
theorem dg6_pos {n : Nat} (hn : n < pw 7) : 0 < dg n 6 ↔ pw 6 ≤ n := by
  have h : n / pw 6 < 18446744073709551616 := by
    rw [Nat.div_lt_iff_lt_mul (pw_pos 6), Nat.mul_comm, ← pw_succ]; exact hn
  have e : dg n 6 = n / pw 6 := by unfold dg; rw [two64]; exact Nat.mod_eq_of_lt h
  rw [e, Nat.div_pos_iff]
  have := pw_pos 6
  omega
theorem lessM_one {n : Nat} (hn : n < pw 7) (h : pw 6 ≤ n) : lessM n (1 : Int).toNat = n - pN := by
  have hp := p_lt6
  have e1 : pN * (1 : Int).toNat = pN := Nat.mul_one _
  have := lessM_eq (n := n) (q := (1 : Int).toNat) (by decide) (by rw [e1, Nat.mod_eq_of_lt hn]; omega)
  rw [this, e1, Nat.mod_eq_of_lt hn]
theorem keep_N (n : Nat) : keepsB (stN n) [17, 35] = true := by kernel_rfl
theorem blk_N (n : Nat) : ∀ id ∈ [17, 35], ∃ l, (stN n).blk id = some l := by
  intro id hid
  simp only [List.mem_cons, List.not_mem_nil, or_false] at hid
  rcases hid with rfl | rfl <;> exact ⟨_, rfl⟩
def stNR (n : Nat) : St := [(8, spt 17), (35, .bl [.w 6 (rd (asN6 (dg n)))])]
theorem keep_NR (n : Nat) : keepsB (stNR n) [17] = true := by kernel_rfl
theorem blk_NR (n : Nat) : ∀ id ∈ [17], ∃ l, (stNR n).blk id = some l := by
  intro id hid
  simp only [List.mem_cons, List.not_mem_nil, or_false] at hid
  subst hid
  exact ⟨_, rfl⟩
theorem res_NR (n : Nat) : resultsOf tyTab (stNR n) [.cell 4 24] = some [W6 (rd (asN6 (dg n)))] := by kernel_rfl
theorem N_loop {w0 : World} {Q : Exit → Act → World → Prop} {t n : Nat}
    (hQ : ∀ n a w, NInv t n → n < pw 6 → At 57 rho0 w0 (stN n) a w → Q (.exit 0) a w) {a : Act} {w : World}
    (hI : NInv t n) (hA : At 57 rho0 w0 (stN n) a w) : (Code.loop cNL).wp Try.prog Q a w := by
  refine loop_rule (w0 := w0) (ρ0 := rho0) (N := 57) (ι := Nat) (fun n => NInv t n) stN (fun n => n) ?_ n hI a w hA
  intro n hI a w hA
  have hI : NInv t n := hI
  have hd := dg6_pos hI.1
  by_cases h6 : pw 6 ≤ n
  · refine At.probe (E := EN 0) mixed (tabNx 0) (callNx 0) (N_step n) (fun p hp => ?_) hA [17, 35] (blk_N _) (keep_N _) (no_rho0 _) fun a' w' hA' => ⟨lessM n (1 : Int).toNat, ?_, ?_, hA'⟩
    · simp only [List.mem_cons, List.not_mem_nil, or_false] at hp
      rcases hp with rfl | rfl
      · have := hd.2 h6
        refine ⟨fun _ => trivial, fun _ => show wI n 6 > 0 from ?_⟩
        unfold wI; omega
      · omega
    · rw [lessM_one hI.1 h6]
      have hp := p_lt6
      refine ⟨by have := hI.1; omega, ?_⟩
      have := sub_mod_p (n := n) (q := 1) (by omega)
      rw [Nat.mul_one] at this
      rw [this]; exact hI.2
    · show lessM n (1 : Int).toNat < n
      rw [lessM_one hI.1 h6]
      have hp := p_lt6
      have := pN_pos
      omega
  · refine At.probe (E := EN 0) mixed (tabNx 0) (callNx 0) (N_exit n) (fun p hp => ?_) hA [17, 35] (blk_N _) (keep_N _) (no_rho0 _) fun a' w' hA' => hQ n a' w' hI (by omega) hA'
    rw [List.mem_singleton] at hp
    subst hp
    have : ¬ 0 < dg n 6 := fun e => h6 (hd.1 e)
    refine fIff (show ¬ wI n 6 > 0 from ?_)
    unfold wI; omega
/-- One word more of a long division by p. -/
def nextN (a wd : Nat) : Nat := (wd + 18446744073709551616 * (a % pw 6)) % pN
theorem y0_wrap : IntKind.u64.wrap (wI pN 5 + 1) = (y0N : Int) := by decide +kernel
theorem nextN_rd {t n : Nat} (h : NInv t n) (hn : n < pw 6) : rd (asN6 (dg n)) = t % pN := by
  rw [asN6_eq, num_dg]
  unfold rd
  rw [show M6 = pw 6 from rfl, Nat.mod_mod, Nat.mod_eq_of_lt hn]
  exact h.2
theorem next_pure {a wd : Nat} (h : a % pw 6 < pN) (hw : wd < 18446744073709551616) : Pure Try.prog 84 [.agg (words 6 a).toArray, uv wd] (.agg (words 6 (nextN a wd)).toArray) := by
  intro w
  refine .inr ⟨dN_ok.enter _ _, ?_⟩
  have hv : vals rho0 [W6 a, uw wd] = some [.agg (words 6 a).toArray, uv wd] := by simp only [vals, val_W6, val_uw]
  refine (calls_of_at (G := fun xs st => xs = [W6 (nextN a wd)]) tyTab_ok dN_ok (mem_rho0 w) (by kernel_rfl) hv (by rw [dN_ntmps]; simp) fun b hA0 => ?_).mono ?_
  · rw [dN_ntmps] at hA0
    have hA0 : At 57 rho0 w (inN a wd) b w := hA0
    rw [dN_ntmps, dN_results, dN_chain]
    refine At.probes (E := EN pN) mixed (tabNx pN) (callNx pN) (N_start a wd pN) (fun p hp => ?_) hA0 [17, 35] (blk_N _) (keep_N _) (no_rho0 _) fun a1 w1 h1 => ?_
    · simp only [nxOb, List.mem_cons, List.not_mem_nil, or_false] at hp
      rcases hp with rfl | rfl | rfl | rfl
      · trivial
      · have h5 := dg5_lt h
        have h4 := dg_lt a 4
        exact ⟨by unfold wI; omega, by unfold wI; omega, by unfold wI; omega, by unfold wI; omega, y0_wrap⟩
      · have := qN_lt h
        omega
      · intro x hx
        have hd := dg_lt a
        simp only [tL, List.mem_cons, List.not_mem_nil, or_false] at hx
        rcases hx with rfl | rfl | rfl | rfl | rfl | rfl | rfl
        · omega
        · have := hd 0; unfold wI; omega
        · have := hd 1; unfold wI; omega
        · have := hd 2; unfold wI; omega
        · have := hd 3; unfold wI; omega
        · have := hd 4; unfold wI; omega
        · have := hd 5; unfold wI; omega
    show Code.wp _ _ _ _ _
    refine wp_seq (wp_block (N_loop (fun n a2 w2 hn hlt h2 => ?_) (n_first h hw) h1))
    show Code.wp _ _ _ _ _
    refine At.probe (E := EN 0) mixed (tabNx 0) (callNx 0) (N_tail n) (fun p hp => ?_) h2 [17] (blk_NR n) (keep_NR n) (no_rho0 _) fun a3 w3 h3 => ?_
    · rw [List.mem_singleton] at hp
      subst hp
      exact ob6_ok (dg_lt n)
    · refine ⟨.inr rfl, stNR n, [W6 (rd (asN6 (dg n)))], h3, res_NR n, ?_⟩
      rw [nextN_rd hn hlt, tNx_eq]
      rfl
  · rintro e w' ⟨v, rfl, xs, st, ρ', hE, hval, hMk, rfl⟩
    refine ⟨v, rfl, ?_, hE.below fun b ⟨id, _, hq⟩ => by cases hq⟩
    have : (W6 (nextN a wd)).val ρ' = some v := hval
    rw [val_W6] at this
    cases this; rfl
end Go.Proofs.Ytkpihidjolfkoaa
