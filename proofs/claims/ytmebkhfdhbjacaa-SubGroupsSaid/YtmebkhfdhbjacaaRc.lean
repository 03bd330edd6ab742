/-
  The document's base field, 4: one word more of a long division by p: what it computes.
-/
import Derived.Test.YtmebkhfdhbjacaaRd
/-
  The document's base field, 3: one word more of a long division by p.
-/
namespace Go.Proofs.Ytmebkhfdhbjacaa
open Go Go.Eng Go.RowKit Go.Wd Go.Alg Go.Pr

/-- Seven words as a number, and what is owed for it. -/
def as7 : List It → Option (Nat × List Prop)
  | [.w 7 n] => some (n, [])
  | [.v (.int .u64 a), .v (.int .u64 b), .v (.int .u64 c), .v (.int .u64 d), .v (.int .u64 e), .v (.int .u64 f), .v (.int .u64 g)] =>
    some (num (fun i => ([a, b, c, d, e, f, g].getD i 0).toNat) 7, [∀ x ∈ [a, b, c, d, e, f, g], 0 ≤ x ∧ x < 18446744073709551616])
  | _ => none
theorem as7_ok {l : List It} {n : Nat} {ob : List Prop} (h : as7 l = some (n, ob)) (hob : ∀ p ∈ ob, p) {ρ : Rho} {vs : List Value} (hv : conc ρ l = some vs) : vs = words 7 n := by
  unfold as7 at h
  split at h
  · cases h; cases hv; simp
  · rename_i a b c d e f g
    cases h
    have hall := hob _ (List.mem_singleton.2 rfl)
    have hc : conc ρ ([Value.int .u64 a, .int .u64 b, .int .u64 c, .int .u64 d, .int .u64 e, .int .u64 f, .int .u64 g].map It.v) = some [.int .u64 a, .int .u64 b, .int .u64 c, .int .u64 d, .int .u64 e, .int .u64 f, .int .u64 g] :=
      val_plain ρ _ (by intro v hv; simp only [List.mem_cons, List.not_mem_nil, or_false] at hv; rcases hv with rfl | rfl | rfl | rfl | rfl | rfl | rfl <;> rfl)
    have e0 : vs = [.int .u64 a, .int .u64 b, .int .u64 c, .int .u64 d, .int .u64 e, .int .u64 f, .int .u64 g] := Option.some.inj (hv.symm.trans hc)
    have h0 := hall a (by simp)
    have h1 := hall b (by simp)
    have h2 := hall c (by simp)
    have h3 := hall d (by simp)
    have h4 := hall e (by simp)
    have h5 := hall f (by simp)
    have h6 := hall g (by simp)
    rw [e0, words_map 7 (fun i hi => by
      have : i = 0 ∨ i = 1 ∨ i = 2 ∨ i = 3 ∨ i = 4 ∨ i = 5 ∨ i = 6 := by omega
      rcases this with rfl | rfl | rfl | rfl | rfl | rfl | rfl <;> simp <;> omega)]
    simp only [List.range, List.range.loop, List.map_cons, List.map_nil, List.getD_cons_zero, List.getD_cons_succ, List.cons.injEq, Value.int.injEq, true_and, and_true]
    refine ⟨?_, ?_, ?_, ?_, ?_, ?_, ?_⟩ <;> omega
  · cases h
def rLessRow : Row where
  f := 178
  ans := fun
    | [⟨true, l⟩, ⟨false, [.v (.int .u64 q)]⟩] => match as7 l with
      | some (n, ob) => some (.one (W7 (lessM n q.toNat)), (0 ≤ q ∧ q < 18446744073709551616) :: ob)
      | none => none
    | _ => none
theorem rLessRow_ok : RowOk Try.prog rLessRow := by
  intro args s ob ha hob ρ vs hv
  unfold rLessRow at ha
  simp only at ha
  split at ha
  · rename_i l q
    split at ha
    · rename_i n ob' hn
      cases ha
      obtain ⟨v1, us, h1, h2, rfl⟩ := vals_cons hv
      obtain ⟨v2, us', h3, h4, rfl⟩ := vals_cons h2
      cases h4
      obtain ⟨ws, hw, rfl⟩ := val_agg h1
      have hb := hob _ List.mem_cons_self
      have e := as7_ok hn (fun p hp => hob p (List.mem_cons_of_mem _ hp)) hw
      subst e
      have e2 : AV.val ρ ⟨false, [.v (.int .u64 q)]⟩ = some (.int .u64 q) := AV.val_v (ρ := ρ) (x := .int .u64 q) rfl
      rw [e2] at h3
      cases h3
      refine ⟨_, val_W7 rho0 _, ?_⟩
      have hp := rless_pure n (q := q.toNat) (by omega)
      have eq : ((q.toNat : Nat) : Int) = q := by omega
      unfold uv at hp
      rw [eq] at hp
      exact hp
    · cases ha
  · cases ha
noncomputable def dN : Fn1 := match fn1 171 with
  | some d => d
  | none => ⟨.skip, [], 0⟩
theorem dN_ok : FnOk Try.prog 171 dN := fn1_ok _ _ (by kernel_rfl)
noncomputable def EN (pq : Nat) : Eng := { tab := tyTab, call := callN tyTab (tableT [rPQ pq, div64Row, rLessRow, row1 118 rd]) fn1 1000 6, N := 57 }
set_option maxRecDepth 100000 in
theorem callNx (pq : Nat) : CallOk Try.prog (EN pq).call := callN_ok mixed tyTab_ok (tableT_ok (by
  simp only [List.forall_mem_cons, List.not_mem_nil, false_imp_iff, implies_true, and_true]
  exact ⟨rPQ_ok pq, div64_ok, rLessRow_ok, row1_ok rReduce'⟩)) fn1_ok 1000 6
theorem tabNx (pq : Nat) : ∀ t d, (EN pq).tab t = some d → TyOk Try.prog t d := tyTab_ok
noncomputable def cN1 : List Code := takeS 5 dN.body
noncomputable def cNL : Code := loopIn (blockIn (seqL (dropS 5 dN.body)))
noncomputable def cNT : Code := dropS 6 dN.body
theorem dN_chain : dN.body = chain cN1 (.seq (.block 0 (.loop cNL)) cNT) := by kernel_rfl
theorem dN_ntmps : dN.ntmps = 57 := by kernel_rfl
theorem dN_results : dN.results = [.cell 4 24] := by kernel_rfl
def stN (n : Nat) : St := [(8, spt 17), (12, spt 35), (35, .bl [.w 6 0]), (71, .bl [.w 7 n])]
noncomputable def inN (a wd : Nat) : St := initSlots 0 [W6 a, uw wd] (57 - [W6 a, uw wd].length) ++ []
def tL (a wd : Nat) : List Int := [(wd : Int), wI a 0, wI a 1, wI a 2, wI a 3, wI a 4, wI a 5]
def tNx (a wd : Nat) : Nat := num (fun i => ((tL a wd).getD i 0).toNat) 7
def qN (a : Nat) : Nat := ((wI a 5).toNat * 18446744073709551616 + (wI a 4).toNat) / y0N
def nxOb (a wd pq : Nat) : List Prop := [pq = pN, 0 ≤ wI a 5 ∧ wI a 5 < (y0N : Int) ∧ 0 ≤ wI a 4 ∧ wI a 4 < 18446744073709551616 ∧ IntKind.u64.wrap (wI pq 5 + 1) = (y0N : Int),
  0 ≤ ((qN a : Nat) : Int) ∧ ((qN a : Nat) : Int) < 18446744073709551616, ∀ x ∈ tL a wd, 0 ≤ x ∧ x < 18446744073709551616]
def n1N (a wd : Nat) : Nat := lessM (tNx a wd) ((qN a : Nat) : Int).toNat
theorem N_start (a wd pq : Nat) : probes (EN pq) 100 cN1 (inN a wd) 16 [] ((stN (n1N a wd)).map (·.1)) = some (0, nxOb a wd pq, (stN (n1N a wd)).map fun p => some p.2) := by kernel_rfl
theorem N_exit (n : Nat) : probe (EN 0) 100 cNL (stN n) 60 [(40, false)] ((stN n).map (·.1)) = some (2, [wI n 6 > 0 ↔ false = true], (stN n).map fun p => some p.2) := by kernel_rfl
theorem N_step (n : Nat) : probe (EN 0) 100 cNL (stN n) 60 [(40, true)] ((stN (lessM n (1 : Int).toNat)).map (·.1)) = some (0, [wI n 6 > 0 ↔ true = true, (0 : Int) ≤ 1 ∧ (1 : Int) < 18446744073709551616], (stN (lessM n (1 : Int).toNat)).map fun p => some p.2) := by kernel_rfl
theorem N_tail (n : Nat) : probe (EN 0) 100 cNT (stN n) 60 [] (([(8, spt 17), (35, .bl [.w 6 (rd (asN6 (dg n)))])] : St).map (·.1)) = some (1, [ob6 (dg n)], ([(8, spt 17), (35, .bl [.w 6 (rd (asN6 (dg n)))])] : St).map fun p => some p.2) := by kernel_rfl
end Go.Proofs.Ytmebkhfdhbjacaa
namespace Go.Proofs.Ytmebkhfdhbjacaa
open Go Go.Eng Go.RowKit Go.Wd Go.Alg Go.Pr

theorem num_cons (d e : Nat → Nat) (h : ∀ i, e (i + 1) = d i) : ∀ k, num e (k + 1) = e 0 + 18446744073709551616 * num d k := by
  intro k
  induction k with
  | zero => simp [num, pw_zero]
  | succ k ih =>
    show num e (k + 1) + e (k + 1) * pw (k + 1) = e 0 + 18446744073709551616 * (num d k + d k * pw k)
    rw [ih, h, pw_succ, Nat.mul_add, ← Nat.mul_assoc (d k), Nat.mul_comm (d k * pw k)]
    omega
theorem tNx_eq (a wd : Nat) : tNx a wd = wd + 18446744073709551616 * (a % pw 6) := by
  rw [← num_dg]
  have e : tNx a wd = num (fun i => match i with | 0 => wd | i + 1 => dg a i) 7 := by
    refine num_congr 7 fun i hi => ?_
    have : i = 0 ∨ i = 1 ∨ i = 2 ∨ i = 3 ∨ i = 4 ∨ i = 5 ∨ i = 6 := by omega
    rcases this with rfl | rfl | rfl | rfl | rfl | rfl | rfl <;> simp [tL, wI]
  rw [e, num_cons (dg a) _ (fun _ => rfl)]
/-- The two words at the head. -/
theorem head_eq (a : Nat) : dg a 5 * 18446744073709551616 + dg a 4 = a % pw 6 / pw 4 := by
  have h := num_dg a 6
  have h4 := num_dg a 4
  have hl : num (dg a) 4 < pw 4 := num_lt 4 fun i _ => dg_lt a i
  have e : num (dg a) 6 = num (dg a) 4 + dg a 4 * pw 4 + dg a 5 * pw 5 := rfl
  rw [← h, e, pw_succ 4, show num (dg a) 4 + dg a 4 * pw 4 + dg a 5 * (pw 4 * 18446744073709551616) = num (dg a) 4 + (dg a 5 * 18446744073709551616 + dg a 4) * pw 4 by
    rw [Nat.add_mul, Nat.mul_assoc, Nat.mul_comm (pw 4)]; omega]
  rw [Nat.add_mul_div_right _ _ (pw_pos 4), Nat.div_eq_of_lt hl, Nat.zero_add]
theorem y0_p : pN < y0N * pw 5 := by decide +kernel
theorem y0_p' : pN < y0N * (pw 4 * 18446744073709551616) := by decide +kernel
theorem y0_pos : 0 < y0N := by decide +kernel
theorem p_lt6 : pN < pw 6 := by decide +kernel
theorem qN_eq (a : Nat) : qN a = a % pw 6 / pw 4 / y0N := by
  unfold qN
  rw [wI_toNat, wI_toNat, head_eq]
theorem head_lt {a : Nat} (h : a % pw 6 < pN) : a % pw 6 / pw 4 < y0N * 18446744073709551616 := by
  have h1 := Nat.lt_trans h y0_p'
  rw [Nat.div_lt_iff_lt_mul (pw_pos 4)]
  rw [Nat.mul_comm (pw 4), ← Nat.mul_assoc] at h1
  exact h1
theorem qN_lt {a : Nat} (h : a % pw 6 < pN) : qN a < 18446744073709551616 := by
  rw [qN_eq, Nat.div_lt_iff_lt_mul y0_pos, Nat.mul_comm]
  exact head_lt h
theorem dg5_lt {a : Nat} (h : a % pw 6 < pN) : dg a 5 < y0N := by
  have := head_lt h
  rw [← head_eq] at this
  exact Nat.lt_of_mul_lt_mul_right (Nat.lt_of_le_of_lt (Nat.le_add_right _ _) this)
theorem qN_le {a : Nat} (wd : Nat) : pN * qN a ≤ tNx a wd := by
  have h1 : qN a * y0N ≤ a % pw 6 / pw 4 := by rw [qN_eq]; exact Nat.div_mul_le_self _ _
  have h2 : a % pw 6 / pw 4 * pw 4 ≤ a % pw 6 := Nat.div_mul_le_self _ _
  have h3 : pN * qN a ≤ y0N * pw 5 * qN a := Nat.mul_le_mul_right _ (Nat.le_of_lt y0_p)
  have h4 : y0N * pw 5 * qN a = 18446744073709551616 * (qN a * y0N * pw 4) := by
    rw [pw_succ 4]
    simp only [Nat.mul_comm, Nat.mul_left_comm, Nat.mul_assoc]
  have h5 : qN a * y0N * pw 4 ≤ a % pw 6 / pw 4 * pw 4 := Nat.mul_le_mul_right _ h1
  rw [tNx_eq]
  have h6 : 18446744073709551616 * (qN a * y0N * pw 4) ≤ 18446744073709551616 * (a % pw 6) := Nat.mul_le_mul_left _ (Nat.le_trans h5 h2)
  omega
theorem tNx_lt {a wd : Nat} (hw : wd < 18446744073709551616) : tNx a wd < pw 7 := by
  have : a % pw 6 < pw 6 := Nat.mod_lt _ (pw_pos 6)
  rw [tNx_eq, pw_succ 6]
  omega
def NInv (t n : Nat) : Prop := n < pw 7 ∧ n % pN = t % pN
theorem sub_mod_p {n q : Nat} (h : pN * q ≤ n) : (n - pN * q) % pN = n % pN := by
  have e : n = (n - pN * q) + pN * q := by omega
  conv => rhs; rw [e, Nat.add_mul_mod_self_left]
theorem n_first {a wd : Nat} (h : a % pw 6 < pN) (hw : wd < 18446744073709551616) : NInv (tNx a wd) (n1N a wd) := by
  have ht := tNx_lt (a := a) hw
  have e : n1N a wd = tNx a wd - pN * qN a := by
    unfold n1N
    rw [Int.toNat_natCast, lessM_eq (qN_lt h) (by rw [Nat.mod_eq_of_lt ht]; exact qN_le wd), Nat.mod_eq_of_lt ht]
  rw [e]
  exact ⟨by omega, sub_mod_p (qN_le wd)⟩
theorem dg6_pos {n : Nat} (hn : n < pw 7) : 0 < dg n 6 ↔ pw 6 ≤ n := by
  have h : n / pw 6 < 18446744073709551616 := by
    rw [Nat.div_lt_iff_lt_mul (pw_pos 6), Nat.mul_comm, ← pw_succ]; exact hn
  have e : dg n 6 = n / pw 6 := by unfold dg; rw [two64]; exact Nat.mod_eq_of_lt h
  rw [e, Nat.div_pos_iff]
  have := pw_pos 6
  omega
theorem lessM_one {n : Nat} (hn : n < pw 7) (h : pw 6 ≤ n) : lessM n (1 : Int).toNat = n - pN := by
  have hp := p_lt6
  have e1 : pN * (1 : Int).toNat = pN := Nat.mul_one _
  have := lessM_eq (n := n) (q := (1 : Int).toNat) (by decide) (by rw [e1, Nat.mod_eq_of_lt hn]; omega)
  rw [this, e1, Nat.mod_eq_of_lt hn]
theorem keep_N (n : Nat) : keepsB (stN n) [17, 35] = true := by kernel_rfl
theorem blk_N (n : Nat) : ∀ id ∈ [17, 35], ∃ l, (stN n).blk id = some l := by
  intro id hid
  simp only [List.mem_cons, List.not_mem_nil, or_false] at hid
  rcases hid with rfl | rfl <;> exact ⟨_, rfl⟩
def stNR (n : Nat) : St := [(8, spt 17), (35, .bl [.w 6 (rd (asN6 (dg n)))])]
theorem keep_NR (n : Nat) : keepsB (stNR n) [17] = true := by kernel_rfl
theorem blk_NR (n : Nat) : ∀ id ∈ [17], ∃ l, (stNR n).blk id = some l := by
  intro id hid
  simp only [List.mem_cons, List.not_mem_nil, or_false] at hid
  subst hid
  exact ⟨_, rfl⟩
theorem res_NR (n : Nat) : resultsOf tyTab (stNR n) [.cell 4 24] = some [W6 (rd (asN6 (dg n)))] := by kernel_rfl
theorem N_loop {w0 : World} {Q : Exit → Act → World → Prop} {t n : Nat}
    (hQ : ∀ n a w, NInv t n → n < pw 6 → At 57 rho0 w0 (stN n) a w → Q (.exit 0) a w) {a : Act} {w : World}
    (hI : NInv t n) (hA : At 57 rho0 w0 (stN n) a w) : (Code.loop cNL).wp Try.prog Q a w := by
  refine loop_rule (w0 := w0) (ρ0 := rho0) (N := 57) (ι := Nat) (fun n => NInv t n) stN (fun n => n) ?_ n hI a w hA
  intro n hI a w hA
  have hI : NInv t n := hI
  have hd := dg6_pos hI.1
  by_cases h6 : pw 6 ≤ n
  · refine At.probe (E := EN 0) mixed (tabNx 0) (callNx 0) (N_step n) (fun p hp => ?_) hA [17, 35] (blk_N _) (keep_N _) (no_rho0 _) fun a' w' hA' => ⟨lessM n (1 : Int).toNat, ?_, ?_, hA'⟩
    · simp only [List.mem_cons, List.not_mem_nil, or_false] at hp
      rcases hp with rfl | rfl
      · have := hd.2 h6
        refine ⟨fun _ => trivial, fun _ => show wI n 6 > 0 from ?_⟩
        unfold wI; omega
      · omega
    · rw [lessM_one hI.1 h6]
      have hp := p_lt6
      refine ⟨by have := hI.1; omega, ?_⟩
      have := sub_mod_p (n := n) (q := 1) (by omega)
      rw [Nat.mul_one] at this
      rw [this]; exact hI.2
    · show lessM n (1 : Int).toNat < n
      rw [lessM_one hI.1 h6]
      have hp := p_lt6
      have := pN_pos
      omega
  · refine At.probe (E := EN 0) mixed (tabNx 0) (callNx 0) (N_exit n) (fun p hp => ?_) hA [17, 35] (blk_N _) (keep_N _) (no_rho0 _) fun a' w' hA' => hQ n a' w' hI (by omega) hA'
    rw [List.mem_singleton] at hp
    subst hp
    have : ¬ 0 < dg n 6 := fun e => h6 (hd.1 e)
    refine fIff (show ¬ wI n 6 > 0 from ?_)
    unfold wI; omega
/-- One word more of a long division by p. -/
def nextN (a wd : Nat) : Nat := (wd + 18446744073709551616 * (a % pw 6)) % pN
theorem y0_wrap : IntKind.u64.wrap (wI pN 5 + 1) = (y0N : Int) := by decide +kernel
theorem nextN_rd {t n : Nat} (h : NInv t n) (hn : n < pw 6) : rd (asN6 (dg n)) = t % pN := by
  rw [asN6_eq, num_dg]
  unfold rd
  rw [show M6 = pw 6 from rfl, Nat.mod_mod, Nat.mod_eq_of_lt hn]
  exact h.2
theorem next_pure {a wd : Nat} (h : a % pw 6 < pN) (hw : wd < 18446744073709551616) : Pure Try.prog 171 [.agg (words 6 a).toArray, uv wd] (.agg (words 6 (nextN a wd)).toArray) := by
  intro w
  refine .inr ⟨dN_ok.enter _ _, ?_⟩
  have hv : vals rho0 [W6 a, uw wd] = some [.agg (words 6 a).toArray, uv wd] := by simp only [vals, val_W6, val_uw]
  refine (calls_of_at (G := fun xs st => xs = [W6 (nextN a wd)]) tyTab_ok dN_ok (mem_rho0 w) (by kernel_rfl) hv (by rw [dN_ntmps]; simp) fun b hA0 => ?_).mono ?_
  · rw [dN_ntmps] at hA0
    have hA0 : At 57 rho0 w (inN a wd) b w := hA0
    rw [dN_ntmps, dN_results, dN_chain]
    refine At.probes (E := EN pN) mixed (tabNx pN) (callNx pN) (N_start a wd pN) (fun p hp => ?_) hA0 [17, 35] (blk_N _) (keep_N _) (no_rho0 _) fun a1 w1 h1 => ?_
    · simp only [nxOb, List.mem_cons, List.not_mem_nil, or_false] at hp
      rcases hp with rfl | rfl | rfl | rfl
      · trivial
      · have h5 := dg5_lt h
        have h4 := dg_lt a 4
        exact ⟨by unfold wI; omega, by unfold wI; omega, by unfold wI; omega, by unfold wI; omega, y0_wrap⟩
      · have := qN_lt h
        omega
      · intro x hx
        have hd := dg_lt a
        simp only [tL, List.mem_cons, List.not_mem_nil, or_false] at hx
        rcases hx with rfl | rfl | rfl | rfl | rfl | rfl | rfl
        · omega
        · have := hd 0; unfold wI; omega
        · have := hd 1; unfold wI; omega
        · have := hd 2; unfold wI; omega
        · have := hd 3; unfold wI; omega
        · have := hd 4; unfold wI; omega
        · have := hd 5; unfold wI; omega
    show Code.wp _ _ _ _ _
    refine wp_seq (wp_block (N_loop (fun n a2 w2 hn hlt h2 => ?_) (n_first h hw) h1))
    show Code.wp _ _ _ _ _
    refine At.probe (E := EN 0) mixed (tabNx 0) (callNx 0) (N_tail n) (fun p hp => ?_) h2 [17] (blk_NR n) (keep_NR n) (no_rho0 _) fun a3 w3 h3 => ?_
    · rw [List.mem_singleton] at hp
      subst hp
      exact ob6_ok (dg_lt n)
    · refine ⟨.inr rfl, stNR n, [W6 (rd (asN6 (dg n)))], h3, res_NR n, ?_⟩
      rw [nextN_rd hn hlt, tNx_eq]
      rfl
  · rintro e w' ⟨v, rfl, xs, st, ρ', hE, hval, hMk, rfl⟩
    refine ⟨v, rfl, ?_, hE.below fun b ⟨id, _, hq⟩ => by cases hq⟩
    have : (W6 (nextN a wd)).val ρ' = some v := hval
    rw [val_W6] at this
    cases this; rfl
end Go.Proofs.Ytmebkhfdhbjacaa
/-
  The document's base field, 7: Mul's contract.
-/
/-
  The document's base field, 5: products: runs.
-/
namespace Go.Proofs.Ytmebkhfdhbjacaa
open Go Go.Eng Go.RowKit Go.Wd Go.Alg Go.Pr

noncomputable def dMu : Fn1 := match fn1 134 with
  | some d => d
  | none => ⟨.skip, [], 0⟩
theorem dMu_ok : FnOk Try.prog 134 dMu := fn1_ok _ _ (by kernel_rfl)
/-- A row for next. -/
def nextRow : Row where
  f := 171
  ans := fun
    | [⟨true, l⟩, ⟨false, [.v (.int .u64 z)]⟩] => match asW6 l with
      | some (a, ob) => some (.one (W6 (nextN a z.toNat)), (a % pw 6 < pN ∧ 0 ≤ z ∧ z < 18446744073709551616) :: ob)
      | none => none
    | _ => none
theorem nextRow_ok : RowOk Try.prog nextRow := by
  intro args s ob ha hob ρ vs hv
  unfold nextRow at ha
  simp only at ha
  split at ha
  · rename_i l z
    split at ha
    · rename_i a ob' hn
      cases ha
      obtain ⟨h1, h2, h3⟩ := hob _ List.mem_cons_self
      obtain ⟨v1, us, g1, g2, rfl⟩ := vals_cons hv
      obtain ⟨v2, us', g3, g4, rfl⟩ := vals_cons g2
      cases g4
      obtain ⟨ws, hw, rfl⟩ := val_agg g1
      have e := asW6_ok hn (fun p hp => hob p (List.mem_cons_of_mem _ hp)) hw
      subst e
      have e2 : AV.val ρ ⟨false, [.v (.int .u64 z)]⟩ = some (.int .u64 z) := AV.val_v (ρ := ρ) (x := .int .u64 z) rfl
      rw [e2] at g3
      cases g3
      refine ⟨_, val_W6 (ρ := rho0) (nextN a z.toNat), ?_⟩
      have hp := next_pure (a := a) (wd := z.toNat) h1 (by omega)
      have eq : ((z.toNat : Nat) : Int) = z := by omega
      unfold uv at hp
      rw [eq] at hp
      exact hp
    · cases ha
  · cases ha
noncomputable def EM : Eng := { tab := tyTab, call := callN tyTab (tableT [mul64Row, add64Row, nextRow, row1 118 rd]) fn1 1000 6, N := 94 }
set_option maxRecDepth 100000 in
theorem callMu : CallOk Try.prog EM.call := callN_ok mixed tyTab_ok (tableT_ok (by
  simp only [List.forall_mem_cons, List.not_mem_nil, false_imp_iff, implies_true, and_true]
  exact ⟨mul64_ok, add64_ok, nextRow_ok, row1_ok rReduce'⟩)) fn1_ok 1000 6
noncomputable def cM1 : List Code := takeS 4 dMu.body
noncomputable def cMH : Code := seqL (seqL (dropS 4 dMu.body))
noncomputable def cML : Code := loopIn (blockIn (seqR (seqL (dropS 4 dMu.body))))
noncomputable def cMT : Code := dropS 5 dMu.body
theorem dMu_chain : dMu.body = chain cM1 (.seq (.seq cMH (.block 0 (.loop cML))) cMT) := by kernel_rfl
theorem dMu_ntmps : dMu.ntmps = 94 := by kernel_rfl
theorem dMu_results : dMu.results = [.cell 4 24] := by kernel_rfl
noncomputable def inM (a b : Nat) : St := initSlots 0 [W6 a, W6 b] (94 - [W6 a, W6 b].length) ++ []
def sJ (i : Int) : Ct := .sl (vI .i64 i)
def l12 (T : Nat → Int) : List It := (List.range 12).map fun j => .v (.int .u64 (T j))
def stM (a b : Nat) (i : Int) (l : List It) : St := [(8, spt 18), (10, spt 21), (12, spt 25), (14, spt 27), (37, .bl [.w 6 0]), (43, .bl [.w 6 a]), (51, .bl [.w 6 b]), (55, .bl l), (16, sJ i)]
def stM0 (a b : Nat) : St := [(8, spt 18), (10, spt 21), (12, spt 25), (14, spt 27), (37, .bl [.w 6 0]), (43, .bl [.w 6 a]), (51, .bl [.w 6 b]), (55, .bl [.w 12 0])]
theorem M_start (a b : Nat) : probes EM 100 cM1 (inM a b) 16 [] ((stM0 (rd a) (rd b)).map (·.1)) = some (0, [], (stM0 (rd a) (rd b)).map fun p => some p.2) := by kernel_rfl
theorem M_head (a b : Nat) : probe EM 100 cMH (stM0 a b) 60 [] ((stM a b 0 [.w 12 0]).map (·.1)) = some (0, [], (stM a b 0 [.w 12 0]).map fun p => some p.2) := by kernel_rfl
/-! one row of the product -/
def mhI (a b i k : Nat) : Int := (((wI a i).toNat * (wI b k).toNat / 18446744073709551616 : Nat) : Int)
def mlI (a b i k : Nat) : Int := (((wI a i).toNat * (wI b k).toNat % 18446744073709551616 : Nat) : Int)
def rcI (a b : Nat) (T : Nat → Int) (i : Nat) : Nat → Int
  | 0 => 0
  | k + 1 => IntKind.u64.wrap (IntKind.u64.wrap (mhI a b i k + ((((mlI a b i k).toNat + (rcI a b T i k).toNat + (0 : Int).toNat) / 18446744073709551616 : Nat) : Int)) +
      ((((T (i + k)).toNat + ((((mlI a b i k).toNat + (rcI a b T i k).toNat + (0 : Int).toNat) % 18446744073709551616 : Nat) : Int).toNat + (0 : Int).toNat) / 18446744073709551616 : Nat) : Int))
def rlI (a b : Nat) (T : Nat → Int) (i k : Nat) : Int := ((((mlI a b i k).toNat + (rcI a b T i k).toNat + (0 : Int).toNat) % 18446744073709551616 : Nat) : Int)
def rsI (a b : Nat) (T : Nat → Int) (i k : Nat) : Int := ((((T (i + k)).toNat + (rlI a b T i k).toNat + (0 : Int).toNat) % 18446744073709551616 : Nat) : Int)
def rowI (a b : Nat) (T : Nat → Int) (i j : Nat) : Int := match Nat.blt j i with
  | true => T j
  | false => match Nat.blt j (i + 6) with
    | true => rsI a b T i (j - i)
    | false => match Nat.beq j (i + 6) with
      | true => rcI a b T i 6
      | false => T j
def rowOb (a b : Nat) (T : Nat → Int) (i k : Nat) : List Prop := [mOb (wI a i) (wI b k), cOb (mlI a b i k) (rcI a b T i k) 0, cOb (T (i + k)) (rlI a b T i k) 0]
theorem M_row0 (a b : Nat) (T : Nat → Int) : probe EM 100 cML (stM a b 0 (l12 T)) 60 [] ((stM a b 1 (l12 (rowI a b T 0))).map (·.1)) = some (0, ((List.range 6).map (rowOb a b T 0)).flatten, (stM a b 1 (l12 (rowI a b T 0))).map fun p => some p.2) := by kernel_rfl
theorem M_row1 (a b : Nat) (T : Nat → Int) : probe EM 100 cML (stM a b 1 (l12 T)) 60 [] ((stM a b 2 (l12 (rowI a b T 1))).map (·.1)) = some (0, ((List.range 6).map (rowOb a b T 1)).flatten, (stM a b 2 (l12 (rowI a b T 1))).map fun p => some p.2) := by kernel_rfl
theorem M_row2 (a b : Nat) (T : Nat → Int) : probe EM 100 cML (stM a b 2 (l12 T)) 60 [] ((stM a b 3 (l12 (rowI a b T 2))).map (·.1)) = some (0, ((List.range 6).map (rowOb a b T 2)).flatten, (stM a b 3 (l12 (rowI a b T 2))).map fun p => some p.2) := by kernel_rfl
theorem M_row3 (a b : Nat) (T : Nat → Int) : probe EM 100 cML (stM a b 3 (l12 T)) 60 [] ((stM a b 4 (l12 (rowI a b T 3))).map (·.1)) = some (0, ((List.range 6).map (rowOb a b T 3)).flatten, (stM a b 4 (l12 (rowI a b T 3))).map fun p => some p.2) := by kernel_rfl
theorem M_row4 (a b : Nat) (T : Nat → Int) : probe EM 100 cML (stM a b 4 (l12 T)) 60 [] ((stM a b 5 (l12 (rowI a b T 4))).map (·.1)) = some (0, ((List.range 6).map (rowOb a b T 4)).flatten, (stM a b 5 (l12 (rowI a b T 4))).map fun p => some p.2) := by kernel_rfl
theorem M_row5 (a b : Nat) (T : Nat → Int) : probe EM 100 cML (stM a b 5 (l12 T)) 60 [] ((stM a b 6 (l12 (rowI a b T 5))).map (·.1)) = some (0, ((List.range 6).map (rowOb a b T 5)).flatten, (stM a b 6 (l12 (rowI a b T 5))).map fun p => some p.2) := by kernel_rfl
theorem M_exit (a b : Nat) (T : Nat → Int) : probe EM 100 cML (stM a b 6 (l12 T)) 60 [] ((stM a b 6 (l12 T)).map (·.1)) = some (2, [], (stM a b 6 (l12 T)).map fun p => some p.2) := by kernel_rfl
def hiTI (T : Nat → Int) : Nat := num (fun i => ([T 6, T 7, T 8, T 9, T 10, T 11].getD i 0).toNat) 6
def nxI (T : Nat → Int) : Nat → Nat
  | 0 => hiTI T
  | k + 1 => nextN (nxI T k) (T (5 - k)).toNat
def nxIOb (T : Nat → Int) (k : Nat) : Prop := nxI T k % pw 6 < pN ∧ 0 ≤ T (5 - k) ∧ T (5 - k) < 18446744073709551616
def tailOb (T : Nat → Int) : List Prop := [nxIOb T 0, ∀ x ∈ [T 6, T 7, T 8, T 9, T 10, T 11], 0 ≤ x ∧ x < 18446744073709551616, nxIOb T 1, nxIOb T 2, nxIOb T 3, nxIOb T 4, nxIOb T 5]
def stMR (n : Nat) : St := [(8, spt 18), (37, .bl [.w 6 n])]
theorem M_tail (a b : Nat) (T : Nat → Int) : probe EM 100 cMT (stM a b 6 (l12 T)) 60 [] ((stMR (nxI T 6)).map (·.1)) = some (1, tailOb T, (stMR (nxI T 6)).map fun p => some p.2) := by kernel_rfl
end Go.Proofs.Ytmebkhfdhbjacaa
/-
  The document's base field, 6: products.
-/
namespace Go.Proofs.Ytmebkhfdhbjacaa
open Go Go.Eng Go.RowKit Go.Wd Go.Alg Go.Pr

/-! plainly -/
def mhN (a b i k : Nat) : Nat := dg a i * dg b k / 18446744073709551616
def mlN (a b i k : Nat) : Nat := dg a i * dg b k % 18446744073709551616
def rcN (a b : Nat) (T : Nat → Nat) (i : Nat) : Nat → Nat
  | 0 => 0
  | k + 1 => mhN a b i k + (mlN a b i k + rcN a b T i k) / 18446744073709551616 + (T (i + k) + (mlN a b i k + rcN a b T i k) % 18446744073709551616) / 18446744073709551616
def rlN (a b : Nat) (T : Nat → Nat) (i k : Nat) : Nat := (mlN a b i k + rcN a b T i k) % 18446744073709551616
def rsN (a b : Nat) (T : Nat → Nat) (i k : Nat) : Nat := (T (i + k) + rlN a b T i k) % 18446744073709551616
def rowM (a b : Nat) (T : Nat → Nat) (i j : Nat) : Nat := match Nat.blt j i with
  | true => T j
  | false => match Nat.blt j (i + 6) with
    | true => rsN a b T i (j - i)
    | false => match Nat.beq j (i + 6) with
      | true => rcN a b T i 6
      | false => T j
theorem mul_le_w (a b i k : Nat) : dg a i * dg b k ≤ 340282366920938463426481119284349108225 := by
  have h1 := dg_lt a i
  have h2 := dg_lt b k
  exact Nat.mul_le_mul (show dg a i ≤ 18446744073709551615 by omega) (show dg b k ≤ 18446744073709551615 by omega)
theorem step_w {z c t : Nat} (hz : z ≤ 340282366920938463426481119284349108225) (hc : c < 18446744073709551616) (ht : t < 18446744073709551616) :
    z / 18446744073709551616 + (z % 18446744073709551616 + c) / 18446744073709551616 + (t + (z % 18446744073709551616 + c) % 18446744073709551616) / 18446744073709551616 < 18446744073709551616 := by
  omega
theorem rcN_lt (a b : Nat) {T : Nat → Nat} (hT : ∀ j, T j < 18446744073709551616) (i : Nat) : ∀ k, rcN a b T i k < 18446744073709551616 := by
  intro k
  induction k with
  | zero => show 0 < _; decide
  | succ k ih => exact step_w (mul_le_w a b i k) ih (hT (i + k))
def cst (T : Nat → Nat) : Nat → Int := fun j => ((T j : Nat) : Int)
theorem mhI_eq (a b i k : Nat) : mhI a b i k = ((mhN a b i k : Nat) : Int) := by unfold mhI mhN; rw [wI_toNat, wI_toNat]
theorem mlI_eq (a b i k : Nat) : mlI a b i k = ((mlN a b i k : Nat) : Int) := by unfold mlI mlN; rw [wI_toNat, wI_toNat]
theorem rcI_eq (a b : Nat) {T : Nat → Nat} (hT : ∀ j, T j < 18446744073709551616) (i : Nat) : ∀ k, rcI a b (cst T) i k = ((rcN a b T i k : Nat) : Int) := by
  intro k
  induction k with
  | zero => rfl
  | succ k ih =>
    have h := rcN_lt a b hT i (k + 1)
    have h1 : mhN a b i k + (mlN a b i k + rcN a b T i k) / 18446744073709551616 < 18446744073709551616 := Nat.lt_of_le_of_lt (Nat.le_add_right _ _) h
    show IntKind.u64.wrap (IntKind.u64.wrap _ + _) = _
    rw [ih, mhI_eq, mlI_eq]
    simp only [Int.toNat_natCast, cst, show (0 : Int).toNat = 0 from rfl, Nat.add_zero]
    rw [← Int.natCast_add, wrap_nat h1, ← Int.natCast_add]
    exact wrap_nat h
theorem rlI_eq (a b : Nat) {T : Nat → Nat} (hT : ∀ j, T j < 18446744073709551616) (i k : Nat) : rlI a b (cst T) i k = ((rlN a b T i k : Nat) : Int) := by
  unfold rlI rlN
  rw [rcI_eq a b hT, mlI_eq]
  simp only [Int.toNat_natCast, show (0 : Int).toNat = 0 from rfl, Nat.add_zero]
theorem rsI_eq (a b : Nat) {T : Nat → Nat} (hT : ∀ j, T j < 18446744073709551616) (i k : Nat) : rsI a b (cst T) i k = ((rsN a b T i k : Nat) : Int) := by
  unfold rsI rsN
  rw [rlI_eq a b hT]
  simp only [Int.toNat_natCast, cst, show (0 : Int).toNat = 0 from rfl, Nat.add_zero]
theorem rowI_eq (a b : Nat) {T : Nat → Nat} (hT : ∀ j, T j < 18446744073709551616) (i : Nat) : rowI a b (cst T) i = cst (rowM a b T i) := by
  funext j
  show rowI a b (cst T) i j = ((rowM a b T i j : Nat) : Int)
  unfold rowI rowM
  cases Nat.blt j i
  · cases Nat.blt j (i + 6)
    · cases Nat.beq j (i + 6)
      · rfl
      · exact rcI_eq a b hT i 6
    · exact rsI_eq a b hT i (j - i)
  · rfl
theorem rowM_lt (a b : Nat) {T : Nat → Nat} (hT : ∀ j, T j < 18446744073709551616) (i j : Nat) : rowM a b T i j < 18446744073709551616 := by
  unfold rowM
  split
  · exact hT j
  · split
    · exact Nat.mod_lt _ (by decide)
    · split
      · exact rcN_lt a b hT i 6
      · exact hT j
theorem rowOb_ok (a b : Nat) {T : Nat → Nat} (hT : ∀ j, T j < 18446744073709551616) (i : Nat) : ∀ p ∈ ((List.range 6).map (rowOb a b (cst T) i)).flatten, p := by
  intro p hp
  obtain ⟨l, hl, hp⟩ := List.mem_flatten.1 hp
  obtain ⟨k, hk, rfl⟩ := List.mem_map.1 hl
  have h1 := dg_lt a i
  have h2 := dg_lt b k
  have h3 := rcN_lt a b hT i k
  simp only [rowOb, List.mem_cons, List.not_mem_nil, or_false] at hp
  rcases hp with rfl | rfl | rfl
  · unfold mOb wI; omega
  · rw [mlI_eq, rcI_eq a b hT]; unfold cOb; omega
  · rw [rlI_eq a b hT]; unfold cOb cst; omega
theorem num_rs (a b : Nat) (T : Nat → Nat) (i : Nat) : ∀ k, num (rsN a b T i) k + rcN a b T i k * pw k = dg a i * num (dg b) k + num (fun j => T (i + j)) k := by
  intro k
  induction k with
  | zero => simp [num, rcN]
  | succ k ih =>
    have h2 : rsN a b T i k + rcN a b T i (k + 1) * 18446744073709551616 = dg a i * dg b k + rcN a b T i k + T (i + k) := by
      show (T (i + k) + (mlN a b i k + rcN a b T i k) % 18446744073709551616) % 18446744073709551616 + (mhN a b i k + (mlN a b i k + rcN a b T i k) / 18446744073709551616 + (T (i + k) + (mlN a b i k + rcN a b T i k) % 18446744073709551616) / 18446744073709551616) * 18446744073709551616 = _
      unfold mhN mlN
      generalize dg a i * dg b k = z
      omega
    have h3 : (rsN a b T i k + rcN a b T i (k + 1) * 18446744073709551616) * pw k = (dg a i * dg b k + rcN a b T i k + T (i + k)) * pw k := by rw [h2]
    rw [Nat.add_mul, Nat.add_mul, Nat.add_mul] at h3
    simp only [num]
    rw [pw_succ, Nat.mul_add, Nat.mul_comm (pw k) 18446744073709551616, ← Nat.mul_assoc, ← Nat.mul_assoc]
    omega
theorem num_split (T : Nat → Nat) (i : Nat) : ∀ k, num T (i + k) = num T i + pw i * num (fun j => T (i + j)) k := by
  intro k
  induction k with
  | zero => simp [num]
  | succ k ih =>
    show num T (i + k) + T (i + k) * pw (i + k) = num T i + pw i * (num (fun j => T (i + j)) k + T (i + k) * pw k)
    rw [ih, pw_add, Nat.mul_add, ← Nat.mul_assoc (pw i), Nat.mul_comm (pw i) (T (i + k)), Nat.mul_assoc (T (i + k))]
    omega
def TT (a b : Nat) : Nat → Nat → Nat
  | 0 => fun _ => 0
  | i + 1 => rowM a b (TT a b i) i
theorem TT_lt (a b : Nat) : ∀ i j, TT a b i j < 18446744073709551616 := by
  intro i
  induction i with
  | zero => intro j; show 0 < _; decide
  | succ i ih => intro j; exact rowM_lt a b ih i j
theorem rowM_low (a b : Nat) (T : Nat → Nat) {i j : Nat} (h : j < i) : rowM a b T i j = T j := by
  unfold rowM
  have : Nat.blt j i = true := by rw [Nat.blt_eq]; exact h
  rw [this]
theorem rowM_mid (a b : Nat) (T : Nat → Nat) {i k : Nat} (h : k < 6) : rowM a b T i (i + k) = rsN a b T i k := by
  unfold rowM
  have h1 : Nat.blt (i + k) i = false := by rw [Bool.eq_false_iff]; intro e; rw [Nat.blt_eq] at e; omega
  have h2 : Nat.blt (i + k) (i + 6) = true := by rw [Nat.blt_eq]; omega
  rw [h1, h2, Nat.add_sub_cancel_left]
theorem rowM_top (a b : Nat) (T : Nat → Nat) (i : Nat) : rowM a b T i (i + 6) = rcN a b T i 6 := by
  unfold rowM
  have h1 : Nat.blt (i + 6) i = false := by rw [Bool.eq_false_iff]; intro e; rw [Nat.blt_eq] at e; omega
  have h2 : Nat.blt (i + 6) (i + 6) = false := by rw [Bool.eq_false_iff]; intro e; rw [Nat.blt_eq] at e; omega
  have h3 : Nat.beq (i + 6) (i + 6) = true := by rw [Nat.beq_eq]
  rw [h1, h2, h3]
theorem num_succ' (d : Nat → Nat) (k : Nat) : num d (k + 1) = num d k + d k * pw k := rfl
theorem num_rowM (a b : Nat) (T : Nat → Nat) (i : Nat) : num (rowM a b T i) (i + (6 + 1)) = num T (i + 6) + pw i * (dg a i * num (dg b) 6) := by
  have e1 : num (rowM a b T i) i = num T i := num_congr i fun j hj => rowM_low a b T hj
  have e2 : num (fun j => rowM a b T i (i + j)) 6 = num (rsN a b T i) 6 := num_congr 6 fun j hj => rowM_mid a b T hj
  have h := num_split T i 6
  rw [num_split (rowM a b T i) i (6 + 1), num_succ', e1, e2]
  show num T i + pw i * (num (rsN a b T i) 6 + rowM a b T i (i + 6) * pw 6) = _
  rw [rowM_top, num_rs, h, Nat.mul_add]
  omega
theorem num_TT (a b : Nat) : ∀ i, num (TT a b i) (i + 6) = num (dg a) i * num (dg b) 6 := by
  intro i
  induction i with
  | zero => 
    have : ∀ k, num (fun _ => 0) k = 0 := fun k => by
      induction k with
      | zero => rfl
      | succ k ih => rw [num_succ', ih]; simp
    show num (fun _ => 0) (0 + 6) = num (dg a) 0 * _
    rw [this, show num (dg a) 0 = 0 from rfl, Nat.zero_mul]
  | succ i ih =>
    have e : i + 1 + 6 = i + (6 + 1) := by omega
    rw [e]
    show num (rowM a b (TT a b i) i) (i + (6 + 1)) = _
    rw [num_rowM, ih, num_succ' (dg a) i, Nat.add_mul, ← Nat.mul_assoc, Nat.mul_comm (pw i) (dg a i)]
/-! the six words more -/
def nxN (T : Nat → Nat) : Nat → Nat
  | 0 => num (fun j => T (6 + j)) 6
  | k + 1 => nextN (nxN T k) (T (5 - k))
theorem hiTI_eq (T : Nat → Nat) : hiTI (cst T) = num (fun j => T (6 + j)) 6 := by
  unfold hiTI
  refine num_congr 6 fun i hi => ?_
  have : i = 0 ∨ i = 1 ∨ i = 2 ∨ i = 3 ∨ i = 4 ∨ i = 5 := by omega
  rcases this with rfl | rfl | rfl | rfl | rfl | rfl <;> simp [cst]
theorem nxI_eq (T : Nat → Nat) : ∀ k, nxI (cst T) k = nxN T k := by
  intro k
  induction k with
  | zero => exact hiTI_eq T
  | succ k ih => show nextN (nxI (cst T) k) (cst T (5 - k)).toNat = _; rw [ih]; rfl
theorem nxN_law {T : Nat → Nat} (h : num (fun j => T (6 + j)) 6 < pN) : ∀ k, k ≤ 6 → nxN T k < pN ∧ nxN T k = num (fun j => T (6 - k + j)) (6 + k) % pN := by
  intro k
  induction k with
  | zero => intro _; exact ⟨h, (Nat.mod_eq_of_lt h).symm⟩
  | succ k ih =>
    intro hk
    obtain ⟨h1, h2⟩ := ih (by omega)
    refine ⟨Nat.mod_lt _ pN_pos, ?_⟩
    show (T (5 - k) + 18446744073709551616 * (nxN T k % pw 6)) % pN = _
    have e0 : num (fun j => T (6 - (k + 1) + j)) (6 + k + 1) = T (5 - k) + 18446744073709551616 * num (fun j => T (6 - k + j)) (6 + k) := by
      rw [num_cons (fun j => T (6 - k + j)) (fun j => T (6 - (k + 1) + j)) (fun i => congrArg T (by omega))]
      rw [show 6 - (k + 1) + 0 = 5 - k by omega]
    show _ = num (fun j => T (6 - (k + 1) + j)) (6 + k + 1) % pN
    rw [e0, Nat.mod_eq_of_lt (Nat.lt_trans h1 p_lt6), h2, Nat.add_mod, Nat.mul_mod_mod, ← Nat.add_mod]
theorem prod_law {a b : Nat} (ha : a < pN) (hb : b < pN) : num (fun j => TT a b 6 (6 + j)) 6 < pN ∧ nxN (TT a b 6) 6 = a * b % pN := by
  have h := num_TT a b 6
  rw [num_dg, num_dg, Nat.mod_eq_of_lt (Nat.lt_trans ha p_lt6), Nat.mod_eq_of_lt (Nat.lt_trans hb p_lt6)] at h
  have hs := num_split (TT a b 6) 6 6
  have h12 : num (TT a b 6) 12 = a * b := h
  rw [h] at hs
  have hlt : num (fun j => TT a b 6 (6 + j)) 6 < pN := by
    refine Nat.lt_of_mul_lt_mul_left (a := pw 6) ?_
    have h1 : a * b ≤ a * pN := Nat.mul_le_mul_left _ (Nat.le_of_lt hb)
    have h2 : a * pN < pw 6 * pN := Nat.mul_lt_mul_of_pos_right (Nat.lt_trans ha p_lt6) pN_pos
    omega
  refine ⟨hlt, ?_⟩
  rw [(nxN_law hlt 6 (Nat.le_refl _)).2]
  have e : num (fun j => TT a b 6 (6 - 6 + j)) (6 + 6) = num (TT a b 6) 12 := num_congr 12 fun j _ => congrArg _ (by omega)
  rw [e, h12]
theorem tailOb_ok {T : Nat → Nat} (hT : ∀ j, T j < 18446744073709551616) (h : num (fun j => T (6 + j)) 6 < pN) : ∀ p ∈ tailOb (cst T), p := by
  have hn : ∀ k, k ≤ 5 → nxIOb (cst T) k := fun k hk => by
    have h1 := (nxN_law h k (by omega)).1
    have h2 := hT (5 - k)
    unfold nxIOb
    rw [nxI_eq, Nat.mod_eq_of_lt (Nat.lt_trans h1 p_lt6)]
    refine ⟨h1, ?_, ?_⟩ <;> unfold cst <;> omega
  intro p hp
  simp only [tailOb, List.mem_cons, List.not_mem_nil, or_false] at hp
  rcases hp with rfl | rfl | rfl | rfl | rfl | rfl | rfl
  · exact hn 0 (by omega)
  · intro x hx
    simp only [List.mem_cons, List.not_mem_nil, or_false, cst] at hx
    have h6 := hT 6
    have h7 := hT 7
    have h8 := hT 8
    have h9 := hT 9
    have h10 := hT 10
    have h11 := hT 11
    rcases hx with rfl | rfl | rfl | rfl | rfl | rfl <;> omega
  · exact hn 1 (by omega)
  · exact hn 2 (by omega)
  · exact hn 3 (by omega)
  · exact hn 4 (by omega)
  · exact hn 5 (by omega)
end Go.Proofs.Ytmebkhfdhbjacaa
namespace Go.Proofs.Ytmebkhfdhbjacaa
open Go Go.Eng Go.RowKit Go.Wd Go.Alg Go.Pr

theorem zeroR12 : ∀ ρ vs, conc ρ [.w 12 0] = some vs → conc ρ (l12 (cst (fun _ => 0))) = some vs := by
  intro ρ vs h
  have e6 : words 12 0 = (List.range 12).map fun _ => Value.int .u64 0 := by kernel_rfl
  have e : conc ρ [.w 12 0] = some (words 12 0) := by simp [conc, It.cs]
  rw [e, e6] at h
  cases h
  have hc : conc ρ (((List.range 12).map fun _ => Value.int .u64 0).map It.v) = some ((List.range 12).map fun _ => Value.int .u64 0) :=
    val_plain ρ _ (by intro v hv; obtain ⟨_, _, rfl⟩ := List.mem_map.1 hv; rfl)
  exact hc
theorem same_M (a b : Nat) : ∀ k, match Eng.look (stM a b 0 [.w 12 0]) k, Eng.look (stM a b 0 (l12 (cst (fun _ => 0)))) k with | some c, some c' => SameCt c c' | none, none => True | _, _ => False := by
  intro k
  by_cases e1 : k = 55
  · subst e1; exact zeroR12
  · have f1 : (55 == k) = false := by simp; omega
    have : Eng.look (stM a b 0 [.w 12 0]) k = Eng.look (stM a b 0 (l12 (cst (fun _ => 0)))) k := by
      simp only [stM, Eng.look, f1]
      rfl
    rw [this]
    split
    · rename_i x y e3 e4; rw [e3] at e4; cases e4; exact SameCt.refl _
    · trivial
    · rename_i h3 h4; cases h5 : Eng.look (stM a b 0 (l12 (cst (fun _ => 0)))) k with
      | none => exact h4 h5 h5
      | some c => exact h3 c c h5 h5
theorem keep_M (a b : Nat) (i : Int) (T : Nat → Int) : keepsB (stM a b i (l12 T)) [18, 21, 25, 27] = true := by kernel_rfl
theorem keep_Mz (a b : Nat) (i : Int) : keepsB (stM a b i [.w 12 0]) [18, 21, 25, 27] = true := by kernel_rfl
theorem blk_M (a b : Nat) (i : Int) (l : List It) : ∀ id ∈ [18, 21, 25, 27], ∃ l', (stM a b i l).blk id = some l' := by
  intro id hid
  simp only [List.mem_cons, List.not_mem_nil, or_false] at hid
  rcases hid with rfl | rfl | rfl | rfl <;> exact ⟨_, rfl⟩
theorem keep_M0 (a b : Nat) : keepsB (stM0 a b) [18, 21, 25, 27] = true := by kernel_rfl
theorem blk_M0 (a b : Nat) : ∀ id ∈ [18, 21, 25, 27], ∃ l', (stM0 a b).blk id = some l' := by
  intro id hid
  simp only [List.mem_cons, List.not_mem_nil, or_false] at hid
  rcases hid with rfl | rfl | rfl | rfl <;> exact ⟨_, rfl⟩
theorem keep_MR (n : Nat) : keepsB (stMR n) [18] = true := by kernel_rfl
theorem blk_MR (n : Nat) : ∀ id ∈ [18], ∃ l', (stMR n).blk id = some l' := by
  intro id hid
  simp only [List.mem_cons, List.not_mem_nil, or_false] at hid
  subst hid
  exact ⟨_, rfl⟩
theorem res_MR (n : Nat) : resultsOf tyTab (stMR n) [.cell 4 24] = some [W6 n] := by kernel_rfl
def stT (a b i : Nat) : St := stM a b (i : Int) (l12 (cst (TT a b i)))
theorem M_loop {w0 : World} {Q : Exit → Act → World → Prop} {a b : Nat}
    (hQ : ∀ c w, At 94 rho0 w0 (stT a b 6) c w → Q (.exit 0) c w) {c : Act} {w : World}
    (hA : At 94 rho0 w0 (stT a b 0) c w) : (Code.loop cML).wp Try.prog Q c w := by
  refine loop_rule (w0 := w0) (ρ0 := rho0) (N := 94) (ι := Nat) (fun i => i ≤ 6) (stT a b) (fun i => 6 - i) ?_ 0 (by omega) c w hA
  intro i hi c w hA
  have hi : i ≤ 6 := hi
  have step : ∀ (i : Nat), i < 6 → probe EM 100 cML (stT a b i) 60 [] ((stM a b ((i + 1 : Nat) : Int) (l12 (rowI a b (cst (TT a b i)) i))).map (·.1)) = some (0, ((List.range 6).map (rowOb a b (cst (TT a b i)) i)).flatten, (stM a b ((i + 1 : Nat) : Int) (l12 (rowI a b (cst (TT a b i)) i))).map fun p => some p.2) →
      At 94 rho0 w0 (stT a b i) c w → cML.wp Try.prog (Exit.then (fun a' w' => ∃ i', i' ≤ 6 ∧ 6 - i' < 6 - i ∧ At 94 rho0 w0 (stT a b i') a' w') Q) c w := by
    intro i hi hp hA
    refine At.probe (E := EM) mixed tyTab_ok callMu hp (rowOb_ok a b (TT_lt a b i) i) hA [18, 21, 25, 27] (blk_M _ _ _ _) (keep_M _ _ _ _) (no_rho0 _) fun a' w' hA' => ⟨i + 1, by omega, by omega, ?_⟩
    rw [rowI_eq a b (TT_lt a b i)] at hA'
    exact hA'
  have hc : i = 0 ∨ i = 1 ∨ i = 2 ∨ i = 3 ∨ i = 4 ∨ i = 5 ∨ i = 6 := by omega
  rcases hc with rfl | rfl | rfl | rfl | rfl | rfl | rfl
  · exact step 0 (by omega) (M_row0 a b _) hA
  · exact step 1 (by omega) (M_row1 a b _) hA
  · exact step 2 (by omega) (M_row2 a b _) hA
  · exact step 3 (by omega) (M_row3 a b _) hA
  · exact step 4 (by omega) (M_row4 a b _) hA
  · exact step 5 (by omega) (M_row5 a b _) hA
  · exact At.probe (E := EM) mixed tyTab_ok callMu (M_exit a b _) (fun p hp => by cases hp) hA [18, 21, 25, 27] (blk_M _ _ _ _) (keep_M _ _ _ _) (no_rho0 _) fun a' w' hA' => hQ a' w' hA'
theorem rMul (m n : Nat) : Pure Try.prog 134 [wv m, wv n] (wv (mulF m n)) := by
  have hm : mulF m n = rd m * rd n % pN := by unfold mulF; rw [← mul_val]; rfl
  rw [wv_nat, wv_nat, wv_nat, hm]
  intro w
  refine .inr ⟨dMu_ok.enter _ _, ?_⟩
  have hv : vals rho0 [W6 m, W6 n] = some [.agg (words 6 m).toArray, .agg (words 6 n).toArray] := by simp only [vals, val_W6]
  obtain ⟨hlt, hpr⟩ := prod_law (rd_lt m) (rd_lt n)
  refine (calls_of_at (G := fun xs st => xs = [W6 (rd m * rd n % pN)]) tyTab_ok dMu_ok (mem_rho0 w) (by kernel_rfl) hv (by rw [dMu_ntmps]; simp) fun b hA0 => ?_).mono ?_
  · rw [dMu_ntmps] at hA0
    have hA0 : At 94 rho0 w (inM m n) b w := hA0
    rw [dMu_ntmps, dMu_results, dMu_chain]
    refine At.probes (E := EM) mixed tyTab_ok callMu (M_start m n) (fun p hp => by cases hp) hA0 [18, 21, 25, 27] (blk_M0 _ _) (keep_M0 _ _) (no_rho0 _) fun a1 w1 h1 => ?_
    show Code.wp _ _ _ _ _
    refine wp_seq (wp_seq (At.probe (E := EM) mixed tyTab_ok callMu (M_head (rd m) (rd n)) (fun p hp => by cases hp) h1 [18, 21, 25, 27] (blk_M _ _ _ _) (keep_Mz _ _ _) (no_rho0 _) fun a' w' hA' => ?_))
    have hA' := hA'.same (same_M (rd m) (rd n))
    show Code.wp _ _ _ _ _
    refine wp_block (M_loop (fun a2 w2 h2 => ?_) hA')
    show Code.wp _ _ _ _ _
    refine At.probe (E := EM) mixed tyTab_ok callMu (M_tail (rd m) (rd n) _) (tailOb_ok (TT_lt _ _ 6) hlt) h2 [18] (blk_MR _) (keep_MR _) (no_rho0 _) fun a3 w3 h3 => ?_
    refine ⟨.inr rfl, stMR _, [W6 _], h3, res_MR _, ?_⟩
    rw [nxI_eq, hpr]
  · rintro e w' ⟨v, rfl, xs, st, ρ', hE, hval, hMk, rfl⟩
    refine ⟨v, rfl, ?_, hE.below fun b ⟨id, _, hq⟩ => by cases hq⟩
    have : (W6 (rd m * rd n % pN)).val ρ' = some v := hval
    rw [val_W6] at this
    cases this; rfl
end Go.Proofs.Ytmebkhfdhbjacaa
