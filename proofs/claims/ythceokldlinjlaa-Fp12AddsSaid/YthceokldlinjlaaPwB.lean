/-
  Powers by the bits of a slice of words: fp12.Pow.
-/
import Derived.Test.YthceokldlinjlaaPx
namespace Go.Proofs.Ythceokldlinjlaa
open Go Go.Eng Go.RowKit Go.Wd Go.Alg Go.Pr

noncomputable def dQ : Fn1 := match fn1 14 with
  | some d => d
  | none => ⟨.skip, [], 0⟩
theorem dQ_ok : FnOk Try.prog 14 dQ := fn1_ok _ _ (by kernel_rfl)
noncomputable def EQ : Eng := { tab := tyTab, call := callN tyTab (tableT rows06) fn1 1000 6, N := 44 }
theorem callQ : CallOk Try.prog EQ.call := callN_ok mixed tyTab_ok (tableT_ok rows06_ok) fn1_ok 1000 6
noncomputable def cQa : Code := seqL dQ.body
noncomputable def cQb : Code := seqL (seqR dQ.body)
noncomputable def cQb2 : Code := seqL (seqR (seqR dQ.body))
noncomputable def cQc : Code := seqL (seqL (seqR (seqR (seqR dQ.body))))
noncomputable def cQL : Code := loopIn (blockIn (seqR (seqL (seqR (seqR (seqR dQ.body))))))
noncomputable def cQT : Code := seqR (seqR (seqR (seqR dQ.body)))
theorem dQ_body : dQ.body = .seq cQa (.seq cQb (.seq cQb2 (.seq (.seq cQc (.block 0 (.loop cQL))) cQT))) := by kernel_rfl
theorem dQ_chain : dQ.body = chain [cQa, cQb, cQb2] (.seq (.seq cQc (.block 0 (.loop cQL))) cQT) := dQ_body
theorem dQ_ntmps : dQ.ntmps = 44 := by kernel_rfl
theorem dQ_results : dQ.results = [.cell 4 30] := by kernel_rfl
def zero12 : N12 := (((0, 0), (0, 0), (0, 0)), ((0, 0), (0, 0), (0, 0)))
def stQ (x : N12) (len cap n : Nat) (N i : Int) (bg : Bool) (out : List It) : St := [(2, sS 1 len cap), (4, spt 16), (8, spt 17), (10, spt 22), (12, .sl (vB bg)), (30, sI N), (32, sI i), (3, .bl (anyW len n)), (33, bN x), (35, bN zero12), (45, .bl out)]
def stY (x : N12) (len cap n : Nat) (N i : Int) (bg : Bool) (o : N12) : St := stQ x len cap n N i bg ((Nm.toL o).map (It.w 6))
def stB12 (x : N12) (len cap n : Nat) (out : List It) : St := [(2, sS 1 len cap), (4, spt 16), (8, spt 17), (10, spt 22), (12, .sl (vB false)), (3, .bl (anyW len n)), (33, bN x), (35, bN zero12), (45, .bl out)]
noncomputable def inQ (x : N12) (len cap n : Nat) : St := initSlots 0 [wN x, ⟨false, [.s 1 0 len cap]⟩] (44 - [wN x, (⟨false, [.s 1 0 len cap]⟩ : AV)].length) ++ mem1 len n
def one72 : List It := one12 ++ [.w 6 0, .w 6 0, .w 6 0, .w 6 0, .w 6 0, .w 6 0, .w 6 0, .w 6 0, .w 6 0, .w 6 0]
theorem Q_start (x : N12) (len cap n : Nat) : probes EQ 100 [cQa, cQb, cQb2] (inQ x len cap n) 16 [] ((stB12 x len cap n one72).map (·.1)) = some (0, [], (stB12 x len cap n one72).map fun p => some p.2) := by kernel_rfl
theorem Q_head (x : N12) (len cap n : Nat) : probe EQ 100 cQc (stB12 x len cap n one72) 40 [] ((stQ x len cap n (N64 len) 0 false one72).map (·.1)) = some (0, [], (stQ x len cap n (N64 len) 0 false one72).map fun p => some p.2) := by kernel_rfl
theorem Q_exit (x : N12) (len cap n : Nat) (N i : Int) (o : N12) : ∀ bg : Bool, probe EQ 100 cQL (stY x len cap n N i bg o) 40 [(17, false)] ((stY x len cap n N i bg o).map (·.1)) = some (2, [i < N ↔ false = true], (stY x len cap n N i bg o).map fun p => some p.2)
  | true => by kernel_rfl
  | false => by kernel_rfl
theorem Q_t1 (x : N12) (len cap n : Nat) (N i : Int) (o : N12) : probe EQ 100 cQL (stY x len cap n N i true o) 40 [(17, true), (32, false), (36, true), (38, true)] ((stY x len cap n N (IntKind.i64.wrap (i + 1)) true (mul12 (mul12 o o) x)).map (·.1)) =
  some (0, obP2 len n N i true, (stY x len cap n N (IntKind.i64.wrap (i + 1)) true (mul12 (mul12 o o) x)).map fun p => some p.2) := by kernel_rfl
theorem Q_t0 (x : N12) (len cap n : Nat) (N i : Int) (o : N12) : probe EQ 100 cQL (stY x len cap n N i true o) 40 [(17, true), (32, false), (36, true), (38, false)] ((stY x len cap n N (IntKind.i64.wrap (i + 1)) true (mul12 o o)).map (·.1)) =
  some (0, obP2 len n N i false, (stY x len cap n N (IntKind.i64.wrap (i + 1)) true (mul12 o o)).map fun p => some p.2) := by kernel_rfl
theorem Q_f1 (x : N12) (len cap n : Nat) (N i : Int) (o : N12) : probe EQ 100 cQL (stY x len cap n N i false o) 40 [(17, true), (32, false), (36, true), (38, true)] ((stY x len cap n N (IntKind.i64.wrap (i + 1)) true (mul12 o x)).map (·.1)) =
  some (0, obP2 len n N i true, (stY x len cap n N (IntKind.i64.wrap (i + 1)) true (mul12 o x)).map fun p => some p.2) := by kernel_rfl
theorem Q_f0 (x : N12) (len cap n : Nat) (N i : Int) (o : N12) : probe EQ 100 cQL (stY x len cap n N i false o) 40 [(17, true), (32, false), (36, true), (38, false)] ((stY x len cap n N (IntKind.i64.wrap (i + 1)) false o).map (·.1)) =
  some (0, obP2 len n N i false, (stY x len cap n N (IntKind.i64.wrap (i + 1)) false o).map fun p => some p.2) := by kernel_rfl
theorem Q_tail (x : N12) (len cap n : Nat) (N i : Int) (o : N12) : ∀ bg : Bool, probe EQ 100 cQT (stY x len cap n N i bg o) 40 [] (([(8, spt 17), (3, .bl (anyW len n)), (35, bN o)] : St).map (·.1)) = some (1, [], ([(8, spt 17), (3, .bl (anyW len n)), (35, bN o)] : St).map fun p => some p.2)
  | true => by kernel_rfl
  | false => by kernel_rfl
noncomputable def pow12 (x : N12) (m : Nat) : N12 := κ12 (pow (ι12 x) m)
theorem keep_Q (x : N12) (len cap n : Nat) (N i : Int) (o : N12) : ∀ bg : Bool, keepsB (stY x len cap n N i bg o) [1, 16, 17, 22] = true
  | true => by kernel_rfl
  | false => by kernel_rfl
theorem keep_Qo (x : N12) (len cap n : Nat) (N i : Int) : keepsB (stQ x len cap n N i false one72) [1, 16, 17, 22] = true := by kernel_rfl
theorem blk_Q (x : N12) (len cap n : Nat) (N i : Int) (bg : Bool) (o : List It) : ∀ id ∈ [1, 16, 17, 22], ∃ l, (stQ x len cap n N i bg o).blk id = some l := by
  intro id hid
  simp only [List.mem_cons, List.not_mem_nil, or_false] at hid
  rcases hid with rfl | rfl | rfl | rfl <;> exact ⟨_, rfl⟩
theorem blk_B12 (x : N12) (len cap n : Nat) (o : List It) : ∀ id ∈ [1, 16, 17, 22], ∃ l, (stB12 x len cap n o).blk id = some l := by
  intro id hid
  simp only [List.mem_cons, List.not_mem_nil, or_false] at hid
  rcases hid with rfl | rfl | rfl | rfl <;> exact ⟨_, rfl⟩
/-- Has a bit been met? -/
def bgOf (q : Nat) : Bool := !(Nat.beq q 0)
theorem Q_loop {b o : Nat} {w0 : World} {x : N12} {len cap n : Nat} (hlen : len < 4294967296) {Q : Exit → Act → World → Prop}
    (hQ : ∀ bg a w, At 44 (rho1 b o) w0 (stY x len cap n (N64 len) (N64 len) bg (pow12 x (n % pw len))) a w → Q (.exit 0) a w) {a : Act} {w : World}
    (hA : At 44 (rho1 b o) w0 (stY x len cap n (N64 len) 0 false (κ12 1)) a w) : (Code.loop cQL).wp Try.prog Q a w := by
  let m := n % pw len
  have hm : m < 2 ^ (64 * len) := Nat.mod_lt _ (Nat.two_pow_pos _)
  refine loop_rule (w0 := w0) (ρ0 := rho1 b o) (N := 44) (ι := Nat) (fun j => j ≤ 64 * len) (fun j => stY x len cap n (N64 len) (j : Int) (bgOf (m / 2 ^ (64 * len - j))) (κ12 (pow (ι12 x) (m / 2 ^ (64 * len - j))))) (fun j => 64 * len - j) ?_ 0 (Nat.zero_le _) a w ?_
  · intro j hj a w hA
    have hj : j ≤ 64 * len := hj
    by_cases hlt : j < 64 * len
    · have hk : 64 * len - j = 64 * len - 1 - j + 1 := by omega
      have hk2 : 64 * len - (j + 1) = 64 * len - 1 - j := by omega
      have hw : IntKind.i64.wrap ((j : Int) + 1) = ((j + 1 : Nat) : Int) := by rw [wrap_small (by omega) (by omega)]; omega
      have hbit := bit_mod n (len := len) (k := 64 * len - 1 - j) (by omega)
      have hh := half_step m (64 * len - 1 - j)
      rw [hk] at hA
      by_cases hz : m / 2 ^ (64 * len - 1 - j + 1) = 0
      · have hb : bgOf (m / 2 ^ (64 * len - 1 - j + 1)) = false := by rw [hz]; rfl
        rw [hb, hz] at hA
        rcases Nat.mod_two_eq_zero_or_one (m / 2 ^ (64 * len - 1 - j)) with e | e
        · refine At.probe (E := EQ) mixed tyTab_ok callQ (Q_f0 x len cap n _ _ _) (obP2_ok hlen hlt (by rw [hbit]; show m / _ % 2 = 1 ↔ _; rw [e]; exact iff_f (by omega))) hA [1, 16, 17, 22] (blk_Q _ _ _ _ _ _ _ _) (keep_Q _ _ _ _ _ _ _ _) (no_rho1 (by simp)) fun a' w' hA' => ⟨j + 1, by omega, by show 64 * len - (j + 1) < 64 * len - j; omega, ?_⟩
          rw [hw] at hA'
          have h0 : m / 2 ^ (64 * len - 1 - j) = 0 := by omega
          rw [hk2, h0]; exact hA'
        · refine At.probe (E := EQ) mixed tyTab_ok callQ (Q_f1 x len cap n _ _ _) (obP2_ok hlen hlt (by rw [hbit]; show m / _ % 2 = 1 ↔ _; rw [e]; exact iff_t rfl)) hA [1, 16, 17, 22] (blk_Q _ _ _ _ _ _ _ _) (keep_Q _ _ _ _ _ _ _ _) (no_rho1 (by simp)) fun a' w' hA' => ⟨j + 1, by omega, by show 64 * len - (j + 1) < 64 * len - j; omega, ?_⟩
          rw [hw] at hA'
          have h0 : m / 2 ^ (64 * len - 1 - j) = 1 := by omega
          unfold mul12 at hA'
          rw [ικ12, pow_zero, one_mul] at hA'
          rw [hk2, h0, pow_one]; exact hA'
      · have hb : bgOf (m / 2 ^ (64 * len - 1 - j + 1)) = true := by
          unfold bgOf
          have : Nat.beq (m / 2 ^ (64 * len - 1 - j + 1)) 0 = false := by
            cases h : Nat.beq (m / 2 ^ (64 * len - 1 - j + 1)) 0 with
            | false => rfl
            | true => exact absurd (Nat.eq_of_beq_eq_true h) hz
          rw [this]; rfl
        rw [hb] at hA
        have hb2 : bgOf (m / 2 ^ (64 * len - 1 - j)) = true := by
          unfold bgOf
          have : Nat.beq (m / 2 ^ (64 * len - 1 - j)) 0 = false := by
            cases h : Nat.beq (m / 2 ^ (64 * len - 1 - j)) 0 with
            | false => rfl
            | true => have := Nat.eq_of_beq_eq_true h; omega
          rw [this]; rfl
        rcases Nat.mod_two_eq_zero_or_one (m / 2 ^ (64 * len - 1 - j)) with e | e
        · refine At.probe (E := EQ) mixed tyTab_ok callQ (Q_t0 x len cap n _ _ _) (obP2_ok hlen hlt (by rw [hbit]; show m / _ % 2 = 1 ↔ _; rw [e]; exact iff_f (by omega))) hA [1, 16, 17, 22] (blk_Q _ _ _ _ _ _ _ _) (keep_Q _ _ _ _ _ _ _ _) (no_rho1 (by simp)) fun a' w' hA' => ⟨j + 1, by omega, by show 64 * len - (j + 1) < 64 * len - j; omega, ?_⟩
          have hs := pow_step0 (ι12 x) e
          rw [hw] at hA'
          unfold mul12 at hA'
          rw [ικ12, ← hs] at hA'
          rw [hk2, hb2]; exact hA'
        · refine At.probe (E := EQ) mixed tyTab_ok callQ (Q_t1 x len cap n _ _ _) (obP2_ok hlen hlt (by rw [hbit]; show m / _ % 2 = 1 ↔ _; rw [e]; exact iff_t rfl)) hA [1, 16, 17, 22] (blk_Q _ _ _ _ _ _ _ _) (keep_Q _ _ _ _ _ _ _ _) (no_rho1 (by simp)) fun a' w' hA' => ⟨j + 1, by omega, by show 64 * len - (j + 1) < 64 * len - j; omega, ?_⟩
          have hs := pow_step1 (ι12 x) e
          rw [hw] at hA'
          unfold mul12 at hA'
          rw [ικ12, ικ12, ← hs] at hA'
          rw [hk2, hb2]; exact hA'
    · have hj' : j = 64 * len := by omega
      refine At.probe (E := EQ) mixed tyTab_ok callQ (Q_exit x len cap n _ _ _ _) (fun p hp => ?_) hA [1, 16, 17, 22] (blk_Q _ _ _ _ _ _ _ _) (keep_Q _ _ _ _ _ _ _ _) (no_rho1 (by simp)) fun a' w' hA' => ?_
      · rw [List.mem_singleton] at hp
        subst hp
        rw [N64_eq hlen]
        exact iff_f (by omega)
      · refine hQ (bgOf (m / 2 ^ (64 * len - j))) a' w' ?_
        have e1 : ((j : Nat) : Int) = N64 len := by rw [N64_eq hlen, hj']
        have e2 : m / 2 ^ (64 * len - j) = m := by rw [hj', Nat.sub_self, Nat.pow_zero, Nat.div_one]
        rw [e1] at hA'
        rw [e2] at hA' ⊢
        exact hA'
  · have e : m / 2 ^ (64 * len - 0) = 0 := by rw [Nat.sub_zero]; exact Nat.div_eq_of_lt hm
    show At 44 (rho1 b o) w0 (stY x len cap n (N64 len) ((0 : Nat) : Int) (bgOf (m / 2 ^ (64 * len - 0))) (κ12 (pow (ι12 x) (m / 2 ^ (64 * len - 0))))) a w
    rw [e]; exact hA
theorem one72_conc : ∀ ρ vs, conc ρ one72 = some vs → conc ρ ((Nm.toL (κ12 1)).map (It.w 6)) = some vs := by
  intro ρ vs h
  have e6 : words 6 1 = [Value.int .u64 1, .int .u64 0, .int .u64 0, .int .u64 0, .int .u64 0, .int .u64 0] := by kernel_rfl
  have e : conc ρ one72 = some (words 6 1 ++ (List.replicate 11 (words 6 0)).flatten) := by
    rw [e6]
    simp [one72, one12, conc, It.cs, Value.oneCell', List.replicate]
  rw [e] at h
  have e1 : Nm.toL (κ12 1) = [1, 0, 0, 0, 0, 0, 0, 0, 0, 0, 0, 0] := by decide +kernel
  rw [e1]
  cases h
  simp [conc, It.cs, List.replicate]
theorem same_Q (x : N12) (len cap n : Nat) (N i : Int) : ∀ k, match Eng.look (stQ x len cap n N i false one72) k, Eng.look (stY x len cap n N i false (κ12 1)) k with | some c, some c' => SameCt c c' | none, none => True | _, _ => False := by
  intro k
  by_cases e1 : k = 45
  · subst e1; exact one72_conc
  · have f1 : (45 == k) = false := by simp; omega
    have : Eng.look (stQ x len cap n N i false one72) k = Eng.look (stY x len cap n N i false (κ12 1)) k := by
      simp only [stY, stQ, Eng.look, f1]
      rfl
    rw [this]
    split
    · rename_i a b e3 e4; rw [e3] at e4; cases e4; exact SameCt.refl _
    · trivial
    · rename_i h3 h4; cases h5 : Eng.look (stY x len cap n N i false (κ12 1)) k with
      | none => exact h4 h5 h5
      | some c => exact h3 c c h5 h5
theorem fp12_pow (x : N12) : PureS Try.prog 14 (fun s => [wv x, s]) (fun len n => wv (pow12 x (n % pw len))) := by
  intro b o len cap n hlen w hsl
  refine .inr ⟨dQ_ok.enter _ _, ?_⟩
  have hv : vals (rho1 b o) [wN x, ⟨false, [.s 1 0 len cap]⟩] = some [wv x, .slice (some ⟨b, o, none⟩) len cap] := by simp only [vals, val_wN, val_sl1]
  refine (calls_of_at (G := fun xs st => xs = [wN (pow12 x (n % pw len))]) tyTab_ok dQ_ok (mem_rho1 hsl) (by kernel_rfl) hv (by rw [dQ_ntmps]; simp) fun a hA0 => ?_).mono ?_
  · rw [dQ_ntmps] at hA0
    have hA0 : At 44 (rho1 b o) w (inQ x len cap n) a w := hA0
    rw [dQ_ntmps, dQ_results, dQ_chain]
    refine At.probes (E := EQ) mixed tyTab_ok callQ (Q_start x len cap n) (fun p hp => by cases hp) hA0 [1, 16, 17, 22] (blk_B12 _ _ _ _ _) (by kernel_rfl) (no_rho1 (by simp)) fun a1 w1 h1 => ?_
    show Code.wp _ _ _ _ _
    refine wp_seq (wp_seq (At.probe (E := EQ) mixed tyTab_ok callQ (Q_head x len cap n) (fun p hp => by cases hp) h1 [1, 16, 17, 22] (blk_Q _ _ _ _ _ _ _ _) (keep_Qo _ _ _ _ _ _) (no_rho1 (by simp)) fun a' w' hA' => ?_))
    have hA' := hA'.same (same_Q x len cap n (N64 len) 0)
    show Code.wp _ _ _ _ _
    refine wp_block (Q_loop hlen (fun bg a2 w2 h2 => ?_) hA')
    show Code.wp _ _ _ _ _
    refine At.probe (E := EQ) mixed tyTab_ok callQ (Q_tail x len cap n _ _ _ bg) (fun p hp => by cases hp) h2 [1, 17] (fun id hid => by simp only [List.mem_cons, List.not_mem_nil, or_false] at hid; rcases hid with rfl | rfl <;> exact ⟨_, rfl⟩) (by kernel_rfl) (no_rho1 (by simp)) fun a3 w3 h3 => ?_
    exact ⟨.inr rfl, _, [wN (pow12 x (n % pw len))], h3, by kernel_rfl, rfl⟩
  · rintro e w' ⟨v, rfl, xs, st, ρ', hE, hval, hMk, rfl⟩
    refine ⟨v, rfl, ?_, hE.below (no_own1 b o)⟩
    have : (wN (pow12 x (n % pw len))).val ρ' = some v := hval
    rw [val_wN] at this
    cases this; rfl
theorem fp12_pow_nil_run (x : N12) : run1 (tableT rows06) 14 [wN x, ⟨false, [.v (.slice none 0 0)]⟩] [] = some (.one ⟨true, one72⟩, []) := by kernel_rfl
theorem fp12_pow_nil (x : N12) : Pure Try.prog 14 [wv x, .slice none 0 0] (wv (pow12 x 0)) := by
  have hv : vals rho0 [wN x, ⟨false, [.v (.slice none 0 0)]⟩] = some [wv x, .slice none 0 0] := by
    have e : AV.val rho0 ⟨false, [.v (.slice none 0 0)]⟩ = some (.slice none 0 0) := AV.val_v (ρ := rho0) (x := .slice none 0 0) rfl
    simp only [vals, val_wN, e]
  refine pure_of_run1 (tableT_ok rows06_ok) (fp12_pow_nil_run x) (fun p hp => by cases hp) hv fun ρ u hu => ?_
  obtain ⟨vs, h1, h2⟩ := AV.cells (x := ⟨true, one72⟩) (by exact hu)
  have h3 := one72_conc ρ vs h1
  rw [conc_ws] at h3
  rcases h2 with ⟨_, rfl⟩ | ⟨h2, _⟩
  · cases h3; rfl
  · cases h2
theorem fp12_pow_row : CallOk Try.prog (rowSA 14 pow12) := rowSA_ok fp12_pow fp12_pow_nil
end Go.Proofs.Ythceokldlinjlaa
