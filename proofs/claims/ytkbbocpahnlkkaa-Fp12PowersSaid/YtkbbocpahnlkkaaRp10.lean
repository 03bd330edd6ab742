/-
  The document's powers by the bits of a slice of words: sigilref10.Pow.
-/
import Derived.Test.YtkbbocpahnlkkaaBl
import Derived.Test.YtkbbocpahnlkkaaPwB
import Derived.Test.YtkbbocpahnlkkaaRg10
namespace Go.Proofs.Ytkbbocpahnlkkaa
open Go Go.Eng Go.RowKit Go.Wd Go.Alg Go.Pr

theorem ref12_one_run : run1 (tableT rowsG10) 45 [] [] = some (.one ⟨true, one72⟩, []) := by kernel_rfl
theorem ref12_one : Pure Try.prog 45 [] (wv (κ12 1)) := by
  refine pure_of_run1 (tableT_ok rowsG10_ok) ref12_one_run (fun p hp => by cases hp) vals0 fun ρ u hu => ?_
  obtain ⟨vs, h1, h2⟩ := AV.cells (x := ⟨true, one72⟩) (by exact hu)
  have h3 := one72_conc ρ vs h1
  rw [conc_ws] at h3
  rcases h2 with ⟨_, rfl⟩ | ⟨h2, _⟩
  · cases h3; rfl
  · cases h2
noncomputable def rowsH10 : List Row := rowN0 45 (κ12 1) :: rowsG10
theorem rowsH10_ok : ∀ r ∈ rowsH10, RowOk Try.prog r := by
  simp only [rowsH10, List.forall_mem_cons]
  exact ⟨rowN0_ok ref12_one, rowsG10_ok⟩
noncomputable def dQ1 : Fn1 := match fn1 76 with
  | some d => d
  | none => ⟨.skip, [], 0⟩
theorem dQ1_ok : FnOk Try.prog 76 dQ1 := fn1_ok _ _ (by kernel_rfl)
noncomputable def EQ1 : Eng := { tab := tyTab, call := callN tyTab (tableT rowsH10) fn1 1000 6, N := 36 }
set_option maxRecDepth 100000 in
theorem callQ1 : CallOk Try.prog EQ1.call := callN_ok mixed tyTab_ok (tableT_ok rowsH10_ok) fn1_ok 1000 6
noncomputable def cQ1a : Code := seqL dQ1.body
noncomputable def cQ1b : Code := seqL (seqR dQ1.body)
noncomputable def cQ1c : Code := seqL (seqR (seqR dQ1.body))
noncomputable def cQ1d : Code := seqL (seqL (seqR (seqR (seqR dQ1.body))))
noncomputable def cQ1L : Code := loopIn (blockIn (seqR (seqL (seqR (seqR (seqR dQ1.body))))))
noncomputable def cQ1T : Code := seqR (seqR (seqR (seqR dQ1.body)))
theorem dQ1_chain : dQ1.body = chain [cQ1a, cQ1b, cQ1c] (.seq (.seq cQ1d (.block 0 (.loop cQ1L))) cQ1T) := by kernel_rfl
theorem dQ1_ntmps : dQ1.ntmps = 36 := by kernel_rfl
theorem dQ1_results : dQ1.results = [.cell 4 30] := by kernel_rfl
def stQ1 (x : N12) (len cap n : Nat) (i : Int) (s : Bool × N12) : St := [(2, sS 1 len cap), (4, spt 16), (8, spt 17), (10, spt 19), (12, .sl (vB s.1)), (14, sI i), (3, .bl (anyW len n)), (33, bN x), (35, bN zero12), (39, bN s.2)]
def stQ1B (x : N12) (len cap n : Nat) (o : N12) : St := [(2, sS 1 len cap), (4, spt 16), (8, spt 17), (10, spt 19), (12, .sl (vB false)), (3, .bl (anyW len n)), (33, bN x), (35, bN zero12), (39, bN o)]
noncomputable def inQ1 (x : N12) (len cap n : Nat) : St := initSlots 0 [wN x, ⟨false, [.s 1 0 len cap]⟩] (36 - [wN x, (⟨false, [.s 1 0 len cap]⟩ : AV)].length) ++ mem1 len n
def iT (len : Nat) : Int := IntKind.i64.wrap (N64 len - 1)
theorem iT_eq {len : Nat} (h : len < 4294967296) : iT len = ((64 * len : Nat) : Int) - 1 := by
  unfold iT
  rw [N64_eq h, wrap_small (by omega) (by omega)]
theorem Q1_start (x : N12) (len cap n : Nat) : probes EQ1 100 [cQ1a, cQ1b, cQ1c] (inQ1 x len cap n) 16 [] ((stQ1B x len cap n (κ12 1)).map (·.1)) = some (0, [], (stQ1B x len cap n (κ12 1)).map fun p => some p.2) := by kernel_rfl
theorem Q1_head (x : N12) (len cap n : Nat) (o : N12) : probe EQ1 100 cQ1d (stQ1B x len cap n o) 40 [] ((stQ1 x len cap n (iT len) (false, o)).map (·.1)) = some (0, [], (stQ1 x len cap n (iT len) (false, o)).map fun p => some p.2) := by kernel_rfl
theorem Q1_exit (x : N12) (len cap n : Nat) (i : Int) : ∀ s, probe EQ1 100 cQ1L (stQ1 x len cap n i s) 40 [(14, false)] ((stQ1 x len cap n i s).map (·.1)) = some (2, [i ≥ 0 ↔ false = true], (stQ1 x len cap n i s).map fun p => some p.2)
  | (true, o) => by kernel_rfl
  | (false, o) => by kernel_rfl
noncomputable def fQ1 (s : Bool × N12) : Bool × N12 := match s with
  | (true, o) => (true, mul12 o o)
  | (false, o) => (false, o)
noncomputable def gQ1 (x : N12) (s : Bool × N12) : Bool × N12 := (true, mul12 s.2 x)
theorem Q1_zero (x : N12) (len cap n : Nat) (i : Int) : ∀ s, probe EQ1 100 cQ1L (stQ1 x len cap n i s) 40 [(14, true), (24, false), (29, true), (31, false)] ((stQ1 x len cap n (IntKind.i64.wrap (i - 1)) (fQ1 s)).map (·.1)) =
    some (0, obW len n i false, (stQ1 x len cap n (IntKind.i64.wrap (i - 1)) (fQ1 s)).map fun p => some p.2)
  | (true, o) => by kernel_rfl
  | (false, o) => by kernel_rfl
theorem Q1_one (x : N12) (len cap n : Nat) (i : Int) : ∀ s, probe EQ1 100 cQ1L (stQ1 x len cap n i s) 40 [(14, true), (24, false), (29, true), (31, true)] ((stQ1 x len cap n (IntKind.i64.wrap (i - 1)) (gQ1 x (fQ1 s))).map (·.1)) =
    some (0, obW len n i true, (stQ1 x len cap n (IntKind.i64.wrap (i - 1)) (gQ1 x (fQ1 s))).map fun p => some p.2)
  | (true, o) => by kernel_rfl
  | (false, o) => by kernel_rfl
theorem Q1_tail (x : N12) (len cap n : Nat) (i : Int) : ∀ s, probe EQ1 100 cQ1T (stQ1 x len cap n i s) 40 [] (([(8, spt 17), (3, .bl (anyW len n)), (35, bN s.2)] : St).map (·.1)) = some (1, [], ([(8, spt 17), (3, .bl (anyW len n)), (35, bN s.2)] : St).map fun p => some p.2)
  | (true, o) => by kernel_rfl
  | (false, o) => by kernel_rfl
theorem keep_Q1 (x : N12) (len cap n : Nat) (i : Int) : ∀ s, keepsB (stQ1 x len cap n i s) [1, 16, 17, 19] = true
  | (true, o) => by kernel_rfl
  | (false, o) => by kernel_rfl
theorem blk_Q1 (x : N12) (len cap n : Nat) (i : Int) (s : Bool × N12) : ∀ id ∈ [1, 16, 17, 19], ∃ l, (stQ1 x len cap n i s).blk id = some l := by
  intro id hid
  simp only [List.mem_cons, List.not_mem_nil, or_false] at hid
  rcases hid with rfl | rfl | rfl | rfl <;> exact ⟨_, rfl⟩
theorem blk_Q1B (x : N12) (len cap n : Nat) (o : N12) : ∀ id ∈ [1, 16, 17, 19], ∃ l, (stQ1B x len cap n o).blk id = some l := by
  intro id hid
  simp only [List.mem_cons, List.not_mem_nil, or_false] at hid
  rcases hid with rfl | rfl | rfl | rfl <;> exact ⟨_, rfl⟩
/-- What holds of the state: the power so far; before the first bit that is 1 it is 1. -/
def IQ1 (z : F12) (m : Nat) (j : Nat) (s : Bool × N12) : Prop := s.2 = κ12 (pow z (m / 2 ^ j)) ∧ (s.1 = false → m / 2 ^ j = 0)
theorem ref12_pow (x : N12) : PureS Try.prog 76 (fun s => [wv x, s]) (fun len n => wv (pow12 x (n % pw len))) := by
  intro b o len cap n hlen w hsl
  refine .inr ⟨dQ1_ok.enter _ _, ?_⟩
  have hv : vals (rho1 b o) [wN x, ⟨false, [.s 1 0 len cap]⟩] = some [wv x, .slice (some ⟨b, o, none⟩) len cap] := by simp only [vals, val_wN, val_sl1]
  refine (calls_of_at (G := fun xs st => xs = [wN (pow12 x (n % pw len))]) tyTab_ok dQ1_ok (mem_rho1 hsl) (by kernel_rfl) hv (by rw [dQ1_ntmps]; simp) fun a hA0 => ?_).mono ?_
  · rw [dQ1_ntmps] at hA0
    have hA0 : At 36 (rho1 b o) w (inQ1 x len cap n) a w := hA0
    rw [dQ1_ntmps, dQ1_results, dQ1_chain]
    refine At.probes (E := EQ1) mixed tyTab_ok callQ1 (Q1_start x len cap n) (fun p hp => by cases hp) hA0 [1, 16, 17, 19] (blk_Q1B _ _ _ _ _) (by kernel_rfl) (no_rho1 (by simp)) fun a1 w1 h1 => ?_
    show Code.wp _ _ _ _ _
    refine wp_seq (wp_seq (At.probe (E := EQ1) mixed tyTab_ok callQ1 (Q1_head x len cap n (κ12 1)) (fun p hp => by cases hp) h1 [1, 16, 17, 19] (blk_Q1 _ _ _ _ _ _) (keep_Q1 _ _ _ _ _ _) (no_rho1 (by simp)) fun a' w' hA' => ?_))
    rw [iT_eq hlen] at hA'
    show Code.wp _ _ _ _ _
    have hm : n % pw len < 2 ^ (64 * len) := Nat.mod_lt _ (Nat.two_pow_pos _)
    refine wp_block (bit_loop (E := EQ1) tyTab_ok callQ1 (stQ1 x len cap n) [1, 16, 17, 19] (by simp) (keep_Q1 x len cap n) (blk_Q1 x len cap n) hlen fQ1 (gQ1 x) (IQ1 (ι12 x) (n % pw len))
      (Q1_exit x len cap n) (obW len n) (fun j b hj hb => obW_ok hlen hj hb) (Q1_zero x len cap n) (Q1_one x len cap n) ?_ ?_ (fun s a2 w2 hI h2 => ?_) ?_ hA')
    · rintro j ⟨bg, o⟩ hj ⟨e1, e2⟩ e
      simp only at e1 e2
      have hh := half_step (n % pw len) j
      subst e1
      cases bg with
      | true =>
        refine ⟨?_, fun h => by cases h⟩
        show mul12 _ _ = _
        unfold mul12
        rw [ικ12, ← pow_step0 (ι12 x) e]
      | false =>
        have h0 := e2 rfl
        have h1 : n % pw len / 2 ^ j = 0 := by omega
        refine ⟨?_, fun _ => h1⟩
        show κ12 _ = _
        rw [h0, h1]
    · rintro j ⟨bg, o⟩ hj ⟨e1, e2⟩ e
      simp only at e1 e2
      have hh := half_step (n % pw len) j
      subst e1
      refine ⟨?_, fun h => by cases h⟩
      cases bg with
      | true =>
        show mul12 (mul12 _ _) x = _
        unfold mul12
        rw [ικ12, ικ12, ← pow_step1 (ι12 x) e]
      | false =>
        have h0 := e2 rfl
        have h1 : n % pw len / 2 ^ j = 1 := by omega
        show mul12 (κ12 (pow (ι12 x) _)) x = _
        unfold mul12
        rw [ικ12, h0, h1, pow_zero, one_mul, pow_one]
    · have e3 : s.2 = pow12 x (n % pw len) := by
        have := hI.1
        rwa [Nat.pow_zero, Nat.div_one] at this
      show Code.wp _ _ _ _ _
      refine At.probe (E := EQ1) mixed tyTab_ok callQ1 (Q1_tail x len cap n _ s) (fun p hp => by cases hp) h2 [1, 17] (fun id hid => by simp only [List.mem_cons, List.not_mem_nil, or_false] at hid; rcases hid with rfl | rfl <;> exact ⟨_, rfl⟩) (by kernel_rfl) (no_rho1 (by simp)) fun a3 w3 h3 => ?_
      rw [e3] at h3
      exact ⟨.inr rfl, _, [wN (pow12 x (n % pw len))], h3, by kernel_rfl, rfl⟩
    · have e : n % pw len / 2 ^ (64 * len) = 0 := Nat.div_eq_of_lt hm
      refine ⟨?_, fun _ => e⟩
      show κ12 1 = _
      rw [e]; rfl
  · rintro e w' ⟨v, rfl, xs, st, ρ', hE, hval, hMk, rfl⟩
    refine ⟨v, rfl, ?_, hE.below (no_own1 b o)⟩
    have : (wN (pow12 x (n % pw len))).val ρ' = some v := hval
    rw [val_wN] at this
    cases this; rfl
theorem ref12_pow_nil_run (x : N12) : run1 (tableT rowsH10) 76 [wN x, ⟨false, [.v (.slice none 0 0)]⟩] [] = some (.one (wN (κ12 1)), []) := by kernel_rfl
theorem ref12_pow_nil (x : N12) : Pure Try.prog 76 [wv x, .slice none 0 0] (wv (pow12 x 0)) := by
  have hv : vals rho0 [wN x, ⟨false, [.v (.slice none 0 0)]⟩] = some [wv x, .slice none 0 0] := by
    have e : AV.val rho0 ⟨false, [.v (.slice none 0 0)]⟩ = some (.slice none 0 0) := AV.val_v (ρ := rho0) (x := .slice none 0 0) rfl
    simp only [vals, val_wN, e]
  exact pureN_of_run (tableT_ok rowsH10_ok) (ref12_pow_nil_run x) (fun p hp => by cases hp) hv rfl
theorem ref12_pow_row : CallOk Try.prog (rowSA 76 pow12) := rowSA_ok ref12_pow ref12_pow_nil
end Go.Proofs.Ytkbbocpahnlkkaa
