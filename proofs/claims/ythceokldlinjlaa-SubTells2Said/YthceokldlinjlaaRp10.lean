/-
  The document's powers by the bits of a slice of words: sigilref07.Pow.
-/
import Derived.Test.YthceokldlinjlaaPx
import Derived.Test.YthceokldlinjlaaRj
import Derived.Test.YthceokldlinjlaaBl
import Derived.Test.YthceokldlinjlaaPwB
namespace Go.Proofs.Ythceokldlinjlaa
open Go Go.Eng Go.RowKit Go.Wd Go.Alg Go.Pr

noncomputable def dR7 : Fn1 := match fn1 78 with
  | some d => d
  | none => ⟨.skip, [], 0⟩
theorem dR7_ok : FnOk Try.prog 78 dR7 := fn1_ok _ _ (by kernel_rfl)
noncomputable def ER7 : Eng := { tab := tyTab, call := callN tyTab (tableT rowsG7) fn1 1000 6, N := 35 }
set_option maxRecDepth 100000 in
theorem callR7 : CallOk Try.prog ER7.call := callN_ok mixed tyTab_ok (tableT_ok rowsG7_ok) fn1_ok 1000 6
noncomputable def cR7a : Code := seqL dR7.body
noncomputable def cR7b : Code := seqL (seqR dR7.body)
noncomputable def cR7c : Code := seqL (seqL (seqR (seqR dR7.body)))
noncomputable def cR7L : Code := loopIn (blockIn (seqR (seqL (seqR (seqR dR7.body)))))
noncomputable def cR7T : Code := seqR (seqR (seqR dR7.body))
theorem dR7_body : dR7.body = .seq cR7a (.seq cR7b (.seq (.seq cR7c (.block 0 (.loop cR7L))) cR7T)) := by kernel_rfl
theorem dR7_chain : dR7.body = chain [cR7a, cR7b] (.seq (.seq cR7c (.block 0 (.loop cR7L))) cR7T) := dR7_body
theorem dR7_ntmps : dR7.ntmps = 35 := by kernel_rfl
theorem dR7_results : dR7.results = [.cell 4 26] := by kernel_rfl
def stR7 (x : N2) (len cap n : Nat) (i : Int) (out : List It) : St := [(2, sS 1 len cap), (4, spt 16), (8, spt 17), (10, spt 20), (12, sI i), (3, .bl (anyW len n)), (33, bN x), (35, bN ((0, 0) : N2)), (41, .bl out)]
def stR7B (x : N2) (len cap n : Nat) (out : List It) : St := [(2, sS 1 len cap), (4, spt 16), (8, spt 17), (10, spt 20), (3, .bl (anyW len n)), (33, bN x), (35, bN ((0, 0) : N2)), (41, .bl out)]
def stR7X (x : N2) (len cap n : Nat) (i : Int) (o : N2) : St := stR7 x len cap n i ((Nm.toL o).map (It.w 6))
noncomputable def inR7 (x : N2) (len cap n : Nat) : St := initSlots 0 [wN x, ⟨false, [.s 1 0 len cap]⟩] (35 - [wN x, (⟨false, [.s 1 0 len cap]⟩ : AV)].length) ++ mem1 len n
def iR70 (len : Nat) : Int := IntKind.i64.wrap (N64 len - 1)
theorem R7_start (x : N2) (len cap n : Nat) : probes ER7 100 [cR7a, cR7b] (inR7 x len cap n) 16 [] ((stR7B x len cap n one12).map (·.1)) = some (0, [], (stR7B x len cap n one12).map fun p => some p.2) := by kernel_rfl
theorem R7_head (x : N2) (len cap n : Nat) : probe ER7 100 cR7c (stR7B x len cap n one12) 40 [] ((stR7 x len cap n (iR70 len) one12).map (·.1)) = some (0, [], (stR7 x len cap n (iR70 len) one12).map fun p => some p.2) := by kernel_rfl
theorem R7_exit (x : N2) (len cap n : Nat) (i : Int) (o : N2) : probe ER7 100 cR7L (stR7X x len cap n i o) 40 [(14, false)] ((stR7X x len cap n i o).map (·.1)) = some (2, [i ≥ 0 ↔ false = true], (stR7X x len cap n i o).map fun p => some p.2) := by kernel_rfl
def obR7 (len n : Nat) (i : Int) (b : Bool) : List Prop := [i ≥ 0 ↔ true = true, 0 ≤ IntKind.i64.wrap (i.tdiv 64) ∧ IntKind.i64.wrap (i.tdiv 64) < (len : Int), 0 + (IntKind.i64.wrap (i.tdiv 64)).toNat * 1 < len, 0 ≤ IntKind.u64.wrap (i.tmod 64), bitU n i = 1 ↔ b = true]
theorem R7_one (x : N2) (len cap n : Nat) (i : Int) (o : N2) : probe ER7 100 cR7L (stR7X x len cap n i o) 40 [(14, true), (23, false), (28, true), (30, true)] ((stR7X x len cap n (IntKind.i64.wrap (i - 1)) (mul2 (mul2 o o) x)).map (·.1)) =
  some (0, obR7 len n i true, (stR7X x len cap n (IntKind.i64.wrap (i - 1)) (mul2 (mul2 o o) x)).map fun p => some p.2) := by kernel_rfl
theorem R7_zero (x : N2) (len cap n : Nat) (i : Int) (o : N2) : probe ER7 100 cR7L (stR7X x len cap n i o) 40 [(14, true), (23, false), (28, true), (30, false)] ((stR7X x len cap n (IntKind.i64.wrap (i - 1)) (mul2 o o)).map (·.1)) =
  some (0, obR7 len n i false, (stR7X x len cap n (IntKind.i64.wrap (i - 1)) (mul2 o o)).map fun p => some p.2) := by kernel_rfl
theorem R7_tail (x : N2) (len cap n : Nat) (i : Int) (o : N2) : probe ER7 100 cR7T (stR7X x len cap n i o) 40 [] (([(8, spt 17), (3, .bl (anyW len n)), (35, bN o)] : St).map (·.1)) = some (1, [], ([(8, spt 17), (3, .bl (anyW len n)), (35, bN o)] : St).map fun p => some p.2) := by kernel_rfl
theorem obR7_ok {len n j : Nat} (h : len < 4294967296) (hj : j < 64 * len) {b : Bool} (hb : n / 2 ^ j % 2 = 1 ↔ b = true) : ∀ p ∈ obR7 len n (j : Int) b, p := by
  intro p hp
  unfold obR7 at hp
  rw [wtdiv64 (by omega), wtmod64, bitU_eq _ (by omega)] at hp
  rcases List.mem_cons.1 hp with rfl | hp
  · exact ⟨fun _ => rfl, fun _ => by omega⟩
  rcases List.mem_cons.1 hp with rfl | hp
  · omega
  rcases List.mem_cons.1 hp with rfl | hp
  · rw [Int.toNat_natCast]; omega
  rcases List.mem_cons.1 hp with rfl | hp
  · omega
  rcases List.mem_cons.1 hp with rfl | hp
  · rw [← hb]; omega
  · cases hp
theorem keep_R7 (x : N2) (len cap n : Nat) (i : Int) (o : N2) : keepsB (stR7X x len cap n i o) [1, 16, 17, 20] = true := by kernel_rfl
theorem keep_R7o (x : N2) (len cap n : Nat) (i : Int) : keepsB (stR7 x len cap n i one12) [1, 16, 17, 20] = true := by kernel_rfl
theorem keep_R7B (x : N2) (len cap n : Nat) : keepsB (stR7B x len cap n one12) [1, 16, 17, 20] = true := by kernel_rfl
theorem blk_R7 (x : N2) (len cap n : Nat) (i : Int) (o : List It) : ∀ id ∈ [1, 16, 17, 20], ∃ l, (stR7 x len cap n i o).blk id = some l := by
  intro id hid
  simp only [List.mem_cons, List.not_mem_nil, or_false] at hid
  rcases hid with rfl | rfl | rfl | rfl <;> exact ⟨_, rfl⟩
theorem blk_R7B (x : N2) (len cap n : Nat) (o : List It) : ∀ id ∈ [1, 16, 17, 20], ∃ l, (stR7B x len cap n o).blk id = some l := by
  intro id hid
  simp only [List.mem_cons, List.not_mem_nil, or_false] at hid
  rcases hid with rfl | rfl | rfl | rfl <;> exact ⟨_, rfl⟩
theorem R7_loop {b o : Nat} {w0 : World} {x : N2} {len cap n : Nat} (hlen : len < 4294967296) {Q : Exit → Act → World → Prop}
    (hQ : ∀ i a w, At 35 (rho1 b o) w0 (stR7X x len cap n i (pow2 x (n % pw len))) a w → Q (.exit 0) a w) {a : Act} {w : World}
    (hA : At 35 (rho1 b o) w0 (stR7X x len cap n (((64 * len : Nat) : Int) - 1) (κ2 1)) a w) : (Code.loop cR7L).wp Try.prog Q a w := by
  let m := n % pw len
  have hm : m < 2 ^ (64 * len) := Nat.mod_lt _ (Nat.two_pow_pos _)
  refine loop_rule (w0 := w0) (ρ0 := rho1 b o) (N := 35) (ι := Nat) (fun j => j ≤ 64 * len) (fun j => stR7X x len cap n ((j : Int) - 1) (κ2 (pow (ι2 x) (m / 2 ^ j)))) (fun j => j) ?_ (64 * len) (Nat.le_refl _) a w ?_
  · intro j hj a w hA
    have hj : j ≤ 64 * len := hj
    rcases Nat.eq_zero_or_pos j with h0 | hpos
    · subst h0
      refine At.probe (E := ER7) mixed tyTab_ok callR7 (R7_exit x len cap n _ _) (fun p hp => ?_) hA [1, 16, 17, 20] (blk_R7 _ _ _ _ _ _) (keep_R7 _ _ _ _ _ _) (no_rho1 (by simp)) fun a' w' hA' => ?_
      · rw [List.mem_singleton] at hp
        subst hp
        exact iff_f (by omega)
      · refine hQ (((0 : Nat) : Int) - 1) a' w' ?_
        have e2 : m / 2 ^ 0 = m := by rw [Nat.pow_zero, Nat.div_one]
        rw [e2] at hA'
        exact hA'
    · obtain ⟨k, rfl⟩ : ∃ k, j = k + 1 := ⟨j - 1, by omega⟩
      have ei : ((k + 1 : Nat) : Int) - 1 = (k : Int) := by omega
      rw [ei] at hA
      have hw : IntKind.i64.wrap ((k : Int) - 1) = (k : Int) - 1 := wrap_small (by omega) (by omega)
      have hbit := bit_mod n (len := len) (k := k) (by omega)
      rcases Nat.mod_two_eq_zero_or_one (m / 2 ^ k) with e | e
      · refine At.probe (E := ER7) mixed tyTab_ok callR7 (R7_zero x len cap n _ _) (obR7_ok hlen (by omega) (by rw [hbit]; show m / _ % 2 = 1 ↔ _; rw [e]; exact iff_f (by omega))) hA [1, 16, 17, 20] (blk_R7 _ _ _ _ _ _) (keep_R7 _ _ _ _ _ _) (no_rho1 (by simp)) fun a' w' hA' => ⟨k, by omega, by omega, ?_⟩
        have hs := pow_step0 (ι2 x) e
        rw [hw] at hA'
        unfold mul2 at hA'
        rw [ικ2, ← hs] at hA'
        exact hA'
      · refine At.probe (E := ER7) mixed tyTab_ok callR7 (R7_one x len cap n _ _) (obR7_ok hlen (by omega) (by rw [hbit]; show m / _ % 2 = 1 ↔ _; rw [e]; exact iff_t rfl)) hA [1, 16, 17, 20] (blk_R7 _ _ _ _ _ _) (keep_R7 _ _ _ _ _ _) (no_rho1 (by simp)) fun a' w' hA' => ⟨k, by omega, by omega, ?_⟩
        have hs := pow_step1 (ι2 x) e
        rw [hw] at hA'
        unfold mul2 at hA'
        rw [ικ2, ικ2, ← hs] at hA'
        exact hA'
  · have e : m / 2 ^ (64 * len) = 0 := Nat.div_eq_of_lt hm
    show At 35 (rho1 b o) w0 (stR7X x len cap n (((64 * len : Nat) : Int) - 1) (κ2 (pow (ι2 x) (m / 2 ^ (64 * len))))) a w
    rw [e]; exact hA

theorem same_R7 (x : N2) (len cap n : Nat) (i : Int) : ∀ k, match Eng.look (stR7 x len cap n i one12) k, Eng.look (stR7X x len cap n i (κ2 1)) k with | some c, some c' => SameCt c c' | none, none => True | _, _ => False := by
  intro k
  by_cases e1 : k = 41
  · subst e1; exact one12_conc
  · have f1 : (41 == k) = false := by simp; omega
    have : Eng.look (stR7 x len cap n i one12) k = Eng.look (stR7X x len cap n i (κ2 1)) k := by
      simp only [stR7X, stR7, Eng.look, f1]
      rfl
    rw [this]
    split
    · rename_i a b e3 e4; rw [e3] at e4; cases e4; exact SameCt.refl _
    · trivial
    · rename_i h3 h4; cases h5 : Eng.look (stR7X x len cap n i (κ2 1)) k with
      | none => exact h4 h5 h5
      | some c => exact h3 c c h5 h5
theorem iR70_eq {len : Nat} (h : len < 4294967296) : iR70 len = ((64 * len : Nat) : Int) - 1 := by
  unfold iR70
  rw [N64_eq h, wrap_small (by omega) (by omega)]
theorem R7_pow (x : N2) : PureS Try.prog 78 (fun s => [wv x, s]) (fun len n => wv (pow2 x (n % pw len))) := by
  intro b o len cap n hlen w hsl
  refine .inr ⟨dR7_ok.enter _ _, ?_⟩
  have hv : vals (rho1 b o) [wN x, ⟨false, [.s 1 0 len cap]⟩] = some [wv x, .slice (some ⟨b, o, none⟩) len cap] := by simp only [vals, val_wN, val_sl1]
  refine (calls_of_at (G := fun xs st => xs = [wN (pow2 x (n % pw len))]) tyTab_ok dR7_ok (mem_rho1 hsl) (by kernel_rfl) hv (by rw [dR7_ntmps]; simp) fun a hA0 => ?_).mono ?_
  · rw [dR7_ntmps] at hA0
    have hA0 : At 35 (rho1 b o) w (inR7 x len cap n) a w := hA0
    rw [dR7_ntmps, dR7_results, dR7_chain]
    refine At.probes (E := ER7) mixed tyTab_ok callR7 (R7_start x len cap n) (fun p hp => by cases hp) hA0 [1, 16, 17, 20] (blk_R7B _ _ _ _ _) (keep_R7B _ _ _ _) (no_rho1 (by simp)) fun a1 w1 h1 => ?_
    show Code.wp _ _ _ _ _
    refine wp_seq (wp_seq (At.probe (E := ER7) mixed tyTab_ok callR7 (R7_head x len cap n) (fun p hp => by cases hp) h1 [1, 16, 17, 20] (blk_R7 _ _ _ _ _ _) (keep_R7o _ _ _ _ _) (no_rho1 (by simp)) fun a' w' hA' => ?_))
    have hA' := hA'.same (same_R7 x len cap n (iR70 len))
    rw [iR70_eq hlen] at hA'
    show Code.wp _ _ _ _ _
    refine wp_block (R7_loop (x := x) (n := n) hlen (fun i a2 w2 h2 => ?_) hA')
    show Code.wp _ _ _ _ _
    refine At.probe (E := ER7) mixed tyTab_ok callR7 (R7_tail x len cap n i _) (fun p hp => by cases hp) h2 [1, 17] (fun id hid => by simp only [List.mem_cons, List.not_mem_nil, or_false] at hid; rcases hid with rfl | rfl <;> exact ⟨_, rfl⟩) (by kernel_rfl) (no_rho1 (by simp)) fun a3 w3 h3 => ?_
    exact ⟨.inr rfl, _, [wN (pow2 x (n % pw len))], h3, by kernel_rfl, rfl⟩
  · rintro e w' ⟨v, rfl, xs, st, ρ', hE, hval, hMk, rfl⟩
    refine ⟨v, rfl, ?_, hE.below (no_own1 b o)⟩
    have : (wN (pow2 x (n % pw len))).val ρ' = some v := hval
    rw [val_wN] at this
    cases this; rfl
theorem R7_nil_run (x : N2) : run1 (tableT rowsG7) 78 [wN x, ⟨false, [.v (.slice none 0 0)]⟩] [] = some (.one ⟨true, one12⟩, []) := by kernel_rfl
theorem R7_nil (x : N2) : Pure Try.prog 78 [wv x, .slice none 0 0] (wv (pow2 x 0)) := by
  have hv : vals rho0 [wN x, ⟨false, [.v (.slice none 0 0)]⟩] = some [wv x, .slice none 0 0] := by
    have e : AV.val rho0 ⟨false, [.v (.slice none 0 0)]⟩ = some (.slice none 0 0) := AV.val_v (ρ := rho0) (x := .slice none 0 0) rfl
    simp only [vals, val_wN, e]
  refine pure_of_run1 (tableT_ok rowsG7_ok) (R7_nil_run x) (fun p hp => by cases hp) hv fun ρ u hu => ?_
  obtain ⟨vs, h1, h2⟩ := AV.cells (x := ⟨true, one12⟩) (by exact hu)
  have h3 := one12_conc ρ vs h1
  rw [conc_ws] at h3
  rcases h2 with ⟨_, rfl⟩ | ⟨h2, _⟩
  · cases h3; rfl
  · cases h2
theorem R7_row : CallOk Try.prog (rowSA 78 pow2) := rowSA_ok R7_pow R7_nil
end Go.Proofs.Ythceokldlinjlaa
