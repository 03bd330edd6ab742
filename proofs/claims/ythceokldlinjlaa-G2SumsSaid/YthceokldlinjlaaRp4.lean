/-
  The document's powers by the bits of a slice of words: sigilref04.Pow.
-/
import Derived.Test.YthceokldlinjlaaPx
import Derived.Test.YthceokldlinjlaaRd
namespace Go.Proofs.Ythceokldlinjlaa
open Go Go.Eng Go.RowKit Go.Wd Go.Alg Go.Pr

noncomputable def rowsM4 : List Row := [rowN2 85 mulF]
theorem rowsM4_ok : ∀ r ∈ rowsM4, RowOk Try.prog r := by
  simp only [rowsM4, List.forall_mem_cons, List.not_mem_nil, false_imp_iff, implies_true, and_true]
  exact rowN2_ok rMul
abbrev κF (z : F) : Nat := z.val
/-- The bit at place k, as the document takes it. -/
def bitU (n : Nat) (k : Int) : Int := Eng.bits .and .u64 ((bitV.word64 n (0 + (IntKind.i64.wrap (k.tdiv 64)).toNat * 1)).fdiv (2 ^ min (IntKind.u64.wrap (k.tmod 64)).toNat IntKind.u64.bits)) 1
theorem wtmod64 (k : Nat) : IntKind.u64.wrap ((k : Int).tmod 64) = ((k % 64 : Nat) : Int) := by
  rw [tmod64]; exact wrap_nat (by omega)
theorem bitU_eq (n : Nat) {k : Nat} (hk : k < 9223372036854775808) : bitU n (k : Int) = ((n / 2 ^ k % 2 : Nat) : Int) := by
  have h := bitV_eq n hk
  unfold bitV at h
  unfold bitU
  rw [wtmod64]
  rw [tmod64] at h
  exact h
def powF (x : Nat) (m : Nat) : Nat := κF (pow (φ x) m)
noncomputable def dR4 : Fn1 := match fn1 144 with
  | some d => d
  | none => ⟨.skip, [], 0⟩
theorem dR4_ok : FnOk Try.prog 144 dR4 := fn1_ok _ _ (by kernel_rfl)
noncomputable def ER4 : Eng := { tab := tyTab, call := callN tyTab (tableT rowsM4) fn1 1000 6, N := 34 }
set_option maxRecDepth 100000 in
theorem callR4 : CallOk Try.prog ER4.call := callN_ok mixed tyTab_ok (tableT_ok rowsM4_ok) fn1_ok 1000 6
noncomputable def cR4a : Code := seqL dR4.body
noncomputable def cR4b : Code := seqL (seqR dR4.body)
noncomputable def cR4c : Code := seqL (seqL (seqR (seqR dR4.body)))
noncomputable def cR4L : Code := loopIn (blockIn (seqR (seqL (seqR (seqR dR4.body)))))
noncomputable def cR4T : Code := seqR (seqR (seqR dR4.body))
theorem dR4_body : dR4.body = .seq cR4a (.seq cR4b (.seq (.seq cR4c (.block 0 (.loop cR4L))) cR4T)) := by kernel_rfl
theorem dR4_chain : dR4.body = chain [cR4a, cR4b] (.seq (.seq cR4c (.block 0 (.loop cR4L))) cR4T) := dR4_body
theorem dR4_ntmps : dR4.ntmps = 34 := by kernel_rfl
theorem dR4_results : dR4.results = [.cell 4 24] := by kernel_rfl
def stR4 (x : Nat) (len cap n : Nat) (i : Int) (out : List It) : St := [(2, sS 1 len cap), (4, spt 16), (8, spt 17), (10, spt 19), (12, sI i), (3, .bl (anyW len n)), (33, bN x), (35, bN (0 : Nat)), (39, .bl out)]
def stR4B (x : Nat) (len cap n : Nat) (out : List It) : St := [(2, sS 1 len cap), (4, spt 16), (8, spt 17), (10, spt 19), (3, .bl (anyW len n)), (33, bN x), (35, bN (0 : Nat)), (39, .bl out)]
def stR4X (x : Nat) (len cap n : Nat) (i : Int) (o : Nat) : St := stR4 x len cap n i ((Nm.toL o).map (It.w 6))
noncomputable def inR4 (x : Nat) (len cap n : Nat) : St := initSlots 0 [wN x, ⟨false, [.s 1 0 len cap]⟩] (34 - [wN x, (⟨false, [.s 1 0 len cap]⟩ : AV)].length) ++ mem1 len n
def iR40 (len : Nat) : Int := IntKind.i64.wrap (N64 len - 1)
theorem R4_start (x : Nat) (len cap n : Nat) : probes ER4 100 [cR4a, cR4b] (inR4 x len cap n) 16 [] ((stR4B x len cap n oneF).map (·.1)) = some (0, [], (stR4B x len cap n oneF).map fun p => some p.2) := by kernel_rfl
theorem R4_head (x : Nat) (len cap n : Nat) : probe ER4 100 cR4c (stR4B x len cap n oneF) 40 [] ((stR4 x len cap n (iR40 len) oneF).map (·.1)) = some (0, [], (stR4 x len cap n (iR40 len) oneF).map fun p => some p.2) := by kernel_rfl
theorem R4_exit (x : Nat) (len cap n : Nat) (i : Int) (o : Nat) : probe ER4 100 cR4L (stR4X x len cap n i o) 40 [(13, false)] ((stR4X x len cap n i o).map (·.1)) = some (2, [i ≥ 0 ↔ false = true], (stR4X x len cap n i o).map fun p => some p.2) := by kernel_rfl
def obR4 (len n : Nat) (i : Int) (b : Bool) : List Prop := [i ≥ 0 ↔ true = true, 0 ≤ IntKind.i64.wrap (i.tdiv 64) ∧ IntKind.i64.wrap (i.tdiv 64) < (len : Int), 0 + (IntKind.i64.wrap (i.tdiv 64)).toNat * 1 < len, 0 ≤ IntKind.u64.wrap (i.tmod 64), bitU n i = 1 ↔ b = true]
theorem R4_one (x : Nat) (len cap n : Nat) (i : Int) (o : Nat) : probe ER4 100 cR4L (stR4X x len cap n i o) 40 [(13, true), (22, false), (27, true), (29, true)] ((stR4X x len cap n (IntKind.i64.wrap (i - 1)) (mulF (mulF o o) x)).map (·.1)) =
  some (0, obR4 len n i true, (stR4X x len cap n (IntKind.i64.wrap (i - 1)) (mulF (mulF o o) x)).map fun p => some p.2) := by kernel_rfl
theorem R4_zero (x : Nat) (len cap n : Nat) (i : Int) (o : Nat) : probe ER4 100 cR4L (stR4X x len cap n i o) 40 [(13, true), (22, false), (27, true), (29, false)] ((stR4X x len cap n (IntKind.i64.wrap (i - 1)) (mulF o o)).map (·.1)) =
  some (0, obR4 len n i false, (stR4X x len cap n (IntKind.i64.wrap (i - 1)) (mulF o o)).map fun p => some p.2) := by kernel_rfl
theorem R4_tail (x : Nat) (len cap n : Nat) (i : Int) (o : Nat) : probe ER4 100 cR4T (stR4X x len cap n i o) 40 [] (([(8, spt 17), (3, .bl (anyW len n)), (35, bN o)] : St).map (·.1)) = some (1, [], ([(8, spt 17), (3, .bl (anyW len n)), (35, bN o)] : St).map fun p => some p.2) := by kernel_rfl
theorem obR4_ok {len n j : Nat} (h : len < 4294967296) (hj : j < 64 * len) {b : Bool} (hb : n / 2 ^ j % 2 = 1 ↔ b = true) : ∀ p ∈ obR4 len n (j : Int) b, p := by
  intro p hp
  unfold obR4 at hp
  rw [wtdiv64 (by omega), wtmod64, bitU_eq _ (by omega)] at hp
  rcases List.mem_cons.1 hp with rfl | hp
  · exact ⟨fun _ => rfl, fun _ => by omega⟩
  rcases List.mem_cons.1 hp with rfl | hp
  · omega
  rcases List.mem_cons.1 hp with rfl | hp
  · rw [Int.toNat_natCast]; omega
  rcases List.mem_cons.1 hp with rfl | hp
  · omega
  rcases List.mem_cons.1 hp with rfl | hp
  · rw [← hb]; omega
  · cases hp
theorem keep_R4 (x : Nat) (len cap n : Nat) (i : Int) (o : Nat) : keepsB (stR4X x len cap n i o) [1, 16, 17, 19] = true := by kernel_rfl
theorem keep_R4o (x : Nat) (len cap n : Nat) (i : Int) : keepsB (stR4 x len cap n i oneF) [1, 16, 17, 19] = true := by kernel_rfl
theorem keep_R4B (x : Nat) (len cap n : Nat) : keepsB (stR4B x len cap n oneF) [1, 16, 17, 19] = true := by kernel_rfl
theorem blk_R4 (x : Nat) (len cap n : Nat) (i : Int) (o : List It) : ∀ id ∈ [1, 16, 17, 19], ∃ l, (stR4 x len cap n i o).blk id = some l := by
  intro id hid
  simp only [List.mem_cons, List.not_mem_nil, or_false] at hid
  rcases hid with rfl | rfl | rfl | rfl <;> exact ⟨_, rfl⟩
theorem blk_R4B (x : Nat) (len cap n : Nat) (o : List It) : ∀ id ∈ [1, 16, 17, 19], ∃ l, (stR4B x len cap n o).blk id = some l := by
  intro id hid
  simp only [List.mem_cons, List.not_mem_nil, or_false] at hid
  rcases hid with rfl | rfl | rfl | rfl <;> exact ⟨_, rfl⟩
theorem R4_loop {b o : Nat} {w0 : World} {x : Nat} {len cap n : Nat} (hlen : len < 4294967296) {Q : Exit → Act → World → Prop}
    (hQ : ∀ i a w, At 34 (rho1 b o) w0 (stR4X x len cap n i (powF x (n % pw len))) a w → Q (.exit 0) a w) {a : Act} {w : World}
    (hA : At 34 (rho1 b o) w0 (stR4X x len cap n (((64 * len : Nat) : Int) - 1) (κF 1)) a w) : (Code.loop cR4L).wp Try.prog Q a w := by
  let m := n % pw len
  have hm : m < 2 ^ (64 * len) := Nat.mod_lt _ (Nat.two_pow_pos _)
  refine loop_rule (w0 := w0) (ρ0 := rho1 b o) (N := 34) (ι := Nat) (fun j => j ≤ 64 * len) (fun j => stR4X x len cap n ((j : Int) - 1) (κF (pow (φ x) (m / 2 ^ j)))) (fun j => j) ?_ (64 * len) (Nat.le_refl _) a w ?_
  · intro j hj a w hA
    have hj : j ≤ 64 * len := hj
    rcases Nat.eq_zero_or_pos j with h0 | hpos
    · subst h0
      refine At.probe (E := ER4) mixed tyTab_ok callR4 (R4_exit x len cap n _ _) (fun p hp => ?_) hA [1, 16, 17, 19] (blk_R4 _ _ _ _ _ _) (keep_R4 _ _ _ _ _ _) (no_rho1 (by simp)) fun a' w' hA' => ?_
      · rw [List.mem_singleton] at hp
        subst hp
        exact iff_f (by omega)
      · refine hQ (((0 : Nat) : Int) - 1) a' w' ?_
        have e2 : m / 2 ^ 0 = m := by rw [Nat.pow_zero, Nat.div_one]
        rw [e2] at hA'
        exact hA'
    · obtain ⟨k, rfl⟩ : ∃ k, j = k + 1 := ⟨j - 1, by omega⟩
      have ei : ((k + 1 : Nat) : Int) - 1 = (k : Int) := by omega
      rw [ei] at hA
      have hw : IntKind.i64.wrap ((k : Int) - 1) = (k : Int) - 1 := wrap_small (by omega) (by omega)
      have hbit := bit_mod n (len := len) (k := k) (by omega)
      rcases Nat.mod_two_eq_zero_or_one (m / 2 ^ k) with e | e
      · refine At.probe (E := ER4) mixed tyTab_ok callR4 (R4_zero x len cap n _ _) (obR4_ok hlen (by omega) (by rw [hbit]; show m / _ % 2 = 1 ↔ _; rw [e]; exact iff_f (by omega))) hA [1, 16, 17, 19] (blk_R4 _ _ _ _ _ _) (keep_R4 _ _ _ _ _ _) (no_rho1 (by simp)) fun a' w' hA' => ⟨k, by omega, by omega, ?_⟩
        have hs := pow_step0 (φ x) e
        rw [hw] at hA'
        unfold mulF at hA'
        rw [φ_val, ← hs] at hA'
        exact hA'
      · refine At.probe (E := ER4) mixed tyTab_ok callR4 (R4_one x len cap n _ _) (obR4_ok hlen (by omega) (by rw [hbit]; show m / _ % 2 = 1 ↔ _; rw [e]; exact iff_t rfl)) hA [1, 16, 17, 19] (blk_R4 _ _ _ _ _ _) (keep_R4 _ _ _ _ _ _) (no_rho1 (by simp)) fun a' w' hA' => ⟨k, by omega, by omega, ?_⟩
        have hs := pow_step1 (φ x) e
        rw [hw] at hA'
        unfold mulF at hA'
        rw [φ_val, φ_val, ← hs] at hA'
        exact hA'
  · have e : m / 2 ^ (64 * len) = 0 := Nat.div_eq_of_lt hm
    show At 34 (rho1 b o) w0 (stR4X x len cap n (((64 * len : Nat) : Int) - 1) (κF (pow (φ x) (m / 2 ^ (64 * len))))) a w
    rw [e]; exact hA
theorem same_R4 (x : Nat) (len cap n : Nat) (i : Int) : ∀ k, match Eng.look (stR4 x len cap n i oneF) k, Eng.look (stR4X x len cap n i (κF 1)) k with | some c, some c' => SameCt c c' | none, none => True | _, _ => False := by
  intro k
  by_cases e1 : k = 39
  · subst e1; exact oneF_conc
  · have f1 : (39 == k) = false := by simp; omega
    have : Eng.look (stR4 x len cap n i oneF) k = Eng.look (stR4X x len cap n i (κF 1)) k := by
      simp only [stR4X, stR4, Eng.look, f1]
      rfl
    rw [this]
    split
    · rename_i a b e3 e4; rw [e3] at e4; cases e4; exact SameCt.refl _
    · trivial
    · rename_i h3 h4; cases h5 : Eng.look (stR4X x len cap n i (κF 1)) k with
      | none => exact h4 h5 h5
      | some c => exact h3 c c h5 h5
theorem iR40_eq {len : Nat} (h : len < 4294967296) : iR40 len = ((64 * len : Nat) : Int) - 1 := by
  unfold iR40
  rw [N64_eq h, wrap_small (by omega) (by omega)]
theorem R4_pow (x : Nat) : PureS Try.prog 144 (fun s => [wv x, s]) (fun len n => wv (powF x (n % pw len))) := by
  intro b o len cap n hlen w hsl
  refine .inr ⟨dR4_ok.enter _ _, ?_⟩
  have hv : vals (rho1 b o) [wN x, ⟨false, [.s 1 0 len cap]⟩] = some [wv x, .slice (some ⟨b, o, none⟩) len cap] := by simp only [vals, val_wN, val_sl1]
  refine (calls_of_at (G := fun xs st => xs = [wN (powF x (n % pw len))]) tyTab_ok dR4_ok (mem_rho1 hsl) (by kernel_rfl) hv (by rw [dR4_ntmps]; simp) fun a hA0 => ?_).mono ?_
  · rw [dR4_ntmps] at hA0
    have hA0 : At 34 (rho1 b o) w (inR4 x len cap n) a w := hA0
    rw [dR4_ntmps, dR4_results, dR4_chain]
    refine At.probes (E := ER4) mixed tyTab_ok callR4 (R4_start x len cap n) (fun p hp => by cases hp) hA0 [1, 16, 17, 19] (blk_R4B _ _ _ _ _) (keep_R4B _ _ _ _) (no_rho1 (by simp)) fun a1 w1 h1 => ?_
    show Code.wp _ _ _ _ _
    refine wp_seq (wp_seq (At.probe (E := ER4) mixed tyTab_ok callR4 (R4_head x len cap n) (fun p hp => by cases hp) h1 [1, 16, 17, 19] (blk_R4 _ _ _ _ _ _) (keep_R4o _ _ _ _ _) (no_rho1 (by simp)) fun a' w' hA' => ?_))
    have hA' := hA'.same (same_R4 x len cap n (iR40 len))
    rw [iR40_eq hlen] at hA'
    show Code.wp _ _ _ _ _
    refine wp_block (R4_loop (x := x) (n := n) hlen (fun i a2 w2 h2 => ?_) hA')
    show Code.wp _ _ _ _ _
    refine At.probe (E := ER4) mixed tyTab_ok callR4 (R4_tail x len cap n i _) (fun p hp => by cases hp) h2 [1, 17] (fun id hid => by simp only [List.mem_cons, List.not_mem_nil, or_false] at hid; rcases hid with rfl | rfl <;> exact ⟨_, rfl⟩) (by kernel_rfl) (no_rho1 (by simp)) fun a3 w3 h3 => ?_
    exact ⟨.inr rfl, _, [wN (powF x (n % pw len))], h3, by kernel_rfl, rfl⟩
  · rintro e w' ⟨v, rfl, xs, st, ρ', hE, hval, hMk, rfl⟩
    refine ⟨v, rfl, ?_, hE.below (no_own1 b o)⟩
    have : (wN (powF x (n % pw len))).val ρ' = some v := hval
    rw [val_wN] at this
    cases this; rfl
theorem R4_nil_run (x : Nat) : run1 (tableT rowsM4) 144 [wN x, ⟨false, [.v (.slice none 0 0)]⟩] [] = some (.one ⟨true, oneF⟩, []) := by kernel_rfl
theorem R4_nil (x : Nat) : Pure Try.prog 144 [wv x, .slice none 0 0] (wv (powF x 0)) := by
  have hv : vals rho0 [wN x, ⟨false, [.v (.slice none 0 0)]⟩] = some [wv x, .slice none 0 0] := by
    have e : AV.val rho0 ⟨false, [.v (.slice none 0 0)]⟩ = some (.slice none 0 0) := AV.val_v (ρ := rho0) (x := .slice none 0 0) rfl
    simp only [vals, val_wN, e]
  refine pure_of_run1 (tableT_ok rowsM4_ok) (R4_nil_run x) (fun p hp => by cases hp) hv fun ρ u hu => ?_
  obtain ⟨vs, h1, h2⟩ := AV.cells (x := ⟨true, oneF⟩) (by exact hu)
  have h3 := oneF_conc ρ vs h1
  rw [conc_ws] at h3
  rcases h2 with ⟨_, rfl⟩ | ⟨h2, _⟩
  · cases h3; rfl
  · cases h2
theorem R4_row : CallOk Try.prog (rowSA 144 powF) := rowSA_ok R4_pow R4_nil
end Go.Proofs.Ythceokldlinjlaa
