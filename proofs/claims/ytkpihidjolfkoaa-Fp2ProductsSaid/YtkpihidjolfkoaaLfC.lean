/-
  Leaves, 12: fp.Inv: the walk.
-/
import Derived.Test.YtkpihidjolfkoaaLfB
namespace Go.Proofs.Ytkpihidjolfkoaa
open Go Go.Eng Go.RowKit Go.Wd

theorem dI0_chain4 : dI0.body = chain [cB1, cB2, cB3, cB4] (.seq cB5 (.block 0 (.loop cBL))) := dI0_body
theorem dI0_chain5 : dI0.body = chain [cB1, cB2, cB3, cB4, cB5] (.block 0 (.loop cBL)) := dI0_body
theorem res_stR (r : Nat) : resultsOf tyTab (stR r) [.cell 2 24] = some [W6 r] := by kernel_rfl
theorem no_rho0 (l : List Nat) : ∀ id q, rho0 id = some q → id ∈ l := fun id q h => by cases h
theorem keep_stR (r : Nat) : keepsB (stR r) [17] = true := by kernel_rfl
theorem keep_stI (u v x y : Nat) : keepsB (stI u v x y) [17, 21, 22, 27, 28, 35] = true := by kernel_rfl
theorem keep_stI3 (u v x y : Nat) : keepsB (stI3 u v x y) [17, 21, 22, 27, 28, 35] = true := by kernel_rfl
theorem keep_stI4 (u v x y : Nat) : keepsB (stI4 u v x y) [17, 21, 22, 27, 28, 35] = true := by kernel_rfl
theorem keep_stS (u v : Nat) : keepsB (stB 0 u v oneL 0 oneL) [17, 21, 22, 27, 28, 35] = true := by kernel_rfl
theorem blk_stR (r : Nat) : ∀ id ∈ [17], ∃ l, (stR r).blk id = some l := by
  intro id hid
  simp only [List.mem_cons, List.not_mem_nil, or_false] at hid
  subst hid
  exact ⟨_, rfl⟩
theorem blk_stB (r u v : Nat) (x : List It) (y : Nat) (o : List It) : ∀ id ∈ [17, 21, 22, 27, 28, 35], ∃ l, (stB r u v x y o).blk id = some l := by
  intro id hid
  simp only [List.mem_cons, List.not_mem_nil, or_false] at hid
  rcases hid with rfl | rfl | rfl | rfl | rfl | rfl <;> exact ⟨_, rfl⟩
theorem w6_iff (n m : Nat) : plainVals [.w 6 n] = plainVals [.w 6 m] ↔ n % M6 = m % M6 := by
  simp only [plainVals, List.append_nil]
  constructor
  · intro h; exact words_inj h
  · intro h; rw [← words_mod 6 n, ← words_mod 6 m]; unfold M6 at h; rw [h]
theorem oneO_iff {n : Nat} (h : n < M6) (b : Bool) : oneO n b ↔ (n = 1 ↔ b = true) := by
  have hp : pN < M6 := pN_lt
  have h1 : 1 < M6 := by have := one_mod; have := pN_odd; have := pN_pos; omega
  unfold oneO
  rw [w6_iff, Nat.mod_eq_of_lt h, Nat.mod_eq_of_lt h1]
theorem zeroO_iff (a : Nat) (b : Bool) : zeroO a b ↔ (rd a = 0 ↔ b = true) := by
  have hp : pN < M6 := pN_lt
  have := rd_lt a
  unfold zeroO
  rw [w6_iff, Nat.mod_eq_of_lt (Nat.lt_trans this hp), Nat.zero_mod]
theorem cmpI_ge (a b : Nat) : cmpI a b ≥ 0 ↔ b ≤ a := by
  rcases Nat.lt_trichotomy a b with h | h | h
  · rw [cmpI_lt h]; omega
  · rw [h, cmpI_eq]; omega
  · rw [cmpI_gt h]; omega
theorem loopI {a : Nat} {w0 : World} {Q : Exit → Act → World → Prop} (hQ : ∀ r a' w, IsInv a r → At 47 rho0 w0 (stR r) a' w → Q .ret a' w) {u v x y : Nat} (hI : InvI a u v x y) {b : Act} {w : World} (hA : At 47 rho0 w0 (stI u v x y) b w) : (Code.loop cBL).wp Try.prog Q b w := by
  refine loop_rule (ι := Nat × Nat × Nat × Nat) (fun p => InvI a p.1 p.2.1 p.2.2.1 p.2.2.2) (fun p => stI p.1 p.2.1 p.2.2.1 p.2.2.2) (fun p => p.1 + p.2.1) ?_ (u, v, x, y) hI b w hA
  rintro ⟨u, v, x, y⟩ hI b w hA
  have hI : InvI a u v x y := hI
  have hA : At 47 rho0 w0 (stI u v x y) b w := hA
  have eu := evN_spec hI.upos hI.ult hI.xlt hI.us
  have ev' := evN_spec hI.vpos hI.vlt hI.ylt hI.vs
  have hp : pN < M6 := pN_lt
  have lu : (evN u x).1 < M6 := Nat.lt_of_le_of_lt eu.le hI.ult
  have lv : (evN v y).1 < M6 := Nat.lt_of_le_of_lt ev'.le hI.vlt
  have hev : ∀ q ∈ evO u x v y, q := by
    intro q hq
    simp only [evO, List.mem_cons, List.not_mem_nil, or_false] at hq
    rcases hq with rfl | rfl
    · exact ⟨hI.upos, hI.ult, Nat.lt_trans hI.xlt hp⟩
    · exact ⟨hI.vpos, hI.vlt, Nat.lt_trans hI.ylt hp⟩
  by_cases h1 : (evN u x).1 = 1
  · refine At.probe (E := EB 0) mixed (tabB 0) (callB 0) (inv1 u v x y) (fun q hq => ?_) hA [17] (blk_stR _) (keep_stR _) (no_rho0 _) fun a' w' hA' => hQ _ a' w' (isInv_of_std (h1 ▸ eu.std) eu.lt) hA'
    rcases List.mem_append.1 hq with hq | hq
    · exact hev q hq
    · simp only [List.mem_cons, List.not_mem_nil, or_false] at hq
      subst hq; rw [oneO_iff lu]; simp [h1]
  · have o1 : oneO (evN u x).1 false := by rw [oneO_iff lu]; simp [h1]
    by_cases h2 : (evN v y).1 = 1
    · refine At.probe (E := EB 0) mixed (tabB 0) (callB 0) (inv2 u v x y) (fun q hq => ?_) hA [17] (blk_stR _) (keep_stR _) (no_rho0 _) fun a' w' hA' => hQ _ a' w' (isInv_of_std (h2 ▸ ev'.std) ev'.lt) hA'
      rcases List.mem_append.1 hq with hq | hq
      · exact hev q hq
      · simp only [List.mem_cons, List.not_mem_nil, or_false] at hq
        rcases hq with rfl | rfl
        · exact o1
        · rw [oneO_iff lv]; simp [h2]
    · have o2 : oneO (evN v y).1 false := by rw [oneO_iff lv]; simp [h2]
      by_cases h3 : (evN v y).1 ≤ (evN u x).1
      · obtain ⟨k1, k2⟩ := hI.gt h1 h3
        refine At.probe (E := EB 0) mixed (tabB 0) (callB 0) (inv3 u v x y) (fun q hq => ?_) hA [17, 21, 22, 27, 28, 35] (blk_stB _ _ _ _ _ _) (keep_stI3 _ _ _ _) (no_rho0 _) fun a' w' hA' => ⟨((evN u x).1 - (evN v y).1, (evN v y).1, subN (evN u x).2 (evN v y).2, (evN v y).2), k1, k2, hA'⟩
        simp only [List.mem_append, cmpO, List.mem_cons, List.not_mem_nil, or_false] at hq
        rcases hq with ((hq | rfl | rfl) | rfl | rfl) | rfl
        · exact hev q hq
        · exact o1
        · exact o2
        · exact ⟨lu, lv⟩
        · rw [cmpI_ge]; simp [h3]
        · exact ⟨lu, h3⟩
      · obtain ⟨k1, k2⟩ := hI.lt (Nat.lt_of_not_le h3)
        refine At.probe (E := EB 0) mixed (tabB 0) (callB 0) (inv4 u v x y) (fun q hq => ?_) hA [17, 21, 22, 27, 28, 35] (blk_stB _ _ _ _ _ _) (keep_stI4 _ _ _ _) (no_rho0 _) fun a' w' hA' => ⟨((evN u x).1, (evN v y).1 - (evN u x).1, (evN u x).2, subN (evN v y).2 (evN u x).2), k1, k2, hA'⟩
        simp only [List.mem_append, cmpO, List.mem_cons, List.not_mem_nil, or_false] at hq
        rcases hq with ((hq | rfl | rfl) | rfl | rfl) | rfl
        · exact hev q hq
        · exact o1
        · exact o2
        · exact ⟨lu, lv⟩
        · rw [cmpI_ge]; simp [h3]
        · exact ⟨lv, Nat.le_of_lt (Nat.lt_of_not_le h3)⟩
theorem one_words : ∀ ρ vs, conc ρ oneL = some vs → conc ρ [.w 6 1] = some vs := by
  intro ρ vs h
  have : conc ρ ([Value.int .u64 1, .int .u64 0, .int .u64 0, .int .u64 0, .int .u64 0, .int .u64 0].map It.v) = some [Value.int .u64 1, .int .u64 0, .int .u64 0, .int .u64 0, .int .u64 0, .int .u64 0] := val_plain ρ _ (by intro v hv; simp only [List.mem_cons, List.not_mem_nil, or_false] at hv; rcases hv with rfl | rfl | rfl | rfl | rfl | rfl <;> rfl)
  rw [show oneL = [Value.int .u64 1, .int .u64 0, .int .u64 0, .int .u64 0, .int .u64 0, .int .u64 0].map It.v from rfl, this] at h
  cases h
  have e : words 6 1 = [Value.int .u64 1, .int .u64 0, .int .u64 0, .int .u64 0, .int .u64 0, .int .u64 0] := by kernel_rfl
  simp [conc, It.cs, e]
theorem same_start (u v : Nat) : ∀ k, match Eng.look (stB 0 u v oneL 0 oneL) k, Eng.look (stI u v 1 0) k with | some c, some c' => SameCt c c' | none, none => True | _, _ => False := by
  intro k
  by_cases e1 : k = 55
  · subst e1; exact one_words
  · by_cases e2 : k = 71
    · subst e2; exact one_words
    · have f1 : (55 == k) = false := by simp; omega
      have f2 : (71 == k) = false := by simp; omega
      have : Eng.look (stB 0 u v oneL 0 oneL) k = Eng.look (stI u v 1 0) k := by
        simp only [stI, stB, Eng.look, f1, f2]
        rfl
      rw [this]
      split
      · rename_i a b e3 e4; rw [e3] at e4; cases e4; exact SameCt.refl _
      · trivial
      · rename_i h3 h4; cases h5 : Eng.look (stI u v 1 0) k with
        | none => exact h4 h5 h5
        | some c => exact h3 c c h5 h5
theorem inv_pure (a : Nat) (hg : rd a = 0 ∨ Nat.gcd (rd a) pN = 1) : Pure Try.prog 66 [.agg (words 6 a).toArray] (.agg (words 6 (invN a)).toArray) := by
  intro w
  refine .inr ⟨dI0_ok.enter _ _, ?_⟩
  have hv : vals rho0 [W6 a] = some [.agg (words 6 a).toArray] := by simp only [vals, val_W6]
  refine (calls_of_at (G := fun xs st => xs = [W6 (invN a)]) tyTab_ok dI0_ok (mem_rho0 w) (by kernel_rfl) hv (by rw [dI0_ntmps]; simp) fun b hA0 => ?_).mono ?_
  · rw [dI0_ntmps] at hA0
    have hA0 : At 47 rho0 w (inB a) b w := hA0
    rw [dI0_ntmps, dI0_results]
    by_cases h0 : rd a = 0
    · rw [dI0_chain4]
      refine At.probes (E := EB pN) mixed (tabB pN) (callB pN) (invZ a pN) (fun q hq => ?_) hA0 [17] (blk_stR _) (keep_stR _) (no_rho0 _) fun a' w' hA' => ?_
      · simp only [List.mem_cons, List.not_mem_nil, or_false] at hq
        rcases hq with rfl | rfl
        · trivial
        · rw [zeroO_iff]; simp [h0]
      · rw [h0] at hA'
        refine ⟨.inr rfl, stR 0, [W6 0], hA', res_stR 0, ?_⟩
        rw [invN_zero h0]
    · have hg' : Nat.gcd (rd a) pN = 1 := hg.resolve_left h0
      rw [dI0_chain5]
      refine At.probes (E := EB pN) mixed (tabB pN) (callB pN) (invS a pN) (fun q hq => ?_) hA0 [17, 21, 22, 27, 28, 35] (blk_stB _ _ _ _ _ _) (keep_stS _ _) (no_rho0 _) fun a' w' hA' => ?_
      · simp only [List.mem_cons, List.not_mem_nil, or_false] at hq
        rcases hq with rfl | rfl
        · trivial
        · rw [zeroO_iff]; simp [h0]
      · show Code.wp _ _ _ _ _
        refine wp_block (loopI (a := rd a) (fun r a3 w3 hr h3 => ?_) (invI_start h0 hg') (hA'.same (same_start _ _)))
        refine ⟨.inr rfl, stR r, [W6 r], h3, res_stR r, ?_⟩
        rw [invN_eq hr]
  · rintro e w' ⟨v, rfl, xs, st, ρ', hE, hval, hMk, rfl⟩
    refine ⟨v, rfl, ?_, hE.below fun b ⟨id, _, hq⟩ => by cases hq⟩
    have : (W6 (invN a)).val ρ' = some v := hval
    rw [val_W6] at this
    cases this; rfl
end Go.Proofs.Ytkpihidjolfkoaa
