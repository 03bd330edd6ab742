/-
  Leaves, 6: the inner step of Montgomery's product, joined.
-/
import Derived.Test.YtkpihidjolfkoaaLf5
namespace Go.Proofs.Ytkpihidjolfkoaa
open Go Go.Eng Go.RowKit Go.Wd

/-! ### the loop -/
def cN (x m c t : Nat) : Nat := x * m / 18446744073709551616 + (x * m % 18446744073709551616 + c + 0) / 18446744073709551616 + (t + lo1 x m c + 0) / 18446744073709551616
theorem mul_le_B {x m : Nat} (hx : x < 18446744073709551616) (hm : m < 18446744073709551616) : x * m ≤ 340282366920938463426481119284349108225 := by
  have : x * m ≤ 18446744073709551615 * 18446744073709551615 := Nat.mul_le_mul (by omega) (by omega)
  omega
theorem tc_sum (x m c t : Nat) : tN x m c t + cN x m c t * 18446744073709551616 = t + x * m + c := by
  unfold tN cN lo1
  generalize x * m = y
  omega
theorem cN_lt {x m c t : Nat} (hx : x < 18446744073709551616) (hm : m < 18446744073709551616) (hc : c < 18446744073709551616) (ht : t < 18446744073709551616) : cN x m c t < 18446744073709551616 := by
  have h := tc_sum x m c t
  have h2 := mul_le_B hx hm
  generalize x * m = y at *
  omega
theorem cI_eq {x m c t : Nat} (hx : x < 18446744073709551616) (hm : m < 18446744073709551616) (hc : c < 18446744073709551616) (ht : t < 18446744073709551616) : cI x m c t = ((cN x m c t : Nat) : Int) := by
  have h := cN_lt hx hm hc ht
  unfold cI
  unfold cN at h ⊢
  rw [← Int.natCast_add, wrap_nat (by omega), ← Int.natCast_add, wrap_nat h]
theorem tN_lt (x m c t : Nat) : tN x m c t < 18446744073709551616 := Nat.mod_lt _ (by decide)
def updN (t : Nat → Nat) (i v : Nat) : Nat → Nat := fun j => if j = i then v else t j
theorem updI_eq (t : Nat → Nat) (i v : Nat) : updI t i v = fun j => ((updN t i v j : Nat) : Int) := rfl
theorem num_upd (t : Nat → Nat) (v i : Nat) : ∀ k, i < k → num (updN t i v) k + t i * pw i = num t k + v * pw i := by
  intro k
  induction k with
  | zero => intro h; omega
  | succ k ih =>
    intro h
    by_cases e : i = k
    · subst e
      have : num (updN t i v) i = num t i := num_congr i fun j hj => by unfold updN; rw [if_neg (by omega)]
      simp only [num, this]
      unfold updN
      rw [if_pos rfl]; omega
    · have := ih (by omega)
      simp only [num]
      have h2 : updN t i v k = t k := by unfold updN; rw [if_neg (by omega)]
      rw [h2]; omega
structure InvS (x M T i : Nat) (t : Nat → Nat) (c : Nat) : Prop where
  lt : ∀ j, t j < 18446744073709551616
  clt : c < 18446744073709551616
  ile : i ≤ 6
  sum : num t 8 + c * pw i = T % pw 8 + x * (M % pw i)
theorem InvS.next {x M T i : Nat} {t : Nat → Nat} {c : Nat} (h : InvS x M T i t c) (hx : x < 18446744073709551616) (hi : i < 6) : InvS x M T (i + 1) (updN t i (tN x (dg M i) c (t i))) (cN x (dg M i) c (t i)) := by
  refine ⟨fun j => ?_, cN_lt hx (dg_lt _ _) h.clt (h.lt i), by omega, ?_⟩
  · unfold updN; split
    · exact tN_lt _ _ _ _
    · exact h.lt j
  · have h1 := num_upd t (tN x (dg M i) c (t i)) i 8 (by omega)
    have h2 := tc_sum x (dg M i) c (t i)
    have h3 := h.sum
    have h4 : M % pw (i + 1) = M % pw i + pw i * dg M i := by
      rw [pw_succ, Nat.mod_mul]; unfold dg; rw [two64]
    rw [h4, pw_succ]
    have h5 : (tN x (dg M i) c (t i) + cN x (dg M i) c (t i) * 18446744073709551616) * pw i = (t i + x * dg M i + c) * pw i := by rw [h2]
    rw [Nat.add_mul, Nat.add_mul, Nat.add_mul, Nat.mul_assoc, Nat.mul_comm 18446744073709551616 (pw i)] at h5
    rw [Nat.mul_add, show x * (pw i * dg M i) = x * dg M i * pw i by rw [Nat.mul_comm (pw i), Nat.mul_assoc]]
    omega
theorem obS_ok {x m c t : Nat} (hx : x < 18446744073709551616) (hm : m < 18446744073709551616) : ∀ q ∈ obS x m c t, q := by
  intro q hq
  simp only [obS, List.mem_cons, List.not_mem_nil, or_false] at hq
  rcases hq with rfl | rfl | rfl <;> omega
theorem tab5 : ∀ t d, E5.tab t = some d → TyOk Try.prog t d := tyTab_ok
theorem call5 : CallOk Try.prog E5.call := callN_ok mixed tyTab_ok (tableT_ok rows5_ok) fn1_ok 1000 6
theorem in2 {A B : List It} {st : St} (h1 : st.blk 16 = some A) (h2 : st.blk 17 = some B) : ∀ id ∈ [16, 17], ∃ l, st.blk id = some l := by
  intro id hid
  simp only [List.mem_cons, List.not_mem_nil, or_false] at hid
  rcases hid with rfl | rfl
  · exact ⟨A, h1⟩
  · exact ⟨B, h2⟩
theorem dom2 (b1 b2 : Nat) : ∀ id q, rho2 b1 b2 id = some q → id ∈ [16, 17] := by
  intro id q hq
  unfold rho2 at hq
  split at hq
  · rename_i e; simp [e]
  · split at hq
    · rename_i e; simp [e]
    · cases hq
theorem keeps_stS (x s M i : Nat) (t : Nat → Int) (c : Int) : keepsB (stS x s M i t c) [16, 17] = true := by kernel_rfl
theorem keeps_end (M : Nat) (t : Nat → Int) : keepsB (endSt M t) [16, 17] = true := by kernel_rfl
theorem loopS {x s M T : Nat} (hx : x < 18446744073709551616) {b1 b2 : Nat} {w0 : World} {Q : Exit → Act → World → Prop} (hQ : ∀ t c a w, InvS x M T 6 t c → At 70 (rho2 b1 b2) w0 (stS x s M 6 (fun j => (t j : Int)) c) a w → Q (.exit 0) a w)
    {t : Nat → Nat} {c : Nat} (hI : InvS x M T 0 t c) {a : Act} {w : World} (hA : At 70 (rho2 b1 b2) w0 (stS x s M 0 (fun j => (t j : Int)) c) a w) : (Code.loop cSL).wp Try.prog Q a w := by
  refine loop_rule (ι := Nat × (Nat → Nat) × Nat) (fun p => InvS x M T p.1 p.2.1 p.2.2) (fun p => stS x s M p.1 (fun j => (p.2.1 j : Int)) p.2.2) (fun p => 7 - p.1) ?_ (0, t, c) hI a w hA
  rintro ⟨i, t, c⟩ hI a w hA
  have hI : InvS x M T i t c := hI
  have hA : At 70 (rho2 b1 b2) w0 (stS x s M i (fun j => (t j : Int)) c) a w := hA
  by_cases hi : i < 6
  · refine At.probe (E := E5) mixed tab5 call5 (stepAt x s M i hi t c) (obS_ok hx (dg_lt _ _)) hA [16, 17] (in2 rfl rfl) (keeps_stS _ _ _ _ _ _) (dom2 b1 b2) fun a' w' hA' => ?_
    rw [updI_eq, cI_eq hx (dg_lt _ _) hI.clt (hI.lt i)] at hA'
    exact ⟨(i + 1, updN t i (tN x (dg M i) c (t i)), cN x (dg M i) c (t i)), hI.next hx hi, by show 7 - (i + 1) < 7 - i; omega, hA'⟩
  · have : i = 6 := by have := hI.ile; omega
    subst this
    exact At.probe (E := E5) mixed tab5 call5 (step6 x s M t c) (fun q hq => by cases hq) hA [16, 17] (in2 rfl rfl) (keeps_stS _ _ _ _ _ _) (dom2 b1 b2) fun a' w' hA' => hQ t c a' w' hI hA'

/-! ### the whole -/
/-- What the step makes of T. -/
def stepV (T x M s : Nat) : Nat := (T % pw 8 + x * (M % pw 6)) % pw 8 / pw s
def endN (t : Nat → Nat) (c : Nat) (j : Nat) : Nat := if j < 6 then t j else if j = 6 then (t 6 + c) % 18446744073709551616 else (t 7 + (t 6 + c) / 18446744073709551616) % 18446744073709551616
theorem endT_eq (t : Nat → Nat) (c j : Nat) (_ : j < 8) : endT t c j = ((endN t c j : Nat) : Int) := by
  unfold endT endN
  by_cases h : j < 6
  · rw [if_pos h, if_pos h]
  · rw [if_neg h, if_neg h]
    by_cases h6 : j = 6
    · rw [if_pos h6, if_pos h6, Nat.add_zero]
    · rw [if_neg h6, if_neg h6, ← Int.natCast_add, wrap_mod, Nat.add_zero]
theorem endN_lt {t : Nat → Nat} (ht : ∀ j, t j < 18446744073709551616) (c j : Nat) : endN t c j < 18446744073709551616 := by
  unfold endN
  split
  · exact ht j
  · split <;> exact Nat.mod_lt _ (by decide)
theorem carry_key (n t6 t7 c P B : Nat) (_ : 0 < B) : n + t6 * P + t7 * (P * B) + c * P = n + (t6 + c) % B * P + (t7 + (t6 + c) / B) % B * (P * B) + (t7 + (t6 + c) / B) / B * (P * B * B) := by
  have h1 := Nat.div_add_mod (t6 + c) B
  have h2 := Nat.div_add_mod (t7 + (t6 + c) / B) B
  generalize (t7 + (t6 + c) / B) / B = q2 at *
  generalize (t7 + (t6 + c) / B) % B = r2 at *
  generalize (t6 + c) / B = q at *
  generalize (t6 + c) % B = r at *
  grind
theorem num_end {x M T : Nat} {t : Nat → Nat} {c : Nat} (h : InvS x M T 6 t c) : num (endN t c) 8 = (T % pw 8 + x * (M % pw 6)) % pw 8 := by
  rw [← h.sum]
  have e1 : endN t c 6 = (t 6 + c) % 18446744073709551616 := rfl
  have e2 : endN t c 7 = (t 7 + (t 6 + c) / 18446744073709551616) % 18446744073709551616 := rfl
  have hl : num (endN t c) 8 < pw 8 := num_lt 8 fun i _ => endN_lt h.lt c i
  have key : num t 8 + c * pw 6 = num (endN t c) 8 + (t 7 + (t 6 + c) / 18446744073709551616) / 18446744073709551616 * pw 8 := by
    rw [show num t 8 = num t 6 + t 6 * pw 6 + t 7 * pw 7 from rfl, show num (endN t c) 8 = num (endN t c) 6 + endN t c 6 * pw 6 + endN t c 7 * pw 7 from rfl, e1, e2]
    rw [num_congr 6 fun j hj => show endN t c j = t j by unfold endN; rw [if_pos hj]]
    rw [show pw 8 = pw 6 * 18446744073709551616 * 18446744073709551616 by rw [pw_succ 7, pw_succ 6], pw_succ 6]
    exact carry_key _ _ _ _ _ _ (by decide)
  rw [key, Nat.add_mul_mod_self_right, Nat.mod_eq_of_lt hl]
theorem row8_conc {ρ : Rho} {d : Nat → Nat} (hd : ∀ j, d j < 18446744073709551616) : conc ρ ((List.range 8).map fun j => It.v (.int .u64 (d j : Int))) = some (words 8 (num d 8)) := by
  rw [words_map 8 fun i _ => hd i]
  have : ((List.range 8).map fun j => It.v (.int .u64 (d j : Int))) = ((List.range 8).map fun j => Value.int .u64 (d j : Int)).map It.v := by rw [List.map_map]; rfl
  rw [this]
  exact val_plain ρ _ fun v hv => by obtain ⟨i, _, rfl⟩ := List.mem_map.1 hv; rfl
theorem num_shift (d : Nat → Nat) : ∀ k, num d (k + 1) = d 0 + num (fun j => d (j + 1)) k * 18446744073709551616 := by
  intro k
  induction k with
  | zero => simp [num, pw_zero]
  | succ k ih =>
    rw [num, ih]
    simp only [num]
    rw [pw_succ, Nat.add_mul, Nat.mul_assoc]
    omega
/-- The last two states, told by numbers. -/
theorem w8_of_row {t : Nat → Int} {d : Nat → Nat} (e : ∀ j, j < 8 → t j = ((d j : Nat) : Int)) (hd : ∀ j, d j < 18446744073709551616) {n : Nat} (hn : num d 8 = n) : SameCt (row8 t) (.bl [.w 8 n]) := by
  intro ρ vs h
  have e2 : ((List.range 8).map fun j => It.v (.int .u64 (t j))) = (List.range 8).map fun j => It.v (.int .u64 (d j : Int)) := List.map_congr_left fun j hj => by rw [e j (by simpa using hj)]
  rw [e2, row8_conc hd, hn] at h
  cases h
  simp [conc, It.cs]
theorem row_of_w8 (T : Nat) : SameCt (.bl [.w 8 T]) (row8 fun j => (dg T j : Int)) := by
  intro ρ vs h
  show conc ρ ((List.range 8).map fun j => It.v (.int .u64 (dg T j : Int))) = some vs
  rw [row8_conc (fun j => dg_lt T j), num_dg, words_mod]
  rw [← h]; simp [conc, It.cs]
theorem same_end {M n : Nat} {t : Nat → Int} (h : SameCt (row8 t) (.bl [.w 8 n])) : ∀ k, match Eng.look (endSt M t) k, Eng.look [(33, Ct.bl [It.w 6 M]), (35, Ct.bl [It.w 8 n])] k with | some c, some c' => SameCt c c' | none, none => True | _, _ => False := by
  intro k
  by_cases h1 : k = 33
  · subst h1; exact SameCt.refl _
  · by_cases h2 : k = 35
    · subst h2; exact h
    · have e1 : (33 == k) = false := by simp; omega
      have e2 : (35 == k) = false := by simp; omega
      simp only [endSt, Eng.look, e1, e2]
      trivial
theorem same_head (x s M T : Nat) : ∀ k, match Eng.look (stH8 x s M T) k, Eng.look (stS x s M 0 (fun j => (dg T j : Int)) 0) k with | some c, some c' => SameCt c c' | none, none => True | _, _ => False := by
  intro k
  by_cases h2 : k = 35
  · subst h2; exact row_of_w8 T
  · have e2 : (35 == k) = false := by simp; omega
    have : Eng.look (stH8 x s M T) k = Eng.look (stS x s M 0 (fun j => (dg T j : Int)) 0) k := by
      simp only [stH8, stS, Eng.look, e2]
      rfl
    rw [this]
    split
    · rename_i a b e3 e4; rw [e3] at e4; cases e4; exact SameCt.refl _
    · trivial
    · rename_i h3 h4; cases h5 : Eng.look (stS x s M 0 (fun j => (dg T j : Int)) 0) k with
      | none => exact h4 h5 h5
      | some c => exact h3 c c h5 h5
theorem end_num0 {x M T : Nat} {t : Nat → Nat} {c : Nat} (h : InvS x M T 6 t c) : SameCt (row8 (endT t c)) (.bl [.w 8 (stepV T x M 0)]) :=
  w8_of_row (d := endN t c) (fun j hj => endT_eq t c j hj) (endN_lt h.lt c) (by rw [num_end h]; unfold stepV; rw [pw_zero, Nat.div_one])
theorem two64_pos : 0 < 18446744073709551616 := by decide
theorem pw_one : pw 1 = 18446744073709551616 := by rw [pw_succ, pw_zero, Nat.one_mul]
theorem num_drop (d : Nat → Nat) : num (fun j => if j < 7 then d (j + 1) else 0) 8 = num (fun j => d (j + 1)) 7 := by
  rw [show num (fun j => if j < 7 then d (j + 1) else 0) 8 = num (fun j => if j < 7 then d (j + 1) else 0) 7 + (if 7 < 7 then d (7 + 1) else 0) * pw 7 from rfl, if_neg (Nat.lt_irrefl 7), Nat.zero_mul, Nat.add_zero]
  exact num_congr 7 fun j hj => by simp only [hj, if_true]
theorem end_num1 {x M T : Nat} {t : Nat → Nat} {c : Nat} (h : InvS x M T 6 t c) : SameCt (row8 (fun j => if j < 7 then endT t c (j + 1) else 0)) (.bl [.w 8 (stepV T x M 1)]) := by
  refine w8_of_row (d := fun j => if j < 7 then endN t c (j + 1) else 0) (fun j hj => ?_) (fun j => ?_) ?_
  · by_cases h7 : j < 7
    · simp only [h7, if_true]; exact endT_eq t c (j + 1) (by omega)
    · simp only [h7, if_false]; rfl
  · by_cases h7 : j < 7
    · simp only [h7, if_true]; exact endN_lt h.lt c _
    · simp only [h7, if_false]; decide
  · unfold stepV
    rw [num_drop, ← num_end h]
    have e4 := endN_lt h.lt c 0
    show _ = num (endN t c) (7 + 1) / pw 1
    rw [num_shift (endN t c) 7, pw_one, Nat.add_mul_div_right _ _ two64_pos, Nat.div_eq_of_lt e4, Nat.zero_add]
theorem step_two (x s M T : Nat) (hx : x < 18446744073709551616) (hs : s = 0 ∨ s = 1) (b1 b2 : Nat) (hne : b1 ≠ b2) :
    Two Try.prog 82 [uv x, ptr (b1, 0) 0, .int .i64 (s : Int), ptr (b2, 0) 0] b1 b2 (words 6 M) (words 8 T) (words 6 M) (words 8 (stepV T x M s)) (.tuple #[]) := by
  have hB : conc (rho2 b1 b2) [.w 8 T] = some (words 8 T) := by simp [conc, It.cs]
  have hA : conc (rho2 b1 b2) [.w 6 M] = some (words 6 M) := by simp [conc, It.cs]
  have hB' : ∀ ρ us, conc ρ [It.w 8 (stepV T x M s)] = some us → us = words 8 (stepV T x M s) := by intro ρ us h; simp [conc, It.cs] at h; exact h.symm
  refine two_of_mem hne hA hB (A' := [.w 6 M]) (B' := [.w 8 (stepV T x M s)]) (fun ρ us h => by simp [conc, It.cs] at h; exact h.symm) hB' fun w hM => ?_
  refine .inr ⟨dS_ok.enter _ _, ?_⟩
  have hv : vals (rho2 b1 b2) (in4 x s) = some [uv x, ptr (b1, 0) 0, .int .i64 (s : Int), ptr (b2, 0) 0] := by
    have e1 : AV.val (rho2 b1 b2) (uw x) = some (uv x) := AV.val_v (ρ := rho2 b1 b2) (x := uv x) rfl
    have e2 : AV.val (rho2 b1 b2) ⟨false, [.p 16 0]⟩ = some (ptr (b1, 0) 0) := AV.val_mk (by simp [It.cs, rho2])
    have e3 : AV.val (rho2 b1 b2) ⟨false, [.v (.int .i64 (s : Int))]⟩ = some (.int .i64 (s : Int)) := AV.val_v (ρ := rho2 b1 b2) (x := .int .i64 (s : Int)) rfl
    have e4 : AV.val (rho2 b1 b2) ⟨false, [.p 17 0]⟩ = some (ptr (b2, 0) 0) := AV.val_mk (by simp [It.cs, rho2])
    simp only [in4, vals, e1, e2, e3, e4]
  refine (calls_of_at (G := fun xs st => xs = [] ∧ st.blk 16 = some [.w 6 M] ∧ st.blk 17 = some [.w 8 (stepV T x M s)]) tyTab_ok dS_ok hM (by kernel_rfl) hv (by rw [dS_ntmps]; simp [in4]) fun a hA0 => ?_).mono ?_
  · rw [dS_ntmps] at hA0
    rw [dS_body, dS_ntmps, dS_results]
    refine wp_seq (At.probe (E := E5) mixed tab5 call5 (headA x s M T) (fun q hq => by cases hq) hA0 [16, 17] (in2 rfl rfl) (by kernel_rfl) (dom2 b1 b2) fun a1 w1 h1 => ?_)
    show Code.wp _ _ _ _ _
    refine wp_seq (wp_seq (At.probe (E := E5) mixed tab5 call5 (headB x s M T) (fun q hq => by cases hq) h1 [16, 17] (in2 rfl rfl) (by kernel_rfl) (dom2 b1 b2) fun a2 w2 h2 => ?_))
    show Code.wp _ _ _ _ _
    have h2 := h2.same (same_head x s M T)
    refine wp_block (loopS (T := T) hx (fun t c a3 w3 hI h3 => ?_) (t := dg T) (c := 0) ⟨fun j => dg_lt T j, by decide, by omega, ?_⟩ h2)
    · show Code.wp _ _ _ _ _
      rcases hs with rfl | rfl
      · exact At.probe (E := E5) mixed tab5 call5 (end0 x M t c) (fun q hq => by simp only [List.mem_cons, List.not_mem_nil, or_false] at hq; subst hq; omega) h3 [16, 17] (in2 rfl rfl) (keeps_end _ _) (dom2 b1 b2) fun a4 w4 h4 => ⟨.inl rfl, _, [], h4.same (same_end (end_num0 hI)), rfl, rfl, rfl, rfl⟩
      · exact At.probe (E := E5) mixed tab5 call5 (end1 x M t c) (fun q hq => by simp only [List.mem_cons, List.not_mem_nil, or_false] at hq; subst hq; omega) h3 [16, 17] (in2 rfl rfl) (keeps_end _ _) (dom2 b1 b2) fun a4 w4 h4 => ⟨.inl rfl, _, [], h4.same (same_end (end_num1 hI)), rfl, rfl, rfl, rfl⟩
    · rw [num_dg, pw_zero, Nat.mod_one, Nat.mul_zero, Nat.zero_mul]
  · rintro e w' ⟨v, rfl, xs, st, ρ', hE, hval, hMk, rfl, h1, h2⟩
    refine ⟨v, rfl, ?_, ρ', st, hE, hMk, h1, h2⟩
    simp only [pack, SV.val, vals, Option.some.injEq] at hval
    exact hval.symm
end Go.Proofs.Ytkpihidjolfkoaa
