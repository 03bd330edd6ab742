/-
  Leaves, 3: fp.Reduce, Add, Neg, Sub, minusOf.
-/
import Derived.Test.YtkpihidjolfkoaaLf2
namespace Go.Proofs.Ytkpihidjolfkoaa
open Go Go.Eng Go.RowKit Go.Wd

def lt1 (n : Nat) : Nat := lessN (n % M6) 0
def itN : Nat → Nat → Nat
  | 0, n => n
  | k + 1, n => lt1 (itN k n)
def eqOb (b : Bool) (n : Nat) : Prop := plainVals [.w 6 (lt1 n)] = plainVals [.w 6 n] ↔ b = true
def rdHints (k : Nat) : List (Nat × Bool) := List.replicate k (8, false) ++ [(8, true)]
def rdObs (k n : Nat) : List Prop := ((List.range k).flatMap fun j => [(0 : Int) ≤ 0, eqOb false (itN j n)]) ++ [(0 : Int) ≤ 0, eqOb true (itN k n)]
def rows2 : List Row := lessRow :: rows1
theorem rows2_ok : ∀ r ∈ rows2, RowOk Try.prog r := by
  simp only [rows2, List.forall_mem_cons]
  exact ⟨less_ok, rows1_ok⟩
def RdRun (k n : Nat) : Prop := run1 (tableT rows2) 55 [W6 n] (rdHints k) = some (.one (W6 (itN k n)), rdObs k n)
theorem rd0 (n : Nat) : run1 (tableT rows2) 55 [W6 n] (rdHints 0) = some (.one (W6 (itN 0 n)), rdObs 0 n) := by kernel_rfl
theorem rd1 (n : Nat) : run1 (tableT rows2) 55 [W6 n] (rdHints 1) = some (.one (W6 (itN 1 n)), rdObs 1 n) := by kernel_rfl
theorem rd2 (n : Nat) : run1 (tableT rows2) 55 [W6 n] (rdHints 2) = some (.one (W6 (itN 2 n)), rdObs 2 n) := by kernel_rfl
theorem rd3 (n : Nat) : run1 (tableT rows2) 55 [W6 n] (rdHints 3) = some (.one (W6 (itN 3 n)), rdObs 3 n) := by kernel_rfl
theorem rd4 (n : Nat) : run1 (tableT rows2) 55 [W6 n] (rdHints 4) = some (.one (W6 (itN 4 n)), rdObs 4 n) := by kernel_rfl
theorem rd5 (n : Nat) : run1 (tableT rows2) 55 [W6 n] (rdHints 5) = some (.one (W6 (itN 5 n)), rdObs 5 n) := by kernel_rfl
theorem rd6 (n : Nat) : run1 (tableT rows2) 55 [W6 n] (rdHints 6) = some (.one (W6 (itN 6 n)), rdObs 6 n) := by kernel_rfl
theorem rd7 (n : Nat) : run1 (tableT rows2) 55 [W6 n] (rdHints 7) = some (.one (W6 (itN 7 n)), rdObs 7 n) := by kernel_rfl
theorem rd8 (n : Nat) : run1 (tableT rows2) 55 [W6 n] (rdHints 8) = some (.one (W6 (itN 8 n)), rdObs 8 n) := by kernel_rfl
theorem rd9 (n : Nat) : run1 (tableT rows2) 55 [W6 n] (rdHints 9) = some (.one (W6 (itN 9 n)), rdObs 9 n) := by kernel_rfl

/-! ### Reduce: what it is -/
theorem lt1_small {x : Nat} (h : x < pN) : lt1 x = x := by
  have := pN_lt
  unfold lt1 lessN
  rw [Nat.mod_eq_of_lt (by omega), if_pos h, if_pos rfl]
theorem lt1_big {x : Nat} (h : pN ≤ x) (h2 : x < M6) : lt1 x = x - pN := by
  unfold lt1 lessN
  rw [Nat.mod_eq_of_lt h2, if_neg (by omega)]
theorem pN_pos : 0 < pN := by decide +kernel
theorem itN_eq (n : Nat) (k : Nat) : (k + 1) * pN ≤ n % M6 → itN (k + 1) n = n % M6 - (k + 1) * pN := by
  have hM := M6_pos
  have hn : n % M6 < M6 := Nat.mod_lt _ hM
  induction k with
  | zero =>
    intro h
    simp only [Nat.zero_add, Nat.one_mul] at h ⊢
    simp only [itN, lt1, lessN]
    rw [if_neg (by omega)]
  | succ k ih =>
    intro h
    have e : (k + 1 + 1) * pN = (k + 1) * pN + pN := Nat.succ_mul _ _
    rw [e] at h ⊢
    have h1 := ih (by omega)
    rw [itN, h1, lt1_big (by omega) (by omega)]
    omega
theorem eqOb_iff (b : Bool) (n : Nat) : eqOb b n ↔ (lt1 n % M6 = n % M6 ↔ b = true) := by
  unfold eqOb
  have e : (plainVals [.w 6 (lt1 n)] = plainVals [.w 6 n]) ↔ lt1 n % M6 = n % M6 := by
    simp only [plainVals, List.append_nil]
    constructor
    · intro h; exact words_inj h
    · intro h; rw [← words_mod 6 (lt1 n), ← words_mod 6 n]; unfold M6 at h; rw [h]
  rw [e]
theorem rd_sub {x : Nat} (h : pN ≤ x) (h2 : x < M6) : eqOb false x := by
  have := pN_pos
  rw [eqOb_iff, lt1_big h h2, Nat.mod_eq_of_lt h2, Nat.mod_eq_of_lt (by omega)]
  simp only [Bool.false_eq_true, iff_false]; omega
theorem itN_mod (n k : Nat) (h : k * pN ≤ n % M6) : itN k n % M6 = n % M6 - k * pN := by
  have hM := M6_pos
  have hn : n % M6 < M6 := Nat.mod_lt _ hM
  cases k with
  | zero => simp [itN]
  | succ k => rw [itN_eq n k h, Nat.mod_eq_of_lt (by omega)]
theorem lt1_mod (n : Nat) : lt1 (n % M6) = lt1 n := by unfold lt1; rw [Nat.mod_mod]
theorem eqOb_mod (b : Bool) (n : Nat) : eqOb b n ↔ eqOb b (n % M6) := by rw [eqOb_iff, eqOb_iff, lt1_mod, Nat.mod_mod]
theorem rdObs_ok (n k : Nat) (h1 : k * pN ≤ n % M6) (h2 : n % M6 < k * pN + pN) : ∀ q ∈ rdObs k n, q := by
  have hM := M6_pos
  have hn : n % M6 < M6 := Nat.mod_lt _ hM
  intro q hq
  unfold rdObs at hq
  rw [List.mem_append] at hq
  rcases hq with hq | hq
  · rw [List.mem_flatMap] at hq
    obtain ⟨j, hj, hq⟩ := hq
    have hj : j < k := by simpa using hj
    simp only [List.mem_cons, List.not_mem_nil, or_false] at hq
    rcases hq with rfl | rfl
    · exact Int.le_refl 0
    · have h3 : (j + 1) * pN ≤ k * pN := Nat.mul_le_mul_right _ hj
      rw [Nat.succ_mul] at h3
      rw [eqOb_mod, itN_mod n j (by omega)]
      exact rd_sub (by omega) (by omega)
  · simp only [List.mem_cons, List.not_mem_nil, or_false] at hq
    rcases hq with rfl | rfl
    · exact Int.le_refl 0
    · rw [eqOb_mod, itN_mod n k h1, eqOb_iff, lt1_small (by omega)]; simp
theorem M6_lt : M6 < 10 * pN := by decide +kernel
theorem rd_pure (n : Nat) : Pure Try.prog 55 [.agg (words 6 n).toArray] (.agg (words 6 (n % M6 % pN)).toArray) := by
  have hM := M6_pos
  have hn : n % M6 < M6 := Nat.mod_lt _ hM
  have hp := pN_pos
  have hq := M6_lt
  have h1 : n % M6 / pN * pN ≤ n % M6 := Nat.div_mul_le_self _ _
  have h2 : n % M6 < n % M6 / pN * pN + pN := by
    have := Nat.mod_lt (n % M6) hp
    have e := Nat.div_add_mod (n % M6) pN
    rw [Nat.mul_comm] at e
    omega
  have hk : n % M6 / pN < 10 := by
    rw [Nat.div_lt_iff_lt_mul hp]; omega
  have hfin : words 6 (itN (n % M6 / pN) n) = words 6 (n % M6 % pN) := by
    rw [← words_mod 6 (itN _ n)]
    have : itN (n % M6 / pN) n % pw 6 = n % M6 - n % M6 / pN * pN := itN_mod n _ h1
    rw [this]
    have e := Nat.div_add_mod (n % M6) pN
    rw [Nat.mul_comm] at e
    congr 1; omega
  have fin : RdRun (n % M6 / pN) n → Pure Try.prog 55 [.agg (words 6 n).toArray] (.agg (words 6 (n % M6 % pN)).toArray) := by
    intro hr
    refine pure_of_run1 (tableT_ok rows2_ok) hr (rdObs_ok n _ h1 h2) (by simp only [vals, val_W6]) fun ρ u hu => ?_
    have e : (W6 (itN (n % M6 / pN) n)).val ρ = some u := hu
    rw [val_W6] at e
    cases e
    rw [hfin]
  refine fin ?_
  generalize n % M6 / pN = k at hk
  have : k = 0 ∨ k = 1 ∨ k = 2 ∨ k = 3 ∨ k = 4 ∨ k = 5 ∨ k = 6 ∨ k = 7 ∨ k = 8 ∨ k = 9 := by omega
  rcases this with rfl | rfl | rfl | rfl | rfl | rfl | rfl | rfl | rfl | rfl
  · exact rd0 n
  · exact rd1 n
  · exact rd2 n
  · exact rd3 n
  · exact rd4 n
  · exact rd5 n
  · exact rd6 n
  · exact rd7 n
  · exact rd8 n
  · exact rd9 n
/-- A row for a function of one Fp. -/
def row1 (f : FuncId) (g : Nat → Nat) : Row where
  f := f
  ans := fun
    | [⟨true, l⟩] => match asW6 l with
      | some (n, ob) => some (.one (W6 (g n)), ob)
      | none => none
    | _ => none
theorem row1_ok {f : FuncId} {g : Nat → Nat} (h : ∀ n, Pure Try.prog f [.agg (words 6 n).toArray] (.agg (words 6 (g n)).toArray)) : RowOk Try.prog (row1 f g) := by
  intro args s ob ha hob ρ vs hv
  unfold row1 at ha
  simp only at ha
  split at ha
  · rename_i l
    split at ha
    · rename_i n ob' hn
      cases ha
      obtain ⟨v1, us, h1, h2, rfl⟩ := vals_cons hv
      cases h2
      obtain ⟨ws, hw, rfl⟩ := val_agg h1
      have e := asW6_ok hn hob hw
      subst e
      exact ⟨_, val_W6 rho0 _, h n⟩
    · cases ha
  · cases ha
/-- A row for a function of two. -/
def row2 (f : FuncId) (g : Nat → Nat → Nat) : Row where
  f := f
  ans := fun
    | [⟨true, l⟩, ⟨true, m⟩] => match asW6 l, asW6 m with
      | some (n, ob), some (n', ob') => some (.one (W6 (g n n')), ob ++ ob')
      | _, _ => none
    | _ => none
theorem row2_ok {f : FuncId} {g : Nat → Nat → Nat} (h : ∀ n m, Pure Try.prog f [.agg (words 6 n).toArray, .agg (words 6 m).toArray] (.agg (words 6 (g n m)).toArray)) : RowOk Try.prog (row2 f g) := by
  intro args s ob ha hob ρ vs hv
  unfold row2 at ha
  simp only at ha
  split at ha
  · rename_i l m
    split at ha
    · rename_i n ob1 n' ob2 hn hm
      cases ha
      obtain ⟨v1, us, h1, h2, rfl⟩ := vals_cons hv
      obtain ⟨v2, us', h3, h4, rfl⟩ := vals_cons h2
      cases h4
      obtain ⟨ws, hw, rfl⟩ := val_agg h1
      obtain ⟨ws', hw', rfl⟩ := val_agg h3
      have e := asW6_ok hn (fun p hp => hob p (List.mem_append_left _ hp)) hw
      have e' := asW6_ok hm (fun p hp => hob p (List.mem_append_right _ hp)) hw'
      subst e; subst e'
      exact ⟨_, val_W6 rho0 _, h n n'⟩
    · cases ha
  · cases ha
theorem pure1_of_run {T : CallT} (hT : CallOk Try.prog T) {f : FuncId} {n r : Nat} {hints : List (Nat × Bool)} {x : Nat} {ob : List Prop} (h : run1 T f [W6 n] hints = some (.one (W6 x), ob)) (hob : ∀ p ∈ ob, p) (he : words 6 x = words 6 r) :
    Pure Try.prog f [.agg (words 6 n).toArray] (.agg (words 6 r).toArray) :=
  pure_of_run1 hT h hob (by simp only [vals, val_W6]) fun ρ u hu => by
    have e : (W6 x).val ρ = some u := hu
    rw [val_W6] at e
    cases e
    rw [he]
theorem pure2_of_run {T : CallT} (hT : CallOk Try.prog T) {f : FuncId} {n m r : Nat} {hints : List (Nat × Bool)} {x : Nat} {ob : List Prop} (h : run1 T f [W6 n, W6 m] hints = some (.one (W6 x), ob)) (hob : ∀ p ∈ ob, p) (he : words 6 x = words 6 r) :
    Pure Try.prog f [.agg (words 6 n).toArray, .agg (words 6 m).toArray] (.agg (words 6 r).toArray) :=
  pure_of_run1 hT h hob (by simp only [vals, val_W6]) fun ρ u hu => by
    have e : (W6 x).val ρ = some u := hu
    rw [val_W6] at e
    cases e
    rw [he]
def rd (n : Nat) : Nat := n % M6 % pN
def rows3 : List Row := row1 55 rd :: rows2
theorem rows3_ok : ∀ r ∈ rows3, RowOk Try.prog r := by
  simp only [rows3, List.forall_mem_cons]
  exact ⟨row1_ok rd_pure, rows2_ok⟩

/-! ### Add, Neg, Sub -/
def asN6 (d : Nat → Nat) : Nat := num (fun i => ([((d 0 : Nat) : Int), ((d 1 : Nat) : Int), ((d 2 : Nat) : Int), ((d 3 : Nat) : Int), ((d 4 : Nat) : Int), ((d 5 : Nat) : Int)].getD i 0).toNat) 6
def ob6 (d : Nat → Nat) : Prop := ∀ x ∈ [((d 0 : Nat) : Int), ((d 1 : Nat) : Int), ((d 2 : Nat) : Int), ((d 3 : Nat) : Int), ((d 4 : Nat) : Int), ((d 5 : Nat) : Int)], 0 ≤ x ∧ x < 18446744073709551616
theorem asN6_eq (d : Nat → Nat) : asN6 d = num d 6 := by
  unfold asN6
  apply num_congr
  intro i hi
  have : i = 0 ∨ i = 1 ∨ i = 2 ∨ i = 3 ∨ i = 4 ∨ i = 5 := by omega
  rcases this with rfl | rfl | rfl | rfl | rfl | rfl <;> simp
theorem ob6_ok {d : Nat → Nat} (h : ∀ i, d i < 18446744073709551616) : ob6 d := by
  intro x hx
  simp only [List.mem_cons, List.not_mem_nil, or_false] at hx
  have h0 := h 0; have h1 := h 1; have h2 := h 2; have h3 := h 3; have h4 := h 4; have h5 := h 5
  rcases hx with rfl | rfl | rfl | rfl | rfl | rfl <;> omega
def addOb (c : Nat) (x y : Nat → Nat) (i : Nat) : Prop := (0 : Int) ≤ (x i : Int) ∧ (0 : Int) ≤ (y i : Int) ∧ (0 : Int) ≤ (cw c x y i : Int) ∧ (cw c x y i : Int) ≤ 1
theorem add_run (m n : Nat) : run1 (tableT rows3) 32 [W6 m, W6 n] [] = some (.one (W6 (lessN (asN6 (cd 0 (dg (rd m)) (dg (rd n))) % M6) (cw 0 (dg (rd m)) (dg (rd n)) 6))),
    (List.range 6).map (addOb 0 (dg (rd m)) (dg (rd n))) ++ [ob6 (cd 0 (dg (rd m)) (dg (rd n))), (0 : Int) ≤ (cw 0 (dg (rd m)) (dg (rd n)) 6 : Int)]) := by kernel_rfl
def addN (m n : Nat) : Nat := (rd m + rd n) % pN
theorem rd_lt (n : Nat) : rd n < pN := Nat.mod_lt _ pN_pos
theorem M6_2p : 2 * pN < M6 := by decide +kernel
theorem dg_rd (n : Nat) : num (dg (rd n)) 6 = rd n := by
  rw [num_dg]
  have := rd_lt n
  have := M6_2p
  exact Nat.mod_eq_of_lt (show rd n < M6 by omega)
theorem add_pure (m n : Nat) : Pure Try.prog 32 [.agg (words 6 m).toArray, .agg (words 6 n).toArray] (.agg (words 6 (addN m n)).toArray) := by
  have hx := rd_lt m
  have hy := rd_lt n
  have h2 := M6_2p
  have hs := num_cd (c := 0) (x := dg (rd m)) (y := dg (rd n)) 6
  rw [dg_rd, dg_rd] at hs
  have hl := num_lt (d := cd 0 (dg (rd m)) (dg (rd n))) 6 fun i _ => cd_lt _ _ _ i
  have hl : num (cd 0 (dg (rd m)) (dg (rd n))) 6 < M6 := hl
  have hc : cw 0 (dg (rd m)) (dg (rd n)) 6 = 0 := by
    rcases Nat.eq_zero_or_pos (cw 0 (dg (rd m)) (dg (rd n)) 6) with h | h
    · exact h
    · have : 1 * pw 6 ≤ cw 0 (dg (rd m)) (dg (rd n)) 6 * pw 6 := Nat.mul_le_mul_right _ h
      have e : M6 = pw 6 := rfl
      omega
  rw [hc, Nat.zero_mul, Nat.add_zero, Nat.add_zero] at hs
  refine pure2_of_run (tableT_ok rows3_ok) (add_run m n) ?_ ?_
  · intro q hq
    simp only [List.mem_append, List.mem_cons, List.not_mem_nil, or_false] at hq
    rcases hq with hq | rfl | rfl
    · obtain ⟨i, _, rfl⟩ := List.mem_map.1 hq
      have : cw 0 (dg (rd m)) (dg (rd n)) i ≤ 1 := cw_le (by omega) i (fun _ _ => dg_lt _ _) (fun _ _ => dg_lt _ _)
      unfold addOb; omega
    · exact ob6_ok fun i => cd_lt _ _ _ i
    · omega
  · rw [asN6_eq, hc, hs, Nat.mod_eq_of_lt (by omega)]
    refine congrArg (words 6) ?_
    unfold lessN addN
    by_cases h : rd m + rd n < pN
    · rw [if_pos h, if_pos rfl, Nat.mod_eq_of_lt h]
    · rw [if_neg h, Nat.mod_eq_sub_mod (by omega), Nat.mod_eq_of_lt (by omega)]
theorem neg_run (n : Nat) : run1 (tableT rows3) 56 [W6 n] [] = some (.one (W6 (lessN (asN6 (bd (dg pN) (dg (rd n))) % M6) 0)),
    (List.range 6).map (subOb (dg pN) (dg (rd n))) ++ [ob6 (bd (dg pN) (dg (rd n))), (0 : Int) ≤ 0]) := by kernel_rfl
def negN (n : Nat) : Nat := (pN - rd n) % pN
theorem dg_pN : num (dg pN) 6 = pN := by
  rw [num_dg]
  exact Nat.mod_eq_of_lt pN_lt
theorem neg_pure (n : Nat) : Pure Try.prog 56 [.agg (words 6 n).toArray] (.agg (words 6 (negN n)).toArray) := by
  have hx := rd_lt n
  have h2 := M6_2p
  have hs := num_bd (x := dg pN) (y := dg (rd n)) 6 (fun i _ => dg_lt _ _) (fun i _ => dg_lt _ _)
  rw [dg_rd, dg_pN] at hs
  have hl : num (bd (dg pN) (dg (rd n))) 6 < M6 := num_lt (d := bd (dg pN) (dg (rd n))) 6 fun i _ => bd_lt _ _ i
  have hb := bw_le (dg pN) (dg (rd n)) 6
  have hc : bw (dg pN) (dg (rd n)) 6 = 0 := by
    rcases Nat.eq_zero_or_pos (bw (dg pN) (dg (rd n)) 6) with h | h
    · exact h
    · have h1 : bw (dg pN) (dg (rd n)) 6 = 1 := by omega
      rw [h1, Nat.one_mul] at hs
      have e : M6 = pw 6 := rfl
      omega
  rw [hc, Nat.zero_mul, Nat.add_zero] at hs
  refine pure1_of_run (tableT_ok rows3_ok) (neg_run n) ?_ ?_
  · intro q hq
    simp only [List.mem_append, List.mem_cons, List.not_mem_nil, or_false] at hq
    rcases hq with hq | rfl | rfl
    · obtain ⟨i, _, rfl⟩ := List.mem_map.1 hq; exact subOb_ok _ _ _
    · exact ob6_ok fun i => bd_lt _ _ i
    · exact Int.le_refl 0
  · have e : num (bd (dg pN) (dg (rd n))) 6 = pN - rd n := by omega
    rw [asN6_eq, e, Nat.mod_eq_of_lt (by omega)]
    refine congrArg (words 6) ?_
    unfold lessN negN
    by_cases h : pN - rd n < pN
    · rw [if_pos h, if_pos rfl, Nat.mod_eq_of_lt h]
    · have h0 : rd n = 0 := by omega
      rw [if_neg h, h0, Nat.sub_zero, Nat.mod_self, Nat.sub_self]
def rows4 : List Row := row2 32 addN :: row1 56 negN :: rows3
theorem rows4_ok : ∀ r ∈ rows4, RowOk Try.prog r := by
  simp only [rows4, List.forall_mem_cons]
  exact ⟨row2_ok add_pure, row1_ok neg_pure, rows3_ok⟩
theorem sub_run (m n : Nat) : run1 (tableT rows4) 31 [W6 m, W6 n] [] = some (.one (W6 (addN m (negN n))), []) := by kernel_rfl
theorem sub_pure (m n : Nat) : Pure Try.prog 31 [.agg (words 6 m).toArray, .agg (words 6 n).toArray] (.agg (words 6 (addN m (negN n))).toArray) :=
  pure2_of_run (tableT_ok rows4_ok) (sub_run m n) (fun p hp => by cases hp) rfl
end Go.Proofs.Ytkpihidjolfkoaa
