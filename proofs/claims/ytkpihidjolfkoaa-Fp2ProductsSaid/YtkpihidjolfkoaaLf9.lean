/-
  Leaves, 9: limb.Cmp of two numbers of six words.
-/
import Derived.Test.YtkpihidjolfkoaaLf8
namespace Go.Proofs.Ytkpihidjolfkoaa
open Go Go.Eng Go.RowKit Go.Wd

noncomputable def dC : Fn1 := match fn1 80 with
  | some d => d
  | none => ⟨.skip, [], 0⟩
theorem dC_ok : FnOk Try.prog 80 dC := fn1_ok _ _ (by kernel_rfl)
def inC : List AV := [⟨false, [.s 16 0 6 6]⟩, ⟨false, [.s 17 0 6 6]⟩]
noncomputable def cmpRun (u x : Nat) (h : List (Nat × Bool)) : Option Out := runFn tyTab (callN tyTab (tableT rowsA) fn1 1000 6) 1000 dC inC (mem2 [.w 6 u] [.w 6 x]) 18 h
def i64 (n : Int) : SV := .one ⟨false, [.v (.int .i64 n)]⟩
def eqO (u x j : Nat) (b : Bool) : Prop := ((dg u j : Nat) : Int) = ((dg x j : Nat) : Int) ↔ b = true
def ltO (u x j : Nat) (b : Bool) : Prop := ((dg u j : Nat) : Int) < ((dg x j : Nat) : Int) ↔ b = true
def cmpH (n : Nat) (b : Bool) : List (Nat × Bool) := List.replicate n (27, true) ++ [(27, false), (31, b)]
def cmpV (b : Bool) : Int := match b with
  | true => -1
  | false => 1
def CmpRun (n : Nat) : Prop := ∀ (u x : Nat) (b : Bool), cmpRun u x (cmpH n b) = some { val := i64 (cmpV b), wr := [], news := [], ob := (List.range n).map (fun j => eqO u x (5 - j) true) ++ [eqO u x (5 - n) false, ltO u x (5 - n) b] }
theorem cmp0 : CmpRun 0 := by intro u x b; cases b <;> kernel_rfl
theorem cmp1 : CmpRun 1 := by intro u x b; cases b <;> kernel_rfl
theorem cmp2 : CmpRun 2 := by intro u x b; cases b <;> kernel_rfl
theorem cmp3 : CmpRun 3 := by intro u x b; cases b <;> kernel_rfl
theorem cmp4 : CmpRun 4 := by intro u x b; cases b <;> kernel_rfl
theorem cmp5 : CmpRun 5 := by intro u x b; cases b <;> kernel_rfl
theorem cmp6 (u x : Nat) : cmpRun u x (List.replicate 6 (27, true)) = some { val := i64 0, wr := [], news := [], ob := (List.range 6).map (fun j => eqO u x (5 - j) true) } := by kernel_rfl
theorem cmpR (n : Nat) (h : n < 6) : CmpRun n := by
  have : n = 0 ∨ n = 1 ∨ n = 2 ∨ n = 3 ∨ n = 4 ∨ n = 5 := by omega
  rcases this with rfl | rfl | rfl | rfl | rfl | rfl
  · exact cmp0
  · exact cmp1
  · exact cmp2
  · exact cmp3
  · exact cmp4
  · exact cmp5
/-- The order of two numbers. -/
def cmpI (u x : Nat) : Int := if u < x then -1 else if u = x then 0 else 1
theorem cmpI_lt {a b : Nat} (h : a < b) : cmpI a b = -1 := if_pos h
theorem cmpI_gt {a b : Nat} (h : b < a) : cmpI a b = 1 := by unfold cmpI; rw [if_neg (by omega), if_neg (by omega)]
theorem cmpI_eq (a : Nat) : cmpI a a = 0 := by unfold cmpI; rw [if_neg (by omega), if_pos rfl]
theorem cmpI_add (a b c : Nat) : cmpI (a + c) (b + c) = cmpI a b := by
  rcases Nat.lt_trichotomy a b with h | h | h
  · rw [cmpI_lt h, cmpI_lt (by omega)]
  · rw [h, cmpI_eq, cmpI_eq]
  · rw [cmpI_gt h, cmpI_gt (by omega)]
theorem cmp_find {u x : Nat} : ∀ m, m ≤ 6 → (∀ j, m ≤ j → j < 6 → dg u j = dg x j) → ∃ (h : List (Nat × Bool)) (ob : List Prop), cmpRun u x h = some { val := i64 (cmpI (num (dg u) m) (num (dg x) m)), wr := [], news := [], ob := ob } ∧ ∀ p ∈ ob, p := by
  intro m
  induction m with
  | zero =>
    intro _ heq
    refine ⟨_, _, cmp6 u x, fun p hp => ?_⟩
    obtain ⟨j, hj, rfl⟩ := List.mem_map.1 hp
    have hj : j < 6 := by simpa using hj
    have := heq (5 - j) (by omega) (by omega)
    unfold eqO; rw [this]; simp
  | succ m ih =>
    intro hm heq
    have hu : num (dg u) m < pw m := num_lt m fun i _ => dg_lt u i
    have hx : num (dg x) m < pw m := num_lt m fun i _ => dg_lt x i
    by_cases h : dg u m = dg x m
    · obtain ⟨hh, ob, h1, h2⟩ := ih (by omega) fun j h1 h2 => by
        by_cases e : j = m
        · rw [e]; exact h
        · exact heq j (by omega) h2
      refine ⟨hh, ob, ?_, h2⟩
      have : cmpI (num (dg u) (m + 1)) (num (dg x) (m + 1)) = cmpI (num (dg u) m) (num (dg x) m) := by
        show cmpI (num (dg u) m + dg u m * pw m) (num (dg x) m + dg x m * pw m) = _
        rw [h, cmpI_add]
      rw [this]; exact h1
    · have hrun := cmpR (5 - m) (by omega) u x (decide (dg u m < dg x m))
      have e5 : 5 - (5 - m) = m := by omega
      rw [e5] at hrun
      have hv : cmpV (decide (dg u m < dg x m)) = cmpI (num (dg u) (m + 1)) (num (dg x) (m + 1)) := by
        show _ = cmpI (num (dg u) m + dg u m * pw m) (num (dg x) m + dg x m * pw m)
        by_cases hl : dg u m < dg x m
        · have hb : (dg u m + 1) * pw m ≤ dg x m * pw m := Nat.mul_le_mul_right _ hl
          rw [Nat.add_mul, Nat.one_mul] at hb
          rw [cmpI_lt (by omega), decide_eq_true hl]; rfl
        · have hb : (dg x m + 1) * pw m ≤ dg u m * pw m := Nat.mul_le_mul_right _ (by omega)
          rw [Nat.add_mul, Nat.one_mul] at hb
          rw [cmpI_gt (by omega), decide_eq_false hl]; rfl
      rw [hv] at hrun
      refine ⟨_, _, hrun, fun p hp => ?_⟩
      simp only [List.mem_append, List.mem_cons, List.not_mem_nil, or_false] at hp
      rcases hp with hp | rfl | rfl
      · obtain ⟨j, hj, rfl⟩ := List.mem_map.1 hp
        have hj : j < 5 - m := by simpa using hj
        have := heq (5 - j) (by omega) (by omega)
        unfold eqO; rw [this]; simp
      · unfold eqO
        have : ((dg u m : Nat) : Int) ≠ ((dg x m : Nat) : Int) := by omega
        simp [this]
      · unfold ltO
        rw [decide_eq_true_iff]; omega
theorem cmp_two (u x : Nat) (hu : u < M6) (hx : x < M6) (b1 b2 : Nat) (hne : b1 ≠ b2) :
    Two Try.prog 80 [.slice (some ⟨b1, 0, none⟩) 6 6, .slice (some ⟨b2, 0, none⟩) 6 6] b1 b2 (words 6 u) (words 6 x) (words 6 u) (words 6 x) (.int .i64 (cmpI u x)) := by
  obtain ⟨h, ob, h1, h2⟩ := cmp_find (u := u) (x := x) 6 (by omega) (fun j hj hj' => by omega)
  rw [num_dg6 hu, num_dg6 hx] at h1
  have hA : conc (rho2 b1 b2) [.w 6 u] = some (words 6 u) := by simp [conc, It.cs]
  have hB : conc (rho2 b1 b2) [.w 6 x] = some (words 6 x) := by simp [conc, It.cs]
  refine two_of_mem hne hA hB (A' := [.w 6 u]) (B' := [.w 6 x]) (fun ρ us h => by simp [conc, It.cs] at h; exact h.symm) (fun ρ us h => by simp [conc, It.cs] at h; exact h.symm) fun w hM => ?_
  have hv : vals (rho2 b1 b2) inC = some [.slice (some ⟨b1, 0, none⟩) 6 6, .slice (some ⟨b2, 0, none⟩) 6 6] := by
    have e2 : AV.val (rho2 b1 b2) ⟨false, [.s 16 0 6 6]⟩ = some (.slice (some ⟨b1, 0, none⟩) 6 6) := AV.val_mk (by simp [It.cs, rho2])
    have e4 : AV.val (rho2 b1 b2) ⟨false, [.s 17 0 6 6]⟩ = some (.slice (some ⟨b2, 0, none⟩) 6 6) := AV.val_mk (by simp [It.cs, rho2])
    simp only [inC, vals, e2, e4]
  refine .inr ⟨dC_ok.enter _ _, (runFn_calls mixed tyTab_ok (callN_ok mixed tyTab_ok (tableT_ok rowsA_ok) fn1_ok 1000 6) dC_ok h1 h2 hv hM).mono ?_⟩
  rintro e w' ⟨v, rfl, ρ', hE, hval, hMk⟩
  refine ⟨v, rfl, ?_, ρ', mem2 [.w 6 u] [.w 6 x], hE, hMk.ok, rfl, rfl⟩
  have : (i64 (cmpI u x)).val ρ' = some (.int .i64 (cmpI u x)) := AV.val_v (ρ := ρ') (x := .int .i64 (cmpI u x)) rfl
  rw [this] at hval
  cases hval; rfl
def cmpT : CallT := fun f args m _ => match f == 80 with
  | true => match args with
    | [⟨false, [.s a 0 6 6]⟩, ⟨false, [.s b 0 6 6]⟩] => match m.blk a, m.blk b with
      | some A, some B => match asW6 A, asW6 B with
        | some (u, ob), some (x, ob') => match (a != b && (own a && own b)) with
          | true => some { val := i64 (cmpI u x), wr := [(a, [.w 6 u]), (b, [.w 6 x])], news := [], ob := (u < M6 ∧ x < M6) :: (ob ++ ob') }
          | false => none
        | _, _ => none
      | _, _ => none
    | _ => none
  | false => none
theorem cmpT_ok : CallOk Try.prog cmpT := by
  intro f args m nid out hout hob ρ w vs hv hM hnew
  unfold cmpT at hout
  split at hout
  · rename_i hf
    rw [beq_iff_eq] at hf
    subst hf
    split at hout
    · rename_i a b
      split at hout
      · rename_i A B hA hB
        split at hout
        · rename_i u ob x ob' h6 h8
          split at hout
          · rename_i hc
            cases hout
            simp only [Bool.and_eq_true, bne_iff_ne, ne_eq] at hc
            obtain ⟨hab, ha, hb⟩ := hc
            obtain ⟨h1, h2⟩ := hob _ (List.mem_cons_self)
            have ob1 : ∀ p ∈ ob, p := fun p hp => hob p (List.mem_cons_of_mem _ (List.mem_append_left _ hp))
            have ob2 : ∀ p ∈ ob', p := fun p hp => hob p (List.mem_cons_of_mem _ (List.mem_append_right _ hp))
            obtain ⟨v2, r2, e3, e4, rfl⟩ := vals_cons hv
            obtain ⟨v4, r4, e7, e8, rfl⟩ := vals_cons e4
            cases e8
            refine two_call (args := fun q1 q2 => [.slice (some ⟨q1.1, q1.2, none⟩) 6 6, .slice (some ⟨q2.1, q2.2, none⟩) 6 6]) hM hab ha hb hA hB (asW6_ok' h6 ob1) (asW6_ok' h8 ob2) (fun ρ => by simp [conc, It.cs]) (fun ρ => by simp [conc, It.cs])
              (fun b1 b2 hne => cmp_two u x h1 h2 b1 b2 hne) (fun q1 q2 h1 h2 => ?_) (s := i64 (cmpI u x)) (AV.val_v (ρ := rho0) (x := .int .i64 (cmpI u x)) rfl)
            have c2 : v2 = .slice (some ⟨q1.1, q1.2, none⟩) 6 6 := by
              have : AV.val ρ ⟨false, [.s a 0 6 6]⟩ = some (.slice (some ⟨q1.1, q1.2, none⟩) 6 6) := AV.val_mk (by simp [It.cs, h1])
              rw [this] at e3; cases e3; rfl
            have c4 : v4 = .slice (some ⟨q2.1, q2.2, none⟩) 6 6 := by
              have : AV.val ρ ⟨false, [.s b 0 6 6]⟩ = some (.slice (some ⟨q2.1, q2.2, none⟩) 6 6) := AV.val_mk (by simp [It.cs, h2])
              rw [this] at e7; cases e7; rfl
            rw [c2, c4]
          · cases hout
        · cases hout
      · cases hout
    · cases hout
  · cases hout
noncomputable def T9 : CallT := orT (tableT rowsA) (orT evenT cmpT)
theorem T9_ok : CallOk Try.prog T9 := orT_ok (tableT_ok rowsA_ok) (orT_ok evenT_ok cmpT_ok)
end Go.Proofs.Ytkpihidjolfkoaa
