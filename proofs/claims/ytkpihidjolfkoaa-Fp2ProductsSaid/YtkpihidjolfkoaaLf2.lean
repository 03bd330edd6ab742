/-
  Leaves, 2: fp.P, fp.square, fp.less: what they hand back.
-/
import Derived.Test.YtkpihidjolfkoaaLf1
import Derived.Test.YtkpihidjolfkoaaWd
namespace Go.Proofs.Ytkpihidjolfkoaa
open Go Go.Eng Go.RowKit Go.Wd

/-- 2^384: what six words hold. -/
def M6 : Nat := pw 6
/-- The modulus. -/
def pN : Nat := 0x1a0111ea397fe69a4b1ba7b6434bacd764774b84f38512bf6730d2a0f6b0f6241eabfffeb153ffffb9feffffffffaaab
/-- 2^768 modulo it. -/
def sqN : Nat := 0x11988fe592cae3aa9a793e85b519952d67eb88a9939d83c08de5476c4c95b6d50a76e6a609d104f1f4df1f341c341746
def W6 (n : Nat) : AV := ⟨true, [.w 6 n]⟩
/-- Six words as a number, and what is owed for it. -/
def asW6 : List It → Option (Nat × List Prop)
  | [.w 6 n] => some (n, [])
  | [.v (.int .u64 a), .v (.int .u64 b), .v (.int .u64 c), .v (.int .u64 d), .v (.int .u64 e), .v (.int .u64 f)] =>
    some (num (fun i => ([a, b, c, d, e, f].getD i 0).toNat) 6, [∀ x ∈ [a, b, c, d, e, f], 0 ≤ x ∧ x < 18446744073709551616])
  | _ => none
theorem asW6_ok {l : List It} {n : Nat} {ob : List Prop} (h : asW6 l = some (n, ob)) (hob : ∀ p ∈ ob, p) {ρ : Rho} {vs : List Value} (hv : conc ρ l = some vs) : vs = words 6 n := by
  unfold asW6 at h
  split at h
  · cases h; cases hv; simp
  · rename_i a b c d e f
    cases h
    have hall := hob _ (List.mem_singleton.2 rfl)
    have hc : conc ρ ([Value.int .u64 a, .int .u64 b, .int .u64 c, .int .u64 d, .int .u64 e, .int .u64 f].map It.v) = some [.int .u64 a, .int .u64 b, .int .u64 c, .int .u64 d, .int .u64 e, .int .u64 f] :=
      val_plain ρ _ (by intro v hv; simp only [List.mem_cons, List.not_mem_nil, or_false] at hv; rcases hv with rfl | rfl | rfl | rfl | rfl | rfl <;> rfl)
    have e0 : vs = [.int .u64 a, .int .u64 b, .int .u64 c, .int .u64 d, .int .u64 e, .int .u64 f] := Option.some.inj (hv.symm.trans hc)
    have h0 := hall a (by simp)
    have h1 := hall b (by simp)
    have h2 := hall c (by simp)
    have h3 := hall d (by simp)
    have h4 := hall e (by simp)
    have h5 := hall f (by simp)
    rw [e0, words_map 6 (fun i hi => by
      have : i = 0 ∨ i = 1 ∨ i = 2 ∨ i = 3 ∨ i = 4 ∨ i = 5 := by omega
      rcases this with rfl | rfl | rfl | rfl | rfl | rfl <;> simp <;> omega)]
    simp only [List.range, List.range.loop, List.map_cons, List.map_nil, List.getD_cons_zero, List.getD_cons_succ, List.cons.injEq, Value.int.injEq, true_and, and_true]
    refine ⟨?_, ?_, ?_, ?_, ?_, ?_⟩ <;> omega
  · cases h

/-- One run: the answer, and what is owed. -/
noncomputable def run1 (T : CallT) (f : FuncId) (args : List AV) (hints : List (Nat × Bool)) : Option (SV × List Prop) := match fn1 f with
  | some d => match runFn tyTab (callN tyTab T fn1 1000 6) 1000 d args [] 16 hints with
    | some o => some (o.val, o.ob)
    | none => none
  | none => none
theorem pure_of_run1 {T : CallT} (hT : CallOk Try.prog T) {f : FuncId} {args : List AV} {hints : List (Nat × Bool)} {s : SV} {ob : List Prop} (h : run1 T f args hints = some (s, ob)) (hob : ∀ p ∈ ob, p) {vs : List Value} (hv : vals rho0 args = some vs)
    {v : Value} (hval : ∀ ρ u, s.val ρ = some u → u = v) : Pure Try.prog f vs v := by
  unfold run1 at h
  split at h
  · rename_i d hd
    split at h
    · rename_i o ho
      cases h
      exact pure_of_run mixed tyTab_ok (callN_ok mixed tyTab_ok hT fn1_ok 1000 6) (fn1_ok _ _ hd) ho hob hv hval
    · cases h
  · cases h

def none1 : CallT := fun _ _ _ _ => none
theorem none1_ok : CallOk Try.prog none1 := by intro f args m nid out h; cases h
def sw (l : List Value) : SV := .one ⟨true, l.map .v⟩
def uv (n : Nat) : Value := .int .u64 (n : Int)

/-! ### constants -/
def pRow : Row where
  f := 23
  ans := fun
    | [] => some (.one (W6 pN), [])
    | _ => none
theorem p_run : run1 none1 23 [] [] = some (sw ((List.range 6).map fun i => uv (dg pN i)), []) := by kernel_rfl
theorem val_W6 (ρ : Rho) (n : Nat) : (W6 n).val ρ = some (.agg (words 6 n).toArray) := by simp [W6, AV.val, conc, It.cs]
theorem sw_val {ρ : Rho} {l : List Value} {u : Value} (h : (sw l).val ρ = some u) : u = .agg l.toArray := by
  obtain ⟨vs, h1, h2⟩ := AV.cells (x := ⟨true, l.map .v⟩) (by exact h)
  have : ∀ (l vs : List Value), conc ρ (l.map It.v) = some vs → vs = l := by
    intro l
    induction l with
    | nil => intro vs h; cases h; rfl
    | cons x l ih =>
      intro vs h
      obtain ⟨a, b, ha, hb, rfl⟩ := conc_cons h
      simp only [It.cs] at ha
      split at ha
      · cases ha; rw [ih _ hb]; rfl
      · cases ha
  rcases h2 with ⟨_, h2⟩ | ⟨h2, _⟩
  · rw [h2, this _ _ h1]
  · cases h2
theorem range6_uv {d : Nat → Nat} (h : ∀ i, i < 6 → d i < 18446744073709551616) : (List.range 6).map (fun i => uv (d i)) = words 6 (num d 6) := (words_map 6 h).symm
theorem p_ok : RowOk Try.prog pRow := by
  intro args s ob h hob ρ vs hv
  unfold pRow at h
  simp only at h
  split at h
  · cases h; cases hv
    refine ⟨_, val_W6 rho0 pN, pure_of_run1 none1_ok p_run (fun p hp => by cases hp) rfl fun ρ u hu => ?_⟩
    rw [sw_val hu, range6_uv fun i _ => dg_lt _ _, num_dg, words_mod]
  · cases h
def sqRow : Row where
  f := 68
  ans := fun
    | [] => some (.one (W6 sqN), [])
    | _ => none
theorem sq_run : run1 none1 68 [] [] = some (sw ((List.range 6).map fun i => uv (dg sqN i)), []) := by kernel_rfl
theorem sq_ok : RowOk Try.prog sqRow := by
  intro args s ob h hob ρ vs hv
  unfold sqRow at h
  simp only at h
  split at h
  · cases h; cases hv
    refine ⟨_, val_W6 rho0 sqN, pure_of_run1 none1_ok sq_run (fun p hp => by cases hp) rfl fun ρ u hu => ?_⟩
    rw [sw_val hu, range6_uv fun i _ => dg_lt _ _, num_dg, words_mod]
  · cases h

/-! ### less -/
theorem M6_pos : 0 < M6 := pw_pos 6
def lessN (x h : Nat) : Nat := if x < pN then (if h = 0 then x else x + M6 - pN) else x - pN
def rows1 : List Row := [sub64Row, add64Row, pRow, sqRow]
theorem rows1_ok : ∀ r ∈ rows1, RowOk Try.prog r := by
  simp only [rows1, List.forall_mem_cons, List.not_mem_nil, false_imp_iff, implies_true, and_true]
  exact ⟨sub64_ok, add64_ok, p_ok, sq_ok⟩
def subOb (x y : Nat → Nat) (i : Nat) : Prop := (0 : Int) ≤ (x i : Int) ∧ (0 : Int) ≤ (y i : Int) ∧ (0 : Int) ≤ (bw x y i : Int) ∧ (bw x y i : Int) ≤ 1
theorem less_run1 (n h : Nat) : run1 (tableT rows1) 61 [W6 n, uw h] [(29, true)] = some (.one (W6 n), (List.range 6).map (subOb (dg n) (dg pN)) ++ [(bw (dg n) (dg pN) 6 : Int) > (h : Int) ↔ true = true]) := by kernel_rfl
theorem less_run0 (n h : Nat) : run1 (tableT rows1) 61 [W6 n, uw h] [(29, false)] = some (sw ((List.range 6).map fun i => uv (bd (dg n) (dg pN) i)), (List.range 6).map (subOb (dg n) (dg pN)) ++ [(bw (dg n) (dg pN) 6 : Int) > (h : Int) ↔ false = true]) := by kernel_rfl
theorem subOb_ok (x y : Nat → Nat) (i : Nat) : subOb x y i := by
  have := bw_le x y i
  unfold subOb; omega
theorem pN_lt : pN < M6 := by decide +kernel
theorem less_borrow (n : Nat) : num (bd (dg n) (dg pN)) 6 + pN = n % M6 + bw (dg n) (dg pN) 6 * M6 := by
  have := num_bd (x := dg n) (y := dg pN) 6 (fun i _ => dg_lt n i) (fun i _ => dg_lt pN i)
  rw [num_dg, num_dg] at this
  have e : pN % pw 6 = pN := Nat.mod_eq_of_lt pN_lt
  rw [e] at this
  exact this
theorem less_pure (n h : Nat) : Pure Try.prog 61 [.agg (words 6 n).toArray, uv h] (.agg (words 6 (lessN (n % M6) h)).toArray) := by
  have hb := less_borrow n
  have hlt := num_lt (d := bd (dg n) (dg pN)) 6 fun i _ => bd_lt _ _ i
  have hlt : num (bd (dg n) (dg pN)) 6 < M6 := hlt
  have hp := pN_lt
  have hn : n % M6 < M6 := Nat.mod_lt _ M6_pos
  have hbw := bw_le (dg n) (dg pN) 6
  have hv : vals rho0 [W6 n, uw h] = some [.agg (words 6 n).toArray, uv h] := by
    have e : AV.val rho0 (uw h) = some (uv h) := AV.val_v (ρ := rho0) (x := uv h) rfl
    simp only [vals, val_W6, e]
  by_cases hc : bw (dg n) (dg pN) 6 > h
  · refine pure_of_run1 (tableT_ok rows1_ok) (less_run1 n h) ?_ hv fun ρ u hu => ?_
    · intro q hq
      rw [List.mem_append] at hq
      rcases hq with hq | hq
      · obtain ⟨i, _, rfl⟩ := List.mem_map.1 hq; exact subOb_ok _ _ _
      · rw [List.mem_singleton.1 hq]; simp only [iff_true]; omega
    · have h1 : bw (dg n) (dg pN) 6 = 1 := by omega
      have h0 : h = 0 := by omega
      rw [h1] at hb
      have : n % M6 < pN := by omega
      have e : (W6 n).val ρ = some u := hu
      rw [val_W6] at e
      cases e
      have e2 : lessN (n % M6) h = n % M6 := by unfold lessN; rw [if_pos this, if_pos h0]
      rw [e2]
      exact congrArg (fun l => Value.agg (List.toArray l)) (words_mod 6 n).symm
  · refine pure_of_run1 (tableT_ok rows1_ok) (less_run0 n h) ?_ hv fun ρ u hu => ?_
    · intro q hq
      rw [List.mem_append] at hq
      rcases hq with hq | hq
      · obtain ⟨i, _, rfl⟩ := List.mem_map.1 hq; exact subOb_ok _ _ _
      · rw [List.mem_singleton.1 hq]; simp only [Bool.false_eq_true, iff_false]; omega
    · rw [sw_val hu, range6_uv fun i _ => bd_lt _ _ i]
      have e2 : num (bd (dg n) (dg pN)) 6 = lessN (n % M6) h := by
        unfold lessN
        by_cases h1 : bw (dg n) (dg pN) 6 = 1
        · have h0 : h ≠ 0 := by omega
          rw [h1] at hb
          have : n % M6 < pN := by omega
          rw [if_pos this, if_neg h0]; omega
        · have h1 : bw (dg n) (dg pN) 6 = 0 := by omega
          rw [h1] at hb
          have : ¬ n % M6 < pN := by omega
          rw [if_neg this]; omega
      rw [e2]
def lessRow : Row where
  f := 61
  ans := fun
    | [⟨true, l⟩, ⟨false, [.v (.int .u64 h)]⟩] => match asW6 l with
      | some (n, ob) => some (.one (W6 (lessN (n % M6) h.toNat)), ob ++ [0 ≤ h])
      | none => none
    | _ => none
theorem val_agg {ρ : Rho} {l : List It} {v : Value} (h : AV.val ρ ⟨true, l⟩ = some v) : ∃ vs, conc ρ l = some vs ∧ v = .agg vs.toArray := by
  obtain ⟨vs, h1, h2⟩ := AV.cells h
  rcases h2 with ⟨_, h2⟩ | ⟨h2, _⟩
  · exact ⟨vs, h1, h2⟩
  · cases h2
theorem vals_cons {ρ : Rho} {x : AV} {l : List AV} {vs : List Value} (h : vals ρ (x :: l) = some vs) : ∃ v us, x.val ρ = some v ∧ vals ρ l = some us ∧ vs = v :: us := by
  simp only [vals] at h
  split at h
  · rename_i v us hv hus; cases h; exact ⟨v, us, hv, hus, rfl⟩
  · cases h
theorem val_int {ρ : Rho} {k : IntKind} {n : Int} {v : Value} (h : AV.val ρ ⟨false, [.v (.int k n)]⟩ = some v) : v = .int k n := by
  have e : AV.val ρ ⟨false, [.v (.int k n)]⟩ = some (.int k n) := AV.val_v (ρ := ρ) (x := .int k n) rfl
  rw [e] at h; cases h; rfl
theorem less_ok : RowOk Try.prog lessRow := by
  intro args s ob h hob ρ vs hv
  unfold lessRow at h
  simp only at h
  split at h
  · rename_i l x
    split at h
    · rename_i n ob' hn
      cases h
      obtain ⟨v1, us, h1, h2, rfl⟩ := vals_cons hv
      obtain ⟨v2, us', h3, h4, rfl⟩ := vals_cons h2
      cases h4
      obtain ⟨ws, hw, rfl⟩ := val_agg h1
      have e := asW6_ok hn (fun p hp => hob p (List.mem_append_left _ hp)) hw
      subst e
      have e2 := val_int h3
      subst e2
      have h0 : 0 ≤ x := hob _ (List.mem_append_right _ (List.mem_singleton.2 rfl))
      obtain ⟨x, rfl⟩ := Int.eq_ofNat_of_zero_le h0
      refine ⟨_, val_W6 rho0 _, ?_⟩
      rw [Int.toNat_natCast]
      exact less_pure n x
    · cases h
  · cases h
end Go.Proofs.Ytkpihidjolfkoaa
