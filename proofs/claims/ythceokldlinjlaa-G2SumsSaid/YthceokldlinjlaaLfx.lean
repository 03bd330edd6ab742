/-
  Leaves, 1: bits.Add64, bits.Sub64, bits.Mul64; the functions' table of this translation.
-/
import Derived.Test.YthceokldlinjlaaTab
import Derived.Test.YthceokldlinjlaaEb
import Derived.Shelf.Spec.BitsCarry
import Derived.Lib.Mul64
import Derived.Test.YthceokldlinjlaaWd
namespace Go.Proofs.Ythceokldlinjlaa
open Go Go.Eng Go.RowKit

/-- A function of the program, by its number. -/
noncomputable def fn1 (f : FuncId) : Option Fn1 := match Try.prog.funcs[f]? with
  | some fn => match fn.body with
    | some b => match fn.name == "runtime.NumGoroutine" with
      | true => none
      | false => some { body := b, results := fn.results.toList, ntmps := fn.ntmps }
    | none => none
  | none => none
theorem fn1_ok : ∀ f d, fn1 f = some d → FnOk Try.prog f d := by
  intro f d h
  unfold fn1 at h
  split at h
  · rename_i fn hfn
    split at h
    · rename_i b hb
      split at h
      · cases h
      · rename_i hn; cases h; exact ⟨fn, hfn, hb, rfl, rfl, hn⟩
    · cases h
  · cases h

/-- A word's slot. -/
def uw (n : Nat) : AV := ⟨false, [.v (.int .u64 (n : Int))]⟩
def sub64Row : Row where
  f := 132
  ans := fun
    | [⟨false, [.v (.int .u64 x)]⟩, ⟨false, [.v (.int .u64 y)]⟩, ⟨false, [.v (.int .u64 b)]⟩] =>
      some (.tup [uw ((x.toNat + 18446744073709551616 - y.toNat - b.toNat) % 18446744073709551616), uw (if x.toNat < y.toNat + b.toNat then 1 else 0)], [0 ≤ x ∧ 0 ≤ y ∧ 0 ≤ b ∧ b ≤ 1])
    | _ => none
def add64Row : Row where
  f := 50
  ans := fun
    | [⟨false, [.v (.int .u64 x)]⟩, ⟨false, [.v (.int .u64 y)]⟩, ⟨false, [.v (.int .u64 b)]⟩] =>
      some (.tup [uw ((x.toNat + y.toNat + b.toNat) % 18446744073709551616), uw ((x.toNat + y.toNat + b.toNat) / 18446744073709551616)], [0 ≤ x ∧ 0 ≤ y ∧ 0 ≤ b ∧ b ≤ 1])
    | _ => none
theorem run_sub64' (x y b : Nat) (hb : b ≤ 1) (w : World) : (callFunc 132 #[.int .u64 x, .int .u64 y, .int .u64 b]).run Try.prog w =
    .ok (.value (.tuple #[.int .u64 (((x + 18446744073709551616 - y - b) % 18446744073709551616 : Nat) : Int), .int .u64 ((if x < y + b then 1 else 0 : Nat) : Int)])) w := by
  rw [run_callFunc_extern (Try.func132) (by kernel_rfl) (by kernel_rfl) (by kernel_rfl) (e := sub64Entry) (by kernel_rfl), run_sub64 x y b hb]
  rfl
theorem run_add64' (x y b : Nat) (hb : b ≤ 1) (w : World) : (callFunc 50 #[.int .u64 x, .int .u64 y, .int .u64 b]).run Try.prog w =
    .ok (.value (.tuple #[.int .u64 (((x + y + b) % 18446744073709551616 : Nat) : Int), .int .u64 (((x + y + b) / 18446744073709551616 : Nat) : Int)])) w := by
  rw [run_callFunc_extern (Try.func50) (by kernel_rfl) (by kernel_rfl) (by kernel_rfl) (e := add64Entry) (by kernel_rfl), run_add64 x y b (by omega) (by omega) (by omega) (by omega)]
  simp only [Result.andThen]
  congr 5 <;> omega
theorem vals_u3 {ρ : Rho} {x y b : Int} {vs : List Value} (h : vals ρ [⟨false, [.v (.int .u64 x)]⟩, ⟨false, [.v (.int .u64 y)]⟩, ⟨false, [.v (.int .u64 b)]⟩] = some vs) : vs = [.int .u64 x, .int .u64 y, .int .u64 b] := by
  have e : ∀ z : Int, AV.val ρ ⟨false, [.v (.int .u64 z)]⟩ = some (.int .u64 z) := fun z => AV.val_v (ρ := ρ) (x := .int .u64 z) rfl
  simp only [vals, e, Option.some.injEq] at h
  exact h.symm
theorem sub64_ok : RowOk Try.prog sub64Row := by
  intro args s ob h hob ρ vs hv
  unfold sub64Row at h
  simp only at h
  split at h
  · rename_i x y b
    cases h
    obtain ⟨hx, hy, hb0, hb⟩ := hob _ (List.mem_singleton.2 rfl)
    have e := vals_u3 hv
    subst e
    obtain ⟨x, rfl⟩ := Int.eq_ofNat_of_zero_le hx
    obtain ⟨y, rfl⟩ := Int.eq_ofNat_of_zero_le hy
    obtain ⟨b, rfl⟩ := Int.eq_ofNat_of_zero_le hb0
    refine ⟨_, rfl, fun w => .inl ⟨_, run_sub64' x y b (by omega) w, ?_, Below.refl _ _⟩⟩
    simp only [Int.toNat_natCast]
  · cases h
theorem add64_ok : RowOk Try.prog add64Row := by
  intro args s ob h hob ρ vs hv
  unfold add64Row at h
  simp only at h
  split at h
  · rename_i x y b
    cases h
    obtain ⟨hx, hy, hb0, hb⟩ := hob _ (List.mem_singleton.2 rfl)
    have e := vals_u3 hv
    subst e
    obtain ⟨x, rfl⟩ := Int.eq_ofNat_of_zero_le hx
    obtain ⟨y, rfl⟩ := Int.eq_ofNat_of_zero_le hy
    obtain ⟨b, rfl⟩ := Int.eq_ofNat_of_zero_le hb0
    refine ⟨_, rfl, fun w => .inl ⟨_, run_add64' x y b (by omega) w, ?_, Below.refl _ _⟩⟩
    simp only [Int.toNat_natCast]
  · cases h
end Go.Proofs.Ythceokldlinjlaa
/-
  Leaves, 2: fp.P, fp.square, fp.less: what they hand back.
-/
namespace Go.Proofs.Ythceokldlinjlaa
open Go Go.Eng Go.RowKit Go.Wd

/-- 2^384: what six words hold. -/
def M6 : Nat := pw 6
/-- The modulus. -/
def pN : Nat := 0x1a0111ea397fe69a4b1ba7b6434bacd764774b84f38512bf6730d2a0f6b0f6241eabfffeb153ffffb9feffffffffaaab
/-- 2^768 modulo it. -/
def sqN : Nat := 0x11988fe592cae3aa9a793e85b519952d67eb88a9939d83c08de5476c4c95b6d50a76e6a609d104f1f4df1f341c341746
def W6 (n : Nat) : AV := ⟨true, [.w 6 n]⟩
/-- Six words as a number, and what is owed for it. -/
def asW6 : List It → Option (Nat × List Prop)
  | [.w 6 n] => some (n, [])
  | [.v (.int .u64 a), .v (.int .u64 b), .v (.int .u64 c), .v (.int .u64 d), .v (.int .u64 e), .v (.int .u64 f)] =>
    some (num (fun i => ([a, b, c, d, e, f].getD i 0).toNat) 6, [∀ x ∈ [a, b, c, d, e, f], 0 ≤ x ∧ x < 18446744073709551616])
  | _ => none
theorem asW6_ok {l : List It} {n : Nat} {ob : List Prop} (h : asW6 l = some (n, ob)) (hob : ∀ p ∈ ob, p) {ρ : Rho} {vs : List Value} (hv : conc ρ l = some vs) : vs = words 6 n := by
  unfold asW6 at h
  split at h
  · cases h; cases hv; simp
  · rename_i a b c d e f
    cases h
    have hall := hob _ (List.mem_singleton.2 rfl)
    have hc : conc ρ ([Value.int .u64 a, .int .u64 b, .int .u64 c, .int .u64 d, .int .u64 e, .int .u64 f].map It.v) = some [.int .u64 a, .int .u64 b, .int .u64 c, .int .u64 d, .int .u64 e, .int .u64 f] :=
      val_plain ρ _ (by intro v hv; simp only [List.mem_cons, List.not_mem_nil, or_false] at hv; rcases hv with rfl | rfl | rfl | rfl | rfl | rfl <;> rfl)
    have e0 : vs = [.int .u64 a, .int .u64 b, .int .u64 c, .int .u64 d, .int .u64 e, .int .u64 f] := Option.some.inj (hv.symm.trans hc)
    have h0 := hall a (by simp)
    have h1 := hall b (by simp)
    have h2 := hall c (by simp)
    have h3 := hall d (by simp)
    have h4 := hall e (by simp)
    have h5 := hall f (by simp)
    rw [e0, words_map 6 (fun i hi => by
      have : i = 0 ∨ i = 1 ∨ i = 2 ∨ i = 3 ∨ i = 4 ∨ i = 5 := by omega
      rcases this with rfl | rfl | rfl | rfl | rfl | rfl <;> simp <;> omega)]
    simp only [List.range, List.range.loop, List.map_cons, List.map_nil, List.getD_cons_zero, List.getD_cons_succ, List.cons.injEq, Value.int.injEq, true_and, and_true]
    refine ⟨?_, ?_, ?_, ?_, ?_, ?_⟩ <;> omega
  · cases h

/-- One run: the answer, and what is owed. -/
noncomputable def run1 (T : CallT) (f : FuncId) (args : List AV) (hints : List (Nat × Bool)) : Option (SV × List Prop) := match fn1 f with
  | some d => match runFn tyTab (callN tyTab T fn1 1000 6) 1000 d args [] 16 hints with
    | some o => some (o.val, o.ob)
    | none => none
  | none => none
/-- A run with hints for the functions that are called, too. -/
noncomputable def run1H (T : CallT) (hf : FuncId → List (Nat × Bool)) (f : FuncId) (args : List AV) : Option (SV × List Prop) := match fn1 f with
  | some d => match runFn tyTab (callH tyTab T fn1 1000 hf 6) 1000 d args [] 16 (hf f) with
    | some o => some (o.val, o.ob)
    | none => none
  | none => none
theorem pure_of_run1H {T : CallT} (hT : CallOk Try.prog T) {hf : FuncId → List (Nat × Bool)} {f : FuncId} {args : List AV} {s : SV} {ob : List Prop} (h : run1H T hf f args = some (s, ob)) (hob : ∀ p ∈ ob, p) {vs : List Value} (hv : vals rho0 args = some vs)
    {v : Value} (hval : ∀ ρ u, s.val ρ = some u → u = v) : Pure Try.prog f vs v := by
  unfold run1H at h
  split at h
  · rename_i d hd
    split at h
    · rename_i o ho
      cases h
      exact pure_of_run mixed tyTab_ok (callH_ok mixed tyTab_ok hT fn1_ok 1000 hf 6) (fn1_ok _ _ hd) ho hob hv hval
    · cases h
  · cases h
theorem pure_of_run1 {T : CallT} (hT : CallOk Try.prog T) {f : FuncId} {args : List AV} {hints : List (Nat × Bool)} {s : SV} {ob : List Prop} (h : run1 T f args hints = some (s, ob)) (hob : ∀ p ∈ ob, p) {vs : List Value} (hv : vals rho0 args = some vs)
    {v : Value} (hval : ∀ ρ u, s.val ρ = some u → u = v) : Pure Try.prog f vs v := by
  unfold run1 at h
  split at h
  · rename_i d hd
    split at h
    · rename_i o ho
      cases h
      exact pure_of_run mixed tyTab_ok (callN_ok mixed tyTab_ok hT fn1_ok 1000 6) (fn1_ok _ _ hd) ho hob hv hval
    · cases h
  · cases h

def none1 : CallT := fun _ _ _ _ => none
theorem none1_ok : CallOk Try.prog none1 := by intro f args m nid out h; cases h
def sw (l : List Value) : SV := .one ⟨true, l.map .v⟩
def uv (n : Nat) : Value := .int .u64 (n : Int)

/-! ### constants -/
def pRow : Row where
  f := 131
  ans := fun
    | [] => some (.one (W6 pN), [])
    | _ => none
theorem p_run : run1 none1 131 [] [] = some (sw ((List.range 6).map fun i => uv (dg pN i)), []) := by kernel_rfl
theorem val_W6 (ρ : Rho) (n : Nat) : (W6 n).val ρ = some (.agg (words 6 n).toArray) := by simp [W6, AV.val, conc, It.cs]
theorem sw_val {ρ : Rho} {l : List Value} {u : Value} (h : (sw l).val ρ = some u) : u = .agg l.toArray := by
  obtain ⟨vs, h1, h2⟩ := AV.cells (x := ⟨true, l.map .v⟩) (by exact h)
  have : ∀ (l vs : List Value), conc ρ (l.map It.v) = some vs → vs = l := by
    intro l
    induction l with
    | nil => intro vs h; cases h; rfl
    | cons x l ih =>
      intro vs h
      obtain ⟨a, b, ha, hb, rfl⟩ := conc_cons h
      simp only [It.cs] at ha
      split at ha
      · cases ha; rw [ih _ hb]; rfl
      · cases ha
  rcases h2 with ⟨_, h2⟩ | ⟨h2, _⟩
  · rw [h2, this _ _ h1]
  · cases h2
theorem range6_uv {d : Nat → Nat} (h : ∀ i, i < 6 → d i < 18446744073709551616) : (List.range 6).map (fun i => uv (d i)) = words 6 (num d 6) := (words_map 6 h).symm
theorem p_ok : RowOk Try.prog pRow := by
  intro args s ob h hob ρ vs hv
  unfold pRow at h
  simp only at h
  split at h
  · cases h; cases hv
    refine ⟨_, val_W6 rho0 pN, pure_of_run1 none1_ok p_run (fun p hp => by cases hp) rfl fun ρ u hu => ?_⟩
    rw [sw_val hu, range6_uv fun i _ => dg_lt _ _, num_dg, words_mod]
  · cases h
def sqRow : Row where
  f := 107
  ans := fun
    | [] => some (.one (W6 sqN), [])
    | _ => none
theorem sq_run : run1 none1 107 [] [] = some (sw ((List.range 6).map fun i => uv (dg sqN i)), []) := by kernel_rfl
theorem sq_ok : RowOk Try.prog sqRow := by
  intro args s ob h hob ρ vs hv
  unfold sqRow at h
  simp only at h
  split at h
  · cases h; cases hv
    refine ⟨_, val_W6 rho0 sqN, pure_of_run1 none1_ok sq_run (fun p hp => by cases hp) rfl fun ρ u hu => ?_⟩
    rw [sw_val hu, range6_uv fun i _ => dg_lt _ _, num_dg, words_mod]
  · cases h

/-! ### less -/
theorem M6_pos : 0 < M6 := pw_pos 6
def lessN (x h : Nat) : Nat := if x < pN then (if h = 0 then x else x + M6 - pN) else x - pN
def rows1 : List Row := [sub64Row, add64Row, pRow, sqRow]
theorem rows1_ok : ∀ r ∈ rows1, RowOk Try.prog r := by
  simp only [rows1, List.forall_mem_cons, List.not_mem_nil, false_imp_iff, implies_true, and_true]
  exact ⟨sub64_ok, add64_ok, p_ok, sq_ok⟩
def subOb (x y : Nat → Nat) (i : Nat) : Prop := (0 : Int) ≤ (x i : Int) ∧ (0 : Int) ≤ (y i : Int) ∧ (0 : Int) ≤ (bw x y i : Int) ∧ (bw x y i : Int) ≤ 1
theorem less_run1 (n h : Nat) : run1 (tableT rows1) 108 [W6 n, uw h] [(29, true)] = some (.one (W6 n), (List.range 6).map (subOb (dg n) (dg pN)) ++ [(bw (dg n) (dg pN) 6 : Int) > (h : Int) ↔ true = true]) := by kernel_rfl
theorem less_run0 (n h : Nat) : run1 (tableT rows1) 108 [W6 n, uw h] [(29, false)] = some (sw ((List.range 6).map fun i => uv (bd (dg n) (dg pN) i)), (List.range 6).map (subOb (dg n) (dg pN)) ++ [(bw (dg n) (dg pN) 6 : Int) > (h : Int) ↔ false = true]) := by kernel_rfl
theorem subOb_ok (x y : Nat → Nat) (i : Nat) : subOb x y i := by
  have := bw_le x y i
  unfold subOb; omega
theorem pN_lt : pN < M6 := by decide +kernel
theorem less_borrow (n : Nat) : num (bd (dg n) (dg pN)) 6 + pN = n % M6 + bw (dg n) (dg pN) 6 * M6 := by
  have := num_bd (x := dg n) (y := dg pN) 6 (fun i _ => dg_lt n i) (fun i _ => dg_lt pN i)
  rw [num_dg, num_dg] at this
  have e : pN % pw 6 = pN := Nat.mod_eq_of_lt pN_lt
  rw [e] at this
  exact this
theorem less_pure (n h : Nat) : Pure Try.prog 108 [.agg (words 6 n).toArray, uv h] (.agg (words 6 (lessN (n % M6) h)).toArray) := by
  have hb := less_borrow n
  have hlt := num_lt (d := bd (dg n) (dg pN)) 6 fun i _ => bd_lt _ _ i
  have hlt : num (bd (dg n) (dg pN)) 6 < M6 := hlt
  have hp := pN_lt
  have hn : n % M6 < M6 := Nat.mod_lt _ M6_pos
  have hbw := bw_le (dg n) (dg pN) 6
  have hv : vals rho0 [W6 n, uw h] = some [.agg (words 6 n).toArray, uv h] := by
    have e : AV.val rho0 (uw h) = some (uv h) := AV.val_v (ρ := rho0) (x := uv h) rfl
    simp only [vals, val_W6, e]
  by_cases hc : bw (dg n) (dg pN) 6 > h
  · refine pure_of_run1 (tableT_ok rows1_ok) (less_run1 n h) ?_ hv fun ρ u hu => ?_
    · intro q hq
      rw [List.mem_append] at hq
      rcases hq with hq | hq
      · obtain ⟨i, _, rfl⟩ := List.mem_map.1 hq; exact subOb_ok _ _ _
      · rw [List.mem_singleton.1 hq]; simp only [iff_true]; omega
    · have h1 : bw (dg n) (dg pN) 6 = 1 := by omega
      have h0 : h = 0 := by omega
      rw [h1] at hb
      have : n % M6 < pN := by omega
      have e : (W6 n).val ρ = some u := hu
      rw [val_W6] at e
      cases e
      have e2 : lessN (n % M6) h = n % M6 := by unfold lessN; rw [if_pos this, if_pos h0]
      rw [e2]
      exact congrArg (fun l => Value.agg (List.toArray l)) (words_mod 6 n).symm
  · refine pure_of_run1 (tableT_ok rows1_ok) (less_run0 n h) ?_ hv fun ρ u hu => ?_
    · intro q hq
      rw [List.mem_append] at hq
      rcases hq with hq | hq
      · obtain ⟨i, _, rfl⟩ := List.mem_map.1 hq; exact subOb_ok _ _ _
      · rw [List.mem_singleton.1 hq]; simp only [Bool.false_eq_true, iff_false]; omega
    · rw [sw_val hu, range6_uv fun i _ => bd_lt _ _ i]
      have e2 : num (bd (dg n) (dg pN)) 6 = lessN (n % M6) h := by
        unfold lessN
        by_cases h1 : bw (dg n) (dg pN) 6 = 1
        · have h0 : h ≠ 0 := by omega
          rw [h1] at hb
          have : n % M6 < pN := by omega
          rw [if_pos this, if_neg h0]; omega
        · have h1 : bw (dg n) (dg pN) 6 = 0 := by omega
          rw [h1] at hb
          have : ¬ n % M6 < pN := by omega
          rw [if_neg this]; omega
      rw [e2]
def lessRow : Row where
  f := 108
  ans := fun
    | [⟨true, l⟩, ⟨false, [.v (.int .u64 h)]⟩] => match asW6 l with
      | some (n, ob) => some (.one (W6 (lessN (n % M6) h.toNat)), ob ++ [0 ≤ h])
      | none => none
    | _ => none
theorem val_agg {ρ : Rho} {l : List It} {v : Value} (h : AV.val ρ ⟨true, l⟩ = some v) : ∃ vs, conc ρ l = some vs ∧ v = .agg vs.toArray := by
  obtain ⟨vs, h1, h2⟩ := AV.cells h
  rcases h2 with ⟨_, h2⟩ | ⟨h2, _⟩
  · exact ⟨vs, h1, h2⟩
  · cases h2
theorem vals_cons {ρ : Rho} {x : AV} {l : List AV} {vs : List Value} (h : vals ρ (x :: l) = some vs) : ∃ v us, x.val ρ = some v ∧ vals ρ l = some us ∧ vs = v :: us := by
  simp only [vals] at h
  split at h
  · rename_i v us hv hus; cases h; exact ⟨v, us, hv, hus, rfl⟩
  · cases h
theorem val_int {ρ : Rho} {k : IntKind} {n : Int} {v : Value} (h : AV.val ρ ⟨false, [.v (.int k n)]⟩ = some v) : v = .int k n := by
  have e : AV.val ρ ⟨false, [.v (.int k n)]⟩ = some (.int k n) := AV.val_v (ρ := ρ) (x := .int k n) rfl
  rw [e] at h; cases h; rfl
theorem less_ok : RowOk Try.prog lessRow := by
  intro args s ob h hob ρ vs hv
  unfold lessRow at h
  simp only at h
  split at h
  · rename_i l x
    split at h
    · rename_i n ob' hn
      cases h
      obtain ⟨v1, us, h1, h2, rfl⟩ := vals_cons hv
      obtain ⟨v2, us', h3, h4, rfl⟩ := vals_cons h2
      cases h4
      obtain ⟨ws, hw, rfl⟩ := val_agg h1
      have e := asW6_ok hn (fun p hp => hob p (List.mem_append_left _ hp)) hw
      subst e
      have e2 := val_int h3
      subst e2
      have h0 : 0 ≤ x := hob _ (List.mem_append_right _ (List.mem_singleton.2 rfl))
      obtain ⟨x, rfl⟩ := Int.eq_ofNat_of_zero_le h0
      refine ⟨_, val_W6 rho0 _, ?_⟩
      rw [Int.toNat_natCast]
      exact less_pure n x
    · cases h
  · cases h
end Go.Proofs.Ythceokldlinjlaa
/-
  Leaves, 3: fp.Reduce, Add, Neg, Sub, minusOf.
-/
namespace Go.Proofs.Ythceokldlinjlaa
open Go Go.Eng Go.RowKit Go.Wd

def lt1 (n : Nat) : Nat := lessN (n % M6) 0
def itN : Nat → Nat → Nat
  | 0, n => n
  | k + 1, n => lt1 (itN k n)
def eqOb (b : Bool) (n : Nat) : Prop := plainVals [.w 6 (lt1 n)] = plainVals [.w 6 n] ↔ b = true
def rdHints (k : Nat) : List (Nat × Bool) := List.replicate k (8, false) ++ [(8, true)]
def rdObs (k n : Nat) : List Prop := ((List.range k).flatMap fun j => [(0 : Int) ≤ 0, eqOb false (itN j n)]) ++ [(0 : Int) ≤ 0, eqOb true (itN k n)]
def rows2 : List Row := lessRow :: rows1
theorem rows2_ok : ∀ r ∈ rows2, RowOk Try.prog r := by
  simp only [rows2, List.forall_mem_cons]
  exact ⟨less_ok, rows1_ok⟩
def RdRun (k n : Nat) : Prop := run1 (tableT rows2) 106 [W6 n] (rdHints k) = some (.one (W6 (itN k n)), rdObs k n)
theorem rd0 (n : Nat) : run1 (tableT rows2) 106 [W6 n] (rdHints 0) = some (.one (W6 (itN 0 n)), rdObs 0 n) := by kernel_rfl
theorem rd1 (n : Nat) : run1 (tableT rows2) 106 [W6 n] (rdHints 1) = some (.one (W6 (itN 1 n)), rdObs 1 n) := by kernel_rfl
theorem rd2 (n : Nat) : run1 (tableT rows2) 106 [W6 n] (rdHints 2) = some (.one (W6 (itN 2 n)), rdObs 2 n) := by kernel_rfl
theorem rd3 (n : Nat) : run1 (tableT rows2) 106 [W6 n] (rdHints 3) = some (.one (W6 (itN 3 n)), rdObs 3 n) := by kernel_rfl
theorem rd4 (n : Nat) : run1 (tableT rows2) 106 [W6 n] (rdHints 4) = some (.one (W6 (itN 4 n)), rdObs 4 n) := by kernel_rfl
theorem rd5 (n : Nat) : run1 (tableT rows2) 106 [W6 n] (rdHints 5) = some (.one (W6 (itN 5 n)), rdObs 5 n) := by kernel_rfl
theorem rd6 (n : Nat) : run1 (tableT rows2) 106 [W6 n] (rdHints 6) = some (.one (W6 (itN 6 n)), rdObs 6 n) := by kernel_rfl
theorem rd7 (n : Nat) : run1 (tableT rows2) 106 [W6 n] (rdHints 7) = some (.one (W6 (itN 7 n)), rdObs 7 n) := by kernel_rfl
theorem rd8 (n : Nat) : run1 (tableT rows2) 106 [W6 n] (rdHints 8) = some (.one (W6 (itN 8 n)), rdObs 8 n) := by kernel_rfl
theorem rd9 (n : Nat) : run1 (tableT rows2) 106 [W6 n] (rdHints 9) = some (.one (W6 (itN 9 n)), rdObs 9 n) := by kernel_rfl

/-! ### Reduce: what it is -/
theorem lt1_small {x : Nat} (h : x < pN) : lt1 x = x := by
  have := pN_lt
  unfold lt1 lessN
  rw [Nat.mod_eq_of_lt (by omega), if_pos h, if_pos rfl]
theorem lt1_big {x : Nat} (h : pN ≤ x) (h2 : x < M6) : lt1 x = x - pN := by
  unfold lt1 lessN
  rw [Nat.mod_eq_of_lt h2, if_neg (by omega)]
theorem pN_pos : 0 < pN := by decide +kernel
theorem itN_eq (n : Nat) (k : Nat) : (k + 1) * pN ≤ n % M6 → itN (k + 1) n = n % M6 - (k + 1) * pN := by
  have hM := M6_pos
  have hn : n % M6 < M6 := Nat.mod_lt _ hM
  induction k with
  | zero =>
    intro h
    simp only [Nat.zero_add, Nat.one_mul] at h ⊢
    simp only [itN, lt1, lessN]
    rw [if_neg (by omega)]
  | succ k ih =>
    intro h
    have e : (k + 1 + 1) * pN = (k + 1) * pN + pN := Nat.succ_mul _ _
    rw [e] at h ⊢
    have h1 := ih (by omega)
    rw [itN, h1, lt1_big (by omega) (by omega)]
    omega
theorem eqOb_iff (b : Bool) (n : Nat) : eqOb b n ↔ (lt1 n % M6 = n % M6 ↔ b = true) := by
  unfold eqOb
  have e : (plainVals [.w 6 (lt1 n)] = plainVals [.w 6 n]) ↔ lt1 n % M6 = n % M6 := by
    simp only [plainVals, List.append_nil]
    constructor
    · intro h; exact words_inj h
    · intro h; rw [← words_mod 6 (lt1 n), ← words_mod 6 n]; unfold M6 at h; rw [h]
  rw [e]
theorem rd_sub {x : Nat} (h : pN ≤ x) (h2 : x < M6) : eqOb false x := by
  have := pN_pos
  rw [eqOb_iff, lt1_big h h2, Nat.mod_eq_of_lt h2, Nat.mod_eq_of_lt (by omega)]
  simp only [Bool.false_eq_true, iff_false]; omega
theorem itN_mod (n k : Nat) (h : k * pN ≤ n % M6) : itN k n % M6 = n % M6 - k * pN := by
  have hM := M6_pos
  have hn : n % M6 < M6 := Nat.mod_lt _ hM
  cases k with
  | zero => simp [itN]
  | succ k => rw [itN_eq n k h, Nat.mod_eq_of_lt (by omega)]
theorem lt1_mod (n : Nat) : lt1 (n % M6) = lt1 n := by unfold lt1; rw [Nat.mod_mod]
theorem eqOb_mod (b : Bool) (n : Nat) : eqOb b n ↔ eqOb b (n % M6) := by rw [eqOb_iff, eqOb_iff, lt1_mod, Nat.mod_mod]
theorem rdObs_ok (n k : Nat) (h1 : k * pN ≤ n % M6) (h2 : n % M6 < k * pN + pN) : ∀ q ∈ rdObs k n, q := by
  have hM := M6_pos
  have hn : n % M6 < M6 := Nat.mod_lt _ hM
  intro q hq
  unfold rdObs at hq
  rw [List.mem_append] at hq
  rcases hq with hq | hq
  · rw [List.mem_flatMap] at hq
    obtain ⟨j, hj, hq⟩ := hq
    have hj : j < k := by simpa using hj
    simp only [List.mem_cons, List.not_mem_nil, or_false] at hq
    rcases hq with rfl | rfl
    · exact Int.le_refl 0
    · have h3 : (j + 1) * pN ≤ k * pN := Nat.mul_le_mul_right _ hj
      rw [Nat.succ_mul] at h3
      rw [eqOb_mod, itN_mod n j (by omega)]
      exact rd_sub (by omega) (by omega)
  · simp only [List.mem_cons, List.not_mem_nil, or_false] at hq
    rcases hq with rfl | rfl
    · exact Int.le_refl 0
    · rw [eqOb_mod, itN_mod n k h1, eqOb_iff, lt1_small (by omega)]; simp
theorem M6_lt : M6 < 10 * pN := by decide +kernel
theorem rd_pure (n : Nat) : Pure Try.prog 106 [.agg (words 6 n).toArray] (.agg (words 6 (n % M6 % pN)).toArray) := by
  have hM := M6_pos
  have hn : n % M6 < M6 := Nat.mod_lt _ hM
  have hp := pN_pos
  have hq := M6_lt
  have h1 : n % M6 / pN * pN ≤ n % M6 := Nat.div_mul_le_self _ _
  have h2 : n % M6 < n % M6 / pN * pN + pN := by
    have := Nat.mod_lt (n % M6) hp
    have e := Nat.div_add_mod (n % M6) pN
    rw [Nat.mul_comm] at e
    omega
  have hk : n % M6 / pN < 10 := by
    rw [Nat.div_lt_iff_lt_mul hp]; omega
  have hfin : words 6 (itN (n % M6 / pN) n) = words 6 (n % M6 % pN) := by
    rw [← words_mod 6 (itN _ n)]
    have : itN (n % M6 / pN) n % pw 6 = n % M6 - n % M6 / pN * pN := itN_mod n _ h1
    rw [this]
    have e := Nat.div_add_mod (n % M6) pN
    rw [Nat.mul_comm] at e
    congr 1; omega
  have fin : RdRun (n % M6 / pN) n → Pure Try.prog 106 [.agg (words 6 n).toArray] (.agg (words 6 (n % M6 % pN)).toArray) := by
    intro hr
    refine pure_of_run1 (tableT_ok rows2_ok) hr (rdObs_ok n _ h1 h2) (by simp only [vals, val_W6]) fun ρ u hu => ?_
    have e : (W6 (itN (n % M6 / pN) n)).val ρ = some u := hu
    rw [val_W6] at e
    cases e
    rw [hfin]
  refine fin ?_
  generalize n % M6 / pN = k at hk
  have : k = 0 ∨ k = 1 ∨ k = 2 ∨ k = 3 ∨ k = 4 ∨ k = 5 ∨ k = 6 ∨ k = 7 ∨ k = 8 ∨ k = 9 := by omega
  rcases this with rfl | rfl | rfl | rfl | rfl | rfl | rfl | rfl | rfl | rfl
  · exact rd0 n
  · exact rd1 n
  · exact rd2 n
  · exact rd3 n
  · exact rd4 n
  · exact rd5 n
  · exact rd6 n
  · exact rd7 n
  · exact rd8 n
  · exact rd9 n
/-- A row for a function of one Fp. -/
def row1 (f : FuncId) (g : Nat → Nat) : Row where
  f := f
  ans := fun
    | [⟨true, l⟩] => match asW6 l with
      | some (n, ob) => some (.one (W6 (g n)), ob)
      | none => none
    | _ => none
theorem row1_ok {f : FuncId} {g : Nat → Nat} (h : ∀ n, Pure Try.prog f [.agg (words 6 n).toArray] (.agg (words 6 (g n)).toArray)) : RowOk Try.prog (row1 f g) := by
  intro args s ob ha hob ρ vs hv
  unfold row1 at ha
  simp only at ha
  split at ha
  · rename_i l
    split at ha
    · rename_i n ob' hn
      cases ha
      obtain ⟨v1, us, h1, h2, rfl⟩ := vals_cons hv
      cases h2
      obtain ⟨ws, hw, rfl⟩ := val_agg h1
      have e := asW6_ok hn hob hw
      subst e
      exact ⟨_, val_W6 rho0 _, h n⟩
    · cases ha
  · cases ha
/-- A row for a function of two. -/
def row2 (f : FuncId) (g : Nat → Nat → Nat) : Row where
  f := f
  ans := fun
    | [⟨true, l⟩, ⟨true, m⟩] => match asW6 l, asW6 m with
      | some (n, ob), some (n', ob') => some (.one (W6 (g n n')), ob ++ ob')
      | _, _ => none
    | _ => none
theorem row2_ok {f : FuncId} {g : Nat → Nat → Nat} (h : ∀ n m, Pure Try.prog f [.agg (words 6 n).toArray, .agg (words 6 m).toArray] (.agg (words 6 (g n m)).toArray)) : RowOk Try.prog (row2 f g) := by
  intro args s ob ha hob ρ vs hv
  unfold row2 at ha
  simp only at ha
  split at ha
  · rename_i l m
    split at ha
    · rename_i n ob1 n' ob2 hn hm
      cases ha
      obtain ⟨v1, us, h1, h2, rfl⟩ := vals_cons hv
      obtain ⟨v2, us', h3, h4, rfl⟩ := vals_cons h2
      cases h4
      obtain ⟨ws, hw, rfl⟩ := val_agg h1
      obtain ⟨ws', hw', rfl⟩ := val_agg h3
      have e := asW6_ok hn (fun p hp => hob p (List.mem_append_left _ hp)) hw
      have e' := asW6_ok hm (fun p hp => hob p (List.mem_append_right _ hp)) hw'
      subst e; subst e'
      exact ⟨_, val_W6 rho0 _, h n n'⟩
    · cases ha
  · cases ha
theorem pure1_of_run {T : CallT} (hT : CallOk Try.prog T) {f : FuncId} {n r : Nat} {hints : List (Nat × Bool)} {x : Nat} {ob : List Prop} (h : run1 T f [W6 n] hints = some (.one (W6 x), ob)) (hob : ∀ p ∈ ob, p) (he : words 6 x = words 6 r) :
    Pure Try.prog f [.agg (words 6 n).toArray] (.agg (words 6 r).toArray) :=
  pure_of_run1 hT h hob (by simp only [vals, val_W6]) fun ρ u hu => by
    have e : (W6 x).val ρ = some u := hu
    rw [val_W6] at e
    cases e
    rw [he]
theorem pure2_of_run {T : CallT} (hT : CallOk Try.prog T) {f : FuncId} {n m r : Nat} {hints : List (Nat × Bool)} {x : Nat} {ob : List Prop} (h : run1 T f [W6 n, W6 m] hints = some (.one (W6 x), ob)) (hob : ∀ p ∈ ob, p) (he : words 6 x = words 6 r) :
    Pure Try.prog f [.agg (words 6 n).toArray, .agg (words 6 m).toArray] (.agg (words 6 r).toArray) :=
  pure_of_run1 hT h hob (by simp only [vals, val_W6]) fun ρ u hu => by
    have e : (W6 x).val ρ = some u := hu
    rw [val_W6] at e
    cases e
    rw [he]
def rd (n : Nat) : Nat := n % M6 % pN
def rows3 : List Row := row1 106 rd :: rows2
theorem rows3_ok : ∀ r ∈ rows3, RowOk Try.prog r := by
  simp only [rows3, List.forall_mem_cons]
  exact ⟨row1_ok rd_pure, rows2_ok⟩

/-! ### Add, Neg, Sub -/
def asN6 (d : Nat → Nat) : Nat := num (fun i => ([((d 0 : Nat) : Int), ((d 1 : Nat) : Int), ((d 2 : Nat) : Int), ((d 3 : Nat) : Int), ((d 4 : Nat) : Int), ((d 5 : Nat) : Int)].getD i 0).toNat) 6
def ob6 (d : Nat → Nat) : Prop := ∀ x ∈ [((d 0 : Nat) : Int), ((d 1 : Nat) : Int), ((d 2 : Nat) : Int), ((d 3 : Nat) : Int), ((d 4 : Nat) : Int), ((d 5 : Nat) : Int)], 0 ≤ x ∧ x < 18446744073709551616
theorem asN6_eq (d : Nat → Nat) : asN6 d = num d 6 := by
  unfold asN6
  apply num_congr
  intro i hi
  have : i = 0 ∨ i = 1 ∨ i = 2 ∨ i = 3 ∨ i = 4 ∨ i = 5 := by omega
  rcases this with rfl | rfl | rfl | rfl | rfl | rfl <;> simp
theorem ob6_ok {d : Nat → Nat} (h : ∀ i, d i < 18446744073709551616) : ob6 d := by
  intro x hx
  simp only [List.mem_cons, List.not_mem_nil, or_false] at hx
  have h0 := h 0; have h1 := h 1; have h2 := h 2; have h3 := h 3; have h4 := h 4; have h5 := h 5
  rcases hx with rfl | rfl | rfl | rfl | rfl | rfl <;> omega
def addOb (c : Nat) (x y : Nat → Nat) (i : Nat) : Prop := (0 : Int) ≤ (x i : Int) ∧ (0 : Int) ≤ (y i : Int) ∧ (0 : Int) ≤ (cw c x y i : Int) ∧ (cw c x y i : Int) ≤ 1
theorem add_run (m n : Nat) : run1 (tableT rows3) 69 [W6 m, W6 n] [] = some (.one (W6 (lessN (asN6 (cd 0 (dg (rd m)) (dg (rd n))) % M6) (cw 0 (dg (rd m)) (dg (rd n)) 6))),
    (List.range 6).map (addOb 0 (dg (rd m)) (dg (rd n))) ++ [ob6 (cd 0 (dg (rd m)) (dg (rd n))), (0 : Int) ≤ (cw 0 (dg (rd m)) (dg (rd n)) 6 : Int)]) := by kernel_rfl
def addN (m n : Nat) : Nat := (rd m + rd n) % pN
theorem rd_lt (n : Nat) : rd n < pN := Nat.mod_lt _ pN_pos
theorem M6_2p : 2 * pN < M6 := by decide +kernel
theorem dg_rd (n : Nat) : num (dg (rd n)) 6 = rd n := by
  rw [num_dg]
  have := rd_lt n
  have := M6_2p
  exact Nat.mod_eq_of_lt (show rd n < M6 by omega)
theorem add_pure (m n : Nat) : Pure Try.prog 69 [.agg (words 6 m).toArray, .agg (words 6 n).toArray] (.agg (words 6 (addN m n)).toArray) := by
  have hx := rd_lt m
  have hy := rd_lt n
  have h2 := M6_2p
  have hs := num_cd (c := 0) (x := dg (rd m)) (y := dg (rd n)) 6
  rw [dg_rd, dg_rd] at hs
  have hl := num_lt (d := cd 0 (dg (rd m)) (dg (rd n))) 6 fun i _ => cd_lt _ _ _ i
  have hl : num (cd 0 (dg (rd m)) (dg (rd n))) 6 < M6 := hl
  have hc : cw 0 (dg (rd m)) (dg (rd n)) 6 = 0 := by
    rcases Nat.eq_zero_or_pos (cw 0 (dg (rd m)) (dg (rd n)) 6) with h | h
    · exact h
    · have : 1 * pw 6 ≤ cw 0 (dg (rd m)) (dg (rd n)) 6 * pw 6 := Nat.mul_le_mul_right _ h
      have e : M6 = pw 6 := rfl
      omega
  rw [hc, Nat.zero_mul, Nat.add_zero, Nat.add_zero] at hs
  refine pure2_of_run (tableT_ok rows3_ok) (add_run m n) ?_ ?_
  · intro q hq
    simp only [List.mem_append, List.mem_cons, List.not_mem_nil, or_false] at hq
    rcases hq with hq | rfl | rfl
    · obtain ⟨i, _, rfl⟩ := List.mem_map.1 hq
      have : cw 0 (dg (rd m)) (dg (rd n)) i ≤ 1 := cw_le (by omega) i (fun _ _ => dg_lt _ _) (fun _ _ => dg_lt _ _)
      unfold addOb; omega
    · exact ob6_ok fun i => cd_lt _ _ _ i
    · omega
  · rw [asN6_eq, hc, hs, Nat.mod_eq_of_lt (by omega)]
    refine congrArg (words 6) ?_
    unfold lessN addN
    by_cases h : rd m + rd n < pN
    · rw [if_pos h, if_pos rfl, Nat.mod_eq_of_lt h]
    · rw [if_neg h, Nat.mod_eq_sub_mod (by omega), Nat.mod_eq_of_lt (by omega)]
theorem neg_run (n : Nat) : run1 (tableT rows3) 91 [W6 n] [] = some (.one (W6 (lessN (asN6 (bd (dg pN) (dg (rd n))) % M6) 0)),
    (List.range 6).map (subOb (dg pN) (dg (rd n))) ++ [ob6 (bd (dg pN) (dg (rd n))), (0 : Int) ≤ 0]) := by kernel_rfl
def negN (n : Nat) : Nat := (pN - rd n) % pN
theorem dg_pN : num (dg pN) 6 = pN := by
  rw [num_dg]
  exact Nat.mod_eq_of_lt pN_lt
theorem neg_pure (n : Nat) : Pure Try.prog 91 [.agg (words 6 n).toArray] (.agg (words 6 (negN n)).toArray) := by
  have hx := rd_lt n
  have h2 := M6_2p
  have hs := num_bd (x := dg pN) (y := dg (rd n)) 6 (fun i _ => dg_lt _ _) (fun i _ => dg_lt _ _)
  rw [dg_rd, dg_pN] at hs
  have hl : num (bd (dg pN) (dg (rd n))) 6 < M6 := num_lt (d := bd (dg pN) (dg (rd n))) 6 fun i _ => bd_lt _ _ i
  have hb := bw_le (dg pN) (dg (rd n)) 6
  have hc : bw (dg pN) (dg (rd n)) 6 = 0 := by
    rcases Nat.eq_zero_or_pos (bw (dg pN) (dg (rd n)) 6) with h | h
    · exact h
    · have h1 : bw (dg pN) (dg (rd n)) 6 = 1 := by omega
      rw [h1, Nat.one_mul] at hs
      have e : M6 = pw 6 := rfl
      omega
  rw [hc, Nat.zero_mul, Nat.add_zero] at hs
  refine pure1_of_run (tableT_ok rows3_ok) (neg_run n) ?_ ?_
  · intro q hq
    simp only [List.mem_append, List.mem_cons, List.not_mem_nil, or_false] at hq
    rcases hq with hq | rfl | rfl
    · obtain ⟨i, _, rfl⟩ := List.mem_map.1 hq; exact subOb_ok _ _ _
    · exact ob6_ok fun i => bd_lt _ _ i
    · exact Int.le_refl 0
  · have e : num (bd (dg pN) (dg (rd n))) 6 = pN - rd n := by omega
    rw [asN6_eq, e, Nat.mod_eq_of_lt (by omega)]
    refine congrArg (words 6) ?_
    unfold lessN negN
    by_cases h : pN - rd n < pN
    · rw [if_pos h, if_pos rfl, Nat.mod_eq_of_lt h]
    · have h0 : rd n = 0 := by omega
      rw [if_neg h, h0, Nat.sub_zero, Nat.mod_self, Nat.sub_self]
def rows4 : List Row := row2 69 addN :: row1 91 negN :: rows3
theorem rows4_ok : ∀ r ∈ rows4, RowOk Try.prog r := by
  simp only [rows4, List.forall_mem_cons]
  exact ⟨row2_ok add_pure, row1_ok neg_pure, rows3_ok⟩
theorem sub_run (m n : Nat) : run1 (tableT rows4) 93 [W6 m, W6 n] [] = some (.one (W6 (addN m (negN n))), []) := by kernel_rfl
theorem sub_pure (m n : Nat) : Pure Try.prog 93 [.agg (words 6 m).toArray, .agg (words 6 n).toArray] (.agg (words 6 (addN m (negN n))).toArray) :=
  pure2_of_run (tableT_ok rows4_ok) (sub_run m n) (fun p hp => by cases hp) rfl
end Go.Proofs.Ythceokldlinjlaa
/-
  Leaves, 4: bits.Mul64; the inner step of Montgomery's product.
-/
namespace Go.Proofs.Ythceokldlinjlaa
open Go Go.Eng Go.RowKit Go.Wd

/-! ### words as the model reckons them -/
theorem wrap_mod (n : Nat) : IntKind.u64.wrap (n : Int) = ((n % 18446744073709551616 : Nat) : Int) := by
  unfold IntKind.wrap
  have : (IntKind.u64.signed && decide ((n : Int) % 2 ^ IntKind.u64.bits ≥ 2 ^ (IntKind.u64.bits - 1))) = false := rfl
  simp only [IntKind.signed, IntKind.bits, Bool.false_and, Bool.false_eq_true, if_false]
  omega
theorem wrap_nat {n : Nat} (h : n < 18446744073709551616) : IntKind.u64.wrap (n : Int) = (n : Int) := by
  rw [wrap_mod, Nat.mod_eq_of_lt h]
theorem and32 (x : Nat) : Eng.bits .and .u64 (x : Int) 4294967295 = ((x % 4294967296 : Nat) : Int) := by
  have e : (BitVec.ofInt IntKind.u64.bits (x : Int) &&& BitVec.ofInt IntKind.u64.bits 4294967295).toNat = x % 4294967296 := by
    show (BitVec.ofInt 64 (x : Int) &&& BitVec.ofInt 64 4294967295).toNat = x % 4294967296
    rw [BitVec.toNat_and, BitVec.toNat_ofInt, BitVec.toNat_ofInt]
    have h1 : ((x : Int) % ((2 ^ 64 : Nat) : Int)).toNat = x % 2 ^ 64 := by omega
    have h2 : ((4294967295 : Int) % ((2 ^ 64 : Nat) : Int)).toNat = 2 ^ 32 - 1 := by decide
    rw [h1, h2, Nat.and_two_pow_sub_one_eq_mod, Nat.mod_mod_of_dvd _ (by decide)]
  unfold Eng.bits
  simp only [e]
  exact wrap_nat (by omega)
theorem shr32 (x : Nat) : ((x : Nat) : Int).fdiv (2 ^ min (Int.toNat 32) IntKind.u64.bits) = ((x / 4294967296 : Nat) : Int) := by
  have : (2 : Int) ^ min (Int.toNat 32) IntKind.u64.bits = ((4294967296 : Nat) : Int) := by decide
  rw [this, ← Int.ofNat_fdiv]
/-- What Mul64 reckons for the upper word. -/
def mulHi (x y : Int) : Int :=
  let s (z : Int) : Int := z.fdiv (2 ^ min (Int.toNat 32) IntKind.u64.bits)
  let m (z : Int) : Int := Eng.bits .and .u64 z 4294967295
  let wr (z : Int) : Int := IntKind.u64.wrap z
  wr (wr (wr (s x * s y) + s (wr (wr (s x * m y) + s (wr (m x * m y))))) + s (wr (m (wr (wr (s x * m y) + s (wr (m x * m y)))) + wr (m x * s y))))
theorem mulHi_eq (x y : Nat) (hx : x < 18446744073709551616) (hy : y < 18446744073709551616) : mulHi x y = ((x * y / 18446744073709551616 : Nat) : Int) := by
  obtain ⟨h1, h2, h3, h4⟩ := Go.Lib.mul64_hi x y hx hy
  have hb : x * y / 18446744073709551616 < 18446744073709551616 := by
    rw [Nat.div_lt_iff_lt_mul (by decide)]
    exact Nat.mul_lt_mul'' hx hy
  have hxy : x / 4294967296 * (y / 4294967296) < 18446744073709551616 := by
    have := Go.Lib.half_mul_le (a := x / 4294967296) (b := y / 4294967296) (by omega) (by omega); omega
  have hxm : x / 4294967296 * (y % 4294967296) < 18446744073709551616 := by
    have := Go.Lib.half_mul_le (a := x / 4294967296) (b := y % 4294967296) (by omega) (by omega); omega
  have hmx : x % 4294967296 * (y / 4294967296) < 18446744073709551616 := by
    have := Go.Lib.half_mul_le (a := x % 4294967296) (b := y / 4294967296) (by omega) (by omega); omega
  unfold mulHi
  simp only [shr32, and32, ← Int.natCast_mul]
  rw [wrap_nat h1, wrap_nat hxy, wrap_nat hxm, wrap_nat hmx]
  simp only [shr32, ← Int.natCast_add]
  rw [wrap_nat h2]
  simp only [shr32, and32, ← Int.natCast_add]
  rw [wrap_nat h3]
  simp only [shr32]
  rw [wrap_nat (n := x / 4294967296 * (y / 4294967296) + (x / 4294967296 * (y % 4294967296) + x % 4294967296 * (y % 4294967296) / 4294967296) / 4294967296) (by
    generalize x / 4294967296 * (y / 4294967296) = a at *
    generalize x / 4294967296 * (y % 4294967296) = b at *
    omega)]
  rw [← Int.natCast_add, h4, wrap_nat hb]
theorem mul64_run (x y : Nat) : run1 none1 56 [uw x, uw y] [] = some (.tup [⟨false, [.v (.int .u64 (mulHi x y))]⟩, ⟨false, [.v (.int .u64 (IntKind.u64.wrap ((x : Int) * (y : Int))))]⟩], []) := by kernel_rfl
theorem tup2_val {ρ : Rho} {a b : Int} {u : Value} (h : SV.val ρ (.tup [⟨false, [.v (.int .u64 a)]⟩, ⟨false, [.v (.int .u64 b)]⟩]) = some u) : u = .tuple #[.int .u64 a, .int .u64 b] := by
  have e : ∀ z : Int, AV.val ρ ⟨false, [.v (.int .u64 z)]⟩ = some (.int .u64 z) := fun z => AV.val_v (ρ := ρ) (x := .int .u64 z) rfl
  simp only [SV.val, vals, e, Option.some.injEq] at h
  exact h.symm
theorem mul64_pure (x y : Nat) (hx : x < 18446744073709551616) (hy : y < 18446744073709551616) : Pure Try.prog 56 [uv x, uv y] (.tuple #[uv (x * y / 18446744073709551616), uv (x * y % 18446744073709551616)]) := by
  refine pure_of_run1 none1_ok (mul64_run x y) (fun p hp => by cases hp) (vs := [uv x, uv y]) ?_ fun ρ u hu => ?_
  · have e : ∀ n : Nat, AV.val rho0 (uw n) = some (uv n) := fun n => AV.val_v (ρ := rho0) (x := uv n) rfl
    simp only [vals, e]
  · rw [tup2_val hu, mulHi_eq x y hx hy, ← Int.natCast_mul, wrap_mod]; rfl
def mul64Row : Row where
  f := 56
  ans := fun
    | [⟨false, [.v (.int .u64 x)]⟩, ⟨false, [.v (.int .u64 y)]⟩] =>
      some (.tup [uw (x.toNat * y.toNat / 18446744073709551616), uw (x.toNat * y.toNat % 18446744073709551616)], [0 ≤ x ∧ x < 18446744073709551616 ∧ 0 ≤ y ∧ y < 18446744073709551616])
    | _ => none
theorem mul64_ok : RowOk Try.prog mul64Row := by
  intro args s ob h hob ρ vs hv
  unfold mul64Row at h
  simp only at h
  split at h
  · rename_i x y
    cases h
    obtain ⟨hx, hx', hy, hy'⟩ := hob _ (List.mem_singleton.2 rfl)
    obtain ⟨v1, us, h1, h2, rfl⟩ := vals_cons hv
    obtain ⟨v2, us', h3, h4, rfl⟩ := vals_cons h2
    cases h4
    rw [val_int h1, val_int h3]
    obtain ⟨x, rfl⟩ := Int.eq_ofNat_of_zero_le hx
    obtain ⟨y, rfl⟩ := Int.eq_ofNat_of_zero_le hy
    refine ⟨_, rfl, ?_⟩
    simp only [Int.toNat_natCast]
    exact mul64_pure x y (by omega) (by omega)
  · cases h
def rows5 : List Row := mul64Row :: rows4
theorem rows5_ok : ∀ r ∈ rows5, RowOk Try.prog r := by
  simp only [rows5, List.forall_mem_cons]
  exact ⟨mul64_ok, rows4_ok⟩
end Go.Proofs.Ythceokldlinjlaa
/-
  Leaves, 5: the inner step of Montgomery's product: a number of eight words and x times one of six, shifted by a word or not.
-/
namespace Go.Proofs.Ythceokldlinjlaa
open Go Go.Eng Go.RowKit Go.Wd

noncomputable def E5 : Eng := { tab := tyTab, call := callN tyTab (tableT rows5) fn1 1000 6, N := 70 }
noncomputable def dS : Fn1 := match fn1 139 with
  | some d => d
  | none => ⟨.skip, [], 0⟩
theorem dS_ok : FnOk Try.prog 139 dS := fn1_ok _ _ (by kernel_rfl)
noncomputable def cSa : Code := seqL dS.body
noncomputable def cSb : Code := seqL (seqL (seqR dS.body))
noncomputable def cSL : Code := loopIn (blockIn (seqR (seqL (seqR dS.body))))
noncomputable def cS2 : Code := seqR (seqR dS.body)
theorem dS_body : dS.body = .seq cSa (.seq (.seq cSb (.block 0 (.loop cSL))) cS2) := by kernel_rfl
theorem dS_ntmps : dS.ntmps = 70 := by kernel_rfl
theorem dS_results : dS.results = [] := by kernel_rfl

def su (n : Int) : Ct := .sl (vI .u64 n)
def si (n : Nat) : Ct := .sl (vI .i64 (n : Int))
def spt (id : Nat) : Ct := .sl (it1 (.p id 0))
def row8 (t : Nat → Int) : Ct := .bl ((List.range 8).map fun j => .v (.int .u64 (t j)))
/-- The state at the loop's head. -/
def stS (x s M i : Nat) (t : Nat → Int) (c : Int) : St :=
  [(0, su x), (2, spt 16), (4, si s), (6, spt 17), (14, su c), (28, spt 16), (30, si i), (33, .bl [.w 6 M]), (35, row8 t)]
def lo1 (x m c : Nat) : Nat := (x * m % 18446744073709551616 + c + 0) % 18446744073709551616
def tN (x m c t : Nat) : Nat := (t + lo1 x m c + 0) % 18446744073709551616
def cI (x m c t : Nat) : Int := IntKind.u64.wrap (IntKind.u64.wrap (((x * m / 18446744073709551616 : Nat) : Int) + (((x * m % 18446744073709551616 + c + 0) / 18446744073709551616 : Nat) : Int)) + (((t + lo1 x m c + 0) / 18446744073709551616 : Nat) : Int))
def updI (t : Nat → Nat) (i v : Nat) : Nat → Int := fun j => ((if j = i then v else t j : Nat) : Int)
def obS (x m c t : Nat) : List Prop := [(0 : Int) ≤ (x : Int) ∧ (x : Int) < 18446744073709551616 ∧ (0 : Int) ≤ (m : Int) ∧ (m : Int) < 18446744073709551616,
  (0 : Int) ≤ ((x * m % 18446744073709551616 : Nat) : Int) ∧ (0 : Int) ≤ (c : Int) ∧ (0 : Int) ≤ 0 ∧ (0 : Int) ≤ 1, (0 : Int) ≤ (t : Int) ∧ (0 : Int) ≤ (lo1 x m c : Int) ∧ (0 : Int) ≤ 0 ∧ (0 : Int) ≤ 1]
def StepAt (x s M i : Nat) (t : Nat → Nat) (c : Nat) : Prop := probe E5 100 cSL (stS x s M i (fun j => (t j : Int)) c) 18 [] ((stS x s M (i + 1) (updI t i (tN x (dg M i) c (t i))) (cI x (dg M i) c (t i))).map (·.1)) =
  some (0, obS x (dg M i) c (t i), (stS x s M (i + 1) (updI t i (tN x (dg M i) c (t i))) (cI x (dg M i) c (t i))).map fun p => some p.2)
theorem step0 (x s M : Nat) (t : Nat → Nat) (c : Nat) : probe E5 100 cSL (stS x s M 0 (fun j => (t j : Int)) c) 18 [] ((stS x s M 1 (updI t 0 (tN x (dg M 0) c (t 0))) (cI x (dg M 0) c (t 0))).map (·.1)) =
  some (0, obS x (dg M 0) c (t 0), (stS x s M 1 (updI t 0 (tN x (dg M 0) c (t 0))) (cI x (dg M 0) c (t 0))).map fun p => some p.2) := by kernel_rfl
theorem step1 (x s M : Nat) (t : Nat → Nat) (c : Nat) : probe E5 100 cSL (stS x s M 1 (fun j => (t j : Int)) c) 18 [] ((stS x s M 2 (updI t 1 (tN x (dg M 1) c (t 1))) (cI x (dg M 1) c (t 1))).map (·.1)) =
  some (0, obS x (dg M 1) c (t 1), (stS x s M 2 (updI t 1 (tN x (dg M 1) c (t 1))) (cI x (dg M 1) c (t 1))).map fun p => some p.2) := by kernel_rfl
theorem step2 (x s M : Nat) (t : Nat → Nat) (c : Nat) : probe E5 100 cSL (stS x s M 2 (fun j => (t j : Int)) c) 18 [] ((stS x s M 3 (updI t 2 (tN x (dg M 2) c (t 2))) (cI x (dg M 2) c (t 2))).map (·.1)) =
  some (0, obS x (dg M 2) c (t 2), (stS x s M 3 (updI t 2 (tN x (dg M 2) c (t 2))) (cI x (dg M 2) c (t 2))).map fun p => some p.2) := by kernel_rfl
theorem step3 (x s M : Nat) (t : Nat → Nat) (c : Nat) : probe E5 100 cSL (stS x s M 3 (fun j => (t j : Int)) c) 18 [] ((stS x s M 4 (updI t 3 (tN x (dg M 3) c (t 3))) (cI x (dg M 3) c (t 3))).map (·.1)) =
  some (0, obS x (dg M 3) c (t 3), (stS x s M 4 (updI t 3 (tN x (dg M 3) c (t 3))) (cI x (dg M 3) c (t 3))).map fun p => some p.2) := by kernel_rfl
theorem step4 (x s M : Nat) (t : Nat → Nat) (c : Nat) : probe E5 100 cSL (stS x s M 4 (fun j => (t j : Int)) c) 18 [] ((stS x s M 5 (updI t 4 (tN x (dg M 4) c (t 4))) (cI x (dg M 4) c (t 4))).map (·.1)) =
  some (0, obS x (dg M 4) c (t 4), (stS x s M 5 (updI t 4 (tN x (dg M 4) c (t 4))) (cI x (dg M 4) c (t 4))).map fun p => some p.2) := by kernel_rfl
theorem step5 (x s M : Nat) (t : Nat → Nat) (c : Nat) : probe E5 100 cSL (stS x s M 5 (fun j => (t j : Int)) c) 18 [] ((stS x s M 6 (updI t 5 (tN x (dg M 5) c (t 5))) (cI x (dg M 5) c (t 5))).map (·.1)) =
  some (0, obS x (dg M 5) c (t 5), (stS x s M 6 (updI t 5 (tN x (dg M 5) c (t 5))) (cI x (dg M 5) c (t 5))).map fun p => some p.2) := by kernel_rfl
theorem step6 (x s M : Nat) (t : Nat → Nat) (c : Nat) : probe E5 100 cSL (stS x s M 6 (fun j => (t j : Int)) c) 18 [] ((stS x s M 6 (fun j => (t j : Int)) c).map (·.1)) =
  some (2, [], (stS x s M 6 (fun j => (t j : Int)) c).map fun p => some p.2) := by kernel_rfl
theorem stepAt (x s M i : Nat) (hi : i < 6) (t : Nat → Nat) (c : Nat) : StepAt x s M i t c := by
  have : i = 0 ∨ i = 1 ∨ i = 2 ∨ i = 3 ∨ i = 4 ∨ i = 5 := by omega
  rcases this with rfl | rfl | rfl | rfl | rfl | rfl
  · exact step0 x s M t c
  · exact step1 x s M t c
  · exact step2 x s M t c
  · exact step3 x s M t c
  · exact step4 x s M t c
  · exact step5 x s M t c
/-- The head. -/
def in4 (x s : Nat) : List AV := [uw x, ⟨false, [.p 16 0]⟩, ⟨false, [.v (.int .i64 (s : Int))]⟩, ⟨false, [.p 17 0]⟩]
def stH (x s M T : Nat) : St := [(0, su x), (2, spt 16), (4, si s), (6, spt 17), (14, su 0), (33, .bl [.w 6 M]), (35, .bl [.w 8 T])]
theorem headA (x s M T : Nat) : probe E5 100 cSa (initSlots 0 (in4 x s) 66 ++ mem2 [.w 6 M] [.w 8 T]) 18 [] ((stH x s M T).map (·.1)) = some (0, [], (stH x s M T).map fun p => some p.2) := by kernel_rfl
def stH8 (x s M T : Nat) : St := [(0, su x), (2, spt 16), (4, si s), (6, spt 17), (14, su 0), (28, spt 16), (30, si 0), (33, .bl [.w 6 M]), (35, .bl [.w 8 T])]
theorem headB (x s M T : Nat) : probe E5 100 cSb (stH x s M T) 18 [] ((stH8 x s M T).map (·.1)) = some (0, [], (stH8 x s M T).map fun p => some p.2) := by kernel_rfl
/-- The end: shifted by nothing, by a word. -/
def endT (t : Nat → Nat) (c : Nat) (j : Nat) : Int := if j < 6 then (t j : Int) else if j = 6 then (((t 6 + c + 0) % 18446744073709551616 : Nat) : Int) else IntKind.u64.wrap ((t 7 : Int) + (((t 6 + c + 0) / 18446744073709551616 : Nat) : Int))
def endSt (M : Nat) (t : Nat → Int) : St := [(33, .bl [.w 6 M]), (35, row8 t)]
theorem end0 (x M : Nat) (t : Nat → Nat) (c : Nat) : probe E5 100 cS2 (stS x 0 M 6 (fun j => (t j : Int)) c) 18 [] ((endSt M (endT t c)).map (·.1)) =
  some (0, [(0 : Int) ≤ (t 6 : Int) ∧ (0 : Int) ≤ (c : Int) ∧ (0 : Int) ≤ 0 ∧ (0 : Int) ≤ 1], (endSt M (endT t c)).map fun p => some p.2) := by kernel_rfl
theorem end1 (x M : Nat) (t : Nat → Nat) (c : Nat) : probe E5 100 cS2 (stS x 1 M 6 (fun j => (t j : Int)) c) 18 [] ((endSt M (fun j => if j < 7 then endT t c (j + 1) else 0)).map (·.1)) =
  some (0, [(0 : Int) ≤ (t 6 : Int) ∧ (0 : Int) ≤ (c : Int) ∧ (0 : Int) ≤ 0 ∧ (0 : Int) ≤ 1], (endSt M (fun j => if j < 7 then endT t c (j + 1) else 0)).map fun p => some p.2) := by kernel_rfl

end Go.Proofs.Ythceokldlinjlaa
/-
  Leaves, 6: the inner step of Montgomery's product, joined.
-/
namespace Go.Proofs.Ythceokldlinjlaa
open Go Go.Eng Go.RowKit Go.Wd

/-! ### the loop -/
def cN (x m c t : Nat) : Nat := x * m / 18446744073709551616 + (x * m % 18446744073709551616 + c + 0) / 18446744073709551616 + (t + lo1 x m c + 0) / 18446744073709551616
theorem mul_le_B {x m : Nat} (hx : x < 18446744073709551616) (hm : m < 18446744073709551616) : x * m ≤ 340282366920938463426481119284349108225 := by
  have : x * m ≤ 18446744073709551615 * 18446744073709551615 := Nat.mul_le_mul (by omega) (by omega)
  omega
theorem tc_sum (x m c t : Nat) : tN x m c t + cN x m c t * 18446744073709551616 = t + x * m + c := by
  unfold tN cN lo1
  generalize x * m = y
  omega
theorem cN_lt {x m c t : Nat} (hx : x < 18446744073709551616) (hm : m < 18446744073709551616) (hc : c < 18446744073709551616) (ht : t < 18446744073709551616) : cN x m c t < 18446744073709551616 := by
  have h := tc_sum x m c t
  have h2 := mul_le_B hx hm
  generalize x * m = y at *
  omega
theorem cI_eq {x m c t : Nat} (hx : x < 18446744073709551616) (hm : m < 18446744073709551616) (hc : c < 18446744073709551616) (ht : t < 18446744073709551616) : cI x m c t = ((cN x m c t : Nat) : Int) := by
  have h := cN_lt hx hm hc ht
  unfold cI
  unfold cN at h ⊢
  rw [← Int.natCast_add, wrap_nat (by omega), ← Int.natCast_add, wrap_nat h]
theorem tN_lt (x m c t : Nat) : tN x m c t < 18446744073709551616 := Nat.mod_lt _ (by decide)
def updN (t : Nat → Nat) (i v : Nat) : Nat → Nat := fun j => if j = i then v else t j
theorem updI_eq (t : Nat → Nat) (i v : Nat) : updI t i v = fun j => ((updN t i v j : Nat) : Int) := rfl
theorem num_upd (t : Nat → Nat) (v i : Nat) : ∀ k, i < k → num (updN t i v) k + t i * pw i = num t k + v * pw i := by
  intro k
  induction k with
  | zero => intro h; omega
  | succ k ih =>
    intro h
    by_cases e : i = k
    · subst e
      have : num (updN t i v) i = num t i := num_congr i fun j hj => by unfold updN; rw [if_neg (by omega)]
      simp only [num, this]
      unfold updN
      rw [if_pos rfl]; omega
    · have := ih (by omega)
      simp only [num]
      have h2 : updN t i v k = t k := by unfold updN; rw [if_neg (by omega)]
      rw [h2]; omega
structure InvS (x M T i : Nat) (t : Nat → Nat) (c : Nat) : Prop where
  lt : ∀ j, t j < 18446744073709551616
  clt : c < 18446744073709551616
  ile : i ≤ 6
  sum : num t 8 + c * pw i = T % pw 8 + x * (M % pw i)
theorem InvS.next {x M T i : Nat} {t : Nat → Nat} {c : Nat} (h : InvS x M T i t c) (hx : x < 18446744073709551616) (hi : i < 6) : InvS x M T (i + 1) (updN t i (tN x (dg M i) c (t i))) (cN x (dg M i) c (t i)) := by
  refine ⟨fun j => ?_, cN_lt hx (dg_lt _ _) h.clt (h.lt i), by omega, ?_⟩
  · unfold updN; split
    · exact tN_lt _ _ _ _
    · exact h.lt j
  · have h1 := num_upd t (tN x (dg M i) c (t i)) i 8 (by omega)
    have h2 := tc_sum x (dg M i) c (t i)
    have h3 := h.sum
    have h4 : M % pw (i + 1) = M % pw i + pw i * dg M i := by
      rw [pw_succ, Nat.mod_mul]; unfold dg; rw [two64]
    rw [h4, pw_succ]
    have h5 : (tN x (dg M i) c (t i) + cN x (dg M i) c (t i) * 18446744073709551616) * pw i = (t i + x * dg M i + c) * pw i := by rw [h2]
    rw [Nat.add_mul, Nat.add_mul, Nat.add_mul, Nat.mul_assoc, Nat.mul_comm 18446744073709551616 (pw i)] at h5
    rw [Nat.mul_add, show x * (pw i * dg M i) = x * dg M i * pw i by rw [Nat.mul_comm (pw i), Nat.mul_assoc]]
    omega
theorem obS_ok {x m c t : Nat} (hx : x < 18446744073709551616) (hm : m < 18446744073709551616) : ∀ q ∈ obS x m c t, q := by
  intro q hq
  simp only [obS, List.mem_cons, List.not_mem_nil, or_false] at hq
  rcases hq with rfl | rfl | rfl <;> omega
theorem tab5 : ∀ t d, E5.tab t = some d → TyOk Try.prog t d := tyTab_ok
theorem call5 : CallOk Try.prog E5.call := callN_ok mixed tyTab_ok (tableT_ok rows5_ok) fn1_ok 1000 6
theorem in2 {A B : List It} {st : St} (h1 : st.blk 16 = some A) (h2 : st.blk 17 = some B) : ∀ id ∈ [16, 17], ∃ l, st.blk id = some l := by
  intro id hid
  simp only [List.mem_cons, List.not_mem_nil, or_false] at hid
  rcases hid with rfl | rfl
  · exact ⟨A, h1⟩
  · exact ⟨B, h2⟩
theorem dom2 (b1 b2 : Nat) : ∀ id q, rho2 b1 b2 id = some q → id ∈ [16, 17] := by
  intro id q hq
  unfold rho2 at hq
  split at hq
  · rename_i e; simp [e]
  · split at hq
    · rename_i e; simp [e]
    · cases hq
theorem keeps_stS (x s M i : Nat) (t : Nat → Int) (c : Int) : keepsB (stS x s M i t c) [16, 17] = true := by kernel_rfl
theorem keeps_end (M : Nat) (t : Nat → Int) : keepsB (endSt M t) [16, 17] = true := by kernel_rfl
theorem loopS {x s M T : Nat} (hx : x < 18446744073709551616) {b1 b2 : Nat} {w0 : World} {Q : Exit → Act → World → Prop} (hQ : ∀ t c a w, InvS x M T 6 t c → At 70 (rho2 b1 b2) w0 (stS x s M 6 (fun j => (t j : Int)) c) a w → Q (.exit 0) a w)
    {t : Nat → Nat} {c : Nat} (hI : InvS x M T 0 t c) {a : Act} {w : World} (hA : At 70 (rho2 b1 b2) w0 (stS x s M 0 (fun j => (t j : Int)) c) a w) : (Code.loop cSL).wp Try.prog Q a w := by
  refine loop_rule (ι := Nat × (Nat → Nat) × Nat) (fun p => InvS x M T p.1 p.2.1 p.2.2) (fun p => stS x s M p.1 (fun j => (p.2.1 j : Int)) p.2.2) (fun p => 7 - p.1) ?_ (0, t, c) hI a w hA
  rintro ⟨i, t, c⟩ hI a w hA
  have hI : InvS x M T i t c := hI
  have hA : At 70 (rho2 b1 b2) w0 (stS x s M i (fun j => (t j : Int)) c) a w := hA
  by_cases hi : i < 6
  · refine At.probe (E := E5) mixed tab5 call5 (stepAt x s M i hi t c) (obS_ok hx (dg_lt _ _)) hA [16, 17] (in2 rfl rfl) (keeps_stS _ _ _ _ _ _) (dom2 b1 b2) fun a' w' hA' => ?_
    rw [updI_eq, cI_eq hx (dg_lt _ _) hI.clt (hI.lt i)] at hA'
    exact ⟨(i + 1, updN t i (tN x (dg M i) c (t i)), cN x (dg M i) c (t i)), hI.next hx hi, by show 7 - (i + 1) < 7 - i; omega, hA'⟩
  · have : i = 6 := by have := hI.ile; omega
    subst this
    exact At.probe (E := E5) mixed tab5 call5 (step6 x s M t c) (fun q hq => by cases hq) hA [16, 17] (in2 rfl rfl) (keeps_stS _ _ _ _ _ _) (dom2 b1 b2) fun a' w' hA' => hQ t c a' w' hI hA'

/-! ### the whole -/
/-- What the step makes of T. -/
def stepV (T x M s : Nat) : Nat := (T % pw 8 + x * (M % pw 6)) % pw 8 / pw s
def endN (t : Nat → Nat) (c : Nat) (j : Nat) : Nat := if j < 6 then t j else if j = 6 then (t 6 + c) % 18446744073709551616 else (t 7 + (t 6 + c) / 18446744073709551616) % 18446744073709551616
theorem endT_eq (t : Nat → Nat) (c j : Nat) (_ : j < 8) : endT t c j = ((endN t c j : Nat) : Int) := by
  unfold endT endN
  by_cases h : j < 6
  · rw [if_pos h, if_pos h]
  · rw [if_neg h, if_neg h]
    by_cases h6 : j = 6
    · rw [if_pos h6, if_pos h6, Nat.add_zero]
    · rw [if_neg h6, if_neg h6, ← Int.natCast_add, wrap_mod, Nat.add_zero]
theorem endN_lt {t : Nat → Nat} (ht : ∀ j, t j < 18446744073709551616) (c j : Nat) : endN t c j < 18446744073709551616 := by
  unfold endN
  split
  · exact ht j
  · split <;> exact Nat.mod_lt _ (by decide)
theorem carry_key (n t6 t7 c P B : Nat) (_ : 0 < B) : n + t6 * P + t7 * (P * B) + c * P = n + (t6 + c) % B * P + (t7 + (t6 + c) / B) % B * (P * B) + (t7 + (t6 + c) / B) / B * (P * B * B) := by
  have h1 := Nat.div_add_mod (t6 + c) B
  have h2 := Nat.div_add_mod (t7 + (t6 + c) / B) B
  generalize (t7 + (t6 + c) / B) / B = q2 at *
  generalize (t7 + (t6 + c) / B) % B = r2 at *
  generalize (t6 + c) / B = q at *
  generalize (t6 + c) % B = r at *
  grind
theorem num_end {x M T : Nat} {t : Nat → Nat} {c : Nat} (h : InvS x M T 6 t c) : num (endN t c) 8 = (T % pw 8 + x * (M % pw 6)) % pw 8 := by
  rw [← h.sum]
  have e1 : endN t c 6 = (t 6 + c) % 18446744073709551616 := rfl
  have e2 : endN t c 7 = (t 7 + (t 6 + c) / 18446744073709551616) % 18446744073709551616 := rfl
  have hl : num (endN t c) 8 < pw 8 := num_lt 8 fun i _ => endN_lt h.lt c i
  have key : num t 8 + c * pw 6 = num (endN t c) 8 + (t 7 + (t 6 + c) / 18446744073709551616) / 18446744073709551616 * pw 8 := by
    rw [show num t 8 = num t 6 + t 6 * pw 6 + t 7 * pw 7 from rfl, show num (endN t c) 8 = num (endN t c) 6 + endN t c 6 * pw 6 + endN t c 7 * pw 7 from rfl, e1, e2]
    rw [num_congr 6 fun j hj => show endN t c j = t j by unfold endN; rw [if_pos hj]]
    rw [show pw 8 = pw 6 * 18446744073709551616 * 18446744073709551616 by rw [pw_succ 7, pw_succ 6], pw_succ 6]
    exact carry_key _ _ _ _ _ _ (by decide)
  rw [key, Nat.add_mul_mod_self_right, Nat.mod_eq_of_lt hl]
theorem row8_conc {ρ : Rho} {d : Nat → Nat} (hd : ∀ j, d j < 18446744073709551616) : conc ρ ((List.range 8).map fun j => It.v (.int .u64 (d j : Int))) = some (words 8 (num d 8)) := by
  rw [words_map 8 fun i _ => hd i]
  have : ((List.range 8).map fun j => It.v (.int .u64 (d j : Int))) = ((List.range 8).map fun j => Value.int .u64 (d j : Int)).map It.v := by rw [List.map_map]; rfl
  rw [this]
  exact val_plain ρ _ fun v hv => by obtain ⟨i, _, rfl⟩ := List.mem_map.1 hv; rfl
theorem num_shift (d : Nat → Nat) : ∀ k, num d (k + 1) = d 0 + num (fun j => d (j + 1)) k * 18446744073709551616 := by
  intro k
  induction k with
  | zero => simp [num, pw_zero]
  | succ k ih =>
    rw [num, ih]
    simp only [num]
    rw [pw_succ, Nat.add_mul, Nat.mul_assoc]
    omega
/-- The last two states, told by numbers. -/
theorem w8_of_row {t : Nat → Int} {d : Nat → Nat} (e : ∀ j, j < 8 → t j = ((d j : Nat) : Int)) (hd : ∀ j, d j < 18446744073709551616) {n : Nat} (hn : num d 8 = n) : SameCt (row8 t) (.bl [.w 8 n]) := by
  intro ρ vs h
  have e2 : ((List.range 8).map fun j => It.v (.int .u64 (t j))) = (List.range 8).map fun j => It.v (.int .u64 (d j : Int)) := List.map_congr_left fun j hj => by rw [e j (by simpa using hj)]
  rw [e2, row8_conc hd, hn] at h
  cases h
  simp [conc, It.cs]
theorem row_of_w8 (T : Nat) : SameCt (.bl [.w 8 T]) (row8 fun j => (dg T j : Int)) := by
  intro ρ vs h
  show conc ρ ((List.range 8).map fun j => It.v (.int .u64 (dg T j : Int))) = some vs
  rw [row8_conc (fun j => dg_lt T j), num_dg, words_mod]
  rw [← h]; simp [conc, It.cs]
theorem same_end {M n : Nat} {t : Nat → Int} (h : SameCt (row8 t) (.bl [.w 8 n])) : ∀ k, match Eng.look (endSt M t) k, Eng.look [(33, Ct.bl [It.w 6 M]), (35, Ct.bl [It.w 8 n])] k with | some c, some c' => SameCt c c' | none, none => True | _, _ => False := by
  intro k
  by_cases h1 : k = 33
  · subst h1; exact SameCt.refl _
  · by_cases h2 : k = 35
    · subst h2; exact h
    · have e1 : (33 == k) = false := by simp; omega
      have e2 : (35 == k) = false := by simp; omega
      simp only [endSt, Eng.look, e1, e2]
      trivial
theorem same_head (x s M T : Nat) : ∀ k, match Eng.look (stH8 x s M T) k, Eng.look (stS x s M 0 (fun j => (dg T j : Int)) 0) k with | some c, some c' => SameCt c c' | none, none => True | _, _ => False := by
  intro k
  by_cases h2 : k = 35
  · subst h2; exact row_of_w8 T
  · have e2 : (35 == k) = false := by simp; omega
    have : Eng.look (stH8 x s M T) k = Eng.look (stS x s M 0 (fun j => (dg T j : Int)) 0) k := by
      simp only [stH8, stS, Eng.look, e2]
      rfl
    rw [this]
    split
    · rename_i a b e3 e4; rw [e3] at e4; cases e4; exact SameCt.refl _
    · trivial
    · rename_i h3 h4; cases h5 : Eng.look (stS x s M 0 (fun j => (dg T j : Int)) 0) k with
      | none => exact h4 h5 h5
      | some c => exact h3 c c h5 h5
theorem end_num0 {x M T : Nat} {t : Nat → Nat} {c : Nat} (h : InvS x M T 6 t c) : SameCt (row8 (endT t c)) (.bl [.w 8 (stepV T x M 0)]) :=
  w8_of_row (d := endN t c) (fun j hj => endT_eq t c j hj) (endN_lt h.lt c) (by rw [num_end h]; unfold stepV; rw [pw_zero, Nat.div_one])
theorem two64_pos : 0 < 18446744073709551616 := by decide
theorem pw_one : pw 1 = 18446744073709551616 := by rw [pw_succ, pw_zero, Nat.one_mul]
theorem num_drop (d : Nat → Nat) : num (fun j => if j < 7 then d (j + 1) else 0) 8 = num (fun j => d (j + 1)) 7 := by
  rw [show num (fun j => if j < 7 then d (j + 1) else 0) 8 = num (fun j => if j < 7 then d (j + 1) else 0) 7 + (if 7 < 7 then d (7 + 1) else 0) * pw 7 from rfl, if_neg (Nat.lt_irrefl 7), Nat.zero_mul, Nat.add_zero]
  exact num_congr 7 fun j hj => by simp only [hj, if_true]
theorem end_num1 {x M T : Nat} {t : Nat → Nat} {c : Nat} (h : InvS x M T 6 t c) : SameCt (row8 (fun j => if j < 7 then endT t c (j + 1) else 0)) (.bl [.w 8 (stepV T x M 1)]) := by
  refine w8_of_row (d := fun j => if j < 7 then endN t c (j + 1) else 0) (fun j hj => ?_) (fun j => ?_) ?_
  · by_cases h7 : j < 7
    · simp only [h7, if_true]; exact endT_eq t c (j + 1) (by omega)
    · simp only [h7, if_false]; rfl
  · by_cases h7 : j < 7
    · simp only [h7, if_true]; exact endN_lt h.lt c _
    · simp only [h7, if_false]; decide
  · unfold stepV
    rw [num_drop, ← num_end h]
    have e4 := endN_lt h.lt c 0
    show _ = num (endN t c) (7 + 1) / pw 1
    rw [num_shift (endN t c) 7, pw_one, Nat.add_mul_div_right _ _ two64_pos, Nat.div_eq_of_lt e4, Nat.zero_add]
theorem step_two (x s M T : Nat) (hx : x < 18446744073709551616) (hs : s = 0 ∨ s = 1) (b1 b2 : Nat) (hne : b1 ≠ b2) :
    Two Try.prog 139 [uv x, ptr (b1, 0) 0, .int .i64 (s : Int), ptr (b2, 0) 0] b1 b2 (words 6 M) (words 8 T) (words 6 M) (words 8 (stepV T x M s)) (.tuple #[]) := by
  have hB : conc (rho2 b1 b2) [.w 8 T] = some (words 8 T) := by simp [conc, It.cs]
  have hA : conc (rho2 b1 b2) [.w 6 M] = some (words 6 M) := by simp [conc, It.cs]
  have hB' : ∀ ρ us, conc ρ [It.w 8 (stepV T x M s)] = some us → us = words 8 (stepV T x M s) := by intro ρ us h; simp [conc, It.cs] at h; exact h.symm
  refine two_of_mem hne hA hB (A' := [.w 6 M]) (B' := [.w 8 (stepV T x M s)]) (fun ρ us h => by simp [conc, It.cs] at h; exact h.symm) hB' fun w hM => ?_
  refine .inr ⟨dS_ok.enter _ _, ?_⟩
  have hv : vals (rho2 b1 b2) (in4 x s) = some [uv x, ptr (b1, 0) 0, .int .i64 (s : Int), ptr (b2, 0) 0] := by
    have e1 : AV.val (rho2 b1 b2) (uw x) = some (uv x) := AV.val_v (ρ := rho2 b1 b2) (x := uv x) rfl
    have e2 : AV.val (rho2 b1 b2) ⟨false, [.p 16 0]⟩ = some (ptr (b1, 0) 0) := AV.val_mk (by simp [It.cs, rho2])
    have e3 : AV.val (rho2 b1 b2) ⟨false, [.v (.int .i64 (s : Int))]⟩ = some (.int .i64 (s : Int)) := AV.val_v (ρ := rho2 b1 b2) (x := .int .i64 (s : Int)) rfl
    have e4 : AV.val (rho2 b1 b2) ⟨false, [.p 17 0]⟩ = some (ptr (b2, 0) 0) := AV.val_mk (by simp [It.cs, rho2])
    simp only [in4, vals, e1, e2, e3, e4]
  refine (calls_of_at (G := fun xs st => xs = [] ∧ st.blk 16 = some [.w 6 M] ∧ st.blk 17 = some [.w 8 (stepV T x M s)]) tyTab_ok dS_ok hM (by kernel_rfl) hv (by rw [dS_ntmps]; simp [in4]) fun a hA0 => ?_).mono ?_
  · rw [dS_ntmps] at hA0
    rw [dS_body, dS_ntmps, dS_results]
    refine wp_seq (At.probe (E := E5) mixed tab5 call5 (headA x s M T) (fun q hq => by cases hq) hA0 [16, 17] (in2 rfl rfl) (by kernel_rfl) (dom2 b1 b2) fun a1 w1 h1 => ?_)
    show Code.wp _ _ _ _ _
    refine wp_seq (wp_seq (At.probe (E := E5) mixed tab5 call5 (headB x s M T) (fun q hq => by cases hq) h1 [16, 17] (in2 rfl rfl) (by kernel_rfl) (dom2 b1 b2) fun a2 w2 h2 => ?_))
    show Code.wp _ _ _ _ _
    have h2 := h2.same (same_head x s M T)
    refine wp_block (loopS (T := T) hx (fun t c a3 w3 hI h3 => ?_) (t := dg T) (c := 0) ⟨fun j => dg_lt T j, by decide, by omega, ?_⟩ h2)
    · show Code.wp _ _ _ _ _
      rcases hs with rfl | rfl
      · exact At.probe (E := E5) mixed tab5 call5 (end0 x M t c) (fun q hq => by simp only [List.mem_cons, List.not_mem_nil, or_false] at hq; subst hq; omega) h3 [16, 17] (in2 rfl rfl) (keeps_end _ _) (dom2 b1 b2) fun a4 w4 h4 => ⟨.inl rfl, _, [], h4.same (same_end (end_num0 hI)), rfl, rfl, rfl, rfl⟩
      · exact At.probe (E := E5) mixed tab5 call5 (end1 x M t c) (fun q hq => by simp only [List.mem_cons, List.not_mem_nil, or_false] at hq; subst hq; omega) h3 [16, 17] (in2 rfl rfl) (keeps_end _ _) (dom2 b1 b2) fun a4 w4 h4 => ⟨.inl rfl, _, [], h4.same (same_end (end_num1 hI)), rfl, rfl, rfl, rfl⟩
    · rw [num_dg, pw_zero, Nat.mod_one, Nat.mul_zero, Nat.zero_mul]
  · rintro e w' ⟨v, rfl, xs, st, ρ', hE, hval, hMk, rfl, h1, h2⟩
    refine ⟨v, rfl, ?_, ρ', st, hE, hMk, h1, h2⟩
    simp only [pack, SV.val, vals, Option.some.injEq] at hval
    exact hval.symm
end Go.Proofs.Ythceokldlinjlaa
/-
  Leaves, 7: Montgomery's product, run.
-/
namespace Go.Proofs.Ythceokldlinjlaa
open Go Go.Eng Go.RowKit Go.Wd

/-- Eight words as a number. -/
def asW8 : List It → Option Nat
  | [.w 8 n] => some n
  | [.v (.int .u64 0), .v (.int .u64 0), .v (.int .u64 0), .v (.int .u64 0), .v (.int .u64 0), .v (.int .u64 0), .v (.int .u64 0), .v (.int .u64 0)] => some 0
  | _ => none
theorem zero8 : List.replicate 8 (Value.int .u64 0) = words 8 0 := by kernel_rfl
theorem asW8_ok {l : List It} {n : Nat} (h : asW8 l = some n) {ρ : Rho} {vs : List Value} (hv : conc ρ l = some vs) : vs = words 8 n := by
  unfold asW8 at h
  split at h
  · cases h; simp [conc, It.cs] at hv; exact hv.symm
  · cases h
    have : conc ρ ((List.replicate 8 (Value.int .u64 0)).map It.v) = some (List.replicate 8 (Value.int .u64 0)) := val_plain ρ _ fun v hv => by rw [(List.mem_replicate.1 hv).2]; rfl
    have e : vs = List.replicate 8 (Value.int .u64 0) := Option.some.inj (hv.symm.trans this)
    rw [e]
    exact zero8
  · cases h
def stepT : CallT := fun f args m _ => match f == 139 with
  | true => match args with
    | [⟨false, [.v (.int .u64 x)]⟩, ⟨false, [.p a 0]⟩, ⟨false, [.v (.int .i64 s)]⟩, ⟨false, [.p b 0]⟩] => match m.blk a, m.blk b with
      | some A, some B => match asW6 A, asW8 B with
        | some (M, ob), some T => match (a != b && (own a && own b)) && (s == 0 || s == 1) with
          | true => some { val := .tup [], wr := [(a, [.w 6 M]), (b, [.w 8 (stepV T x.toNat M s.toNat)])], news := [], ob := (0 ≤ x ∧ x < 18446744073709551616) :: ob }
          | false => none
        | _, _ => none
      | _, _ => none
    | _ => none
  | false => none
theorem asW6_ok' {l : List It} {n : Nat} {ob : List Prop} (h : asW6 l = some (n, ob)) (hob : ∀ p ∈ ob, p) : ∀ ρ us, conc ρ l = some us → us = words 6 n := fun _ _ hc => asW6_ok h hob hc
theorem stepT_ok : CallOk Try.prog stepT := by
  intro f args m nid out hout hob ρ w vs hv hM hnew
  unfold stepT at hout
  split at hout
  · rename_i hf
    rw [beq_iff_eq] at hf
    subst hf
    split at hout
    · rename_i x a s b
      split at hout
      · rename_i A B hA hB
        split at hout
        · rename_i M ob T h6 h8
          split at hout
          · rename_i hc
            cases hout
            simp only [Bool.and_eq_true, bne_iff_ne, ne_eq, Bool.or_eq_true, beq_iff_eq] at hc
            obtain ⟨⟨hab, ha, hb⟩, hs⟩ := hc
            obtain ⟨hx0, hx1⟩ := hob _ (List.mem_cons_self)
            have hob' : ∀ p ∈ ob, p := fun p hp => hob p (List.mem_cons_of_mem _ hp)
            obtain ⟨v1, r1, e1, e2, rfl⟩ := vals_cons hv
            obtain ⟨v2, r2, e3, e4, rfl⟩ := vals_cons e2
            obtain ⟨v3, r3, e5, e6, rfl⟩ := vals_cons e4
            obtain ⟨v4, r4, e7, e8, rfl⟩ := vals_cons e6
            cases e8
            have c1 : v1 = uv x.toNat := by
              have : AV.val ρ ⟨false, [.v (.int .u64 x)]⟩ = some (.int .u64 x) := AV.val_v (ρ := ρ) (x := .int .u64 x) rfl
              rw [this] at e1; cases e1
              unfold uv; rw [Int.toNat_of_nonneg hx0]
            have c3 : v3 = .int .i64 ((s.toNat : Nat) : Int) := by
              have : AV.val ρ ⟨false, [.v (.int .i64 s)]⟩ = some (.int .i64 s) := AV.val_v (ρ := ρ) (x := .int .i64 s) rfl
              rw [this] at e5; cases e5
              rw [Int.toNat_of_nonneg (by omega)]
            subst c1; subst c3
            refine two_call (args := fun q1 q2 => [uv x.toNat, ptr q1 0, .int .i64 ((s.toNat : Nat) : Int), ptr q2 0]) hM hab ha hb hA hB (asW6_ok' h6 hob') (fun ρ us hc => asW8_ok h8 hc) (fun ρ => by simp [conc, It.cs]) (fun ρ => by simp [conc, It.cs])
              (fun b1 b2 hne => step_two x.toNat s.toNat M T (by omega) (by omega) b1 b2 hne) (fun q1 q2 h1 h2 => ?_) (s := .tup []) rfl
            have c2 : v2 = ptr q1 0 := by
              have : AV.val ρ ⟨false, [.p a 0]⟩ = some (ptr q1 0) := AV.val_mk (by simp [It.cs, h1])
              rw [this] at e3; cases e3; rfl
            have c4 : v4 = ptr q2 0 := by
              have : AV.val ρ ⟨false, [.p b 0]⟩ = some (ptr q2 0) := AV.val_mk (by simp [It.cs, h2])
              rw [this] at e7; cases e7; rfl
            rw [c2, c4]
          · cases hout
        · cases hout
      · cases hout
    · cases hout
  · cases hout
noncomputable def T7 : CallT := orT (tableT rows5) stepT
theorem T7_ok : CallOk Try.prog T7 := orT_ok (tableT_ok rows5_ok) stepT_ok

/-! ### the run -/
def mA (x y i t : Nat) : Nat := stepV t (((dg x i : Nat) : Int)).toNat y 0
def kI (t : Nat) : Int := IntKind.u64.wrap ((dg t 0 : Int) * 9940570264628428797)
def mB (t : Nat) : Nat := stepV t (kI t).toNat pN 1
def mC (x y : Nat) : Nat → Nat
  | 0 => 0
  | i + 1 => mB (mA x y i (mC x y i))
def redN (x y : Nat) : Nat := lessN (asN6 (dg (mC x y 6)) % M6) (((dg (mC x y 6) 6 : Nat) : Int)).toNat
def redObs (x y : Nat) : List Prop := ((List.range 6).flatMap fun i => [(0 : Int) ≤ (dg x i : Int) ∧ (dg x i : Int) < 18446744073709551616, (0 : Int) ≤ kI (mA x y i (mC x y i)) ∧ kI (mA x y i (mC x y i)) < 18446744073709551616]) ++
  [ob6 (dg (mC x y 6)), (0 : Int) ≤ (dg (mC x y 6) 6 : Int)]
theorem red_run (x y : Nat) : run1 T7 105 [W6 x, W6 y] [] = some (.one (W6 (redN x y)), redObs x y) := by kernel_rfl
theorem kI_eq (t : Nat) : kI t = ((dg t 0 * 9940570264628428797 % 18446744073709551616 : Nat) : Int) := by
  have e : (9940570264628428797 : Int) = ((9940570264628428797 : Nat) : Int) := rfl
  unfold kI
  rw [e, ← Int.natCast_mul, wrap_mod]
theorem redObs_ok (x y : Nat) : ∀ q ∈ redObs x y, q := by
  intro q hq
  unfold redObs at hq
  rw [List.mem_append] at hq
  rcases hq with hq | hq
  · rw [List.mem_flatMap] at hq
    obtain ⟨i, _, hq⟩ := hq
    simp only [List.mem_cons, List.not_mem_nil, or_false] at hq
    rcases hq with rfl | rfl
    · have := dg_lt x i; omega
    · rw [kI_eq]; omega
  · simp only [List.mem_cons, List.not_mem_nil, or_false] at hq
    rcases hq with rfl | rfl
    · exact ob6_ok fun i => dg_lt _ i
    · omega
/-! ### the law -/
theorem pw8_eq : pw 8 = M6 * 18446744073709551616 * 18446744073709551616 := by unfold M6; rw [pw_succ 7, pw_succ 6]
/-- What the step makes where nothing runs over. -/
theorem stepV_0 {T x M : Nat} (hT : T + x * M < pw 8) (hM : M < M6) : stepV T x M 0 = T + x * M := by
  have h1 : T % pw 8 = T := Nat.mod_eq_of_lt (Nat.lt_of_le_of_lt (Nat.le_add_right _ _) hT)
  have h2 : M % pw 6 = M := Nat.mod_eq_of_lt hM
  show (T % pw 8 + x * (M % pw 6)) % pw 8 / pw 0 = _
  rw [h1, h2, Nat.mod_eq_of_lt hT, pw_zero, Nat.div_one]
theorem stepV_1 {T x M : Nat} (hT : T + x * M < pw 8) (hM : M < M6) : stepV T x M 1 = (T + x * M) / 18446744073709551616 := by
  have h1 : T % pw 8 = T := Nat.mod_eq_of_lt (Nat.lt_of_le_of_lt (Nat.le_add_right _ _) hT)
  have h2 : M % pw 6 = M := Nat.mod_eq_of_lt hM
  show (T % pw 8 + x * (M % pw 6)) % pw 8 / pw 1 = _
  rw [h1, h2, Nat.mod_eq_of_lt hT, pw_one]
theorem ninv_ok : (1 + 9940570264628428797 * pN) % 18446744073709551616 = 0 := by decide +kernel
theorem k_div (t : Nat) : (t + dg t 0 * 9940570264628428797 % 18446744073709551616 * pN) % 18446744073709551616 = 0 := by
  have e : dg t 0 = t % 18446744073709551616 := by unfold dg; rw [pw_zero, Nat.div_one, two64]
  rw [e, Nat.add_mod, Nat.mod_mul_mod, ← Nat.add_mod, Nat.mul_assoc, Nat.add_mod, Nat.mod_mul_mod, ← Nat.add_mod]
  have : t + t * (9940570264628428797 * pN) = t * (1 + 9940570264628428797 * pN) := by rw [Nat.mul_add, Nat.mul_one]
  rw [this, Nat.mul_mod, ninv_ok, Nat.mul_zero, Nat.zero_mod]
theorem bound_mul {a B c : Nat} (ha : a < B) : a * c + c ≤ B * c := by
  have : (a + 1) * c ≤ B * c := Nat.mul_le_mul_right _ ha
  rw [Nat.add_mul, Nat.one_mul] at this
  exact this
/-- One round. -/
theorem round {x y i t : Nat} (hy : y < M6) (ht : t < y + pN) : mB (mA x y i t) < y + pN ∧ ∃ k, mB (mA x y i t) * 18446744073709551616 = t + dg x i * y + k * pN := by
  have hd := dg_lt x i
  have h8 := pw8_eq
  have hM := M6_pos
  have b1 := bound_mul (c := y) hd
  have hc : pN < M6 := pN_lt
  have eA : mA x y i t = t + dg x i * y := by
    unfold mA
    rw [Int.toNat_natCast]
    exact stepV_0 (by rw [h8]; generalize M6 = W at *; generalize dg x i * y = z at *; omega) hy
  rw [eA]
  generalize hu : t + dg x i * y = u at *
  have hk : dg u 0 * 9940570264628428797 % 18446744073709551616 < 18446744073709551616 := Nat.mod_lt _ (by decide)
  have b2 := bound_mul (c := pN) hk
  have hdiv := k_div u
  have eB : mB u = (u + dg u 0 * 9940570264628428797 % 18446744073709551616 * pN) / 18446744073709551616 := by
    unfold mB
    rw [kI_eq, Int.toNat_natCast]
    exact stepV_1 (by rw [h8]; generalize M6 = W at *; generalize dg u 0 * 9940570264628428797 % 18446744073709551616 * pN = z at *; omega) hc
  rw [eB]
  generalize dg u 0 * 9940570264628428797 % 18446744073709551616 = k at *
  refine ⟨?_, k, ?_⟩
  · clear hdiv eB eA h8 hk
    generalize k * pN = v at *
    generalize dg x i * y = z at *
    generalize pN = P at *
    clear hd hM hc hy
    omega
  · clear b1 b2 eB eA h8 hk hd hy ht hM hc hu
    generalize k * pN = v at *
    omega
theorem mont_alg {t P z y q p d k : Nat} (h : t * P = z * y + q * p) : (t + d * y + k * p) * P = (z + P * d) * y + (q + k * P) * p := by grind
/-- All rounds. -/
theorem mC_spec {x y : Nat} (hy : y < M6) : ∀ i, mC x y i < y + pN ∧ ∃ q, mC x y i * pw i = x % pw i * y + q * pN := by
  intro i
  induction i with
  | zero => exact ⟨by show 0 < y + pN; have := pN_pos; omega, 0, by rw [pw_zero, Nat.mod_one]; simp [mC]⟩
  | succ i ih =>
    obtain ⟨h1, q, hq⟩ := ih
    obtain ⟨h2, k, hk⟩ := round (x := x) (i := i) hy h1
    refine ⟨h2, q + k * pw i, ?_⟩
    show mB (mA x y i (mC x y i)) * pw (i + 1) = _
    have h4 : x % pw (i + 1) = x % pw i + pw i * dg x i := by
      rw [pw_succ, Nat.mod_mul]; unfold dg; rw [two64]
    rw [h4, pw_succ, Nat.mul_comm (pw i), ← Nat.mul_assoc, hk]
    exact mont_alg hq
theorem red_law {x y : Nat} (hx : x < M6) (hy : y < pN) : redN x y < pN ∧ redN x y * M6 % pN = x * y % pN := by
  have hp : pN < M6 := pN_lt
  have h2p := M6_2p
  have hp0 := pN_pos
  obtain ⟨h1, q, hq⟩ := mC_spec (x := x) (y := y) (by omega) 6
  have hn : asN6 (dg (mC x y 6)) = mC x y 6 := by
    rw [asN6_eq, num_dg]; exact Nat.mod_eq_of_lt (show mC x y 6 < M6 by omega)
  have h6 : dg (mC x y 6) 6 = 0 := by
    unfold dg
    rw [Nat.div_eq_of_lt (show mC x y 6 < pw 6 from (show mC x y 6 < M6 by omega))]
  have hx' : x % pw 6 = x := Nat.mod_eq_of_lt hx
  have hq : mC x y 6 * M6 = x * y + q * pN := by rw [hx'] at hq; exact hq
  unfold redN
  rw [hn, h6, Int.toNat_natCast, Nat.mod_eq_of_lt (by omega)]
  unfold lessN
  by_cases h : mC x y 6 < pN
  · rw [if_pos h, if_pos rfl, hq, Nat.add_mul_mod_self_right]
    exact ⟨h, rfl⟩
  · rw [if_neg h]
    refine ⟨by omega, ?_⟩
    have e : (mC x y 6 - pN) * M6 + pN * M6 = mC x y 6 * M6 := by rw [← Nat.add_mul, Nat.sub_add_cancel (Nat.le_of_not_lt h)]
    have : ((mC x y 6 - pN) * M6 + pN * M6) % pN = (mC x y 6 - pN) * M6 % pN := by rw [Nat.mul_comm pN, Nat.add_mul_mod_self_right]
    rw [← this, e, hq, Nat.add_mul_mod_self_right]

/-! ### fp.reduced, fp.Mul -/
theorem red_pure (x y : Nat) : Pure Try.prog 105 [.agg (words 6 x).toArray, .agg (words 6 y).toArray] (.agg (words 6 (redN x y)).toArray) :=
  pure2_of_run T7_ok (red_run x y) (redObs_ok x y) rfl
def rows6 : List Row := row2 105 redN :: rows5
theorem rows6_ok : ∀ r ∈ rows6, RowOk Try.prog r := by
  simp only [rows6, List.forall_mem_cons]
  exact ⟨row2_ok red_pure, rows5_ok⟩
theorem mul_run (m n : Nat) : run1 (tableT rows6) 68 [W6 m, W6 n] [] = some (.one (W6 (redN (redN (rd m) (rd n)) sqN)), []) := by kernel_rfl
def mulN (m n : Nat) : Nat := rd m * rd n % pN
def m6inv : Nat := 0x14fec701e8fb0ce9ed5e64273c4f538b1797ab1458a88de9343ea97914956dc87fe11274d898fafbf4d38259380b4820
theorem m6inv_ok : M6 * m6inv % pN = 1 := by decide +kernel
theorem sq_mod : sqN % pN = M6 * M6 % pN := by decide +kernel
theorem sq_lt : sqN < pN := by decide +kernel
theorem cancel_M6 {a b : Nat} (h : a * M6 % pN = b * M6 % pN) : a % pN = b % pN := by
  have h2 : a * M6 * m6inv % pN = b * M6 * m6inv % pN := by rw [Nat.mul_mod, h, ← Nat.mul_mod]
  rw [Nat.mul_assoc, Nat.mul_assoc, Nat.mul_mod a, Nat.mul_mod b, m6inv_ok, Nat.mul_one, Nat.mul_one, Nat.mod_mod, Nat.mod_mod] at h2
  exact h2
theorem mul_law (m n : Nat) : redN (redN (rd m) (rd n)) sqN = mulN m n := by
  have h0 := rd_lt m
  have h1 := rd_lt n
  have hp : pN < M6 := pN_lt
  obtain ⟨a1, a2⟩ := red_law (x := rd m) (y := rd n) (Nat.lt_trans h0 hp) h1
  generalize redN (rd m) (rd n) = r at *
  obtain ⟨b1, b2⟩ := red_law (x := r) (y := sqN) (Nat.lt_trans a1 hp) sq_lt
  generalize redN r sqN = s at *
  have h3 : s * M6 % pN = rd m * rd n * M6 % pN := by
    rw [b2, Nat.mul_mod, sq_mod, ← Nat.mul_mod, ← Nat.mul_assoc, Nat.mul_mod, a2, ← Nat.mul_mod]
  have h4 := cancel_M6 h3
  rw [Nat.mod_eq_of_lt b1] at h4
  exact h4
theorem mul_pure (m n : Nat) : Pure Try.prog 68 [.agg (words 6 m).toArray, .agg (words 6 n).toArray] (.agg (words 6 (mulN m n)).toArray) :=
  pure2_of_run (tableT_ok rows6_ok) (mul_run m n) (fun p hp => by cases hp) (by rw [mul_law])
def subN (m n : Nat) : Nat := addN m (negN n)
def rowsA : List Row := row2 68 mulN :: row2 93 subN :: rows4
theorem rowsA_ok : ∀ r ∈ rowsA, RowOk Try.prog r := by
  simp only [rowsA, List.forall_mem_cons]
  exact ⟨row2_ok mul_pure, row2_ok sub_pure, rows4_ok⟩
end Go.Proofs.Ythceokldlinjlaa
