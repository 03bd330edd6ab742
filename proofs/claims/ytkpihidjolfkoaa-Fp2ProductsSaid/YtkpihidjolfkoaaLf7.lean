/-
  Leaves, 7: Montgomery's product, run.
-/
import Derived.Test.YtkpihidjolfkoaaLf6
namespace Go.Proofs.Ytkpihidjolfkoaa
open Go Go.Eng Go.RowKit Go.Wd

/-- Eight words as a number. -/
def asW8 : List It → Option Nat
  | [.w 8 n] => some n
  | [.v (.int .u64 0), .v (.int .u64 0), .v (.int .u64 0), .v (.int .u64 0), .v (.int .u64 0), .v (.int .u64 0), .v (.int .u64 0), .v (.int .u64 0)] => some 0
  | _ => none
theorem zero8 : List.replicate 8 (Value.int .u64 0) = words 8 0 := by kernel_rfl
theorem asW8_ok {l : List It} {n : Nat} (h : asW8 l = some n) {ρ : Rho} {vs : List Value} (hv : conc ρ l = some vs) : vs = words 8 n := by
  unfold asW8 at h
  split at h
  · cases h; simp [conc, It.cs] at hv; exact hv.symm
  · cases h
    have : conc ρ ((List.replicate 8 (Value.int .u64 0)).map It.v) = some (List.replicate 8 (Value.int .u64 0)) := val_plain ρ _ fun v hv => by rw [(List.mem_replicate.1 hv).2]; rfl
    have e : vs = List.replicate 8 (Value.int .u64 0) := Option.some.inj (hv.symm.trans this)
    rw [e]
    exact zero8
  · cases h
def stepT : CallT := fun f args m _ => match f == 82 with
  | true => match args with
    | [⟨false, [.v (.int .u64 x)]⟩, ⟨false, [.p a 0]⟩, ⟨false, [.v (.int .i64 s)]⟩, ⟨false, [.p b 0]⟩] => match m.blk a, m.blk b with
      | some A, some B => match asW6 A, asW8 B with
        | some (M, ob), some T => match (a != b && (own a && own b)) && (s == 0 || s == 1) with
          | true => some { val := .tup [], wr := [(a, [.w 6 M]), (b, [.w 8 (stepV T x.toNat M s.toNat)])], news := [], ob := (0 ≤ x ∧ x < 18446744073709551616) :: ob }
          | false => none
        | _, _ => none
      | _, _ => none
    | _ => none
  | false => none
theorem asW6_ok' {l : List It} {n : Nat} {ob : List Prop} (h : asW6 l = some (n, ob)) (hob : ∀ p ∈ ob, p) : ∀ ρ us, conc ρ l = some us → us = words 6 n := fun _ _ hc => asW6_ok h hob hc
theorem stepT_ok : CallOk Try.prog stepT := by
  intro f args m nid out hout hob ρ w vs hv hM hnew
  unfold stepT at hout
  split at hout
  · rename_i hf
    rw [beq_iff_eq] at hf
    subst hf
    split at hout
    · rename_i x a s b
      split at hout
      · rename_i A B hA hB
        split at hout
        · rename_i M ob T h6 h8
          split at hout
          · rename_i hc
            cases hout
            simp only [Bool.and_eq_true, bne_iff_ne, ne_eq, Bool.or_eq_true, beq_iff_eq] at hc
            obtain ⟨⟨hab, ha, hb⟩, hs⟩ := hc
            obtain ⟨hx0, hx1⟩ := hob _ (List.mem_cons_self)
            have hob' : ∀ p ∈ ob, p := fun p hp => hob p (List.mem_cons_of_mem _ hp)
            obtain ⟨v1, r1, e1, e2, rfl⟩ := vals_cons hv
            obtain ⟨v2, r2, e3, e4, rfl⟩ := vals_cons e2
            obtain ⟨v3, r3, e5, e6, rfl⟩ := vals_cons e4
            obtain ⟨v4, r4, e7, e8, rfl⟩ := vals_cons e6
            cases e8
            have c1 : v1 = uv x.toNat := by
              have : AV.val ρ ⟨false, [.v (.int .u64 x)]⟩ = some (.int .u64 x) := AV.val_v (ρ := ρ) (x := .int .u64 x) rfl
              rw [this] at e1; cases e1
              unfold uv; rw [Int.toNat_of_nonneg hx0]
            have c3 : v3 = .int .i64 ((s.toNat : Nat) : Int) := by
              have : AV.val ρ ⟨false, [.v (.int .i64 s)]⟩ = some (.int .i64 s) := AV.val_v (ρ := ρ) (x := .int .i64 s) rfl
              rw [this] at e5; cases e5
              rw [Int.toNat_of_nonneg (by omega)]
            subst c1; subst c3
            refine two_call (args := fun q1 q2 => [uv x.toNat, ptr q1 0, .int .i64 ((s.toNat : Nat) : Int), ptr q2 0]) hM hab ha hb hA hB (asW6_ok' h6 hob') (fun ρ us hc => asW8_ok h8 hc) (fun ρ => by simp [conc, It.cs]) (fun ρ => by simp [conc, It.cs])
              (fun b1 b2 hne => step_two x.toNat s.toNat M T (by omega) (by omega) b1 b2 hne) (fun q1 q2 h1 h2 => ?_) (s := .tup []) rfl
            have c2 : v2 = ptr q1 0 := by
              have : AV.val ρ ⟨false, [.p a 0]⟩ = some (ptr q1 0) := AV.val_mk (by simp [It.cs, h1])
              rw [this] at e3; cases e3; rfl
            have c4 : v4 = ptr q2 0 := by
              have : AV.val ρ ⟨false, [.p b 0]⟩ = some (ptr q2 0) := AV.val_mk (by simp [It.cs, h2])
              rw [this] at e7; cases e7; rfl
            rw [c2, c4]
          · cases hout
        · cases hout
      · cases hout
    · cases hout
  · cases hout
noncomputable def T7 : CallT := orT (tableT rows5) stepT
theorem T7_ok : CallOk Try.prog T7 := orT_ok (tableT_ok rows5_ok) stepT_ok

/-! ### the run -/
def mA (x y i t : Nat) : Nat := stepV t (((dg x i : Nat) : Int)).toNat y 0
def kI (t : Nat) : Int := IntKind.u64.wrap ((dg t 0 : Int) * 9940570264628428797)
def mB (t : Nat) : Nat := stepV t (kI t).toNat pN 1
def mC (x y : Nat) : Nat → Nat
  | 0 => 0
  | i + 1 => mB (mA x y i (mC x y i))
def redN (x y : Nat) : Nat := lessN (asN6 (dg (mC x y 6)) % M6) (((dg (mC x y 6) 6 : Nat) : Int)).toNat
def redObs (x y : Nat) : List Prop := ((List.range 6).flatMap fun i => [(0 : Int) ≤ (dg x i : Int) ∧ (dg x i : Int) < 18446744073709551616, (0 : Int) ≤ kI (mA x y i (mC x y i)) ∧ kI (mA x y i (mC x y i)) < 18446744073709551616]) ++
  [ob6 (dg (mC x y 6)), (0 : Int) ≤ (dg (mC x y 6) 6 : Int)]
theorem red_run (x y : Nat) : run1 T7 67 [W6 x, W6 y] [] = some (.one (W6 (redN x y)), redObs x y) := by kernel_rfl
theorem kI_eq (t : Nat) : kI t = ((dg t 0 * 9940570264628428797 % 18446744073709551616 : Nat) : Int) := by
  have e : (9940570264628428797 : Int) = ((9940570264628428797 : Nat) : Int) := rfl
  unfold kI
  rw [e, ← Int.natCast_mul, wrap_mod]
theorem redObs_ok (x y : Nat) : ∀ q ∈ redObs x y, q := by
  intro q hq
  unfold redObs at hq
  rw [List.mem_append] at hq
  rcases hq with hq | hq
  · rw [List.mem_flatMap] at hq
    obtain ⟨i, _, hq⟩ := hq
    simp only [List.mem_cons, List.not_mem_nil, or_false] at hq
    rcases hq with rfl | rfl
    · have := dg_lt x i; omega
    · rw [kI_eq]; omega
  · simp only [List.mem_cons, List.not_mem_nil, or_false] at hq
    rcases hq with rfl | rfl
    · exact ob6_ok fun i => dg_lt _ i
    · omega
/-! ### the law -/
theorem pw8_eq : pw 8 = M6 * 18446744073709551616 * 18446744073709551616 := by unfold M6; rw [pw_succ 7, pw_succ 6]
/-- What the step makes where nothing runs over. -/
theorem stepV_0 {T x M : Nat} (hT : T + x * M < pw 8) (hM : M < M6) : stepV T x M 0 = T + x * M := by
  have h1 : T % pw 8 = T := Nat.mod_eq_of_lt (Nat.lt_of_le_of_lt (Nat.le_add_right _ _) hT)
  have h2 : M % pw 6 = M := Nat.mod_eq_of_lt hM
  show (T % pw 8 + x * (M % pw 6)) % pw 8 / pw 0 = _
  rw [h1, h2, Nat.mod_eq_of_lt hT, pw_zero, Nat.div_one]
theorem stepV_1 {T x M : Nat} (hT : T + x * M < pw 8) (hM : M < M6) : stepV T x M 1 = (T + x * M) / 18446744073709551616 := by
  have h1 : T % pw 8 = T := Nat.mod_eq_of_lt (Nat.lt_of_le_of_lt (Nat.le_add_right _ _) hT)
  have h2 : M % pw 6 = M := Nat.mod_eq_of_lt hM
  show (T % pw 8 + x * (M % pw 6)) % pw 8 / pw 1 = _
  rw [h1, h2, Nat.mod_eq_of_lt hT, pw_one]
theorem ninv_ok : (1 + 9940570264628428797 * pN) % 18446744073709551616 = 0 := by decide +kernel
theorem k_div (t : Nat) : (t + dg t 0 * 9940570264628428797 % 18446744073709551616 * pN) % 18446744073709551616 = 0 := by
  have e : dg t 0 = t % 18446744073709551616 := by unfold dg; rw [pw_zero, Nat.div_one, two64]
  rw [e, Nat.add_mod, Nat.mod_mul_mod, ← Nat.add_mod, Nat.mul_assoc, Nat.add_mod, Nat.mod_mul_mod, ← Nat.add_mod]
  have : t + t * (9940570264628428797 * pN) = t * (1 + 9940570264628428797 * pN) := by rw [Nat.mul_add, Nat.mul_one]
  rw [this, Nat.mul_mod, ninv_ok, Nat.mul_zero, Nat.zero_mod]
theorem bound_mul {a B c : Nat} (ha : a < B) : a * c + c ≤ B * c := by
  have : (a + 1) * c ≤ B * c := Nat.mul_le_mul_right _ ha
  rw [Nat.add_mul, Nat.one_mul] at this
  exact this
/-- One round. -/
theorem round {x y i t : Nat} (hy : y < M6) (ht : t < y + pN) : mB (mA x y i t) < y + pN ∧ ∃ k, mB (mA x y i t) * 18446744073709551616 = t + dg x i * y + k * pN := by
  have hd := dg_lt x i
  have h8 := pw8_eq
  have hM := M6_pos
  have b1 := bound_mul (c := y) hd
  have hc : pN < M6 := pN_lt
  have eA : mA x y i t = t + dg x i * y := by
    unfold mA
    rw [Int.toNat_natCast]
    exact stepV_0 (by rw [h8]; generalize M6 = W at *; generalize dg x i * y = z at *; omega) hy
  rw [eA]
  generalize hu : t + dg x i * y = u at *
  have hk : dg u 0 * 9940570264628428797 % 18446744073709551616 < 18446744073709551616 := Nat.mod_lt _ (by decide)
  have b2 := bound_mul (c := pN) hk
  have hdiv := k_div u
  have eB : mB u = (u + dg u 0 * 9940570264628428797 % 18446744073709551616 * pN) / 18446744073709551616 := by
    unfold mB
    rw [kI_eq, Int.toNat_natCast]
    exact stepV_1 (by rw [h8]; generalize M6 = W at *; generalize dg u 0 * 9940570264628428797 % 18446744073709551616 * pN = z at *; omega) hc
  rw [eB]
  generalize dg u 0 * 9940570264628428797 % 18446744073709551616 = k at *
  refine ⟨?_, k, ?_⟩
  · clear hdiv eB eA h8 hk
    generalize k * pN = v at *
    generalize dg x i * y = z at *
    generalize pN = P at *
    clear hd hM hc hy
    omega
  · clear b1 b2 eB eA h8 hk hd hy ht hM hc hu
    generalize k * pN = v at *
    omega
theorem mont_alg {t P z y q p d k : Nat} (h : t * P = z * y + q * p) : (t + d * y + k * p) * P = (z + P * d) * y + (q + k * P) * p := by grind
/-- All rounds. -/
theorem mC_spec {x y : Nat} (hy : y < M6) : ∀ i, mC x y i < y + pN ∧ ∃ q, mC x y i * pw i = x % pw i * y + q * pN := by
  intro i
  induction i with
  | zero => exact ⟨by show 0 < y + pN; have := pN_pos; omega, 0, by rw [pw_zero, Nat.mod_one]; simp [mC]⟩
  | succ i ih =>
    obtain ⟨h1, q, hq⟩ := ih
    obtain ⟨h2, k, hk⟩ := round (x := x) (i := i) hy h1
    refine ⟨h2, q + k * pw i, ?_⟩
    show mB (mA x y i (mC x y i)) * pw (i + 1) = _
    have h4 : x % pw (i + 1) = x % pw i + pw i * dg x i := by
      rw [pw_succ, Nat.mod_mul]; unfold dg; rw [two64]
    rw [h4, pw_succ, Nat.mul_comm (pw i), ← Nat.mul_assoc, hk]
    exact mont_alg hq
theorem red_law {x y : Nat} (hx : x < M6) (hy : y < pN) : redN x y < pN ∧ redN x y * M6 % pN = x * y % pN := by
  have hp : pN < M6 := pN_lt
  have h2p := M6_2p
  have hp0 := pN_pos
  obtain ⟨h1, q, hq⟩ := mC_spec (x := x) (y := y) (by omega) 6
  have hn : asN6 (dg (mC x y 6)) = mC x y 6 := by
    rw [asN6_eq, num_dg]; exact Nat.mod_eq_of_lt (show mC x y 6 < M6 by omega)
  have h6 : dg (mC x y 6) 6 = 0 := by
    unfold dg
    rw [Nat.div_eq_of_lt (show mC x y 6 < pw 6 from (show mC x y 6 < M6 by omega))]
  have hx' : x % pw 6 = x := Nat.mod_eq_of_lt hx
  have hq : mC x y 6 * M6 = x * y + q * pN := by rw [hx'] at hq; exact hq
  unfold redN
  rw [hn, h6, Int.toNat_natCast, Nat.mod_eq_of_lt (by omega)]
  unfold lessN
  by_cases h : mC x y 6 < pN
  · rw [if_pos h, if_pos rfl, hq, Nat.add_mul_mod_self_right]
    exact ⟨h, rfl⟩
  · rw [if_neg h]
    refine ⟨by omega, ?_⟩
    have e : (mC x y 6 - pN) * M6 + pN * M6 = mC x y 6 * M6 := by rw [← Nat.add_mul, Nat.sub_add_cancel (Nat.le_of_not_lt h)]
    have : ((mC x y 6 - pN) * M6 + pN * M6) % pN = (mC x y 6 - pN) * M6 % pN := by rw [Nat.mul_comm pN, Nat.add_mul_mod_self_right]
    rw [← this, e, hq, Nat.add_mul_mod_self_right]

/-! ### fp.reduced, fp.Mul -/
theorem red_pure (x y : Nat) : Pure Try.prog 67 [.agg (words 6 x).toArray, .agg (words 6 y).toArray] (.agg (words 6 (redN x y)).toArray) :=
  pure2_of_run T7_ok (red_run x y) (redObs_ok x y) rfl
def rows6 : List Row := row2 67 redN :: rows5
theorem rows6_ok : ∀ r ∈ rows6, RowOk Try.prog r := by
  simp only [rows6, List.forall_mem_cons]
  exact ⟨row2_ok red_pure, rows5_ok⟩
theorem mul_run (m n : Nat) : run1 (tableT rows6) 38 [W6 m, W6 n] [] = some (.one (W6 (redN (redN (rd m) (rd n)) sqN)), []) := by kernel_rfl
def mulN (m n : Nat) : Nat := rd m * rd n % pN
def m6inv : Nat := 0x14fec701e8fb0ce9ed5e64273c4f538b1797ab1458a88de9343ea97914956dc87fe11274d898fafbf4d38259380b4820
theorem m6inv_ok : M6 * m6inv % pN = 1 := by decide +kernel
theorem sq_mod : sqN % pN = M6 * M6 % pN := by decide +kernel
theorem sq_lt : sqN < pN := by decide +kernel
theorem cancel_M6 {a b : Nat} (h : a * M6 % pN = b * M6 % pN) : a % pN = b % pN := by
  have h2 : a * M6 * m6inv % pN = b * M6 * m6inv % pN := by rw [Nat.mul_mod, h, ← Nat.mul_mod]
  rw [Nat.mul_assoc, Nat.mul_assoc, Nat.mul_mod a, Nat.mul_mod b, m6inv_ok, Nat.mul_one, Nat.mul_one, Nat.mod_mod, Nat.mod_mod] at h2
  exact h2
theorem mul_law (m n : Nat) : redN (redN (rd m) (rd n)) sqN = mulN m n := by
  have h0 := rd_lt m
  have h1 := rd_lt n
  have hp : pN < M6 := pN_lt
  obtain ⟨a1, a2⟩ := red_law (x := rd m) (y := rd n) (Nat.lt_trans h0 hp) h1
  generalize redN (rd m) (rd n) = r at *
  obtain ⟨b1, b2⟩ := red_law (x := r) (y := sqN) (Nat.lt_trans a1 hp) sq_lt
  generalize redN r sqN = s at *
  have h3 : s * M6 % pN = rd m * rd n * M6 % pN := by
    rw [b2, Nat.mul_mod, sq_mod, ← Nat.mul_mod, ← Nat.mul_assoc, Nat.mul_mod, a2, ← Nat.mul_mod]
  have h4 := cancel_M6 h3
  rw [Nat.mod_eq_of_lt b1] at h4
  exact h4
theorem mul_pure (m n : Nat) : Pure Try.prog 38 [.agg (words 6 m).toArray, .agg (words 6 n).toArray] (.agg (words 6 (mulN m n)).toArray) :=
  pure2_of_run (tableT_ok rows6_ok) (mul_run m n) (fun p hp => by cases hp) (by rw [mul_law])
def subN (m n : Nat) : Nat := addN m (negN n)
def rowsA : List Row := row2 38 mulN :: row2 31 subN :: rows4
theorem rowsA_ok : ∀ r ∈ rowsA, RowOk Try.prog r := by
  simp only [rowsA, List.forall_mem_cons]
  exact ⟨row2_ok mul_pure, row2_ok sub_pure, rows4_ok⟩
end Go.Proofs.Ytkpihidjolfkoaa
