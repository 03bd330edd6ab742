/-
  The base field: numbers below the modulus; what the leaves hand back is what its operations say.
-/
import Derived.Test.YthceokldlinjlaaMa
import Derived.Test.YthceokldlinjlaaLfy
namespace Go.Proofs.Ythceokldlinjlaa
open Go Go.Eng Go.RowKit Go.Wd Go.Alg Go.Pr

instance : Pos pN := ⟨pN_pos⟩
theorem pN_prime : Prime pN := prime_p
/-- The base field. -/
abbrev F := Z pN
/-- What six words stand for. -/
def φ (n : Nat) : F := Z.of pN (rd n)
theorem rd_of_lt {n : Nat} (h : n < pN) : rd n = n := rd_small h
theorem φ_val (z : F) : φ z.val = z := by unfold φ; rw [rd_of_lt z.lt]; exact Z.of_val z
theorem rd_val (n : Nat) : rd n = (φ n).val := (Nat.mod_eq_of_lt (rd_lt n)).symm
theorem add_val (m n : Nat) : addN m n = (φ m + φ n).val := by
  show _ = ((rd m % pN) + (rd n % pN)) % pN
  rw [Nat.mod_eq_of_lt (rd_lt m), Nat.mod_eq_of_lt (rd_lt n)]; rfl
theorem mul_val (m n : Nat) : mulN m n = (φ m * φ n).val := by
  show _ = ((rd m % pN) * (rd n % pN)) % pN
  rw [Nat.mod_eq_of_lt (rd_lt m), Nat.mod_eq_of_lt (rd_lt n)]; rfl
theorem neg_val (n : Nat) : negN n = (-φ n).val := by
  show _ = (pN - (rd n % pN)) % pN
  rw [Nat.mod_eq_of_lt (rd_lt n)]; rfl
theorem sub_val (m n : Nat) : subN m n = (φ m - φ n).val := by
  unfold subN
  rw [add_val, neg_val, φ_val]; rfl
instance : IsField F where
  ne := by
    intro h
    have : 1 % pN = 0 % pN := congrArg Z.val h
    revert this
    decide +kernel
  ex a ha := ⟨_, inv_exists pN_prime a ha⟩
theorem gcd_or (n : Nat) : rd n = 0 ∨ Nat.gcd (rd n) pN = 1 := by
  by_cases h : rd n = 0
  · exact .inl h
  · right
    rw [Nat.gcd_comm]
    refine pN_prime.coprime fun hd => ?_
    have := Nat.le_of_dvd (by omega) hd
    have := rd_lt n
    omega
theorem inv_val (n : Nat) : invN n = (inv (φ n)).val := by
  by_cases h : rd n = 0
  · have e : φ n = 0 := by unfold φ; rw [h]; rfl
    rw [invN_zero h, e, inv_zero]; rfl
  · have hz : φ n ≠ 0 := fun e => h (by rw [rd_val, e]; rfl)
    have h1 := mul_inv hz
    refine invN_eq ⟨(inv (φ n)).lt, ?_⟩
    have h2 : ((φ n).val * (inv (φ n)).val) % pN = 1 % pN := congrArg Z.val h1
    rw [Nat.mul_comm, rd_val, h2]
    decide +kernel
/-- Words: rows of six a number. -/
def w1 (z : F) : List It := [.w 6 z.val]
theorem words_eq (x : F) (n : Nat) (h : n = x.val) : words 6 n = words 6 x.val := by rw [h]
theorem words_val_inj {x y : F} (h : words 6 x.val = words 6 y.val) : x = y := by
  have h2 := words_inj h
  have hp : pN < pw 6 := pN_lt
  rw [Nat.mod_eq_of_lt (Nat.lt_trans x.lt hp), Nat.mod_eq_of_lt (Nat.lt_trans y.lt hp)] at h2
  exact Z.ext h2

/-! ### the leaves' rows, told by the field -/
def inU (x : Int) : Bool := match x with
  | .ofNat n => Nat.blt n 18446744073709551616
  | _ => false
theorem inU_spec {x : Int} (h : inU x = true) : 0 ≤ x ∧ x < 18446744073709551616 := by
  unfold inU at h
  split at h
  · rename_i n
    have : n < 18446744073709551616 := by simpa [Nat.blt_eq] using h
    constructor
    · exact Int.natCast_nonneg n
    · show (n : Int) < 18446744073709551616
      omega
  · cases h
/-- Six words a number, or six closed values, as numbers. -/
def asWs : Nat → List It → Option (List Nat)
  | 0, [] => some []
  | 0, _ => none
  | m + 1, .w 6 n :: l => match asWs m l with
    | some r => some (n :: r)
    | none => none
  | m + 1, .v (.int .u64 a) :: .v (.int .u64 b) :: .v (.int .u64 c) :: .v (.int .u64 d) :: .v (.int .u64 e) :: .v (.int .u64 f) :: l =>
    match inU a && (inU b && (inU c && (inU d && (inU e && inU f)))) with
    | true => match asWs m l with
      | some r => some (num (fun i => ([a, b, c, d, e, f].getD i 0).toNat) 6 :: r)
      | none => none
    | false => none
  | _, _ => none
theorem asWs_ok : ∀ (m : Nat) (l : List It) (r : List Nat), asWs m l = some r → ∀ {ρ : Rho} {vs : List Value}, conc ρ l = some vs → r.length = m ∧ vs = (r.map (words 6)).flatten := by
  intro m
  induction m with
  | zero =>
    intro l r h ρ vs hv
    cases l with
    | nil => cases h; cases hv; exact ⟨rfl, rfl⟩
    | cons i l => cases h
  | succ m ih =>
    intro l r h ρ vs hv
    unfold asWs at h
    split at h
    · rename_i h0; cases h0
    · cases h
    · rename_i n l' h0
      cases h0
      split at h
      · rename_i r' hr
        cases h
        obtain ⟨a, b, ha, hb, rfl⟩ := conc_cons hv
        cases ha
        obtain ⟨h1, h2⟩ := ih _ _ hr hb
        exact ⟨by simp [h1], by simp [h2]⟩
      · cases h
    · rename_i y0 y1 y2 y3 y4 y5 l' h0
      cases h0
      split at h
      · rename_i hin
        split at h
        · rename_i r' hr
          cases h
          simp only [Bool.and_eq_true] at hin
          have e6 := asW6_ok (l := [.v (.int .u64 y0), .v (.int .u64 y1), .v (.int .u64 y2), .v (.int .u64 y3), .v (.int .u64 y4), .v (.int .u64 y5)]) rfl (fun p hp => by
            rw [List.mem_singleton] at hp; subst hp
            intro x hx
            simp only [List.mem_cons, List.not_mem_nil, or_false] at hx
            rcases hx with rfl | rfl | rfl | rfl | rfl | rfl
            · exact inU_spec hin.1
            · exact inU_spec hin.2.1
            · exact inU_spec hin.2.2.1
            · exact inU_spec hin.2.2.2.1
            · exact inU_spec hin.2.2.2.2.1
            · exact inU_spec hin.2.2.2.2.2) (ρ := ρ) (vs := [.int .u64 y0, .int .u64 y1, .int .u64 y2, .int .u64 y3, .int .u64 y4, .int .u64 y5]) (by
            exact val_plain ρ [.int .u64 y0, .int .u64 y1, .int .u64 y2, .int .u64 y3, .int .u64 y4, .int .u64 y5] (by intro v hv; simp only [List.mem_cons, List.not_mem_nil, or_false] at hv; rcases hv with rfl | rfl | rfl | rfl | rfl | rfl <;> rfl))
          have split6 : ∃ us, conc ρ l' = some us ∧ vs = [Value.int .u64 y0, .int .u64 y1, .int .u64 y2, .int .u64 y3, .int .u64 y4, .int .u64 y5] ++ us := by
            obtain ⟨a0, b0, c0, d0, rfl⟩ := conc_cons hv
            obtain ⟨a1, b1, c1, d1, rfl⟩ := conc_cons d0
            obtain ⟨a2, b2, c2, d2, rfl⟩ := conc_cons d1
            obtain ⟨a3, b3, c3, d3, rfl⟩ := conc_cons d2
            obtain ⟨a4, b4, c4, d4, rfl⟩ := conc_cons d3
            obtain ⟨a5, b5, c5, d5, rfl⟩ := conc_cons d4
            cases c0; cases c1; cases c2; cases c3; cases c4; cases c5
            exact ⟨_, d5, rfl⟩
          obtain ⟨us, hu, rfl⟩ := split6
          obtain ⟨h1, h2⟩ := ih _ _ hr hu
          exact ⟨by simp [h1], by rw [e6, h2]; rfl⟩
        · cases h
      · cases h
    · cases h
end Go.Proofs.Ythceokldlinjlaa
