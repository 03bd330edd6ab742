/-
  Plain numbers: primes, Fermat's little theorem, Pocklington's step.
-/
namespace Go.Pr

/-- A prime. -/
def Prime (p : Nat) : Prop := 2 ≤ p ∧ ∀ d, d ∣ p → d = 1 ∨ d = p
theorem Prime.two_le {p : Nat} (h : Prime p) : 2 ≤ p := h.1
theorem Prime.coprime {p a : Nat} (h : Prime p) (ha : ¬ p ∣ a) : Nat.Coprime p a := by
  rcases h.2 (Nat.gcd p a) (Nat.gcd_dvd_left p a) with e | e
  · exact e
  · exact absurd (e ▸ Nat.gcd_dvd_right p a) ha
theorem Prime.dvd_mul {p a b : Nat} (h : Prime p) (hd : p ∣ a * b) : p ∣ a ∨ p ∣ b := by
  by_cases ha : p ∣ a
  · exact .inl ha
  · exact .inr ((h.coprime ha).dvd_of_dvd_mul_left hd)
/-- Every number from 2 on has a prime that divides it. -/
theorem exists_prime : ∀ n, 2 ≤ n → ∃ r, Prime r ∧ r ∣ n := by
  intro n
  induction n using Nat.strongRecOn with
  | ind n ih =>
    intro hn
    by_cases h : Prime n
    · exact ⟨n, h, Nat.dvd_refl n⟩
    · have : ∃ d, d ∣ n ∧ d ≠ 1 ∧ d ≠ n := by
        refine Classical.byContradiction fun hc => h ⟨hn, fun d hd => ?_⟩
        refine Classical.byContradiction fun h2 => hc ⟨d, hd, fun e => h2 (.inl e), fun e => h2 (.inr e)⟩
      obtain ⟨d, hd, h1, h2⟩ := this
      have hpos : 0 < n := by omega
      have hle := Nat.le_of_dvd hpos hd
      have hd0 : 0 < d := Nat.pos_of_dvd_of_pos hd hpos
      obtain ⟨r, hr, hrd⟩ := ih d (by omega) (by omega)
      exact ⟨r, hr, Nat.dvd_trans hrd hd⟩
end Go.Pr
