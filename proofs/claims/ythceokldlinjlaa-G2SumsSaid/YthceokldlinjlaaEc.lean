/-
  The points of a curve y * y = x * x * x + b over a field: sums, opposites, multiples; they are a group.
-/
import Derived.Test.YthceokldlinjlaaMa
namespace Go.Alg

/-! ### consequences of equations, by numbers -/
abbrev v0 : Ex := .v 0
abbrev v1 : Ex := .v 1
abbrev v2 : Ex := .v 2
abbrev v3 : Ex := .v 3
abbrev v4 : Ex := .v 4
abbrev v5 : Ex := .v 5
abbrev v6 : Ex := .v 6
abbrev v7 : Ex := .v 7
abbrev v8 : Ex := .v 8
abbrev v9 : Ex := .v 9
abbrev v10 : Ex := .v 10
abbrev v11 : Ex := .v 11
abbrev v12 : Ex := .v 12
abbrev v13 : Ex := .v 13
abbrev v14 : Ex := .v 14
abbrev v15 : Ex := .v 15
section
variable {R : Type} [CRing R] (ρ : Nat → R)
theorem lin1 (a b c l r : Ex) (h : l.den ρ = r.den ρ) (hd : eqP a.nf (b + c * (l - r)).nf = true) : a.den ρ = b.den ρ := by
  rw [ident ρ a (b + c * (l - r)) hd]
  show b.den ρ + c.den ρ * (l.den ρ - r.den ρ) = b.den ρ
  rw [h, sub_self, mul_zero, add_zero]
theorem lin2 (a b c l r c' l' r' : Ex) (h : l.den ρ = r.den ρ) (h' : l'.den ρ = r'.den ρ) (hd : eqP a.nf (b + c * (l - r) + c' * (l' - r')).nf = true) : a.den ρ = b.den ρ := by
  rw [ident ρ a (b + c * (l - r) + c' * (l' - r')) hd]
  show b.den ρ + c.den ρ * (l.den ρ - r.den ρ) + c'.den ρ * (l'.den ρ - r'.den ρ) = b.den ρ
  rw [h, h', sub_self, sub_self, mul_zero, mul_zero, add_zero, add_zero]
theorem lin3 (a b c l r c' l' r' c'' l'' r'' : Ex) (h : l.den ρ = r.den ρ) (h' : l'.den ρ = r'.den ρ) (h'' : l''.den ρ = r''.den ρ) (hd : eqP a.nf (b + c * (l - r) + c' * (l' - r') + c'' * (l'' - r'')).nf = true) : a.den ρ = b.den ρ := by
  rw [ident ρ a (b + c * (l - r) + c' * (l' - r') + c'' * (l'' - r'')) hd]
  show b.den ρ + c.den ρ * (l.den ρ - r.den ρ) + c'.den ρ * (l'.den ρ - r'.den ρ) + c''.den ρ * (l''.den ρ - r''.den ρ) = b.den ρ
  rw [h, h', h'', sub_self, sub_self, sub_self, mul_zero, mul_zero, mul_zero, add_zero, add_zero, add_zero]
end

inductive Pt (K : Type) where
  | inf
  | aff (x y : K)

section
variable {K : Type} [CRing K]
def Pt.neg : Pt K → Pt K
  | .inf => .inf
  | .aff x y => .aff x (-y)
/-- The third point of a line by its slope, turned. -/
def sumBy (l x1 y1 x2 : K) : Pt K := .aff (l * l - x1 - x2) (l * (x1 - (l * l - x1 - x2)) - y1)
open Classical in
noncomputable def padd : Pt K → Pt K → Pt K
  | .inf, q => q
  | .aff x y, .inf => .aff x y
  | .aff x1 y1, .aff x2 y2 =>
    if x1 = x2 then (if y1 ≠ y2 ∨ y1 = 0 then .inf else sumBy ((x1 * x1 + x1 * x1 + x1 * x1) * inv (y1 + y1)) x1 y1 x2)
    else sumBy ((y2 - y1) * inv (x2 - x1)) x1 y1 x2
def On (b : K) : Pt K → Prop
  | .inf => True
  | .aff x y => y * y = x * x * x + b
/-- A slope of a line that meets the curve in both points (with its tangent, if they are one). -/
structure Ln (b x1 y1 x2 y2 l : K) : Prop where
  on : y1 * y1 = x1 * x1 * x1 + b
  h1 : y2 = y1 + l * (x2 - x1)
  e1 : l * (y1 + y2) = x2 * x2 + x1 * x2 + x1 * x1
/-- The line at x. -/
def at1 (l x1 y1 x : K) : K := y1 + l * (x - x1)
open Classical in
theorem padd_aff (x1 y1 x2 y2 : K) : padd (.aff x1 y1) (.aff x2 y2) = if x1 = x2 then (if y1 ≠ y2 ∨ y1 = 0 then .inf else sumBy ((x1 * x1 + x1 * x1 + x1 * x1) * inv (y1 + y1)) x1 y1 x2)
    else sumBy ((y2 - y1) * inv (x2 - x1)) x1 y1 x2 := rfl
theorem inf_add (p : Pt K) : padd .inf p = p := by cases p <;> rfl
theorem add_inf (p : Pt K) : padd p .inf = p := by cases p <;> rfl
theorem on_neg {b : K} {p : Pt K} (h : On b p) : On b p.neg := by
  cases p with
  | inf => trivial
  | aff x y =>
    have h : y * y = x * x * x + b := h
    show -y * -y = x * x * x + b
    rw [neg_mul, mul_neg, neg_neg]; exact h
theorem neg_neg_pt (p : Pt K) : p.neg.neg = p := by
  cases p with
  | inf => rfl
  | aff x y => show Pt.aff x (- -y) = _; rw [neg_neg]
end

/-- What the field and the curve's number must be. -/
class Cv (K : Type) [CRing K] [IsField K] (b : K) : Prop where
  two : (1 : K) + 1 ≠ 0
  three : (1 : K) + 1 + 1 ≠ 0
  bne : b ≠ 0

section
variable {K : Type} [CRing K] [IsField K] {b : K}
end
section
variable {K : Type} [CRing K] {b : K}
theorem sub_ne {x y : K} (h : x ≠ y) : y - x ≠ 0 := fun e => h (sub_eq_zero.1 e).symm
end
section
variable {K : Type} [CRing K] [IsField K] {b : K}
end
section
variable {K : Type} [CRing K] {b : K}
theorem eq_of_sub {x y : K} (h : x - y = 0) : x = y := sub_eq_zero.1 h
end
section
variable {K : Type} [CRing K] [IsField K] {b : K}
theorem dbl_ne (C : Cv K b) {y : K} (h : y ≠ 0) : y + y ≠ 0 := by
  intro e
  have : (1 + 1) * y = 0 := by rw [add_mul, one_mul]; exact e
  rcases mul_eq_zero.1 this with h2 | h2
  · exact C.two h2
  · exact h h2
theorem dbl_zero (C : Cv K b) {y : K} (h : y + y = 0) : y = 0 := by
  by_cases hy : y = 0
  · exact hy
  · exact absurd h (dbl_ne C hy)
theorem neg_eq_self (C : Cv K b) {y : K} (h : y = -y) : y = 0 := by
  refine dbl_zero C ?_
  have : y + y = -y + y := congrArg (· + y) h
  rw [this, neg_add]
theorem same_x {x1 y1 x2 y2 : K} (h1 : y1 * y1 = x1 * x1 * x1 + b) (h2 : y2 * y2 = x2 * x2 * x2 + b) (hx : x1 = x2) : y2 = y1 ∨ y2 = -y1 := by
  subst hx
  have : (y2 - y1) * (y2 + y1) = 0 := by
    have := lin2 (env [x1, y1, y2, b]) ((v2 - v1) * (v2 + v1)) 0 1 (v2 * v2) (v0 * v0 * v0 + v3) (-1) (v1 * v1) (v0 * v0 * v0 + v3) h2 h1 (by decide +kernel)
    exact this
  rcases mul_eq_zero.1 this with h | h
  · exact .inl (sub_eq_zero.1 h)
  · exact .inr (neg_unique (by rw [add_comm]; exact h))
/-- A slope, for any two points of the curve that are not opposite. -/
theorem ln_ex (C : Cv K b) {x1 y1 x2 y2 : K} (h1 : y1 * y1 = x1 * x1 * x1 + b) (h2 : y2 * y2 = x2 * x2 * x2 + b) (hn : ¬ (x1 = x2 ∧ y2 = -y1)) : ∃ l, Ln b x1 y1 x2 y2 l := by
  by_cases hx : x1 = x2
  · rcases same_x h1 h2 hx with hy | hy
    · subst hx; subst hy
      have hy0 : y2 ≠ 0 := fun e => hn ⟨rfl, by rw [e, neg_zero]⟩
      refine ⟨(x1 * x1 + x1 * x1 + x1 * x1) * inv (y2 + y2), h1, ?_, ?_⟩
      · rw [sub_self, mul_zero, add_zero]
      · rw [mul_assoc, mul_comm (inv _), mul_inv (dbl_ne C hy0), mul_one]
    · exact absurd ⟨hx, hy⟩ hn
  · have hd := sub_ne hx
    have hi := mul_inv hd
    refine ⟨(y2 - y1) * inv (x2 - x1), h1, ?_, ?_⟩
    · exact lin1 (env [x1, y1, x2, y2, inv (x2 - x1)]) (v3) (v1 + (v3 - v1) * v4 * (v2 - v0)) (-(v3 - v1)) ((v2 - v0) * v4) 1 hi (by decide +kernel)
    · refine mul_cancel hd ?_
      exact lin3 (env [x1, y1, x2, y2, inv (x2 - x1), b]) ((v2 - v0) * ((v3 - v1) * v4 * (v1 + v3))) ((v2 - v0) * (v2 * v2 + v0 * v2 + v0 * v0)) ((v3 - v1) * (v1 + v3)) ((v2 - v0) * v4) 1 1 (v3 * v3) (v2 * v2 * v2 + v5) (-1) (v1 * v1) (v0 * v0 * v0 + v5) hi h2 h1 (by decide +kernel)
/-- The sum by a slope. -/
theorem padd_ln (C : Cv K b) {x1 y1 x2 y2 l : K} (h : Ln b x1 y1 x2 y2 l) (hn : ¬ (x1 = x2 ∧ y2 = -y1)) : padd (.aff x1 y1) (.aff x2 y2) = sumBy l x1 y1 x2 := by
  rw [padd_aff]
  by_cases hx : x1 = x2
  · subst hx
    have hy : y2 = y1 := by rw [h.h1, sub_self, mul_zero, add_zero]
    subst hy
    have hy0 : y2 ≠ 0 := fun e => hn ⟨rfl, by rw [e, neg_zero]⟩
    rw [if_pos rfl, if_neg (by rintro (e | e) <;> contradiction)]
    congr 1
    have hd := dbl_ne C hy0
    refine mul_cancel hd ?_
    rw [mul_comm _ (inv _), ← mul_assoc, mul_inv hd, one_mul, mul_comm (y2 + y2) l, h.e1]
  · rw [if_neg hx]
    congr 1
    have hd := sub_ne hx
    refine mul_cancel hd ?_
    rw [mul_comm _ (inv _), ← mul_assoc, mul_inv hd, one_mul]
    exact lin1 (env [x1, y1, x2, y2, l]) (v3 - v1) ((v2 - v0) * v4) 1 v3 (v1 + v4 * (v2 - v0)) h.h1 (by decide +kernel)
theorem padd_opp (x y : K) (C : Cv K b) : padd (.aff x y) (.aff x (-y)) = .inf := by
  rw [padd_aff]
  rw [if_pos rfl]
  by_cases h : y = -y
  · rw [if_pos (.inr (neg_eq_self C h))]
  · rw [if_pos (.inl h)]
theorem add_neg_pt (C : Cv K b) (p : Pt K) : padd p p.neg = .inf := by
  cases p with
  | inf => rfl
  | aff x y => exact padd_opp x y C
end
section
variable {K : Type} [CRing K] {b : K}
/-- The same line, from the other point. -/
theorem Ln.symm {x1 y1 x2 y2 l : K} (h : Ln b x1 y1 x2 y2 l) : Ln b x2 y2 x1 y1 l := by
  refine ⟨?_, ?_, ?_⟩
  · exact lin3 (env [x1, y1, x2, y2, l, b]) (v3 * v3) (v2 * v2 * v2 + v5) 1 (v1 * v1) (v0 * v0 * v0 + v5) (v2 - v0) (v4 * (v1 + v3)) (v2 * v2 + v0 * v2 + v0 * v0) (v3 + v1) v3 (v1 + v4 * (v2 - v0)) h.on h.e1 h.h1 (by decide +kernel)
  · exact lin1 (env [x1, y1, x2, y2, l, b]) v1 (v3 + v4 * (v0 - v2)) (-1) v3 (v1 + v4 * (v2 - v0)) h.h1 (by decide +kernel)
  · exact lin1 (env [x1, y1, x2, y2, l, b]) (v4 * (v3 + v1)) (v0 * v0 + v2 * v0 + v2 * v2) 1 (v4 * (v1 + v3)) (v2 * v2 + v0 * v2 + v0 * v0) h.e1 (by decide +kernel)
end
section
variable {K : Type} [CRing K] [IsField K] {b : K}
end
section
variable {K : Type} [CRing K] {b : K}
theorem sumBy_symm {x1 y1 x2 y2 l : K} (h : Ln b x1 y1 x2 y2 l) : sumBy l x2 y2 x1 = sumBy l x1 y1 x2 := by
  unfold sumBy
  have hx : l * l - x2 - x1 = l * l - x1 - x2 := ident (env [x1, x2, l]) (v2 * v2 - v1 - v0) (v2 * v2 - v0 - v1) (by decide +kernel)
  rw [hx]
  congr 1
  exact lin1 (env [x1, y1, x2, y2, l]) (v4 * (v2 - (v4 * v4 - v0 - v2)) - v3) (v4 * (v0 - (v4 * v4 - v0 - v2)) - v1) (-1) v3 (v1 + v4 * (v2 - v0)) h.h1 (by decide +kernel)
end
section
variable {K : Type} [CRing K] [IsField K] {b : K}
theorem add_comm_pt (C : Cv K b) {p q : Pt K} (hp : On b p) (hq : On b q) : padd p q = padd q p := by
  cases p with
  | inf => rw [inf_add, add_inf]
  | aff x1 y1 => cases q with
    | inf => rw [inf_add, add_inf]
    | aff x2 y2 =>
      by_cases hn : x1 = x2 ∧ y2 = -y1
      · obtain ⟨rfl, rfl⟩ := hn
        have := padd_opp x1 (-y1) C
        rw [neg_neg] at this
        rw [padd_opp x1 y1 C, this]
      · obtain ⟨l, hl⟩ := ln_ex C hp hq hn
        have hn' : ¬ (x2 = x1 ∧ y1 = -y2) := fun e => hn ⟨e.1.symm, by rw [e.2, neg_neg]⟩
        rw [padd_ln C hl hn, padd_ln C hl.symm hn', sumBy_symm hl]
end
section
variable {K : Type} [CRing K] {b : K}
/-- The third point: on the curve, and on the line. -/
theorem Ln.third {x1 y1 x2 y2 l : K} (h : Ln b x1 y1 x2 y2 l) : On b (sumBy l x1 y1 x2) := by
  show (l * (x1 - (l * l - x1 - x2)) - y1) * (l * (x1 - (l * l - x1 - x2)) - y1) = (l * l - x1 - x2) * (l * l - x1 - x2) * (l * l - x1 - x2) + b
  have e2 : l * (y1 + (y1 + l * (x2 - x1))) = x2 * x2 + x1 * x2 + x1 * x1 := by rw [← h.h1]; exact h.e1
  exact lin2 (env [x1, y1, x2, l, b]) ((v3 * (v0 - (v3 * v3 - v0 - v2)) - v1) * (v3 * (v0 - (v3 * v3 - v0 - v2)) - v1)) ((v3 * v3 - v0 - v2) * (v3 * v3 - v0 - v2) * (v3 * v3 - v0 - v2) + v4) 1 (v1 * v1) (v0 * v0 * v0 + v4) ((v3 * v3 - v0 - v2) - v0) (v3 * (v1 + (v1 + v3 * (v2 - v0)))) (v2 * v2 + v0 * v2 + v0 * v0) h.on e2 (by decide +kernel)
end
section
variable {K : Type} [CRing K] [IsField K] {b : K}
theorem on_add (C : Cv K b) {p q : Pt K} (hp : On b p) (hq : On b q) : On b (padd p q) := by
  cases p with
  | inf => rw [inf_add]; exact hq
  | aff x1 y1 => cases q with
    | inf => rw [add_inf]; exact hp
    | aff x2 y2 =>
      by_cases hn : x1 = x2 ∧ y2 = -y1
      · obtain ⟨rfl, rfl⟩ := hn
        rw [padd_opp x1 y1 C]; trivial
      · obtain ⟨l, hl⟩ := ln_ex C hp hq hn
        rw [padd_ln C hl hn]; exact hl.third
end
section
variable {K : Type} [CRing K] {b : K}
/-- The line through the sum and the opposite of the second point. -/
theorem Ln.back {x1 y1 x2 y2 l : K} (h : Ln b x1 y1 x2 y2 l) : Ln b (l * l - x1 - x2) (l * (x1 - (l * l - x1 - x2)) - y1) x2 (-y2) (-l) := by
  refine ⟨h.third, ?_, ?_⟩
  · exact lin1 (env [x1, y1, x2, y2, l]) (-v3) ((v4 * (v0 - (v4 * v4 - v0 - v2)) - v1) + -v4 * (v2 - (v4 * v4 - v0 - v2))) (-1) v3 (v1 + v4 * (v2 - v0)) h.h1 (by decide +kernel)
  · exact lin2 (env [x1, y1, x2, y2, l]) (-v4 * ((v4 * (v0 - (v4 * v4 - v0 - v2)) - v1) + -v3)) (v2 * v2 + (v4 * v4 - v0 - v2) * v2 + (v4 * v4 - v0 - v2) * (v4 * v4 - v0 - v2)) 1 (v4 * (v1 + v3)) (v2 * v2 + v0 * v2 + v0 * v0) 0 v3 (v1 + v4 * (v2 - v0)) h.e1 h.h1 (by decide +kernel)
end
section
variable {K : Type} [CRing K] [IsField K] {b : K}
/-- What is added is taken away. -/
theorem add_sub_pt (C : Cv K b) {p q : Pt K} (hp : On b p) (hq : On b q) : padd (padd p q) q.neg = p := by
  cases p with
  | inf => rw [inf_add]; exact add_neg_pt C q
  | aff x1 y1 => cases q with
    | inf => rw [add_inf]; exact add_inf _
    | aff x2 y2 =>
      by_cases hn : x1 = x2 ∧ y2 = -y1
      · obtain ⟨rfl, rfl⟩ := hn
        rw [padd_opp x1 y1 C, inf_add]
        show Pt.aff x1 (- -y1) = _
        rw [neg_neg]
      · obtain ⟨l, hl⟩ := ln_ex C hp hq hn
        rw [padd_ln C hl hn]
        have hb := hl.back
        have hn2 : ¬ (l * l - x1 - x2 = x2 ∧ -y2 = -(l * (x1 - (l * l - x1 - x2)) - y1)) := by
          rintro ⟨e1, e2⟩
          have hy : l * (x1 - (l * l - x1 - x2)) - y1 = y2 := by rw [← neg_neg (l * (x1 - (l * l - x1 - x2)) - y1), ← e2, neg_neg]
          have hh := hb.h1
          have he := hb.e1
          rw [hy, e1] at hh he
          rw [sub_self, mul_zero, add_zero] at hh
          have hy0 : y2 = 0 := neg_eq_self C hh.symm
          rw [hy0, neg_zero, add_zero, mul_zero] at he
          have h3 : (1 + 1 + 1) * (x2 * x2) = 0 := lin1 (env [x2]) ((1 + 1 + 1) * (v0 * v0)) 0 (-1) 0 (v0 * v0 + v0 * v0 + v0 * v0) he (by decide +kernel)
          rcases mul_eq_zero.1 h3 with h3 | h3
          · exact C.three h3
          · have hx : x2 = 0 := sq_eq_zero h3
            have hq : y2 * y2 = x2 * x2 * x2 + b := hq
            rw [hx, hy0, zero_mul, zero_mul, zero_add] at hq
            exact C.bne hq.symm
        show padd (.aff _ _) (.aff x2 (-y2)) = _
        rw [padd_ln C hb hn2]
        unfold sumBy
        congr 1
        · exact ident (env [x1, x2, l]) (-v2 * -v2 - (v2 * v2 - v0 - v1) - v1) v0 (by decide +kernel)
        · exact ident (env [x1, y1, x2, l]) (-v3 * ((v3 * v3 - v0 - v2) - (-v3 * -v3 - (v3 * v3 - v0 - v2) - v2)) - (v3 * (v0 - (v3 * v3 - v0 - v2)) - v1)) v1 (by decide +kernel)
/-! ### brackets -/
/-- A line through the sum of two points and a third one. -/
theorem Ln.next {x1 y1 x2 y2 x3 y3 l m a : K} (h : Ln b x1 y1 x2 y2 l) (k : Ln b x2 y2 x3 y3 m) (hx : x1 ≠ x3) (ha : a * (x3 - x1) = m - l) :
    a * (y3 + (y1 + l * (x3 - x1))) = x3 - (l * l - x1 - x2) := by
  refine mul_cancel (sub_ne hx) ?_
  have e1 := h.h1
  have e2 := k.h1
  have hk := k.e1
  rw [e2] at hk
  have hh := h.e1
  rw [e2]
  -- letters: v0 x1, v1 y1, v2 x2, v3 y2, v4 x3, v5 l, v6 m, v7 a
  have e3 : y1 = y2 + l * (x1 - x2) := h.symm.h1
  rw [e3] at hh ⊢
  exact lin3 (env [x1, x2, y2, x3, l, m, a]) ((v3 - v0) * (v6 * ((v2 + v5 * (v3 - v1)) + ((v2 + v4 * (v0 - v1)) + v4 * (v3 - v0))))) ((v3 - v0) * (v3 - (v4 * v4 - v0 - v1)))
    ((v2 + v5 * (v3 - v1)) + ((v2 + v4 * (v0 - v1)) + v4 * (v3 - v0))) (v6 * (v3 - v0)) (v5 - v4) 1 (v5 * (v2 + (v2 + v5 * (v3 - v1)))) (v3 * v3 + v1 * v3 + v1 * v1) (-1) (v4 * ((v2 + v4 * (v0 - v1)) + v2)) (v1 * v1 + v0 * v1 + v0 * v0) ha hk hh (by decide +kernel)
theorem Ln.next2 {x1 y1 x2 y2 x3 y3 l m a : K} (h : Ln b x1 y1 x2 y2 l) (k : Ln b x2 y2 x3 y3 m) (hx : x1 ≠ x3) (ha : a * (x3 - x1) = m - l)
    (hS : ¬ (l * l - x1 - x2 = x3 ∧ y3 = -(l * (x1 - (l * l - x1 - x2)) - y1))) : a ≠ 0 ∧ Ln b (l * l - x1 - x2) (l * (x1 - (l * l - x1 - x2)) - y1) x3 y3 (inv a - l) := by
  have st := h.next k hx ha
  have a0 : a ≠ 0 := by
    intro e
    apply hS
    rw [e, zero_mul] at st ha
    have e1 : x3 = l * l - x1 - x2 := sub_eq_zero.1 st.symm
    have e2 : m = l := sub_eq_zero.1 ha.symm
    refine ⟨e1.symm, ?_⟩
    rw [← e1, k.h1, e2, h.h1]
    exact ident (env [x1, y1, x2, x3, l]) (v1 + v4 * (v2 - v0) + v4 * (v3 - v2)) (-(v4 * (v0 - v3) - v1)) (by decide +kernel)
  refine ⟨a0, ?_⟩
  have hi := mul_inv a0
  generalize inv a = i at hi ⊢
  have r1 : y3 + (y1 + l * (x3 - x1)) = i * (x3 - (l * l - x1 - x2)) := by
    rw [← st]
    exact lin1 (env [a, i, y3 + (y1 + l * (x3 - x1))]) v2 (v1 * (v0 * v2)) (-v2) (v0 * v1) 1 hi (by decide +kernel)
  have hS3 : On b (sumBy l x1 y1 x2) := h.third
  have hS3 : (l * (x1 - (l * l - x1 - x2)) - y1) * (l * (x1 - (l * l - x1 - x2)) - y1) = (l * l - x1 - x2) * (l * l - x1 - x2) * (l * l - x1 - x2) + b := hS3
  have h3 : y3 = (l * (x1 - (l * l - x1 - x2)) - y1) + (i - l) * (x3 - (l * l - x1 - x2)) :=
    lin1 (env [x1, y1, x3, y3, l, i, l * l - x1 - x2]) v3 ((v4 * (v0 - v6) - v1) + (v5 - v4) * (v2 - v6)) 1 (v3 + (v1 + v4 * (v2 - v0))) (v5 * (v2 - v6)) r1 (by decide +kernel)
  refine ⟨hS3, h3, ?_⟩
  have hC := k.symm.on
  by_cases hxs : l * l - x1 - x2 = x3
  · have hy : y3 = l * (x1 - x3) - y1 := by
      rw [hxs, sub_self, mul_zero, add_zero] at h3; exact h3
    rw [hxs, ← hy]
    have hh := h.e1
    have k1 : y3 + y3 = a * (x3 - x1) * (x3 - x2) := by
      have e1 := h.h1
      have e2 := k.h1
      have : y3 + y3 = y3 - (y1 + l * (x3 - x1)) := lin1 (env [x1, y1, x3, y3, l]) (v3 + v3) (v3 - (v1 + v4 * (v2 - v0))) 1 v3 (v4 * (v0 - v2) - v1) hy (by decide +kernel)
      rw [this, ha, e2, e1]
      exact ident (env [x1, y1, x2, x3, l, m]) (v1 + v4 * (v2 - v0) + v5 * (v3 - v2) - (v1 + v4 * (v3 - v0))) ((v5 - v4) * (v3 - v2)) (by decide +kernel)
    have k2 : x3 * x3 + x3 * x3 + x3 * x3 + (y3 + y3) * l = (x3 - x1) * (x3 - x2) := by
      rw [h.h1] at hh
      have ey : y1 = -y3 - l * (x3 - x1) := lin1 (env [x1, y1, x3, y3, l]) v1 (-v3 - v4 * (v2 - v0)) 1 v3 (v4 * (v0 - v2) - v1) hy (by decide +kernel)
      rw [ey] at hh
      exact lin2 (env [x1, x2, x3, y3, l]) (v2 * v2 + v2 * v2 + v2 * v2 + (v3 + v3) * v4) ((v2 - v0) * (v2 - v1)) (-1) (v4 * ((-v3 - v4 * (v2 - v0)) + ((-v3 - v4 * (v2 - v0)) + v4 * (v1 - v0)))) (v1 * v1 + v0 * v1 + v0 * v0)
        (-(v2 + v2 - v0 - v1)) (v4 * v4 - v0 - v1) v2 hh hxs (by decide +kernel)
    refine mul_cancel a0 ?_
    exact lin3 (env [x1, x2, x3, y3, l, a, i]) (v5 * ((v6 - v4) * (v3 + v3))) (v5 * (v2 * v2 + v2 * v2 + v2 * v2)) (v3 + v3) (v5 * v6) 1 1 (v3 + v3) (v5 * (v2 - v0) * (v2 - v1)) (-v5) (v2 * v2 + v2 * v2 + v2 * v2 + (v3 + v3) * v4) ((v2 - v0) * (v2 - v1)) hi k1 k2 (by decide +kernel)
  · generalize l * (x1 - (l * l - x1 - x2)) - y1 = ys at *
    generalize l * l - x1 - x2 = xs at *
    refine mul_cancel (sub_ne hxs) ?_
    exact lin3 (env [xs, ys, x3, y3, i - l, b]) ((v2 - v0) * (v4 * (v1 + v3))) ((v2 - v0) * (v2 * v2 + v0 * v2 + v0 * v0)) (-(v1 + v3)) v3 (v1 + v4 * (v2 - v0)) 1 (v3 * v3) (v2 * v2 * v2 + v5) (-1) (v1 * v1) (v0 * v0 * v0 + v5) h3 hC hS3 (by decide +kernel)
end
section
variable {K : Type} [CRing K] {b : K}
theorem neg_inj_pt {p q : Pt K} (h : p.neg = q.neg) : p = q := by rw [← neg_neg_pt p, h, neg_neg_pt]
end
section
variable {K : Type} [CRing K] [IsField K] {b : K}
end
section
variable {K : Type} [CRing K] {b : K}
theorem neg_aff {x1 y1 x2 y2 : K} : (Pt.aff x2 y2 = (Pt.aff x1 y1).neg) ↔ (x1 = x2 ∧ y2 = -y1) := by
  constructor
  · intro h
    injection h with e1 e2
    exact ⟨e1.symm, e2⟩
  · rintro ⟨rfl, rfl⟩; rfl
end
section
variable {K : Type} [CRing K] [IsField K] {b : K}
theorem sub_add_pt (C : Cv K b) {p q : Pt K} (hp : On b p) (hq : On b q) : padd (padd p q.neg) q = p := by
  have := add_sub_pt C hp (on_neg hq)
  rwa [neg_neg_pt] at this
/-- The opposite of a sum. -/
theorem neg_add_pt (C : Cv K b) {p q : Pt K} (hp : On b p) (hq : On b q) : (padd p q).neg = padd p.neg q.neg := by
  cases p with
  | inf => rw [inf_add]; exact (inf_add _).symm
  | aff x1 y1 => cases q with
    | inf => rw [add_inf]; exact (add_inf _).symm
    | aff x2 y2 =>
      by_cases hn : x1 = x2 ∧ y2 = -y1
      · obtain ⟨rfl, rfl⟩ := hn
        rw [padd_opp x1 y1 C]
        have := padd_opp x1 (-y1) C
        exact this.symm
      · obtain ⟨l, hl⟩ := ln_ex C hp hq hn
        rw [padd_ln C hl hn]
        have hl' : Ln b x1 (-y1) x2 (-y2) (-l) := by
          refine ⟨on_neg (p := .aff x1 y1) hp, ?_, ?_⟩
          · exact lin1 (env [x1, y1, x2, y2, l]) (-v3) (-v1 + -v4 * (v2 - v0)) (-1) v3 (v1 + v4 * (v2 - v0)) hl.h1 (by decide +kernel)
          · exact lin1 (env [x1, y1, x2, y2, l]) (-v4 * (-v1 + -v3)) (v2 * v2 + v0 * v2 + v0 * v0) 1 (v4 * (v1 + v3)) (v2 * v2 + v0 * v2 + v0 * v0) hl.e1 (by decide +kernel)
        have hn' : ¬ (x1 = x2 ∧ -y2 = - -y1) := fun e => hn ⟨e.1, by rw [← neg_neg y2, e.2, neg_neg]⟩
        show _ = padd (.aff x1 (-y1)) (.aff x2 (-y2))
        rw [padd_ln C hl' hn']
        unfold sumBy
        show Pt.aff _ _ = Pt.aff _ _
        congr 1
        · exact ident (env [x1, x2, l]) (v2 * v2 - v0 - v1) (-v2 * -v2 - v0 - v1) (by decide +kernel)
        · exact ident (env [x1, y1, x2, l]) (-(v3 * (v0 - (v3 * v3 - v0 - v2)) - v1)) (-v3 * (v0 - (-v3 * -v3 - v0 - v2)) - -v1) (by decide +kernel)
/-- Sums hang on no brackets. -/
theorem add_assoc_pt (C : Cv K b) {p q r : Pt K} (hp : On b p) (hq : On b q) (hr : On b r) : padd (padd p q) r = padd p (padd q r) := by
  cases p with
  | inf => rw [inf_add, inf_add]
  | aff x1 y1 => cases q with
    | inf => rw [inf_add, add_inf]
    | aff x2 y2 => cases r with
      | inf => rw [add_inf, add_inf]
      | aff x3 y3 =>
        by_cases n1 : Pt.aff x2 y2 = (Pt.aff x1 y1).neg
        · rw [n1, add_neg_pt C, inf_add, add_comm_pt C (on_neg hp) hr, add_comm_pt C hp (on_add C hr (on_neg hp)), sub_add_pt C hr hp]
        by_cases n2 : Pt.aff x3 y3 = (Pt.aff x2 y2).neg
        · rw [n2, add_neg_pt C, add_inf, add_sub_pt C hp hq]
        by_cases n3 : Pt.aff x3 y3 = (padd (.aff x1 y1) (.aff x2 y2)).neg
        · have e : padd (Pt.aff x2 y2) (.aff x3 y3) = (Pt.aff x1 y1).neg := by
            rw [n3, add_comm_pt C hp hq, neg_add_pt C hq hp, add_comm_pt C hq (on_add C (on_neg hq) (on_neg hp)), add_comm_pt C (on_neg hq) (on_neg hp)]
            exact sub_add_pt C (on_neg hp) hq
          rw [e, n3, add_neg_pt C, add_neg_pt C]
        by_cases n4 : Pt.aff x1 y1 = (padd (.aff x2 y2) (.aff x3 y3)).neg
        · have e : padd (Pt.aff x1 y1) (.aff x2 y2) = (Pt.aff x3 y3).neg := by
            rw [n4, neg_add_pt C hq hr, add_comm_pt C (on_neg hq) (on_neg hr)]
            exact sub_add_pt C (on_neg hr) hq
          have e2 : padd (Pt.aff x2 y2) (.aff x3 y3) = (Pt.aff x1 y1).neg := by rw [n4, neg_neg_pt]
          rw [e, e2, add_neg_pt C, add_comm_pt C (on_neg hr) hr, add_neg_pt C]
        by_cases hx : x1 = x3
        · rcases same_x hp hr hx with hy | hy
          · subst hx; subst hy
            rw [add_comm_pt C hp hq, add_comm_pt C hp (on_add C hq hp)]
          · have e : Pt.aff x3 y3 = (Pt.aff x1 y1).neg := neg_aff.2 ⟨hx, hy⟩
            rw [e, add_comm_pt C hp hq, add_sub_pt C hq hp, add_comm_pt C hp (on_add C hq (on_neg hp)), sub_add_pt C hq hp]
        · obtain ⟨l, hl⟩ := ln_ex C hp hq (fun e => n1 (neg_aff.2 e))
          obtain ⟨m, hm⟩ := ln_ex C hq hr (fun e => n2 (neg_aff.2 e))
          have n1' := fun e => n1 (neg_aff.2 e)
          have n2' := fun e => n2 (neg_aff.2 e)
          rw [padd_ln C hl n1'] at n3 ⊢
          rw [padd_ln C hm n2'] at n4 ⊢
          have hd : inv (x3 - x1) * (x3 - x1) = 1 := by rw [mul_comm]; exact mul_inv (sub_ne hx)
          have ha : (m - l) * inv (x3 - x1) * (x3 - x1) = m - l := by rw [mul_assoc, hd, mul_one]
          generalize (m - l) * inv (x3 - x1) = a at ha
          have hS : ¬ (l * l - x1 - x2 = x3 ∧ y3 = -(l * (x1 - (l * l - x1 - x2)) - y1)) := fun e => n3 (neg_aff.2 e)
          obtain ⟨a0, L1⟩ := hl.next2 hm hx ha hS
          rw [← sumBy_symm hm] at n4 ⊢
          have hD : ¬ (m * m - x3 - x2 = x1 ∧ y1 = -(m * (x3 - (m * m - x3 - x2)) - y3)) := fun e => n4 (neg_aff.2 e)
          have ha' : a * (x1 - x3) = l - m := lin1 (env [a, x1, x3, l, m]) (v0 * (v1 - v2)) (v3 - v4) (-1) (v0 * (v2 - v1)) (v4 - v3) ha (by decide +kernel)
          obtain ⟨_, L2⟩ := hm.symm.next2 hl.symm (fun e => hx e.symm) ha' hD
          have hi := mul_inv a0
          have p1 : padd (sumBy l x1 y1 x2) (.aff x3 y3) = sumBy (inv a - l) (l * l - x1 - x2) (l * (x1 - (l * l - x1 - x2)) - y1) x3 := padd_ln C L1 hS
          have p2 : padd (sumBy m x3 y3 x2) (.aff x1 y1) = sumBy (inv a - m) (m * m - x3 - x2) (m * (x3 - (m * m - x3 - x2)) - y3) x1 := padd_ln C L2 hD
          rw [p1, add_comm_pt C hp hm.symm.third, p2]
          have rel : inv a * (m - l) = x3 - x1 := by
            rw [← ha]
            exact lin1 (env [a, inv a, x1, x3]) (v1 * (v0 * (v3 - v2))) (v3 - v2) (v3 - v2) (v0 * v1) 1 hi (by decide +kernel)
          have e3 : y3 = y1 + l * (x2 - x1) + m * (x3 - x2) := by rw [← hl.h1, ← hm.h1]
          generalize inv a = i at rel
          unfold sumBy
          rw [e3]
          congr 1
          · exact lin1 (env [i, l, m, x1, x2, x3]) ((v0 - v1) * (v0 - v1) - (v1 * v1 - v3 - v4) - v5) ((v0 - v2) * (v0 - v2) - (v2 * v2 - v5 - v4) - v3) (1 + 1) (v0 * (v2 - v1)) (v5 - v3) rel (by decide +kernel)
          · exact lin1 (env [i, l, m, x1, x2, x3, y1])
              ((v0 - v1) * ((v1 * v1 - v3 - v4) - ((v0 - v1) * (v0 - v1) - (v1 * v1 - v3 - v4) - v5)) - (v1 * (v3 - (v1 * v1 - v3 - v4)) - v6))
              ((v0 - v2) * ((v2 * v2 - v5 - v4) - ((v0 - v2) * (v0 - v2) - (v2 * v2 - v5 - v4) - v3)) - (v2 * (v5 - (v2 * v2 - v5 - v4)) - (v6 + v1 * (v4 - v3) + v2 * (v5 - v4))))
              (v1 + v2 - v0 - v0 - v0) (v0 * (v2 - v1)) (v5 - v3) rel (by decide +kernel)

/-! ### multiples -/
noncomputable def smul : Nat → Pt K → Pt K
  | 0, _ => .inf
  | n + 1, p => padd (smul n p) p
theorem on_smul (C : Cv K b) {p : Pt K} (hp : On b p) (n : Nat) : On b (smul n p) := by
  induction n with
  | zero => trivial
  | succ n ih => exact on_add C ih hp
theorem smul_add (C : Cv K b) {p : Pt K} (hp : On b p) (m n : Nat) : smul (m + n) p = padd (smul m p) (smul n p) := by
  induction n with
  | zero => exact (add_inf _).symm
  | succ n ih =>
    show padd (smul (m + n) p) p = padd (smul m p) (padd (smul n p) p)
    rw [ih, add_assoc_pt C (on_smul C hp m) (on_smul C hp n) hp]
end
section
variable {K : Type} [CRing K] {b : K}
theorem smul_inf (n : Nat) : smul n (.inf : Pt K) = .inf := by
  induction n with
  | zero => rfl
  | succ n ih => show padd (smul n .inf) .inf = _; rw [ih]; rfl
end
section
variable {K : Type} [CRing K] [IsField K] {b : K}
end
section
variable {K : Type} [CRing K] {b : K}
theorem smul_one (p : Pt K) : smul 1 p = p := inf_add p
end
section
variable {K : Type} [CRing K] [IsField K] {b : K}
theorem smul_mul (C : Cv K b) {p : Pt K} (hp : On b p) (m n : Nat) : smul (m * n) p = smul m (smul n p) := by
  induction m with
  | zero => rw [Nat.zero_mul]; rfl
  | succ m ih => rw [Nat.succ_mul, smul_add C hp, ih]; rfl
theorem smul_distr (C : Cv K b) {p q : Pt K} (hp : On b p) (hq : On b q) (n : Nat) : smul n (padd p q) = padd (smul n p) (smul n q) := by
  induction n with
  | zero => rfl
  | succ n ih =>
    show padd (smul n (padd p q)) (padd p q) = padd (padd (smul n p) p) (padd (smul n q) q)
    have h1 := on_smul C hp n
    have h2 := on_smul C hq n
    rw [ih, add_assoc_pt C h1 h2 (on_add C hp hq), add_assoc_pt C h1 hp (on_add C h2 hq), ← add_assoc_pt C h2 hp hq, add_comm_pt C h2 hp, add_assoc_pt C hp h2 hq]
theorem smul_neg (C : Cv K b) {p : Pt K} (hp : On b p) (n : Nat) : smul n p.neg = (smul n p).neg := by
  induction n with
  | zero => rfl
  | succ n ih =>
    show padd (smul n p.neg) p.neg = (padd (smul n p) p).neg
    rw [ih, neg_add_pt C (on_smul C hp n) hp]
theorem smul_two (C : Cv K b) {p : Pt K} (hp : On b p) (n : Nat) : smul (2 * n) p = padd (smul n p) (smul n p) := by
  rw [Nat.two_mul, smul_add C hp]
/-! ### points without a division -/
structure Jc (K : Type) where
  x : K
  y : K
  z : K
def jdbl (f : Jc K) : Jc K := ⟨(((f.x * f.x) + (f.x * f.x) + (f.x * f.x)) * ((f.x * f.x) + (f.x * f.x) + (f.x * f.x)) - ((((f.x * (f.y * f.y)) + (f.x * (f.y * f.y))) + ((f.x * (f.y * f.y)) + (f.x * (f.y * f.y)))) + (((f.x * (f.y * f.y)) + (f.x * (f.y * f.y))) + ((f.x * (f.y * f.y)) + (f.x * (f.y * f.y)))))), (((f.x * f.x) + (f.x * f.x) + (f.x * f.x)) * ((((f.x * (f.y * f.y)) + (f.x * (f.y * f.y))) + ((f.x * (f.y * f.y)) + (f.x * (f.y * f.y)))) - (((f.x * f.x) + (f.x * f.x) + (f.x * f.x)) * ((f.x * f.x) + (f.x * f.x) + (f.x * f.x)) - ((((f.x * (f.y * f.y)) + (f.x * (f.y * f.y))) + ((f.x * (f.y * f.y)) + (f.x * (f.y * f.y)))) + (((f.x * (f.y * f.y)) + (f.x * (f.y * f.y))) + ((f.x * (f.y * f.y)) + (f.x * (f.y * f.y))))))) - (((((f.y * f.y) * (f.y * f.y)) + ((f.y * f.y) * (f.y * f.y))) + (((f.y * f.y) * (f.y * f.y)) + ((f.y * f.y) * (f.y * f.y)))) + ((((f.y * f.y) * (f.y * f.y)) + ((f.y * f.y) * (f.y * f.y))) + (((f.y * f.y) * (f.y * f.y)) + ((f.y * f.y) * (f.y * f.y)))))), ((f.y * f.z) + (f.y * f.z))⟩
def jplus (f : Jc K) (qx qy : K) : Jc K := ⟨((qy * ((f.z * f.z) * f.z) - f.y) * (qy * ((f.z * f.z) * f.z) - f.y) - (((qx * (f.z * f.z) - f.x) * (qx * (f.z * f.z) - f.x)) * (qx * (f.z * f.z) - f.x)) - ((f.x * ((qx * (f.z * f.z) - f.x) * (qx * (f.z * f.z) - f.x))) + (f.x * ((qx * (f.z * f.z) - f.x) * (qx * (f.z * f.z) - f.x))))), ((qy * ((f.z * f.z) * f.z) - f.y) * ((f.x * ((qx * (f.z * f.z) - f.x) * (qx * (f.z * f.z) - f.x))) - ((qy * ((f.z * f.z) * f.z) - f.y) * (qy * ((f.z * f.z) * f.z) - f.y) - (((qx * (f.z * f.z) - f.x) * (qx * (f.z * f.z) - f.x)) * (qx * (f.z * f.z) - f.x)) - ((f.x * ((qx * (f.z * f.z) - f.x) * (qx * (f.z * f.z) - f.x))) + (f.x * ((qx * (f.z * f.z) - f.x) * (qx * (f.z * f.z) - f.x)))))) - f.y * (((qx * (f.z * f.z) - f.x) * (qx * (f.z * f.z) - f.x)) * (qx * (f.z * f.z) - f.x))), (f.z * (qx * (f.z * f.z) - f.x))⟩
open Classical in
noncomputable def jadd (f : Jc K) (qx qy : K) : Jc K :=
  if f.z = 0 then ⟨qx, qy, 1⟩
  else if qx * (f.z * f.z) - f.x = 0 then (if qy * (f.z * f.z * f.z) - f.y = 0 then jdbl f else ⟨0, 0, 0⟩)
  else jplus f qx qy
/-- What it stands for. -/
def Rep (f : Jc K) : Pt K → Prop
  | .inf => f.z = 0
  | .aff x y => f.z ≠ 0 ∧ f.x = x * (f.z * f.z) ∧ f.y = y * (f.z * f.z * f.z)
open Classical in
noncomputable def jpt (f : Jc K) : Pt K := if f.z = 0 then .inf else .aff (f.x * (inv f.z * inv f.z)) (f.y * (inv f.z * inv f.z * inv f.z))
theorem rep_pt {f : Jc K} {p : Pt K} (h : Rep f p) : jpt f = p := by
  unfold jpt
  cases p with
  | inf => exact if_pos h
  | aff x y =>
    obtain ⟨h1, h2, h3⟩ := h
    have hi := mul_inv h1
    rw [if_neg h1, h2, h3]
    congr 1
    · exact lin1 (env [x, f.z, inv f.z]) (v0 * (v1 * v1) * (v2 * v2)) v0 (v0 * (v1 * v2 + 1)) (v1 * v2) 1 hi (by decide +kernel)
    · exact lin1 (env [y, f.z, inv f.z]) (v0 * (v1 * v1 * v1) * (v2 * v2 * v2)) v0 (v0 * (v1 * v2 * (v1 * v2) + v1 * v2 + 1)) (v1 * v2) 1 hi (by decide +kernel)
theorem rep_dbl (C : Cv K b) {f : Jc K} {p : Pt K} (hp : On b p) (h : Rep f p) : Rep (jdbl f) (padd p p) := by
  cases p with
  | inf =>
    have h : f.z = 0 := h
    show f.y * f.z + f.y * f.z = 0
    rw [h, mul_zero, add_zero]
  | aff x y =>
    obtain ⟨h1, h2, h3⟩ := h
    by_cases hy : y = 0
    · subst hy
      rw [padd_aff, if_pos rfl, if_pos (.inr rfl)]
      show f.y * f.z + f.y * f.z = 0
      rw [h3, zero_mul, zero_mul, add_zero]
    · have hn : ¬ (x = x ∧ y = -y) := fun e => hy (neg_eq_self C e.2)
      obtain ⟨l, hl⟩ := ln_ex C hp hp hn
      rw [padd_ln C hl hn]
      have e1 : l * (y + y) = x * x + x * x + x * x := hl.e1
      obtain ⟨fx, fy, z⟩ := f
      dsimp only at h1 h2 h3
      subst h2; subst h3
      refine ⟨?_, ?_, ?_⟩
      · show y * (z * z * z) * z + y * (z * z * z) * z ≠ 0
        exact dbl_ne C (mul_ne_zero (mul_ne_zero hy (mul_ne_zero (mul_ne_zero h1 h1) h1)) h1)
      · exact lin1 (env [x, y, z, l]) ((((v0 * (v2 * v2)) * (v0 * (v2 * v2))) + ((v0 * (v2 * v2)) * (v0 * (v2 * v2))) + ((v0 * (v2 * v2)) * (v0 * (v2 * v2)))) * (((v0 * (v2 * v2)) * (v0 * (v2 * v2))) + ((v0 * (v2 * v2)) * (v0 * (v2 * v2))) + ((v0 * (v2 * v2)) * (v0 * (v2 * v2)))) - (((((v0 * (v2 * v2)) * ((v1 * (v2 * v2 * v2)) * (v1 * (v2 * v2 * v2)))) + ((v0 * (v2 * v2)) * ((v1 * (v2 * v2 * v2)) * (v1 * (v2 * v2 * v2))))) + (((v0 * (v2 * v2)) * ((v1 * (v2 * v2 * v2)) * (v1 * (v2 * v2 * v2)))) + ((v0 * (v2 * v2)) * ((v1 * (v2 * v2 * v2)) * (v1 * (v2 * v2 * v2)))))) + ((((v0 * (v2 * v2)) * ((v1 * (v2 * v2 * v2)) * (v1 * (v2 * v2 * v2)))) + ((v0 * (v2 * v2)) * ((v1 * (v2 * v2 * v2)) * (v1 * (v2 * v2 * v2))))) + (((v0 * (v2 * v2)) * ((v1 * (v2 * v2 * v2)) * (v1 * (v2 * v2 * v2)))) + ((v0 * (v2 * v2)) * ((v1 * (v2 * v2 * v2)) * (v1 * (v2 * v2 * v2)))))))) ((v3 * v3 - v0 - v0) * ((((v1 * (v2 * v2 * v2)) * v2) + ((v1 * (v2 * v2 * v2)) * v2)) * (((v1 * (v2 * v2 * v2)) * v2) + ((v1 * (v2 * v2 * v2)) * v2)))) (-((v2 * v2 * v2 * v2 * v2 * v2 * v2 * v2) * ((1 + 1 + 1) * ((v0 * v0)) + (1 + 1) * (v1 * v3)))) (v3 * (v1 + v1)) (v0 * v0 + v0 * v0 + v0 * v0) e1 (by decide +kernel)
      · exact lin1 (env [x, y, z, l]) ((((v0 * (v2 * v2)) * (v0 * (v2 * v2))) + ((v0 * (v2 * v2)) * (v0 * (v2 * v2))) + ((v0 * (v2 * v2)) * (v0 * (v2 * v2)))) * (((((v0 * (v2 * v2)) * ((v1 * (v2 * v2 * v2)) * (v1 * (v2 * v2 * v2)))) + ((v0 * (v2 * v2)) * ((v1 * (v2 * v2 * v2)) * (v1 * (v2 * v2 * v2))))) + (((v0 * (v2 * v2)) * ((v1 * (v2 * v2 * v2)) * (v1 * (v2 * v2 * v2)))) + ((v0 * (v2 * v2)) * ((v1 * (v2 * v2 * v2)) * (v1 * (v2 * v2 * v2)))))) - ((((v0 * (v2 * v2)) * (v0 * (v2 * v2))) + ((v0 * (v2 * v2)) * (v0 * (v2 * v2))) + ((v0 * (v2 * v2)) * (v0 * (v2 * v2)))) * (((v0 * (v2 * v2)) * (v0 * (v2 * v2))) + ((v0 * (v2 * v2)) * (v0 * (v2 * v2))) + ((v0 * (v2 * v2)) * (v0 * (v2 * v2)))) - (((((v0 * (v2 * v2)) * ((v1 * (v2 * v2 * v2)) * (v1 * (v2 * v2 * v2)))) + ((v0 * (v2 * v2)) * ((v1 * (v2 * v2 * v2)) * (v1 * (v2 * v2 * v2))))) + (((v0 * (v2 * v2)) * ((v1 * (v2 * v2 * v2)) * (v1 * (v2 * v2 * v2)))) + ((v0 * (v2 * v2)) * ((v1 * (v2 * v2 * v2)) * (v1 * (v2 * v2 * v2)))))) + ((((v0 * (v2 * v2)) * ((v1 * (v2 * v2 * v2)) * (v1 * (v2 * v2 * v2)))) + ((v0 * (v2 * v2)) * ((v1 * (v2 * v2 * v2)) * (v1 * (v2 * v2 * v2))))) + (((v0 * (v2 * v2)) * ((v1 * (v2 * v2 * v2)) * (v1 * (v2 * v2 * v2)))) + ((v0 * (v2 * v2)) * ((v1 * (v2 * v2 * v2)) * (v1 * (v2 * v2 * v2))))))))) - ((((((v1 * (v2 * v2 * v2)) * (v1 * (v2 * v2 * v2))) * ((v1 * (v2 * v2 * v2)) * (v1 * (v2 * v2 * v2)))) + (((v1 * (v2 * v2 * v2)) * (v1 * (v2 * v2 * v2))) * ((v1 * (v2 * v2 * v2)) * (v1 * (v2 * v2 * v2))))) + ((((v1 * (v2 * v2 * v2)) * (v1 * (v2 * v2 * v2))) * ((v1 * (v2 * v2 * v2)) * (v1 * (v2 * v2 * v2)))) + (((v1 * (v2 * v2 * v2)) * (v1 * (v2 * v2 * v2))) * ((v1 * (v2 * v2 * v2)) * (v1 * (v2 * v2 * v2)))))) + (((((v1 * (v2 * v2 * v2)) * (v1 * (v2 * v2 * v2))) * ((v1 * (v2 * v2 * v2)) * (v1 * (v2 * v2 * v2)))) + (((v1 * (v2 * v2 * v2)) * (v1 * (v2 * v2 * v2))) * ((v1 * (v2 * v2 * v2)) * (v1 * (v2 * v2 * v2))))) + ((((v1 * (v2 * v2 * v2)) * (v1 * (v2 * v2 * v2))) * ((v1 * (v2 * v2 * v2)) * (v1 * (v2 * v2 * v2)))) + (((v1 * (v2 * v2 * v2)) * (v1 * (v2 * v2 * v2))) * ((v1 * (v2 * v2 * v2)) * (v1 * (v2 * v2 * v2)))))))) ((v3 * (v0 - (v3 * v3 - v0 - v0)) - v1) * ((((v1 * (v2 * v2 * v2)) * v2) + ((v1 * (v2 * v2 * v2)) * v2)) * (((v1 * (v2 * v2 * v2)) * v2) + ((v1 * (v2 * v2 * v2)) * v2)) * (((v1 * (v2 * v2 * v2)) * v2) + ((v1 * (v2 * v2 * v2)) * v2)))) ((v2 * v2 * v2 * v2 * v2 * v2 * v2 * v2 * v2 * v2 * v2 * v2) * ((1 + 1 + 1 + 1 + 1 + 1 + 1 + 1 + 1) * ((v0 * v0 * v0 * v0)) + -((1 + 1 + 1 + 1 + 1 + 1 + 1 + 1 + 1 + 1 + 1 + 1)) * (v0 * (v1 * v1)) + (1 + 1 + 1 + 1) * ((v1 * v1) * (v3 * v3)) + (1 + 1 + 1 + 1 + 1 + 1) * (v1 * v3 * (v0 * v0)))) (v3 * (v1 + v1)) (v0 * v0 + v0 * v0 + v0 * v0) e1 (by decide +kernel)
theorem rep_add (C : Cv K b) {f : Jc K} {p : Pt K} {qx qy : K} (hp : On b p) (hq : On b (.aff qx qy)) (h : Rep f p) : Rep (jadd f qx qy) (padd p (.aff qx qy)) := by
  unfold jadd
  cases p with
  | inf =>
    have h : f.z = 0 := h
    rw [if_pos h, inf_add]
    exact ⟨one_ne_zero, by show qx = qx * (1 * 1); rw [mul_one, mul_one], by show qy = qy * (1 * 1 * 1); rw [mul_one, mul_one, mul_one]⟩
  | aff x y =>
    obtain ⟨h1, h2, h3⟩ := id h
    rw [if_neg h1]
    have zz : f.z * f.z ≠ 0 := mul_ne_zero h1 h1
    have hx : qx * (f.z * f.z) - f.x = (qx - x) * (f.z * f.z) := by
      rw [h2]; exact ident (env [x, f.z, qx]) (v2 * (v1 * v1) - v0 * (v1 * v1)) ((v2 - v0) * (v1 * v1)) (by decide +kernel)
    have hy : qy * (f.z * f.z * f.z) - f.y = (qy - y) * (f.z * f.z * f.z) := by
      rw [h3]; exact ident (env [y, f.z, qy]) (v2 * (v1 * v1 * v1) - v0 * (v1 * v1 * v1)) ((v2 - v0) * (v1 * v1 * v1)) (by decide +kernel)
    by_cases e : x = qx
    · subst e
      rw [if_pos (by rw [hx, sub_self, zero_mul])]
      rcases same_x hp hq rfl with e2 | e2
      · subst e2
        rw [if_pos (by rw [hy, sub_self, zero_mul])]
        exact rep_dbl C hp h
      · by_cases hy0 : qy = y
        · subst hy0
          rw [if_pos (by rw [hy, sub_self, zero_mul])]
          exact rep_dbl C hp h
        · have : qy * (f.z * f.z * f.z) - f.y ≠ 0 := by
            rw [hy]
            exact mul_ne_zero (fun e => hy0 (sub_eq_zero.1 e)) (mul_ne_zero zz h1)
          rw [if_neg this, e2, padd_opp x y C]
          rfl
    · have h0 : qx * (f.z * f.z) - f.x ≠ 0 := by
        rw [hx]; exact mul_ne_zero (sub_ne e) zz
      rw [if_neg h0]
      have hn : ¬ (x = qx ∧ qy = -y) := fun h => e h.1
      obtain ⟨l, hl⟩ := ln_ex C hp hq hn
      rw [padd_ln C hl hn]
      have e1 := hl.h1
      obtain ⟨fx, fy, z⟩ := f
      dsimp only at h1 h2 h3
      subst h2; subst h3
      refine ⟨?_, ?_, ?_⟩
      · exact mul_ne_zero h1 h0
      · exact lin1 (env [x, y, z, l, qx, qy]) ((v5 * ((v2 * v2) * v2) - (v1 * (v2 * v2 * v2))) * (v5 * ((v2 * v2) * v2) - (v1 * (v2 * v2 * v2))) - (((v4 * (v2 * v2) - (v0 * (v2 * v2))) * (v4 * (v2 * v2) - (v0 * (v2 * v2)))) * (v4 * (v2 * v2) - (v0 * (v2 * v2)))) - (((v0 * (v2 * v2)) * ((v4 * (v2 * v2) - (v0 * (v2 * v2))) * (v4 * (v2 * v2) - (v0 * (v2 * v2))))) + ((v0 * (v2 * v2)) * ((v4 * (v2 * v2) - (v0 * (v2 * v2))) * (v4 * (v2 * v2) - (v0 * (v2 * v2))))))) ((v3 * v3 - v0 - v4) * ((v2 * (v4 * (v2 * v2) - (v0 * (v2 * v2)))) * (v2 * (v4 * (v2 * v2) - (v0 * (v2 * v2)))))) (-((v2 * v2 * v2 * v2 * v2 * v2) * (v1 + -(v5) + v0 * v3 + -(v3 * v4)))) v5 (v1 + v3 * (v4 - v0)) e1 (by decide +kernel)
      · exact lin1 (env [x, y, z, l, qx, qy]) ((v5 * ((v2 * v2) * v2) - (v1 * (v2 * v2 * v2))) * (((v0 * (v2 * v2)) * ((v4 * (v2 * v2) - (v0 * (v2 * v2))) * (v4 * (v2 * v2) - (v0 * (v2 * v2))))) - ((v5 * ((v2 * v2) * v2) - (v1 * (v2 * v2 * v2))) * (v5 * ((v2 * v2) * v2) - (v1 * (v2 * v2 * v2))) - (((v4 * (v2 * v2) - (v0 * (v2 * v2))) * (v4 * (v2 * v2) - (v0 * (v2 * v2)))) * (v4 * (v2 * v2) - (v0 * (v2 * v2)))) - (((v0 * (v2 * v2)) * ((v4 * (v2 * v2) - (v0 * (v2 * v2))) * (v4 * (v2 * v2) - (v0 * (v2 * v2))))) + ((v0 * (v2 * v2)) * ((v4 * (v2 * v2) - (v0 * (v2 * v2))) * (v4 * (v2 * v2) - (v0 * (v2 * v2)))))))) - (v1 * (v2 * v2 * v2)) * (((v4 * (v2 * v2) - (v0 * (v2 * v2))) * (v4 * (v2 * v2) - (v0 * (v2 * v2)))) * (v4 * (v2 * v2) - (v0 * (v2 * v2))))) ((v3 * (v0 - (v3 * v3 - v0 - v4)) - v1) * ((v2 * (v4 * (v2 * v2) - (v0 * (v2 * v2)))) * (v2 * (v4 * (v2 * v2) - (v0 * (v2 * v2)))) * (v2 * (v4 * (v2 * v2) - (v0 * (v2 * v2)))))) (-((v2 * v2 * v2 * v2 * v2 * v2 * v2 * v2 * v2) * ((v1 * v1) + (v5 * v5) + -((v4 * v4 * v4)) + -((1 + 1)) * ((v0 * v0 * v0)) + (v0 * v0) * (v3 * v3) + (v3 * v3) * (v4 * v4) + -((1 + 1)) * (v1 * v5) + (1 + 1 + 1) * (v4 * (v0 * v0)) + v0 * v1 * v3 + v3 * v4 * v5 + -(v0 * v3 * v5) + -(v1 * v3 * v4) + -((1 + 1)) * (v0 * v4 * (v3 * v3))))) v5 (v1 + v3 * (v4 - v0)) e1 (by decide +kernel)
end
section
variable {K : Type} [CRing K] {b : K}
theorem rep_zero : Rep (⟨0, 0, 0⟩ : Jc K) .inf := rfl

end
section
variable {K : Type} [CRing K] [IsField K] {b : K}
end
end Go.Alg
