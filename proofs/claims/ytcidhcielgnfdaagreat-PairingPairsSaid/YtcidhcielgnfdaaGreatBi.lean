/-
  Lines of a curve at points: brackets, opposites and turns of their numbers, up to the numbers of a smaller field.
-/
import Derived.Test.YtcidhcielgnfdaaGreatEc
namespace Go.Alg

section
variable {K : Type} [CRing K]
/-- A line by its slope and a point, at (x, y). -/
def lnv (l x1 y1 x y : K) : K := l * x1 - y1 - l * x + y
open Classical in
/-- The line through two points at (x, y); 1, where one of them is infinity. -/
noncomputable def ell : Pt K → Pt K → K → K → K
  | .aff x1 y1, .aff x2 y2, x, y =>
    if x1 = x2 then (if y1 ≠ y2 ∨ y1 = 0 then x1 - x else lnv ((x1 * x1 + x1 * x1 + x1 * x1) * inv (y1 + y1)) x1 y1 x y)
    else lnv ((y2 - y1) * inv (x2 - x1)) x1 y1 x y
  | _, _, _, _ => 1
open Classical in
theorem ell_aff (x1 y1 x2 y2 x y : K) : ell (.aff x1 y1) (.aff x2 y2) x y =
    if x1 = x2 then (if y1 ≠ y2 ∨ y1 = 0 then x1 - x else lnv ((x1 * x1 + x1 * x1 + x1 * x1) * inv (y1 + y1)) x1 y1 x y)
    else lnv ((y2 - y1) * inv (x2 - x1)) x1 y1 x y := rfl
theorem ell_inf (p : Pt K) (x y : K) : ell p .inf x y = 1 := by cases p <;> rfl
theorem inf_ell (p : Pt K) (x y : K) : ell .inf p x y = 1 := by cases p <;> rfl
variable {b : K}
theorem lnv_symm {x1 y1 x2 y2 l : K} (h : Ln b x1 y1 x2 y2 l) (x y : K) : lnv l x2 y2 x y = lnv l x1 y1 x y :=
  lin1 (env [x1, y1, x2, y2, l, x, y]) (v4 * v2 - v3 - v4 * v5 + v6) (v4 * v0 - v1 - v4 * v5 + v6) (-1) v3 (v1 + v4 * (v2 - v0)) h.h1 (by decide +kernel)
/-- By the sum. -/
theorem lnv_sum (l x1 y1 x2 x y : K) : lnv l x1 y1 x y = y + (l * (x1 - (l * l - x1 - x2)) - y1) - l * (x - (l * l - x1 - x2)) :=
  ident (env [x1, y1, x2, l, x, y]) (v3 * v0 - v1 - v3 * v4 + v5) (v5 + (v3 * (v0 - (v3 * v3 - v0 - v2)) - v1) - v3 * (v4 - (v3 * v3 - v0 - v2))) (by decide +kernel)
theorem two_lines {l k xD yD x y : K} (hD : yD * yD = xD * xD * xD + b) (hP : y * y = x * x * x + b) :
    (y + yD - l * (x - xD)) * lnv k xD yD x y = (x - xD) * (x * x - (l + k) * y + (xD + l * k) * x + (xD * xD + (l - k) * yD - l * k * xD)) :=
  lin2 (env [l, k, xD, yD, x, y, b]) ((v5 + v3 - v0 * (v4 - v2)) * (v1 * v2 - v3 - v1 * v4 + v5)) ((v4 - v2) * (v4 * v4 - (v0 + v1) * v5 + (v2 + v0 * v1) * v4 + (v2 * v2 + (v0 - v1) * v3 - v0 * v1 * v2))) 1 (v5 * v5) (v4 * v4 * v4 + v6) (-1) (v3 * v3) (v2 * v2 * v2 + v6) hP hD (by decide +kernel)
/-- Two lines that bring three points to their sum: the brackets may stand either way. -/
theorem lines_bracket {x1 y1 x2 y2 x3 y3 l m i x y : K} (h : Ln b x1 y1 x2 y2 l) (k : Ln b x2 y2 x3 y3 m) (rel : i * (m - l) = x3 - x1) (hP : y * y = x * x * x + b) :
    lnv l x1 y1 x y * lnv (i - l) (l * l - x1 - x2) (l * (x1 - (l * l - x1 - x2)) - y1) x y * (x - (m * m - x2 - x3)) =
    lnv m x2 y2 x y * lnv (i - m) (m * m - x2 - x3) (m * (x2 - (m * m - x2 - x3)) - y2) x y * (x - (l * l - x1 - x2)) := by
  have hD : (l * (x1 - (l * l - x1 - x2)) - y1) * (l * (x1 - (l * l - x1 - x2)) - y1) = (l * l - x1 - x2) * (l * l - x1 - x2) * (l * l - x1 - x2) + b := h.third
  have hE : (m * (x2 - (m * m - x2 - x3)) - y2) * (m * (x2 - (m * m - x2 - x3)) - y2) = (m * m - x2 - x3) * (m * m - x2 - x3) * (m * m - x2 - x3) + b := k.third
  rw [lnv_sum l x1 y1 x2, lnv_sum m x2 y2 x3, two_lines hD hP, two_lines hE hP]
  have e1 : l * (y1 + (y1 + l * (x2 - x1))) = x2 * x2 + x1 * x2 + x1 * x1 := by rw [← h.h1]; exact h.e1
  have e2 : m * ((y1 + l * (x2 - x1)) + ((y1 + l * (x2 - x1)) + m * (x3 - x2))) = x3 * x3 + x2 * x3 + x2 * x2 := by rw [← h.h1, ← k.h1]; exact k.e1
  have hc : (l * l - x1 - x2) * (l * l - x1 - x2) + (l - (i - l)) * (l * (x1 - (l * l - x1 - x2)) - y1) - l * (i - l) * (l * l - x1 - x2) =
      (m * m - x2 - x3) * (m * m - x2 - x3) + (m - (i - m)) * (m * (x2 - (m * m - x2 - x3)) - y2) - m * (i - m) * (m * m - x2 - x3) := by
    rw [h.h1]
    exact lin3 (env [x1, y1, x2, x3, l, m, i])
      ((v4 * v4 - v0 - v2) * (v4 * v4 - v0 - v2) + (v4 - (v6 - v4)) * (v4 * (v0 - (v4 * v4 - v0 - v2)) - v1) - v4 * (v6 - v4) * (v4 * v4 - v0 - v2))
      ((v5 * v5 - v2 - v3) * (v5 * v5 - v2 - v3) + (v5 - (v6 - v5)) * (v5 * (v2 - (v5 * v5 - v2 - v3)) - (v1 + v4 * (v2 - v0))) - v5 * (v6 - v5) * (v5 * v5 - v2 - v3))
      v2 (v6 * (v5 - v4)) (v3 - v0) (-1) (v4 * (v1 + (v1 + v4 * (v2 - v0)))) (v2 * v2 + v0 * v2 + v0 * v0) 1 (v5 * ((v1 + v4 * (v2 - v0)) + ((v1 + v4 * (v2 - v0)) + v5 * (v3 - v2)))) (v3 * v3 + v2 * v3 + v2 * v2) rel e1 e2 (by decide +kernel)
  have hx : l * l - x1 - x2 + l * (i - l) = m * m - x2 - x3 + m * (i - m) :=
    lin1 (env [x1, x2, x3, l, m, i]) (v3 * v3 - v0 - v1 + v3 * (v5 - v3)) (v4 * v4 - v1 - v2 + v4 * (v5 - v4)) (-1) (v5 * (v4 - v3)) (v2 - v0) rel (by decide +kernel)
  have hi : l + (i - l) = m + (i - m) := ident (env [l, m, i]) (v0 + (v2 - v0)) (v1 + (v2 - v1)) (by decide +kernel)
  rw [hc, hx, hi]
  generalize m * m - x2 - x3 = p
  generalize l * l - x1 - x2 = q
  generalize x * x - (m + (i - m)) * y + (p + m * (i - m)) * x + (p * p + (m - (i - m)) * (m * (x2 - p) - y2) - m * (i - m) * p) = n
  exact ident (env [x, p, q, n]) ((v0 - v2) * v3 * (v0 - v1)) ((v0 - v1) * v3 * (v0 - v2)) (by decide +kernel)

/-! ### a line's three points on another line -/
theorem vieta2 {x1 y1 x2 y2 l : K} (h : Ln b x1 y1 x2 y2 l) : x1 * x2 + x1 * (l * l - x1 - x2) + x2 * (l * l - x1 - x2) = -(l * (y1 - l * x1) + l * (y1 - l * x1)) := by
  have e1 : l * (y1 + (y1 + l * (x2 - x1))) = x2 * x2 + x1 * x2 + x1 * x1 := by rw [← h.h1]; exact h.e1
  exact lin1 (env [x1, y1, x2, l]) (v0 * v2 + v0 * (v3 * v3 - v0 - v2) + v2 * (v3 * v3 - v0 - v2)) (-(v3 * (v1 - v3 * v0) + v3 * (v1 - v3 * v0))) 1 (v3 * (v1 + (v1 + v3 * (v2 - v0)))) (v2 * v2 + v0 * v2 + v0 * v0) e1 (by decide +kernel)
theorem vieta3 {x1 y1 x2 y2 l : K} (h : Ln b x1 y1 x2 y2 l) : x1 * x2 * (l * l - x1 - x2) = (y1 - l * x1) * (y1 - l * x1) - b := by
  have e1 : l * (y1 + (y1 + l * (x2 - x1))) = x2 * x2 + x1 * x2 + x1 * x1 := by rw [← h.h1]; exact h.e1
  exact lin2 (env [x1, y1, x2, l, b]) (v0 * v2 * (v3 * v3 - v0 - v2)) ((v1 - v3 * v0) * (v1 - v3 * v0) - v4) v0 (v3 * (v1 + (v1 + v3 * (v2 - v0)))) (v2 * v2 + v0 * v2 + v0 * v0) (-1) (v1 * v1) (v0 * v0 * v0 + v4) e1 h.on (by decide +kernel)
theorem cube_prod (d e a1 a2 a3 : K) : (d * a1 + e) * (d * a2 + e) * (d * a3 + e) = d * d * d * (a1 * a2 * a3) + d * d * e * (a1 * a2 + a1 * a3 + a2 * a3) + d * e * e * (a1 + a2 + a3) + e * e * e :=
  ident (env [d, e, a1, a2, a3]) ((v0 * v2 + v1) * (v0 * v3 + v1) * (v0 * v4 + v1)) (v0 * v0 * v0 * (v2 * v3 * v4) + v0 * v0 * v1 * (v2 * v3 + v2 * v4 + v3 * v4) + v0 * v1 * v1 * (v2 + v3 + v4) + v1 * v1 * v1) (by decide +kernel)
/-- Two lines: the one at the other's three points, and the other way round. -/
theorem lines_turn {x1 y1 x2 y2 l p1 q1 p2 q2 k : K} (h : Ln b x1 y1 x2 y2 l) (g : Ln b p1 q1 p2 q2 k) :
    lnv l x1 y1 p1 q1 * lnv l x1 y1 p2 q2 * lnv l x1 y1 (k * k - p1 - p2) (-(k * (p1 - (k * k - p1 - p2)) - q1)) =
    -(lnv k p1 q1 x1 y1 * lnv k p1 q1 x2 y2 * lnv k p1 q1 (l * l - x1 - x2) (-(l * (x1 - (l * l - x1 - x2)) - y1))) := by
  have a1 : lnv l x1 y1 p1 q1 = (k - l) * p1 + ((q1 - k * p1) - (y1 - l * x1)) := ident (env [x1, y1, l, p1, q1, k]) (v2 * v0 - v1 - v2 * v3 + v4) ((v5 - v2) * v3 + ((v4 - v5 * v3) - (v1 - v2 * v0))) (by decide +kernel)
  have a2 : lnv l x1 y1 p2 q2 = (k - l) * p2 + ((q1 - k * p1) - (y1 - l * x1)) := by
    rw [g.h1]
    exact ident (env [x1, y1, l, p1, q1, k, p2]) (v2 * v0 - v1 - v2 * v6 + (v4 + v5 * (v6 - v3))) ((v5 - v2) * v6 + ((v4 - v5 * v3) - (v1 - v2 * v0))) (by decide +kernel)
  have a3 : lnv l x1 y1 (k * k - p1 - p2) (-(k * (p1 - (k * k - p1 - p2)) - q1)) = (k - l) * (k * k - p1 - p2) + ((q1 - k * p1) - (y1 - l * x1)) := by
    generalize k * k - p1 - p2 = p3
    exact ident (env [x1, y1, l, p1, q1, k, p3]) (v2 * v0 - v1 - v2 * v6 + -(v5 * (v3 - v6) - v4)) ((v5 - v2) * v6 + ((v4 - v5 * v3) - (v1 - v2 * v0))) (by decide +kernel)
  have c1 : lnv k p1 q1 x1 y1 = -((k - l) * x1 + ((q1 - k * p1) - (y1 - l * x1))) := ident (env [x1, y1, l, p1, q1, k]) (v5 * v3 - v4 - v5 * v0 + v1) (-((v5 - v2) * v0 + ((v4 - v5 * v3) - (v1 - v2 * v0)))) (by decide +kernel)
  have c2 : lnv k p1 q1 x2 y2 = -((k - l) * x2 + ((q1 - k * p1) - (y1 - l * x1))) := by
    rw [h.h1]
    exact ident (env [x1, y1, l, p1, q1, k, x2]) (v5 * v3 - v4 - v5 * v6 + (v1 + v2 * (v6 - v0))) (-((v5 - v2) * v6 + ((v4 - v5 * v3) - (v1 - v2 * v0)))) (by decide +kernel)
  have c3 : lnv k p1 q1 (l * l - x1 - x2) (-(l * (x1 - (l * l - x1 - x2)) - y1)) = -((k - l) * (l * l - x1 - x2) + ((q1 - k * p1) - (y1 - l * x1))) := by
    generalize l * l - x1 - x2 = x3
    exact ident (env [x1, y1, l, p1, q1, k, x3]) (v5 * v3 - v4 - v5 * v6 + -(v2 * (v0 - v6) - v1)) (-((v5 - v2) * v6 + ((v4 - v5 * v3) - (v1 - v2 * v0)))) (by decide +kernel)
  rw [a1, a2, a3, c1, c2, c3]
  have neg3 : ∀ u v w : K, -(-u * -v * -w) = u * v * w := fun u v w => ident (env [u, v, w]) (-(-v0 * -v1 * -v2)) (v0 * v1 * v2) (by decide +kernel)
  rw [neg3, cube_prod, cube_prod, vieta2 h, vieta3 h, vieta2 g, vieta3 g]
  have s1 : p1 + p2 + (k * k - p1 - p2) = k * k := ident (env [p1, p2, k]) (v0 + v1 + (v2 * v2 - v0 - v1)) (v2 * v2) (by decide +kernel)
  have t1 : x1 + x2 + (l * l - x1 - x2) = l * l := ident (env [x1, x2, l]) (v0 + v1 + (v2 * v2 - v0 - v1)) (v2 * v2) (by decide +kernel)
  rw [s1, t1]
  generalize q1 - k * p1 = f
  generalize y1 - l * x1 = n
  exact ident (env [k, l, f, n, b])
    ((v0 - v1) * (v0 - v1) * (v0 - v1) * (v2 * v2 - v4) + (v0 - v1) * (v0 - v1) * (v2 - v3) * -(v0 * v2 + v0 * v2) + (v0 - v1) * (v2 - v3) * (v2 - v3) * (v0 * v0) + (v2 - v3) * (v2 - v3) * (v2 - v3))
    ((v0 - v1) * (v0 - v1) * (v0 - v1) * (v3 * v3 - v4) + (v0 - v1) * (v0 - v1) * (v2 - v3) * -(v1 * v3 + v1 * v3) + (v0 - v1) * (v2 - v3) * (v2 - v3) * (v1 * v1) + (v2 - v3) * (v2 - v3) * (v2 - v3)) (by decide +kernel)
end

/-! ### up to a smaller field's numbers -/
/-- S: a field within; V: what is turned by its opposite, times which V's are S's; T: a field within S. -/
structure Halves (K : Type) [CRing K] (T S V : K → Prop) : Prop where
  ts : ∀ a, T a → S a
  t1 : T 1
  tadd : ∀ a c, T a → T c → T (a + c)
  tneg : ∀ a, T a → T (-a)
  tmul : ∀ a c, T a → T c → T (a * c)
  tinv : ∀ a, T a → T (inv a)
  s1 : S 1
  sadd : ∀ a c, S a → S c → S (a + c)
  sneg : ∀ a, S a → S (-a)
  smul : ∀ a c, S a → S c → S (a * c)
  sinv : ∀ a, S a → S (inv a)
  vadd : ∀ a c, V a → V c → V (a + c)
  vneg : ∀ a, V a → V (-a)
  sv : ∀ a c, S a → V c → V (a * c)
  vv : ∀ a c, V a → V c → S (a * c)
  vinv : ∀ a, V a → V (inv a)
  none : ∀ a, S a → V a → a = 0
/-- A map that turns products into products, and S's numbers into 1. -/
structure Kills (K : Type) [CRing K] (S : K → Prop) (G : K → K) : Prop where
  mul : ∀ a c, G (a * c) = G a * G c
  one : ∀ a, S a → a ≠ 0 → G a = 1
def TPt {K : Type} (T : K → Prop) : Pt K → Prop
  | .inf => True
  | .aff x y => T x ∧ T y
/-- Where lines are looked at. -/
structure Far {K : Type} [CRing K] (T S V : K → Prop) (b x y : K) : Prop where
  on : y * y = x * x * x + b
  xs : S x
  xt : ¬ T x
  yv : V y
  y0 : y ≠ 0
section
variable {K : Type} [CRing K] {T S V : K → Prop}
theorem Halves.tsub (H : Halves K T S V) {a c : K} (ha : T a) (hc : T c) : T (a - c) := H.tadd _ _ ha (H.tneg _ hc)
theorem Halves.ssub (H : Halves K T S V) {a c : K} (ha : S a) (hc : S c) : S (a - c) := H.sadd _ _ ha (H.sneg _ hc)
theorem Halves.vsub (H : Halves K T S V) {a c : K} (ha : V a) (hc : V c) : V (a - c) := H.vadd _ _ ha (H.vneg _ hc)
theorem Halves.vs (H : Halves K T S V) {a c : K} (ha : V a) (hc : S c) : V (a * c) := by rw [mul_comm]; exact H.sv _ _ hc ha
theorem Halves.t0 (H : Halves K T S V) : T 0 := by rw [← sub_self (1 : K)]; exact H.tsub H.t1 H.t1
end
section
variable {K : Type} [CRing K] [IsField K] {b : K} {T S V : K → Prop} {G : K → K}
end
section
variable {K : Type} [CRing K] {b : K} {T S V : K → Prop} {G : K → K}
theorem Kills.inv2 (k : Kills K S G) {a c : K} (h : S (a * c)) (h0 : a * c ≠ 0) : G a * G c = 1 := by rw [← k.mul]; exact k.one _ h h0
end
section
variable {K : Type} [CRing K] [IsField K] {b : K} {T S V : K → Prop} {G : K → K}
end
section
variable {K : Type} [CRing K] {b : K} {T S V : K → Prop} {G : K → K}
/-- Up to S. -/
theorem Kills.eqv (k : Kills K S G) {u v s t : K} (e : u * s = v * t) (hs : S s) (ht : S t) (s0 : s ≠ 0) (t0 : t ≠ 0) : G u = G v := by
  have := congrArg G e
  rw [k.mul, k.mul, k.one s hs s0, k.one t ht t0, mul_one, mul_one] at this
  exact this
end
section
variable {K : Type} [CRing K] [IsField K] {b : K} {T S V : K → Prop} {G : K → K}
end
section
variable {K : Type} [CRing K] {b : K} {T S V : K → Prop} {G : K → K}
theorem Far.neg (H : Halves K T S V) {x y : K} (h : Far T S V b x y) : Far T S V b x (-y) :=
  ⟨by rw [neg_mul, mul_neg, neg_neg]; exact h.on, h.xs, h.xt, H.vneg _ h.yv, fun e => h.y0 (by rw [← neg_neg y, e, neg_zero])⟩
end
section
variable {K : Type} [CRing K] [IsField K] {b : K} {T S V : K → Prop} {G : K → K}
end
section
variable {K : Type} [CRing K] {b : K} {T S V : K → Prop} {G : K → K}
theorem Far.add_ne (H : Halves K T S V) {x y c : K} (h : Far T S V b x y) (hc : S c) : y + c ≠ 0 := fun e => h.y0 (H.none y (by
  have : y = -c := by rw [← add_zero y, ← add_neg c, ← add_assoc, e, zero_add]
  rw [this]; exact H.sneg _ hc) h.yv)
end
section
variable {K : Type} [CRing K] [IsField K] {b : K} {T S V : K → Prop} {G : K → K}
end
section
variable {K : Type} [CRing K] {b : K} {T S V : K → Prop} {G : K → K}
theorem Far.sub_ne (H : Halves K T S V) {x y d : K} (h : Far T S V b x y) (hd : T d) : x - d ≠ 0 := fun e => h.xt (by rw [sub_eq_zero.1 e]; exact hd)
end
section
variable {K : Type} [CRing K] [IsField K] {b : K} {T S V : K → Prop} {G : K → K}
end
section
variable {K : Type} [CRing K] {b : K} {T S V : K → Prop} {G : K → K}
theorem Far.ne_sub (H : Halves K T S V) {x y d : K} (h : Far T S V b x y) (hd : T d) : d - x ≠ 0 := fun e => h.xt (by rw [← sub_eq_zero.1 e]; exact hd)
end
section
variable {K : Type} [CRing K] [IsField K] {b : K} {T S V : K → Prop} {G : K → K}
/-- Both signs of y: their product is in S. -/
theorem Far.pair (H : Halves K T S V) (k : Kills K S G) {x y c : K} (h : Far T S V b x y) (hc : S c) : G (y + c) * G (y - c) = 1 := by
  have e : (y + c) * (y - c) = y * y - c * c := ident (env [y, c]) ((v0 + v1) * (v0 - v1)) (v0 * v0 - v1 * v1) (by decide +kernel)
  refine k.inv2 ?_ (mul_ne_zero (h.add_ne H hc) (h.add_ne H (H.sneg _ hc)))
  rw [e]
  exact H.ssub (H.vv _ _ h.yv h.yv) (H.smul _ _ hc hc)
theorem Kills.neg (H : Halves K T S V) (k : Kills K S G) (C : Cv K b) (a : K) : G (-a) = G a := by
  have h1 : S (-(1 : K)) := H.sneg _ H.s1
  have h0 : -(1 : K) ≠ 0 := fun e => one_ne_zero (R := K) (by rw [← neg_neg (1 : K), e, neg_zero])
  have : -a = -1 * a := by rw [neg_mul, one_mul]
  rw [this, k.mul, k.one _ h1 h0, one_mul]

/-! ### the number of two points -/
theorem Ln.slope (C : Cv K b) {x1 y1 x2 y2 l : K} (h : Ln b x1 y1 x2 y2 l) (hn : ¬ (x1 = x2 ∧ y2 = -y1)) : (x1 = x2 ∧ y2 = y1 ∧ y1 ≠ 0 ∧ l = (x1 * x1 + x1 * x1 + x1 * x1) * inv (y1 + y1)) ∨ (x1 ≠ x2 ∧ l = (y2 - y1) * inv (x2 - x1)) := by
  by_cases hx : x1 = x2
  · subst hx
    have hy : y2 = y1 := by rw [h.h1, sub_self, mul_zero, add_zero]
    subst hy
    have hy0 : y2 ≠ 0 := fun e => hn ⟨rfl, by rw [e, neg_zero]⟩
    have hd := dbl_ne C hy0
    refine .inl ⟨rfl, rfl, hy0, mul_cancel hd ?_⟩
    rw [mul_comm _ (_ * inv _), mul_assoc, mul_comm (inv _), mul_inv hd, mul_one, mul_comm _ l, h.e1]
  · have hd := Alg.sub_ne hx
    refine .inr ⟨hx, mul_cancel hd ?_⟩
    rw [mul_comm _ (_ * inv _), mul_assoc, mul_comm (inv _), mul_inv hd, mul_one]
    exact lin1 (env [x1, y1, x2, y2, l]) ((v2 - v0) * v4) (v3 - v1) (-1) v3 (v1 + v4 * (v2 - v0)) h.h1 (by decide +kernel)
theorem ell_ln (C : Cv K b) {x1 y1 x2 y2 l : K} (h : Ln b x1 y1 x2 y2 l) (hn : ¬ (x1 = x2 ∧ y2 = -y1)) (x y : K) : ell (.aff x1 y1) (.aff x2 y2) x y = lnv l x1 y1 x y := by
  rw [ell_aff]
  rcases h.slope C hn with ⟨h1, h2, h3, h4⟩ | ⟨h1, h2⟩
  · rw [if_pos h1, if_neg (by rintro (e | e); exact e h2.symm; exact h3 e), h4]
  · rw [if_neg h1, h2]
theorem ell_opp (C : Cv K b) (x1 y1 x y : K) : ell (.aff x1 y1) (.aff x1 (-y1)) x y = x1 - x := by
  rw [ell_aff, if_pos rfl]
  by_cases h : y1 = -y1
  · rw [if_pos (.inr (neg_eq_self C h))]
  · rw [if_pos (.inl h)]
theorem ell_comm (C : Cv K b) {A B : Pt K} (hA : On b A) (hB : On b B) (x y : K) : ell A B x y = ell B A x y := by
  cases A with
  | inf => rw [ell_inf, inf_ell]
  | aff x1 y1 => cases B with
    | inf => rw [ell_inf, inf_ell]
    | aff x2 y2 =>
      by_cases hn : x1 = x2 ∧ y2 = -y1
      · obtain ⟨rfl, rfl⟩ := hn
        have := ell_opp C x1 (-y1) x y
        rw [neg_neg] at this
        rw [ell_opp C, this]
      · obtain ⟨l, hl⟩ := ln_ex C hA hB hn
        have hn' : ¬ (x2 = x1 ∧ y1 = -y2) := fun e => hn ⟨e.1.symm, by rw [e.2, neg_neg]⟩
        rw [ell_ln C hl hn, ell_ln C hl.symm hn', lnv_symm hl]
/-- A slope of T's points is in T. -/
theorem Ln.inT (H : Halves K T S V) (C : Cv K b) {x1 y1 x2 y2 l : K} (h : Ln b x1 y1 x2 y2 l) (hn : ¬ (x1 = x2 ∧ y2 = -y1)) (h1 : T x1) (h2 : T y1) (h3 : T x2) (h4 : T y2) : T l := by
  rcases h.slope C hn with ⟨_, _, _, e⟩ | ⟨_, e⟩
  · rw [e]
    exact H.tmul _ _ (H.tadd _ _ (H.tadd _ _ (H.tmul _ _ h1 h1) (H.tmul _ _ h1 h1)) (H.tmul _ _ h1 h1)) (H.tinv _ (H.tadd _ _ h2 h2))
  · rw [e]
    exact H.tmul _ _ (H.tsub h4 h2) (H.tinv _ (H.tsub h3 h1))
end
section
variable {K : Type} [CRing K] {b : K} {T S V : K → Prop} {G : K → K}
theorem TPt.neg (H : Halves K T S V) {A : Pt K} (h : TPt T A) : TPt T A.neg := by
  cases A with
  | inf => trivial
  | aff x y => exact ⟨h.1, H.tneg _ h.2⟩
end
section
variable {K : Type} [CRing K] [IsField K] {b : K} {T S V : K → Prop} {G : K → K}
end
section
variable {K : Type} [CRing K] {b : K} {T S V : K → Prop} {G : K → K}
theorem TPt.sumBy (H : Halves K T S V) {l x1 y1 x2 : K} (hl : T l) (h1 : T x1) (h2 : T y1) (h3 : T x2) : TPt T (sumBy l x1 y1 x2) := by
  have hx : T (l * l - x1 - x2) := H.tsub (H.tsub (H.tmul _ _ hl hl) h1) h3
  exact ⟨hx, H.tsub (H.tmul _ _ hl (H.tsub h1 hx)) h2⟩
end
section
variable {K : Type} [CRing K] [IsField K] {b : K} {T S V : K → Prop} {G : K → K}
theorem TPt.add (H : Halves K T S V) (C : Cv K b) {A B : Pt K} (hA : On b A) (hB : On b B) (tA : TPt T A) (tB : TPt T B) : TPt T (padd A B) := by
  cases A with
  | inf => rw [inf_add]; exact tB
  | aff x1 y1 => cases B with
    | inf => rw [add_inf]; exact tA
    | aff x2 y2 =>
      by_cases hn : x1 = x2 ∧ y2 = -y1
      · obtain ⟨rfl, rfl⟩ := hn
        rw [padd_opp x1 y1 C]; trivial
      · obtain ⟨l, hl⟩ := ln_ex C hA hB hn
        rw [padd_ln C hl hn]
        exact TPt.sumBy H (hl.inT H C hn tA.1 tA.2 tB.1 tB.2) tA.1 tA.2 tB.1

/-! ### brackets -/
theorem ell_one (H : Halves K T S V) (k : Kills K S G) {x y : K} {A B : Pt K} (h : A = .inf ∨ B = .inf) : G (ell A B x y) = 1 := by
  have : G 1 = 1 := k.one _ H.s1 one_ne_zero
  rcases h with rfl | rfl
  · rw [inf_ell]; exact this
  · rw [ell_inf]; exact this
variable (H : Halves K T S V) (k : Kills K S G) (C : Cv K b) {x y : K} (f : Far T S V b x y)
include H k C f
theorem ell_neg_one {A : Pt K} (tA : TPt T A) : G (ell A A.neg x y) = 1 := by
  cases A with
  | inf => exact ell_one H k (.inl rfl)
  | aff x1 y1 =>
    show G (ell (.aff x1 y1) (.aff x1 (-y1)) x y) = 1
    rw [ell_opp C]
    exact k.one _ (H.ssub (H.ts _ tA.1) f.xs) (f.ne_sub H tA.1)
/-- The number at the opposite point undoes it. -/
theorem ell_at_neg {A B : Pt K} (hA : On b A) (hB : On b B) (tA : TPt T A) (tB : TPt T B) : G (ell A B x y) * G (ell A B x (-y)) = 1 := by
  have f' := f.neg H
  cases A with
  | inf => rw [ell_one H k (.inl rfl), ell_one H k (.inl rfl), mul_one]
  | aff x1 y1 => cases B with
    | inf => rw [ell_one H k (.inr rfl), ell_one H k (.inr rfl), mul_one]
    | aff x2 y2 =>
      by_cases hn : x1 = x2 ∧ y2 = -y1
      · obtain ⟨rfl, rfl⟩ := hn
        rw [show (Pt.aff x1 (-y1)) = (Pt.aff x1 y1).neg from rfl, ell_neg_one H k C f tA, ell_neg_one H k C f' tA, mul_one]
      · obtain ⟨l, hl⟩ := ln_ex C hA hB hn
        have tl := hl.inT H C hn tA.1 tA.2 tB.1 tB.2
        rw [ell_ln C hl hn, ell_ln C hl hn]
        have hc : S (l * x1 - y1 - l * x) := H.ssub (H.ssub (H.smul _ _ (H.ts _ tl) (H.ts _ tA.1)) (H.ts _ tA.2)) (H.smul _ _ (H.ts _ tl) f.xs)
        have e1 : lnv l x1 y1 x y = y + (l * x1 - y1 - l * x) := add_comm _ _
        have e2 : lnv l x1 y1 x (-y) = -(y - (l * x1 - y1 - l * x)) := ident (env [l, x1, y1, x, y]) (v0 * v1 - v2 - v0 * v3 + -v4) (-(v4 - (v0 * v1 - v2 - v0 * v3))) (by decide +kernel)
        rw [e1, e2, k.neg H C]
        exact f.pair H k hc
/-- Opposite points' line is the opposite at the opposite point. -/
theorem ell_negs {A B : Pt K} (hA : On b A) (hB : On b B) (tA : TPt T A) (tB : TPt T B) : G (ell A.neg B.neg x y) = G (ell A B x (-y)) := by
  have f' := f.neg H
  cases A with
  | inf => rw [ell_one H k (A := Pt.inf.neg) (.inl rfl), ell_one H k (.inl rfl)]
  | aff x1 y1 => cases B with
    | inf => rw [ell_one H k (B := Pt.inf.neg) (.inr rfl), ell_one H k (.inr rfl)]
    | aff x2 y2 =>
      by_cases hn : x1 = x2 ∧ y2 = -y1
      · obtain ⟨rfl, rfl⟩ := hn
        rw [show (Pt.aff x1 (-y1)) = (Pt.aff x1 y1).neg from rfl, ell_neg_one H k C f (TPt.neg H tA), ell_neg_one H k C f' tA]
      · obtain ⟨l, hl⟩ := ln_ex C hA hB hn
        have hl' : Ln b x1 (-y1) x2 (-y2) (-l) := by
          refine ⟨on_neg (p := .aff x1 y1) hl.on, ?_, ?_⟩
          · rw [hl.h1]; exact ident (env [y1, l, x1, x2]) (-(v0 + v1 * (v3 - v2))) (-v0 + -v1 * (v3 - v2)) (by decide +kernel)
          · rw [← hl.e1]; exact ident (env [y1, l, y2]) (-v1 * (-v0 + -v2)) (v1 * (v0 + v2)) (by decide +kernel)
        have hn' : ¬ (x1 = x2 ∧ -y2 = - -y1) := fun e => hn ⟨e.1, by rw [← neg_neg y2, e.2, neg_neg]⟩
        show G (ell (.aff x1 (-y1)) (.aff x2 (-y2)) x y) = _
        rw [ell_ln C hl' hn', ell_ln C hl hn, ← k.neg H C]
        congr 1
        exact ident (env [l, x1, y1, x, y]) (-(-v0 * v1 - -v2 - -v0 * v3 + v4)) (v0 * v1 - v2 - v0 * v3 + -v4) (by decide +kernel)
/-- The same line, from the sum back. -/
theorem ell_back {A B : Pt K} (hA : On b A) (hB : On b B) (tA : TPt T A) (tB : TPt T B) : G (ell A B x y) * G (ell (padd A B) B.neg x y) = 1 := by
  have f' := f.neg H
  cases A with
  | inf => rw [inf_add, ell_one H k (.inl rfl), ell_neg_one H k C f tB, mul_one]
  | aff x1 y1 => cases B with
    | inf => rw [ell_one H k (.inr rfl), ell_one H k (B := Pt.inf.neg) (.inr rfl), mul_one]
    | aff x2 y2 =>
      by_cases hn : x1 = x2 ∧ y2 = -y1
      · obtain ⟨rfl, rfl⟩ := hn
        rw [padd_opp x1 y1 C, ell_one H k (A := .inf) (.inl rfl), show (Pt.aff x1 (-y1)) = (Pt.aff x1 y1).neg from rfl, ell_neg_one H k C f tA, mul_one]
      · obtain ⟨l, hl⟩ := ln_ex C hA hB hn
        have hn2 : ¬ (l * l - x1 - x2 = x2 ∧ -y2 = -(l * (x1 - (l * l - x1 - x2)) - y1)) := by
          rintro ⟨e1, e2⟩
          have hp : padd (.aff x1 y1) (.aff x2 y2) = .aff x2 y2 := by
            rw [padd_ln C hl hn]
            unfold sumBy
            rw [e1, ← neg_neg y2, e2, neg_neg, e1]
          have := add_sub_pt C hA hB
          rw [hp, add_neg_pt C] at this
          cases this
        rw [padd_ln C hl hn]
        show G (ell (.aff x1 y1) (.aff x2 y2) x y) * G (ell (.aff _ _) (.aff x2 (-y2)) x y) = 1
        rw [ell_ln C hl.back hn2, ← ell_at_neg H k C f hA hB tA tB, ell_ln C hl hn]
        congr 1
        rw [ell_ln C hl hn, lnv_sum l x1 y1 x2 x (-y), ← k.neg H C]
        congr 1
        generalize l * l - x1 - x2 = p
        exact ident (env [l, x1, y1, x, y, p]) (-(-v0 * v5 - (v0 * (v1 - v5) - v2) - -v0 * v3 + v4)) (-v4 + (v0 * (v1 - v5) - v2) - v0 * (v3 - v5)) (by decide +kernel)
/-- The brackets of three points may stand either way. -/
theorem ell_assoc {A B D : Pt K} (hA : On b A) (hB : On b B) (hD : On b D) (tA : TPt T A) (tB : TPt T B) (tD : TPt T D) :
    G (ell A B x y) * G (ell (padd A B) D x y) = G (ell B D x y) * G (ell A (padd B D) x y) := by
  have hAB := on_add C hA hB
  have hBD := on_add C hB hD
  have tAB := TPt.add H C hA hB tA tB
  have tBD := TPt.add H C hB hD tB tD
  have one := @ell_one K _ _ T S V G H k x y
  -- the sums that are infinity
  by_cases hS : padd A B = D.neg
  · have e1 : G (ell (padd A B) D x y) = 1 := by
      rw [hS, ell_comm C (on_neg hD) hD]; exact ell_neg_one H k C f tD
    have e2 : padd B D = A.neg := by
      have : D = (padd A B).neg := by rw [hS, neg_neg_pt]
      rw [this, neg_add_pt C hA hB, add_comm_pt C (on_neg hA) (on_neg hB), ← add_assoc_pt C hB (on_neg hB) (on_neg hA), add_neg_pt C, inf_add]
    rw [e1, e2, ell_neg_one H k C f tA, mul_one, mul_one]
    -- the line of A, B and that of B, D are one
    have h1 := ell_back H k C f hB hA tB tA
    rw [add_comm_pt C hB hA, hS] at h1
    have h2 : G (ell B D x y) * G (ell D.neg A.neg x y) = 1 := by
      rw [ell_negs H k C f hD hA tD tA]
      have h3 := ell_back H k C f hB hD tB tD
      rw [e2] at h3
      have h4 : G (ell A.neg D.neg x y) = G (ell D A x (-y)) := by rw [ell_negs H k C f hA hD tA tD, ell_comm C hA hD]
      rw [h4] at h3
      exact h3
    rw [ell_comm C hA hB]
    have h5 : G (ell B A x y) * (G (ell B D x y) * G (ell D.neg A.neg x y)) = G (ell B D x y) * (G (ell B A x y) * G (ell D.neg A.neg x y)) := by
      rw [← mul_assoc, mul_comm (G (ell B A x y)), mul_assoc]
    rw [h1, h2, mul_one, mul_one] at h5
    exact h5
  cases A with
  | inf => rw [inf_add, one (.inl rfl), one (.inl rfl), one_mul, mul_one]
  | aff x1 y1 =>
  cases B with
  | inf => rw [inf_add, add_inf, one (.inr rfl), one (.inl rfl)]
  | aff x2 y2 =>
  cases D with
  | inf => rw [add_inf, one (.inr rfl), one (.inr rfl), one_mul, mul_one]
  | aff x3 y3 =>
  by_cases n1 : x1 = x2 ∧ y2 = -y1
  · obtain ⟨rfl, rfl⟩ := n1
    rw [padd_opp x1 y1 C, one (A := .inf) (.inl rfl), show (Pt.aff x1 (-y1)) = (Pt.aff x1 y1).neg from rfl, ell_neg_one H k C f tA, mul_one]
    have := ell_back H k C f hD (on_neg hA) tD (TPt.neg H tA)
    rw [neg_neg_pt] at this
    rw [ell_comm C (on_neg hA) hD, add_comm_pt C (on_neg hA) hD, ell_comm C hA (on_add C hD (on_neg hA)), this]
  by_cases n2 : x2 = x3 ∧ y3 = -y2
  · obtain ⟨rfl, rfl⟩ := n2
    rw [padd_opp x2 y2 C, one (B := .inf) (.inr rfl), show (Pt.aff x2 (-y2)) = (Pt.aff x2 y2).neg from rfl, ell_neg_one H k C f tB, mul_one]
    exact ell_back H k C f hA hB tA tB
  by_cases n3 : x1 = x3
  · rcases same_x hA hD n3 with n4 | n4
    · subst n3; subst n4
      rw [ell_comm C hAB hA, ell_comm C hA hB, add_comm_pt C hA hB]
    · subst n3; subst n4
      have h1 := ell_back H k C f hB hA tB tA
      have h2 := ell_back H k C f hB (on_neg hA) tB (TPt.neg H tA)
      rw [neg_neg_pt] at h2
      rw [add_comm_pt C hA hB, ell_comm C hA hB, show (Pt.aff x1 (-y1)) = (Pt.aff x1 y1).neg from rfl, h1, ell_comm C hA (on_add C hB (on_neg hA)), h2]
  -- three points of three lines
  obtain ⟨l, hl⟩ := ln_ex C hA hB n1
  obtain ⟨m, hm⟩ := ln_ex C hB hD n2
  have hd := Alg.sub_ne n3
  obtain ⟨a, ha⟩ : ∃ a, a * (x3 - x1) = m - l := ⟨(m - l) * inv (x3 - x1), by rw [mul_assoc, mul_comm (inv _), mul_inv hd, mul_one]⟩
  have hp1 := padd_ln C hl n1
  have hp2 := padd_ln C hm n2
  have hS1 : ¬ (l * l - x1 - x2 = x3 ∧ y3 = -(l * (x1 - (l * l - x1 - x2)) - y1)) := by
    rintro ⟨e1, e2⟩
    apply hS
    rw [hp1]
    show Pt.aff (l * l - x1 - x2) (l * (x1 - (l * l - x1 - x2)) - y1) = .aff x3 (-y3)
    rw [e2, neg_neg, e1]
  obtain ⟨a0, hn1⟩ := hl.next2 hm n3 ha hS1
  have ha' : a * (x1 - x3) = l - m := lin1 (env [x1, x3, l, m, a]) (v4 * (v0 - v1)) (v2 - v3) (-1) (v4 * (v1 - v0)) (v3 - v2) ha (by decide +kernel)
  have sE := sumBy_symm hm
  have hS2 : ¬ (m * m - x3 - x2 = x1 ∧ y1 = -(m * (x3 - (m * m - x3 - x2)) - y3)) := by
    rintro ⟨e1, e2⟩
    apply hS
    have hE : padd (.aff x2 y2) (.aff x3 y3) = (Pt.aff x1 y1).neg := by
      rw [hp2, ← sE]
      show Pt.aff (m * m - x3 - x2) (m * (x3 - (m * m - x3 - x2)) - y3) = .aff x1 (-y1)
      rw [e2, neg_neg, e1]
    have := add_sub_pt C hA hB
    have h2 : padd (padd (.aff x1 y1) (.aff x2 y2)) (.aff x3 y3) = .inf := by rw [add_assoc_pt C hA hB hD, hE, add_neg_pt C]
    have h3 := add_sub_pt C hAB hD
    rw [h2, inf_add] at h3
    exact h3.symm
  obtain ⟨_, hn2⟩ := hm.symm.next2 hl.symm (fun e => n3 e.symm) ha' hS2
  have c1 : m * m - x3 - x2 = m * m - x2 - x3 := by
    have := sE; unfold sumBy at this; exact (Pt.aff.inj this).1
  have c2 : m * (x3 - (m * m - x3 - x2)) - y3 = m * (x2 - (m * m - x2 - x3)) - y2 := by
    have := sE; unfold sumBy at this; exact (Pt.aff.inj this).2
  rw [c2, c1] at hn2
  have nn1 : ¬ (l * l - x1 - x2 = x3 ∧ y3 = -(l * (x1 - (l * l - x1 - x2)) - y1)) := hS1
  have nn2 : ¬ (m * m - x2 - x3 = x1 ∧ y1 = -(m * (x2 - (m * m - x2 - x3)) - y2)) := by rw [← c2, ← c1]; exact hS2
  have hi := mul_inv a0
  rw [ell_comm C hA hBD, hp1, hp2, ell_ln C hl n1, ell_ln C hm n2]
  show G (lnv l x1 y1 x y) * G (ell (.aff (l * l - x1 - x2) (l * (x1 - (l * l - x1 - x2)) - y1)) (.aff x3 y3) x y) = G (lnv m x2 y2 x y) * G (ell (.aff (m * m - x2 - x3) (m * (x2 - (m * m - x2 - x3)) - y2)) (.aff x1 y1) x y)
  rw [ell_ln C hn1 nn1, ell_ln C hn2 nn2, ← k.mul, ← k.mul]
  have rel : inv a * (m - l) = x3 - x1 := by
    rw [← ha, ← mul_assoc, mul_comm (inv _), hi, one_mul]
  refine k.eqv (lines_bracket hl hm rel f.on) ?_ ?_ ?_ ?_
  · rw [hp2] at tBD; exact H.ssub f.xs (H.ts _ tBD.1)
  · rw [hp1] at tAB; exact H.ssub f.xs (H.ts _ tAB.1)
  · rw [hp2] at tBD; exact f.sub_ne H tBD.1
  · rw [hp1] at tAB; exact f.sub_ne H tAB.1
/-- Four points: which two are put together first is all one. -/
theorem ell_four {A B D E : Pt K} (hA : On b A) (hB : On b B) (hD : On b D) (hE : On b E) (tA : TPt T A) (tB : TPt T B) (tD : TPt T D) (tE : TPt T E) :
    G (ell A B x y) * G (ell D E x y) * G (ell (padd A B) (padd D E) x y) = G (ell A D x y) * G (ell B E x y) * G (ell (padd A D) (padd B E) x y) := by
  have half : ∀ {A B D E : Pt K}, On b A → On b B → On b D → On b E → TPt T A → TPt T B → TPt T D → TPt T E →
      G (ell A B x y) * G (ell D E x y) * G (ell (padd A B) (padd D E) x y) = G (ell B D x y) * G (ell (padd B D) E x y) * G (ell A (padd B (padd D E)) x y) := by
    intro A B D E hA hB hD hE tA tB tD tE
    have h1 := ell_assoc H k C f hA hB (on_add C hD hE) tA tB (TPt.add H C hD hE tD tE)
    have h2 := ell_assoc H k C f hB hD hE tB tD tE
    rw [mul_comm (G (ell A B x y)), mul_assoc, h1, ← mul_assoc, ← h2]
  rw [half hA hB hD hE tA tB tD tE, half hA hD hB hE tA tD tB tE, ell_comm C hB hD, add_comm_pt C hB hD]
  congr 2
  rw [← add_assoc_pt C hB hD hE, ← add_assoc_pt C hD hB hE, add_comm_pt C hB hD]

end
/-! ### turns -/
/-- A number that was taken at a point, 1 at infinity. -/
def atPt {K : Type} [CRing K] (g : K → K → K) : Pt K → K
  | .inf => 1
  | .aff x y => g x y
/-- Not of order 2. -/
def Ny {K : Type} [CRing K] : Pt K → Prop
  | .inf => True
  | .aff _ y => y ≠ 0
section
variable {K : Type} [CRing K] [IsField K] {b : K} {T S V : K → Prop} {G : K → K}
theorem Near.pair (H : Halves K T S V) (k : Kills K S G) {y c : K} (hy : S y) (y0 : y ≠ 0) (hc : V c) : G (y + c) * G (y - c) = 1 := by
  have ne : ∀ {c : K}, V c → y + c ≠ 0 := fun {c} hc e => y0 (H.none y hy (by
    have : y = -c := by rw [← add_zero y, ← add_neg c, ← add_assoc, e, zero_add]
    rw [this]; exact H.vneg _ hc))
  have e : (y + c) * (y - c) = y * y - c * c := ident (env [y, c]) ((v0 + v1) * (v0 - v1)) (v0 * v0 - v1 * v1) (by decide +kernel)
  refine k.inv2 ?_ (mul_ne_zero (ne hc) (ne (H.vneg _ hc)))
  rw [e]
  exact H.ssub (H.smul _ _ hy hy) (H.vv _ _ hc hc)
/-- A slope of far points turns by its opposite. -/
theorem Ln.inV (H : Halves K T S V) (C : Cv K b) {p1 q1 p2 q2 g : K} (h : Ln b p1 q1 p2 q2 g) (hn : ¬ (p1 = p2 ∧ q2 = -q1)) (f1 : Far T S V b p1 q1) (f2 : Far T S V b p2 q2) : V g := by
  rcases h.slope C hn with ⟨_, _, _, e⟩ | ⟨_, e⟩
  · rw [e]
    exact H.sv _ _ (H.sadd _ _ (H.sadd _ _ (H.smul _ _ f1.xs f1.xs) (H.smul _ _ f1.xs f1.xs)) (H.smul _ _ f1.xs f1.xs)) (H.vinv _ (H.vadd _ _ f1.yv f1.yv))
  · rw [e]
    exact H.vs (H.vsub f2.yv f1.yv) (H.sinv _ (H.ssub f2.xs f1.xs))
variable (H : Halves K T S V) (k : Kills K S G) (C : Cv K b)
include H k C
/-- The far points' line at a near point, and at its opposite. -/
theorem far_pair {p1 q1 g x y : K} (hg : V g) (f1 : Far T S V b p1 q1) (hx : T x) (hy : T y) (y0 : y ≠ 0) : G (lnv g p1 q1 x y) * G (lnv g p1 q1 x (-y)) = 1 := by
  have hc : V (g * p1 - q1 - g * x) := H.vsub (H.vsub (H.vs hg f1.xs) f1.yv) (H.vs hg (H.ts _ hx))
  have e1 : lnv g p1 q1 x y = y + (g * p1 - q1 - g * x) := add_comm _ _
  have e2 : lnv g p1 q1 x (-y) = -(y - (g * p1 - q1 - g * x)) := ident (env [g, p1, q1, x, y]) (v0 * v1 - v2 - v0 * v3 + -v4) (-(v4 - (v0 * v1 - v2 - v0 * v3))) (by decide +kernel)
  rw [e1, e2, k.neg H C]
  exact Near.pair H k (H.ts _ hy) y0 hc
/-- A line's number at a sum of far points. -/
theorem ell_turn {p1 q1 p2 q2 p3 q3 : K} (f1 : Far T S V b p1 q1) (f2 : Far T S V b p2 q2) (f3 : Far T S V b p3 q3) (hp : padd (.aff p1 q1) (.aff p2 q2) = .aff p3 q3) {A B : Pt K} (hA : On b A) (hB : On b B) (tA : TPt T A) (tB : TPt T B) (nA : Ny A) (nB : Ny B) (nS : Ny (padd A B)) :
    G (ell A B p1 q1) * G (ell A B p2 q2) * atPt (fun x y => G (ell (.aff p1 q1) (.aff p2 q2) x y)) (padd A B) =
    G (ell A B p3 q3) * (atPt (fun x y => G (ell (.aff p1 q1) (.aff p2 q2) x y)) A * atPt (fun x y => G (ell (.aff p1 q1) (.aff p2 q2) x y)) B) := by
  have hn : ¬ (p1 = p2 ∧ q2 = -q1) := by
    rintro ⟨rfl, rfl⟩
    rw [padd_opp p1 q1 C] at hp
    cases hp
  obtain ⟨g, hg⟩ := ln_ex C f1.on f2.on hn
  have vg := hg.inV H C hn f1 f2
  have em : (fun x y => G (ell (.aff p1 q1) (.aff p2 q2) x y)) = fun x y => G (lnv g p1 q1 x y) := by
    funext x y; rw [ell_ln C hg hn]
  rw [em]
  rw [padd_ln C hg hn] at hp
  unfold sumBy at hp
  obtain ⟨e1, e2⟩ := Pt.aff.inj hp
  cases A with
  | inf => rw [inf_add, ell_one H k (.inl rfl), ell_one H k (.inl rfl), ell_one H k (.inl rfl), one_mul, one_mul, show atPt (fun x y => G (lnv g p1 q1 x y)) Pt.inf = 1 from rfl, one_mul, one_mul]
  | aff x1 y1 => cases B with
    | inf =>
      rw [add_inf, ell_one H k (.inr rfl), ell_one H k (.inr rfl), ell_one H k (.inr rfl), one_mul, one_mul]
      show _ = 1 * (_ * 1)
      rw [mul_one, one_mul]
    | aff x2 y2 =>
      by_cases hm : x1 = x2 ∧ y2 = -y1
      · obtain ⟨rfl, rfl⟩ := hm
        rw [padd_opp x1 y1 C, show (Pt.aff x1 (-y1)) = (Pt.aff x1 y1).neg from rfl, ell_neg_one H k C f1 tA, ell_neg_one H k C f2 tA, ell_neg_one H k C f3 tA]
        show (1 : K) * 1 * 1 = 1 * (G (lnv g p1 q1 x1 y1) * G (lnv g p1 q1 x1 (-y1)))
        rw [far_pair H k C vg f1 tA.1 tA.2 nA, mul_one, mul_one]
      · obtain ⟨l, hl⟩ := ln_ex C hA hB hm
        have tS := TPt.add H C hA hB tA tB
        have key := congrArg G (lines_turn hl hg)
        rw [e2, e1, k.neg H C, k.mul, k.mul, k.mul, k.mul] at key
        have hneg := ell_at_neg H k C f3 hA hB tA tB
        rw [padd_ln C hl hm] at nS tS ⊢
        have hS := far_pair H k C vg f1 tS.1 tS.2 nS
        rw [ell_ln C hl hm, ell_ln C hl hm] at hneg
        rw [ell_ln C hl hm, ell_ln C hl hm, ell_ln C hl hm]
        show G (lnv l x1 y1 p1 q1) * G (lnv l x1 y1 p2 q2) * G (lnv g p1 q1 (l * l - x1 - x2) (l * (x1 - (l * l - x1 - x2)) - y1)) = G (lnv l x1 y1 p3 q3) * (G (lnv g p1 q1 x1 y1) * G (lnv g p1 q1 x2 y2))
        generalize G (lnv g p1 q1 (l * l - x1 - x2) (l * (x1 - (l * l - x1 - x2)) - y1)) = d at hS ⊢
        generalize G (lnv g p1 q1 (l * l - x1 - x2) (-(l * (x1 - (l * l - x1 - x2)) - y1))) = d' at key hS
        generalize G (lnv l x1 y1 p3 (-q3)) = t' at key hneg
        generalize G (lnv l x1 y1 p3 q3) = t at hneg ⊢
        generalize G (lnv l x1 y1 p1 q1) = u1 at key ⊢
        generalize G (lnv l x1 y1 p2 q2) = u2 at key ⊢
        generalize G (lnv g p1 q1 x1 y1) = w1 at key ⊢
        generalize G (lnv g p1 q1 x2 y2) = w2 at key ⊢
        exact lin3 (env [u1, u2, d, t, w1, w2, d', t']) (v0 * v1 * v2) (v3 * (v4 * v5)) (v3 * v2) (v0 * v1 * v7) (v4 * v5 * v6) (v3 * v4 * v5) (v2 * v6) 1 (-(v0 * v1 * v2)) (v3 * v7) 1 key hS hneg (by decide +kernel)
end
end Go.Alg
/-
  Points carried into a greater field, and by a scale (x u u, y u u u): sums go along, and so do lines' numbers.
-/
namespace Go.Alg

section
variable {K L : Type} [CRing K] [CRing L]
/-- A field within a field. -/
structure Emb (h : K → L) : Prop where
  add : ∀ x y, h (x + y) = h x + h y
  mul : ∀ x y, h (x * y) = h x * h y
  neg : ∀ x, h (-x) = -h x
  one : h 1 = 1
  inj : ∀ x y, h x = h y → x = y
variable {h : K → L}
theorem Emb.sub (H : Emb h) (x y : K) : h (x - y) = h x - h y := by rw [sub_def, H.add, H.neg, ← sub_def]
theorem Emb.zero (H : Emb h) : h 0 = 0 := by rw [← sub_self (1 : K), H.sub, sub_self]
theorem Emb.eq0 (H : Emb h) {x : K} : h x = 0 ↔ x = 0 := ⟨fun e => H.inj _ _ (by rw [e, H.zero]), fun e => by rw [e, H.zero]⟩
theorem Emb.eq (H : Emb h) {x y : K} : h x = h y ↔ x = y := ⟨H.inj _ _, fun e => by rw [e]⟩
def embP (h : K → L) : Pt K → Pt L
  | .inf => .inf
  | .aff x y => .aff (h x) (h y)
theorem Emb.neg_pt (H : Emb h) (p : Pt K) : embP h p.neg = (embP h p).neg := by
  cases p with
  | inf => rfl
  | aff x y => show Pt.aff (h x) (h (-y)) = .aff (h x) (-h y); rw [H.neg]
theorem Emb.on (H : Emb h) {b : K} (p : Pt K) : On (h b) (embP h p) ↔ On b p := by
  cases p with
  | inf => exact Iff.rfl
  | aff x y =>
    show h y * h y = h x * h x * h x + h b ↔ y * y = x * x * x + b
    rw [← H.mul, ← H.mul, ← H.mul, ← H.add, H.eq]
end
section
variable {K L : Type} [CRing K] [CRing L] [IsField K] [IsField L] {h : K → L}
theorem Emb.inv (H : Emb h) (x : K) : h (Alg.inv x) = Alg.inv (h x) := by
  by_cases e : x = 0
  · rw [e, inv_zero, H.zero, inv_zero]
  · exact (inv_eq (by rw [← H.mul, mul_inv e, H.one])).symm
open Classical in
theorem Emb.padd (H : Emb h) (p q : Pt K) : embP h (Alg.padd p q) = Alg.padd (embP h p) (embP h q) := by
  cases p with
  | inf => rw [inf_add]; exact (inf_add _).symm
  | aff x1 y1 => cases q with
    | inf => rw [add_inf]; exact (add_inf _).symm
    | aff x2 y2 =>
      show embP h (Alg.padd (.aff x1 y1) (.aff x2 y2)) = Alg.padd (.aff (h x1) (h y1)) (.aff (h x2) (h y2))
      rw [padd_aff, padd_aff]
      have hs : ∀ l, embP h (sumBy l x1 y1 x2) = sumBy (h l) (h x1) (h y1) (h x2) := by
        intro l
        unfold sumBy
        show Pt.aff _ _ = Pt.aff _ _
        simp only [H.sub, H.mul]
      by_cases e : x1 = x2
      · rw [if_pos e, if_pos (H.eq.2 e)]
        by_cases e2 : y1 ≠ y2 ∨ y1 = 0
        · rw [if_pos e2, if_pos (e2.elim (fun k => .inl fun k' => k (H.inj _ _ k')) fun k => .inr (H.eq0.2 k))]; rfl
        · rw [if_neg e2, if_neg (fun k => e2 (k.elim (fun k => .inl fun k' => k (H.eq.2 k')) fun k => .inr (H.eq0.1 k))), hs]
          simp only [H.mul, H.add, H.inv]
      · rw [if_neg e, if_neg (fun k => e (H.inj _ _ k)), hs]
        simp only [H.mul, H.sub, H.inv]
theorem Emb.smul (H : Emb h) (n : Nat) (p : Pt K) : embP h (Alg.smul n p) = Alg.smul n (embP h p) := by
  induction n with
  | zero => rfl
  | succ n ih => show embP h (Alg.padd (Alg.smul n p) p) = Alg.padd (Alg.smul n (embP h p)) (embP h p); rw [H.padd, ih]
end

/-! ### a scale -/
section
variable {K : Type} [CRing K]
def scP (u : K) : Pt K → Pt K
  | .inf => .inf
  | .aff x y => .aff (x * (u * u)) (y * (u * u * u))
theorem scP_neg (u : K) (p : Pt K) : scP u p.neg = (scP u p).neg := by
  cases p with
  | inf => rfl
  | aff x y => show Pt.aff _ (-y * (u * u * u)) = Pt.aff _ (-(y * (u * u * u))); rw [neg_mul]
theorem scP_on {b u : K} {p : Pt K} (h : On b p) : On (b * (u * u * (u * u) * (u * u))) (scP u p) := by
  cases p with
  | inf => trivial
  | aff x y =>
    have h : y * y = x * x * x + b := h
    show y * (u * u * u) * (y * (u * u * u)) = x * (u * u) * (x * (u * u)) * (x * (u * u)) + b * (u * u * (u * u) * (u * u))
    exact lin1 (env [x, y, u, b]) (v1 * (v2 * v2 * v2) * (v1 * (v2 * v2 * v2))) (v0 * (v2 * v2) * (v0 * (v2 * v2)) * (v0 * (v2 * v2)) + v3 * (v2 * v2 * (v2 * v2) * (v2 * v2))) (v2 * v2 * (v2 * v2) * (v2 * v2)) (v1 * v1) (v0 * v0 * v0 + v3) h (by decide +kernel)
end
section
variable {K : Type} [CRing K] [IsField K]
theorem mul_eq_iff {a b c : K} (h : c ≠ 0) : a * c = b * c ↔ a = b := ⟨fun e => mul_cancel h (by rw [mul_comm c, mul_comm c]; exact e), fun e => by rw [e]⟩
open Classical in
theorem scP_padd {u : K} (hu : u ≠ 0) (p q : Pt K) : scP u (padd p q) = padd (scP u p) (scP u q) := by
  have h2 : u * u ≠ 0 := mul_ne_zero hu hu
  have h3 : u * u * u ≠ 0 := mul_ne_zero h2 hu
  have i1 := mul_inv hu
  cases p with
  | inf => rw [inf_add]; exact (inf_add _).symm
  | aff x1 y1 => cases q with
    | inf => rw [add_inf]; exact (add_inf _).symm
    | aff x2 y2 =>
      show scP u (padd (.aff x1 y1) (.aff x2 y2)) = padd (.aff (x1 * (u * u)) (y1 * (u * u * u))) (.aff (x2 * (u * u)) (y2 * (u * u * u)))
      rw [padd_aff, padd_aff]
      have hs : ∀ l, scP u (sumBy l x1 y1 x2) = sumBy (l * u) (x1 * (u * u)) (y1 * (u * u * u)) (x2 * (u * u)) := by
        intro l
        unfold sumBy
        show Pt.aff _ _ = Pt.aff _ _
        have e1 : (l * l - x1 - x2) * (u * u) = l * u * (l * u) - x1 * (u * u) - x2 * (u * u) := ident (env [l, x1, x2, u]) ((v0 * v0 - v1 - v2) * (v3 * v3)) (v0 * v3 * (v0 * v3) - v1 * (v3 * v3) - v2 * (v3 * v3)) (by decide +kernel)
        rw [← e1]
        congr 1
        generalize l * l - x1 - x2 = t
        exact ident (env [l, x1, t, y1, u]) ((v0 * (v1 - v2) - v3) * (v4 * v4 * v4)) (v0 * v4 * (v1 * (v4 * v4) - v2 * (v4 * v4)) - v3 * (v4 * v4 * v4)) (by decide +kernel)
      have sl : ∀ a d : K, a * inv d * u = a * (u * u * u) * inv (d * (u * u)) := by
        intro a d
        rw [inv_mul, inv_mul]
        exact lin1 (env [a, inv d, u, inv u]) (v0 * v1 * v2) (v0 * (v2 * v2 * v2) * (v1 * (v3 * v3))) (-(v0 * v1 * v2 * (v2 * v3 + 1))) (v2 * v3) 1 i1 (by decide +kernel)
      have sl2 : ∀ a d : K, a * inv d * u = a * (u * u * (u * u)) * inv (d * (u * u * u)) := by
        intro a d
        rw [inv_mul, inv_mul, inv_mul]
        exact lin1 (env [a, inv d, u, inv u]) (v0 * v1 * v2) (v0 * (v2 * v2 * (v2 * v2)) * (v1 * (v3 * v3 * v3))) (-(v0 * v1 * v2 * (v2 * v3 * (v2 * v3) + v2 * v3 + 1))) (v2 * v3) 1 i1 (by decide +kernel)
      by_cases e : x1 = x2
      · rw [if_pos e, if_pos ((mul_eq_iff h2).2 e)]
        by_cases e2 : y1 ≠ y2 ∨ y1 = 0
        · rw [if_pos e2, if_pos (e2.elim (fun k => .inl fun k' => k ((mul_eq_iff h3).1 k')) fun k => .inr (by rw [k, zero_mul]))]; rfl
        · rw [if_neg e2, if_neg (fun k => e2 (k.elim (fun k => .inl fun k' => k ((mul_eq_iff h3).2 k')) fun k => .inr ((mul_eq_zero.1 k).resolve_right h3))), hs, sl2]
          congr 2
          · exact ident (env [x1, u]) ((v0 * v0 + v0 * v0 + v0 * v0) * (v1 * v1 * (v1 * v1))) (v0 * (v1 * v1) * (v0 * (v1 * v1)) + v0 * (v1 * v1) * (v0 * (v1 * v1)) + v0 * (v1 * v1) * (v0 * (v1 * v1))) (by decide +kernel)
          · rw [add_mul]
      · rw [if_neg e, if_neg (fun k => e ((mul_eq_iff h2).1 k)), hs, sl]
        congr 2
        · exact ident (env [y1, y2, u]) ((v1 - v0) * (v2 * v2 * v2)) (v1 * (v2 * v2 * v2) - v0 * (v2 * v2 * v2)) (by decide +kernel)
        · congr 1
          exact ident (env [x1, x2, u]) ((v1 - v0) * (v2 * v2)) (v1 * (v2 * v2) - v0 * (v2 * v2)) (by decide +kernel)

end
/-! ### lines' numbers go along -/
section
variable {K L : Type} [CRing K] [CRing L] [IsField K] [IsField L] {h : K → L}
open Classical in
theorem Emb.ell (H : Emb h) (p q : Pt K) (x y : K) : Alg.ell (embP h p) (embP h q) (h x) (h y) = h (Alg.ell p q x y) := by
  cases p with
  | inf => rw [inf_ell, show embP h Pt.inf = .inf from rfl, inf_ell, H.one]
  | aff x1 y1 => cases q with
    | inf => rw [ell_inf, show embP h Pt.inf = .inf from rfl, ell_inf, H.one]
    | aff x2 y2 =>
      show Alg.ell (.aff (h x1) (h y1)) (.aff (h x2) (h y2)) (h x) (h y) = _
      rw [ell_aff, ell_aff]
      have hs : ∀ l, h (lnv l x1 y1 x y) = lnv (h l) (h x1) (h y1) (h x) (h y) := by
        intro l
        unfold lnv
        simp only [H.sub, H.mul, H.add]
      by_cases e : x1 = x2
      · rw [if_pos e, if_pos (H.eq.2 e)]
        by_cases e2 : y1 ≠ y2 ∨ y1 = 0
        · rw [if_pos e2, if_pos (e2.elim (fun k => .inl fun k' => k (H.inj _ _ k')) fun k => .inr (H.eq0.2 k)), H.sub]
        · rw [if_neg e2, if_neg (fun k => e2 (k.elim (fun k => .inl fun k' => k (H.eq.2 k')) fun k => .inr (H.eq0.1 k))), hs]
          simp only [H.mul, H.add, H.inv]
      · rw [if_neg e, if_neg (fun k => e (H.inj _ _ k)), hs]
        simp only [H.mul, H.sub, H.inv]
end
section
variable {K : Type} [CRing K] [IsField K]
open Classical in
theorem scP_ell {u : K} (hu : u ≠ 0) (p q : Pt K) (x y : K) : ell (scP u p) (scP u q) (x * (u * u)) (y * (u * u * u)) = ell p q x y ∨ ell (scP u p) (scP u q) (x * (u * u)) (y * (u * u * u)) = ell p q x y * (u * u) ∨
    ell (scP u p) (scP u q) (x * (u * u)) (y * (u * u * u)) = ell p q x y * (u * u * u) := by
  have h2 : u * u ≠ 0 := mul_ne_zero hu hu
  have h3 : u * u * u ≠ 0 := mul_ne_zero h2 hu
  have i1 := mul_inv hu
  cases p with
  | inf => left; rw [inf_ell]; exact inf_ell _ _ _
  | aff x1 y1 => cases q with
    | inf => left; rw [ell_inf]; exact ell_inf _ _ _
    | aff x2 y2 =>
      right
      show ell (.aff (x1 * (u * u)) (y1 * (u * u * u))) (.aff (x2 * (u * u)) (y2 * (u * u * u))) _ _ = _ ∨ ell (.aff (x1 * (u * u)) (y1 * (u * u * u))) (.aff (x2 * (u * u)) (y2 * (u * u * u))) _ _ = _
      rw [ell_aff, ell_aff]
      have hs : ∀ l, lnv (l * u) (x1 * (u * u)) (y1 * (u * u * u)) (x * (u * u)) (y * (u * u * u)) = lnv l x1 y1 x y * (u * u * u) := fun l =>
        ident (env [l, x1, y1, x, y, u]) (v0 * v5 * (v1 * (v5 * v5)) - v2 * (v5 * v5 * v5) - v0 * v5 * (v3 * (v5 * v5)) + v4 * (v5 * v5 * v5)) ((v0 * v1 - v2 - v0 * v3 + v4) * (v5 * v5 * v5)) (by decide +kernel)
      have sl : ∀ a d : K, a * inv d * u = a * (u * u * u) * inv (d * (u * u)) := by
        intro a d
        rw [inv_mul, inv_mul]
        exact lin1 (env [a, inv d, u, inv u]) (v0 * v1 * v2) (v0 * (v2 * v2 * v2) * (v1 * (v3 * v3))) (-(v0 * v1 * v2 * (v2 * v3 + 1))) (v2 * v3) 1 i1 (by decide +kernel)
      have sl2 : ∀ a d : K, a * inv d * u = a * (u * u * (u * u)) * inv (d * (u * u * u)) := by
        intro a d
        rw [inv_mul, inv_mul, inv_mul]
        exact lin1 (env [a, inv d, u, inv u]) (v0 * v1 * v2) (v0 * (v2 * v2 * (v2 * v2)) * (v1 * (v3 * v3 * v3))) (-(v0 * v1 * v2 * (v2 * v3 * (v2 * v3) + v2 * v3 + 1))) (v2 * v3) 1 i1 (by decide +kernel)
      by_cases e : x1 = x2
      · rw [if_pos e, if_pos ((mul_eq_iff h2).2 e)]
        by_cases e2 : y1 ≠ y2 ∨ y1 = 0
        · rw [if_pos e2, if_pos (e2.elim (fun k => .inl fun k' => k ((mul_eq_iff h3).1 k')) fun k => .inr (by rw [k, zero_mul]))]
          left
          exact ident (env [x1, x, u]) (v0 * (v2 * v2) - v1 * (v2 * v2)) ((v0 - v1) * (v2 * v2)) (by decide +kernel)
        · rw [if_neg e2, if_neg (fun k => e2 (k.elim (fun k => .inl fun k' => k ((mul_eq_iff h3).2 k')) fun k => .inr ((mul_eq_zero.1 k).resolve_right h3))), ← hs, sl2]
          right
          congr 2
          · exact ident (env [x1, u]) (v0 * (v1 * v1) * (v0 * (v1 * v1)) + v0 * (v1 * v1) * (v0 * (v1 * v1)) + v0 * (v1 * v1) * (v0 * (v1 * v1))) ((v0 * v0 + v0 * v0 + v0 * v0) * (v1 * v1 * (v1 * v1))) (by decide +kernel)
          · rw [add_mul]
      · rw [if_neg e, if_neg (fun k => e ((mul_eq_iff h2).1 k)), ← hs, sl]
        right
        congr 2
        · exact ident (env [y1, y2, u]) (v1 * (v2 * v2 * v2) - v0 * (v2 * v2 * v2)) ((v1 - v0) * (v2 * v2 * v2)) (by decide +kernel)
        · congr 1
          exact ident (env [x1, x2, u]) (v1 * (v2 * v2) - v0 * (v2 * v2)) ((v1 - v0) * (v2 * v2)) (by decide +kernel)
end
end Go.Alg
