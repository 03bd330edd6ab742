/-
  Points carried into a greater field, and by a scale (x u u, y u u u): sums go along, and so do lines' numbers.
-/
import Derived.Test.YtfgbkanbppehgaaBi
namespace Go.Alg

section
variable {K L : Type} [CRing K] [CRing L]
/-- A field within a field. -/
structure Emb (h : K → L) : Prop where
  add : ∀ x y, h (x + y) = h x + h y
  mul : ∀ x y, h (x * y) = h x * h y
  neg : ∀ x, h (-x) = -h x
  one : h 1 = 1
  inj : ∀ x y, h x = h y → x = y
variable {h : K → L}
theorem Emb.sub (H : Emb h) (x y : K) : h (x - y) = h x - h y := by rw [sub_def, H.add, H.neg, ← sub_def]
theorem Emb.zero (H : Emb h) : h 0 = 0 := by rw [← sub_self (1 : K), H.sub, sub_self]
theorem Emb.eq0 (H : Emb h) {x : K} : h x = 0 ↔ x = 0 := ⟨fun e => H.inj _ _ (by rw [e, H.zero]), fun e => by rw [e, H.zero]⟩
theorem Emb.eq (H : Emb h) {x y : K} : h x = h y ↔ x = y := ⟨H.inj _ _, fun e => by rw [e]⟩
def embP (h : K → L) : Pt K → Pt L
  | .inf => .inf
  | .aff x y => .aff (h x) (h y)
theorem Emb.neg_pt (H : Emb h) (p : Pt K) : embP h p.neg = (embP h p).neg := by
  cases p with
  | inf => rfl
  | aff x y => show Pt.aff (h x) (h (-y)) = .aff (h x) (-h y); rw [H.neg]
theorem Emb.on (H : Emb h) {b : K} (p : Pt K) : On (h b) (embP h p) ↔ On b p := by
  cases p with
  | inf => exact Iff.rfl
  | aff x y =>
    show h y * h y = h x * h x * h x + h b ↔ y * y = x * x * x + b
    rw [← H.mul, ← H.mul, ← H.mul, ← H.add, H.eq]
end
section
variable {K L : Type} [CRing K] [CRing L] [IsField K] [IsField L] {h : K → L}
theorem Emb.inv (H : Emb h) (x : K) : h (Alg.inv x) = Alg.inv (h x) := by
  by_cases e : x = 0
  · rw [e, inv_zero, H.zero, inv_zero]
  · exact (inv_eq (by rw [← H.mul, mul_inv e, H.one])).symm
open Classical in
theorem Emb.padd (H : Emb h) (p q : Pt K) : embP h (Alg.padd p q) = Alg.padd (embP h p) (embP h q) := by
  cases p with
  | inf => rw [inf_add]; exact (inf_add _).symm
  | aff x1 y1 => cases q with
    | inf => rw [add_inf]; exact (add_inf _).symm
    | aff x2 y2 =>
      show embP h (Alg.padd (.aff x1 y1) (.aff x2 y2)) = Alg.padd (.aff (h x1) (h y1)) (.aff (h x2) (h y2))
      rw [padd_aff, padd_aff]
      have hs : ∀ l, embP h (sumBy l x1 y1 x2) = sumBy (h l) (h x1) (h y1) (h x2) := by
        intro l
        unfold sumBy
        show Pt.aff _ _ = Pt.aff _ _
        simp only [H.sub, H.mul]
      by_cases e : x1 = x2
      · rw [if_pos e, if_pos (H.eq.2 e)]
        by_cases e2 : y1 ≠ y2 ∨ y1 = 0
        · rw [if_pos e2, if_pos (e2.elim (fun k => .inl fun k' => k (H.inj _ _ k')) fun k => .inr (H.eq0.2 k))]; rfl
        · rw [if_neg e2, if_neg (fun k => e2 (k.elim (fun k => .inl fun k' => k (H.eq.2 k')) fun k => .inr (H.eq0.1 k))), hs]
          simp only [H.mul, H.add, H.inv]
      · rw [if_neg e, if_neg (fun k => e (H.inj _ _ k)), hs]
        simp only [H.mul, H.sub, H.inv]
theorem Emb.smul (H : Emb h) (n : Nat) (p : Pt K) : embP h (Alg.smul n p) = Alg.smul n (embP h p) := by
  induction n with
  | zero => rfl
  | succ n ih => show embP h (Alg.padd (Alg.smul n p) p) = Alg.padd (Alg.smul n (embP h p)) (embP h p); rw [H.padd, ih]
end

/-! ### a scale -/
section
variable {K : Type} [CRing K]
def scP (u : K) : Pt K → Pt K
  | .inf => .inf
  | .aff x y => .aff (x * (u * u)) (y * (u * u * u))
theorem scP_neg (u : K) (p : Pt K) : scP u p.neg = (scP u p).neg := by
  cases p with
  | inf => rfl
  | aff x y => show Pt.aff _ (-y * (u * u * u)) = Pt.aff _ (-(y * (u * u * u))); rw [neg_mul]
theorem scP_on {b u : K} {p : Pt K} (h : On b p) : On (b * (u * u * (u * u) * (u * u))) (scP u p) := by
  cases p with
  | inf => trivial
  | aff x y =>
    have h : y * y = x * x * x + b := h
    show y * (u * u * u) * (y * (u * u * u)) = x * (u * u) * (x * (u * u)) * (x * (u * u)) + b * (u * u * (u * u) * (u * u))
    exact lin1 (env [x, y, u, b]) (v1 * (v2 * v2 * v2) * (v1 * (v2 * v2 * v2))) (v0 * (v2 * v2) * (v0 * (v2 * v2)) * (v0 * (v2 * v2)) + v3 * (v2 * v2 * (v2 * v2) * (v2 * v2))) (v2 * v2 * (v2 * v2) * (v2 * v2)) (v1 * v1) (v0 * v0 * v0 + v3) h (by decide +kernel)
end
section
variable {K : Type} [CRing K] [IsField K]
theorem mul_eq_iff {a b c : K} (h : c ≠ 0) : a * c = b * c ↔ a = b := ⟨fun e => mul_cancel h (by rw [mul_comm c, mul_comm c]; exact e), fun e => by rw [e]⟩
open Classical in
theorem scP_padd {u : K} (hu : u ≠ 0) (p q : Pt K) : scP u (padd p q) = padd (scP u p) (scP u q) := by
  have h2 : u * u ≠ 0 := mul_ne_zero hu hu
  have h3 : u * u * u ≠ 0 := mul_ne_zero h2 hu
  have i1 := mul_inv hu
  cases p with
  | inf => rw [inf_add]; exact (inf_add _).symm
  | aff x1 y1 => cases q with
    | inf => rw [add_inf]; exact (add_inf _).symm
    | aff x2 y2 =>
      show scP u (padd (.aff x1 y1) (.aff x2 y2)) = padd (.aff (x1 * (u * u)) (y1 * (u * u * u))) (.aff (x2 * (u * u)) (y2 * (u * u * u)))
      rw [padd_aff, padd_aff]
      have hs : ∀ l, scP u (sumBy l x1 y1 x2) = sumBy (l * u) (x1 * (u * u)) (y1 * (u * u * u)) (x2 * (u * u)) := by
        intro l
        unfold sumBy
        show Pt.aff _ _ = Pt.aff _ _
        have e1 : (l * l - x1 - x2) * (u * u) = l * u * (l * u) - x1 * (u * u) - x2 * (u * u) := ident (env [l, x1, x2, u]) ((v0 * v0 - v1 - v2) * (v3 * v3)) (v0 * v3 * (v0 * v3) - v1 * (v3 * v3) - v2 * (v3 * v3)) (by decide +kernel)
        rw [← e1]
        congr 1
        generalize l * l - x1 - x2 = t
        exact ident (env [l, x1, t, y1, u]) ((v0 * (v1 - v2) - v3) * (v4 * v4 * v4)) (v0 * v4 * (v1 * (v4 * v4) - v2 * (v4 * v4)) - v3 * (v4 * v4 * v4)) (by decide +kernel)
      have sl : ∀ a d : K, a * inv d * u = a * (u * u * u) * inv (d * (u * u)) := by
        intro a d
        rw [inv_mul, inv_mul]
        exact lin1 (env [a, inv d, u, inv u]) (v0 * v1 * v2) (v0 * (v2 * v2 * v2) * (v1 * (v3 * v3))) (-(v0 * v1 * v2 * (v2 * v3 + 1))) (v2 * v3) 1 i1 (by decide +kernel)
      have sl2 : ∀ a d : K, a * inv d * u = a * (u * u * (u * u)) * inv (d * (u * u * u)) := by
        intro a d
        rw [inv_mul, inv_mul, inv_mul]
        exact lin1 (env [a, inv d, u, inv u]) (v0 * v1 * v2) (v0 * (v2 * v2 * (v2 * v2)) * (v1 * (v3 * v3 * v3))) (-(v0 * v1 * v2 * (v2 * v3 * (v2 * v3) + v2 * v3 + 1))) (v2 * v3) 1 i1 (by decide +kernel)
      by_cases e : x1 = x2
      · rw [if_pos e, if_pos ((mul_eq_iff h2).2 e)]
        by_cases e2 : y1 ≠ y2 ∨ y1 = 0
        · rw [if_pos e2, if_pos (e2.elim (fun k => .inl fun k' => k ((mul_eq_iff h3).1 k')) fun k => .inr (by rw [k, zero_mul]))]; rfl
        · rw [if_neg e2, if_neg (fun k => e2 (k.elim (fun k => .inl fun k' => k ((mul_eq_iff h3).2 k')) fun k => .inr ((mul_eq_zero.1 k).resolve_right h3))), hs, sl2]
          congr 2
          · exact ident (env [x1, u]) ((v0 * v0 + v0 * v0 + v0 * v0) * (v1 * v1 * (v1 * v1))) (v0 * (v1 * v1) * (v0 * (v1 * v1)) + v0 * (v1 * v1) * (v0 * (v1 * v1)) + v0 * (v1 * v1) * (v0 * (v1 * v1))) (by decide +kernel)
          · rw [add_mul]
      · rw [if_neg e, if_neg (fun k => e ((mul_eq_iff h2).1 k)), hs, sl]
        congr 2
        · exact ident (env [y1, y2, u]) ((v1 - v0) * (v2 * v2 * v2)) (v1 * (v2 * v2 * v2) - v0 * (v2 * v2 * v2)) (by decide +kernel)
        · congr 1
          exact ident (env [x1, x2, u]) ((v1 - v0) * (v2 * v2)) (v1 * (v2 * v2) - v0 * (v2 * v2)) (by decide +kernel)

end
/-! ### lines' numbers go along -/
section
variable {K L : Type} [CRing K] [CRing L] [IsField K] [IsField L] {h : K → L}
open Classical in
theorem Emb.ell (H : Emb h) (p q : Pt K) (x y : K) : Alg.ell (embP h p) (embP h q) (h x) (h y) = h (Alg.ell p q x y) := by
  cases p with
  | inf => rw [inf_ell, show embP h Pt.inf = .inf from rfl, inf_ell, H.one]
  | aff x1 y1 => cases q with
    | inf => rw [ell_inf, show embP h Pt.inf = .inf from rfl, ell_inf, H.one]
    | aff x2 y2 =>
      show Alg.ell (.aff (h x1) (h y1)) (.aff (h x2) (h y2)) (h x) (h y) = _
      rw [ell_aff, ell_aff]
      have hs : ∀ l, h (lnv l x1 y1 x y) = lnv (h l) (h x1) (h y1) (h x) (h y) := by
        intro l
        unfold lnv
        simp only [H.sub, H.mul, H.add]
      by_cases e : x1 = x2
      · rw [if_pos e, if_pos (H.eq.2 e)]
        by_cases e2 : y1 ≠ y2 ∨ y1 = 0
        · rw [if_pos e2, if_pos (e2.elim (fun k => .inl fun k' => k (H.inj _ _ k')) fun k => .inr (H.eq0.2 k)), H.sub]
        · rw [if_neg e2, if_neg (fun k => e2 (k.elim (fun k => .inl fun k' => k (H.eq.2 k')) fun k => .inr (H.eq0.1 k))), hs]
          simp only [H.mul, H.add, H.inv]
      · rw [if_neg e, if_neg (fun k => e (H.inj _ _ k)), hs]
        simp only [H.mul, H.sub, H.inv]
end
section
variable {K : Type} [CRing K] [IsField K]
open Classical in
theorem scP_ell {u : K} (hu : u ≠ 0) (p q : Pt K) (x y : K) : ell (scP u p) (scP u q) (x * (u * u)) (y * (u * u * u)) = ell p q x y ∨ ell (scP u p) (scP u q) (x * (u * u)) (y * (u * u * u)) = ell p q x y * (u * u) ∨
    ell (scP u p) (scP u q) (x * (u * u)) (y * (u * u * u)) = ell p q x y * (u * u * u) := by
  have h2 : u * u ≠ 0 := mul_ne_zero hu hu
  have h3 : u * u * u ≠ 0 := mul_ne_zero h2 hu
  have i1 := mul_inv hu
  cases p with
  | inf => left; rw [inf_ell]; exact inf_ell _ _ _
  | aff x1 y1 => cases q with
    | inf => left; rw [ell_inf]; exact ell_inf _ _ _
    | aff x2 y2 =>
      right
      show ell (.aff (x1 * (u * u)) (y1 * (u * u * u))) (.aff (x2 * (u * u)) (y2 * (u * u * u))) _ _ = _ ∨ ell (.aff (x1 * (u * u)) (y1 * (u * u * u))) (.aff (x2 * (u * u)) (y2 * (u * u * u))) _ _ = _
      rw [ell_aff, ell_aff]
      have hs : ∀ l, lnv (l * u) (x1 * (u * u)) (y1 * (u * u * u)) (x * (u * u)) (y * (u * u * u)) = lnv l x1 y1 x y * (u * u * u) := fun l =>
        ident (env [l, x1, y1, x, y, u]) (v0 * v5 * (v1 * (v5 * v5)) - v2 * (v5 * v5 * v5) - v0 * v5 * (v3 * (v5 * v5)) + v4 * (v5 * v5 * v5)) ((v0 * v1 - v2 - v0 * v3 + v4) * (v5 * v5 * v5)) (by decide +kernel)
      have sl : ∀ a d : K, a * inv d * u = a * (u * u * u) * inv (d * (u * u)) := by
        intro a d
        rw [inv_mul, inv_mul]
        exact lin1 (env [a, inv d, u, inv u]) (v0 * v1 * v2) (v0 * (v2 * v2 * v2) * (v1 * (v3 * v3))) (-(v0 * v1 * v2 * (v2 * v3 + 1))) (v2 * v3) 1 i1 (by decide +kernel)
      have sl2 : ∀ a d : K, a * inv d * u = a * (u * u * (u * u)) * inv (d * (u * u * u)) := by
        intro a d
        rw [inv_mul, inv_mul, inv_mul]
        exact lin1 (env [a, inv d, u, inv u]) (v0 * v1 * v2) (v0 * (v2 * v2 * (v2 * v2)) * (v1 * (v3 * v3 * v3))) (-(v0 * v1 * v2 * (v2 * v3 * (v2 * v3) + v2 * v3 + 1))) (v2 * v3) 1 i1 (by decide +kernel)
      by_cases e : x1 = x2
      · rw [if_pos e, if_pos ((mul_eq_iff h2).2 e)]
        by_cases e2 : y1 ≠ y2 ∨ y1 = 0
        · rw [if_pos e2, if_pos (e2.elim (fun k => .inl fun k' => k ((mul_eq_iff h3).1 k')) fun k => .inr (by rw [k, zero_mul]))]
          left
          exact ident (env [x1, x, u]) (v0 * (v2 * v2) - v1 * (v2 * v2)) ((v0 - v1) * (v2 * v2)) (by decide +kernel)
        · rw [if_neg e2, if_neg (fun k => e2 (k.elim (fun k => .inl fun k' => k ((mul_eq_iff h3).2 k')) fun k => .inr ((mul_eq_zero.1 k).resolve_right h3))), ← hs, sl2]
          right
          congr 2
          · exact ident (env [x1, u]) (v0 * (v1 * v1) * (v0 * (v1 * v1)) + v0 * (v1 * v1) * (v0 * (v1 * v1)) + v0 * (v1 * v1) * (v0 * (v1 * v1))) ((v0 * v0 + v0 * v0 + v0 * v0) * (v1 * v1 * (v1 * v1))) (by decide +kernel)
          · rw [add_mul]
      · rw [if_neg e, if_neg (fun k => e ((mul_eq_iff h2).1 k)), ← hs, sl]
        right
        congr 2
        · exact ident (env [y1, y2, u]) (v1 * (v2 * v2 * v2) - v0 * (v2 * v2 * v2)) ((v1 - v0) * (v2 * v2 * v2)) (by decide +kernel)
        · congr 1
          exact ident (env [x1, x2, u]) (v1 * (v2 * v2) - v0 * (v2 * v2)) ((v1 - v0) * (v2 * v2)) (by decide +kernel)
end
end Go.Alg
