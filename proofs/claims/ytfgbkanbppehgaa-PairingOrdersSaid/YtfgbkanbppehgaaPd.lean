/-
  Pairings of sums are products of pairings, on both sides.
-/
import Derived.Test.YtfgbkanbppehgaaPb
namespace Go.Alg
section
variable {K : Type} [CRing K] [IsField K] {b : K} {T S V : K → Prop} {G : K → K}
end
section
variable {K : Type} [CRing K] {b : K} {T S V : K → Prop} {G : K → K}
theorem lnv_ne (H : Halves K T S V) {l x1 y1 x y : K} (f : Far T S V b x y) (hl : S l) (h1 : S x1) (h2 : S y1) : lnv l x1 y1 x y ≠ 0 := by
  have e : lnv l x1 y1 x y = y + (l * x1 - y1 - l * x) := add_comm _ _
  rw [e]
  exact f.add_ne H (H.ssub (H.ssub (H.smul _ _ hl h1) h2) (H.smul _ _ hl f.xs))
end
section
variable {K : Type} [CRing K] [IsField K] {b : K} {T S V : K → Prop} {G : K → K}
theorem ell_ne (H : Halves K T S V) (C : Cv K b) {x y : K} (f : Far T S V b x y) {A B : Pt K} (hA : On b A) (hB : On b B) (tA : TPt T A) (tB : TPt T B) : ell A B x y ≠ 0 := by
  cases A with
  | inf => rw [inf_ell]; exact one_ne_zero
  | aff x1 y1 => cases B with
    | inf => rw [ell_inf]; exact one_ne_zero
    | aff x2 y2 =>
      by_cases hn : x1 = x2 ∧ y2 = -y1
      · obtain ⟨rfl, rfl⟩ := hn
        rw [ell_opp C]
        exact f.ne_sub H tA.1
      · obtain ⟨l, hl⟩ := ln_ex C hA hB hn
        rw [ell_ln C hl hn]
        exact lnv_ne H f (H.ts _ (hl.inT H C hn tA.1 tA.2 tB.1 tB.2)) (H.ts _ tA.1) (H.ts _ tA.2)
theorem smul_fact (C : Cv K b) {p : Pt K} (hp : On b p) {r m k c : Nat} (hr : smul r p = .inf) (hm : smul m p = .inf) (e : r = k * m + c) : smul c p = .inf := by
  rw [e, smul_add C hp, smul_mul C hp, hm, smul_inf, inf_add] at hr
  exact hr
/-- A point of an order that 2 and 3 do not divide has no 0 among its numbers. -/
theorem tor_y (C : Cv K b) {x y : K} (hp : On b (.aff x y)) {r : Nat} (hr : smul r (.aff x y) = .inf) (h2 : r % 2 = 1) : y ≠ 0 := by
  intro e
  have hd : smul 2 (.aff x y) = .inf := by
    rw [show 2 = 2 * 1 from rfl, smul_two C hp, smul_one, padd_aff, if_pos rfl, if_pos (.inr e)]
  have := smul_fact C hp hr hd (k := r / 2) (c := 1) (by omega)
  rw [smul_one] at this
  cases this
theorem tor_x (C : Cv K b) {x y : K} (hp : On b (.aff x y)) {r : Nat} (hr : smul r (.aff x y) = .inf) (h2 : r % 2 = 1) (h3 : r % 3 = 1) : x ≠ 0 := by
  intro e
  subst e
  have hy := tor_y C hp hr h2
  have hn : ¬ ((0 : K) = 0 ∧ y = -y) := fun k => hy (neg_eq_self C k.2)
  have hl : Ln b 0 y 0 y 0 := ⟨hp, by rw [zero_mul, add_zero], by rw [zero_mul, mul_zero, add_zero, add_zero]⟩
  have hd : smul 2 (.aff 0 y) = .aff 0 (-y) := by
    rw [show 2 = 2 * 1 from rfl, smul_two C hp, smul_one, padd_ln C hl hn]
    unfold sumBy
    have e1 : (0 : K) * 0 - 0 - 0 = 0 := by rw [mul_zero, sub_self, sub_self]
    rw [e1]
    have e2 : (0 : K) * (0 - 0) - y = -y := by rw [zero_mul]; exact zero_add _
    rw [e2]
  have h3' : smul 3 (.aff 0 y) = .inf := by
    show padd (smul 2 (.aff 0 y)) (.aff 0 y) = .inf
    rw [hd]
    have e := add_comm_pt C (on_neg hp) hp
    exact (show padd (.aff 0 (-y)) (.aff 0 y) = padd (.aff 0 y) (.aff 0 (-y)) from e).trans (padd_opp _ _ C)
  have := smul_fact C hp hr h3' (k := r / 3) (c := 1) (by omega)
  rw [smul_one] at this
  cases this
end
section
variable {K : Type} [CRing K] {b : K} {T S V : K → Prop} {G : K → K}
theorem pow_gi2 (g i : K) (h : g * i = 1) : g * g * (i * i) = 1 := lin1 (env [g, i]) (v0 * v0 * (v1 * v1)) 1 (v0 * v1 + 1) (v0 * v1) 1 h (by decide +kernel)
end
section
variable {K : Type} [CRing K] [IsField K] {b : K} {T S V : K → Prop} {G : K → K}
end
section
variable {K : Type} [CRing K] {b : K} {T S V : K → Prop} {G : K → K}
theorem pow_gi3 (g i : K) (h : g * i = 1) : g * g * g * (i * i * i) = 1 := lin1 (env [g, i]) (v0 * v0 * v0 * (v1 * v1 * v1)) 1 (v0 * v1 * (v0 * v1) + v0 * v1 + 1) (v0 * v1) 1 h (by decide +kernel)
end
section
variable {K : Type} [CRing K] [IsField K] {b : K} {T S V : K → Prop} {G : K → K}
end
section
variable {K : Type} [CRing K] {b : K} {T S V : K → Prop} {G : K → K}
theorem xw_id (x w g u : K) (h : g * u = 1) : x * (g * w * (g * w)) * (u * u) = x * (w * w) := lin1 (env [x, w, g, u]) (v0 * (v2 * v1 * (v2 * v1)) * (v3 * v3)) (v0 * (v1 * v1)) (v0 * (v1 * v1) * (v2 * v3 + 1)) (v2 * v3) 1 h (by decide +kernel)
end
section
variable {K : Type} [CRing K] [IsField K] {b : K} {T S V : K → Prop} {G : K → K}
end
section
variable {K : Type} [CRing K] {b : K} {T S V : K → Prop} {G : K → K}
theorem yw_id (y w g u : K) (h : g * u = 1) : y * (g * w * (g * w) * (g * w)) * (u * u * u) = y * (w * w * w) := lin1 (env [y, w, g, u]) (v0 * (v2 * v1 * (v2 * v1) * (v2 * v1)) * (v3 * v3 * v3)) (v0 * (v1 * v1 * v1)) (v0 * (v1 * v1 * v1) * (v2 * v3 * (v2 * v3) + v2 * v3 + 1)) (v2 * v3) 1 h (by decide +kernel)
end
section
variable {K : Type} [CRing K] [IsField K] {b : K} {T S V : K → Prop} {G : K → K}
end
section
variable {K : Type} [CRing K] {b : K} {T S V : K → Prop} {G : K → K}
theorem q_dbl (H g1 g2 g3 e11 e22 e12 e33 e44 : K) (h : H * g3 = g1 * g2 * e12) (k : e11 * e22 * e44 = e12 * e12 * e33) : H * H * (g3 * g3 * e33) = g1 * g1 * e11 * (g2 * g2 * e22) * e44 :=
  lin2 (env [H, g1, g2, g3, e11, e22, e12, e33, e44]) (v0 * v0 * (v3 * v3 * v7)) (v1 * v1 * v4 * (v2 * v2 * v5) * v8) (v7 * (v0 * v3 + v1 * v2 * v6)) (v0 * v3) (v1 * v2 * v6) (-(v1 * v1 * v2 * v2)) (v4 * v5 * v8) (v6 * v6 * v7) h k (by decide +kernel)
end
section
variable {K : Type} [CRing K] [IsField K] {b : K} {T S V : K → Prop} {G : K → K}
end
section
variable {K : Type} [CRing K] {b : K} {T S V : K → Prop} {G : K → K}
theorem q_stp (H h1 g1 g2 g3 a1 a2 e12 e3 e4 : K) (h : H * g3 = g1 * g2 * e12) (k : a1 * a2 * e4 = e12 * h1 * e3) : H * h1 * (g3 * e3) = g1 * a1 * (g2 * a2) * e4 :=
  lin2 (env [H, h1, g1, g2, g3, a1, a2, e12, e3, e4]) (v0 * v1 * (v4 * v8)) (v2 * v5 * (v3 * v6) * v9) (v1 * v8) (v0 * v4) (v2 * v3 * v7) (-(v2 * v3)) (v5 * v6 * v9) (v7 * v1 * v8) h k (by decide +kernel)
end
section
variable {K : Type} [CRing K] [IsField K] {b : K} {T S V : K → Prop} {G : K → K}
end
section
variable {K : Type} [CRing K] {b : K} {T S V : K → Prop} {G : K → K}
theorem q_end (f1 f2 f3 hx hp n : K) (h : hx * f3 = f1 * f2 * n) (k : hp * n = 1) (hr : hx * hp = 1) : f3 = f1 * f2 :=
  lin3 (env [f1, f2, f3, hx, hp, n]) v2 (v0 * v1) v4 (v3 * v2) (v0 * v1 * v5) (v0 * v1) (v4 * v5) 1 (-v2) (v3 * v4) 1 h k hr (by decide +kernel)
end
section
variable {K : Type} [CRing K] [IsField K] {b : K} {T S V : K → Prop} {G : K → K}
end
section
variable {K : Type} [CRing K] {b : K} {T S V : K → Prop} {G : K → K}
theorem p_dbl (g1 g2 g3 e1 e2 e3 m m2 M : K) (h : g1 * g2 * m = g3 * M) (k : e1 * e2 * m2 = e3 * (m * m)) : g1 * g1 * e1 * (g2 * g2 * e2) * m2 = g3 * g3 * e3 * (M * M) :=
  lin2 (env [g1, g2, g3, e1, e2, e3, m, m2, M]) (v0 * v0 * v3 * (v1 * v1 * v4) * v7) (v2 * v2 * v5 * (v8 * v8)) (v5 * (v0 * v1 * v6 + v2 * v8)) (v0 * v1 * v6) (v2 * v8) (v0 * v0 * v1 * v1) (v3 * v4 * v7) (v5 * (v6 * v6)) h k (by decide +kernel)
end
section
variable {K : Type} [CRing K] [IsField K] {b : K} {T S V : K → Prop} {G : K → K}
end
section
variable {K : Type} [CRing K] {b : K} {T S V : K → Prop} {G : K → K}
theorem p_stp (g1 g2 g3 e1 e2 e3 m m2 M q : K) (h : g1 * g2 * m = g3 * M) (k : e1 * e2 * m2 = e3 * (m * q)) : g1 * e1 * (g2 * e2) * m2 = g3 * e3 * (M * q) :=
  lin2 (env [g1, g2, g3, e1, e2, e3, m, m2, M, q]) (v0 * v3 * (v1 * v4) * v7) (v2 * v5 * (v8 * v9)) (v5 * v9) (v0 * v1 * v6) (v2 * v8) (v0 * v1) (v3 * v4 * v7) (v5 * (v6 * v9)) h k (by decide +kernel)
end
section
variable {K : Type} [CRing K] [IsField K] {b : K} {T S V : K → Prop} {G : K → K}
end
section
variable {K : Type} [CRing K] {b : K} {T S V : K → Prop} {G : K → K}
theorem p_end (f1 f2 f3 n mx mp : K) (h : f1 * f2 * n = f3 * mx) (k : mp * n = 1) (hr : mx * mp = 1) : f3 = f1 * f2 :=
  lin3 (env [f1, f2, f3, n, mx, mp]) v2 (v0 * v1) (-v5) (v0 * v1 * v3) (v2 * v4) (v0 * v1) (v5 * v3) 1 (-v2) (v4 * v5) 1 h k hr (by decide +kernel)
end
section
variable {K : Type} [CRing K] [IsField K] {b : K} {T S V : K → Prop} {G : K → K}
end
section
variable {K : Type} [CRing K] {b : K} {T S V : K → Prop} {G : K → K}
theorem pow_cancel {r a c : Nat} {h : K} (h0 : pow h r = 1) (hd : (a + c) % r = 0) : pow h a * pow h c = 1 := by
  rw [← pow_add]
  obtain ⟨m, hm⟩ := Nat.dvd_of_mod_eq_zero hd
  rw [hm, pow_mul, h0, one_pow]
end
section
variable {K : Type} [CRing K] [IsField K] {b : K} {T S V : K → Prop} {G : K → K}
end
end Go.Alg
namespace Go.Proofs.Ytfgbkanbppehgaa
open Go Go.Eng Go.RowKit Go.Wd Go.Alg Go.Pr

theorem r_odd : rNum % 2 = 1 := by decide +kernel
theorem r_three : rNum % 3 = 1 := by decide +kernel
theorem far_of {px py : F} (h : Tor b1 rNum (.aff px py)) : Far Tp Sp Vp b12 (xw px) (yw py) :=
  far_tw h.on (tor_x cv1 h.on h.tor r_odd r_three) (tor_y cv1 h.on h.tor r_odd)
theorem ny_of {A : Pt F2} (h : Tor b2 rNum A) : Ny (embP up A) := by
  cases A with
  | inf => trivial
  | aff x y => exact fun e => tor_y cv2 h.on h.tor r_odd (up_emb.eq0.1 e)
/-- The number of a step, as a pairing's. -/
noncomputable def eS (P : Pt F) (A B : Pt F2) : F12 := GF (stF A B P)
theorem GF_one : GF 1 = 1 := GF_kills.one _ rfl one_ne_zero
theorem eS_inf (A B : Pt F2) : eS .inf A B = 1 := by unfold eS; rw [stF_p]; exact GF_one
theorem eS_aff (px py : F) (A B : Pt F2) : eS (.aff px py) A B = GF (ell (embP up A) (embP up B) (xw px) (yw py)) := by unfold eS; rw [stF_ell]
theorem stF_ne {P : Pt F} (hP : Tor b1 rNum P) {A B : Pt F2} (hA : On b2 A) (hB : On b2 B) : stF A B P ≠ 0 := by
  cases P with
  | inf => rw [stF_p]; exact one_ne_zero
  | aff px py => rw [stF_ell]; exact ell_ne halves cv12 (far_of hP) (emb2_on hA) (emb2_on hB) (tpt_emb _) (tpt_emb _)
theorem eS_r {P : Pt F} (hP : Tor b1 rNum P) {A B : Pt F2} (hA : On b2 A) (hB : On b2 B) : pow (eS P A B) rP = 1 := GF_r (stF_ne hP hA hB)
theorem eS_four {P : Pt F} (hP : Tor b1 rNum P) {A B D E : Pt F2} (hA : On b2 A) (hB : On b2 B) (hD : On b2 D) (hE : On b2 E) :
    eS P A B * eS P D E * eS P (padd A B) (padd D E) = eS P A D * eS P B E * eS P (padd A D) (padd B E) := by
  cases P with
  | inf => simp only [eS_inf]
  | aff px py =>
    simp only [eS_aff, up_emb.padd]
    exact ell_four halves GF_kills cv12 (far_of hP) (emb2_on hA) (emb2_on hB) (emb2_on hD) (emb2_on hE) (tpt_emb _) (tpt_emb _) (tpt_emb _) (tpt_emb _)
theorem neg_affF (px py : F) : (Pt.aff px py).neg = .aff px (-py) := rfl
theorem eS_neg_P {P : Pt F} (hP : Tor b1 rNum P) {A B : Pt F2} (hA : On b2 A) (hB : On b2 B) : eS P A B * eS P.neg A B = 1 := by
  cases P with
  | inf => rw [show (Pt.inf : Pt F).neg = .inf from rfl, eS_inf, mul_one]
  | aff px py =>
    rw [neg_affF, eS_aff, eS_aff, show yw (-py) = -yw py by unfold yw; rw [up0_emb.neg, neg_mul]]
    exact ell_at_neg halves GF_kills cv12 (far_of hP) (emb2_on hA) (emb2_on hB) (tpt_emb _) (tpt_emb _)
theorem eS_negs {P : Pt F} (hP : Tor b1 rNum P) {A B : Pt F2} (hA : On b2 A) (hB : On b2 B) : eS P A B * eS P A.neg B.neg = 1 := by
  cases P with
  | inf => rw [eS_inf, eS_inf, mul_one]
  | aff px py =>
    rw [eS_aff, eS_aff, up_emb.neg_pt, up_emb.neg_pt, ell_negs halves GF_kills cv12 (far_of hP) (emb2_on hA) (emb2_on hB) (tpt_emb _) (tpt_emb _)]
    exact ell_at_neg halves GF_kills cv12 (far_of hP) (emb2_on hA) (emb2_on hB) (tpt_emb _) (tpt_emb _)

/-! ### powers of p -/
theorem σ_emb : Emb σ where
  add := σ_add
  mul := σ_mul
  neg x := by
    have h := σ_add x (-x)
    rw [add_neg] at h
    have h0 : σ 0 = 0 := by
      have := σ_add 0 0
      rw [add_zero] at this
      exact (add_left_cancel (this.symm.trans (add_zero _).symm))
    rw [h0] at h
    exact neg_unique h.symm
  one := by rw [← frob12, one_pow]
  inj x y h := by
    have : σn 12 x = σn 12 y := by
      rw [show 12 = 11 + 1 from rfl, σn_add, σn_add]
      exact congrArg (σn 11) h
    rwa [σ12, σ12] at this
theorem σ_upF (z : F2) : σ (up z) = up z.conj := by rw [← frob12, up_p]
theorem σ_ww : σ ww = up g1 * ww := by rw [← frob12, ww_p]
theorem g1_ps : κ2 (ι2 psX * (g1 * g1)) = κ2 1 ∧ κ2 (ι2 psY * (g1 * g1 * g1)) = κ2 1 := by decide +kernel
theorem g1_ne : g1 ≠ 0 := fun e => by
  have := κ2_inj g1_ps.1
  rw [e, mul_zero, mul_zero] at this
  exact one_ne_zero this.symm
noncomputable def gi : F2 := inv g1
theorem psX_eq : ι2 psX = gi * gi := by
  have h := κ2_inj g1_ps.1
  have i := mul_inv g1_ne
  refine mul_cancel (mul_ne_zero g1_ne g1_ne) ?_
  rw [mul_comm, h]
  unfold gi
  exact (pow_gi2 _ _ i).symm
theorem psY_eq : ι2 psY = gi * gi * gi := by
  have h := κ2_inj g1_ps.2
  have i := mul_inv g1_ne
  refine mul_cancel (mul_ne_zero (mul_ne_zero g1_ne g1_ne) g1_ne) ?_
  rw [mul_comm, h]
  unfold gi
  exact (pow_gi3 _ _ i).symm
noncomputable def ug : F12 := up gi
theorem ug_g1 : up g1 * ug = 1 := by unfold ug gi; rw [up_mul, mul_inv g1_ne]; rfl
theorem ug_ne : ug ≠ 0 := fun e => one_ne_zero (R := F12) (by rw [← ug_g1, e, mul_zero])
/-- Points' power of p, scaled. -/
noncomputable def MP (X : Pt F12) : Pt F12 := scP ug (embP σ X)
theorem MP_emb (A : Pt F2) : embP up (psiP A) = MP (embP up A) := by
  cases A with
  | inf => rfl
  | aff x y =>
    show Pt.aff (up (x.conj * ι2 psX)) (up (y.conj * ι2 psY)) = .aff (σ (up x) * (ug * ug)) (σ (up y) * (ug * ug * ug))
    rw [σ_upF, σ_upF, psX_eq, psY_eq, up_emb.mul, up_emb.mul, up_emb.mul, up_emb.mul, up_emb.mul]
    rfl
theorem xw_M (x : F) : σ (xw x) * (ug * ug) = xw x := by
  have h0 : σ (up0 x) = up0 x := by
    unfold up0
    rw [σ_upF]
    exact congrArg up (Quad.ext' rfl neg_zero)
  unfold xw
  rw [σ_mul, σ_mul, h0, σ_ww]
  exact xw_id _ _ _ _ ug_g1
theorem yw_M (y : F) : σ (yw y) * (ug * ug * ug) = yw y := by
  have h0 : σ (up0 y) = up0 y := by
    unfold up0
    rw [σ_upF]
    exact congrArg up (Quad.ext' rfl neg_zero)
  unfold yw
  rw [σ_mul, σ_mul, σ_mul, h0, σ_ww]
  exact yw_id _ _ _ _ ug_g1
theorem MP_tw (P : Pt F) : MP (twP P) = twP P := by
  cases P with
  | inf => rfl
  | aff x y =>
    show Pt.aff (σ (xw x) * (ug * ug)) (σ (yw y) * (ug * ug * ug)) = .aff (xw x) (yw y)
    rw [xw_M, yw_M]
theorem ug_S : Sp ug := rfl
theorem frob_ell (A B : Pt F12) (x y : F12) : GF (ell (MP A) (MP B) (σ x * (ug * ug)) (σ y * (ug * ug * ug))) = pow (GF (ell A B x y)) pN := by
  rw [← GF_σ, ← σ_emb.ell]
  unfold MP
  have s2 : Sp (ug * ug) := halves.smul _ _ ug_S ug_S
  rcases scP_ell ug_ne (embP σ A) (embP σ B) (σ x) (σ y) with h | h | h
  · rw [h]
  · rw [h, GF_kills.mul, GF_kills.one _ s2 (mul_ne_zero ug_ne ug_ne), mul_one]
  · rw [h, GF_kills.mul, GF_kills.one _ (halves.smul _ _ s2 ug_S) (mul_ne_zero (mul_ne_zero ug_ne ug_ne) ug_ne), mul_one]
theorem eS_psi (P : Pt F) (A B : Pt F2) : eS P (psiP A) (psiP B) = pow (eS P A B) pN := by
  cases P with
  | inf => rw [eS_inf, eS_inf, one_pow]
  | aff px py =>
    rw [eS_aff, eS_aff, MP_emb, MP_emb, ← frob_ell, xw_M, yw_M]
theorem x_p_r : (xP + pN) % rP = 0 := by decide +kernel

/-! ### sums of the twisted curve's points -/
structure InvQ (P : Pt F) (Q1 Q2 : Pt F2) (n : Nat) (s1 s2 s3 : SF) : Prop where
  t1 : s1.2 = smul n Q1
  t2 : s2.2 = smul n Q2
  t3 : s3.2 = smul n (padd Q1 Q2)
  e : pow (eS P Q1 Q2) n * GF s3.1 = GF s1.1 * GF s2.1 * eS P s1.2 s2.2
theorem dbl_fst (P : Pt F) (s : SF) : GF (dblF P s).1 = GF s.1 * GF s.1 * eS P s.2 s.2 := by unfold dblF eS; rw [GF_kills.mul, GF_kills.mul]
theorem stp_fst (P : Pt F) (s : SF) (Q : Pt F2) : GF (stpF P s Q).1 = GF s.1 * eS P s.2 Q := by unfold stpF eS; rw [GF_kills.mul]
theorem dbl_snd (P : Pt F) (s : SF) : (dblF P s).2 = padd s.2 s.2 := rfl
theorem stp_snd (P : Pt F) (s : SF) (Q : Pt F2) : (stpF P s Q).2 = padd s.2 Q := rfl
theorem invQ_dbl {P : Pt F} (hP : Tor b1 rNum P) {Q1 Q2 : Pt F2} (h1 : On b2 Q1) (h2 : On b2 Q2) {n : Nat} {s1 s2 s3 : SF} (h : InvQ P Q1 Q2 n s1 s2 s3) : InvQ P Q1 Q2 (2 * n) (dblF P s1) (dblF P s2) (dblF P s3) := by
  have o1 : On b2 s1.2 := by rw [h.t1]; exact on_smul cv2 h1 n
  have o2 : On b2 s2.2 := by rw [h.t2]; exact on_smul cv2 h2 n
  have e3 : s3.2 = padd s1.2 s2.2 := by rw [h.t1, h.t2, h.t3, smul_distr cv2 h1 h2]
  refine ⟨?_, ?_, ?_, ?_⟩
  · show padd s1.2 s1.2 = _; rw [h.t1, smul_two cv2 h1]
  · show padd s2.2 s2.2 = _; rw [h.t2, smul_two cv2 h2]
  · show padd s3.2 s3.2 = _; rw [h.t3, smul_two cv2 (on_add cv2 h1 h2)]
  · rw [dbl_fst, dbl_fst, dbl_fst, dbl_snd, dbl_snd, e3, Nat.two_mul, pow_add]
    have four := eS_four hP o1 o1 o2 o2
    exact q_dbl _ _ _ _ _ _ _ _ _ h.e four
theorem invQ_stp {P : Pt F} (hP : Tor b1 rNum P) {Q1 Q2 : Pt F2} (h1 : On b2 Q1) (h2 : On b2 Q2) {n : Nat} {s1 s2 s3 : SF} (h : InvQ P Q1 Q2 n s1 s2 s3) : InvQ P Q1 Q2 (n + 1) (stpF P s1 Q1) (stpF P s2 Q2) (stpF P s3 (padd Q1 Q2)) := by
  have o1 : On b2 s1.2 := by rw [h.t1]; exact on_smul cv2 h1 n
  have o2 : On b2 s2.2 := by rw [h.t2]; exact on_smul cv2 h2 n
  have e3 : s3.2 = padd s1.2 s2.2 := by rw [h.t1, h.t2, h.t3, smul_distr cv2 h1 h2]
  refine ⟨?_, ?_, ?_, ?_⟩
  · show padd s1.2 Q1 = _; rw [h.t1]; rfl
  · show padd s2.2 Q2 = _; rw [h.t2]; rfl
  · show padd s3.2 (padd Q1 Q2) = _; rw [h.t3]; rfl
  · rw [stp_fst, stp_fst, stp_fst, stp_snd, stp_snd, e3, pow_succ]
    have four := eS_four hP o1 h1 o2 h2
    exact q_stp _ _ _ _ _ _ _ _ _ _ h.e four
theorem bitM_eq (i : Nat) : bitM i = Nat.beq (xP / 2 ^ i % 2) 1 := rfl
theorem invQ_it {P : Pt F} (hP : Tor b1 rNum P) {Q1 Q2 : Pt F2} (h1 : On b2 Q1) (h2 : On b2 Q2) : ∀ i s1 s2 s3, InvQ P Q1 Q2 (xP / 2 ^ i) s1 s2 s3 → InvQ P Q1 Q2 xP (itF P Q1 i s1) (itF P Q2 i s2) (itF P (padd Q1 Q2) i s3) := by
  intro i
  induction i with
  | zero => intro s1 s2 s3 h; rw [Nat.pow_zero, Nat.div_one] at h; exact h
  | succ i ih =>
    intro s1 s2 s3 h
    refine ih _ _ _ ?_
    have hd := invQ_dbl hP h1 h2 h
    have e := half_eq xP i
    unfold rndF
    rcases Nat.mod_two_eq_zero_or_one (xP / 2 ^ i) with h0 | h0
    · have hb : bitM i = false := by rw [bitM_eq, h0]; rfl
      rw [hb, e, h0]; exact hd
    · have hb : bitM i = true := by rw [bitM_eq, h0]; rfl
      rw [hb, e, h0]; exact invQ_stp hP h1 h2 hd
theorem x_top : xP / 2 ^ 63 = 1 := by decide +kernel
/-- What Miller's loop tells of a point of the twisted curve: x times it is its map's opposite. -/
structure TorQ (Q : Pt F2) : Prop extends Tor b2 rNum Q where
  psi : smul xP Q = (psiP Q).neg
theorem pair_add_right {P : Pt F} (hP : Tor b1 rNum P) {Q1 Q2 : Pt F2} (h1 : TorQ Q1) (h2 : TorQ Q2) : GF (milF P (padd Q1 Q2)) = GF (milF P Q1) * GF (milF P Q2) := by
  have start : InvQ P Q1 Q2 (xP / 2 ^ 63) (1, Q1) (1, Q2) (1, padd Q1 Q2) := by
    rw [x_top]
    refine ⟨(smul_one _).symm, (smul_one _).symm, (smul_one _).symm, ?_⟩
    dsimp only
    rw [GF_one, pow_one, mul_one, mul_one, one_mul]
  have h := invQ_it hP h1.on h2.on 63 _ _ _ start
  have he := h.e
  rw [h.t1, h.t2, h1.psi, h2.psi] at he
  have o1 := (psi_on _).2 h1.on
  have o2 := (psi_on _).2 h2.on
  have hn := eS_negs hP o1 o2
  rw [eS_psi] at hn
  have hr := pow_cancel (eS_r hP h1.on h2.on) x_p_r
  unfold milF
  exact q_end _ _ _ _ _ _ he hn hr

/-! ### sums of the base curve's points -/
theorem smul_succ {K : Type} [CRing K] (n : Nat) (p : Pt K) : smul (n + 1) p = padd (smul n p) p := rfl
/-- Miller's number is not 0. -/
theorem it_ne {P : Pt F} (hP : Tor b1 rNum P) {Q : Pt F2} (hQ : On b2 Q) : ∀ i s, s.1 ≠ 0 → On b2 s.2 → (itF P Q i s).1 ≠ 0 := by
  intro i
  induction i with
  | zero => intro s h _; exact h
  | succ i ih =>
    intro s h ho
    have d1 : (dblF P s).1 ≠ 0 := mul_ne_zero (mul_ne_zero h h) (stF_ne hP ho ho)
    have d2 : On b2 (dblF P s).2 := on_add cv2 ho ho
    show (itF P Q i (rndF P Q i s)).1 ≠ 0
    unfold rndF
    cases bitM i with
    | true => exact ih _ (mul_ne_zero d1 (stF_ne hP d2 hQ)) (on_add cv2 d2 hQ)
    | false => exact ih _ d1 d2
theorem mil_ne_all {P : Pt F} (hP : Tor b1 rNum P) {Q : Pt F2} (hQ : On b2 Q) : milF P Q ≠ 0 := by
  unfold milF
  exact it_ne hP hQ 63 (1, Q) one_ne_zero hQ
theorem mil_inf_ne (Q : Pt F2) (hQ : On b2 Q) : milF .inf Q ≠ 0 := mil_ne_all Tor.inf hQ
noncomputable def mP (P1 P2 : Pt F) (X : Pt F2) : F12 := atPt (fun x y => GF (ell (twP P1) (twP P2) x y)) (embP up X)
theorem mP_inf (P1 P2 : Pt F) : mP P1 P2 .inf = 1 := rfl
theorem mP_aff (P1 P2 : Pt F) (x y : F2) : mP P1 P2 (.aff x y) = GF (ell (twP P1) (twP P2) (up x) (up y)) := rfl
theorem twP_aff (x y : F) : twP (.aff x y) = .aff (xw x) (yw y) := rfl
theorem eS_turn {p1 q1 p2 q2 p3 q3 : F} (f1 : Tor b1 rNum (.aff p1 q1)) (f2 : Tor b1 rNum (.aff p2 q2)) (f3 : Tor b1 rNum (.aff p3 q3)) (hp : padd (.aff p1 q1) (.aff p2 q2) = .aff p3 q3) {A B : Pt F2} (hA : Tor b2 rNum A) (hB : Tor b2 rNum B) :
    eS (.aff p1 q1) A B * eS (.aff p2 q2) A B * mP (.aff p1 q1) (.aff p2 q2) (padd A B) = eS (.aff p3 q3) A B * (mP (.aff p1 q1) (.aff p2 q2) A * mP (.aff p1 q1) (.aff p2 q2) B) := by
  have e := congrArg twP hp
  rw [twP_add, twP_aff, twP_aff, twP_aff] at e
  rw [eS_aff, eS_aff, eS_aff]
  unfold mP
  rw [up_emb.padd, twP_aff, twP_aff]
  exact ell_turn halves GF_kills cv12 (far_of f1) (far_of f2) (far_of f3) e (emb2_on hA.on) (emb2_on hB.on) (tpt_emb _) (tpt_emb _) (ny_of hA) (ny_of hB) (by rw [← up_emb.padd]; exact ny_of (hA.add cv2 hB))
theorem eS_opp {P : Pt F} (hP : Tor b1 rNum P) (A : Pt F2) : eS P A A.neg = 1 := by
  cases P with
  | inf => exact eS_inf _ _
  | aff px py =>
    rw [eS_aff, up_emb.neg_pt]
    exact ell_neg_one halves GF_kills cv12 (far_of hP) (tpt_emb _)
theorem mP_neg {p1 q1 p2 q2 p3 q3 : F} (f1 : Tor b1 rNum (.aff p1 q1)) (f2 : Tor b1 rNum (.aff p2 q2)) (f3 : Tor b1 rNum (.aff p3 q3)) (hp : padd (.aff p1 q1) (.aff p2 q2) = .aff p3 q3) {A : Pt F2} (hA : Tor b2 rNum A) :
    mP (.aff p1 q1) (.aff p2 q2) A * mP (.aff p1 q1) (.aff p2 q2) A.neg = 1 := by
  have h := eS_turn f1 f2 f3 hp hA (hA.neg cv2)
  rw [eS_opp f1, eS_opp f2, eS_opp f3, add_neg_pt cv2, mP_inf, one_mul, one_mul, one_mul] at h
  exact h.symm
theorem mP_psi (P1 P2 : Pt F) (A : Pt F2) : mP P1 P2 (psiP A) = pow (mP P1 P2 A) pN := by
  unfold mP
  rw [MP_emb]
  cases A with
  | inf => exact (one_pow pN).symm
  | aff x y =>
    have := frob_ell (twP P1) (twP P2) (up x) (up y)
    rw [MP_tw, MP_tw] at this
    exact this
theorem GF_zero : GF 0 = 0 := by
  unfold GF
  rw [show (0 : F12).conj = 0 from Quad.ext' rfl neg_zero, finF_zero]
theorem GF_r' {z : F12} (h : GF z ≠ 0) : pow (GF z) rP = 1 := GF_r fun e => h (by rw [e, GF_zero])
theorem mP_r (P1 P2 : Pt F) (A : Pt F2) (h : mP P1 P2 A ≠ 0) : pow (mP P1 P2 A) rP = 1 := by
  cases A with
  | inf => rw [mP_inf, one_pow]
  | aff x y => rw [mP_aff] at h ⊢; exact GF_r' h
structure InvP (M : Pt F2 → F12) (Q : Pt F2) (n : Nat) (s1 s2 s3 : SF) : Prop where
  t1 : s1.2 = smul n Q
  t2 : s2.2 = smul n Q
  t3 : s3.2 = smul n Q
  e : GF s1.1 * GF s2.1 * M (smul n Q) = GF s3.1 * pow (M Q) n
section
variable {P1 P2 P3 : Pt F} {M : Pt F2 → F12} {Q : Pt F2} (hQ : Tor b2 rNum Q)
  (hM : ∀ A B, Tor b2 rNum A → Tor b2 rNum B → eS P1 A B * eS P2 A B * M (padd A B) = eS P3 A B * (M A * M B))
include hQ hM
theorem invP_dbl {n : Nat} {s1 s2 s3 : SF} (h : InvP M Q n s1 s2 s3) : InvP M Q (2 * n) (dblF P1 s1) (dblF P2 s2) (dblF P3 s3) := by
  refine ⟨?_, ?_, ?_, ?_⟩
  · rw [dbl_snd, h.t1, smul_two cv2 hQ.on]
  · rw [dbl_snd, h.t2, smul_two cv2 hQ.on]
  · rw [dbl_snd, h.t3, smul_two cv2 hQ.on]
  · rw [dbl_fst, dbl_fst, dbl_fst, h.t1, h.t2, h.t3, smul_two cv2 hQ.on, Nat.two_mul, pow_add]
    have k := hM _ _ (hQ.smul cv2 n) (hQ.smul cv2 n)
    exact p_dbl _ _ _ _ _ _ _ _ _ h.e k
theorem invP_stp {n : Nat} {s1 s2 s3 : SF} (h : InvP M Q n s1 s2 s3) : InvP M Q (n + 1) (stpF P1 s1 Q) (stpF P2 s2 Q) (stpF P3 s3 Q) := by
  refine ⟨?_, ?_, ?_, ?_⟩
  · rw [stp_snd, h.t1]; rfl
  · rw [stp_snd, h.t2]; rfl
  · rw [stp_snd, h.t3]; rfl
  · rw [stp_fst, stp_fst, stp_fst, h.t1, h.t2, h.t3, pow_succ, smul_succ]
    have k := hM _ _ (hQ.smul cv2 n) hQ
    exact p_stp _ _ _ _ _ _ _ _ _ _ h.e k
theorem invP_it : ∀ i s1 s2 s3, InvP M Q (xP / 2 ^ i) s1 s2 s3 → InvP M Q xP (itF P1 Q i s1) (itF P2 Q i s2) (itF P3 Q i s3) := by
  intro i
  induction i with
  | zero => intro s1 s2 s3 h; rw [Nat.pow_zero, Nat.div_one] at h; exact h
  | succ i ih =>
    intro s1 s2 s3 h
    refine ih _ _ _ ?_
    have hd := invP_dbl hQ hM h
    have e := half_eq xP i
    unfold rndF
    rcases Nat.mod_two_eq_zero_or_one (xP / 2 ^ i) with h0 | h0
    · have hb : bitM i = false := by rw [bitM_eq, h0]; rfl
      rw [hb, e, h0]; exact hd
    · have hb : bitM i = true := by rw [bitM_eq, h0]; rfl
      rw [hb, e, h0]; exact invP_stp hQ hM hd
theorem invP_all : InvP M Q xP (itF P1 Q 63 (1, Q)) (itF P2 Q 63 (1, Q)) (itF P3 Q 63 (1, Q)) := by
  refine invP_it hQ hM 63 _ _ _ ?_
  rw [x_top]
  refine ⟨(smul_one _).symm, (smul_one _).symm, (smul_one _).symm, ?_⟩
  dsimp only
  rw [GF_one, pow_one, smul_one, mul_one]
end
theorem pair_inf_left (Q : Pt F2) (hQ : Tor b2 rNum Q) : GF (milF .inf Q) = 1 := by
  have h := (invP_all (P1 := .inf) (P2 := .inf) (P3 := .inf) (M := fun _ => 1) hQ (fun A B _ _ => by simp only [eS_inf, mul_one])).e
  rw [mul_one, one_pow, mul_one] at h
  have h0 : GF (milF .inf Q) ≠ 0 := GF_ne (mil_inf_ne Q hQ.on)
  unfold milF at h0 ⊢
  refine mul_cancel h0 ?_
  rw [mul_one]; exact h
theorem pair_neg_left {P : Pt F} (hP : Tor b1 rNum P) {Q : Pt F2} (hQ : Tor b2 rNum Q) : GF (milF P Q) * GF (milF P.neg Q) = 1 := by
  have h := (invP_all (P1 := P) (P2 := P.neg) (P3 := .inf) (M := fun _ => 1) hQ (fun A B hA hB => by rw [eS_neg_P hP hA.on hB.on, eS_inf, mul_one, mul_one])).e
  rw [mul_one, one_pow, mul_one] at h
  have e := pair_inf_left Q hQ
  unfold milF at e ⊢
  rw [h, e]
theorem pair_add_left {P1 P2 : Pt F} (h1 : Tor b1 rNum P1) (h2 : Tor b1 rNum P2) {Q : Pt F2} (hQ : TorQ Q) : GF (milF (padd P1 P2) Q) = GF (milF P1 Q) * GF (milF P2 Q) := by
  have h3 := h1.add cv1 h2
  cases hp : padd P1 P2 with
  | inf =>
    have e : P2 = P1.neg := by
      have := add_sub_pt cv1 h1.on h2.on
      rw [hp, inf_add] at this
      rw [← this, neg_neg_pt]
    rw [e, pair_neg_left h1 hQ.toTor, pair_inf_left Q hQ.toTor]
  | aff p3 q3 =>
    rw [hp] at h3
    cases P1 with
    | inf =>
      rw [inf_add] at hp
      rw [pair_inf_left Q hQ.toTor, one_mul, hp]
    | aff p1 q1 => cases P2 with
      | inf =>
        rw [add_inf] at hp
        rw [pair_inf_left Q hQ.toTor, mul_one, hp]
      | aff p2 q2 =>
        have h := (invP_all (P1 := .aff p1 q1) (P2 := .aff p2 q2) (P3 := .aff p3 q3) (M := mP (.aff p1 q1) (.aff p2 q2)) hQ.toTor (fun A B hA hB => eS_turn h1 h2 h3 hp hA hB)).e
        rw [hQ.psi] at h
        have hq : Tor b2 rNum (psiP Q) := ⟨(psi_on _).2 hQ.on, by rw [← psi_smul hQ.on, hQ.tor]; rfl⟩
        have hn := mP_neg h1 h2 h3 hp hq
        have hn0 := mP_neg h1 h2 h3 hp hQ.toTor
        rw [mP_psi] at hn
        have hr := pow_cancel (mP_r _ _ Q (fun e => by rw [e, zero_mul] at hn0; exact one_ne_zero hn0.symm)) x_p_r
        unfold milF
        exact p_end _ _ _ _ _ _ h hn hr
theorem pair_inf_right (P : Pt F) (hP : Tor b1 rNum P) : GF (milF P .inf) = 1 := by
  have hi : TorQ .inf := ⟨Tor.inf, smul_inf _⟩
  have h := pair_add_right hP hi hi
  rw [inf_add] at h
  have h0 : GF (milF P .inf) ≠ 0 := GF_ne (mil_ne_all hP trivial)
  refine mul_cancel h0 ?_
  rw [mul_one]; exact h.symm
/-! ### multiples -/
theorem pair_smul_left {P : Pt F} (hP : Tor b1 rNum P) {Q : Pt F2} (hQ : TorQ Q) (n : Nat) : GF (milF (smul n P) Q) = pow (GF (milF P Q)) n := by
  induction n with
  | zero => exact pair_inf_left Q hQ.toTor
  | succ n ih => rw [smul_succ, pair_add_left (hP.smul cv1 n) hP hQ, ih, pow_succ]
theorem torQ_base (n : Nat) : TorQ (smul n (ιP2 base2)) := ⟨base2_tor.smul cv2 n, psi_mul n⟩
theorem torQ_one : TorQ (ιP2 base2) := by
  have := torQ_base 1
  rwa [smul_one] at this
theorem pair_base_right {P : Pt F} (hP : Tor b1 rNum P) (n : Nat) : GF (milF P (smul n (ιP2 base2))) = pow (GF (milF P (ιP2 base2))) n := by
  induction n with
  | zero => exact pair_inf_right P hP
  | succ n ih => rw [smul_succ, pair_add_right hP (torQ_base n) torQ_one, ih, pow_succ]
theorem pair_base_smul (n m : Nat) : GF (milF (smul n (ιP1 base1)) (smul m (ιP2 base2))) = pow (GF (milF (ιP1 base1) (ιP2 base2))) (n * m) := by
  rw [pair_smul_left base1_tor (torQ_base m), pair_base_right base1_tor, ← pow_mul, Nat.mul_comm]
end Go.Proofs.Ytfgbkanbppehgaa
