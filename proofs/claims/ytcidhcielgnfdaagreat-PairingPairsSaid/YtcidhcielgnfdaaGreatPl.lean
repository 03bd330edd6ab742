/-
  The pairing's plain law: the power that makes pairings is a map of products that takes 1 on the numbers without w; its values have the power of r 1.
-/
import Derived.Test.YtcidhcielgnfdaaGreatBi
import Derived.Test.YtcidhcielgnfdaaGreatFrP
import Derived.Test.YtcidhcielgnfdaaGreatMi
namespace Go.Proofs.YtcidhcielgnfdaaGreat
open Go Go.Eng Go.RowKit Go.Wd Go.Alg Go.Pr

theorem mm2 {R : Type} [CRing R] (a b c d : R) : a * b * (c * d) = a * c * (b * d) := ident (env [a, b, c, d]) (v0 * v1 * (v2 * v3)) (v0 * v2 * (v1 * v3)) (by decide +kernel)
theorem mm3 {R : Type} [CRing R] (a b c d e f : R) : a * b * (c * d) * (e * f) = a * c * e * (b * d * f) := ident (env [a, b, c, d, e, f]) (v0 * v1 * (v2 * v3) * (v4 * v5)) (v0 * v2 * v4 * (v1 * v3 * v5)) (by decide +kernel)
theorem upG_w2 {R : Type} [CRing R] {k : R} (x : R) : (upG x * (wG * wG) : Quad (Cub R k) ⟨0, 1, 0⟩) = ⟨⟨0, x, 0⟩, ⟨0, 0, 0⟩⟩ := by
  rw [w2G, upG_smul]
  simp only [mul_zero, mul_one]
theorem upG_w3 {R : Type} [CRing R] {k : R} (x : R) : (upG x * (wG * wG * wG) : Quad (Cub R k) ⟨0, 1, 0⟩) = ⟨⟨0, 0, 0⟩, ⟨0, x, 0⟩⟩ := by
  rw [w3G, upG_smul]
  simp only [mul_zero, mul_one]
theorem lm1 {R : Type} [CRing R] (L X Y A B W : R) : L * X - Y - L * (A * W) + B = L * X - Y + -(L * A * W) + B := ident (env [L, X, Y, A, B, W]) (v0 * v1 - v2 - v0 * (v3 * v5) + v4) (v0 * v1 - v2 + -(v0 * v3 * v5) + v4) (by decide +kernel)
theorem lm2 (a b c : F2) : up a + -(⟨⟨0, b, 0⟩, ⟨0, 0, 0⟩⟩ : F12) + ⟨⟨0, 0, 0⟩, ⟨0, c, 0⟩⟩ = ⟨⟨a, -b, 0⟩, ⟨0, c, 0⟩⟩ := by
  refine Quad.ext' (Cub.ext' ?_ ?_ ?_) (Cub.ext' ?_ ?_ ?_)
  · show a + -0 + 0 = a; rw [neg_zero, add_zero, add_zero]
  · show 0 + -b + 0 = -b; rw [add_zero, zero_add]
  · show (0 : F2) + -0 + 0 = 0; rw [neg_zero, add_zero, add_zero]
  · show (0 : F2) + -0 + 0 = 0; rw [neg_zero, add_zero, add_zero]
  · show 0 + -0 + c = c; rw [neg_zero, add_zero, zero_add]
  · show (0 : F2) + -0 + 0 = 0; rw [neg_zero, add_zero, add_zero]
theorem lm3 (a b c : F2) (h : c = -b) : up a - (⟨⟨0, b, 0⟩, ⟨0, 0, 0⟩⟩ : F12) = ⟨⟨a, c, 0⟩, ⟨0, 0, 0⟩⟩ := by
  subst h
  refine Quad.ext' (Cub.ext' ?_ ?_ ?_) (Cub.ext' ?_ ?_ ?_)
  · show a + -0 = a; rw [neg_zero, add_zero]
  · show 0 + -b = -b; rw [zero_add]
  all_goals (show (0 : F2) + -0 = 0; rw [neg_zero, add_zero])
/-! ### the power that makes pairings -/
def xP : Nat := 0xd201000000010000
def hardP : Nat := 0x396c8c005555e1568c00aaab0000aaab
def xxF (z : F12) : F12 := pow z xP
noncomputable def gF (f : F12) : F12 := f.conj * inv f
noncomputable def hF12 (g : F12) : F12 := σn 2 g * g
noncomputable def bF (a : F12) : F12 := (xxF a).conj * σn 1 a
noncomputable def cF (b : F12) : F12 := xxF (xxF b) * σn 2 b * b.conj
noncomputable def finF (f : F12) : F12 := cF (bF (pow (hF12 (gF f)) hardP)) * hF12 (gF f)

/-- Powers of p, as powers. -/
theorem σn_pow (k : Nat) (z : F12) : σn k z = pow z (pN ^ k) := by
  induction k with
  | zero => rw [Nat.pow_zero, pow_one]; rfl
  | succ k ih => show σ (σn k z) = _; rw [ih, ← frob12, ← pow_mul, Nat.pow_succ]
theorem conj_pow12 (z : F12) : z.conj = pow z (pN ^ 6) := by rw [← σ6, σn_pow]
def ordP : Nat := pN ^ 12 - 1
theorem pow_ord {z : F12} (h : z ≠ 0) : pow z ordP = 1 := by
  have e := σn_pow 12 z
  rw [σ12] at e
  have e2 : pN ^ 12 = ordP + 1 := by decide +kernel
  rw [e2, pow_succ] at e
  refine (mul_cancel h ?_).symm
  rw [mul_one, mul_comm]; exact e
theorem inv_pow {z : F12} (h : z ≠ 0) : inv z = pow z (pN ^ 12 - 2) := by
  refine inv_eq ?_
  rw [mul_comm, ← pow_succ, show pN ^ 12 - 2 + 1 = ordP by decide +kernel]
  exact pow_ord h
def eG : Nat := pN ^ 6 + (pN ^ 12 - 2)
def eH (n : Nat) : Nat := n * pN ^ 2 + n
def eB (n : Nat) : Nat := n * xP * pN ^ 6 + n * pN ^ 1
def eC (n : Nat) : Nat := n * xP * xP + n * pN ^ 2 + n * pN ^ 6
def eFin : Nat := eC (eB (eH eG * hardP)) + eH eG
theorem finF_pow {z : F12} (h : z ≠ 0) : finF z = pow z eFin := by
  have e1 : gF z = pow z eG := by unfold gF eG; rw [inv_pow h, conj_pow12, pow_add]
  have e2 : ∀ n, hF12 (pow z n) = pow z (eH n) := by intro n; unfold hF12 eH; rw [σn_pow, ← pow_mul, pow_add]
  have e3 : ∀ n, bF (pow z n) = pow z (eB n) := by intro n; unfold bF eB xxF; rw [σn_pow, conj_pow12, ← pow_mul, ← pow_mul, ← pow_mul, pow_add, Nat.mul_assoc n xP]
  have e4 : ∀ n, cF (pow z n) = pow z (eC n) := by intro n; unfold cF eC xxF; rw [σn_pow, conj_pow12, ← pow_mul, ← pow_mul, ← pow_mul, ← pow_mul, pow_add, pow_add, Nat.mul_assoc n xP]
  unfold finF eFin
  rw [e1, e2, ← pow_mul, e3, e4, ← pow_add]
def rP : Nat := 0x73eda753299d7d483339d80809a1d80553bda402fffe5bfeffffffff00000001
theorem eFin_r : eFin * rP % ordP = 0 := by decide +kernel
/-- Its r-th power is 1. -/
theorem finF_r {z : F12} (h : z ≠ 0) : pow (finF z) rP = 1 := by
  rw [finF_pow h, ← pow_mul]
  obtain ⟨m, hm⟩ := Nat.dvd_of_mod_eq_zero eFin_r
  rw [hm, pow_mul, pow_ord h, one_pow]
theorem conj_one12 : (1 : F12).conj = 1 := Quad.ext' rfl neg_zero
theorem σn_one (k : Nat) : σn k 1 = 1 := by rw [σn_pow, one_pow]
theorem xxF_mul (a c : F12) : xxF (a * c) = xxF a * xxF c := mul_pow a c _
theorem gF_mul (a c : F12) : gF (a * c) = gF a * gF c := by
  unfold gF
  rw [conj_mul', inv_mul, mm2]
theorem hF_mul (a c : F12) : hF12 (a * c) = hF12 a * hF12 c := by
  unfold hF12
  rw [σn_prod, mm2]
theorem bF_mul (a c : F12) : bF (a * c) = bF a * bF c := by
  unfold bF
  rw [xxF_mul, conj_mul', σn_prod, mm2]
theorem cF_mul (a c : F12) : cF (a * c) = cF a * cF c := by
  unfold cF
  rw [xxF_mul, xxF_mul, conj_mul', σn_prod, mm3]
theorem finF_mul (a c : F12) : finF (a * c) = finF a * finF c := by
  unfold finF
  rw [gF_mul, hF_mul, mul_pow, bF_mul, cF_mul, mm2]
theorem finF_one_of {z : F12} (h : gF z = 1) : finF z = 1 := by
  have h1 : hF12 1 = 1 := by unfold hF12; rw [σn_one, one_mul]
  have h2 : xxF 1 = 1 := one_pow _
  have h3 : bF 1 = 1 := by unfold bF; rw [h2, conj_one12, σn_one, one_mul]
  have h4 : cF 1 = 1 := by unfold cF; rw [h2, h2, conj_one12, σn_one, one_mul, one_mul]
  unfold finF
  rw [h, h1, one_pow, h3, h4, one_mul]
theorem finF_flat {z : F12} (h : z.b = 0) (h0 : z ≠ 0) : finF z = 1 := by
  refine finF_one_of ?_
  have e : z.conj = z := Quad.ext' rfl (by show -z.b = z.b; rw [h, neg_zero])
  unfold gF
  rw [e, mul_inv h0]
theorem finF_zero : finF 0 = 0 := by
  have e : gF 0 = 0 := by unfold gF; rw [inv_zero, mul_zero]
  have e2 : hF12 0 = 0 := by unfold hF12; rw [mul_zero]
  unfold finF
  rw [e, e2, mul_zero]
theorem finF_ne {z : F12} (h : z ≠ 0) : finF z ≠ 0 := by
  intro e
  have := finF_mul z (inv z)
  rw [mul_inv h, e, zero_mul] at this
  have h1 : finF 1 = 1 := finF_flat rfl one_ne_zero
  rw [h1] at this
  exact one_ne_zero this
theorem finF_powN (z : F12) (n : Nat) : finF (pow z n) = pow (finF z) n := by
  induction n with
  | zero => exact finF_flat rfl one_ne_zero
  | succ n ih => rw [pow_succ, finF_mul, ih, ← pow_succ]

/-! ### numbers without w; those with w alone; those of the twisted curve -/
def Sp (z : F12) : Prop := z.b = 0
def Vp (z : F12) : Prop := z.a = 0
def Tp (z : F12) : Prop := ∃ t : F2, z = up t
theorem up_emb : Emb up where
  add x y := by
    unfold up upG
    refine Quad.ext' (Cub.ext' rfl ?_ ?_) (Cub.ext' ?_ ?_ ?_) <;> exact (add_zero 0).symm
  mul x y := (up_mul x y).symm
  neg x := by
    unfold up upG
    refine Quad.ext' (Cub.ext' rfl ?_ ?_) (Cub.ext' ?_ ?_ ?_) <;> exact neg_zero.symm
  one := rfl
  inj x y h := congrArg (fun z : F12 => z.a.a) h
theorem quad_inv_a {R : Type} [CRing R] [IsField R] {c : R} [IsField (Quad R c)] (s : R) : inv (⟨s, 0⟩ : Quad R c) = ⟨inv s, 0⟩ := by
  by_cases h : s = 0
  · subst h
    rw [show (⟨0, 0⟩ : Quad R c) = 0 from rfl, inv_zero, inv_zero]; rfl
  · exact inv_eq (by rw [Quad.coe_mul, mul_inv h]; rfl)
theorem quad_inv_b {R : Type} [CRing R] [IsField R] {c : R} [IsField (Quad R c)] (hc : c ≠ 0) (s : R) : inv (⟨0, s⟩ : Quad R c) = ⟨0, inv (c * s)⟩ := by
  by_cases h : s = 0
  · subst h
    rw [show (⟨0, 0⟩ : Quad R c) = 0 from rfl, inv_zero, mul_zero, inv_zero]; rfl
  · refine inv_eq (Quad.ext' ?_ ?_)
    · show 0 * 0 + c * (s * inv (c * s)) = 1
      rw [mul_zero, zero_add, ← mul_assoc, mul_inv (mul_ne_zero hc h)]
    · show 0 * inv (c * s) + s * 0 = 0
      rw [zero_mul, mul_zero, add_zero]
theorem vv_ne : vv ≠ 0 := fun e => no_root6 0 (by rw [e, mul_zero])
theorem halves : Halves F12 Tp Sp Vp where
  ts a h := by obtain ⟨t, rfl⟩ := h; rfl
  t1 := ⟨1, rfl⟩
  tadd a c h k := by obtain ⟨t, rfl⟩ := h; obtain ⟨s, rfl⟩ := k; exact ⟨t + s, (up_emb.add _ _).symm⟩
  tneg a h := by obtain ⟨t, rfl⟩ := h; exact ⟨-t, (up_emb.neg _).symm⟩
  tmul a c h k := by obtain ⟨t, rfl⟩ := h; obtain ⟨s, rfl⟩ := k; exact ⟨t * s, (up_emb.mul _ _).symm⟩
  tinv a h := by obtain ⟨t, rfl⟩ := h; exact ⟨inv t, (up_emb.inv _).symm⟩
  s1 := rfl
  sadd a c h k := by show a.b + c.b = 0; rw [show a.b = 0 from h, show c.b = 0 from k, add_zero]
  sneg a h := by show -a.b = 0; rw [show a.b = 0 from h, neg_zero]
  smul a c h k := by show a.a * c.b + a.b * c.a = 0; rw [show a.b = 0 from h, show c.b = 0 from k, mul_zero, zero_mul, add_zero]
  sinv a h := by
    have : a = ⟨a.a, 0⟩ := Quad.ext' rfl h
    rw [this, quad_inv_a]; rfl
  vadd a c h k := by show a.a + c.a = 0; rw [show a.a = 0 from h, show c.a = 0 from k, add_zero]
  vneg a h := by show -a.a = 0; rw [show a.a = 0 from h, neg_zero]
  sv a c h k := by show a.a * c.a + vv * (a.b * c.b) = 0; rw [show a.b = 0 from h, show c.a = 0 from k, mul_zero, zero_mul, mul_zero, add_zero]
  vv a c h k := by show a.a * c.b + a.b * c.a = 0; rw [show a.a = 0 from h, show c.a = 0 from k, mul_zero, zero_mul, add_zero]
  vinv a h := by
    have : a = ⟨0, a.b⟩ := Quad.ext' h rfl
    rw [this, quad_inv_b vv_ne]; rfl
  none a h k := Quad.ext' k h
/-- The map: Miller's numbers to pairings. -/
noncomputable def GF (z : F12) : F12 := finF z.conj
theorem conj_ne {z : F12} (h : z ≠ 0) : z.conj ≠ 0 := fun e => h (by rw [← conj_conj' z, e]; exact Quad.ext' rfl neg_zero)
theorem GF_kills : Kills F12 Sp GF where
  mul a c := by unfold GF; rw [conj_mul', finF_mul]
  one a h h0 := by
    unfold GF
    exact finF_flat (by show -a.b = 0; rw [show a.b = 0 from h, neg_zero]) (conj_ne h0)
theorem GF_pow (z : F12) (n : Nat) : GF (pow z n) = pow (GF z) n := by
  unfold GF
  rw [show (pow z n).conj = pow z.conj n by rw [conj_pow12, conj_pow12, ← pow_mul, ← pow_mul, Nat.mul_comm], finF_powN]
theorem GF_r {z : F12} (h : z ≠ 0) : pow (GF z) rP = 1 := finF_r (conj_ne h)
theorem GF_ne {z : F12} (h : z ≠ 0) : GF z ≠ 0 := finF_ne (conj_ne h)
theorem GF_σ (z : F12) : GF (σ z) = pow (GF z) pN := by rw [← frob12, GF_pow]

/-! ### the two curves in one -/
theorem up_b2 : up b2 = up (up1 b1) * (ww * ww * (ww * ww) * (ww * ww)) := by
  have e : ww * ww * (ww * ww) * (ww * ww) = pow ww 6 := by
    rw [pow_succ, pow_succ, pow_succ, pow_succ, pow_succ, pow_one]
    exact ident (env [ww]) (v0 * v0 * (v0 * v0) * (v0 * v0)) (v0 * v0 * v0 * v0 * v0 * v0) (by decide +kernel)
  rw [e, ww6, up_mul]
  exact congrArg up (κ2_inj (by decide +kernel))
def up0 (z : F) : F12 := up (up1 z)
theorem up1_emb : Emb up1 where
  add x y := Quad.ext' rfl (add_zero 0).symm
  mul x y := by
    refine Quad.ext' ?_ ?_
    · show x * y = x * y + -1 * (0 * 0)
      rw [mul_zero, mul_zero, add_zero]
    · show 0 = x * 0 + 0 * y
      rw [mul_zero, zero_mul, add_zero]
  neg x := Quad.ext' rfl neg_zero.symm
  one := rfl
  inj x y h := congrArg Quad.a h
theorem up0_emb : Emb up0 where
  add x y := by unfold up0; rw [up1_emb.add, up_emb.add]
  mul x y := by unfold up0; rw [up1_emb.mul, up_emb.mul]
  neg x := by unfold up0; rw [up1_emb.neg, up_emb.neg]
  one := rfl
  inj x y h := up1_emb.inj _ _ (up_emb.inj _ _ h)
theorem ww_ne : ww ≠ 0 := by
  intro e
  have := congrArg (fun z : F12 => z.b.a) e
  exact one_ne_zero (R := F2) this
def xw (x : F) : F12 := up0 x * (ww * ww)
def yw (y : F) : F12 := up0 y * (ww * ww * ww)
/-- A point of the base curve, on the twisted one over the greatest field. -/
def twP : Pt F → Pt F12
  | .inf => .inf
  | .aff x y => .aff (xw x) (yw y)
theorem twP_eq (p : Pt F) : twP p = scP ww (embP up0 p) := by cases p <;> rfl
theorem twP_add (p q : Pt F) : twP (padd p q) = padd (twP p) (twP q) := by
  rw [twP_eq, twP_eq, twP_eq, up0_emb.padd, scP_padd ww_ne]
abbrev b12 : F12 := up b2
theorem up0_up (x : F) : up0 x = up (up1 x) := rfl
theorem twP_on {p : Pt F} (h : On b1 p) : On b12 (twP p) := by
  have h1 := scP_on (u := ww) ((up0_emb.on p).2 h)
  have e : up0 b1 * (ww * ww * (ww * ww) * (ww * ww)) = b12 := by rw [up0_up]; exact up_b2.symm
  rw [e, ← twP_eq] at h1
  exact h1
theorem emb2_on {A : Pt F2} (h : On b2 A) : On b12 (embP up A) := (up_emb.on A).2 h
theorem cv12 : Cv F12 b12 where
  two := fun e => cv2.two (up_emb.inj _ _ (by rw [up_emb.add, up_emb.one, up_emb.zero]; exact e))
  three := fun e => cv2.three (up_emb.inj _ _ (by rw [up_emb.add, up_emb.add, up_emb.one, up_emb.zero]; exact e))
  bne := fun e => cv2.bne (up_emb.inj _ _ (by rw [up_emb.zero]; exact e))
theorem up_w2 (k : F2) : up k * (ww * ww) = ⟨⟨0, k, 0⟩, ⟨0, 0, 0⟩⟩ := by
  exact upG_w2 k
theorem up_w3 (k : F2) : up k * (ww * ww * ww) = ⟨⟨0, 0, 0⟩, ⟨0, k, 0⟩⟩ := by
  exact upG_w3 k
/-- Where lines are looked at. -/
theorem far_tw {px py : F} (h : On b1 (.aff px py)) (hx : px ≠ 0) (hy : py ≠ 0) : Far Tp Sp Vp b12 (xw px) (yw py) where
  on := twP_on h
  xs := by unfold xw up0; rw [up_w2]; rfl
  xt := by
    rintro ⟨t, e⟩
    unfold xw up0 at e
    rw [up_w2] at e
    have := congrArg (fun z : F12 => z.a.b.a) e
    exact hx this
  yv := by unfold yw up0; rw [up_w3]; rfl
  y0 := by
    intro e
    unfold yw up0 at e
    rw [up_w3] at e
    have := congrArg (fun z : F12 => z.b.b.a) e
    exact hy this
theorem tpt_emb (A : Pt F2) : TPt Tp (embP up A) := by
  cases A with
  | inf => trivial
  | aff x y => exact ⟨⟨x, rfl⟩, ⟨y, rfl⟩⟩
theorem lnF_eq (l x y : F2) (px py : F) : lnF l x y px py = lnv (up l) (up x) (up y) (xw px) (yw py) := by
  unfold lnv
  have e : up l * up x - up y - up l * xw px + yw py = up (l * x - y) + -(up (l * up1 px) * (ww * ww)) + yw py := by
    rw [up_emb.sub, up_emb.mul, up_emb.mul]
    unfold xw up0
    generalize up l = L
    generalize up x = X
    generalize up y = Y
    generalize up (up1 px) = A
    generalize yw py = B
    exact lm1 L X Y A B (ww * ww)
  rw [e]
  unfold yw up0
  rw [up_w2, up_w3]
  exact (lm2 (l * x - y) (l * up1 px) (up1 py)).symm
open Classical in
theorem stF_ell (A B : Pt F2) (px py : F) : stF A B (.aff px py) = ell (embP up A) (embP up B) (xw px) (yw py) := by
  cases A with
  | inf => rw [stF_t]; rfl
  | aff x1 y1 => cases B with
    | inf => rw [stF_q]; rfl
    | aff x2 y2 =>
      rw [stF_aff]
      show _ = ell (.aff (up x1) (up y1)) (.aff (up x2) (up y2)) (xw px) (yw py)
      rw [ell_aff]
      by_cases e : x1 = x2
      · rw [if_pos e, if_pos (up_emb.eq.2 e)]
        by_cases e2 : y1 ≠ y2 ∨ y1 = 0
        · rw [if_pos e2, if_pos (e2.elim (fun k => .inl fun k' => k (up_emb.inj _ _ k')) fun k => .inr (up_emb.eq0.2 k))]
          unfold vlF xw up0
          rw [up_w2]
          exact (lm3 x1 (up1 px) (up1 (-px)) (up1_emb.neg px)).symm
        · rw [if_neg e2, if_neg (fun k => e2 (k.elim (fun k => .inl fun k' => k (up_emb.eq.2 k')) fun k => .inr (up_emb.eq0.1 k))), lnF_eq]
          simp only [up_emb.mul, up_emb.add, up_emb.inv]
      · rw [if_neg e, if_neg (fun k => e (up_emb.inj _ _ k)), lnF_eq]
        simp only [up_emb.mul, up_emb.sub, up_emb.inv]
end Go.Proofs.YtcidhcielgnfdaaGreat
