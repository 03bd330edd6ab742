/-
  The groups of both curves: how many points there are, and what kills them.
-/
import Derived.Test.YthceokldlinjlaaGo
namespace Go.Pr
theorem prime_of_dvd {N F : Nat} (hN : 1 < N) (hF : N ≤ F * F) (h : ∀ q, Prime q → q ∣ N → F ∣ q - 1) : Prime N :=
  prime_of_large hN hF fun r hr hd => by
    have h3 := h r hr hd
    have h4 := hr.two_le
    have := Nat.le_of_dvd (by omega) h3
    omega
theorem prime_eq {q l : Nat} (hq : Prime q) (hl : Prime l) (h : q ∣ l) : q = l := by
  rcases hl.2 q h with e | e
  · exact absurd hq.two_le (by omega)
  · exact e
theorem prime_in {q l n : Nat} {P : Prop} (hq : Prime q) (hl : Prime l) (h : q ∣ l * n) (h1 : q = l → P) (h2 : q ∣ n → P) : P := by
  rcases hq.dvd_mul h with h | h
  · exact h1 (prime_eq hq hl h)
  · exact h2 h
theorem pr0 : Prime 11 := prime_trial (k := 3) (by decide +kernel) (by decide +kernel) (by decide +kernel)
theorem pr1 : Prime 23 := prime_trial (k := 4) (by decide +kernel) (by decide +kernel) (by decide +kernel)
theorem pr2 : Prime 13 := prime_trial (k := 3) (by decide +kernel) (by decide +kernel) (by decide +kernel)
theorem pr3 : Prime 10177 := prime_trial (k := 100) (by decide +kernel) (by decide +kernel) (by decide +kernel)
theorem pr4 : Prime 859267 := prime_trial (k := 926) (by decide +kernel) (by decide +kernel) (by decide +kernel)
theorem pr5 : Prime 52437899 := prime_trial (k := 7241) (by decide +kernel) (by decide +kernel) (by decide +kernel)
theorem pr6 : Prime 2713 := prime_trial (k := 52) (by decide +kernel) (by decide +kernel) (by decide +kernel)
theorem pr7 : Prime 11953 := prime_trial (k := 109) (by decide +kernel) (by decide +kernel) (by decide +kernel)
theorem pr8 : Prime 262069 := prime_trial (k := 511) (by decide +kernel) (by decide +kernel) (by decide +kernel)
theorem pr9 : Prime 254760293 := prime_trial (k := 15961) (by decide +kernel) (by decide +kernel) (by decide +kernel)
theorem pr10 : Prime 2529403 := prime_trial (k := 1590) (by decide +kernel) (by decide +kernel) (by decide +kernel)
theorem pr11 : Prime 2508409 := prime_trial (k := 1583) (by decide +kernel) (by decide +kernel) (by decide +kernel)
theorem pr12 : Prime 906349 := prime_trial (k := 952) (by decide +kernel) (by decide +kernel) (by decide +kernel)
theorem pr13 : Prime 52435875175126190479447740508185965837690552500527637822603658699938581184513 := prime_of_dvd (F := 254760293 * (52437899 * (2529403 * (2508409 * (906349 * (859267)))))) (by decide +kernel) (by decide +kernel) fun q hr hd => (Nat.Coprime.mul_dvd_of_dvd_of_dvd (by decide +kernel) (pock (N := 52435875175126190479447740508185965837690552500527637822603658699938581184513) (b := 47291686569396616499156425462872067838946887208699558622576110439061623524034) (g := 28) (by decide +kernel) pr9 (by decide +kernel) (by decide +kernel) (by decide +kernel) hr hd) (Nat.Coprime.mul_dvd_of_dvd_of_dvd (by decide +kernel) (pock (N := 52435875175126190479447740508185965837690552500527637822603658699938581184513) (b := 40744907299244235407352508676493668180470552603717615087053811498945141922481) (g := 26) (by decide +kernel) pr5 (by decide +kernel) (by decide +kernel) (by decide +kernel) hr hd) (Nat.Coprime.mul_dvd_of_dvd_of_dvd (by decide +kernel) (pock (N := 52435875175126190479447740508185965837690552500527637822603658699938581184513) (b := 47059450156245510142419071452461480537773589021230600566513559274632232753225) (g := 22) (by decide +kernel) pr10 (by decide +kernel) (by decide +kernel) (by decide +kernel) hr hd) (Nat.Coprime.mul_dvd_of_dvd_of_dvd (by decide +kernel) (pock (N := 52435875175126190479447740508185965837690552500527637822603658699938581184513) (b := 18373012691511662944661031135262503793624804446979480243025351198939613928965) (g := 22) (by decide +kernel) pr11 (by decide +kernel) (by decide +kernel) (by decide +kernel) hr hd) (Nat.Coprime.mul_dvd_of_dvd_of_dvd (by decide +kernel) (pock (N := 52435875175126190479447740508185965837690552500527637822603658699938581184513) (b := 15769418934976494890171147995125343002726346209648636226952077001274280108622) (g := 20) (by decide +kernel) pr12 (by decide +kernel) (by decide +kernel) (by decide +kernel) hr hd) (pock (N := 52435875175126190479447740508185965837690552500527637822603658699938581184513) (b := 43027507203922512242553617092411604239850773065986444709280750291974666585789) (g := 20) (by decide +kernel) pr4 (by decide +kernel) (by decide +kernel) (by decide +kernel) hr hd))))))
theorem pr14 : Prime 1367711 := prime_trial (k := 1169) (by decide +kernel) (by decide +kernel) (by decide +kernel)
theorem pr15 : Prime 541 := prime_trial (k := 23) (by decide +kernel) (by decide +kernel) (by decide +kernel)
theorem pr16 : Prime 12192593745179 := prime_of_dvd (F := 1367711 * (541)) (by decide +kernel) (by decide +kernel) fun q hr hd => (Nat.Coprime.mul_dvd_of_dvd_of_dvd (by decide +kernel) (pock (N := 12192593745179) (b := 5796217470442) (g := 21) (by decide +kernel) pr14 (by decide +kernel) (by decide +kernel) (by decide +kernel) hr hd) (pock (N := 12192593745179) (b := 887803650361) (g := 10) (by decide +kernel) pr15 (by decide +kernel) (by decide +kernel) (by decide +kernel) hr hd))
theorem pr17 : Prime 512088937297519 := prime_step (Q := 12192593745179) (b := 4398046511104) (g := 44) (by decide +kernel) pr16 (by decide +kernel) (by decide +kernel) (by decide +kernel) (by decide +kernel)
theorem pr18 : Prime 1857858664515398933 := prime_step (Q := 512088937297519) (b := 364711527723577204) (g := 49) (by decide +kernel) pr17 (by decide +kernel) (by decide +kernel) (by decide +kernel) (by decide +kernel)
theorem pr19 : Prime 22294303974184787197 := prime_step (Q := 1857858664515398933) (b := 4096) (g := 61) (by decide +kernel) pr18 (by decide +kernel) (by decide +kernel) (by decide +kernel) (by decide +kernel)
theorem pr20 : Prime 19931107752921199754119 := prime_step (Q := 22294303974184787197) (b := 3685394013329786069740) (g := 65) (by decide +kernel) pr19 (by decide +kernel) (by decide +kernel) (by decide +kernel) (by decide +kernel)
theorem pr21 : Prime 81162125843606155545104998607900118769099783 := prime_step (Q := 19931107752921199754119) (b := 37916707211710977199640885181451238404651892) (g := 75) (by decide +kernel) pr20 (by decide +kernel) (by decide +kernel) (by decide +kernel) (by decide +kernel)
theorem pr22 : Prime 26935696298915610574513298451669528361624243820491956655650666425177 := prime_step (Q := 81162125843606155545104998607900118769099783) (b := 6496585956164446936996240791050089041049976888615541788678518946891) (g := 146) (by decide +kernel) pr21 (by decide +kernel) (by decide +kernel) (by decide +kernel) (by decide +kernel)
theorem pr23 : Prime 4638704574076146691498289350639807119782054683906549022985642612861209609656189848749536921852444848596916990932297 := prime_step (Q := 26935696298915610574513298451669528361624243820491956655650666425177) (b := 885641044549642137573437696400711361154856893636132131408553329775163670270687198825513889479936152959758207143038) (g := 224) (by decide +kernel) pr22 (by decide +kernel) (by decide +kernel) (by decide +kernel) (by decide +kernel)
theorem pr24 : Prime 402096035359507321594726366720466575392706800671181159425656785868777272553337714697862511267018014931937703598282857976535744623203249 := prime_step (Q := 4638704574076146691498289350639807119782054683906549022985642612861209609656189848749536921852444848596916990932297) (b := 18784536854436767134371734921310204285470312091340463237014958786160394233721130856119444449548849612285628029278311866262167948819845) (g := 381) (by decide +kernel) pr23 (by decide +kernel) (by decide +kernel) (by decide +kernel) (by decide +kernel)
theorem prS3 : Prime 3 := prime_trial (k := 1) (by decide +kernel) (by decide +kernel) (by decide +kernel)
end Go.Pr
namespace Go.Proofs.Ythceokldlinjlaa
open Go Go.Eng Go.RowKit Go.Wd Go.Alg Go.Pr

theorem Kinj {x y : F} (h : x ≠ y) : κF1 x ≠ κF1 y := fun e => h (κF1_inj e)
def sgF (y : F) : Nat := match Nat.ble (y.val * 2) pN with
  | true => 0
  | false => 1
theorem sgF_lt (y : F) : sgF y < 2 := by unfold sgF; split <;> omega
theorem neg_val_F {y : F} (h : y ≠ 0) : (-y).val = pN - y.val := by
  have h0 : y.val ≠ 0 := fun e => h (Z.ext (e.trans (Nat.zero_mod pN).symm))
  have := y.lt
  show (pN - y.val) % pN = pN - y.val
  exact Nat.mod_eq_of_lt (by omega)
theorem sg_aux {n v : Nat} (ho : n % 2 = 1) (hlt : v < n) (h0 : v ≠ 0) (h : (match Nat.ble (v * 2) n with
  | true => 0
  | false => 1) = (match Nat.ble ((n - v) * 2) n with
  | true => 0
  | false => 1)) : False := by
  cases h1 : Nat.ble (v * 2) n with
  | true =>
    cases h2 : Nat.ble ((n - v) * 2) n with
    | true =>
      have h1 := Nat.le_of_ble_eq_true h1
      have h2 := Nat.le_of_ble_eq_true h2
      omega
    | false => rw [h1, h2] at h; cases h
  | false =>
    cases h2 : Nat.ble ((n - v) * 2) n with
    | true => rw [h1, h2] at h; cases h
    | false =>
      have h1 : ¬ v * 2 ≤ n := fun e => by rw [Nat.ble_eq_true_of_le e] at h1; cases h1
      have h2 : ¬ (n - v) * 2 ≤ n := fun e => by rw [Nat.ble_eq_true_of_le e] at h2; cases h2
      omega
theorem sgF_neg {y : F} (h : sgF y = sgF (-y)) : y = 0 := by
  refine Classical.byContradiction fun h0 => ?_
  have hn := neg_val_F h0
  unfold sgF at h
  rw [hn] at h
  exact sg_aux pN_odd y.lt (fun e => h0 (Z.ext (e.trans (Nat.zero_mod pN).symm))) h
def sgF2 (y : F2) : Nat := match Nat.beq y.a.val 0 with
  | true => sgF y.b
  | false => sgF y.a
theorem sgF2_lt (y : F2) : sgF2 y < 2 := by unfold sgF2; split <;> exact sgF_lt _
theorem val_zero_F {y : F} : y.val = 0 ↔ y = 0 := ⟨fun e => Z.ext (e.trans (Nat.zero_mod pN).symm), fun e => by rw [e]; exact Nat.zero_mod pN⟩
theorem neg_zero_iff {y : F} : -y = 0 ↔ y = 0 := ⟨fun e => by rw [← neg_neg y, e, neg_zero], fun e => by rw [e, neg_zero]⟩
theorem sgF2_neg {y : F2} (h : sgF2 y = sgF2 (-y)) : y = 0 := by
  unfold sgF2 at h
  have ea : (-y).a = -y.a := rfl
  have eb : (-y).b = -y.b := rfl
  by_cases h0 : y.a = 0
  · have e1 : Nat.beq y.a.val 0 = true := by rw [Nat.beq_eq]; exact val_zero_F.2 h0
    have e2 : Nat.beq (-y).a.val 0 = true := by rw [Nat.beq_eq, ea]; exact val_zero_F.2 (neg_zero_iff.2 h0)
    rw [e1, e2, eb] at h
    exact Quad.ext' h0 (sgF_neg h)
  · have e1 : Nat.beq y.a.val 0 = false := by
      cases hb : Nat.beq y.a.val 0 with
      | false => rfl
      | true => exact absurd (val_zero_F.1 (Nat.eq_of_beq_eq_true hb)) h0
    have e2 : Nat.beq (-y).a.val 0 = false := by
      cases hb : Nat.beq (-y).a.val 0 with
      | false => rfl
      | true => exact absurd (neg_zero_iff.1 (val_zero_F.1 (Nat.eq_of_beq_eq_true hb))) h0
    rw [e1, e2, ea] at h
    exact absurd (sgF_neg h) h0
/-- A point's number. -/
def enc1 : Pt F → Nat
  | .inf => 2 * pN
  | .aff x y => 2 * x.val + sgF y
def enc2 : Pt F2 → Nat
  | .inf => 2 * (pN * pN)
  | .aff x y => 2 * (x.a.val + pN * x.b.val) + sgF2 y
theorem lt_sq {a c n : Nat} (ha : a < n) (hc : c < n) : a + n * c < n * n := by
  have : n * (c + 1) ≤ n * n := Nat.mul_le_mul_left n hc
  rw [Nat.mul_add] at this
  omega
theorem enc1_lt (q : Pt F) : enc1 q < 2 * pN + 1 := by
  cases q with
  | inf => exact Nat.lt_succ_self _
  | aff x y =>
    have := sgF_lt y
    have := x.lt
    show 2 * x.val + sgF y < _
    omega
theorem enc2_lt (q : Pt F2) : enc2 q < 2 * (pN * pN) + 1 := by
  cases q with
  | inf => exact Nat.lt_succ_self _
  | aff x y =>
    have := sgF2_lt y
    have := lt_sq x.a.lt x.b.lt
    show 2 * (x.a.val + pN * x.b.val) + sgF2 y < _
    omega
theorem enc1_inj (q s : Pt F) (hq : On b1 q) (hs : On b1 s) (h : enc1 q = enc1 s) : q = s := by
  cases q with
  | inf =>
    cases s with
    | inf => rfl
    | aff x y =>
      have h : 2 * pN = 2 * x.val + sgF y := h
      have := sgF_lt y
      have := x.lt
      omega
  | aff x y =>
    cases s with
    | inf =>
      have h : 2 * x.val + sgF y = 2 * pN := h
      have := sgF_lt y
      have := x.lt
      omega
    | aff x' y' =>
      have h : 2 * x.val + sgF y = 2 * x'.val + sgF y' := h
      have k1 := sgF_lt y
      have k2 := sgF_lt y'
      have hx : x = x' := Z.ext (by omega)
      subst hx
      have hy : sgF y = sgF y' := by omega
      rcases same_x hq hs rfl with e | e
      · rw [e]
      · rw [e] at hy
        rw [e, sgF_neg hy, neg_zero]
theorem enc2_inj (q s : Pt F2) (hq : On b2 q) (hs : On b2 s) (h : enc2 q = enc2 s) : q = s := by
  cases q with
  | inf =>
    cases s with
    | inf => rfl
    | aff x y =>
      have h : 2 * (pN * pN) = 2 * (x.a.val + pN * x.b.val) + sgF2 y := h
      have := sgF2_lt y
      have := lt_sq x.a.lt x.b.lt
      omega
  | aff x y =>
    cases s with
    | inf =>
      have h : 2 * (x.a.val + pN * x.b.val) + sgF2 y = 2 * (pN * pN) := h
      have := sgF2_lt y
      have := lt_sq x.a.lt x.b.lt
      omega
    | aff x' y' =>
      have h : 2 * (x.a.val + pN * x.b.val) + sgF2 y = 2 * (x'.a.val + pN * x'.b.val) + sgF2 y' := h
      have k1 := sgF2_lt y
      have k2 := sgF2_lt y'
      have hx : x.a.val + pN * x.b.val = x'.a.val + pN * x'.b.val := by omega
      have ha : x.a = x'.a := Z.ext (by
        have e := congrArg (· % pN) hx
        simp only [Nat.add_mul_mod_self_left] at e
        rwa [Nat.mod_eq_of_lt x.a.lt, Nat.mod_eq_of_lt x'.a.lt] at e)
      have hb : x.b = x'.b := Z.ext (by
        rw [ha] at hx
        exact Nat.eq_of_mul_eq_mul_left pN_pos (Nat.add_left_cancel hx))
      have hx : x = x' := Quad.ext' ha hb
      subst hx
      have hy : sgF2 y = sgF2 y' := by omega
      rcases same_x hq hs rfl with e | e
      · rw [e]
      · rw [e] at hy
        rw [e, sgF2_neg hy, neg_zero]
/-! ### no cubes -/
def third1 : Nat := 0x8ab05f8bdd54cde190937e76bc3e447cc27c3d6fbd7063fcd104635a790520c0a395554e5c6aaaa9354ffffffffe38e
theorem third1_ok : pN - 1 = 3 * third1 := by decide +kernel
theorem pow_p_1 {z : F} (hz : z ≠ 0) : pow z (pN - 1) = 1 := by
  have h := pow_p z
  have e : pow z pN = pow z (pN - 1 + 1) := congrArg (pow z) (by have := pN_pos; omega)
  rw [e, pow_succ] at h
  refine mul_cancel hz ?_
  rw [mul_comm, h, mul_one]
theorem b1_third : pow (-b1) third1 ≠ 1 := by
  rw [← powB_eq (-b1) 380 third1 (by decide +kernel)]
  intro h
  have : κF1 (powB (1 : F) (-b1) 380 third1) = κF1 1 := by rw [h]
  revert this
  decide +kernel
theorem nocube1 (x : F) : x * x * x ≠ -b1 := by
  intro h
  have hx : x ≠ 0 := fun e => by
    rw [e, mul_zero] at h
    exact cv1.bne (neg_zero_iff.1 h.symm)
  apply b1_third
  have e : pow x 3 = -b1 := by rw [← h, pow_succ, pow_succ, pow_one]
  rw [← e, ← pow_mul, ← third1_ok]
  exact pow_p_1 hx
theorem b2_third : pow (-b2) third2 ≠ 1 := by
  rw [← powB_eq (-b2) 762 third2 (by decide +kernel)]
  intro h
  have : (powB (1 : F2) (-b2) 762 third2).a.val = (1 : F2).a.val := by rw [h]
  revert this
  decide +kernel
theorem nocube2 (x : F2) : x * x * x ≠ -b2 := by
  intro h
  have hx : x ≠ 0 := fun e => by
    rw [e, mul_zero] at h
    have h2 : b2 = 0 := by rw [← neg_neg b2, ← h, neg_zero]
    exact cv2.bne h2
  apply b2_third
  have e : pow x 3 = -b2 := by rw [← h, pow_succ, pow_succ, pow_one]
  rw [← e, ← pow_mul, ← third2_ok]
  exact pow_p2_1 hx
instance : Cv F b1 := cv1
instance : Cv F2 b2 := cv2

/-! ### the group of curve 1 -/
def n1 : Nat := 793479390729215512516507951283169066088130679960393952059283337873017453583023682367384822284289
def m1 : Nat := 5044125407647214251
def be1 : F := φ betaN
theorem be1_r : be1 * be1 + be1 + 1 = 0 := κF1_inj (by decide +kernel)
def gP1 : P1 := ((0xf7895fdddb0c70ed40e9f4e6aa07492e69b625dba30ef8e0d271d32cabb624eecf33f65bd99463478b42f90b8a0417d, 0xc41386f78a8be5e843ae57af440ea2e102d3b509c9252b6f7bb920ee83c1f05aa2f54593706f2b3adee9289c97f0290), false)
theorem gP1_on : onB1 gP1 = true := by rw [onC1_eq]; decide +kernel
theorem gP1_On : On b1 (ιP1 gP1) := (onB1_iff _).1 gP1_on
def gx1 : F := φ gP1.1.1
def gy1 : F := φ gP1.1.2
theorem ιgP1 : ιP1 gP1 = .aff gx1 gy1 := rfl
noncomputable def gG1 : Gp b1 := ⟨ιP1 gP1, gP1_On⟩
noncomputable def bG1 : Gp b1 := ⟨ιP1 base1, base1_On⟩
theorem n1_lt : n1 < 2 ^ 319 := by decide +kernel
theorem gG1_n : nsm n1 gG1 = Ab.zero := gp_zero.2 (by rw [nsm_val]; exact jmul_inf cv1 tz1_iff gP1_On 319 n1_lt (by decide +kernel))
def k1_0 : Nat := 264493130243071837505502650427723022029376893320131317353094445957672484527674560789128274094763
theorem k1_0_eq : n1 / 3 = k1_0 := by decide +kernel
theorem k1_0_lt : k1_0 < 2 ^ 319 := by decide +kernel
def cx1_0 : F := φ 0x0
def cy1_0 : F := φ 0x1a0111ea397fe69a4b1ba7b6434bacd764774b84f38512bf6730d2a0f6b0f6241eabfffeb153ffffb9feffffffffaaa9
theorem c1_0 : (nsm k1_0 gG1).1 = .aff cx1_0 cy1_0 := by rw [nsm_val]; exact jmul_is cv1 tz1_iff gP1_On 319 k1_0_lt (by decide +kernel)
theorem c1_0_ne : nsm (n1 / 3) gG1 ≠ Ab.zero := by rw [k1_0_eq]; exact ne_of_aff c1_0
def k1_1 : Nat := 72134490066292319319682541025742642371648243632763086550843939806637950325729425669762256571299
theorem k1_1_eq : n1 / 11 = k1_1 := by decide +kernel
theorem k1_1_lt : k1_1 < 2 ^ 319 := by decide +kernel
def cx1_1 : F := φ 0xb9529a7b23788075a6c33c7b77b3dcf4da4f58af5310f32e739a6c653a5a8f7cf7f19a297bd6a8f3f19ea82cf9419
def cy1_1 : F := φ 0x17144ba4a71329545905f3bc2b6c9f5d1391ca355d534dbc747e105b7d8aed89d9802ee2b8b518d40fe57e066076fdf9
theorem c1_1 : (nsm k1_1 gG1).1 = .aff cx1_1 cy1_1 := by rw [nsm_val]; exact jmul_is cv1 tz1_iff gP1_On 319 k1_1_lt (by decide +kernel)
theorem c1_1_ne : nsm (n1 / 11) gG1 ≠ Ab.zero := by rw [k1_1_eq]; exact ne_of_aff c1_1
def k1_2 : Nat := 77967907116951509532918143979873151821571256751537186996097409636731596107204842524062574657
theorem k1_2_eq : n1 / 10177 = k1_2 := by decide +kernel
theorem k1_2_lt : k1_2 < 2 ^ 319 := by decide +kernel
def cx1_2 : F := φ 0xd1bbae3a1bd74ce9cd836e8bc17c673d72f51de5296d2b2a05f2e35e35a251c19a8db48146a30bbaf911d3447d1336e
def cy1_2 : F := φ 0x5356c4c2203d2e761b6c57cb03775a4cbfe4a63fd31967e4335e5a02f8decae32b535738fbb8ff0492fa5c1d4c04f42
theorem c1_2 : (nsm k1_2 gG1).1 = .aff cx1_2 cy1_2 := by rw [nsm_val]; exact jmul_is cv1 tz1_iff gP1_On 319 k1_2_lt (by decide +kernel)
theorem c1_2_ne : nsm (n1 / 10177) gG1 ≠ Ab.zero := by rw [k1_2_eq]; exact ne_of_aff c1_2
def k1_3 : Nat := 923437523760618658131300225986997133705973440106967859884393719150179692206291737454580267
theorem k1_3_eq : n1 / 859267 = k1_3 := by decide +kernel
theorem k1_3_lt : k1_3 < 2 ^ 319 := by decide +kernel
def cx1_3 : F := φ 0x145f495374323f27ef6e2af79d83d8972f444a7387a7bb706239b9a49d89811e247f39d57c1a4d9380805e90eb70ee44
def cy1_3 : F := φ 0xe6c73743af74050eca3d614e03d192aa5a9a849397615889c308c005f04aa7a3cd6c954b7122deaeb5aaf454b9bad7b
theorem c1_3 : (nsm k1_3 gG1).1 = .aff cx1_3 cy1_3 := by rw [nsm_val]; exact jmul_is cv1 tz1_iff gP1_On 319 k1_3_lt (by decide +kernel)
theorem c1_3_ne : nsm (n1 / 859267) gG1 ≠ Ab.zero := by rw [k1_3_eq]; exact ne_of_aff c1_3
def k1_4 : Nat := 15131792193451829801886378996289860241885943598930116404154242294738342845944756146072611
theorem k1_4_eq : n1 / 52437899 = k1_4 := by decide +kernel
theorem k1_4_lt : k1_4 < 2 ^ 319 := by decide +kernel
def cx1_4 : F := φ 0x11ec11af1cff39c560ea87610be24017d90a0861955866c7caae286344242525e0d6360aa9aac45d942fff390febbcba
def cy1_4 : F := φ 0x63ffb8a0dc377a990ee1b5cedefbff304244f549288d601acbf4fe7f73892981bfe77d3e673193f2977a40f4da66d00
theorem c1_4 : (nsm k1_4 gG1).1 = .aff cx1_4 cy1_4 := by rw [nsm_val]; exact jmul_is cv1 tz1_iff gP1_On 319 k1_4_lt (by decide +kernel)
theorem c1_4_ne : nsm (n1 / 52437899) gG1 ≠ Ab.zero := by rw [k1_4_eq]; exact ne_of_aff c1_4
def k1_5 : Nat := 15132376222941642753
theorem k1_5_eq : n1 / 52435875175126190479447740508185965837690552500527637822603658699938581184513 = k1_5 := by decide +kernel
theorem k1_5_lt : k1_5 < 2 ^ 319 := by decide +kernel
def cx1_5 : F := φ 0x2c8135993f651b6b8ead18769e4ecd957d4f5cdf75df4cae8d16c62bfba117270ad2dbe52e57d691f67e4aed8f6cd16
def cy1_5 : F := φ 0x7b7d5c1705dc59d9ea2610d4aa5b200d6d3cb6bfb6569286ff23fdb5ff005f2a36dd5d990c1fc95f2e7dbec95c978ed
theorem c1_5 : (nsm k1_5 gG1).1 = .aff cx1_5 cy1_5 := by rw [nsm_val]; exact jmul_is cv1 tz1_iff gP1_On 319 k1_5_lt (by decide +kernel)
theorem c1_5_ne : nsm (n1 / 52435875175126190479447740508185965837690552500527637822603658699938581184513) gG1 ≠ Ab.zero := by rw [k1_5_eq]; exact ne_of_aff c1_5
theorem n1_fac : n1 = 3 * (11 * (10177 * (859267 * (52437899 * (52435875175126190479447740508185965837690552500527637822603658699938581184513))))) := by decide +kernel
theorem ord1 (q : Nat) (hq : Prime q) (h : q ∣ n1) : nsm (n1 / q) gG1 ≠ Ab.zero := by
  rw [n1_fac] at h
  refine prime_in hq prS3 h (fun e => by rw [e]; exact c1_0_ne) (fun h => ?_)
  refine prime_in hq pr0 h (fun e => by rw [e]; exact c1_1_ne) (fun h => ?_)
  refine prime_in hq pr3 h (fun e => by rw [e]; exact c1_2_ne) (fun h => ?_)
  refine prime_in hq pr4 h (fun e => by rw [e]; exact c1_3_ne) (fun h => ?_)
  refine prime_in hq pr5 h (fun e => by rw [e]; exact c1_4_ne) (fun h => ?_)
  rw [prime_eq hq pr13 h]; exact c1_5_ne
theorem om1_om : Om (omG be1 cv1 be1_r) := omG_om be1_r
theorem hG1_n : nsm n1 (omG be1 cv1 be1_r gG1) = Ab.zero := by rw [← om1_om.nsm, gG1_n]; rfl
theorem no1_1 (c : Nat) : nsm (n1 / 11) (omG be1 cv1 be1_r gG1) ≠ nsm c (nsm (n1 / 11) gG1) := by
  rw [← om1_om.nsm]
  exact om1_om.inert pr0 (nsm_ll (by decide +kernel) gG1_n) c1_1_ne inert11 c
def s1_2 : Nat := 4774
theorem s1_2_ne : smul s1_2 (.aff cx1_2 cy1_2) ≠ .aff (cx1_2 * be1) (-cy1_2) := jmul_isnt cv1 tz1_iff (on_of c1_2) 14 (by decide +kernel) (by decide +kernel)
def t1_2 : Nat := 5404
theorem t1_2_ne : smul t1_2 (.aff cx1_2 cy1_2) ≠ .aff (cx1_2 * be1) (-cy1_2) := jmul_isnt cv1 tz1_iff (on_of c1_2) 14 (by decide +kernel) (by decide +kernel)
theorem no1_2 (c : Nat) : nsm (n1 / 10177) (omG be1 cv1 be1_r gG1) ≠ nsm c (nsm (n1 / 10177) gG1) := by
  rw [← om1_om.nsm]
  refine om1_om.split (s := s1_2) (t := t1_2) (k := 2535) pr3 (nsm_ll (by decide +kernel) gG1_n) c1_2_ne (by decide +kernel) (by decide +kernel) ?_ ?_ c <;> rw [k1_2_eq]
  · exact split_ne be1_r c1_2 s1_2_ne
  · exact split_ne be1_r c1_2 t1_2_ne
def s1_3 : Nat := 119572
theorem s1_3_ne : smul s1_3 (.aff cx1_3 cy1_3) ≠ .aff (cx1_3 * be1) (-cy1_3) := jmul_isnt cv1 tz1_iff (on_of c1_3) 20 (by decide +kernel) (by decide +kernel)
def t1_3 : Nat := 739696
theorem t1_3_ne : smul t1_3 (.aff cx1_3 cy1_3) ≠ .aff (cx1_3 * be1) (-cy1_3) := jmul_isnt cv1 tz1_iff (on_of c1_3) 20 (by decide +kernel) (by decide +kernel)
theorem no1_3 (c : Nat) : nsm (n1 / 859267) (omG be1 cv1 be1_r gG1) ≠ nsm c (nsm (n1 / 859267) gG1) := by
  rw [← om1_om.nsm]
  refine om1_om.split (s := s1_3) (t := t1_3) (k := 102933) pr4 (nsm_ll (by decide +kernel) gG1_n) c1_3_ne (by decide +kernel) (by decide +kernel) ?_ ?_ c <;> rw [k1_3_eq]
  · exact split_ne be1_r c1_3 s1_3_ne
  · exact split_ne be1_r c1_3 t1_3_ne
theorem no1_4 (c : Nat) : nsm (n1 / 52437899) (omG be1 cv1 be1_r gG1) ≠ nsm c (nsm (n1 / 52437899) gG1) := by
  rw [← om1_om.nsm]
  exact om1_om.inert pr5 (nsm_ll (by decide +kernel) gG1_n) c1_4_ne (inert_of (k := 17479299) pr5 (by decide +kernel) (by decide +kernel)) c
theorem m1_fac : m1 = 11 * (10177 * (859267 * (52437899))) := by decide +kernel
theorem ind1 (a c : Nat) (e : Ab.add (nsm a gG1) (nsm c (omG be1 cv1 be1_r gG1)) = Ab.zero) : m1 ∣ c := by
  rw [m1_fac]
  exact (Nat.Coprime.mul_dvd_of_dvd_of_dvd (by decide +kernel) (ind_at pr0 (by decide +kernel) gG1_n hG1_n no1_1 e) (Nat.Coprime.mul_dvd_of_dvd_of_dvd (by decide +kernel) (ind_at pr3 (by decide +kernel) gG1_n hG1_n no1_2 e) (Nat.Coprime.mul_dvd_of_dvd_of_dvd (by decide +kernel) (ind_at pr4 (by decide +kernel) gG1_n hG1_n no1_3 e) (ind_at pr5 (by decide +kernel) gG1_n hG1_n no1_4 e))))
/-- All points of curve 1. -/
theorem grp1 (q : Gp b1) : nsm n1 q = Ab.zero ∧ ∃ a c, nsm 2 q = Ab.add (nsm a gG1) (nsm c (omG be1 cv1 be1_r gG1)) :=
  grp_all be1_r nocube1 enc1 (2 * pN + 1) (fun q _ => enc1_lt q) enc1_inj gG1 n1 m1 (by decide +kernel) (by decide +kernel) gG1_n ind1 ord1 (by decide +kernel) q
theorem hb1 : nsm (n1 / rNum) gG1 = nsm (n1 / rNum) bG1 := by
  rw [show n1 / rNum = k1_5 from k1_5_eq]
  refine Gp.ext (c1_5.trans ?_)
  rw [nsm_val]
  exact (jmul_is cv1 tz1_iff base1_On 319 k1_5_lt (by decide +kernel)).symm
def lam1 : Nat := 52435875175126190479447740508185965837461563690374988244538805122978187051009
theorem fb1 : omG be1 cv1 be1_r bG1 = nsm lam1 bG1 := by
  refine Gp.ext ?_
  rw [nsm_val]
  refine Eq.trans (b := Pt.aff (bx1 * be1) (by1 * 1)) (by kernel_rfl) ?_
  rw [mul_one]
  exact (jmul_is cv1 tz1_iff base1_On 255 (by decide +kernel) (by decide +kernel)).symm
/-- What r kills, on curve 1, is a multiple of the base. -/
theorem cycG1 (q : Gp b1) (hq : nsm rNum q = Ab.zero) : ∃ k, q = nsm k bG1 := by
  obtain ⟨_, a, c, e⟩ := grp1 q
  exact cyc_of om1_om (t := 52435875175126190475982595682112313519143271779992544622398259808133613355009) (w := 15132376222941642752) (s := 26217937587563095239723870254092982918845276250263818911301829349969290592257) (by decide +kernel) hb1 fb1 (by decide +kernel) hq e
theorem all1 {q : Pt F} (hq : On b1 q) : smul n1 q = .inf := by
  have := (grp1 (Gp.of hq)).1
  rw [gp_zero, nsm_val] at this
  exact this
theorem cyc1 {q : Pt F} (hq : Tor b1 rNum q) : ∃ k, q = smul k (ιP1 base1) := by
  obtain ⟨k, h⟩ := cycG1 (Gp.of hq.on) (gp_zero.2 (by rw [nsm_val]; exact hq.tor))
  exact ⟨k, by have := congrArg Subtype.val h; rwa [nsm_val] at this⟩
/-! ### the group of curve 2 -/
def n2 : Nat := 53576194808460553217203172723474824808344883275353018929305633902963132938098184426089150766896967993227272192442055963012237813401673323498414509448806171002635876817216134661849632732818260738617639084599158761113588926055983
def m2 : Nat := 299
def be2 : F2 := ι2 (betaN, 0)
theorem be2_r : be2 * be2 + be2 + 1 = 0 := κ2_inj (by decide +kernel)
def gP2 : P2 := (((0x158e357e76c130a68a3a460e502e0fb410278ebd6e95035a5d561b5e7736b8055c57e405c1b2e46618c0e7a3a51bf6e4, 0x6951c7ab57aa1d3cc5e91d168bf20ce9021f86fa122e7009dfe04bc27a604d3c43e11a79e2f1bf7b1345dc770617bbc), (0xde65dcf072c2b5aaa4a4bebccba2d0c70b059f64673aae116855b7d6615d92f53a313c761fb81f706d815a1abdc97eb, 0x4869dbae0373300d00c235f80e77dc2c3a1b008535f8bf33cb3d5ba4a1b16e8879e5499161ddd5b305136b7259e39c5)), false)
theorem gP2_on : onB2 gP2 = true := by rw [onC2_eq]; decide +kernel
theorem gP2_On : On b2 (ιP2 gP2) := (onB2_iff _).1 gP2_on
def gx2 : F2 := ι2 gP2.1.1
def gy2 : F2 := ι2 gP2.1.2
theorem ιgP2 : ιP2 gP2 = .aff gx2 gy2 := rfl
noncomputable def gG2 : Gp b2 := ⟨ιP2 gP2, gP2_On⟩
noncomputable def bG2 : Gp b2 := ⟨ιP2 base2, base2_On⟩
theorem n2_lt : n2 < 2 ^ 754 := by decide +kernel
theorem gG2_n : nsm n2 gG2 = Ab.zero := gp_zero.2 (by rw [nsm_val]; exact jmul_inf cv2 tz2_iff gP2_On 754 n2_lt (by decide +kernel))
def k2_0 : Nat := 4121245754496965632092551747959601908334221790411770686869664146381779456776783417391473135915151384094405553264773535616325985646282563346031885342215859307895067447478164204757664056370635441432126083430704520085660686619691
theorem k2_0_eq : n2 / 13 = k2_0 := by decide +kernel
theorem k2_0_lt : k2_0 < 2 ^ 754 := by decide +kernel
def cx2_0 : F2 := ι2 (0x10422f29187f924f1bc16505a2c4b6aea409a32707d0fb6b379f23786ba180c1aae2bd024e8ebfc6d84cb718a1454023, 0x18b38e3bbff701ebdcb70315d8bb27dbe9cee8837528ad5322629f8053f0a832ae0719c724d3f46af7c3ce910030cb86)
def cy2_0 : F2 := ι2 (0xf00bd6f7392494833550f06200e0d5a0d9159d30c810383f064c8d74272fcaf426a9ae1ca8fafa1fb02351f3fbeec1d, 0xb7a6e969c4df4aecc8f84f17208828b90e178dd0d57236ca1f4f06cae37802caf9fda06522debbd4b8c30e0bafb455d)
theorem c2_0 : (nsm k2_0 gG2).1 = .aff cx2_0 cy2_0 := by rw [nsm_val]; exact jmul_is cv2 tz2_iff gP2_On 754 k2_0_lt (by decide +kernel)
theorem c2_0_ne : nsm (n2 / 13) gG2 ≠ Ab.zero := by rw [k2_0_eq]; exact ne_of_aff c2_0
def k2_1 : Nat := 2329399774280893618139268379281514122101951446754479083882853647954918823395573235916919598560737738835968356193132867957053817973985796673844109106469833521853733774661571072254331857948620032113810394982572120048416909828521
theorem k2_1_eq : n2 / 23 = k2_1 := by decide +kernel
theorem k2_1_lt : k2_1 < 2 ^ 754 := by decide +kernel
def cx2_1 : F2 := ι2 (0xe7aad6e3cae10c7616a2ecd8414254f6ccb53c74cdb9db669746390d0b8ba6976fe046b6f2897767869057e7955680, 0xc2df218064f9d234545c3e7d34d8444a9de47b51a9a8148cb8522cd09abf000d3c8b5c1c12a1f4d9ac9d513c528ef4e)
def cy2_1 : F2 := ι2 (0x8936717103a365196bd3258155844055106958ebba684edc660d668cd2b056b802bdd7c7e908381509e95e0748acf03, 0xfff044d93f4ce598415ed6d91b54b87d529b2cbcd9e91248dec534a94cab10ae9d270926af324c8e5c8e24c9a54faa1)
theorem c2_1 : (nsm k2_1 gG2).1 = .aff cx2_1 cy2_1 := by rw [nsm_val]; exact jmul_is cv2 tz2_iff gP2_On 754 k2_1_lt (by decide +kernel)
theorem c2_1_ne : nsm (n2 / 23) gG2 ≠ Ab.zero := by rw [k2_1_eq]; exact ne_of_aff c2_1
def k2_2 : Nat := 19747952380560469302323322050672622487410572530539262414045570918895367835642530197600129291152586801779311534258037583122830008625755003132478624935055720974064090238561052215941626514123944245712362360707393572102318070791
theorem k2_2_eq : n2 / 2713 = k2_2 := by decide +kernel
theorem k2_2_lt : k2_2 < 2 ^ 754 := by decide +kernel
def cx2_2 : F2 := ι2 (0x1527356b928b314eea2789d3f51ac897fd0989c09d20c4ded31794e810cb4f9798ed68cd34cc9b9db2f5660c0590a26, 0x16f580eaf5f5ab84f219e938b0ac87a1d467ca14067e78ab0eda9d48a09080b860e806aaef288db3f2b11df8621fc42c)
def cy2_2 : F2 := ι2 (0xf569dbb3a0ca9561b5f2c323a9be49d7a1d4ee7d9fc814e529201c9b2f84f309c9a063e9b3f2016ffbec1b3b7ad0280, 0x71dde72709146781388d61c9f943a4bf7fdffa4a5f5d2e7b2ef5febfae557c1d7a2866e53bd5c11d31b0df1f9219078)
theorem c2_2 : (nsm k2_2 gG2).1 = .aff cx2_2 cy2_2 := by rw [nsm_val]; exact jmul_is cv2 tz2_iff gP2_On 754 k2_2_lt (by decide +kernel)
theorem c2_2_ne : nsm (n2 / 2713) gG2 ≠ Ab.zero := by rw [k2_2_eq]; exact ne_of_aff c2_2
def k2_3 : Nat := 4482238334180586732803745731069591299953558376587720148021888555422331878030468035312402808240355391385198041700163637832530562486545078515721116828311400569115358221134119857931032605439493076099526402124919163483107916511
theorem k2_3_eq : n2 / 11953 = k2_3 := by decide +kernel
theorem k2_3_lt : k2_3 < 2 ^ 754 := by decide +kernel
def cx2_3 : F2 := ι2 (0xca39ab97ef67fee1d0f187136cc27b1c456d169a48ec92d4872f1e7839611556a92ff3cd21d73029972321738d7524d, 0xe026bde4a2a800cf24d2f9761b205a6fe1610656f1471706b167c3d1be45e36534e74d348a747307ef9f33a462129df)
def cy2_3 : F2 := ι2 (0xcf53049bc13a9c7a69a1c4269b6662786a0007748546064f78631c2b387da811f5022221b946a541def7b461cdaefc2, 0x17a50c7b410815a40b40dc19744a8dfc8d62ba7f335644a3ad2638c6350f4248f717576c16dbc61ff4803510ec4c99fe)
theorem c2_3 : (nsm k2_3 gG2).1 = .aff cx2_3 cy2_3 := by rw [nsm_val]; exact jmul_is cv2 tz2_iff gP2_On 754 k2_3_lt (by decide +kernel)
theorem c2_3_ne : nsm (n2 / 11953) gG2 ≠ Ab.zero := by rw [k2_3_eq]; exact ne_of_aff c2_3
def k2_4 : Nat := 204435453290776677963449216517309658175308347325906608295165143160629959812485202088339905776329775720238838597629082276088502697387609078137492452174069313816727185654221348812143491724768136401549359461054755660202423507
theorem k2_4_eq : n2 / 262069 = k2_4 := by decide +kernel
theorem k2_4_lt : k2_4 < 2 ^ 754 := by decide +kernel
def cx2_4 : F2 := ι2 (0x3a9d58890770e5a6cc62898bae03c723ee6131c3f42cc71fcca6af40e36876987980a78d5992658ddcaaab88ba2d578, 0xe6e4a43f7342ad336bd00a560c72e0d56902ad288b3bbc7e3b68c33cabab5e7b8ff874518582a925b874e94328c91b3)
def cy2_4 : F2 := ι2 (0x1878cc7da8159a4a075b35169e87d7d7972de34366789499231f0fcd7ee92d13ae32c9d8b91235d79dd11d9868132b05, 0xaca746cdbd524f761c19b300d0c1726e1f02c1bdbea17006d443ea71f9504c45eb2be6a6bf8d25220d65cbdec1968c7)
theorem c2_4 : (nsm k2_4 gG2).1 = .aff cx2_4 cy2_4 := by rw [nsm_val]; exact jmul_is cv2 tz2_iff gP2_On 754 k2_4_lt (by decide +kernel)
theorem c2_4_ne : nsm (n2 / 262069) gG2 ≠ Ab.zero := by rw [k2_4_eq]; exact ne_of_aff c2_4
def k2_5 : Nat := 133242285665808607076488378322626308017882680317454143660064485930450545651671235455237836767
theorem k2_5_eq : n2 / 402096035359507321594726366720466575392706800671181159425656785868777272553337714697862511267018014931937703598282857976535744623203249 = k2_5 := by decide +kernel
theorem k2_5_lt : k2_5 < 2 ^ 754 := by decide +kernel
def cx2_5 : F2 := ι2 (0x9bbc0bfacedb1fa3a9e8fda459105436e3bbace4e002aec8be54b037ad07de8a68490a31cbb7ec621754d2aacb7db28, 0x17f069ac7fd4b5e6780fe2c6bde494e4d35db76e97004f5c9328f5ca1b5c380e26f86db1f2c1db2367355e0f26197100)
def cy2_5 : F2 := ι2 (0x139e76009a8af317d2053b606e2a96f87abb5b57ced8e893b9f1e844b7eed011d3bbb4255ba15de0a605fc9f2a982d98, 0x165eac18ca97c2b9d0736a6fc72f64daab41aa61d1996567b5f613e0edf40d4e5ef84761bf96f19f6f8395b5f492b99f)
theorem c2_5 : (nsm k2_5 gG2).1 = .aff cx2_5 cy2_5 := by rw [nsm_val]; exact jmul_is cv2 tz2_iff gP2_On 754 k2_5_lt (by decide +kernel)
theorem c2_5_ne : nsm (n2 / 402096035359507321594726366720466575392706800671181159425656785868777272553337714697862511267018014931937703598282857976535744623203249) gG2 ≠ Ab.zero := by rw [k2_5_eq]; exact ne_of_aff c2_5
def k2_6 : Nat := 1021746936224977739802674759843215733158749228274876731329980043418955197936360816142165308893846079758636364010172630974200012787218635773765140678191
theorem k2_6_eq : n2 / 52435875175126190479447740508185965837690552500527637822603658699938581184513 = k2_6 := by decide +kernel
theorem k2_6_lt : k2_6 < 2 ^ 754 := by decide +kernel
def cx2_6 : F2 := ι2 (0x10cae953367fed4dc38f5fb936ef0459047012de0673b59d9ee61cca3b950308ebf7a2b26c27e14aaeb9b1044add3c4d, 0x18a46fd437b63bb7ab1fe908895bed403fe4d954a0292701e0f00449243f8a9b319fbed336d9e95b92cab47d128e2a8f)
def cy2_6 : F2 := ι2 (0x15bdc5c53a714cb4fea442a015f50027eb1b541e0d24e21d68fa7eeba9b191cd0c7e3e98547645bb91da1d459747b3b5, 0x11957a51a31fe620e2b1600bb55669ba73171c988c1ef94ec079d4f4424f11ace2e5fd2d696653c453041d2f09227d7d)
theorem c2_6 : (nsm k2_6 gG2).1 = .aff cx2_6 cy2_6 := by rw [nsm_val]; exact jmul_is cv2 tz2_iff gP2_On 754 k2_6_lt (by decide +kernel)
theorem c2_6_ne : nsm (n2 / 52435875175126190479447740508185965837690552500527637822603658699938581184513) gG2 ≠ Ab.zero := by rw [k2_6_eq]; exact ne_of_aff c2_6
theorem n2_fac : n2 = 13 * (23 * (2713 * (11953 * (262069 * (402096035359507321594726366720466575392706800671181159425656785868777272553337714697862511267018014931937703598282857976535744623203249 * (52435875175126190479447740508185965837690552500527637822603658699938581184513)))))) := by decide +kernel
theorem ord2 (q : Nat) (hq : Prime q) (h : q ∣ n2) : nsm (n2 / q) gG2 ≠ Ab.zero := by
  rw [n2_fac] at h
  refine prime_in hq pr2 h (fun e => by rw [e]; exact c2_0_ne) (fun h => ?_)
  refine prime_in hq pr1 h (fun e => by rw [e]; exact c2_1_ne) (fun h => ?_)
  refine prime_in hq pr6 h (fun e => by rw [e]; exact c2_2_ne) (fun h => ?_)
  refine prime_in hq pr7 h (fun e => by rw [e]; exact c2_3_ne) (fun h => ?_)
  refine prime_in hq pr8 h (fun e => by rw [e]; exact c2_4_ne) (fun h => ?_)
  refine prime_in hq pr24 h (fun e => by rw [e]; exact c2_5_ne) (fun h => ?_)
  rw [prime_eq hq pr13 h]; exact c2_6_ne
theorem om2_om : Om (omG be2 cv2 be2_r) := omG_om be2_r
theorem hG2_n : nsm n2 (omG be2 cv2 be2_r gG2) = Ab.zero := by rw [← om2_om.nsm, gG2_n]; rfl
def s2_0 : Nat := 4
theorem s2_0_ne : smul s2_0 (.aff cx2_0 cy2_0) ≠ .aff (cx2_0 * be2) (-cy2_0) := jmul_isnt cv2 tz2_iff (on_of c2_0) 4 (by decide +kernel) (by decide +kernel)
def t2_0 : Nat := 10
theorem t2_0_ne : smul t2_0 (.aff cx2_0 cy2_0) ≠ .aff (cx2_0 * be2) (-cy2_0) := jmul_isnt cv2 tz2_iff (on_of c2_0) 4 (by decide +kernel) (by decide +kernel)
theorem no2_0 (c : Nat) : nsm (n2 / 13) (omG be2 cv2 be2_r gG2) ≠ nsm c (nsm (n2 / 13) gG2) := by
  rw [← om2_om.nsm]
  refine om2_om.split (s := s2_0) (t := t2_0) (k := 3) pr2 (nsm_ll (by decide +kernel) gG2_n) c2_0_ne (by decide +kernel) (by decide +kernel) ?_ ?_ c <;> rw [k2_0_eq]
  · exact split_ne be2_r c2_0 s2_0_ne
  · exact split_ne be2_r c2_0 t2_0_ne
theorem no2_1 (c : Nat) : nsm (n2 / 23) (omG be2 cv2 be2_r gG2) ≠ nsm c (nsm (n2 / 23) gG2) := by
  rw [← om2_om.nsm]
  exact om2_om.inert pr1 (nsm_ll (by decide +kernel) gG2_n) c2_1_ne inert23 c
theorem m2_fac : m2 = 13 * (23) := by decide +kernel
theorem ind2 (a c : Nat) (e : Ab.add (nsm a gG2) (nsm c (omG be2 cv2 be2_r gG2)) = Ab.zero) : m2 ∣ c := by
  rw [m2_fac]
  exact (Nat.Coprime.mul_dvd_of_dvd_of_dvd (by decide +kernel) (ind_at pr2 (by decide +kernel) gG2_n hG2_n no2_0 e) (ind_at pr1 (by decide +kernel) gG2_n hG2_n no2_1 e))
/-- All points of curve 2. -/
theorem grp2 (q : Gp b2) : nsm n2 q = Ab.zero ∧ ∃ a c, nsm 2 q = Ab.add (nsm a gG2) (nsm c (omG be2 cv2 be2_r gG2)) :=
  grp_all be2_r nocube2 enc2 (2 * (pN * pN) + 1) (fun q _ => enc2_lt q) enc2_inj gG2 n2 m2 (by decide +kernel) (by decide +kernel) gG2_n ind2 ord2 (by decide +kernel) q
theorem hb2 : nsm (n2 / rNum) gG2 = nsm (n2 / rNum) bG2 := by
  rw [show n2 / rNum = k2_6 from k2_6_eq]
  refine Gp.ext (c2_6.trans ?_)
  rw [nsm_val]
  exact (jmul_is cv2 tz2_iff base2_On 754 k2_6_lt (by decide +kernel)).symm
def lam2 : Nat := 228988810152649578064853576960394133503
theorem fb2 : omG be2 cv2 be2_r bG2 = nsm lam2 bG2 := by
  refine Gp.ext ?_
  rw [nsm_val]
  refine Eq.trans (b := Pt.aff (bx2 * be2) (by2 * 1)) (by kernel_rfl) ?_
  rw [mul_one]
  exact (jmul_is cv2 tz2_iff base2_On 255 (by decide +kernel) (by decide +kernel)).symm
/-- What r kills, on curve 2, is a multiple of the base. -/
theorem cycG2 (q : Gp b2) (hq : nsm rNum q = Ab.zero) : ∃ k, q = nsm k bG2 := by
  obtain ⟨_, a, c, e⟩ := grp2 q
  exact cyc_of om2_om (t := 51277071303852683885322751755173319433966909968355403379731968755520484864982) (w := 999166893435475476671407241029208216505790542420807041787871791992027750526681395802046427922585120965131070676956591469642204043381600772792572954697) (s := 26217937587563095239723870254092982918845276250263818911301829349969290592257) (by decide +kernel) hb2 fb2 (by decide +kernel) hq e
theorem all2 {q : Pt F2} (hq : On b2 q) : smul n2 q = .inf := by
  have := (grp2 (Gp.of hq)).1
  rw [gp_zero, nsm_val] at this
  exact this
theorem cyc2 {q : Pt F2} (hq : Tor b2 rNum q) : ∃ k, q = smul k (ιP2 base2) := by
  obtain ⟨k, h⟩ := cycG2 (Gp.of hq.on) (gp_zero.2 (by rw [nsm_val]; exact hq.tor))
  exact ⟨k, by have := congrArg Subtype.val h; rwa [nsm_val] at this⟩
/-! ### what is cleared -/
theorem c1_div : n1 ∣ rNum * c1Num := by decide +kernel
theorem c2_div : n2 ∣ rNum * c2Num := by decide +kernel
theorem clear_tor1 {q : Pt F} (hq : On b1 q) : Tor b1 rNum (smul c1Num q) := tor_gen cv1 c1_div hq (all1 hq)
theorem clear_tor2 {q : Pt F2} (hq : On b2 q) : Tor b2 rNum (smul c2Num q) := tor_gen cv2 c2_div hq (all2 hq)
end Go.Proofs.Ythceokldlinjlaa
