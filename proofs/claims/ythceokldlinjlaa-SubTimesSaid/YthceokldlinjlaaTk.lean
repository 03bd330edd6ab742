/-
  limb.take by r: what is left.
-/
import Derived.Test.YthceokldlinjlaaDr
namespace Go.Proofs.Ythceokldlinjlaa
open Go Go.Eng Go.RowKit Go.Wd Go.Alg Go.Pr

/-! ### limb.Cmp in a table -/
def slArgZ (x : AV) (m : St) : Option (Nat × Nat × List Prop) := match x with
  | ⟨false, [.v _]⟩ => none
  | x => slArg x m
theorem slArgZ_ok {x : AV} {m : St} {len n : Nat} {ob : List Prop} (h : slArgZ x m = some (len, n, ob)) (hob : ∀ p ∈ ob, p) {ρ : Rho} {w : World} (hM : Mem ρ m w) {v : Value} (hv : x.val ρ = some v) :
    ∃ b o cap, v = .slice (some ⟨b, o, none⟩) len cap ∧ len < 4294967296 ∧ SlHas w b o len n := by
  unfold slArgZ at h
  split at h
  · cases h
  · rename_i hx
    rcases slArg_ok h hob hM hv with ⟨rfl, rfl, rfl⟩ | h2
    · exfalso
      unfold slArg at h
      split at h
      · obtain ⟨q, _, h2⟩ := cslice_val hv
        cases h2
      · have h2 := AV.val_one hv
        simp only [It.cs] at h2
        split at h2
        · cases h2
        · cases h2
      · exact hx _ rfl
      · cases h
    · exact h2
def cmpG : CallT := fun f args m _ => match f == 134 with
  | true => match args with
    | [y, z] => match slArgZ y m, slArgZ z m with
      | some (la, x, ob), some (lb, y, ob') => some { val := .one (iA (cmpI (x % pw la) (y % pw lb))), wr := [], news := [], ob := ob ++ ob' }
      | _, _ => none
    | _ => none
  | false => none
theorem cmpG_ok : CallOk Try.prog cmpG := by
  intro f args m nid out hout hob ρ w vs hv hM hnew
  unfold cmpG at hout
  split at hout
  · rename_i hf
    rw [beq_iff_eq] at hf
    subst hf
    split at hout
    · rename_i y z
      split at hout
      · rename_i la x ob lb y ob' hs hs'
        cases hout
        obtain ⟨v1, us, h1, h2, rfl⟩ := vals_cons hv
        obtain ⟨v2, us', h3, h4, rfl⟩ := vals_cons h2
        cases h4
        obtain ⟨b1, o1, c1, rfl, hl1, hs1⟩ := slArgZ_ok hs (fun p hp => hob p (List.mem_append_left _ hp)) hM h1
        obtain ⟨b2, o2, c2, rfl, hl2, hs2⟩ := slArgZ_ok hs' (fun p hp => hob p (List.mem_append_right _ hp)) hM h3
        refine (limb_cmp hl1 hl2 w hs1 hs2).mono ?_
        rintro u w' ⟨rfl, hb⟩
        exact ⟨ρ, Ext.of_below hb, val_iA ρ (cmpI (x % pw la) (y % pw lb)), hM.of_below hb⟩
      · cases hout
    · cases hout
  · cases hout
noncomputable def rowsTk : List Row := [Dr.div64Row, mul64Row, add64Row, sub64Row]
theorem rowsTk_ok : ∀ r ∈ rowsTk, RowOk Try.prog r := List.forall_mem_cons.2 ⟨Dr.div64_ok, List.forall_mem_cons.2 ⟨mul64_ok, List.forall_mem_cons.2 ⟨add64_ok, List.forall_mem_cons.2 ⟨sub64_ok, fun _ h => by cases h⟩⟩⟩⟩
noncomputable def TTk : CallT := orT cmpG (orT atT (tableT rowsTk))
theorem TTk_ok : CallOk Try.prog TTk := orT_ok cmpG_ok (orT_ok atT_ok (tableT_ok rowsTk_ok))
noncomputable def dTk : Fn1 := match fn1 95 with
  | some d => d
  | none => ⟨.skip, [], 0⟩
theorem dTk_ok : FnOk Try.prog 95 dTk := fn1_ok _ _ (by kernel_rfl)
noncomputable def ETk : Eng := { tab := tyTab, call := callN tyTab TTk fn1 1000 6, N := 90 }
theorem callTk : CallOk Try.prog ETk.call := callN_ok mixed tyTab_ok TTk_ok fn1_ok 1000 6
noncomputable def cTkS : Code := scIn dTk.body
noncomputable def cTkl : Code := seqL cTkS
noncomputable def cTkL : Code := loopIn (blockIn (seqR cTkS))
theorem dTk_body : dTk.body = .scope (.seq cTkl (.block 0 (.loop cTkL))) := by kernel_rfl
theorem dTk_ntmps : dTk.ntmps = 90 := by kernel_rfl
theorem dTk_results : dTk.results = [] := by kernel_rfl
def stTkB (A : List It) (q c1 c2 : Nat) : St := [(0, sS 16 5 c1), (2, sS 1 4 c2), (4, sI 4), (3, .bl [.w 4 q]), (33, .bl A)]
def stTk (L q c1 c2 : Nat) : St := stTkB [.w 5 L] q c1 c2
/-! ### one round -/
def iK : Nat → Int
  | 0 => 0
  | k + 1 => IntKind.i64.wrap (iK k + 1)
def wK (L k : Nat) : Int := ((L / 2 ^ (64 * k) % 2 ^ 64 : Nat) : Int)
def mK (q k : Nat) : Int := ((dg (q % pw 4) (iK k).toNat : Nat) : Int)
def hK (Q : Int) (q k : Nat) : Int := ((Q.toNat * (mK q k).toNat / 18446744073709551616 : Nat) : Int)
def lK (Q : Int) (q k : Nat) : Int := ((Q.toNat * (mK q k).toNat % 18446744073709551616 : Nat) : Int)
def cK (Q : Int) (q : Nat) : Nat → Int
  | 0 => 0
  | k + 1 => IntKind.u64.wrap (hK Q q k + ((((lK Q q k).toNat + (cK Q q k).toNat + (0 : Int).toNat) / 18446744073709551616 : Nat) : Int))
def sK (Q : Int) (q k : Nat) : Int := ((((lK Q q k).toNat + (cK Q q k).toNat + (0 : Int).toNat) % 18446744073709551616 : Nat) : Int)
def bK (L : Nat) (Q : Int) (q : Nat) : Nat → Int
  | 0 => 0
  | k + 1 => ((if (wK L k).toNat < (sK Q q k).toNat + (bK L Q q k).toNat then 1 else 0 : Nat) : Int)
def oK (L : Nat) (Q : Int) (q k : Nat) : Nat := ((wK L k).toNat + 18446744073709551616 - (sK Q q k).toNat - (bK L Q q k).toNat) % 18446744073709551616
def obK (L : Nat) (Q : Int) (q k : Nat) : List Prop := [0 ≤ iK k, 4 < 4294967296, 0 ≤ Q ∧ Q < 18446744073709551616 ∧ 0 ≤ mK q k ∧ mK q k < 18446744073709551616, 0 ≤ lK Q q k ∧ 0 ≤ cK Q q k ∧ (0 : Int) ≤ 0 ∧ (0 : Int) ≤ 1,
  0 ≤ wK L k ∧ 0 ≤ sK Q q k ∧ 0 ≤ bK L Q q k ∧ bK L Q q k ≤ 1]
def obsK (L : Nat) (Q : Int) (q : Nat) : List Prop := obK L Q q 0 ++ obK L Q q 1 ++ obK L Q q 2 ++ obK L Q q 3 ++ obK L Q q 4
def outK (L : Nat) (Q : Int) (q : Nat) : List It := (List.range 5).map fun k => It.v (.int .u64 ((oK L Q q k : Nat) : Int))
def topK (q : Nat) : Int := IntKind.u64.wrap (wK q 3 + 1)
def ob0K (L q : Nat) (b : Bool) : List Prop := [5 < 4294967296, 4 < 4294967296, cmpI (L % pw 5) (q % pw 4) ≥ 0 ↔ true = true, topK q = 0 ↔ false = true, wK L 4 < topK q ↔ b = true]
def dK (L : Nat) : Int := (((wK L 4).toNat * 18446744073709551616 + (wK L 3).toNat) / Dr.y0N : Nat)
def QK (L : Nat) : Int := if (1 : Int) > dK L then 1 else dK L
theorem Tk_exit (L q c1 c2 : Nat) : probe ETk 100 cTkL (stTk L q c1 c2) 40 [(17, false)] ((stTk L q c1 c2).map (·.1)) = some (2, [5 < 4294967296, 4 < 4294967296, cmpI (L % pw 5) (q % pw 4) ≥ 0 ↔ false = true], (stTk L q c1 c2).map fun p => some p.2) := by kernel_rfl
theorem Tk_one (L q c1 c2 : Nat) : probe ETk 100 cTkL (stTk L q c1 c2) 40 [(17, true), (26, false), (37, false)] ((stTkB (outK L 1 q) q c1 c2).map (·.1)) =
  some (0, ob0K L q false ++ obsK L 1 q, (stTkB (outK L 1 q) q c1 c2).map fun p => some p.2) := by kernel_rfl
theorem Tk_div (L q c1 c2 : Nat) : probe ETk 100 cTkL (stTk L q c1 c2) 40 [(17, true), (26, false), (37, true)] ((stTkB (outK L (QK L) q) q c1 c2).map (·.1)) =
  some (0, ob0K L q true ++ ((0 ≤ wK L 4 ∧ wK L 4 < (Dr.y0N : Int) ∧ 0 ≤ wK L 3 ∧ wK L 3 < 18446744073709551616 ∧ topK q = (Dr.y0N : Int)) :: obsK L (QK L) q), (stTkB (outK L (QK L) q) q c1 c2).map fun p => some p.2) := by kernel_rfl
noncomputable def inTk (L q c1 c2 : Nat) : St := initSlots 0 [slA 16 5 c1, slA 1 4 c2, iA 4] (90 - [slA 16 5 c1, slA 1 4 c2, iA 4].length) ++ [(3, .bl [.w 4 q]), (33, .bl [.w 5 L])]
theorem Tk_begin (L q c1 c2 : Nat) : probe ETk 100 cTkl (inTk L q c1 c2) 40 [] ((stTk L q c1 c2).map (·.1)) = some (0, [], (stTk L q c1 c2).map fun p => some p.2) := by kernel_rfl

/-! ### plainly -/
theorem mulsub {Qn q L : Nat} (c s b o : Nat → Nat) (hc0 : c 0 = 0) (hc : ∀ k, c (k + 1) = (Qn * dg q k + c k) / 18446744073709551616) (hs : ∀ k, s k = (Qn * dg q k + c k) % 18446744073709551616)
    (hb0 : b 0 = 0) (hb : ∀ k, b (k + 1) = if dg L k < s k + b k then 1 else 0) (ho : ∀ k, o k = (dg L k + 18446744073709551616 - s k - b k) % 18446744073709551616) :
    ∀ k, num s k + c k * pw k = Qn * (q % pw k) ∧ num o k + num s k = L % pw k + b k * pw k ∧ b k ≤ 1 := by
  intro k
  induction k with
  | zero => rw [hc0, hb0, pw_zero, Nat.mod_one, Nat.mod_one]; exact ⟨rfl, rfl, by omega⟩
  | succ k ih =>
    obtain ⟨h1, h2, h3⟩ := ih
    have hd := dg_lt L k
    have hsl : s k < 18446744073709551616 := by rw [hs]; exact Nat.mod_lt _ (by decide)
    have e1 : s k + c (k + 1) * 18446744073709551616 = Qn * dg q k + c k := by rw [hs, hc]; omega
    have e2 : o k + s k + b k = dg L k + b (k + 1) * 18446744073709551616 := by
      rw [ho, hb]
      split <;> omega
    have q1 : q % pw (k + 1) = q % pw k + dg q k * pw k := by rw [← num_dg q (k + 1), ← num_dg q k]; rfl
    have l1 : L % pw (k + 1) = L % pw k + dg L k * pw k := by rw [← num_dg L (k + 1), ← num_dg L k]; rfl
    refine ⟨?_, ?_, by rw [hb]; split <;> omega⟩
    · show num s k + s k * pw k + c (k + 1) * pw (k + 1) = _
      rw [q1, pw_succ, Nat.mul_add, ← h1]
      have := congrArg (· * pw k) e1
      simp only [Nat.add_mul] at this
      rw [Nat.mul_comm (pw k), ← Nat.mul_assoc, ← Nat.mul_assoc]
      omega
    · show num o k + o k * pw k + (num s k + s k * pw k) = _
      rw [l1, pw_succ]
      have := congrArg (· * pw k) e2
      simp only [Nat.add_mul] at this
      rw [Nat.mul_comm (pw k) 18446744073709551616, ← Nat.mul_assoc]
      omega
theorem mulsub5 {Qn q L : Nat} {c s b o : Nat → Nat} (hc0 : c 0 = 0) (hc : ∀ k, c (k + 1) = (Qn * dg q k + c k) / 18446744073709551616) (hs : ∀ k, s k = (Qn * dg q k + c k) % 18446744073709551616)
    (hb0 : b 0 = 0) (hb : ∀ k, b (k + 1) = if dg L k < s k + b k then 1 else 0) (ho : ∀ k, o k = (dg L k + 18446744073709551616 - s k - b k) % 18446744073709551616) (hL : L < pw 5) (hq : Qn * q ≤ L) (hq5 : q < pw 5) : num o 5 = L - Qn * q := by
  obtain ⟨h1, h2, h3⟩ := mulsub c s b o hc0 hc hs hb0 hb ho 5
  rw [Nat.mod_eq_of_lt hq5] at h1
  rw [Nat.mod_eq_of_lt hL] at h2
  have hlt : num o 5 < pw 5 := num_lt 5 fun k _ => by rw [ho]; exact Nat.mod_lt _ (by decide)
  have hc5 : c 5 = 0 := by
    refine Classical.byContradiction fun h => ?_
    have : 1 * pw 5 ≤ c 5 * pw 5 := Nat.mul_le_mul_right _ (by omega)
    omega
  rw [hc5, Nat.zero_mul, Nat.add_zero] at h1
  have hb5 : b 5 = 0 := by
    refine Classical.byContradiction fun h => ?_
    have : b 5 = 1 := by omega
    rw [this, Nat.one_mul] at h2
    omega
  rw [hb5, Nat.zero_mul] at h2
  omega
theorem iK_eq : ∀ k, k < 100 → iK k = (k : Int) := by
  intro k
  induction k with
  | zero => intro _; rfl
  | succ k ih => intro h; unfold iK; rw [ih (by omega), wrap_small (by omega) (by omega)]; omega
theorem wK_eq (L k : Nat) : wK L k = ((dg L k : Nat) : Int) := rfl
section
variable {L Qn q : Nat}
theorem mK_eq (hq : q < pw 4) {k : Nat} (hk : k < 100) : mK q k = ((dg q k : Nat) : Int) := by unfold mK; rw [iK_eq k hk, Int.toNat_natCast, Nat.mod_eq_of_lt hq]
def cNq (Qn q : Nat) : Nat → Nat
  | 0 => 0
  | k + 1 => (Qn * dg q k + cNq Qn q k) / 18446744073709551616
def sNq (Qn q k : Nat) : Nat := (Qn * dg q k + cNq Qn q k) % 18446744073709551616
def bN' (L Qn q : Nat) : Nat → Nat
  | 0 => 0
  | k + 1 => if dg L k < sNq Qn q k + bN' L Qn q k then 1 else 0
def oNq (L Qn q k : Nat) : Nat := (dg L k + 18446744073709551616 - sNq Qn q k - bN' L Qn q k) % 18446744073709551616
theorem cNq_lt (hQ : Qn < 18446744073709551616) : ∀ k, cNq Qn q k < 18446744073709551616 := by
  intro k
  induction k with
  | zero => show (0 : Nat) < 18446744073709551616; decide
  | succ k ih =>
    unfold cNq
    rw [Nat.div_lt_iff_lt_mul (by decide)]
    have h1 : Qn * dg q k ≤ 18446744073709551615 * 18446744073709551615 := Nat.mul_le_mul (by omega) (by have := dg_lt q k; omega)
    omega
theorem lK_eq (hq : q < pw 4) {k : Nat} (hk : k < 100) : lK (Qn : Int) q k = ((Qn * dg q k % 18446744073709551616 : Nat) : Int) := by unfold lK; rw [mK_eq hq hk, Int.toNat_natCast, Int.toNat_natCast]
theorem hK_eq (hq : q < pw 4) {k : Nat} (hk : k < 100) : hK (Qn : Int) q k = ((Qn * dg q k / 18446744073709551616 : Nat) : Int) := by unfold hK; rw [mK_eq hq hk, Int.toNat_natCast, Int.toNat_natCast]
theorem cK_eq (hQ : Qn < 18446744073709551616) (hq : q < pw 4) : ∀ k, k < 100 → cK (Qn : Int) q k = ((cNq Qn q k : Nat) : Int) := by
  intro k
  induction k with
  | zero => intro _; rfl
  | succ k ih =>
    intro hk
    have hlt := cNq_lt (q := q) hQ (k + 1)
    unfold cK
    rw [ih (by omega), lK_eq hq (by omega), hK_eq hq (by omega), Int.toNat_natCast, Int.toNat_natCast, ← Int.natCast_add]
    have e : Qn * dg q k / 18446744073709551616 + (Qn * dg q k % 18446744073709551616 + cNq Qn q k + (0 : Int).toNat) / 18446744073709551616 = cNq Qn q (k + 1) := by
      show _ = (Qn * dg q k + cNq Qn q k) / 18446744073709551616
      rw [show (0 : Int).toNat = 0 from rfl]
      omega
    rw [e]
    exact wrap_nat hlt
theorem sK_eq (hQ : Qn < 18446744073709551616) (hq : q < pw 4) {k : Nat} (hk : k < 100) : sK (Qn : Int) q k = ((sNq Qn q k : Nat) : Int) := by
  unfold sK sNq
  rw [cK_eq hQ hq k hk, lK_eq hq hk, Int.toNat_natCast, Int.toNat_natCast, show (0 : Int).toNat = 0 from rfl]
  congr 1
  omega
theorem bK_eq (hQ : Qn < 18446744073709551616) (hq : q < pw 4) : ∀ k, k < 100 → bK L (Qn : Int) q k = ((bN' L Qn q k : Nat) : Int) := by
  intro k
  induction k with
  | zero => intro _; rfl
  | succ k ih =>
    intro hk
    unfold bK bN'
    rw [ih (by omega), sK_eq hQ hq (by omega), wK_eq, Int.toNat_natCast, Int.toNat_natCast, Int.toNat_natCast]
theorem oK_eq (hQ : Qn < 18446744073709551616) (hq : q < pw 4) {k : Nat} (hk : k < 100) : oK L (Qn : Int) q k = oNq L Qn q k := by
  unfold oK oNq
  rw [bK_eq hQ hq k hk, sK_eq hQ hq hk, wK_eq, Int.toNat_natCast, Int.toNat_natCast, Int.toNat_natCast]
theorem bN_le (k : Nat) : bN' L Qn q k ≤ 1 := by
  cases k with
  | zero => exact Nat.zero_le _
  | succ k => unfold bN'; split <;> omega
theorem obK_ok (hQ : Qn < 18446744073709551616) (hq : q < pw 4) {k : Nat} (hk : k < 100) : ∀ p ∈ obK L (Qn : Int) q k, p := by
  unfold obK
  rw [iK_eq k hk, mK_eq hq hk, lK_eq hq hk, cK_eq hQ hq k hk, sK_eq hQ hq hk, bK_eq hQ hq k hk, wK_eq]
  have h1 := dg_lt q k
  have h2 := bN_le (L := L) (Qn := Qn) (q := q) k
  exact all_cons (by omega) (all_cons (by omega) (all_cons ⟨by omega, by omega, by omega, by omega⟩ (all_cons ⟨by omega, by omega, by omega, by omega⟩ (all_cons ⟨by omega, by omega, by omega, by omega⟩ all_nil))))
theorem obsK_ok (hQ : Qn < 18446744073709551616) (hq : q < pw 4) : ∀ p ∈ obsK L (Qn : Int) q, p :=
  all_appS (all_appS (all_appS (all_appS (obK_ok hQ hq (by omega)) (obK_ok hQ hq (by omega))) (obK_ok hQ hq (by omega))) (obK_ok hQ hq (by omega))) (obK_ok hQ hq (by omega))
/-- What stands there behind a round. -/
theorem outK_conc (hQ : Qn < 18446744073709551616) (hq : q < pw 4) (hL : L < pw 5) (hle : Qn * q ≤ L) (ρ : Rho) : conc ρ (outK L (Qn : Int) q) = some (words 5 (L - Qn * q)) := by
  have hn : num (oNq L Qn q) 5 = L - Qn * q := mulsub5 (c := cNq Qn q) (s := sNq Qn q) (b := bN' L Qn q) rfl (fun _ => rfl) (fun _ => rfl) rfl (fun _ => rfl) (fun _ => rfl) hL hle (Nat.lt_of_lt_of_le hq (by decide +kernel))
  have hw := words_map (d := oNq L Qn q) 5 (fun k _ => Nat.mod_lt _ (by decide))
  rw [hn] at hw
  rw [hw]
  have e : ∀ k, k < 5 → oK L (Qn : Int) q k = oNq L Qn q k := fun k hk => oK_eq hQ hq (by omega)
  have : outK L (Qn : Int) q = (List.range 5).map fun k => It.v (.int .u64 ((oNq L Qn q k : Nat) : Int)) := by
    unfold outK
    apply List.map_congr_left
    intro k hk
    rw [e k (by simpa using hk)]
  rw [this]
  rfl
end
/-- How often it surely is in it. -/
def kQ5 (L : Nat) : Nat := if dg L 4 < Dr.y0N then max 1 ((dg L 4 * 18446744073709551616 + dg L 3) / Dr.y0N) else 1
theorem head_le {L : Nat} (hL : L < pw 5) : (dg L 4 * 18446744073709551616 + dg L 3) * pw 3 ≤ L := by
  have h := div_step L 3
  have h2 := div_step L 4
  have h3 : L / pw 5 = 0 := Nat.div_eq_of_lt hL
  rw [h3] at h2
  have e : L / pw 3 = dg L 4 * 18446744073709551616 + dg L 3 := by rw [h, h2]; omega
  rw [← e]
  exact Nat.div_mul_le_self L (pw 3)
theorem rNum_lt4 : rNum < pw 4 := by decide +kernel
theorem rNum_head : rNum < Dr.y0N * pw 3 := by decide +kernel
theorem rNum_dg : dg rNum 3 + 1 = Dr.y0N := by decide +kernel
theorem y0r_lt : Dr.y0N < 18446744073709551616 := by decide +kernel
theorem y0r_pos : 0 < Dr.y0N := by decide +kernel
theorem rNum_pos : 0 < rNum := by decide +kernel
theorem kQ5_ok {L : Nat} (hL : L < pw 5) (hr : rNum ≤ L) : 1 ≤ kQ5 L ∧ kQ5 L < 18446744073709551616 ∧ kQ5 L * rNum ≤ L := by
  unfold kQ5
  split
  · rename_i h
    have hd : (dg L 4 * 18446744073709551616 + dg L 3) / Dr.y0N < 18446744073709551616 := by
      rw [Nat.div_lt_iff_lt_mul y0r_pos]
      have h1 := dg_lt L 3
      have : (dg L 4 + 1) * 18446744073709551616 ≤ Dr.y0N * 18446744073709551616 := Nat.mul_le_mul_right _ h
      rw [Nat.add_mul] at this
      rw [Nat.mul_comm 18446744073709551616]
      omega
    refine ⟨Nat.le_max_left _ _, by omega, ?_⟩
    have hh := head_le hL
    have h2 := Nat.div_mul_le_self (dg L 4 * 18446744073709551616 + dg L 3) Dr.y0N
    have h3 : (dg L 4 * 18446744073709551616 + dg L 3) / Dr.y0N * rNum ≤ L := by
      refine Nat.le_trans (Nat.mul_le_mul_left _ (Nat.le_of_lt rNum_head)) (Nat.le_trans ?_ hh)
      rw [← Nat.mul_assoc]
      exact Nat.mul_le_mul_right _ h2
    rcases Nat.le_total 1 ((dg L 4 * 18446744073709551616 + dg L 3) / Dr.y0N) with h4 | h4
    · rw [Nat.max_eq_right h4]; exact h3
    · rw [Nat.max_eq_left h4, Nat.one_mul]; exact hr
  · exact ⟨Nat.le_refl _, by omega, by rw [Nat.one_mul]; exact hr⟩

/-! ### the loop -/
theorem same_Tk {A : List It} {L q c1 c2 : Nat} (h : ∀ ρ, conc ρ A = some (words 5 L)) : ∀ k, match Eng.look (stTkB A q c1 c2) k, Eng.look (stTk L q c1 c2) k with | some c, some c' => SameCt c c' | none, none => True | _, _ => False := by
  intro k
  by_cases e1 : k = 33
  · subst e1
    show SameCt (.bl A) (.bl [.w 5 L])
    intro ρ vs hv
    rw [h ρ] at hv; cases hv
    simp [conc, It.cs]
  · have f1 : (33 == k) = false := by simp; omega
    have : Eng.look (stTkB A q c1 c2) k = Eng.look (stTk L q c1 c2) k := by
      simp only [stTk, stTkB, Eng.look, f1]
      rfl
    rw [this]
    split
    · rename_i a b e3 e4; rw [e3] at e4; cases e4; exact SameCt.refl _
    · trivial
    · rename_i h3 h4; cases h5 : Eng.look (stTk L q c1 c2) k with
      | none => exact h4 h5 h5
      | some c => exact h3 c c h5 h5
theorem keep_Tk (L q c1 c2 : Nat) : keepsB (stTk L q c1 c2) [1, 16] = true := by kernel_rfl
theorem keep_TkO (L : Nat) (Q : Int) (q c1 c2 : Nat) : keepsB (stTkB (outK L Q q) q c1 c2) [1, 16] = true := by kernel_rfl
theorem blk_Tk (A : List It) (q c1 c2 : Nat) : ∀ id ∈ [1, 16], ∃ l, (stTkB A q c1 c2).blk id = some l := by
  intro id hid
  simp only [List.mem_cons, List.not_mem_nil, or_false] at hid
  rcases hid with rfl | rfl <;> exact ⟨_, rfl⟩
def rhoT (b1 b2 o2 : Nat) : Rho := fun id => if id = 16 then some (b1, 0) else if id = 1 then some (b2, o2) else none
def memT (A B : List It) : St := [(3, .bl B), (33, .bl A)]
theorem no_rhoT {b1 b2 o2 : Nat} : ∀ id q, rhoT b1 b2 o2 id = some q → id ∈ [1, 16] := by
  intro id q h
  unfold rhoT at h
  split at h
  · rename_i e; rw [e]; simp
  · split at h
    · rename_i e; rw [e]; simp
    · cases h
theorem blk_memT (A B : List It) (id : Nat) : (memT A B).blk id = if id = 1 then some B else if id = 16 then some A else none := by
  unfold St.blk memT
  simp only [Eng.look, beq_iff_eq]
  by_cases h1 : id = 1
  · subst h1; rfl
  · by_cases h2 : id = 16
    · subst h2; rfl
    · have e1 : ¬ 3 = 2 * id + 1 := by omega
      have e2 : ¬ 33 = 2 * id + 1 := by omega
      simp only [e1, e2, h1, h2, if_false]
/-- One block of the run's own, and one that is only read. -/
theorem mem_rhoT {w : World} {b1 b2 o2 : Nat} (hne : b1 ≠ b2) {va vb : List Value} (h1 : Holds w b1 va) (h2 : Stands w b2 o2 vb) {A B : List It} (hA : ∀ ρ, conc ρ A = some va) (hB : ∀ ρ, conc ρ B = some vb) : Mem (rhoT b1 b2 o2) (memT A B) w := by
  refine ⟨⟨fun id l hl => ?_⟩, ⟨fun id id' b o o' l l' ho _ _ _ _ e1 e2 => ?_⟩, fun id q hq => ?_⟩
  · rw [blk_memT] at hl
    split at hl
    · rename_i e; cases hl; subst e
      exact ⟨b2, o2, vb, by simp [rhoT], hB _, h2.1, fun h => by simp [own] at h, fun _ _ => h2.2, fun h => by simp [app] at h⟩
    · split at hl
      · rename_i e; cases hl; subst e
        exact ⟨b1, 0, va, by simp [rhoT], hA _, lt_of_holds h1, fun _ => ⟨rfl, h1⟩, fun h => by simp [own] at h, fun h => by simp [app] at h⟩
      · cases hl
  · unfold rhoT at e1 e2
    split at e1
    · rename_i a; split at e2
      · rename_i c; rw [a, c]
      · split at e2
        · cases e1; cases e2; exact absurd rfl hne
        · cases e2
    · split at e1
      · rename_i a; subst a
        simp [own, app] at ho
      · cases e1
  · rw [blk_memT]
    unfold rhoT at hq
    split at hq
    · rename_i e; subst e; exact ⟨A, rfl⟩
    · split at hq
      · rename_i e'; exact ⟨B, if_pos e'⟩
      · cases hq
theorem Tk_loop {b1 b2 o2 : Nat} {w0 : World} {L c1 c2 : Nat} (hL : L < pw 5) {Q : Exit → Act → World → Prop}
    (hX : ∀ a w, At 90 (rhoT b1 b2 o2) w0 (stTk (L % rNum) rNum c1 c2) a w → Q (.exit 0) a w) {a : Act} {w : World}
    (hA : At 90 (rhoT b1 b2 o2) w0 (stTk L rNum c1 c2) a w) : (Code.loop cTkL).wp Try.prog Q a w := by
  refine loop_rule (w0 := w0) (ρ0 := rhoT b1 b2 o2) (N := 90) (ι := Nat) (fun j => j < pw 5 ∧ j % rNum = L % rNum) (fun j => stTk j rNum c1 c2) (fun j => j) ?_ L ⟨hL, rfl⟩ a w hA
  rintro j ⟨hj, he⟩ a w hA
  have hq := rNum_lt4
  have hp := rNum_pos
  have e1 : j % pw 5 = j := Nat.mod_eq_of_lt hj
  have e2 : rNum % pw 4 = rNum := Nat.mod_eq_of_lt hq
  by_cases hlt : j < rNum
  · refine At.probe (E := ETk) mixed tyTab_ok callTk (Tk_exit j rNum c1 c2) (all_cons (by omega) (all_cons (by omega) (all_cons (iff_f ?_) all_nil))) hA [1, 16] (blk_Tk _ _ _ _) (keep_Tk _ _ _ _) no_rhoT fun a' w' hA' => hX a' w' ?_
    · rw [e1, e2, cmpI_lt hlt]; omega
    · rw [← he, Nat.mod_eq_of_lt hlt]; exact hA'
  · obtain ⟨k1, k2, k3⟩ := kQ5_ok hj (Nat.le_of_not_lt hlt)
    have h0 : cmpI (j % pw 5) (rNum % pw 4) ≥ 0 := by
      rw [e1, e2]
      rcases Nat.lt_or_ge rNum j with h | h
      · rw [cmpI_gt h]; omega
      · rw [Nat.le_antisymm h (Nat.le_of_not_lt hlt), cmpI_eq]; omega
    have ht : topK rNum = (Dr.y0N : Int) := by
      unfold topK
      rw [wK_eq, ← rNum_dg]
      have := y0r_lt
      rw [← rNum_dg] at this
      have e : ((dg rNum 3 : Nat) : Int) + 1 = ((dg rNum 3 + 1 : Nat) : Int) := by omega
      rw [e]
      exact wrap_nat this
    have ht0 : ¬ topK rNum = 0 := by rw [ht]; have := y0r_pos; omega
    have step : ∀ Qn : Nat, 1 ≤ Qn → Qn < 18446744073709551616 → Qn * rNum ≤ j → ∀ a' w', At 90 (rhoT b1 b2 o2) w0 (stTkB (outK j (Qn : Int) rNum) rNum c1 c2) a' w' →
        ∃ i', (i' < pw 5 ∧ i' % rNum = L % rNum) ∧ i' < j ∧ At 90 (rhoT b1 b2 o2) w0 (stTk i' rNum c1 c2) a' w' := by
      intro Qn g1 g2 g3 a' w' hA'
      refine ⟨j - Qn * rNum, ⟨by omega, ?_⟩, ?_, hA'.same (same_Tk (outK_conc g2 hq hj g3))⟩
      · rw [← he]
        have : j = j - Qn * rNum + rNum * Qn := by rw [Nat.mul_comm rNum]; omega
        rw [this, Nat.add_mul_mod_self_left, ← this]
      · have : 1 * rNum ≤ Qn * rNum := Nat.mul_le_mul_right _ g1
        omega
    by_cases hd : dg j 4 < Dr.y0N
    · have hk : QK j = ((kQ5 j : Nat) : Int) := by
        unfold QK dK kQ5
        rw [if_pos hd, wK_eq, wK_eq, Int.toNat_natCast, Int.toNat_natCast]
        generalize (dg j 4 * 18446744073709551616 + dg j 3) / Dr.y0N = z
        split <;> omega
      have hrun := Tk_div j rNum c1 c2
      rw [hk] at hrun
      refine At.probe (E := ETk) mixed tyTab_ok callTk hrun ?_ hA [1, 16] (blk_Tk _ _ _ _) (keep_TkO _ _ _ _ _) no_rhoT fun a' w' hA' => step _ k1 k2 k3 a' w' hA'
      refine all_appS (all_cons (by omega) (all_cons (by omega) (all_cons (iff_t h0) (all_cons (iff_f ht0) (all_cons (iff_t ?_) all_nil))))) (all_cons ?_ (obsK_ok k2 hq))
      · rw [ht, wK_eq]; omega
      · rw [wK_eq, wK_eq]
        have := dg_lt j 3
        exact ⟨by omega, by omega, by omega, by omega, ht⟩
    · have hk : kQ5 j = 1 := by unfold kQ5; rw [if_neg hd]
      rw [hk] at k1 k2 k3
      refine At.probe (E := ETk) mixed tyTab_ok callTk (Tk_one j rNum c1 c2) ?_ hA [1, 16] (blk_Tk _ _ _ _) (keep_TkO _ _ _ _ _) no_rhoT fun a' w' hA' => step 1 k1 k2 k3 a' w' hA'
      refine all_appS (all_cons (by omega) (all_cons (by omega) (all_cons (iff_t h0) (all_cons (iff_f ht0) (all_cons (iff_f ?_) all_nil))))) (obsK_ok (Qn := 1) k2 hq)
      rw [ht, wK_eq]; omega
theorem limb_take {b1 b2 o2 c1 c2 L : Nat} (hne : b1 ≠ b2) (hL : L < pw 5) (w : World) (h1 : Holds w b1 (words 5 L)) (h2 : SlHas w b2 o2 4 rNum) :
    Invoked Try.prog 95 [.slice (some ⟨b1, 0, none⟩) 5 c1, .slice (some ⟨b2, o2, none⟩) 4 c2, .int .i64 4].toArray w fun u w' => u = .tuple #[] ∧ Holds w' b1 (words 5 (L % rNum)) ∧ Keep (fun b => b = b1) w w' := by
  refine .inr ⟨dTk_ok.enter _ _, ?_⟩
  have hM : Mem (rhoT b1 b2 o2) (memT [.w 5 L] [.w 4 rNum]) w := mem_rhoT hne h1 (stands_sl h2) (fun ρ => by simp [conc, It.cs]) (fun ρ => by simp [conc, It.cs])
  have hv : vals (rhoT b1 b2 o2) [slA 16 5 c1, slA 1 4 c2, iA 4] = some [.slice (some ⟨b1, 0, none⟩) 5 c1, .slice (some ⟨b2, o2, none⟩) 4 c2, .int .i64 4] := by
    simp only [vals, val_slA (ρ := rhoT b1 b2 o2) (id := 16) (b := b1) (o := 0) rfl, val_slA (ρ := rhoT b1 b2 o2) (id := 1) (b := b2) (o := o2) rfl, val_iA]
  refine (calls_of_at (G := fun xs st => xs = [] ∧ st = stTk (L % rNum) rNum c1 c2) tyTab_ok dTk_ok hM (by kernel_rfl) hv (by rw [dTk_ntmps]; simp) fun a hA0 => ?_).mono ?_
  · rw [dTk_ntmps] at hA0
    rw [dTk_ntmps, dTk_results, dTk_body]
    refine wp_scope_straight ?_
    refine wp_seq (At.probe (E := ETk) mixed tyTab_ok callTk (Tk_begin L rNum c1 c2) (fun p hp => by cases hp) hA0 [1, 16] (blk_Tk _ _ _ _) (keep_Tk _ _ _ _) no_rhoT fun a1 w1 g1 => ?_)
    show Code.wp _ _ _ _ _
    refine wp_block (Tk_loop hL (fun a2 w2 g2 => ?_) g1)
    exact ⟨.inl rfl, _, [], g2, by kernel_rfl, rfl, rfl⟩
  · rintro e w' ⟨v, rfl, xs, st, ρ', hE, hval, hMk, rfl, rfl⟩
    refine ⟨v, rfl, ?_, ?_, ?_⟩
    · cases hval; rfl
    · obtain ⟨b', o', us, f1, f2, _, f4, _⟩ := hMk.blk 16 [.w 5 (L % rNum)] rfl
      rw [hE.le 16 _ (show rhoT b1 b2 o2 16 = some (b1, 0) from rfl)] at f1
      cases f1
      have : us = words 5 (L % rNum) := by simpa [conc, It.cs] using f2.symm
      rw [← this]
      exact (f4 rfl).2
    · refine ⟨hE.keep.os, hE.keep.tape, hE.keep.output, hE.keep.size, fun k hk hD => hE.keep.block k hk ?_⟩
      rintro ⟨id, _, ho, hq⟩
      unfold rhoT at hq
      split at hq
      · cases hq; exact hD rfl
      · split at hq
        · rename_i e; subst e; simp [own, app] at ho
        · cases hq
end Go.Proofs.Ythceokldlinjlaa
