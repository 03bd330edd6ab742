/-
  bits.Div64 by the constant that r's highest word and one make.
-/
import Derived.Test.YthceokldlinjlaaRr
/-
  bits.Div64 by the constant that r's highest word and one make: its row.
-/
/-
  bits.Div64 by the constant that r's highest word and one make.
-/
namespace Go.Proofs.Ythceokldlinjlaa.Dr
open Go Go.Eng Go.RowKit Go.Wd Go.Alg Go.Pr

/-! ### plainly: a digit of a quotient, as Knuth has it -/
section
variable {v1 v0 U d : Nat}
/-- The digit. -/
def kQ (v1 v0 U d : Nat) : Nat := (U * 4294967296 + d) / (v1 * 4294967296 + v0)
structure KInv (v1 v0 U d q r : Nat) : Prop where
  sum : q * v1 + r = U
  ge : kQ v1 v0 U d ≤ q
  le : q ≤ 4294967297
  rlt : r < 4294967296
theorem kq_mul : kQ v1 v0 U d * (v1 * 4294967296 + v0) ≤ U * 4294967296 + d := Nat.div_mul_le_self _ _
theorem k_start (h1 : 2147483648 ≤ v1) (h1' : v1 < 4294967296) (h0 : v0 < 4294967296) (hd : d < 4294967296) (hU : U < v1 * 4294967296 + v0) : KInv v1 v0 U d (U / v1) (U % v1) := by
  have hv : 0 < v1 := by omega
  refine ⟨by rw [Nat.mul_comm]; exact Nat.div_add_mod U v1, ?_, ?_, by have := Nat.mod_lt U hv; omega⟩
  · rw [Nat.le_div_iff_mul_le hv]
    have h := kq_mul (v1 := v1) (v0 := v0) (U := U) (d := d)
    generalize kQ v1 v0 U d = q at *
    rw [Nat.mul_add, ← Nat.mul_assoc] at h
    have : q * v1 * 4294967296 < (U + 1) * 4294967296 := by
      rw [Nat.add_mul]; omega
    have := Nat.lt_of_mul_lt_mul_right this
    omega
  · have : U / v1 < 4294967298 := by
      rw [Nat.div_lt_iff_lt_mul hv]
      have : v1 * 4294967296 + v0 ≤ 4294967298 * v1 := by omega
      omega
    omega
/-- The check tells that q is too large. -/
theorem KInv.big {q r : Nat} (h : KInv v1 v0 U d q r) (hU : U < v1 * 4294967296 + v0) (hd : d < 4294967296) (hc : 4294967296 ≤ q ∨ 4294967296 * r + d < q * v0) : kQ v1 v0 U d + 1 ≤ q := by
  have hs := h.sum
  rcases hc with hc | hc
  · have : kQ v1 v0 U d < 4294967296 := by
      unfold kQ
      rw [Nat.div_lt_iff_lt_mul (by omega)]
      have : (U + 1) * 4294967296 ≤ (v1 * 4294967296 + v0) * 4294967296 := Nat.mul_le_mul_right _ hU
      rw [Nat.add_mul] at this
      rw [Nat.mul_comm 4294967296]; omega
    omega
  · have hm := kq_mul (v1 := v1) (v0 := v0) (U := U) (d := d)
    rcases Nat.lt_or_ge (kQ v1 v0 U d) q with h2 | h2
    · exact h2
    · have h3 : q * (v1 * 4294967296 + v0) ≤ kQ v1 v0 U d * (v1 * 4294967296 + v0) := Nat.mul_le_mul_right _ h2
      rw [Nat.mul_add q, ← Nat.mul_assoc] at h3
      generalize q * v1 = z at *
      omega
theorem KInv.fit {q r : Nat} (h : q * v1 + r = U) (hg : kQ v1 v0 U d ≤ q) (hv : 0 < v1 * 4294967296 + v0) (hc : q * v0 ≤ 4294967296 * r + d) : q = kQ v1 v0 U d := by
  refine Nat.le_antisymm ?_ hg
  unfold kQ
  rw [Nat.le_div_iff_mul_le hv, Nat.mul_add, ← Nat.mul_assoc]
  generalize q * v1 = z at *
  omega
/-- One less, as long as what is left stays below 2^32. -/
theorem KInv.next {q r : Nat} (h : KInv v1 v0 U d q r) (hU : U < v1 * 4294967296 + v0) (hd : d < 4294967296) (hc : 4294967296 ≤ q ∨ 4294967296 * r + d < q * v0) (hr : r + v1 < 4294967296) : KInv v1 v0 U d (q - 1) (r + v1) := by
  have hb := h.big hU hd hc
  refine ⟨?_, by omega, by have := h.le; omega, hr⟩
  have : (q - 1) * v1 + v1 = q * v1 := by
    rw [← Nat.succ_mul]; congr 1; omega
  have := h.sum; omega
/-- One less, and done. -/
theorem KInv.break {q r : Nat} (h : KInv v1 v0 U d q r) (hU : U < v1 * 4294967296 + v0) (hd : d < 4294967296) (h0 : v0 < 4294967296) (hc : 4294967296 ≤ q ∨ 4294967296 * r + d < q * v0) (hr : 4294967296 ≤ r + v1) : q - 1 = kQ v1 v0 U d := by
  have hb := h.big hU hd hc
  have hl := h.le
  have hs : (q - 1) * v1 + (r + v1) = U := by
    have : (q - 1) * v1 + v1 = q * v1 := by
      rw [← Nat.succ_mul]; congr 1; omega
    have := h.sum; omega
  refine KInv.fit hs (by omega) (by omega) ?_
  have : (q - 1) * v0 ≤ 4294967296 * 4294967296 := Nat.mul_le_mul (by omega) (by omega)
  have : 4294967296 * 4294967296 ≤ 4294967296 * (r + v1) := Nat.mul_le_mul_left _ hr
  omega
theorem KInv.done {q r : Nat} (h : KInv v1 v0 U d q r) (hv : 0 < v1 * 4294967296 + v0) (hc : q * v0 ≤ 4294967296 * r + d) : q = kQ v1 v0 U d := KInv.fit h.sum h.ge hv hc
end
end Go.Proofs.Ythceokldlinjlaa.Dr
/-
  bits.Div64 by the constant that r's highest word and one make: the runs.
-/
namespace Go.Proofs.Ythceokldlinjlaa.Dr
open Go Go.Eng Go.RowKit Go.Wd Go.Alg Go.Pr

def y0N : Nat := 0x73eda753299d7d49
theorem lz_run : run1 none1 148 [uw y0N] [] = some (vI .i64 1, []) := by kernel_rfl
theorem val_uw (ρ : Rho) (n : Nat) : (uw n).val ρ = some (uv n) := AV.val_v (ρ := ρ) (x := uv n) rfl
theorem vals_uw (n : Nat) : vals rho0 [uw n] = some [uv n] := by simp only [vals, val_uw]
theorem lz_pure : Pure Try.prog 148 [uv y0N] (.int .i64 1) := pure_of_run1 none1_ok lz_run (fun p hp => by cases hp) (vals_uw y0N) fun ρ u hu => by
  rw [vI_val] at hu
  cases hu; rfl
def lzRow : Row where
  f := 148
  ans := fun
    | [⟨false, [.v (.int .u64 x)]⟩] => match x with
      | .ofNat n => match Nat.beq n y0N with
        | true => some (vI .i64 1, [])
        | false => none
      | _ => none
    | _ => none
theorem lz_ok : RowOk Try.prog lzRow := by
  intro args s ob ha hob ρ vs hv
  unfold lzRow at ha
  simp only at ha
  split at ha
  · rename_i x
    split at ha
    · rename_i n
      split at ha
      · rename_i hb
        cases ha
        have e := Nat.eq_of_beq_eq_true hb
        subst e
        have : vals ρ [uw y0N] = some [uv y0N] := by simp only [vals, val_uw]
        have hv : vals ρ [uw y0N] = some vs := hv
        rw [this] at hv
        cases hv
        exact ⟨_, vI_val _ _ _, lz_pure⟩
      · cases ha
    · cases ha
  · cases ha
def takeS : Nat → Code → List Code
  | 0, _ => []
  | n + 1, .seq a b => a :: takeS n b
  | _, _ => []
def dropS : Nat → Code → Code
  | 0, c => c
  | n + 1, .seq _ b => dropS n b
  | _, c => c
noncomputable def dD : Fn1 := match fn1 136 with
  | some d => d
  | none => ⟨.skip, [], 0⟩
theorem dD_ok : FnOk Try.prog 136 dD := fn1_ok _ _ (by kernel_rfl)
noncomputable def ED : Eng := { tab := tyTab, call := callN tyTab (tableT [lzRow]) fn1 1000 6, N := 135 }
set_option maxRecDepth 100000 in
theorem callD : CallOk Try.prog ED.call := callN_ok mixed tyTab_ok (tableT_ok (by
  simp only [List.forall_mem_cons, List.not_mem_nil, false_imp_iff, implies_true, and_true]
  exact lz_ok)) fn1_ok 1000 6
noncomputable def cD1 : List Code := takeS 14 dD.body
noncomputable def cDL1 : Code := loopIn (blockIn (seqL (dropS 14 dD.body)))
noncomputable def cD2 : List Code := takeS 3 (dropS 15 dD.body)
noncomputable def cDL2 : Code := loopIn (blockIn (seqL (dropS 18 dD.body)))
noncomputable def cDT : Code := dropS 19 dD.body
theorem dD_chain : dD.body = chain cD1 (.seq (.block 0 (.loop cDL1)) (chain cD2 (.seq (.block 2 (.loop cDL2)) cDT))) := by kernel_rfl
theorem dD_ntmps : dD.ntmps = 135 := by kernel_rfl
theorem dD_results : dD.results = [.tmp 6, .tmp 7] := by kernel_rfl
def y8N : Nat := 0xe7db4ea6533afa92
def v1N : Nat := 0xe7db4ea6
def v0N : Nat := 0x533afa92
/-- The run's own words. -/
def un32I (hi lo : Nat) : Int := Eng.bits .or .u64 (IntKind.u64.wrap ((hi : Int) * 2 ^ min (Int.toNat 1) IntKind.u64.bits)) ((lo : Int).fdiv (2 ^ min (Int.toNat 63) IntKind.u64.bits))
def un10I (lo : Nat) : Int := IntKind.u64.wrap ((lo : Int) * 2 ^ min (Int.toNat 1) IntKind.u64.bits)
def hi32 (x : Int) : Int := x.fdiv (2 ^ min (Int.toNat 32) IntKind.u64.bits)
def lo32 (x : Int) : Int := Eng.bits .and .u64 x 4294967295
/-- Ahead of the first loop. -/
def stD1 (U d1 d0 q r : Int) : St := [(4, su y8N), (16, su 1), (18, su v1N), (20, su v0N), (22, su U), (26, su d1), (28, su d0), (30, su q), (32, su r)]
def qI (U : Int) : Int := IntKind.u64.wrap (U.tdiv (v1N : Int))
def rI (U : Int) : Int := IntKind.u64.wrap (U - IntKind.u64.wrap (qI U * (v1N : Int)))
noncomputable def inD (hi lo : Nat) : St := initSlots 0 [uw hi, uw lo, uw y0N] (135 - [uw hi, uw lo, uw y0N].length) ++ []
theorem D_zero (hi lo : Nat) : run1 (tableT [lzRow]) 136 [uw hi, uw lo, uw y0N] [(24, false), (27, true)] = some (.tup [⟨false, [.v (.int .u64 (IntKind.u64.wrap ((lo : Int).tdiv (y0N : Int))))]⟩, ⟨false, [.v (.int .u64 ((lo : Int).tmod (y0N : Int)))]⟩],
  [(y0N : Int) ≤ (hi : Int) ↔ false = true, (hi : Int) = 0 ↔ true = true]) := by kernel_rfl
theorem D_start (hi lo : Nat) : probes ED 100 cD1 (inD hi lo) 16 [(24, false), (27, false)] ((stD1 (un32I hi lo) (hi32 (un10I lo)) (lo32 (un10I lo)) (qI (un32I hi lo)) (rI (un32I hi lo))).map (·.1)) =
  some (0, [(y0N : Int) ≤ (hi : Int) ↔ false = true, (hi : Int) = 0 ↔ false = true], (stD1 (un32I hi lo) (hi32 (un10I lo)) (lo32 (un10I lo)) (qI (un32I hi lo)) (rI (un32I hi lo))).map fun p => some p.2) := by kernel_rfl
def cA (q : Int) (b : Bool) : Prop := q ≥ 4294967296 ↔ b = true
def cB (q r d : Int) (b : Bool) : Prop := IntKind.u64.wrap (q * (v0N : Int)) > IntKind.u64.wrap (IntKind.u64.wrap (4294967296 * r) + d) ↔ b = true
def r2I (r : Int) : Int := IntKind.u64.wrap (r + (v1N : Int))
def q2I (q : Int) : Int := IntKind.u64.wrap (q - 1)
theorem D1_done (U d1 d0 q r : Int) : probe ED 100 cDL1 (stD1 U d1 d0 q r) 40 [(68, false), (77, false)] ((stD1 U d1 d0 q r).map (·.1)) = some (2, [cA q false, cB q r d1 false], (stD1 U d1 d0 q r).map fun p => some p.2) := by kernel_rfl
theorem D1_an (U d1 d0 q r : Int) : probe ED 100 cDL1 (stD1 U d1 d0 q r) 40 [(68, true), (85, false)] ((stD1 U d1 d0 (q2I q) (r2I r)).map (·.1)) = some (0, [cA q true, cA (r2I r) false], (stD1 U d1 d0 (q2I q) (r2I r)).map fun p => some p.2) := by kernel_rfl
theorem D1_ab (U d1 d0 q r : Int) : probe ED 100 cDL1 (stD1 U d1 d0 q r) 40 [(68, true), (85, true)] ((stD1 U d1 d0 (q2I q) (r2I r)).map (·.1)) = some (2, [cA q true, cA (r2I r) true], (stD1 U d1 d0 (q2I q) (r2I r)).map fun p => some p.2) := by kernel_rfl
theorem D1_bn (U d1 d0 q r : Int) : probe ED 100 cDL1 (stD1 U d1 d0 q r) 40 [(68, false), (77, true), (85, false)] ((stD1 U d1 d0 (q2I q) (r2I r)).map (·.1)) = some (0, [cA q false, cB q r d1 true, cA (r2I r) false], (stD1 U d1 d0 (q2I q) (r2I r)).map fun p => some p.2) := by kernel_rfl
theorem D1_bb (U d1 d0 q r : Int) : probe ED 100 cDL1 (stD1 U d1 d0 q r) 40 [(68, false), (77, true), (85, true)] ((stD1 U d1 d0 (q2I q) (r2I r)).map (·.1)) = some (2, [cA q false, cB q r d1 true, cA (r2I r) true], (stD1 U d1 d0 (q2I q) (r2I r)).map fun p => some p.2) := by kernel_rfl
/-- Ahead of the second loop. -/
def stD2 (q1 V d0 q r : Int) : St := [(4, su y8N), (16, su 1), (18, su v1N), (20, su v0N), (28, su d0), (30, su q1), (34, su V), (36, su q), (32, su r)]
def un21I (U d1 q : Int) : Int := IntKind.u64.wrap (IntKind.u64.wrap (IntKind.u64.wrap (U * 4294967296) + d1) - IntKind.u64.wrap (q * (y8N : Int)))
theorem D_mid (U d1 d0 q r : Int) : probes ED 100 cD2 (stD1 U d1 d0 q r) 40 [] ((stD2 q (un21I U d1 q) d0 (qI (un21I U d1 q)) (rI (un21I U d1 q))).map (·.1)) = some (0, [], (stD2 q (un21I U d1 q) d0 (qI (un21I U d1 q)) (rI (un21I U d1 q))).map fun p => some p.2) := by kernel_rfl
theorem D2_done (q1 V d0 q r : Int) : probe ED 100 cDL2 (stD2 q1 V d0 q r) 40 [(103, false), (112, false)] ((stD2 q1 V d0 q r).map (·.1)) = some (4, [cA q false, cB q r d0 false], (stD2 q1 V d0 q r).map fun p => some p.2) := by kernel_rfl
theorem D2_an (q1 V d0 q r : Int) : probe ED 100 cDL2 (stD2 q1 V d0 q r) 40 [(103, true), (120, false)] ((stD2 q1 V d0 (q2I q) (r2I r)).map (·.1)) = some (0, [cA q true, cA (r2I r) false], (stD2 q1 V d0 (q2I q) (r2I r)).map fun p => some p.2) := by kernel_rfl
theorem D2_ab (q1 V d0 q r : Int) : probe ED 100 cDL2 (stD2 q1 V d0 q r) 40 [(103, true), (120, true)] ((stD2 q1 V d0 (q2I q) (r2I r)).map (·.1)) = some (4, [cA q true, cA (r2I r) true], (stD2 q1 V d0 (q2I q) (r2I r)).map fun p => some p.2) := by kernel_rfl
theorem D2_bn (q1 V d0 q r : Int) : probe ED 100 cDL2 (stD2 q1 V d0 q r) 40 [(103, false), (112, true), (120, false)] ((stD2 q1 V d0 (q2I q) (r2I r)).map (·.1)) = some (0, [cA q false, cB q r d0 true, cA (r2I r) false], (stD2 q1 V d0 (q2I q) (r2I r)).map fun p => some p.2) := by kernel_rfl
theorem D2_bb (q1 V d0 q r : Int) : probe ED 100 cDL2 (stD2 q1 V d0 q r) 40 [(103, false), (112, true), (120, true)] ((stD2 q1 V d0 (q2I q) (r2I r)).map (·.1)) = some (4, [cA q false, cB q r d0 true, cA (r2I r) true], (stD2 q1 V d0 (q2I q) (r2I r)).map fun p => some p.2) := by kernel_rfl
def quoI (q1 q : Int) : Int := IntKind.u64.wrap (IntKind.u64.wrap (q1 * 4294967296) + q)
def remI (V d0 q : Int) : Int := (IntKind.u64.wrap (IntKind.u64.wrap (IntKind.u64.wrap (V * 4294967296) + d0) - IntKind.u64.wrap (q * (y8N : Int)))).fdiv (2 ^ min (Int.toNat 1) IntKind.u64.bits)
theorem D_tail (q1 V d0 q r : Int) : probe ED 100 cDT (stD2 q1 V d0 q r) 40 [] (([(12, su (quoI q1 q)), (14, su (remI V d0 q))] : St).map (·.1)) = some (1, [], ([(12, su (quoI q1 q)), (14, su (remI V d0 q))] : St).map fun p => some p.2) := by kernel_rfl
end Go.Proofs.Ythceokldlinjlaa.Dr
/-
  bits.Div64 by the constant that r's highest word and one make: the contract.
-/
namespace Go.Proofs.Ythceokldlinjlaa.Dr
open Go Go.Eng Go.RowKit Go.Wd Go.Alg Go.Pr

theorem tIff {p : Prop} (h : p) : p ↔ true = true := ⟨fun _ => rfl, fun _ => h⟩
theorem fIff {p : Prop} (h : ¬ p) : p ↔ false = true := ⟨fun e => absurd e h, fun e => by cases e⟩
theorem v_eq : v1N * 4294967296 + v0N = y8N := by decide +kernel
theorem v1_ge : 2147483648 ≤ v1N := by decide +kernel
theorem v1_lt : v1N < 4294967296 := by decide +kernel
theorem v0_lt : v0N < 4294967296 := by decide +kernel
theorem y8_eq : y8N = y0N * 2 := by decide +kernel
theorem y8_lt : y8N < 18446744073709551616 := by decide +kernel
theorem hi32_eq (x : Nat) : hi32 (x : Int) = ((x / 4294967296 : Nat) : Int) := shr32 x
theorem lo32_eq (x : Nat) : lo32 (x : Int) = ((x % 4294967296 : Nat) : Int) := and32 x
theorem un10_eq (lo : Nat) : un10I lo = ((lo * 2 % 18446744073709551616 : Nat) : Int) := by
  unfold un10I
  have : (2 : Int) ^ min (Int.toNat 1) IntKind.u64.bits = ((2 : Nat) : Int) := by decide
  rw [this, ← Int.natCast_mul, wrap_mod]
theorem or_add (a b : Nat) (ha : a * 2 < 18446744073709551616) (hb : b < 2) : Eng.bits .or .u64 ((a * 2 : Nat) : Int) (b : Int) = ((a * 2 + b : Nat) : Int) := by
  have e : (BitVec.ofInt IntKind.u64.bits ((a * 2 : Nat) : Int) ||| BitVec.ofInt IntKind.u64.bits (b : Int)).toNat = a * 2 + b := by
    show (BitVec.ofInt 64 ((a * 2 : Nat) : Int) ||| BitVec.ofInt 64 (b : Int)).toNat = a * 2 + b
    rw [BitVec.toNat_or, BitVec.toNat_ofInt, BitVec.toNat_ofInt]
    have h1 : (((a * 2 : Nat) : Int) % ((2 ^ 64 : Nat) : Int)).toNat = a * 2 := by omega
    have h2 : ((b : Int) % ((2 ^ 64 : Nat) : Int)).toNat = b := by omega
    rw [h1, h2]
    have h3 := Nat.shiftLeft_add_eq_or_of_lt (show b < 2 ^ 1 by omega) a
    rw [Nat.shiftLeft_eq] at h3
    exact h3.symm
  unfold Eng.bits
  simp only [e]
  exact wrap_nat (by omega)
theorem un32_eq (hi lo : Nat) (hh : hi * 2 < 18446744073709551616) (hl : lo < 18446744073709551616) : un32I hi lo = ((hi * 2 + lo / 9223372036854775808 : Nat) : Int) := by
  unfold un32I
  have e1 : (2 : Int) ^ min (Int.toNat 1) IntKind.u64.bits = ((2 : Nat) : Int) := by decide
  have e2 : (2 : Int) ^ min (Int.toNat 63) IntKind.u64.bits = ((9223372036854775808 : Nat) : Int) := by decide
  rw [e1, e2, ← Int.natCast_mul, wrap_nat hh, ← Int.ofNat_fdiv]
  exact or_add hi _ hh (by omega)
theorem qI_eq {U : Nat} (h : U < 18446744073709551616) : qI (U : Int) = ((U / v1N : Nat) : Int) := by
  unfold qI
  rw [← Int.ofNat_tdiv]
  exact wrap_nat (Nat.lt_of_le_of_lt (Nat.div_le_self _ _) h)
theorem rI_eq {U : Nat} (h : U < 18446744073709551616) : rI (U : Int) = ((U % v1N : Nat) : Int) := by
  unfold rI
  rw [qI_eq h, ← Int.natCast_mul]
  have h1 := Nat.div_add_mod U v1N
  rw [Nat.mul_comm] at h1
  rw [wrap_nat (by omega)]
  have : (U : Int) - ((U / v1N * v1N : Nat) : Int) = ((U % v1N : Nat) : Int) := by omega
  rw [this]
  exact wrap_nat (by omega)
theorem r2I_eq {r : Nat} (h : r < 4294967296) : r2I (r : Int) = ((r + v1N : Nat) : Int) := by
  unfold r2I
  have := v1_lt
  rw [← Int.natCast_add]
  exact wrap_nat (by omega)
theorem q2I_eq {q : Nat} (h : 1 ≤ q) (h2 : q ≤ 4294967297) : q2I (q : Int) = ((q - 1 : Nat) : Int) := by
  unfold q2I
  have : (q : Int) - 1 = ((q - 1 : Nat) : Int) := by omega
  rw [this]
  exact wrap_nat (by omega)
theorem cA_iff {q : Nat} {b : Bool} : cA (q : Int) b ↔ (4294967296 ≤ q ↔ b = true) := by
  unfold cA
  have : (q : Int) ≥ 4294967296 ↔ 4294967296 ≤ q := by omega
  rw [this]
theorem cB_iff {q r d : Nat} (hq : q < 4294967296) (hr : r < 4294967296) (hd : d < 4294967296) {b : Bool} : cB (q : Int) (r : Int) (d : Int) b ↔ (4294967296 * r + d < q * v0N ↔ b = true) := by
  unfold cB
  have h1 : q * v0N < 18446744073709551616 := by
    have : q * v0N ≤ 4294967295 * 4294967295 := Nat.mul_le_mul (by omega) (by have := v0_lt; omega)
    omega
  have e1 : (4294967296 : Int) * (r : Int) = ((4294967296 * r : Nat) : Int) := by omega
  rw [← Int.natCast_mul, wrap_nat h1, e1, wrap_nat (by omega), ← Int.natCast_add, wrap_nat (by omega)]
  have : ((q * v0N : Nat) : Int) > ((4294967296 * r + d : Nat) : Int) ↔ 4294967296 * r + d < q * v0N := by omega
  rw [this]
theorem keep_D1 (U d1 d0 q r : Int) : keepsB (stD1 U d1 d0 q r) [] = true := by kernel_rfl
theorem keep_D2 (U d1 d0 q r : Int) : keepsB (stD2 U d1 d0 q r) [] = true := by kernel_rfl
theorem none_blk (st : St) : ∀ id ∈ ([] : List Nat), ∃ l, st.blk id = some l := fun id h => by cases h
theorem D1_loop {w0 : World} {Q : Exit → Act → World → Prop} {U d d0 q0 r0 : Nat} (hU : U < y8N) (hd : d < 4294967296)
    (hQ : ∀ (r : Int) a w, At 135 rho0 w0 (stD1 (U : Int) (d : Int) (d0 : Int) ((kQ v1N v0N U d : Nat) : Int) r) a w → Q (.exit 0) a w) {a : Act} {w : World}
    (hI : KInv v1N v0N U d q0 r0) (hA : At 135 rho0 w0 (stD1 (U : Int) (d : Int) (d0 : Int) (q0 : Int) (r0 : Int)) a w) : (Code.loop cDL1).wp Try.prog Q a w := by
  have hU' : U < v1N * 4294967296 + v0N := by rw [v_eq]; exact hU
  refine loop_rule (w0 := w0) (ρ0 := rho0) (N := 135) (ι := Nat × Nat) (fun p => KInv v1N v0N U d p.1 p.2) (fun p => stD1 (U : Int) (d : Int) (d0 : Int) (p.1 : Int) (p.2 : Int)) (fun p => p.1) ?_ (q0, r0) hI a w hA
  rintro ⟨q, r⟩ hI a w hA
  have hI : KInv v1N v0N U d q r := hI
  have hr := hI.rlt
  have hv0 := v0_lt
  have hv1 := v1_lt
  have er := r2I_eq hr
  by_cases hAq : 4294967296 ≤ q
  · have hb := hI.big hU' hd (.inl hAq)
    have eq := q2I_eq (q := q) (by omega) hI.le
    by_cases hr2 : 4294967296 ≤ r + v1N
    · refine At.probe (E := ED) mixed tyTab_ok callD (D1_ab _ _ _ _ _) (fun p hp => ?_) hA [] (none_blk _) (keep_D1 _ _ _ _ _) (no_rho0 _) fun a' w' hA' => ?_
      · rw [er] at hp
        simp only [List.mem_cons, List.not_mem_nil, or_false] at hp
        rcases hp with rfl | rfl
        · rw [cA_iff]; exact tIff hAq
        · rw [cA_iff]; exact tIff hr2
      · rw [eq, hI.break hU' hd hv0 (.inl hAq) hr2] at hA'
        exact hQ _ a' w' hA'
    · refine At.probe (E := ED) mixed tyTab_ok callD (D1_an _ _ _ _ _) (fun p hp => ?_) hA [] (none_blk _) (keep_D1 _ _ _ _ _) (no_rho0 _) fun a' w' hA' => ⟨(q - 1, r + v1N), hI.next hU' hd (.inl hAq) (by omega), by show q - 1 < q; omega, by rw [eq, er] at hA'; exact hA'⟩
      rw [er] at hp
      simp only [List.mem_cons, List.not_mem_nil, or_false] at hp
      rcases hp with rfl | rfl
      · rw [cA_iff]; exact tIff hAq
      · rw [cA_iff]; exact fIff hr2
  · have hq : q < 4294967296 := by omega
    by_cases hBq : 4294967296 * r + d < q * v0N
    · have hb := hI.big hU' hd (.inr hBq)
      have eq := q2I_eq (q := q) (by omega) hI.le
      by_cases hr2 : 4294967296 ≤ r + v1N
      · refine At.probe (E := ED) mixed tyTab_ok callD (D1_bb _ _ _ _ _) (fun p hp => ?_) hA [] (none_blk _) (keep_D1 _ _ _ _ _) (no_rho0 _) fun a' w' hA' => ?_
        · rw [er] at hp
          simp only [List.mem_cons, List.not_mem_nil, or_false] at hp
          rcases hp with rfl | rfl | rfl
          · rw [cA_iff]; exact fIff hAq
          · rw [cB_iff hq hr hd]; exact tIff hBq
          · rw [cA_iff]; exact tIff hr2
        · rw [eq, hI.break hU' hd hv0 (.inr hBq) hr2] at hA'
          exact hQ _ a' w' hA'
      · refine At.probe (E := ED) mixed tyTab_ok callD (D1_bn _ _ _ _ _) (fun p hp => ?_) hA [] (none_blk _) (keep_D1 _ _ _ _ _) (no_rho0 _) fun a' w' hA' => ⟨(q - 1, r + v1N), hI.next hU' hd (.inr hBq) (by omega), by show q - 1 < q; omega, by rw [eq, er] at hA'; exact hA'⟩
        rw [er] at hp
        simp only [List.mem_cons, List.not_mem_nil, or_false] at hp
        rcases hp with rfl | rfl | rfl
        · rw [cA_iff]; exact fIff hAq
        · rw [cB_iff hq hr hd]; exact tIff hBq
        · rw [cA_iff]; exact fIff hr2
    · refine At.probe (E := ED) mixed tyTab_ok callD (D1_done _ _ _ _ _) (fun p hp => ?_) hA [] (none_blk _) (keep_D1 _ _ _ _ _) (no_rho0 _) fun a' w' hA' => ?_
      · simp only [List.mem_cons, List.not_mem_nil, or_false] at hp
        rcases hp with rfl | rfl
        · rw [cA_iff]; exact fIff hAq
        · rw [cB_iff hq hr hd]; exact fIff hBq
      · rw [hI.done (by rw [v_eq]; decide +kernel) (by omega)] at hA'
        exact hQ _ a' w' hA'
theorem D2_loop {w0 : World} {Q : Exit → Act → World → Prop} {q1 U d q0 r0 : Nat} (hU : U < y8N) (hd : d < 4294967296)
    (hQ : ∀ (r : Int) a w, At 135 rho0 w0 (stD2 (q1 : Int) (U : Int) (d : Int) ((kQ v1N v0N U d : Nat) : Int) r) a w → Q (.exit 2) a w) {a : Act} {w : World}
    (hI : KInv v1N v0N U d q0 r0) (hA : At 135 rho0 w0 (stD2 (q1 : Int) (U : Int) (d : Int) (q0 : Int) (r0 : Int)) a w) : (Code.loop cDL2).wp Try.prog Q a w := by
  have hU' : U < v1N * 4294967296 + v0N := by rw [v_eq]; exact hU
  refine loop_rule (w0 := w0) (ρ0 := rho0) (N := 135) (ι := Nat × Nat) (fun p => KInv v1N v0N U d p.1 p.2) (fun p => stD2 (q1 : Int) (U : Int) (d : Int) (p.1 : Int) (p.2 : Int)) (fun p => p.1) ?_ (q0, r0) hI a w hA
  rintro ⟨q, r⟩ hI a w hA
  have hI : KInv v1N v0N U d q r := hI
  have hr := hI.rlt
  have hv0 := v0_lt
  have hv1 := v1_lt
  have er := r2I_eq hr
  by_cases hAq : 4294967296 ≤ q
  · have hb := hI.big hU' hd (.inl hAq)
    have eq := q2I_eq (q := q) (by omega) hI.le
    by_cases hr2 : 4294967296 ≤ r + v1N
    · refine At.probe (E := ED) mixed tyTab_ok callD (D2_ab _ _ _ _ _) (fun p hp => ?_) hA [] (none_blk _) (keep_D2 _ _ _ _ _) (no_rho0 _) fun a' w' hA' => ?_
      · rw [er] at hp
        simp only [List.mem_cons, List.not_mem_nil, or_false] at hp
        rcases hp with rfl | rfl
        · rw [cA_iff]; exact tIff hAq
        · rw [cA_iff]; exact tIff hr2
      · rw [eq, hI.break hU' hd hv0 (.inl hAq) hr2] at hA'
        exact hQ _ a' w' hA'
    · refine At.probe (E := ED) mixed tyTab_ok callD (D2_an _ _ _ _ _) (fun p hp => ?_) hA [] (none_blk _) (keep_D2 _ _ _ _ _) (no_rho0 _) fun a' w' hA' => ⟨(q - 1, r + v1N), hI.next hU' hd (.inl hAq) (by omega), by show q - 1 < q; omega, by rw [eq, er] at hA'; exact hA'⟩
      rw [er] at hp
      simp only [List.mem_cons, List.not_mem_nil, or_false] at hp
      rcases hp with rfl | rfl
      · rw [cA_iff]; exact tIff hAq
      · rw [cA_iff]; exact fIff hr2
  · have hq : q < 4294967296 := by omega
    by_cases hBq : 4294967296 * r + d < q * v0N
    · have hb := hI.big hU' hd (.inr hBq)
      have eq := q2I_eq (q := q) (by omega) hI.le
      by_cases hr2 : 4294967296 ≤ r + v1N
      · refine At.probe (E := ED) mixed tyTab_ok callD (D2_bb _ _ _ _ _) (fun p hp => ?_) hA [] (none_blk _) (keep_D2 _ _ _ _ _) (no_rho0 _) fun a' w' hA' => ?_
        · rw [er] at hp
          simp only [List.mem_cons, List.not_mem_nil, or_false] at hp
          rcases hp with rfl | rfl | rfl
          · rw [cA_iff]; exact fIff hAq
          · rw [cB_iff hq hr hd]; exact tIff hBq
          · rw [cA_iff]; exact tIff hr2
        · rw [eq, hI.break hU' hd hv0 (.inr hBq) hr2] at hA'
          exact hQ _ a' w' hA'
      · refine At.probe (E := ED) mixed tyTab_ok callD (D2_bn _ _ _ _ _) (fun p hp => ?_) hA [] (none_blk _) (keep_D2 _ _ _ _ _) (no_rho0 _) fun a' w' hA' => ⟨(q - 1, r + v1N), hI.next hU' hd (.inr hBq) (by omega), by show q - 1 < q; omega, by rw [eq, er] at hA'; exact hA'⟩
        rw [er] at hp
        simp only [List.mem_cons, List.not_mem_nil, or_false] at hp
        rcases hp with rfl | rfl | rfl
        · rw [cA_iff]; exact fIff hAq
        · rw [cB_iff hq hr hd]; exact tIff hBq
        · rw [cA_iff]; exact fIff hr2
    · refine At.probe (E := ED) mixed tyTab_ok callD (D2_done _ _ _ _ _) (fun p hp => ?_) hA [] (none_blk _) (keep_D2 _ _ _ _ _) (no_rho0 _) fun a' w' hA' => ?_
      · simp only [List.mem_cons, List.not_mem_nil, or_false] at hp
        rcases hp with rfl | rfl
        · rw [cA_iff]; exact fIff hAq
        · rw [cB_iff hq hr hd]; exact fIff hBq
      · rw [hI.done (by rw [v_eq]; decide +kernel) (by omega)] at hA'
        exact hQ _ a' w' hA'

/-! ### the contract -/
def dvd64 (hi lo : Nat) : Nat := hi * 18446744073709551616 + lo
theorem div_two (U e1 e0 B y : Nat) (hy : 0 < y) : ((U * B + e1) * B + e0) / y = (U * B + e1) / y * B + ((U * B + e1) % y * B + e0) / y := by
  have h := Nat.div_add_mod (U * B + e1) y
  generalize (U * B + e1) / y = a at *
  generalize (U * B + e1) % y = b at *
  have e : (U * B + e1) * B + e0 = (b * B + e0) + a * B * y := by
    rw [← h, Nat.add_mul]
    have e2 : a * B * y = y * a * B := by rw [Nat.mul_comm, Nat.mul_assoc]
    rw [e2]; omega
  rw [e, Nat.add_mul_div_right _ _ hy]; omega
theorem mod_two (A e0 B y : Nat) : (A % y * B + e0) % y = (A * B + e0) % y := by
  rw [Nat.add_mod, Nat.mod_mul_mod, ← Nat.add_mod]
theorem div64_law {hi lo : Nat} (hh : hi < y0N) (hl : lo < 18446744073709551616) :
    let U := hi * 2 + lo / 9223372036854775808
    let w := lo * 2 % 18446744073709551616
    let V := (U * 4294967296 + w / 4294967296) % y8N
    U < y8N ∧ V < y8N ∧ kQ v1N v0N U (w / 4294967296) * 4294967296 + kQ v1N v0N V (w % 4294967296) = dvd64 hi lo / y0N ∧ kQ v1N v0N U (w / 4294967296) < 4294967296 ∧ kQ v1N v0N V (w % 4294967296) < 4294967296 ∧
      (V * 4294967296 + w % 4294967296) - kQ v1N v0N V (w % 4294967296) * y8N = dvd64 hi lo % y0N * 2 ∧ kQ v1N v0N V (w % 4294967296) * y8N ≤ V * 4294967296 + w % 4294967296 := by
  intro U w V
  have hy0 : 0 < y0N := by decide +kernel
  have hy8 : 0 < y8N := by decide +kernel
  have h8 := y8_eq
  have hU : U < y8N := by show hi * 2 + lo / 9223372036854775808 < y8N; omega
  have hV : V < y8N := Nat.mod_lt _ hy8
  have hx : (U * 4294967296 + w / 4294967296) * 4294967296 + w % 4294967296 = dvd64 hi lo * 2 := by
    show ((hi * 2 + lo / 9223372036854775808) * 4294967296 + lo * 2 % 18446744073709551616 / 4294967296) * 4294967296 + lo * 2 % 18446744073709551616 % 4294967296 = (hi * 18446744073709551616 + lo) * 2
    omega
  have hd := div_two U (w / 4294967296) (w % 4294967296) 4294967296 y8N hy8
  rw [hx] at hd
  have hq : dvd64 hi lo * 2 / y8N = dvd64 hi lo / y0N := by rw [h8, Nat.mul_div_mul_right _ _ (by decide)]
  have k1 : kQ v1N v0N U (w / 4294967296) = (U * 4294967296 + w / 4294967296) / y8N := by unfold kQ; rw [v_eq]
  have k2 : kQ v1N v0N V (w % 4294967296) = (V * 4294967296 + w % 4294967296) / y8N := by unfold kQ; rw [v_eq]
  have hlt : ∀ {A e : Nat}, A < y8N → e < 4294967296 → (A * 4294967296 + e) / y8N < 4294967296 := by
    intro A e hA he
    rw [Nat.div_lt_iff_lt_mul hy8]
    have : (A + 1) * 4294967296 ≤ y8N * 4294967296 := Nat.mul_le_mul_right _ hA
    rw [Nat.add_mul] at this
    rw [Nat.mul_comm 4294967296]; omega
  have hm : (V * 4294967296 + w % 4294967296) % y8N = dvd64 hi lo % y0N * 2 := by
    have e1 : dvd64 hi lo * 2 % y8N = dvd64 hi lo % y0N * 2 := by rw [h8, Nat.mul_mod_mul_right]
    rw [← e1, ← hx]
    exact mod_two _ _ _ _
  have hdm := Nat.div_add_mod (V * 4294967296 + w % 4294967296) y8N
  rw [Nat.mul_comm] at hdm
  refine ⟨hU, hV, ?_, ?_, ?_, ?_, ?_⟩
  · rw [k1, k2, ← hq, hd]
  · rw [k1]; exact hlt hU (by omega)
  · rw [k2]; exact hlt hV (by omega)
  · rw [k2, ← hm]; omega
  · rw [k2]; omega
end Go.Proofs.Ythceokldlinjlaa.Dr
namespace Go.Proofs.Ythceokldlinjlaa.Dr
open Go Go.Eng Go.RowKit Go.Wd Go.Alg Go.Pr

theorem vals_D (hi lo : Nat) : vals rho0 [uw hi, uw lo, uw y0N] = some [uv hi, uv lo, uv y0N] := by simp only [vals, val_uw]
theorem y0_lt8 : y0N * 2 < 18446744073709551616 := by decide +kernel
theorem un21_eq {U d q : Nat} (hq : q * y8N ≤ U * 4294967296 + d) (hlt : U * 4294967296 + d - q * y8N < 18446744073709551616) : un21I (U : Int) (d : Int) (q : Int) = ((U * 4294967296 + d - q * y8N : Nat) : Int) := by
  unfold un21I
  have e1 : IntKind.u64.wrap ((U : Int) * 4294967296) = ((U * 4294967296 % 18446744073709551616 : Nat) : Int) := by
    rw [show (U : Int) * 4294967296 = ((U * 4294967296 : Nat) : Int) by omega, wrap_mod]
  rw [e1, ← Int.natCast_add, wrap_mod, ← Int.natCast_mul, wrap_mod]
  generalize q * y8N = z at *
  generalize U * 4294967296 = x at *
  unfold IntKind.wrap
  simp only [IntKind.signed, IntKind.bits, Bool.false_and, Bool.false_eq_true, if_false]
  omega
theorem div64_pure {hi lo : Nat} (hh : hi < y0N) (hl : lo < 18446744073709551616) : Pure Try.prog 136 [uv hi, uv lo, uv y0N] (.tuple #[uv (dvd64 hi lo / y0N), uv (dvd64 hi lo % y0N)]) := by
  have hy0 : 0 < y0N := by decide +kernel
  have hy8 := y0_lt8
  by_cases h0 : hi = 0
  · subst h0
    refine pure_of_run1 (tableT_ok (by
      simp only [List.forall_mem_cons, List.not_mem_nil, false_imp_iff, implies_true, and_true]
      exact lz_ok)) (D_zero 0 lo) (fun p hp => ?_) (vals_D 0 lo) fun ρ u hu => ?_
    · rcases List.mem_cons.1 hp with rfl | hp
      · exact fIff (by omega)
      · rw [List.mem_singleton] at hp
        subst hp
        exact tIff rfl
    · rw [tup2_val hu]
      have e : dvd64 0 lo = lo := by unfold dvd64; omega
      rw [e, ← Int.ofNat_tdiv, ← Int.ofNat_tmod]
      have : lo / y0N < 18446744073709551616 := Nat.lt_of_le_of_lt (Nat.div_le_self _ _) hl
      rw [wrap_nat this]; rfl
  · intro w
    refine .inr ⟨dD_ok.enter _ _, ?_⟩
    obtain ⟨hU, hV, hq, k1, k2, hr, hr2⟩ := div64_law hh hl
    have hU1 := un32_eq hi lo (by omega) hl
    have hw1 := un10_eq lo
    generalize hUU : hi * 2 + lo / 9223372036854775808 = U at *
    generalize hww : lo * 2 % 18446744073709551616 = t at *
    have ht : t < 18446744073709551616 := by rw [← hww]; exact Nat.mod_lt _ (by decide)
    have hy8l := y8_lt
    have hQ1 : kQ v1N v0N U (t / 4294967296) = (U * 4294967296 + t / 4294967296) / y8N := by unfold kQ; rw [v_eq]
    have hV1 : (U * 4294967296 + t / 4294967296) % y8N = U * 4294967296 + t / 4294967296 - kQ v1N v0N U (t / 4294967296) * y8N := by
      rw [hQ1]
      have := Nat.div_add_mod (U * 4294967296 + t / 4294967296) y8N
      rw [Nat.mul_comm] at this; omega
    have hV2 : kQ v1N v0N U (t / 4294967296) * y8N ≤ U * 4294967296 + t / 4294967296 := by rw [hQ1]; exact Nat.div_mul_le_self _ _
    generalize hVV : (U * 4294967296 + t / 4294967296) % y8N = V at *
    refine (calls_of_at (G := fun xs st => xs = [uw (dvd64 hi lo / y0N), uw (dvd64 hi lo % y0N)]) tyTab_ok dD_ok (mem_rho0 w) (by kernel_rfl) (vals_D hi lo) (by rw [dD_ntmps]; simp) fun a hA0 => ?_).mono ?_
    · rw [dD_ntmps] at hA0
      have hA0 : At 135 rho0 w (inD hi lo) a w := hA0
      rw [dD_ntmps, dD_results, dD_chain]
      refine At.probes (E := ED) mixed tyTab_ok callD (D_start hi lo) (fun p hp => ?_) hA0 [] (none_blk _) (keep_D1 _ _ _ _ _) (no_rho0 _) fun a1 w1 h1 => ?_
      · simp only [List.mem_cons, List.not_mem_nil, or_false] at hp
        rcases hp with rfl | rfl
        · exact fIff (by omega)
        · exact fIff (by omega)
      rw [hU1, hw1, hi32_eq, lo32_eq, qI_eq (by omega), rI_eq (by omega)] at h1
      show Code.wp _ _ _ _ _
      refine wp_seq (wp_block (D1_loop hU (by omega) (fun r a2 w2 h2 => ?_) (k_start v1_ge v1_lt v0_lt (by omega) (by rw [v_eq]; exact hU)) h1))
      show Code.wp _ _ _ _ _
      refine At.probes (E := ED) mixed tyTab_ok callD (D_mid _ _ _ _ _) (fun p hp => by cases hp) h2 [] (none_blk _) (keep_D2 _ _ _ _ _) (no_rho0 _) fun a3 w3 h3 => ?_
      rw [un21_eq hV2 (by omega), ← hV1, qI_eq (by omega), rI_eq (by omega)] at h3
      show Code.wp _ _ _ _ _
      refine wp_seq (wp_block (D2_loop hV (by omega) (fun r a4 w4 h4 => ?_) (k_start v1_ge v1_lt v0_lt (by omega) (by rw [v_eq]; exact hV)) h3))
      show Code.wp _ _ _ _ _
      refine At.probe (E := ED) mixed tyTab_ok callD (D_tail _ _ _ _ _) (fun p hp => by cases hp) h4 [] (none_blk _) (by kernel_rfl) (no_rho0 _) fun a5 w5 h5 => ?_
      have eq : quoI ((kQ v1N v0N U (t / 4294967296) : Nat) : Int) ((kQ v1N v0N V (t % 4294967296) : Nat) : Int) = ((dvd64 hi lo / y0N : Nat) : Int) := by
        unfold quoI
        rw [← hq, show ((kQ v1N v0N U (t / 4294967296) : Nat) : Int) * 4294967296 = ((kQ v1N v0N U (t / 4294967296) * 4294967296 : Nat) : Int) by omega, wrap_nat (by omega), ← Int.natCast_add, wrap_nat (by omega)]
      have er : remI (V : Int) ((t % 4294967296 : Nat) : Int) ((kQ v1N v0N V (t % 4294967296) : Nat) : Int) = ((dvd64 hi lo % y0N : Nat) : Int) := by
        have hm : dvd64 hi lo % y0N < y0N := Nat.mod_lt _ hy0
        have := un21_eq (U := V) (d := t % 4294967296) hr2 (by omega)
        unfold un21I at this
        unfold remI
        rw [this, hr]
        have e2 : (2 : Int) ^ min (Int.toNat 1) IntKind.u64.bits = ((2 : Nat) : Int) := by decide
        rw [e2, ← Int.ofNat_fdiv, Nat.mul_div_cancel _ (by decide)]
      rw [eq, er] at h5
      exact ⟨.inr rfl, _, [uw (dvd64 hi lo / y0N), uw (dvd64 hi lo % y0N)], h5, rfl, rfl⟩
    · rintro e w' ⟨v, rfl, xs, st, ρ', hE, hval, hMk, rfl⟩
      refine ⟨v, rfl, ?_, hE.below fun b ⟨id, _, _, hq⟩ => by cases hq⟩
      have : SV.val ρ' (.tup [⟨false, [.v (.int .u64 ((dvd64 hi lo / y0N : Nat) : Int))]⟩, ⟨false, [.v (.int .u64 ((dvd64 hi lo % y0N : Nat) : Int))]⟩]) = some v := hval
      exact tup2_val this
def div64Row : Row where
  f := 136
  ans := fun
    | [⟨false, [.v (.int .u64 x)]⟩, ⟨false, [.v (.int .u64 y)]⟩, ⟨false, [.v (.int .u64 z)]⟩] =>
      some (.tup [uw ((x.toNat * 18446744073709551616 + y.toNat) / y0N), uw ((x.toNat * 18446744073709551616 + y.toNat) % y0N)], [0 ≤ x ∧ x < (y0N : Int) ∧ 0 ≤ y ∧ y < 18446744073709551616 ∧ z = (y0N : Int)])
    | _ => none
theorem div64_ok : RowOk Try.prog div64Row := by
  intro args s ob h hob ρ vs hv
  unfold div64Row at h
  simp only at h
  split at h
  · rename_i x y z
    cases h
    obtain ⟨h1, h2, h3, h4, h5⟩ := hob _ (List.mem_singleton.2 rfl)
    rw [vals_u3 hv]
    refine ⟨.tuple #[uv ((x.toNat * 18446744073709551616 + y.toNat) / y0N), uv ((x.toNat * 18446744073709551616 + y.toNat) % y0N)], ?_, ?_⟩
    · have e : ∀ n : Nat, AV.val rho0 (uw n) = some (uv n) := fun n => AV.val_v (ρ := rho0) (x := uv n) rfl
      simp only [SV.val, vals, e]
    · have hp := div64_pure (hi := x.toNat) (lo := y.toNat) (by omega) (by omega)
      have ex : x = ((x.toNat : Nat) : Int) := by omega
      have ey : y = ((y.toNat : Nat) : Int) := by omega
      rw [h5]
      unfold uv dvd64 at hp
      rw [← ex, ← ey] at hp
      exact hp
  · cases h
end Go.Proofs.Ythceokldlinjlaa.Dr
