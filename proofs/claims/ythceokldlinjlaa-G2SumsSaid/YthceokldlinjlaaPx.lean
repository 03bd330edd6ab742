/-
  Functions that read a slice of words: contracts, rows, the bits of a number by its words.
-/
import Derived.Test.YthceokldlinjlaaN
import Derived.Test.YthceokldlinjlaaFf
namespace Go.Proofs.Ythceokldlinjlaa
open Go Go.Eng Go.RowKit Go.Wd

/-- The cells at a slice hold a number's words. -/
def SlHas (w : World) (b o len n : Nat) : Prop := b < w.heap.size ∧ ∀ i v, (words len n)[i]? = some v → w.cell? ⟨b, o + i, none⟩ = some v
/-- Called with such a slice the function hands back r, and nothing that was there has turned. -/
def PureS (P : Program) (f : FuncId) (args : Value → List Value) (r : Nat → Nat → Value) : Prop :=
  ∀ (b o len cap n : Nat), len < 4294967296 → ∀ w, SlHas w b o len n → Invoked P f (args (.slice (some ⟨b, o, none⟩) len cap)).toArray w fun u w' => u = r len n ∧ Below w.heap.size w w'
theorem words_cons {a : Nat} (ha : a < 18446744073709551616) (k n : Nat) : words (k + 1) (a + n * 18446744073709551616) = .int .u64 (a : Int) :: words k n := by
  have h : ∀ i, dg (a + n * 18446744073709551616) (i + 1) = dg n i := by
    intro i
    unfold dg
    rw [pw_succ, Nat.mul_comm (pw i), ← Nat.div_div_eq_div_mul]
    congr 2
    omega
  have h0 : dg (a + n * 18446744073709551616) 0 = a := by
    unfold dg
    rw [pw_zero, Nat.div_one, two64]
    omega
  unfold words
  rw [List.range_succ_eq_map, List.map_cons, List.map_map]
  congr 1
  · rw [word_dg, h0]
  · apply List.map_congr_left
    intro i _
    show word _ (i + 1) = word n i
    rw [word_dg, word_dg, h]
/-- A row of words as a number; what is owed for it. -/
def numIts : List It → Option (Nat × List Prop)
  | [] => some (0, [])
  | [.w _ n] => some (n, [])
  | .v (.int .u64 a) :: l => match numIts l with
    | some (n, ob) => some (a.toNat + n * 18446744073709551616, (0 ≤ a ∧ a < 18446744073709551616) :: ob)
    | none => none
  | _ => none
theorem numIts_ok : ∀ (l : List It) (n : Nat) (ob : List Prop), numIts l = some (n, ob) → (∀ p ∈ ob, p) → ∀ {ρ : Rho} {vs : List Value}, conc ρ l = some vs → vs = words vs.length n := by
  intro l
  induction l with
  | nil => intro n ob h _ ρ vs hv; cases h; cases hv; rfl
  | cons i l ih =>
    intro n ob h hob ρ vs hv
    unfold numIts at h
    split at h
    · rename_i h0; cases h0
    · rename_i k m h0
      cases h0
      cases h
      simp only [conc, It.cs, Option.some.injEq, List.append_nil] at hv
      rw [← hv, length_words]
    · rename_i a l' h0
      cases h0
      split at h
      · rename_i m ob' hm
        cases h
        obtain ⟨x, y, hx, hy, rfl⟩ := conc_cons hv
        have hx : x = [.int .u64 a] := by
          simp only [It.cs, Value.oneCell', Option.some.injEq] at hx
          exact hx.symm
        subst hx
        have hb := hob _ List.mem_cons_self
        have e := ih m ob' hm (fun p hp => hob p (List.mem_cons_of_mem _ hp)) hy
        have hlt : a.toNat < 18446744073709551616 := by omega
        have hc := words_cons hlt y.length m
        show _ :: y = words (y.length + 1) _
        rw [hc, ← e, Int.toNat_of_nonneg hb.1]
      · cases h
    · cases h
/-- A block that is read at any place. -/
def anyOf : List It → Option (Nat × Nat)
  | [.w 0 _, .w k n] => some (k, n)
  | _ => none
theorem anyOf_ok {B : List It} {k n : Nat} (h : anyOf B = some (k, n)) : ∃ z, B = [.w 0 z, .w k n] := by
  unfold anyOf at h
  split at h
  · cases h; exact ⟨_, rfl⟩
  · cases h
/-- A slice handed on: its length, its number. -/
def slArg (x : AV) (m : St) : Option (Nat × Nat × List Prop) := match x with
  | ⟨false, [.c id len]⟩ => match app id && Nat.ble 1 len, m.blk id with
    | true, some B => match cut B 0 len with
      | some its => match numIts its with
        | some (n, ob) => some (len, n, (len < 4294967296) :: ob)
        | none => none
      | none => none
    | _, _ => none
  | ⟨false, [.s id off len _]⟩ => match m.rblk id with
    | some B => match anyOf B with
      | some (k, n) => some (len, n, [off = 0, len = k, len < 4294967296])
      | none => match cut B off len with
        | some its => match numIts its with
          | some (n, ob) => some (len, n, (len < 4294967296) :: ob)
          | none => none
        | none => none
    | none => none
  | ⟨false, [.v (.slice none 0 0)]⟩ => some (0, 0, [])
  | _ => none
theorem slArg_ok {x : AV} {m : St} {len n : Nat} {ob : List Prop} (h : slArg x m = some (len, n, ob)) (hob : ∀ p ∈ ob, p) {ρ : Rho} {w : World} (hM : Mem ρ m w) {v : Value} (hv : x.val ρ = some v) :
    (len = 0 ∧ n = 0 ∧ v = .slice none 0 0) ∨ ∃ b o cap, v = .slice (some ⟨b, o, none⟩) len cap ∧ len < 4294967296 ∧ SlHas w b o len n := by
  unfold slArg at h
  split at h
  · rename_i id l
    split at h
    · rename_i B hap hB
      rw [Bool.and_eq_true] at hap
      split at h
      · rename_i its hits
        split at h
        · rename_i k ob' hk
          cases h
          right
          obtain ⟨q, hq, rfl⟩ := cslice_val hv
          obtain ⟨b, o, us, e1, e2, e3, _, _, e6⟩ := hM.ok.blk id B hB
          rw [hq] at e1; cases e1
          obtain ⟨h1, h2⟩ := cut_conc hits e2
          have e := numIts_ok _ _ _ hk (fun p hp => hob p (List.mem_cons_of_mem _ hp)) h2
          have hlen : 1 ≤ len := by simpa using hap.2
          have hl : ((us.drop 0).take len).length = len := by rw [List.length_take, List.length_drop]; omega
          rw [hl] at e
          obtain ⟨cur, t, ht, _, hpre⟩ := e6 hap.1 (fun e => by subst e; simp at h1; omega)
          refine ⟨b, 0, o, rfl, hob _ List.mem_cons_self, e3, fun i v hi => ?_⟩
          rw [← e, List.getElem?_take] at hi
          split at hi
          · rw [List.drop_zero] at hi
            rw [cell_of_row w b _ _ t _ ht, Nat.zero_add]
            exact hpre i v hi
          · cases hi
        · cases h
      · cases h
    · cases h
  · rename_i id off l cap
    split at h
    · rename_i B hB
      obtain ⟨happ, hB⟩ := rblk_blk hB
      split at h
      · rename_i k n' hk
        cases h
        right
        simp only [List.mem_cons, List.not_mem_nil, or_false, forall_eq_or_imp, forall_eq] at hob
        obtain ⟨rfl, rfl, hlt⟩ := hob
        obtain ⟨z, rfl⟩ := anyOf_ok hk
        obtain ⟨q, hq, rfl⟩ := slice_val hv
        obtain ⟨b, o, us, e1, e2, e3, e4, e5, _⟩ := hM.ok.blk id _ hB
        rw [hq] at e1; cases e1
        have e2 : us = words len n := by
          simp only [conc, It.cs, Option.some.injEq, List.append_nil] at e2
          rw [← e2]; simp [words]
        subst e2
        refine ⟨b, o, cap, rfl, hlt, e3, fun i v hi => ?_⟩
        cases ho : own id with
        | true =>
          obtain ⟨rfl, t, ht⟩ := e4 ho
          rw [cell_of_row w b _ _ t _ ht, Nat.zero_add]
          simpa using hi
        | false => exact e5 ho happ _ _ hi
      · split at h
        · rename_i its hits
          split at h
          · rename_i k ob' hk
            cases h
            right
            obtain ⟨q, hq, rfl⟩ := slice_val hv
            obtain ⟨b, o, us, e1, e2, e3, e4, e5, _⟩ := hM.ok.blk id B hB
            rw [hq] at e1; cases e1
            obtain ⟨h1, h2⟩ := cut_conc hits e2
            have e := numIts_ok _ _ _ hk (fun p hp => hob p (List.mem_cons_of_mem _ hp)) h2
            have hl : ((us.drop off).take len).length = len := by rw [List.length_take, List.length_drop]; omega
            rw [hl] at e
            refine ⟨b, o + off, cap, rfl, hob _ List.mem_cons_self, e3, fun i v hi => ?_⟩
            rw [← e, List.getElem?_take] at hi
            split at hi
            · rw [List.getElem?_drop] at hi
              rw [Nat.add_assoc]
              cases ho : own id with
              | true =>
                obtain ⟨rfl, t, ht⟩ := e4 ho
                rw [cell_of_row w b _ _ t _ ht, Nat.zero_add]
                simpa using hi
              | false => exact e5 ho happ _ _ hi
            · cases hi
          · cases h
        · cases h
    · cases h
  · cases h
    left
    refine ⟨rfl, rfl, ?_⟩
    have e : AV.val ρ ⟨false, [.v (.slice none 0 0)]⟩ = some (.slice none 0 0) := AV.val_v (ρ := ρ) (x := .slice none 0 0) rfl
    rw [e] at hv
    cases hv; rfl
  · cases h
/-- A row for a function of a tuple and a slice of words. -/
def rowSA {A B : Type} [Nm A] [Nm B] (f : FuncId) (g : A → Nat → B) : CallT := fun f' args m _ => match f' == f with
  | true => match args with
    | [x, y] => match asN A x, slArg y m with
      | some a, some (len, n, ob) => some { val := .one (wN (g a (n % pw len))), wr := [], news := [], ob := ob }
      | _, _ => none
    | _ => none
  | false => none
theorem puts_nil (m : St) : puts m (blkW ([] ++ [])) = m := rfl
theorem rowSA_ok {A B : Type} [Nm A] [Nm B] {f : FuncId} {g : A → Nat → B} (h : ∀ a, PureS Try.prog f (fun s => [wv a, s]) (fun len n => wv (g a (n % pw len)))) (h0 : ∀ a, Pure Try.prog f [wv a, .slice none 0 0] (wv (g a 0))) : CallOk Try.prog (rowSA f g) := by
  intro f' args m nid out hout hob ρ w vs hv hM hnew
  unfold rowSA at hout
  split at hout
  · rename_i hf
    rw [beq_iff_eq] at hf
    subst hf
    split at hout
    · rename_i x y
      split at hout
      · rename_i a len n ob ha hs
        cases hout
        obtain ⟨v1, us, h1, h2, rfl⟩ := vals_cons hv
        obtain ⟨v2, us', h3, h4, rfl⟩ := vals_cons h2
        cases h4
        rw [asN_ok ha h1]
        have fin : ∀ (u : Value) (w' : World), u = wv (g a (n % pw len)) ∧ Below w.heap.size w w' → ∃ ρ', Ext ρ w ρ' w' ∧ (SV.one (wN (g a (n % pw len)))).val ρ' = some u ∧ Mem ρ' (puts m (blkW ([] ++ []))) w' := by
          rintro u w' ⟨rfl, hb⟩
          exact ⟨ρ, Ext.of_below hb, val_wN _ _, hM.of_below hb⟩
        rcases slArg_ok hs hob hM h3 with ⟨rfl, rfl, rfl⟩ | ⟨b, o, cap, rfl, hlen, hsl⟩
        · exact (h0 a w).mono fun u w' hu => fin u w' hu
        · exact (h a b o len cap n hlen w hsl).mono fun u w' hu => fin u w' hu
      · cases hout
    · cases hout
  · cases hout

/-! ### the block of such a slice, in a run -/
def rho1 (b o : Nat) : Rho := fun id => if id = 1 then some (b, o) else none
/-- Words that are read at any place. -/
def anyW (len n : Nat) : List It := [.w 0 0, .w len n]
def mem1 (len n : Nat) : St := [(3, .bl (anyW len n))]
theorem blk_mem1 (len n id : Nat) : (mem1 len n).blk id = if id = 1 then some (anyW len n) else none := by
  unfold St.blk mem1
  simp only [Eng.look, beq_iff_eq]
  by_cases h : id = 1
  · subst h; rfl
  · have e1 : ¬ 3 = 2 * id + 1 := by omega
    simp only [e1, h, if_false]
theorem mem_rho1 {w : World} {b o len n : Nat} (h : SlHas w b o len n) : Mem (rho1 b o) (mem1 len n) w := by
  refine ⟨⟨fun id l hl => ?_⟩, ⟨fun id id' b' o1 o2 _ _ ho _ _ _ _ e1 _ => ?_⟩, fun id q hq => ?_⟩
  · rw [blk_mem1] at hl
    split at hl
    · rename_i e; cases hl; subst e
      refine ⟨b, o, words len n, by simp [rho1], by simp [anyW, conc, It.cs, words], h.1, fun ho => by simp [own] at ho, fun _ _ => h.2, fun ho => by simp [app] at ho⟩
    · cases hl
  · unfold rho1 at e1
    split at e1
    · rename_i e; subst e; simp [own, app] at ho
    · cases e1
  · rw [blk_mem1]
    unfold rho1 at hq
    split at hq
    · rename_i e; exact ⟨_, if_pos e⟩
    · cases hq
theorem no_own1 (b o : Nat) : ∀ c, ¬ Own (rho1 b o) c := by
  rintro c ⟨id, _, ho, hq⟩
  unfold rho1 at hq
  split at hq
  · rename_i e; subst e; simp [own, app] at ho
  · cases hq
theorem val_sl1 (b o len cap : Nat) : AV.val (rho1 b o) ⟨false, [.s 1 0 len cap]⟩ = some (.slice (some ⟨b, o, none⟩) len cap) := AV.val_mk (by simp [It.cs, rho1])

/-! ### bits -/
theorem wrap_small {a : Int} (h1 : -9223372036854775808 ≤ a) (h2 : a < 9223372036854775808) : IntKind.i64.wrap a = a := by
  have key : ∀ b : Int, (if (true && decide (b % (2 ^ 64 : Int) ≥ (2 ^ 63 : Int))) = true then b % (2 ^ 64 : Int) - (2 ^ 64 : Int) else b % (2 ^ 64 : Int)) = if b % 18446744073709551616 ≥ 9223372036854775808 then b % 18446744073709551616 - 18446744073709551616 else b % 18446744073709551616 := by
    intro b
    simp only [Bool.true_and, decide_eq_true_eq]
    rfl
  refine (key a).trans ?_
  split <;> omega

/-- The bit of a place, as the code asks for it. -/
theorem bit_of (n : Nat) {k : Nat} : dg n (k / 64) / 2 ^ (k % 64) % 2 = n / 2 ^ k % 2 := by
  unfold dg pw
  have e : k = 64 * (k / 64) + k % 64 := by omega
  have hd : n / 2 ^ k = n / 2 ^ (64 * (k / 64)) / 2 ^ (k % 64) := by
    rw [Nat.div_div_eq_div_mul, ← Nat.pow_add, ← e]
  rw [hd]
  generalize n / 2 ^ (64 * (k / 64)) = m
  have h64 : (2 : Nat) ^ 64 = 2 ^ (k % 64) * 2 * 2 ^ (63 - k % 64) := by
    rw [← Nat.pow_succ, ← Nat.pow_add]
    congr 1; omega
  rw [h64, Nat.mul_assoc, Nat.mod_mul_right_div_self, Nat.mod_mul_right_mod]
end Go.Proofs.Ythceokldlinjlaa
/-
  Powers by the bits of a slice of words: fp2.Pow.
-/
namespace Go.Proofs.Ythceokldlinjlaa
open Go Go.Eng Go.RowKit Go.Wd Go.Alg Go.Pr

/-- A slot that holds a row of six words a number, or an integer, a bool, a slice. -/
def sI (n : Int) : Ct := .sl (vI .i64 n)
def sS (id len cap : Nat) : Ct := .sl (it1 (.s id 0 len cap))
def bN {A : Type} [Nm A] (x : A) : Ct := .bl ((Nm.toL x).map (It.w 6))
theorem no_rho1 {b o : Nat} {l : List Nat} (h : 1 ∈ l) : ∀ id q, rho1 b o id = some q → id ∈ l := by
  intro id q hq
  unfold rho1 at hq
  split at hq
  · rename_i e; rw [e]; exact h
  · cases hq
/-- What the bit at place k of n's words owes. -/
def bitV (n : Nat) (k : Int) : Int := Eng.bits .and .u64 ((word64 n (0 + (IntKind.i64.wrap (k.tdiv 64)).toNat * 1)).fdiv (2 ^ min (k.tmod 64).toNat IntKind.u64.bits)) 1
  where word64 (n i : Nat) : Int := ((n / 2 ^ (64 * i) % 2 ^ 64 : Nat) : Int)
theorem tdiv64 (k : Nat) : ((k : Int).tdiv 64) = ((k / 64 : Nat) : Int) := by
  rw [Int.tdiv_eq_ediv_of_nonneg (by omega)]; omega
theorem tmod64 (k : Nat) : ((k : Int).tmod 64) = ((k % 64 : Nat) : Int) := by
  rw [Int.tmod_eq_emod_of_nonneg (by omega)]; omega
theorem wtdiv64 {k : Nat} (h : k < 9223372036854775808) : IntKind.i64.wrap ((k : Int).tdiv 64) = ((k / 64 : Nat) : Int) := by
  rw [tdiv64, wrap_small (by omega) (by omega)]
theorem bitV_eq (n : Nat) {k : Nat} (hk : k < 9223372036854775808) : bitV n (k : Int) = ((n / 2 ^ k % 2 : Nat) : Int) := by
  unfold bitV bitV.word64
  have h2 : ((k : Int).tmod 64).toNat = k % 64 := by rw [tmod64]; omega
  rw [wtdiv64 hk, Int.toNat_natCast, h2, Nat.zero_add, Nat.mul_one]
  have h3 : min (k % 64) IntKind.u64.bits = k % 64 := by
    have : IntKind.u64.bits = 64 := rfl
    rw [this]; omega
  rw [h3]
  have h4 : (2 : Int) ^ (k % 64) = ((2 ^ (k % 64) : Nat) : Int) := by simp
  rw [h4, ← Int.ofNat_fdiv, and1_eq]
  have := bit_of n (k := k)
  unfold dg pw at this
  rw [this]

/-! ### fp2.Pow -/
def one12 : List It := [.v (.int .u64 1), .v (.int .u64 0), .v (.int .u64 0), .v (.int .u64 0), .v (.int .u64 0), .v (.int .u64 0), .w 6 0]
def N64 (len : Nat) : Int := IntKind.i64.wrap (64 * (len : Int))
def kP2 (len : Nat) (i : Int) : Int := IntKind.i64.wrap (IntKind.i64.wrap (N64 len - 1) - i)
def obP2 (len n : Nat) (N i : Int) (b : Bool) : List Prop := [i < N ↔ true = true, 0 ≤ IntKind.i64.wrap ((kP2 len i).tdiv 64) ∧ IntKind.i64.wrap ((kP2 len i).tdiv 64) < (len : Int), 0 + (IntKind.i64.wrap ((kP2 len i).tdiv 64)).toNat * 1 < len, 0 ≤ (kP2 len i).tmod 64, bitV n (kP2 len i) = 1 ↔ b = true]
def pow2 (x : N2) (m : Nat) : N2 := κ2 (pow (ι2 x) m)

/-! the bits, plainly -/
theorem half_step (m k : Nat) : m / 2 ^ k = 2 * (m / 2 ^ (k + 1)) + m / 2 ^ k % 2 := by
  rw [Nat.pow_succ, ← Nat.div_div_eq_div_mul]; omega
theorem bit_mod (n : Nat) {len k : Nat} (h : k < 64 * len) : n / 2 ^ k % 2 = n % pw len / 2 ^ k % 2 := by
  unfold pw
  have e : (2 : Nat) ^ (64 * len) = 2 ^ k * 2 * 2 ^ (64 * len - k - 1) := by
    rw [← Nat.pow_succ, ← Nat.pow_add]; congr 1; omega
  rw [e, Nat.mul_assoc, Nat.mod_mul_right_div_self, Nat.mod_mul_right_mod]
section
variable {R : Type} [CRing R]
theorem pow_step0 (z : R) {m k : Nat} (e : m / 2 ^ k % 2 = 0) : pow z (m / 2 ^ k) = pow z (m / 2 ^ (k + 1)) * pow z (m / 2 ^ (k + 1)) := by
  have h := half_step m k
  rw [e, Nat.add_zero, Nat.two_mul] at h
  rw [h, pow_add]
theorem pow_step1 (z : R) {m k : Nat} (e : m / 2 ^ k % 2 = 1) : pow z (m / 2 ^ k) = pow z (m / 2 ^ (k + 1)) * pow z (m / 2 ^ (k + 1)) * z := by
  have h := half_step m k
  rw [e, Nat.two_mul] at h
  rw [h, pow_succ, pow_add]
end
theorem N64_eq {len : Nat} (h : len < 4294967296) : N64 len = ((64 * len : Nat) : Int) := by
  unfold N64
  rw [wrap_small (by omega) (by omega)]; omega
theorem kP2_eq {len j : Nat} (h : len < 4294967296) (hj : j < 64 * len) : kP2 len (j : Int) = ((64 * len - 1 - j : Nat) : Int) := by
  unfold kP2
  rw [N64_eq h, wrap_small (a := ((64 * len : Nat) : Int) - 1) (by omega) (by omega), wrap_small (by omega) (by omega)]; omega
theorem obP2_ok {len n j : Nat} (h : len < 4294967296) (hj : j < 64 * len) {b : Bool} (hb : n / 2 ^ (64 * len - 1 - j) % 2 = 1 ↔ b = true) : ∀ p ∈ obP2 len n (N64 len) (j : Int) b, p := by
  intro p hp
  unfold obP2 at hp
  rw [kP2_eq h hj, wtdiv64 (by omega), tmod64, bitV_eq _ (by omega), N64_eq h] at hp
  rcases List.mem_cons.1 hp with rfl | hp
  · exact ⟨fun _ => rfl, fun _ => by omega⟩
  rcases List.mem_cons.1 hp with rfl | hp
  · omega
  rcases List.mem_cons.1 hp with rfl | hp
  · rw [Int.toNat_natCast]; omega
  rcases List.mem_cons.1 hp with rfl | hp
  · omega
  rcases List.mem_cons.1 hp with rfl | hp
  · rw [← hb]; omega
  · cases hp
theorem one12_conc : ∀ ρ vs, conc ρ one12 = some vs → conc ρ ((Nm.toL (κ2 1)).map (It.w 6)) = some vs := by
  intro ρ vs h
  have e6 : words 6 1 = [Value.int .u64 1, .int .u64 0, .int .u64 0, .int .u64 0, .int .u64 0, .int .u64 0] := by kernel_rfl
  have e : conc ρ one12 = some (words 6 1 ++ words 6 0) := by
    rw [e6]
    simp [one12, conc, It.cs, Value.oneCell']
  rw [e] at h
  have e1 : Nm.toL (κ2 1) = [1, 0] := by decide +kernel
  rw [e1]
  cases h
  simp [conc, It.cs]
def oneF : List It := [.v (.int .u64 1), .v (.int .u64 0), .v (.int .u64 0), .v (.int .u64 0), .v (.int .u64 0), .v (.int .u64 0)]
theorem oneF_conc : ∀ ρ vs, conc ρ oneF = some vs → conc ρ ((Nm.toL (Z.val (1 : F))).map (It.w 6)) = some vs := by
  intro ρ vs h
  have e6 : words 6 1 = [Value.int .u64 1, .int .u64 0, .int .u64 0, .int .u64 0, .int .u64 0, .int .u64 0] := by kernel_rfl
  have e : conc ρ oneF = some (words 6 1) := by
    rw [e6]
    simp [oneF, conc, It.cs, Value.oneCell']
  rw [e] at h
  have e1 : Nm.toL (Z.val (1 : F)) = [1] := by decide +kernel
  rw [e1]
  cases h
  simp [conc, It.cs]
end Go.Proofs.Ythceokldlinjlaa
