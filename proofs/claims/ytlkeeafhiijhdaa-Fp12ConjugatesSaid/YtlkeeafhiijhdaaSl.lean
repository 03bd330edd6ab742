/-
  Functions that read a slice of words: contracts, rows, the bits of a number by its words.
-/
import Derived.Test.YtlkeeafhiijhdaaN
namespace Go.Proofs.Ytlkeeafhiijhdaa
open Go Go.Eng Go.RowKit Go.Wd

/-- The cells at a slice hold a number's words. -/
def SlHas (w : World) (b o len n : Nat) : Prop := b < w.heap.size ∧ ∀ i v, (words len n)[i]? = some v → w.cell? ⟨b, o + i, none⟩ = some v
/-- Called with such a slice the function hands back r, and nothing that was there has turned. -/
def PureS (P : Program) (f : FuncId) (args : Value → List Value) (r : Nat → Nat → Value) : Prop :=
  ∀ (b o len cap n : Nat), len < 4294967296 → ∀ w, SlHas w b o len n → Invoked P f (args (.slice (some ⟨b, o, none⟩) len cap)).toArray w fun u w' => u = r len n ∧ Below w.heap.size w w'
theorem words_cons {a : Nat} (ha : a < 18446744073709551616) (k n : Nat) : words (k + 1) (a + n * 18446744073709551616) = .int .u64 (a : Int) :: words k n := by
  have h : ∀ i, dg (a + n * 18446744073709551616) (i + 1) = dg n i := by
    intro i
    unfold dg
    rw [pw_succ, Nat.mul_comm (pw i), ← Nat.div_div_eq_div_mul]
    congr 2
    omega
  have h0 : dg (a + n * 18446744073709551616) 0 = a := by
    unfold dg
    rw [pw_zero, Nat.div_one, two64]
    omega
  unfold words
  rw [List.range_succ_eq_map, List.map_cons, List.map_map]
  congr 1
  · rw [word_dg, h0]
  · apply List.map_congr_left
    intro i _
    show word _ (i + 1) = word n i
    rw [word_dg, word_dg, h]
/-- A row of words as a number; what is owed for it. -/
def numIts : List It → Option (Nat × List Prop)
  | [] => some (0, [])
  | [.w _ n] => some (n, [])
  | .v (.int .u64 a) :: l => match numIts l with
    | some (n, ob) => some (a.toNat + n * 18446744073709551616, (0 ≤ a ∧ a < 18446744073709551616) :: ob)
    | none => none
  | _ => none
theorem numIts_ok : ∀ (l : List It) (n : Nat) (ob : List Prop), numIts l = some (n, ob) → (∀ p ∈ ob, p) → ∀ {ρ : Rho} {vs : List Value}, conc ρ l = some vs → vs = words vs.length n := by
  intro l
  induction l with
  | nil => intro n ob h _ ρ vs hv; cases h; cases hv; rfl
  | cons i l ih =>
    intro n ob h hob ρ vs hv
    unfold numIts at h
    split at h
    · rename_i h0; cases h0
    · rename_i k m h0
      cases h0
      cases h
      simp only [conc, It.cs, Option.some.injEq, List.append_nil] at hv
      rw [← hv, length_words]
    · rename_i a l' h0
      cases h0
      split at h
      · rename_i m ob' hm
        cases h
        obtain ⟨x, y, hx, hy, rfl⟩ := conc_cons hv
        have hx : x = [.int .u64 a] := by
          simp only [It.cs, Value.oneCell', Option.some.injEq] at hx
          exact hx.symm
        subst hx
        have hb := hob _ List.mem_cons_self
        have e := ih m ob' hm (fun p hp => hob p (List.mem_cons_of_mem _ hp)) hy
        have hlt : a.toNat < 18446744073709551616 := by omega
        have hc := words_cons hlt y.length m
        show _ :: y = words (y.length + 1) _
        rw [hc, ← e, Int.toNat_of_nonneg hb.1]
      · cases h
    · cases h
/-- A slice handed on: its length, its number. -/
def slArg (x : AV) (m : St) : Option (Nat × Nat × List Prop) := match x with
  | ⟨false, [.s id off len _]⟩ => match m.blk id with
    | some B => match cut B off len with
      | some its => match numIts its with
        | some (n, ob) => some (len, n, (len < 4294967296) :: ob)
        | none => none
      | none => none
    | none => none
  | ⟨false, [.v (.slice none 0 0)]⟩ => some (0, 0, [])
  | _ => none
theorem slArg_ok {x : AV} {m : St} {len n : Nat} {ob : List Prop} (h : slArg x m = some (len, n, ob)) (hob : ∀ p ∈ ob, p) {ρ : Rho} {w : World} (hM : Mem ρ m w) {v : Value} (hv : x.val ρ = some v) :
    (len = 0 ∧ n = 0 ∧ v = .slice none 0 0) ∨ ∃ b o cap, v = .slice (some ⟨b, o, none⟩) len cap ∧ len < 4294967296 ∧ SlHas w b o len n := by
  unfold slArg at h
  split at h
  · rename_i id off l cap
    split at h
    · rename_i B hB
      split at h
      · rename_i its hits
        split at h
        · rename_i k ob' hk
          cases h
          right
          obtain ⟨q, hq, rfl⟩ := slice_val hv
          obtain ⟨b, o, us, e1, e2, e3, e4, e5⟩ := hM.ok.blk id B hB
          rw [hq] at e1; cases e1
          obtain ⟨h1, h2⟩ := cut_conc hits e2
          have e := numIts_ok _ _ _ hk (fun p hp => hob p (List.mem_cons_of_mem _ hp)) h2
          have hl : ((us.drop off).take len).length = len := by rw [List.length_take, List.length_drop]; omega
          rw [hl] at e
          refine ⟨b, o + off, cap, rfl, hob _ List.mem_cons_self, e3, fun i v hi => ?_⟩
          rw [← e, List.getElem?_take] at hi
          split at hi
          · rw [List.getElem?_drop] at hi
            rw [Nat.add_assoc]
            cases ho : own id with
            | true =>
              obtain ⟨rfl, t, ht⟩ := e4 ho
              rw [cell_of_row w b _ _ t _ ht, Nat.zero_add]
              simpa using hi
            | false => exact e5 ho _ _ hi
          · cases hi
        · cases h
      · cases h
    · cases h
  · cases h
    left
    refine ⟨rfl, rfl, ?_⟩
    have e : AV.val ρ ⟨false, [.v (.slice none 0 0)]⟩ = some (.slice none 0 0) := AV.val_v (ρ := ρ) (x := .slice none 0 0) rfl
    rw [e] at hv
    cases hv; rfl
  · cases h
/-- A row for a function of a tuple and a slice of words. -/
def rowSA {A B : Type} [Nm A] [Nm B] (f : FuncId) (g : A → Nat → B) : CallT := fun f' args m _ => match f' == f with
  | true => match args with
    | [x, y] => match asN A x, slArg y m with
      | some a, some (len, n, ob) => some { val := .one (wN (g a (n % pw len))), wr := [], news := [], ob := ob }
      | _, _ => none
    | _ => none
  | false => none
theorem puts_nil (m : St) : puts m (blkW ([] ++ [])) = m := rfl
theorem rowSA_ok {A B : Type} [Nm A] [Nm B] {f : FuncId} {g : A → Nat → B} (h : ∀ a, PureS Try.prog f (fun s => [wv a, s]) (fun len n => wv (g a (n % pw len)))) (h0 : ∀ a, Pure Try.prog f [wv a, .slice none 0 0] (wv (g a 0))) : CallOk Try.prog (rowSA f g) := by
  intro f' args m nid out hout hob ρ w vs hv hM hnew
  unfold rowSA at hout
  split at hout
  · rename_i hf
    rw [beq_iff_eq] at hf
    subst hf
    split at hout
    · rename_i x y
      split at hout
      · rename_i a len n ob ha hs
        cases hout
        obtain ⟨v1, us, h1, h2, rfl⟩ := vals_cons hv
        obtain ⟨v2, us', h3, h4, rfl⟩ := vals_cons h2
        cases h4
        rw [asN_ok ha h1]
        have fin : ∀ (u : Value) (w' : World), u = wv (g a (n % pw len)) ∧ Below w.heap.size w w' → ∃ ρ', Ext ρ w ρ' w' ∧ (SV.one (wN (g a (n % pw len)))).val ρ' = some u ∧ Mem ρ' (puts m (blkW ([] ++ []))) w' := by
          rintro u w' ⟨rfl, hb⟩
          exact ⟨ρ, Ext.of_below hb, val_wN _ _, hM.of_below hb⟩
        rcases slArg_ok hs hob hM h3 with ⟨rfl, rfl, rfl⟩ | ⟨b, o, cap, rfl, hlen, hsl⟩
        · exact (h0 a w).mono fun u w' hu => fin u w' hu
        · exact (h a b o len cap n hlen w hsl).mono fun u w' hu => fin u w' hu
      · cases hout
    · cases hout
  · cases hout

/-! ### the block of such a slice, in a run -/
def rho1 (b o : Nat) : Rho := fun id => if id = 1 then some (b, o) else none
/-- Words that are read at any place. -/
def anyW (len n : Nat) : List It := [.w 0 0, .w len n]
def mem1 (len n : Nat) : St := [(3, .bl (anyW len n))]
theorem blk_mem1 (len n id : Nat) : (mem1 len n).blk id = if id = 1 then some (anyW len n) else none := by
  unfold St.blk mem1
  simp only [Eng.look, beq_iff_eq]
  by_cases h : id = 1
  · subst h; rfl
  · have e1 : ¬ 3 = 2 * id + 1 := by omega
    simp only [e1, h, if_false]
theorem mem_rho1 {w : World} {b o len n : Nat} (h : SlHas w b o len n) : Mem (rho1 b o) (mem1 len n) w := by
  refine ⟨⟨fun id l hl => ?_⟩, ⟨fun id id' b' o1 o2 ho e1 _ => ?_⟩, fun id q hq => ?_⟩
  · rw [blk_mem1] at hl
    split at hl
    · rename_i e; cases hl; subst e
      refine ⟨b, o, words len n, by simp [rho1], by simp [anyW, conc, It.cs, words], h.1, fun ho => by simp [own] at ho, fun _ => h.2⟩
    · cases hl
  · unfold rho1 at e1
    split at e1
    · rename_i e; subst e; simp [own] at ho
    · cases e1
  · rw [blk_mem1]
    unfold rho1 at hq
    split at hq
    · rename_i e; exact ⟨_, if_pos e⟩
    · cases hq
theorem no_own1 (b o : Nat) : ∀ c, ¬ Own (rho1 b o) c := by
  rintro c ⟨id, ho, hq⟩
  unfold rho1 at hq
  split at hq
  · rename_i e; subst e; simp [own] at ho
  · cases hq
theorem val_sl1 (b o len cap : Nat) : AV.val (rho1 b o) ⟨false, [.s 1 0 len cap]⟩ = some (.slice (some ⟨b, o, none⟩) len cap) := AV.val_mk (by simp [It.cs, rho1])

/-! ### bits -/
theorem wrap_small {a : Int} (h1 : -9223372036854775808 ≤ a) (h2 : a < 9223372036854775808) : IntKind.i64.wrap a = a := by
  have key : ∀ b : Int, (if (true && decide (b % (2 ^ 64 : Int) ≥ (2 ^ 63 : Int))) = true then b % (2 ^ 64 : Int) - (2 ^ 64 : Int) else b % (2 ^ 64 : Int)) = if b % 18446744073709551616 ≥ 9223372036854775808 then b % 18446744073709551616 - 18446744073709551616 else b % 18446744073709551616 := by
    intro b
    simp only [Bool.true_and, decide_eq_true_eq]
    rfl
  refine (key a).trans ?_
  split <;> omega

/-- The bit of a place, as the code asks for it. -/
theorem bit_of (n : Nat) {k : Nat} : dg n (k / 64) / 2 ^ (k % 64) % 2 = n / 2 ^ k % 2 := by
  unfold dg pw
  have e : k = 64 * (k / 64) + k % 64 := by omega
  have hd : n / 2 ^ k = n / 2 ^ (64 * (k / 64)) / 2 ^ (k % 64) := by
    rw [Nat.div_div_eq_div_mul, ← Nat.pow_add, ← e]
  rw [hd]
  generalize n / 2 ^ (64 * (k / 64)) = m
  have h64 : (2 : Nat) ^ 64 = 2 ^ (k % 64) * 2 * 2 ^ (63 - k % 64) := by
    rw [← Nat.pow_succ, ← Nat.pow_add]
    congr 1; omega
  rw [h64, Nat.mul_assoc, Nat.mod_mul_right_div_self, Nat.mod_mul_right_mod]
end Go.Proofs.Ytlkeeafhiijhdaa
