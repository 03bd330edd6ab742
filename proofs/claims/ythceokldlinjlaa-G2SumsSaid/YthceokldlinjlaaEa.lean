/-
  THE ENGINE, part A: a map by keys (slots and blocks), effects, and: whatever order a region's operations come up in, so long as it keeps the edges, the state comes out as in the text's order.
-/
import Derived.Laws.MakeOwn
import Derived.Laws.Append
import Derived.Laws.AppendOwn
import Derived.Orders
import Derived.WalkKit
import Derived.ChangeKeysEq
namespace Go.Eng
open Go

/-! ### a map by keys -/
section
variable {α : Type}
def look : List (Nat × α) → Nat → Option α
  | [], _ => none
  | (k, v) :: l, x => if k == x then some v else look l x
def upd : List (Nat × α) → Nat → α → List (Nat × α)
  | [], k, v => [(k, v)]
  | (k', v') :: l, k, v => if k' == k then (k, v) :: l else (k', v') :: upd l k v
theorem look_upd (l : List (Nat × α)) (k : Nat) (v : α) (x : Nat) : look (upd l k v) x = if k = x then some v else look l x := by
  induction l with
  | nil => simp [upd, look]
  | cons p l ih =>
    obtain ⟨k', v'⟩ := p
    by_cases h : k' = k
    · subst h
      by_cases hx : k' = x
      · simp [upd, look, hx]
      · simp [upd, look, hx]
    · by_cases hx : k' = x
      · subst hx
        have : ¬ k = k' := fun e => h e.symm
        simp [upd, look, h, this]
      · simp only [upd, beq_iff_eq, h, if_false, look, hx, ih]
def puts (l : List (Nat × α)) : List (Nat × α) → List (Nat × α)
  | [] => l
  | (k, v) :: e => puts (upd l k v) e
/-- What a list of writes says of a key: the last one counts. -/
def last : List (Nat × α) → Nat → Option α
  | [], _ => none
  | (k, v) :: e, x => match last e x with
    | some u => some u
    | none => if k = x then some v else none
theorem look_puts (e : List (Nat × α)) : ∀ (l : List (Nat × α)) (x : Nat), look (puts l e) x = match last e x with | some u => some u | none => look l x := by
  induction e with
  | nil => intro l x; rfl
  | cons p e ih =>
    intro l x
    obtain ⟨k, v⟩ := p
    simp only [puts, ih, last]
    cases h : last e x with
    | some u => rfl
    | none =>
      simp only [look_upd]
      by_cases hk : k = x <;> simp [hk]
def keys (e : List (Nat × α)) : List Nat := e.map (·.1)
theorem last_none {e : List (Nat × α)} {x : Nat} (h : x ∉ keys e) : last e x = none := by
  induction e with
  | nil => rfl
  | cons p e ih =>
    obtain ⟨k, v⟩ := p
    simp only [keys, List.map_cons, List.mem_cons, not_or] at h
    have h1 : ¬ k = x := fun e => h.1 e.symm
    simp only [last, ih h.2, h1, if_false]
theorem last_some {e : List (Nat × α)} {x : Nat} (h : x ∈ keys e) : ∃ u, last e x = some u := by
  induction e with
  | nil => cases h
  | cons p e ih =>
    obtain ⟨k, v⟩ := p
    simp only [keys, List.map_cons, List.mem_cons] at h
    simp only [last]
    cases hl : last e x with
    | some u => exact ⟨u, rfl⟩
    | none =>
      rcases h with h | h
      · exact ⟨v, by simp [h]⟩
      · obtain ⟨u, hu⟩ := ih h
        rw [hl] at hu; cases hu
end

/-! ### effects by number, laid in the text's order, of those that are listed -/
section
variable {α : Type}
/-- The state when the operations of 'l' (numbers) have come up, each with its writes 'W'. -/
def laid (W : Nat → List (Nat × α)) (σ : List (Nat × α)) : List Nat → List (Nat × α)
  | [] => σ
  | i :: l => laid W (puts σ (W i)) l
theorem laid_append (W : Nat → List (Nat × α)) (l m : List Nat) : ∀ σ, laid W σ (l ++ m) = laid W (laid W σ l) m := by
  induction l with
  | nil => intro σ; rfl
  | cons i l ih => intro σ; simp [laid, ih]
/-- Only those that write the key count. -/
theorem look_laid_filter (W : Nat → List (Nat × α)) (x : Nat) (l : List Nat) : ∀ σ σ', look σ x = look σ' x →
    look (laid W σ l) x = look (laid W σ' (l.filter fun i => (keys (W i)).contains x)) x := by
  induction l with
  | nil => intro σ σ' h; exact h
  | cons i l ih =>
    intro σ σ' h
    by_cases hi : x ∈ keys (W i)
    · have hc : (keys (W i)).contains x = true := by simpa using hi
      simp only [List.filter_cons, hc, if_true, laid]
      exact ih _ _ (by rw [look_puts, look_puts, h])
    · have hc : (keys (W i)).contains x = false := by simpa using hi
      simp only [List.filter_cons, hc, laid]
      exact ih _ _ (by rw [look_puts, last_none hi]; exact h)
/-- If the last of the list that writes the key is i, the key holds what i writes. -/
theorem look_laid_last (W : Nat → List (Nat × α)) (x i : Nat) (hx : x ∈ keys (W i)) (l m : List Nat) (hm : ∀ j ∈ m, x ∉ keys (W j)) (σ : List (Nat × α)) :
    look (laid W σ (l ++ i :: m)) x = last (W i) x := by
  rw [laid_append]
  have h0 := look_laid_filter W x (i :: m) (laid W σ l) (laid W σ l) rfl
  rw [h0]
  have hf : (i :: m).filter (fun i => (keys (W i)).contains x) = [i] := by
    rw [List.filter_cons, if_pos (by simpa using hx)]
    congr 1
    rw [List.filter_eq_nil_iff]
    intro j hj
    simpa using hm j hj
  rw [hf]
  simp only [laid, look_puts]
  obtain ⟨u, hu⟩ := last_some hx
  rw [hu]
theorem look_laid_none (W : Nat → List (Nat × α)) (x : Nat) (l : List Nat) (hl : ∀ j ∈ l, x ∉ keys (W j)) (σ : List (Nat × α)) :
    look (laid W σ l) x = look σ x := by
  rw [look_laid_filter W x l σ σ rfl]
  have hf : l.filter (fun i => (keys (W i)).contains x) = [] := by
    rw [List.filter_eq_nil_iff]
    intro j hj
    simpa using hl j hj
  rw [hf]; rfl
end

/-! ### the edges -/
/-- The sources of an operation's binding edges. -/
def srcs (o : Oper) : List Nat := (o.after.toList.filter fun e => Region.binds .any e).map (·.on)
theorem mem_srcs {o : Oper} {m : Nat} : m ∈ srcs o ↔ ∃ e ∈ o.after, Region.binds .any e = true ∧ e.on = m := by
  simp only [srcs, List.mem_map, List.mem_filter, Array.mem_toList_iff]
  constructor
  · rintro ⟨e, ⟨h1, h2⟩, h3⟩; exact ⟨e, h1, h2, h3⟩
  · rintro ⟨e, h1, h2, h3⟩; exact ⟨e, ⟨h1, h2⟩, h3⟩
/-- Two operations that touch nothing of one another's. -/
def indep (R W : Nat → List Nat) (i j : Nat) : Prop := (∀ k ∈ W i, k ∉ R j ∧ k ∉ W j) ∧ (∀ k ∈ W j, k ∉ R i)

section order
variable {α : Type} {n : Nat} {anc : Nat → Nat → Bool} {R : Nat → List Nat} {W : Nat → List (Nat × α)}
/-- j comes before i, or they touch nothing of one another's: for all j below i. -/
structure Sorted (n : Nat) (src : Nat → List Nat) (anc : Nat → Nat → Bool) (R : Nat → List Nat) (W : Nat → List (Nat × α)) : Prop where
  below : ∀ i < n, ∀ m ∈ src i, m < i
  step : ∀ i < n, ∀ j, anc i j = true → ∃ m ∈ src i, m = j ∨ anc m j = true
  apart : ∀ i < n, ∀ j < i, anc i j = true ∨ indep R (fun i => keys (W i)) j i

/-- What is listed, is listed with all that it waits for. -/
def Closed (n : Nat) (anc : Nat → Nat → Bool) (L : Nat → Bool) : Prop := ∀ j < n, L j = true → ∀ m, anc j m = true → L m = true

variable {src : Nat → List Nat} (S : Sorted n src anc R W)
include S
theorem Closed.add {L : Nat → Bool} (hL : Closed n anc L) {i : Nat} (hi : i < n) (hs : ∀ m ∈ src i, L m = true) : Closed n anc (fun j => j == i || L j) := by
  intro j hj hl m hm
  have key : ∀ k < n, L k = true → anc k m = true → L m = true := fun k hk h1 h2 => hL k hk h1 m h2
  simp only [Bool.or_eq_true, beq_iff_eq] at hl ⊢
  rcases hl with rfl | hl
  · obtain ⟨s, h1, h2⟩ := S.step j hj m hm
    rcases h2 with rfl | h2
    · exact .inr (hs _ h1)
    · exact .inr (key s (Nat.lt_trans (S.below j hj s h1) hj) (hs _ h1) h2)
  · exact .inr (key j hj hl hm)
theorem Sorted.anc_listed {L : Nat → Bool} (hL : Closed n anc L) {i : Nat} (hi : i < n) (hs : ∀ m ∈ src i, L m = true) {m : Nat} (hm : anc i m = true) : L m = true := by
  obtain ⟨s, h1, h2⟩ := S.step i hi m hm
  rcases h2 with rfl | h2
  · exact hs _ h1
  · exact hL s (Nat.lt_trans (S.below i hi s h1) hi) (hs _ h1) m h2

/-- The state when those of L have come up. -/
def at_ (W : Nat → List (Nat × α)) (σ : List (Nat × α)) (n : Nat) (L : Nat → Bool) : List (Nat × α) := laid W σ ((List.range n).filter L)
omit S in
theorem range_filter_lt (i n : Nat) (h : i ≤ n) : (List.range n).filter (fun j => decide (j < i)) = List.range i := by
  obtain ⟨d, rfl⟩ := Nat.exists_eq_add_of_le h
  induction d with
  | zero => simp [List.filter_eq_self]
  | succ d ih =>
    rw [show i + (d + 1) = (i + d) + 1 by omega, List.range_succ, List.filter_append, ih (by omega)]
    simp
/-- What an operation that may come up reads is what it reads in the text's order. -/
theorem Sorted.reads {L : Nat → Bool} (hL : Closed n anc L) {i : Nat} (hi : i < n) (hun : L i = false) (hs : ∀ m ∈ src i, L m = true) (σ : List (Nat × α)) {k : Nat} (hk : k ∈ R i) :
    look (at_ W σ n L) k = look (laid W σ (List.range i)) k := by
  unfold at_
  rw [look_laid_filter W k _ σ σ rfl, look_laid_filter W k (List.range i) σ σ rfl]
  congr 2
  rw [← range_filter_lt i n (Nat.le_of_lt hi), List.filter_filter, List.filter_filter]
  apply List.filter_congr
  intro j hj
  have hj' : j < n := by simpa using hj
  by_cases hw : k ∈ keys (W j)
  · have hc : (keys (W j)).contains k = true := by simpa using hw
    rw [hc, Bool.true_and, Bool.true_and]
    by_cases hlt : j < i
    · have : L j = true := by
        rcases S.apart i hi j hlt with h | h
        · exact S.anc_listed hL hi hs h
        · exact absurd hk (h.1 k hw).1
      simp [this, hlt]
    · by_cases he : j = i
      · subst he; simp [hun]
      · have hgt : i < j := by omega
        have : L j = false := by
          cases hl : L j with
          | false => rfl
          | true =>
            rcases S.apart j hj' i hgt with h | h
            · have := hL j hj' hl i h
              rw [hun] at this; cases this
            · exact absurd hk (h.2 k hw)
        simp [this, hlt]
  · have hc : (keys (W j)).contains k = false := by simpa using hw
    rw [hc, Bool.false_and, Bool.false_and]
omit S in
theorem range_split (i n : Nat) (h : i < n) : List.range n = List.range i ++ i :: (List.range' (i + 1) (n - i - 1)) := by
  rw [List.range_eq_range', List.range_eq_range']
  have := List.range'_append (s := 0) (m := i) (n := n - i) (step := 1)
  rw [show i + (n - i) = n by omega] at this
  rw [← this]
  congr 1
  rw [show n - i = (n - i - 1) + 1 by omega, List.range'_succ]
  simp
/-- Behind it, the state is that of one more. -/
theorem Sorted.more {L : Nat → Bool} (hL : Closed n anc L) {i : Nat} (hi : i < n) (hun : L i = false) (_ : ∀ m ∈ src i, L m = true) (σ : List (Nat × α)) (k : Nat) :
    look (at_ W σ n (fun j => j == i || L j)) k = look (puts (at_ W σ n L) (W i)) k := by
  have later : ∀ j, i < j → j < n → L j = true → k ∈ keys (W i) → k ∉ keys (W j) := by
    intro j hj hjn hl hki hkj
    rcases S.apart j hjn i hj with h | h
    · have := hL j hjn hl i h
      rw [hun] at this; cases this
    · exact (h.1 k hki).2 hkj
  have e1 : (List.range n).filter (fun j => j == i || L j) = (List.range i).filter L ++ i :: (List.range' (i + 1) (n - i - 1)).filter L := by
    rw [range_split i n hi, List.filter_append, List.filter_cons, if_pos (by simp)]
    congr 1
    · apply List.filter_congr
      intro j hj
      have : j < i := by simpa using hj
      have : ¬ j = i := by omega
      simp [this]
    · congr 1
      apply List.filter_congr
      intro j hj
      have : i + 1 ≤ j := by rw [List.mem_range'_1] at hj; exact hj.1
      have : ¬ j = i := by omega
      simp [this]
  have e2 : (List.range n).filter L = (List.range i).filter L ++ (List.range' (i + 1) (n - i - 1)).filter L := by
    rw [range_split i n hi, List.filter_append, List.filter_cons, if_neg (by simp [hun])]
  unfold at_
  rw [e1, e2]
  have hlater : k ∈ keys (W i) → ∀ j ∈ (List.range' (i + 1) (n - i - 1)).filter L, k ∉ keys (W j) := by
    intro hk j hj
    rw [List.mem_filter, List.mem_range'_1] at hj
    exact later j (by omega) (by omega) hj.2 hk
  by_cases hk : k ∈ keys (W i)
  · rw [look_laid_last W k i hk _ _ (hlater hk), look_puts]
    obtain ⟨u, hu⟩ := last_some hk
    rw [hu]
  · rw [look_puts, last_none hk]
    rw [look_laid_filter W k _ σ σ rfl, look_laid_filter W k (_ ++ _) σ σ rfl]
    congr 2
    rw [List.filter_append, List.filter_append, List.filter_cons, if_neg (by simpa using hk)]
end order
end Go.Eng
/-
  THE ENGINE, part B: what a state stands for: cells, blocks and slots told by plain data; what keeps a state true of a frame and a world.
-/
namespace Go.Eng
open Go Go.RowKit

/-- Which block (and from which offset on) a block's number stands for. -/
abbrev Rho := Nat → Option (Nat × Nat)

/-- What stands in a row of cells. -/
inductive It where
  | v (x : Value)
  | w (k n : Nat)
  | p (id off : Nat)
  | s (id off len cap : Nat)
  | f (fn : FuncId) (caps : List (Nat × Nat))
  /-- A slice, from its block's first cell on, whose capacity is the block's size: that is not known. -/
  | c (id len : Nat)

/-- The i-th word of a number. -/
def word (n i : Nat) : Value := .int .u64 ((n / 2 ^ (64 * i) % 2 ^ 64 : Nat) : Int)
def words (k n : Nat) : List Value := (List.range k).map (word n)
theorem length_words (k n : Nat) : (words k n).length = k := by simp [words]

def ptr (q : Nat × Nat) (off : Nat) : Value := .pointer (some ⟨q.1, q.2 + off, none⟩)
def capVals (ρ : Rho) : List (Nat × Nat) → Option (List Value)
  | [] => some []
  | c :: l => match ρ c.1, capVals ρ l with
    | some q, some vs => some (ptr q c.2 :: vs)
    | _, _ => none
def It.cs (ρ : Rho) : It → Option (List Value)
  | .v x => match x.oneCell' with
    | true => some [x]
    | false => none
  | .w k n => some (words k n)
  | .p id off => match ρ id with
    | some q => some [ptr q off]
    | none => none
  | .s id off len cap => match ρ id with
    | some q => some [.slice (some ⟨q.1, q.2 + off, none⟩) len cap]
    | none => none
  | .f fn caps => match capVals ρ caps with
    | some vs => some [.func (.func fn) #[] vs.toArray]
    | none => none
  | .c id len => match ρ id with
    | some q => some [.slice (some ⟨q.1, 0, none⟩) len q.2]
    | none => none
def It.size : It → Nat
  | .w k _ => k
  | _ => 1
def conc (ρ : Rho) : List It → Option (List Value)
  | [] => some []
  | i :: l => match i.cs ρ, conc ρ l with
    | some a, some b => some (a ++ b)
    | _, _ => none
def sizes : List It → Nat
  | [] => 0
  | i :: l => i.size + sizes l

/-- ρ' knows all that ρ knows. -/
def Rho.le (ρ ρ' : Rho) : Prop := ∀ id q, ρ id = some q → ρ' id = some q
theorem Rho.le.refl (ρ : Rho) : ρ.le ρ := fun _ _ h => h
theorem Rho.le.trans {a b c : Rho} (h : a.le b) (k : b.le c) : a.le c := fun id q hq => k id q (h id q hq)

theorem capVals_le {ρ ρ' : Rho} (h : ρ.le ρ') : ∀ (l : List (Nat × Nat)) (vs : List Value), capVals ρ l = some vs → capVals ρ' l = some vs := by
  intro l
  induction l with
  | nil => intro vs hv; exact hv
  | cons c l ih =>
    intro vs hv
    simp only [capVals] at hv ⊢
    cases hc : ρ c.1 with
    | none => simp [hc] at hv
    | some q =>
      cases hl : capVals ρ l with
      | none => simp [hc, hl] at hv
      | some us =>
        simp only [hc, hl] at hv
        rw [h _ _ hc, ih _ hl]; exact hv
theorem It.cs_le {ρ ρ' : Rho} (h : ρ.le ρ') (i : It) (vs : List Value) (hv : i.cs ρ = some vs) : i.cs ρ' = some vs := by
  cases i with
  | v x => exact hv
  | w k n => exact hv
  | p id off =>
    simp only [It.cs] at hv ⊢
    cases hc : ρ id with
    | none => simp [hc] at hv
    | some q => rw [h _ _ hc]; simpa [hc] using hv
  | s id off len cap =>
    simp only [It.cs] at hv ⊢
    cases hc : ρ id with
    | none => simp [hc] at hv
    | some q => rw [h _ _ hc]; simpa [hc] using hv
  | f fn caps =>
    simp only [It.cs] at hv ⊢
    cases hc : capVals ρ caps with
    | none => simp [hc] at hv
    | some q => rw [capVals_le h _ _ hc]; simpa [hc] using hv
  | c id len =>
    simp only [It.cs] at hv ⊢
    cases hc : ρ id with
    | none => simp [hc] at hv
    | some q => rw [h _ _ hc]; simpa [hc] using hv
theorem conc_le {ρ ρ' : Rho} (h : ρ.le ρ') : ∀ (l : List It) (vs : List Value), conc ρ l = some vs → conc ρ' l = some vs := by
  intro l
  induction l with
  | nil => intro vs hv; exact hv
  | cons i l ih =>
    intro vs hv
    simp only [conc] at hv ⊢
    cases hc : i.cs ρ with
    | none => simp [hc] at hv
    | some a =>
      cases hl : conc ρ l with
      | none => simp [hc, hl] at hv
      | some b =>
        simp only [hc, hl] at hv
        rw [It.cs_le h _ _ hc, ih _ hl]; exact hv
theorem conc_cons {ρ : Rho} {i : It} {l : List It} {vs : List Value} (h : conc ρ (i :: l) = some vs) : ∃ a b, i.cs ρ = some a ∧ conc ρ l = some b ∧ vs = a ++ b := by
  simp only [conc] at h
  cases hc : i.cs ρ with
  | none => simp [hc] at h
  | some a =>
    cases hl : conc ρ l with
    | none => simp [hc, hl] at h
    | some b =>
      simp only [hc, hl, Option.some.injEq] at h
      exact ⟨a, b, rfl, rfl, h.symm⟩
theorem conc_mk {ρ : Rho} {i : It} {l : List It} {a b : List Value} (hi : i.cs ρ = some a) (hl : conc ρ l = some b) : conc ρ (i :: l) = some (a ++ b) := by
  simp only [conc, hi, hl]
theorem It.length_cs {ρ : Rho} {i : It} {vs : List Value} (h : i.cs ρ = some vs) : vs.length = i.size := by
  cases i <;> simp only [It.cs, It.size] at h ⊢
  case w => cases h; exact length_words _ _
  all_goals (split at h <;> first | (cases h; rfl) | cases h)
theorem length_conc {ρ : Rho} : ∀ (l : List It) (vs : List Value), conc ρ l = some vs → vs.length = sizes l := by
  intro l
  induction l with
  | nil => intro vs h; cases h; rfl
  | cons i l ih =>
    intro vs h
    obtain ⟨a, b, ha, hb, rfl⟩ := conc_cons h
    rw [List.length_append, It.length_cs ha, ih _ hb]; rfl
theorem It.one_cs {ρ : Rho} {i : It} {vs : List Value} (h : i.cs ρ = some vs) : ∀ v ∈ vs, v.oneCell' = true := by
  cases i <;> simp only [It.cs] at h
  case v x =>
    split at h
    · rename_i hx; cases h; intro v hv; rw [List.mem_singleton] at hv; subst hv; exact hx
    · cases h
  case w k n => cases h; intro v hv; unfold words at hv; rw [List.mem_map] at hv; obtain ⟨i, _, rfl⟩ := hv; rfl
  all_goals (split at h <;> first | (cases h; intro v hv; rw [List.mem_singleton] at hv; subst hv; rfl) | cases h)
theorem conc_one {ρ : Rho} : ∀ (l : List It) (vs : List Value), conc ρ l = some vs → ∀ v ∈ vs, v.oneCell' = true := by
  intro l
  induction l with
  | nil => intro vs h; cases h; intro v hv; cases hv
  | cons i l ih =>
    intro vs h
    obtain ⟨a, b, ha, hb, rfl⟩ := conc_cons h
    intro v hv
    rcases List.mem_append.1 hv with h1 | h1
    · exact It.one_cs ha v h1
    · exact ih b hb v h1
theorem conc_append {ρ : Rho} : ∀ (l m : List It) (a b : List Value), conc ρ l = some a → conc ρ m = some b → conc ρ (l ++ m) = some (a ++ b) := by
  intro l
  induction l with
  | nil => intro m a b ha hb; cases ha; exact hb
  | cons i l ih =>
    intro m a b ha hb
    obtain ⟨x, y, hx, hy, rfl⟩ := conc_cons ha
    rw [List.cons_append, List.append_assoc]
    exact conc_mk hx (ih m y b hy hb)

/-! ### cuts -/
def dropIt : List It → Nat → Option (List It)
  | l, 0 => some l
  | [], _ + 1 => none
  | i :: l, n + 1 => if i.size ≤ n + 1 then dropIt l (n + 1 - i.size) else none
def takeIt : List It → Nat → Option (List It)
  | _, 0 => some []
  | [], _ + 1 => none
  | i :: l, n + 1 => if i.size ≤ n + 1 then (match takeIt l (n + 1 - i.size) with | some r => some (i :: r) | none => none) else none
theorem dropIt_conc {ρ : Rho} : ∀ (l : List It) (n : Nat) (r : List It) (vs : List Value), dropIt l n = some r → conc ρ l = some vs → n ≤ vs.length ∧ conc ρ r = some (vs.drop n) := by
  intro l
  induction l with
  | nil =>
    intro n r vs h hv
    cases n with
    | zero => simp only [dropIt] at h; cases h; exact ⟨Nat.zero_le _, by simpa using hv⟩
    | succ n => cases h
  | cons i l ih =>
    intro n r vs h hv
    cases n with
    | zero => simp only [dropIt] at h; cases h; exact ⟨Nat.zero_le _, by simpa using hv⟩
    | succ n =>
      simp only [dropIt] at h
      split at h
      · rename_i hs
        obtain ⟨a, b, ha, hb, rfl⟩ := conc_cons hv
        obtain ⟨h1, h2⟩ := ih _ _ _ h hb
        have hl := It.length_cs ha
        refine ⟨by rw [List.length_append]; omega, ?_⟩
        have hd : (a ++ b).drop (n + 1) = b.drop (n + 1 - i.size) := by
          rw [List.drop_append, List.drop_of_length_le (by omega), hl, List.nil_append]
        rw [h2, hd]
      · cases h
theorem takeIt_conc {ρ : Rho} : ∀ (l : List It) (n : Nat) (r : List It) (vs : List Value), takeIt l n = some r → conc ρ l = some vs → n ≤ vs.length ∧ conc ρ r = some (vs.take n) := by
  intro l
  induction l with
  | nil =>
    intro n r vs h hv
    cases n with
    | zero => simp only [takeIt] at h; cases h; exact ⟨Nat.zero_le _, by simp [conc]⟩
    | succ n => cases h
  | cons i l ih =>
    intro n r vs h hv
    cases n with
    | zero => simp only [takeIt] at h; cases h; exact ⟨Nat.zero_le _, by simp [conc]⟩
    | succ n =>
      simp only [takeIt] at h
      split at h
      · rename_i hs
        cases ht : takeIt l (n + 1 - i.size) with
        | none => simp [ht] at h
        | some r' =>
          simp only [ht, Option.some.injEq] at h
          subst h
          obtain ⟨a, b, ha, hb, rfl⟩ := conc_cons hv
          obtain ⟨h1, h2⟩ := ih _ _ _ ht hb
          have hl := It.length_cs ha
          refine ⟨by rw [List.length_append]; omega, ?_⟩
          rw [List.take_append, List.take_of_length_le (by omega), hl]
          exact conc_mk ha h2
      · cases h
/-- A number's words, one by one. -/
def wordIts (n : Nat) (k : Nat) : List It := (List.range k).map fun i => .v (word n i)
def explode : List It → List It
  | [] => []
  | .w k n :: l => wordIts n k ++ explode l
  | i :: l => i :: explode l
theorem conc_wordIts (ρ : Rho) (n : Nat) : ∀ k, conc ρ (wordIts n k) = some (words k n) := by
  intro k
  unfold wordIts words
  generalize List.range k = l
  induction l with
  | nil => rfl
  | cons i l ih => exact conc_mk (i := .v (word n i)) (a := [word n i]) rfl ih
theorem conc_explode {ρ : Rho} : ∀ (l : List It) (vs : List Value), conc ρ l = some vs → conc ρ (explode l) = some vs := by
  intro l
  induction l with
  | nil => intro vs h; exact h
  | cons i l ih =>
    intro vs h
    obtain ⟨a, b, ha, hb, rfl⟩ := conc_cons h
    cases i with
    | w k n => simp only [It.cs, Option.some.injEq] at ha; subst ha; exact conc_append _ _ _ _ (conc_wordIts ρ n k) (ih _ hb)
    | v x => exact conc_mk ha (ih _ hb)
    | p id off => exact conc_mk ha (ih _ hb)
    | s id off len cap => exact conc_mk ha (ih _ hb)
    | f fn caps => exact conc_mk ha (ih _ hb)
    | c id len => exact conc_mk ha (ih _ hb)
def cut1 (l : List It) (off len : Nat) : Option (List It) := match dropIt l off with
  | some r => takeIt r len
  | none => none
/-- The cells from off on, so many. -/
def cut (l : List It) (off len : Nat) : Option (List It) := match cut1 l off len with
  | some r => some r
  | none => cut1 (explode l) off len
theorem cut1_conc {ρ : Rho} {l r : List It} {off len : Nat} {vs : List Value} (h : cut1 l off len = some r) (hv : conc ρ l = some vs) :
    off + len ≤ vs.length ∧ conc ρ r = some ((vs.drop off).take len) := by
  unfold cut1 at h
  cases hd : dropIt l off with
  | none => simp [hd] at h
  | some m =>
    simp only [hd] at h
    obtain ⟨h1, h2⟩ := dropIt_conc _ _ _ _ hd hv
    obtain ⟨h3, h4⟩ := takeIt_conc _ _ _ _ h h2
    rw [List.length_drop] at h3
    exact ⟨by omega, h4⟩
theorem cut_conc {ρ : Rho} {l r : List It} {off len : Nat} {vs : List Value} (h : cut l off len = some r) (hv : conc ρ l = some vs) :
    off + len ≤ vs.length ∧ conc ρ r = some ((vs.drop off).take len) := by
  unfold cut at h
  cases hc : cut1 l off len with
  | some x => simp only [hc, Option.some.injEq] at h; subst h; exact cut1_conc hc hv
  | none => simp only [hc] at h; exact cut1_conc h (conc_explode _ _ hv)
def lay1 (l : List It) (off : Nat) (new : List It) : Option (List It) := match takeIt l off, dropIt l (off + sizes new) with
  | some a, some b => some (a ++ (new ++ b))
  | _, _ => none
/-- New cells laid from off on. -/
def lay (l : List It) (off : Nat) (new : List It) : Option (List It) := match lay1 l off new with
  | some r => some r
  | none => lay1 (explode l) off new
theorem lay1_conc {ρ : Rho} {l new r : List It} {off : Nat} {vs us : List Value} (h : lay1 l off new = some r) (hv : conc ρ l = some vs) (hu : conc ρ new = some us) :
    off + us.length ≤ vs.length ∧ conc ρ r = some (vs.take off ++ (us ++ vs.drop (off + us.length))) := by
  unfold lay1 at h
  cases ht : takeIt l off with
  | none => simp [ht] at h
  | some a =>
    cases hd : dropIt l (off + sizes new) with
    | none => simp [ht, hd] at h
    | some b =>
      simp only [ht, hd, Option.some.injEq] at h
      subst h
      obtain ⟨_, h2⟩ := takeIt_conc _ _ _ _ ht hv
      obtain ⟨h3, h4⟩ := dropIt_conc _ _ _ _ hd hv
      have hl := length_conc _ _ hu
      rw [← hl] at h3 h4
      exact ⟨h3, conc_append _ _ _ _ h2 (conc_append _ _ _ _ hu h4)⟩
theorem lay_conc {ρ : Rho} {l new r : List It} {off : Nat} {vs us : List Value} (h : lay l off new = some r) (hv : conc ρ l = some vs) (hu : conc ρ new = some us) :
    off + us.length ≤ vs.length ∧ conc ρ r = some (vs.take off ++ (us ++ vs.drop (off + us.length))) := by
  unfold lay at h
  cases hc : lay1 l off new with
  | some x => simp only [hc, Option.some.injEq] at h; subst h; exact lay1_conc hc hv hu
  | none => simp only [hc] at h; exact lay1_conc h (conc_explode _ _ hv) hu

/-! ### values of slots -/
/-- A value: one cell, or a row of cells. -/
structure AV where
  agg : Bool
  its : List It
def AV.val (ρ : Rho) (x : AV) : Option Value := match x.agg, conc ρ x.its with
  | true, some vs => some (.agg vs.toArray)
  | false, some [v] => some v
  | _, _ => none
inductive SV where
  | one (x : AV)
  | tup (l : List AV)
def vals (ρ : Rho) : List AV → Option (List Value)
  | [] => some []
  | x :: l => match x.val ρ, vals ρ l with
    | some v, some vs => some (v :: vs)
    | _, _ => none
def SV.val (ρ : Rho) : SV → Option Value
  | .one x => x.val ρ
  | .tup l => match vals ρ l with
    | some vs => some (.tuple vs.toArray)
    | none => none
theorem AV.val_le {ρ ρ' : Rho} (h : ρ.le ρ') (x : AV) (v : Value) (hv : x.val ρ = some v) : x.val ρ' = some v := by
  unfold AV.val at hv ⊢
  cases hc : conc ρ x.its with
  | none => simp [hc] at hv
  | some vs => rw [hc] at hv; rw [conc_le h _ _ hc]; exact hv
theorem vals_le {ρ ρ' : Rho} (h : ρ.le ρ') : ∀ (l : List AV) (vs : List Value), vals ρ l = some vs → vals ρ' l = some vs := by
  intro l
  induction l with
  | nil => intro vs hv; exact hv
  | cons x l ih =>
    intro vs hv
    simp only [vals] at hv ⊢
    cases hx : x.val ρ with
    | none => simp [hx] at hv
    | some v =>
      cases hl : vals ρ l with
      | none => simp [hx, hl] at hv
      | some us => simp only [hx, hl] at hv; rw [AV.val_le h _ _ hx, ih _ hl]; exact hv
theorem SV.val_le {ρ ρ' : Rho} (h : ρ.le ρ') (x : SV) (v : Value) (hv : x.val ρ = some v) : x.val ρ' = some v := by
  cases x with
  | one x => exact AV.val_le h x v hv
  | tup l =>
    simp only [SV.val] at hv ⊢
    cases hl : vals ρ l with
    | none => simp [hl] at hv
    | some us => simp only [hl] at hv; rw [vals_le h _ _ hl]; exact hv
/-- The cells of a value. -/
theorem AV.cells {ρ : Rho} {x : AV} {v : Value} (h : x.val ρ = some v) : (∃ vs, conc ρ x.its = some vs ∧ ((x.agg = true ∧ v = .agg vs.toArray) ∨ (x.agg = false ∧ vs = [v]))) := by
  unfold AV.val at h
  split at h
  · rename_i vs h1 h2; cases h; exact ⟨vs, h2, .inl ⟨h1, rfl⟩⟩
  · rename_i u h1 h2; cases h; exact ⟨_, h2, .inr ⟨h1, rfl⟩⟩
  · cases h

/-! ### the state, and what it says of a frame and a world -/
inductive Ct where
  | sl (x : SV)
  | bl (l : List It)
abbrev St := List (Nat × Ct)
def St.slot (st : St) (t : Nat) : Option SV := match look st (2 * t) with
  | some (.sl x) => some x
  | _ => none
def St.blk (st : St) (id : Nat) : Option (List It) := match look st (2 * id + 1) with
  | some (.bl l) => some l
  | _ => none
/-- A block of the run's own (it may be written); else one that is only read. -/
def own (id : Nat) : Bool := decide (16 ≤ id) && decide (id < 1000000000000000000000000000000000000000000000000000000000000000000000000000000000000)
/-- A block that an append made: its cells are known from the first on, not all; it is only read, and appended to. -/
def app (id : Nat) : Bool := decide (1000000000000000000000000000000000000000000000000000000000000000000000000000000000000 ≤ id) && decide (id < 2000000000000000000000000000000000000000000000000000000000000000000000000000000000000)
theorem own_app {id : Nat} (h : app id = true) : own id = false := by
  unfold app at h
  unfold own
  simp only [Bool.and_eq_true, decide_eq_true_eq] at h
  simp only [Bool.and_eq_false_iff, decide_eq_false_iff_not]
  omega
theorem app_own {id : Nat} (h : own id = true) : app id = false := by
  cases ha : app id with
  | false => rfl
  | true => rw [own_app ha] at h; cases h
/-- What stands there is told, or it is the run's own. -/
def Live (id : Nat) (l : List It) : Prop := own id = true ∨ sizes l ≠ 0
/-- A block's cells stand in the world. -/
def BlkOk (w : World) (id b o : Nat) (vs : List Value) : Prop :=
  b < w.heap.size ∧ (own id = true → o = 0 ∧ ∃ t, w.heap[b]? = some (.cells vs.toArray t (0, 0))) ∧
  (own id = false → app id = false → ∀ i v, vs[i]? = some v → w.cell? ⟨b, o + i, none⟩ = some v) ∧
  (app id = true → vs ≠ [] → ∃ (cur : Array Value) (t : TypeId), w.heap[b]? = some (.cells cur t (0, 0)) ∧ cur.size = o ∧ ∀ (i : Nat) (v : Value), vs[i]? = some v → cur[i]? = some v)
structure MemOk (ρ : Rho) (m : Nat → Option (List It)) (w : World) : Prop where
  blk : ∀ id l, m id = some l → ∃ b o vs, ρ id = some (b, o) ∧ conc ρ l = some vs ∧ BlkOk w id b o vs
structure Inj (ρ : Rho) (m : Nat → Option (List It)) : Prop where
  inj : ∀ id id' b o o' l l', (own id = true ∨ app id = true) → m id = some l → m id' = some l' → Live id l → Live id' l' → ρ id = some (b, o) → ρ id' = some (b, o') → id = id'
theorem Inj.congr {ρ : Rho} {m m' : Nat → Option (List It)} (h : Inj ρ m) (hm : ∀ id, m' id = m id) : Inj ρ m' :=
  ⟨fun id id' b o o' l l' ho h1 h2 => h.inj id id' b o o' l l' ho (by rw [← hm]; exact h1) (by rw [← hm]; exact h2)⟩
/-- Of a block of which nothing is told, nothing is asked. -/
theorem blkOk_dead {ρ : Rho} {id b o : Nat} {l : List It} {vs : List Value} {w w' : World} (hl : ¬ Live id l) (hc : conc ρ l = some vs) (h : BlkOk w id b o vs) (hs : w.heap.size ≤ w'.heap.size) : BlkOk w' id b o vs := by
  have h1 : own id = false := by
    cases ho : own id with
    | true => exact absurd (.inl ho) hl
    | false => rfl
  have h2 : sizes l = 0 := Classical.byContradiction fun h => hl (.inr h)
  have h3 : vs = [] := List.length_eq_zero_iff.1 (by rw [length_conc _ _ hc, h2])
  subst h3
  exact ⟨Nat.lt_of_lt_of_le h.1 hs, fun ho => (by rw [h1] at ho; cases ho), fun _ _ i v hv => (by cases hv), fun _ he => absurd rfl he⟩
structure Sim (ρ : Rho) (N : Nat) (st : St) (a : Act) (w : World) : Prop where
  slots : ∀ t x, st.slot t = some x → x.val ρ = some (a.tmps.getD t undef)
  size : a.tmps.size = N
  mem : MemOk ρ st.blk w
  inj : Inj ρ st.blk
  dom : ∀ id q, ρ id = some q → ∃ l, st.blk id = some l
  calm : a.defers = []
theorem Sim.congr {ρ : Rho} {N : Nat} {st st' : St} {a : Act} {w : World} (h : Sim ρ N st a w) (hs : ∀ k, look st' k = look st k) : Sim ρ N st' a w := by
  have h1 : ∀ t, st'.slot t = st.slot t := fun t => by unfold St.slot; rw [hs]
  have h2 : st'.blk = st.blk := funext fun t => by unfold St.blk; rw [hs]
  exact ⟨fun t x hx => h.slots t x (by rw [← h1]; exact hx), h.size, by rw [h2]; exact h.mem, by rw [h2]; exact h.inj, fun id q hq => by rw [h2]; exact h.dom id q hq, h.calm⟩

/-- What the world keeps: the streams, and every block but those of D. -/
structure Keep (D : Nat → Prop) (w w' : World) : Prop where
  os : w'.os = w.os
  tape : w'.tape = w.tape
  output : w'.output = w.output
  size : w.heap.size ≤ w'.heap.size
  block : ∀ k, k < w.heap.size → ¬ D k → w'.heap[k]? = w.heap[k]?
/-- The blocks of the run's own that ρ knows. -/
def Own (ρ : Rho) (b : Nat) : Prop := ∃ id o, (own id = true ∨ app id = true) ∧ ρ id = some (b, o)
/-- From one world to a later one: what ρ knows stays; what is new lies in new blocks; blocks that are not the run's own are as they were. -/
structure Ext (ρ : Rho) (w : World) (ρ' : Rho) (w' : World) : Prop where
  le : ρ.le ρ'
  new : ∀ id b o, ρ id = none → ρ' id = some (b, o) → w.heap.size ≤ b ∨ Own ρ b
  keep : Keep (Own ρ) w w'
theorem Ext.refl (ρ : Rho) (w : World) : Ext ρ w ρ w := ⟨.refl ρ, fun id b o h h' => (by rw [h] at h'; cases h'), rfl, rfl, rfl, Nat.le_refl _, fun _ _ _ => rfl⟩
theorem Ext.trans {ρ ρ' ρ'' : Rho} {w w' w'' : World} (h : Ext ρ w ρ' w') (k : Ext ρ' w' ρ'' w'') : Ext ρ w ρ'' w'' where
  le := h.le.trans k.le
  new id b o h0 h2 := by
    cases h1 : ρ' id with
    | none =>
      rcases k.new id b o h1 h2 with h3 | ⟨id2, o2, ho2, hq2⟩
      · exact .inl (Nat.le_trans h.keep.size h3)
      · cases h4 : ρ id2 with
        | none => exact h.new id2 b o2 h4 hq2
        | some q =>
          have := h.le id2 q h4
          rw [hq2] at this; cases this
          exact .inr ⟨id2, o2, ho2, h4⟩
    | some q =>
      have := k.le id q h1
      rw [h2] at this; cases this
      exact h.new id b o h0 h1
  keep := {
    os := k.keep.os.trans h.keep.os
    tape := k.keep.tape.trans h.keep.tape
    output := k.keep.output.trans h.keep.output
    size := Nat.le_trans h.keep.size k.keep.size
    block := fun j hj hD => by
      rw [k.keep.block j (Nat.lt_of_lt_of_le hj h.keep.size) ?_, h.keep.block j hj hD]
      rintro ⟨id, o, ho, hq⟩
      cases h0 : ρ id with
      | none =>
        rcases h.new id j o h0 hq with h3 | h3
        · omega
        · exact hD h3
      | some q =>
        have := h.le id q h0
        rw [hq] at this; cases this
        exact hD ⟨id, o, ho, h0⟩ }
theorem Ext.drew (ρ : Rho) (w : World) : Ext ρ w ρ w.drew := ⟨.refl ρ, fun id b o h h' => (by rw [h] at h'; cases h'), rfl, rfl, rfl, Nat.le_refl _, fun _ _ _ => rfl⟩
theorem Ext.below {ρ ρ' : Rho} {w w' : World} (h : Ext ρ w ρ' w') (hρ : ∀ b, ¬ Own ρ b) : Below w.heap.size w w' :=
  ⟨h.keep.os, h.keep.tape, h.keep.output, h.keep.size, fun k hk => h.keep.block k hk (hρ k)⟩
theorem Sim.drew {ρ : Rho} {N : Nat} {st : St} {a : Act} {w : World} (h : Sim ρ N st a w) : Sim ρ N st a w.drew :=
  ⟨h.slots, h.size, ⟨fun id l hl => h.mem.blk id l hl⟩, h.inj, h.dom, h.calm⟩

/-! ### three ways on: a slot is written; a block is made; a block is written -/
theorem slot_put_slot (st : St) (t : Nat) (x : SV) (u : Nat) : St.slot (puts st [(2 * t, .sl x)]) u = if t = u then some x else st.slot u := by
  unfold St.slot
  simp only [puts, look_upd]
  by_cases h : t = u
  · simp [h]
  · have : ¬ 2 * t = 2 * u := by omega
    simp [h, this]
theorem blk_put_slot (st : St) (t : Nat) (x : SV) (id : Nat) : St.blk (puts st [(2 * t, .sl x)]) id = st.blk id := by
  unfold St.blk
  simp only [puts, look_upd]
  have : ¬ 2 * t = 2 * id + 1 := by omega
  simp [this]
theorem slot_put_blk (st : St) (id : Nat) (l : List It) (u : Nat) : St.slot (puts st [(2 * id + 1, .bl l)]) u = st.slot u := by
  unfold St.slot
  simp only [puts, look_upd]
  have : ¬ 2 * id + 1 = 2 * u := by omega
  simp [this]
theorem blk_put_blk (st : St) (id : Nat) (l : List It) (j : Nat) : St.blk (puts st [(2 * id + 1, .bl l)]) j = if id = j then some l else st.blk j := by
  unfold St.blk
  simp only [puts, look_upd]
  by_cases h : id = j
  · simp [h]
  · have : ¬ 2 * id = 2 * j := by omega
    simp [h, this]
theorem Sim.put {ρ : Rho} {N : Nat} {st : St} {a : Act} {w : World} (h : Sim ρ N st a w) {t : Nat} (ht : t < N) {x : SV} {v : Value} (hv : x.val ρ = some v) :
    Sim ρ N (puts st [(2 * t, .sl x)]) (a.put (some t) v) w where
  slots u y hy := by
    rw [slot_put_slot] at hy
    by_cases hu : t = u
    · subst hu
      simp only [if_true, Option.some.injEq] at hy
      subst hy
      have : t < a.tmps.size := by rw [h.size]; exact ht
      simp [Act.put, this, hv]
    · simp only [hu, if_false] at hy
      have := h.slots u y hy
      simp only [Act.put, Array.getD_eq_getD_getElem?] at this ⊢
      rw [Array.getElem?_setIfInBounds_ne hu]; exact this
  size := by simp [Act.put, h.size]
  mem := ⟨fun id l hl => h.mem.blk id l (by rw [← blk_put_slot st t x]; exact hl)⟩
  inj := h.inj.congr fun id => blk_put_slot st t x id
  dom id q hq := by rw [blk_put_slot]; exact h.dom id q hq
  calm := h.calm
/-- ρ and one block more. -/
def Rho.set (ρ : Rho) (id b : Nat) : Rho := fun j => if j = id then some (b, 0) else ρ j
theorem Rho.le_set {ρ : Rho} {id b : Nat} (h : ρ id = none) : ρ.le (ρ.set id b) := fun j q hq => by
  unfold Rho.set
  by_cases hj : j = id
  · subst hj; rw [h] at hq; cases hq
  · rw [if_neg hj]; exact hq
theorem Inj.set {ρ : Rho} {m : Nat → Option (List It)} (h : Inj ρ m) {id b : Nat} {l : List It} (hb : ∀ j c o, ρ j = some (c, o) → c < b) : Inj (ρ.set id b) (fun j => if id = j then some l else m j) := ⟨fun j j' c o o' k k' ho m1 m2 l1 l2 h1 h2 => by
  unfold Rho.set at h1 h2
  by_cases e1 : j = id
  · by_cases e2 : j' = id
    · rw [e1, e2]
    · rw [if_pos e1] at h1; rw [if_neg e2] at h2; cases h1
      exact absurd (hb _ _ _ h2) (by omega)
  · by_cases e2 : j' = id
    · rw [if_neg e1] at h1; rw [if_pos e2] at h2; cases h2
      exact absurd (hb _ _ _ h1) (by omega)
    · rw [if_neg e1] at h1; rw [if_neg e2] at h2
      simp only [if_neg (fun e => e1 (Eq.symm e) : ¬ id = j)] at m1
      simp only [if_neg (fun e => e2 (Eq.symm e) : ¬ id = j')] at m2
      exact h.inj j j' c o o' k k' ho m1 m2 l1 l2 h1 h2⟩
theorem BlkOk.of_kept {w w' : World} {id b o : Nat} {vs : List Value} (h : BlkOk w id b o vs) (hs : w.heap.size ≤ w'.heap.size) (hb : w'.heap[b]? = w.heap[b]?) : BlkOk w' id b o vs := by
  obtain ⟨h1, h2, h3, h4⟩ := h
  refine ⟨by omega, fun ho => ?_, fun ho ha i v hv => ?_, fun ha he => ?_⟩
  · obtain ⟨h4, t, h5⟩ := h2 ho
    exact ⟨h4, t, by rw [hb]; exact h5⟩
  · rw [← h3 ho ha i v hv]
    exact World.cell?_of_block (a := ⟨b, o + i, none⟩) hb
  · rw [hb]; exact h4 ha he
theorem Sim.lt {ρ : Rho} {N : Nat} {st : St} {a : Act} {w : World} (h : Sim ρ N st a w) {id b o : Nat} (hq : ρ id = some (b, o)) : b < w.heap.size := by
  obtain ⟨l, hl⟩ := h.dom id _ hq
  obtain ⟨b', o', vs, h1, _, h2, _⟩ := h.mem.blk id l hl
  rw [hq] at h1; cases h1; exact h2
theorem Sim.unknown {ρ : Rho} {N : Nat} {st : St} {a : Act} {w : World} (h : Sim ρ N st a w) {id : Nat} (hn : st.blk id = Option.none)   : ρ id = none := by
  cases hq : ρ id with
  | none => rfl
  | some q => obtain ⟨l, hl⟩ := h.dom id q hq; rw [hn] at hl; cases hl
theorem heap_alloc (w : World) (o : Obj) (k : Nat) (h : k < w.heap.size) : (w.alloc o).heap[k]? = w.heap[k]? := Below.heap_alloc w o k h
theorem Ext.alloc {ρ : Rho} {w : World} {id : Nat} (hn : ρ id = none) (o : Obj) : Ext ρ w (ρ.set id w.heap.size) (w.alloc o) where
  le := Rho.le_set hn
  new j b o h0 h1 := by
    unfold Rho.set at h1
    by_cases e : j = id
    · rw [if_pos e] at h1; cases h1; exact .inl (Nat.le_refl _)
    · rw [if_neg e, h0] at h1; cases h1
  keep := ⟨rfl, rfl, rfl, by simp, fun k hk _ => heap_alloc _ _ _ hk⟩
theorem Sim.alloc {ρ : Rho} {N : Nat} {st : St} {a : Act} {w : World} (h : Sim ρ N st a w) {id : Nat} (hn : st.blk id = Option.none) (ha : app id = false) {l : List It} {vs : List Value} (hv : conc ρ l = some vs) (t : TypeId) :
    Sim (ρ.set id w.heap.size) N (puts st [(2 * id + 1, .bl l)]) a (w.alloc (.cells vs.toArray t)) where
  slots u x hx := SV.val_le (Rho.le_set (h.unknown hn)) _ _ (h.slots u x (by rw [← slot_put_blk st id l]; exact hx))
  size := h.size
  mem := ⟨fun j m hm => by
    rw [blk_put_blk] at hm
    by_cases e : id = j
    · subst e
      simp only [if_true, Option.some.injEq] at hm
      subst hm
      refine ⟨w.heap.size, 0, vs, by simp [Rho.set], conc_le (Rho.le_set (h.unknown hn)) _ _ hv, by simp, fun _ => ⟨rfl, t, ?_⟩, fun _ _ i v hi => ?_, fun h' _ => by rw [ha] at h'; cases h'⟩
      · exact heap_alloc_new w _
      · rw [World.cell?_alloc_new]; simpa using hi
    · simp only [e, if_false] at hm
      obtain ⟨b, o, us, h1, h2, h3⟩ := h.mem.blk j m hm
      refine ⟨b, o, us, Rho.le_set (h.unknown hn) _ _ h1, conc_le (Rho.le_set (h.unknown hn)) _ _ h2, h3.of_kept (by simp) (heap_alloc _ _ _ h3.1)⟩⟩
  inj := (h.inj.set (l := l) fun j c o hq => h.lt hq).congr fun j => blk_put_blk st id l j
  dom j q hq := by
    rw [blk_put_blk]
    by_cases e : id = j
    · exact ⟨l, by simp [e]⟩
    · simp only [e, if_false]
      have : ¬ j = id := fun h => e h.symm
      unfold Rho.set at hq
      rw [if_neg this] at hq
      exact h.dom j q hq
  calm := h.calm
theorem Ext.store {ρ : Rho} {w w' : World} {id b : Nat} (ho : own id = true) (hq : ρ id = some (b, 0)) (h1 : w'.os = w.os) (h2 : w'.tape = w.tape) (h3 : w'.output = w.output) (hs : w'.heap.size = w.heap.size)
    (hb : ∀ k, k ≠ b → w'.heap[k]? = w.heap[k]?) : Ext ρ w ρ w' :=
  ⟨.refl ρ, fun id b o h h' => (by rw [h] at h'; cases h'), h1, h2, h3, by omega, fun k _ hD => hb k fun e => hD ⟨id, 0, .inl ho, e ▸ hq⟩⟩
theorem Sim.store {ρ : Rho} {N : Nat} {st : St} {a : Act} {w w' : World} (h : Sim ρ N st a w) {id b : Nat} (ho : own id = true) (hq : ρ id = some (b, 0)) (hs : w'.heap.size = w.heap.size)
    (hb : ∀ k, k ≠ b → w'.heap[k]? = w.heap[k]?) {l : List It} {vs : List Value} (hv : conc ρ l = some vs) {t : TypeId} (hw : w'.heap[b]? = some (.cells vs.toArray t (0, 0))) :
    Sim ρ N (puts st [(2 * id + 1, .bl l)]) a w' where
  slots u x hx := h.slots u x (by rw [← slot_put_blk st id l]; exact hx)
  size := h.size
  mem := ⟨fun j m hm => by
    rw [blk_put_blk] at hm
    by_cases e : id = j
    · subst e
      simp only [if_true, Option.some.injEq] at hm
      subst hm
      refine ⟨b, 0, vs, hq, hv, by have := h.lt hq; omega, fun _ => ⟨rfl, t, hw⟩, fun hf => (by rw [ho] at hf; cases hf), fun hf => (by rw [app_own ho] at hf; cases hf)⟩
    · simp only [e, if_false] at hm
      obtain ⟨c, o, us, h1, h2, h3⟩ := h.mem.blk j m hm
      by_cases hlv : Live j m
      · refine ⟨c, o, us, h1, h2, h3.of_kept (by omega) (hb c fun ec => e ?_)⟩
        obtain ⟨l0, hl0⟩ := h.dom id _ hq
        exact h.inj.inj id j b 0 o l0 m (.inl ho) hl0 hm (.inl ho) hlv hq (ec ▸ h1)
      · exact ⟨c, o, us, h1, h2, blkOk_dead hlv h2 h3 (by omega)⟩⟩
  inj := ⟨fun i i' c o o' k k' hi m1 m2 l1 l2 h1 h2 => by
    have old : ∀ j kj, St.blk (puts st [(2 * id + 1, .bl l)]) j = some kj → Live j kj → ∃ k0, st.blk j = some k0 ∧ Live j k0 := by
      intro j kj hj hlv
      rw [blk_put_blk] at hj
      by_cases e : id = j
      · subst e
        obtain ⟨l0, hl0⟩ := h.dom id _ hq
        exact ⟨l0, hl0, .inl ho⟩
      · rw [if_neg e] at hj; exact ⟨kj, hj, hlv⟩
    obtain ⟨k0, e1, e2⟩ := old i k m1 l1
    obtain ⟨k0', e3, e4⟩ := old i' k' m2 l2
    exact h.inj.inj i i' c o o' k0 k0' hi e1 e3 e2 e4 h1 h2⟩
  dom j q hj := by
    rw [blk_put_blk]
    by_cases e : id = j
    · exact ⟨l, by simp [e]⟩
    · simp only [e, if_false]; exact h.dom j q hj
  calm := h.calm
/-! ### an append's block -/
/-- ρ and one block more, of a known size. -/
def Rho.setq (ρ : Rho) (id : Nat) (q : Nat × Nat) : Rho := fun j => if j = id then some q else ρ j
theorem Rho.le_setq {ρ : Rho} {id : Nat} {q : Nat × Nat} (h : ρ id = none) : ρ.le (ρ.setq id q) := fun j q hq => by
  unfold Rho.setq
  by_cases hj : j = id
  · subst hj; rw [h] at hq; cases hq
  · rw [if_neg hj]; exact hq
theorem Sim.kill {ρ : Rho} {N : Nat} {st : St} {a : Act} {w : World} (h : Sim ρ N st a w) {id : Nat} (ha : app id = true) {l0 : List It} (hl0 : st.blk id = some l0) : Sim ρ N (puts st [(2 * id + 1, .bl [])]) a w where
  slots u x hx := h.slots u x (by rw [← slot_put_blk st id []]; exact hx)
  size := h.size
  mem := ⟨fun j m hm => by
    rw [blk_put_blk] at hm
    by_cases e : id = j
    · subst e
      simp only [if_true, Option.some.injEq] at hm
      subst hm
      obtain ⟨b, o, vs, h1, h2, h3⟩ := h.mem.blk id l0 hl0
      exact ⟨b, o, [], h1, rfl, h3.1, fun ho => (by rw [own_app ha] at ho; cases ho), fun _ hf => (by rw [ha] at hf; cases hf), fun _ he => absurd rfl he⟩
    · simp only [e, if_false] at hm
      exact h.mem.blk j m hm⟩
  inj := ⟨fun i i' c o o' k k' hi m1 m2 l1 l2 h1 h2 => by
    have old : ∀ j kj, St.blk (puts st [(2 * id + 1, .bl [])]) j = some kj → Live j kj → st.blk j = some kj := by
      intro j kj hj hlv
      rw [blk_put_blk] at hj
      by_cases e : id = j
      · subst e
        simp only [if_true, Option.some.injEq] at hj
        subst hj
        rcases hlv with hlv | hlv
        · rw [own_app ha] at hlv; cases hlv
        · exact absurd rfl hlv
      · rw [if_neg e] at hj; exact hj
    exact h.inj.inj i i' c o o' k k' hi (old _ _ m1 l1) (old _ _ m2 l2) l1 l2 h1 h2⟩
  dom j q hj := by
    rw [blk_put_blk]
    by_cases e : id = j
    · exact ⟨[], by simp [e]⟩
    · simp only [e, if_false]; exact h.dom j q hj
  calm := h.calm
theorem Sim.appAt {ρ : Rho} {N : Nat} {st : St} {a : Act} {w w' : World} (h : Sim ρ N st a w) {id b : Nat} (ha : app id = true) (hn : st.blk id = Option.none) (hno : ∀ j m o, st.blk j = some m → Live j m → ρ j = some (b, o) → False)
    (hs : w.heap.size ≤ w'.heap.size) (hb : ∀ j, j < w.heap.size → j ≠ b → w'.heap[j]? = w.heap[j]?) {l : List It} {vs : List Value} {cur : Array Value} {t : TypeId} (hv : conc ρ l = some vs) (hw : w'.heap[b]? = some (.cells cur t (0, 0)))
    (hp : ∀ (i : Nat) (v : Value), vs[i]? = some v → cur[i]? = some v) : Sim (ρ.setq id (b, cur.size)) N (puts st [(2 * id + 1, .bl l)]) a w' where
  slots u x hx := SV.val_le (Rho.le_setq (h.unknown hn)) _ _ (h.slots u x (by rw [← slot_put_blk st id l]; exact hx))
  size := h.size
  mem := ⟨fun j m hm => by
    rw [blk_put_blk] at hm
    by_cases e : id = j
    · subst e
      simp only [if_true, Option.some.injEq] at hm
      subst hm
      have hlt : b < w'.heap.size := (Array.getElem?_eq_some_iff.1 hw).1
      exact ⟨b, cur.size, vs, by simp [Rho.setq], conc_le (Rho.le_setq (h.unknown hn)) _ _ hv, hlt, fun ho => (by rw [own_app ha] at ho; cases ho), fun _ hf => (by rw [ha] at hf; cases hf), fun _ _ => ⟨cur, t, hw, rfl, hp⟩⟩
    · simp only [e, if_false] at hm
      obtain ⟨c, o, us, h1, h2, h3⟩ := h.mem.blk j m hm
      refine ⟨c, o, us, Rho.le_setq (h.unknown hn) _ _ h1, conc_le (Rho.le_setq (h.unknown hn)) _ _ h2, ?_⟩
      by_cases hlv : Live j m
      · exact h3.of_kept hs (hb c h3.1 fun ec => hno j m o hm hlv (ec ▸ h1))
      · exact blkOk_dead hlv h2 h3 hs⟩
  inj := ⟨fun i i' c o o' k k' hi m1 m2 l1 l2 h1 h2 => by
    rw [blk_put_blk] at m1 m2
    unfold Rho.setq at h1 h2
    by_cases e1 : i = id
    · by_cases e2 : i' = id
      · rw [e1, e2]
      · rw [if_pos e1] at h1; rw [if_neg e2] at h2; cases h1
        rw [if_neg (fun e => e2 (Eq.symm e))] at m2
        exact (hno i' k' o' m2 l2 h2).elim
    · by_cases e2 : i' = id
      · rw [if_neg e1] at h1; rw [if_pos e2] at h2; cases h2
        rw [if_neg (fun e => e1 (Eq.symm e))] at m1
        exact (hno i k o m1 l1 h1).elim
      · rw [if_neg e1] at h1; rw [if_neg e2] at h2
        rw [if_neg (fun e => e1 (Eq.symm e))] at m1
        rw [if_neg (fun e => e2 (Eq.symm e))] at m2
        exact h.inj.inj i i' c o o' k k' hi m1 m2 l1 l2 h1 h2⟩
  dom j q hq := by
    rw [blk_put_blk]
    by_cases e : id = j
    · exact ⟨l, by simp [e]⟩
    · simp only [e, if_false]
      unfold Rho.setq at hq
      rw [if_neg (fun h => e h.symm)] at hq
      exact h.dom j q hq
  calm := h.calm
theorem Ext.appAt {ρ : Rho} {w w' : World} {id : Nat} {q : Nat × Nat} (hn : ρ id = none) (hq : w.heap.size ≤ q.1 ∨ Own ρ q.1) (h1 : w'.os = w.os) (h2 : w'.tape = w.tape) (h3 : w'.output = w.output) (hs : w.heap.size ≤ w'.heap.size)
    (hb : ∀ j, j < w.heap.size → j ≠ q.1 → w'.heap[j]? = w.heap[j]?) : Ext ρ w (ρ.setq id q) w' where
  le := Rho.le_setq hn
  new j b o h0 h1 := by
    unfold Rho.setq at h1
    by_cases e : j = id
    · rw [if_pos e] at h1; cases h1; exact hq
    · rw [if_neg e, h0] at h1; cases h1
  keep := ⟨h1, h2, h3, hs, fun k hk hD => hb k hk fun e => by
    subst e
    rcases hq with hq | hq
    · omega
    · exact hD hq⟩
end Go.Eng
/-
  THE ENGINE, part C: types: a table of what the run needs of them; '==' on rows of integers and bools.
-/
namespace Go.Eng
open Go Go.RowKit

def aggD : TypeDesc → Bool
  | .struct _ | .array _ _ => true
  | _ => false
/-- An integer's kind; none: a bool. -/
abbrev K := Option IntKind
def kOk : Value → K → Bool
  | .int k _, some k' => decide (k = k')
  | .bool _, none => true
  | _, _ => false
def fits : List Value → List K → Bool
  | [], [] => true
  | v :: vs, k :: ks => kOk v k && fits vs ks
  | _, _ => false
def flatFs (P : Program) (g : TypeId → Option (List K)) : Nat → List Field → Option (List K)
  | _, [] => some []
  | off, f :: fs => if f.name ≠ "_" ∧ f.offset = off then
      (match g f.type with
      | some ks => if P.cellsOf f.type = ks.length then (match flatFs P g (off + ks.length) fs with | some r => some (ks ++ r) | none => none) else none
      | none => none) else none
/-- A type's cells, where they are integers and bools, laid side by side. -/
def flat (P : Program) : Nat → TypeId → Option (List K)
  | 0, _ => none
  | d + 1, t => match P.underlying t with
    | some .bool => some [none]
    | some (.int k) => some [some k]
    | some (.array n e) => match flat P d e with
      | some ks => if P.cellsOf e = ks.length ∧ (P.info? e).isSome = true then some (List.replicate n ks).flatten else none
      | none => none
    | some (.struct fs) => if P.stoodInHeld t = true then none else flatFs P (flat P d) 0 fs.toList
    | _ => none
theorem fits_length : ∀ (vs : List Value) (ks : List K), fits vs ks = true → vs.length = ks.length := by
  intro vs
  induction vs with
  | nil => intro ks h; cases ks with
    | nil => rfl
    | cons k ks => cases h
  | cons v vs ih => intro ks h; cases ks with
    | nil => cases h
    | cons k ks => simp only [fits, Bool.and_eq_true] at h; simp [ih ks h.2]
theorem fits_split : ∀ (ks ls : List K) (vs : List Value), fits vs (ks ++ ls) = true → fits (vs.take ks.length) ks = true ∧ fits (vs.drop ks.length) ls = true := by
  intro ks
  induction ks with
  | nil => intro ls vs h; exact ⟨rfl, by simpa using h⟩
  | cons k ks ih =>
    intro ls vs h
    cases vs with
    | nil => cases h
    | cons v vs =>
      simp only [List.cons_append, fits, Bool.and_eq_true] at h
      obtain ⟨h1, h2⟩ := ih ls vs h.2
      simp only [List.length_cons, List.take_succ_cons, List.drop_succ_cons, fits, Bool.and_eq_true]
      exact ⟨⟨h.1, h1⟩, h2⟩
section
variable {P : Program}
/-- A row of cells as a value of a type. -/
def form (P : Program) (t : TypeId) (vs : List Value) : Value := match P.underlying t with
  | some u => if aggD u then .agg vs.toArray else vs.headD undef
  | none => undef
theorem run_isAgg {t : TypeId} {u : TypeDesc} (h : P.underlying t = some u) (w : World) : (isAgg t).run P w = .ok (aggD u) w := by
  unfold isAgg
  rw [Sem.run_bind, run_underlying h w]
  cases u <;> rfl
theorem run_part {t : TypeId} {u : TypeDesc} {i : TypeInfo} (h : P.underlying t = some u) (hi : P.info? t = some i) {cs : Array Value} {off : Nat} (hl : off + P.cellsOf t ≤ cs.size) (h1 : aggD u = false → P.cellsOf t = 1) (w : World) :
    (part t cs off).run P w = .ok (form P t ((cs.toList.drop off).take (P.cellsOf t))) w := by
  unfold part form
  rw [Sem.run_bind, run_isAgg h]
  simp only [Result.andThen_ok, h]
  cases hu : aggD u with
  | true =>
    simp only [if_true, Sem.run_bind, run_sizeOf w hi, Result.andThen_ok, Sem.run_pure]
    congr 2
    apply Array.ext'
    rw [Array.toList_extract]
    simp [List.extract_eq_take_drop]
  | false =>
    have h2 := h1 hu
    rw [h2] at hl
    have hlt : off < cs.size := by omega
    have e : (cs.toList.drop off).take 1 = [cs[off]] := by
      rw [List.drop_eq_getElem_cons (by simpa using hlt)]
      simp
    simp only [Bool.false_eq_true, if_false, h2, e, List.headD_cons]
    simp [hlt]
theorem flat_info : ∀ (d : Nat) (t : TypeId) (ks : List K), flat P d t = some ks → ∃ u i, P.underlying t = some u ∧ P.info? t = some i ∧ (aggD u = false → ks.length = 1) := by
  intro d t ks h
  cases d with
  | zero => cases h
  | succ d =>
    simp only [flat] at h
    cases hu : P.underlying t with
    | none => simp [hu] at h
    | some u =>
      obtain ⟨i, hi⟩ := info_of_underlying hu
      refine ⟨u, i, rfl, hi, fun ha => ?_⟩
      cases u <;> simp [hu, aggD] at h ha
      all_goals (subst h; rfl)
def EqFlat (P : Program) (D : Nat) (t : TypeId) (ks : List K) : Prop := ∀ (w : World) (vs us : List Value), fits vs ks = true → fits us ks = true →
  ∃ r : Bool, (Op.equalIn D t (form P t vs) (form P t us)).run P w = .ok r w ∧ (r = true ↔ vs = us)
theorem take_drop_eq {α : Type} (n : Nat) (xs ys : List α) : (xs.take n = ys.take n ∧ xs.drop n = ys.drop n) ↔ xs = ys := by
  constructor
  · rintro ⟨h1, h2⟩; rw [← List.take_append_drop n xs, ← List.take_append_drop n ys, h1, h2]
  · rintro rfl; exact ⟨rfl, rfl⟩
theorem eq_step {D : Nat} {t : TypeId} {ks : List K} {u : TypeDesc} {i : TypeInfo} (hu : P.underlying t = some u) (hi : P.info? t = some i) (h1 : aggD u = false → ks.length = 1) (hc : P.cellsOf t = ks.length)
    (IH : EqFlat P D t ks) (w : World) {xs ys : Array Value} {off : Nat} {vs us : List Value} (hx : xs.toList.drop off = vs) (hy : ys.toList.drop off = us) (ls : List K)
    (fv : fits vs (ks ++ ls) = true) (fu : fits us (ks ++ ls) = true) :
    ∃ a b r, (part t xs off).run P w = .ok a w ∧ (part t ys off).run P w = .ok b w ∧ (Op.equalIn D t a b).run P w = .ok r w ∧ (r = true ↔ vs.take ks.length = us.take ks.length) := by
  have lv := fits_length _ _ fv
  have lu := fits_length _ _ fu
  rw [List.length_append] at lv lu
  have bound : ∀ {cs : Array Value} {zs : List Value}, cs.toList.drop off = zs → zs.length = ks.length + ls.length → (ks.length = 0 ∨ off + P.cellsOf t ≤ cs.size) := by
    intro cs zs hz hl
    rw [← hz, List.length_drop, Array.length_toList] at hl
    by_cases h0 : ks.length = 0
    · exact .inl h0
    · right; omega
  have part_ok : ∀ {cs : Array Value} {zs : List Value}, cs.toList.drop off = zs → zs.length = ks.length + ls.length → (part t cs off).run P w = .ok (form P t (zs.take ks.length)) w := by
    intro cs zs hz hl
    rcases bound hz hl with h0 | hb
    · -- no cells: an aggregate
      have ha : aggD u = true := by
        cases hh : aggD u with
        | true => rfl
        | false => have := h1 hh; omega
      unfold part form
      rw [Sem.run_bind, run_isAgg hu]
      simp only [Result.andThen_ok, hu, ha, if_true, Sem.run_bind, run_sizeOf w hi, Sem.run_pure, hc, h0, Nat.add_zero, List.take_zero]
      congr 2
      apply Array.ext'
      rw [Array.toList_extract]
      simp [List.extract_eq_take_drop]
    · have := run_part hu hi hb (fun h => by rw [hc]; exact h1 h) w
      rw [hz, hc] at this
      exact this
  obtain ⟨r, hr, hiff⟩ := IH w _ _ (fits_split ks ls vs fv).1 (fits_split ks ls us fu).1
  exact ⟨_, _, r, part_ok hx lv, part_ok hy lu, hr, hiff⟩
theorem eqFields_flat {D : Nat} {g : TypeId → Option (List K)} (IH : ∀ t ks, g t = some ks → EqFlat P D t ks ∧ ∃ u i, P.underlying t = some u ∧ P.info? t = some i ∧ (aggD u = false → ks.length = 1)) (xs ys : Array Value) (w : World) :
    ∀ (fs : List Field) (off : Nat) (ks : List K) (vs us : List Value), flatFs P g off fs = some ks → xs.toList.drop off = vs → ys.toList.drop off = us → fits vs ks = true → fits us ks = true →
      ∃ r : Bool, (Op.eqFields D xs ys fs).run P w = .ok r w ∧ (r = true ↔ vs = us) := by
  intro fs
  induction fs with
  | nil =>
    intro off ks vs us h _ _ fv fu
    simp only [flatFs, Option.some.injEq] at h
    subst h
    have e1 : vs = [] := by cases vs with | nil => rfl | cons _ _ => cases fv
    have e2 : us = [] := by cases us with | nil => rfl | cons _ _ => cases fu
    exact ⟨true, rfl, by simp [e1, e2]⟩
  | cons f fs ih =>
    intro off ks vs us h hx hy fv fu
    simp only [flatFs] at h
    split at h
    · rename_i hf
      obtain ⟨hn, ho⟩ := hf
      cases hg : g f.type with
      | none => simp [hg] at h
      | some kf =>
        simp only [hg] at h
        split at h
        · rename_i hc
          cases hr : flatFs P g (off + kf.length) fs with
          | none => simp [hr] at h
          | some kr =>
            simp only [hr, Option.some.injEq] at h
            subst h
            obtain ⟨E, u, i, hu, hi, h1⟩ := IH _ _ hg
            obtain ⟨a, b, r, p1, p2, p3, hiff⟩ := eq_step hu hi h1 hc E w hx hy kr fv fu
            obtain ⟨r', q, hiff'⟩ := ih (off + kf.length) kr (vs.drop kf.length) (us.drop kf.length) hr (by rw [← hx, List.drop_drop]) (by rw [← hy, List.drop_drop])
              (fits_split kf kr vs fv).2 (fits_split kf kr us fu).2
            simp only [Op.eqFields, hn, ne_eq, not_false_eq_true, if_true, ho, Sem.run_bind, p1, p2, p3, Result.andThen_ok]
            cases r with
            | false => exact ⟨false, by simp, by simp only [Bool.false_eq_true, false_iff]; intro e; exact absurd (hiff.2 (by rw [e])) (by simp)⟩
            | true =>
              refine ⟨r', by simpa using q, ?_⟩
              rw [hiff', ← take_drop_eq kf.length vs us]
              exact ⟨fun h => ⟨hiff.1 rfl, h⟩, fun h => h.2⟩
        · cases h
    · cases h
theorem eqItems_flat {D : Nat} {e : TypeId} {ke : List K} {u : TypeDesc} {i : TypeInfo} (hu : P.underlying e = some u) (hi : P.info? e = some i) (h1 : aggD u = false → ke.length = 1) (hc : P.cellsOf e = ke.length)
    (IH : EqFlat P D e ke) (xs ys : Array Value) (w : World) :
    ∀ (m k : Nat) (vs us : List Value), xs.toList.drop (k * ke.length) = vs → ys.toList.drop (k * ke.length) = us → fits vs (List.replicate m ke).flatten = true → fits us (List.replicate m ke).flatten = true →
      ∃ r : Bool, (Op.eqItems D e (P.cellsOf e) xs ys (List.range' k m)).run P w = .ok r w ∧ (r = true ↔ vs = us) := by
  intro m
  induction m with
  | zero =>
    intro k vs us _ _ fv fu
    have e1 : vs = [] := by cases vs with | nil => rfl | cons _ _ => cases fv
    have e2 : us = [] := by cases us with | nil => rfl | cons _ _ => cases fu
    exact ⟨true, rfl, by simp [e1, e2]⟩
  | succ m ih =>
    intro k vs us hx hy fv fu
    rw [List.replicate_succ, List.flatten_cons] at fv fu
    obtain ⟨a, b, r, p1, p2, p3, hiff⟩ := eq_step hu hi h1 hc IH w hx hy _ fv fu
    obtain ⟨r', q, hiff'⟩ := ih (k + 1) (vs.drop ke.length) (us.drop ke.length) (by rw [← hx, List.drop_drop, Nat.succ_mul]) (by rw [← hy, List.drop_drop, Nat.succ_mul])
      (fits_split ke _ vs fv).2 (fits_split ke _ us fu).2
    rw [← hc] at p1 p2
    simp only [List.range'_succ, Op.eqItems, Sem.run_bind, p1, p2, p3, Result.andThen_ok]
    cases r with
    | false => exact ⟨false, by simp, by simp only [Bool.false_eq_true, false_iff]; intro e; exact absurd (hiff.2 (by rw [e])) (by simp)⟩
    | true =>
      refine ⟨r', by simpa using q, ?_⟩
      rw [hiff', ← take_drop_eq ke.length vs us]
      exact ⟨fun h => ⟨hiff.1 rfl, h⟩, fun h => h.2⟩
theorem kOk_int {v : Value} {k : IntKind} (h : kOk v (some k) = true) : ∃ n, v = .int k n := by
  cases v <;> simp [kOk] at h
  subst h; exact ⟨_, rfl⟩
theorem kOk_bool {v : Value} (h : kOk v none = true) : ∃ n, v = .bool n := by
  cases v <;> simp [kOk] at h
  exact ⟨_, rfl⟩
theorem fits_one {vs : List Value} {k : K} (h : fits vs [k] = true) : ∃ v, vs = [v] ∧ kOk v k = true := by
  cases vs with
  | nil => cases h
  | cons v vs =>
    simp only [fits, Bool.and_eq_true] at h
    cases vs with
    | nil => exact ⟨v, rfl, h.1⟩
    | cons _ _ => exact absurd h.2 (by simp [fits])
theorem run_flat (D : Nat) : ∀ (d : Nat) (t : TypeId) (ks : List K), flat P d t = some ks → EqFlat P (D + d) t ks := by
  intro d
  induction d with
  | zero => intro t ks h; cases h
  | succ d ih =>
    intro t ks h w vs us fv fu
    have h0 := h
    simp only [flat] at h
    cases hu : P.underlying t with
    | none => simp [hu] at h
    | some u =>
      cases u <;> simp only [hu] at h <;> try (cases h; done)
      case bool =>
        cases h
        obtain ⟨a, rfl, ha⟩ := fits_one fv
        obtain ⟨b, rfl, hb⟩ := fits_one fu
        obtain ⟨a, rfl⟩ := kOk_bool ha
        obtain ⟨b, rfl⟩ := kOk_bool hb
        exact ⟨a == b, by rw [show D + (d + 1) = (D + d) + 1 from rfl]; simpa [form, hu, aggD] using run_equalIn_bool w (D + d) t a b hu, by simp⟩
      case int k =>
        cases h
        obtain ⟨a, rfl, ha⟩ := fits_one fv
        obtain ⟨b, rfl, hb⟩ := fits_one fu
        obtain ⟨a, rfl⟩ := kOk_int ha
        obtain ⟨b, rfl⟩ := kOk_int hb
        exact ⟨a == b, by rw [show D + (d + 1) = (D + d) + 1 from rfl]; simpa [form, hu, aggD] using run_equalIn_int w (D + d) t k k a b hu, by simp⟩
      case array n e =>
        cases he : flat P d e with
        | none => simp [he] at h
        | some ke =>
          simp only [he] at h
          split at h
          · rename_i hc
            simp only [Option.some.injEq] at h
            subst h
            obtain ⟨ue, ie, hue, hie, h1⟩ := flat_info d e ke he
            obtain ⟨r, hr, hiff⟩ := eqItems_flat hue hie h1 hc.1 (ih e ke he) vs.toArray us.toArray w n 0 vs us (by simp) (by simp) fv fu
            refine ⟨r, ?_, hiff⟩
            simp only [form, hu, aggD, if_true]
            rw [show D + (d + 1) = (D + d) + 1 from rfl, run_equalIn_array w (D + d) _ _ hu hie, List.range_eq_range']
            exact hr
          · cases h
      case struct fs =>
        split at h
        · cases h
        · rename_i hp
          have hfs : P.fieldsOf t = fs := by simp [Program.fieldsOf, hu]
          obtain ⟨r, hr, hiff⟩ := eqFields_flat (D := D + d) (g := flat P d) (fun t ks hg => ⟨ih t ks hg, flat_info d t ks hg⟩) vs.toArray us.toArray w fs.toList 0 ks vs us h (by simp) (by simp) fv fu
          refine ⟨r, ?_, hiff⟩
          simp only [form, hu, aggD, if_true]
          rw [show D + (d + 1) = (D + d) + 1 from rfl, run_equalIn_struct w (D + d) t _ _ (by rw [hfs]; exact hu) (by simpa using hp), hfs]
          exact hr
end
end Go.Eng
/-
  THE ENGINE, part D: what an operation is to do, read off its operands ('opPlan'); that the model does just that.
-/
namespace Go.Eng
open Go Go.RowKit

def rho0 : Rho := fun _ => none
theorem rho0_le (ρ : Rho) : rho0.le ρ := fun _ _ h => by cases h

/-- What is to be known of a type. -/
structure Ty where
  size : Nat
  agg : Bool
  zero : Option (List It)
  ik : Option IntKind
  fields : List (Nat × Nat × Bool)
  arr : Option (Nat × Nat × Bool)
  sl : Option Nat
  kinds : List K
  slz : Option It := none
  ez : Option (List It) := none
  str : Bool := false
  mk8 : Bool := false

def elemOf (P : Program) (e : TypeId) : Option (Nat × Bool) := match P.info? e, P.underlying e with
  | some i, some u => some (i.size, aggD u)
  | _, _ => none
def fieldOf (P : Program) (f : Field) : Option (Nat × Nat × Bool) := match elemOf P f.type with
  | some (s, g) => some (f.offset, s, g)
  | none => none
def ikD : TypeDesc → Option IntKind
  | .int k => some k
  | _ => none
def fieldsD (P : Program) : TypeDesc → List (Option (Nat × Nat × Bool))
  | .struct fs => fs.toList.map (fieldOf P)
  | _ => []
def arrD (P : Program) : TypeDesc → Option (Nat × Nat × Bool)
  | .array n e => match elemOf P e with
    | some (s, g) => some (n, s, g)
    | none => none
  | _ => none
def slD (P : Program) : TypeDesc → Option Nat
  | .slice e => match elemOf P e with
    | some (s, _) => some s
    | none => none
  | _ => none
def core (P : Program) (t : TypeId) : Option (Nat × Bool × Option IntKind × List (Option (Nat × Nat × Bool)) × Option (Nat × Nat × Bool) × Option Nat) :=
  match P.info? t, P.underlying t with
  | some i, some u => some (i.size, aggD u, ikD u, fieldsD P u, arrD P u, slD P u)
  | _, _ => none
def zeroP (P : Program) (t : TypeId) : Option (List Value) := match P.info? t with
  | some i => match i.zero with
    | some v => some v.cells.toList
    | none => none
  | none => none
structure TyOk (P : Program) (t : TypeId) (d : Ty) : Prop where
  core : core P t = some (d.size, d.agg, d.ik, d.fields.map some, d.arr, d.sl)
  zero : ∀ l, d.zero = some l → ∃ vs, conc rho0 l = some vs ∧ zeroP P t = some vs
  kinds : d.kinds = [] ∨ (flat P 8 t = some d.kinds ∧ P.eqGuardType P.depth t = false)
  slz : ∀ i, d.slz = some i → ∃ e v, P.underlying t = some (.slice e) ∧ i.cs rho0 = some [v] ∧ zeroP P e = some [v]
  ez : ∀ l, d.ez = some l → ∃ e vs, P.underlying t = some (.slice e) ∧ conc rho0 l = some vs ∧ zeroP P e = some vs
  str : d.str = true → P.underlying t = some .string
  mk8 : d.mk8 = true → ∃ e i, P.underlying t = some (.slice e) ∧ P.info? e = some i ∧ i.bytes ≤ 8

inductive Plan where
  | val (x : SV) (ob : List Prop)
  | load (id off len : Nat) (agg : Bool)
  | new (l : List It) (sl : Option Nat)
  | store (id off : Nat) (l : List It)
  | call (f : FuncId) (args : List AV)
  | copy (did doff sid soff cells cnt : Nat)
  | clear (id off : Nat) (l : List It)
  | app (c : Bool) (xid xoff xlen xcap yid yoff m : Nat)

def asInt : AV → Option (IntKind × Int)
  | ⟨false, [.v (.int k a)]⟩ => some (k, a)
  | _ => none
def asBool : AV → Option Bool
  | ⟨false, [.v (.bool b)]⟩ => some b
  | _ => none
def asPtr : AV → Option (Nat × Nat)
  | ⟨false, [.p id off]⟩ => some (id, off)
  | _ => none
def it1 (i : It) : SV := .one ⟨false, [i]⟩
def vI (k : IntKind) (a : Int) : SV := it1 (.v (.int k a))
def vB (b : Bool) : SV := it1 (.v (.bool b))

def cmpV (c : Prop) (d : Bool) : Option Bool → SV × List Prop
  | some h => (vB h, [c ↔ h = true])
  | none => (vB d, [])
def bits (op : BinOp) (k : IntKind) (x y : Int) : Int :=
  let a := BitVec.ofInt k.bits x
  let b := BitVec.ofInt k.bits y
  match op with
  | .and => k.wrap (a &&& b).toNat
  | .or => k.wrap (a ||| b).toNat
  | .xor => k.wrap (a ^^^ b).toNat
  | _ => k.wrap (a &&& ~~~b).toNat
/-- A side condition: reckoned, where no hint is given; else owed. -/
def owed (c : Prop) (d : Bool) : Option Bool → Option (List Prop)
  | some _ => some [c]
  | none => match d with
    | true => some []
    | false => none
def intBin (op : BinOp) (k : IntKind) (a : Int) (k' : IntKind) (b : Int) (hint : Option Bool) : Option (SV × List Prop) :=
  match op with
  | .shl => match owed (0 ≤ b) (decide (0 ≤ b)) hint with
    | some ob => some (vI k (k.wrap (a * 2 ^ (min b.toNat k.bits))), ob)
    | none => none
  | .shr => match owed (0 ≤ b) (decide (0 ≤ b)) hint with
    | some ob => some (vI k (a.fdiv (2 ^ (min b.toNat k.bits))), ob)
    | none => none
  | op => if k = k' then (match op with
    | .add => some (vI k (k.wrap (a + b)), [])
    | .sub => some (vI k (k.wrap (a - b)), [])
    | .mul => some (vI k (k.wrap (a * b)), [])
    | .quo => match owed (b ≠ 0) (decide (b ≠ 0)) hint with
      | some ob => some (vI k (k.wrap (a.tdiv b)), ob)
      | none => none
    | .rem => match owed (b ≠ 0) (decide (b ≠ 0)) hint with
      | some ob => some (vI k (a.tmod b), ob)
      | none => none
    | .and => some (vI k (bits .and k a b), [])
    | .or => some (vI k (bits .or k a b), [])
    | .xor => some (vI k (bits .xor k a b), [])
    | .andNot => some (vI k (bits .andNot k a b), [])
    | .eql => some (cmpV (a = b) (a == b) hint)
    | .neq => some (cmpV (a ≠ b) (a != b) hint)
    | .lss => some (cmpV (a < b) (decide (a < b)) hint)
    | .leq => some (cmpV (a ≤ b) (decide (a ≤ b)) hint)
    | .gtr => some (cmpV (a > b) (decide (a > b)) hint)
    | .geq => some (cmpV (a ≥ b) (decide (a ≥ b)) hint)
    | _ => none) else none

/-- The cells of plain rows. -/
def plainVals : List It → List Value
  | [] => []
  | .v x :: l => x :: plainVals l
  | .w k n :: l => words k n ++ plainVals l
  | _ :: l => plainVals l
def kindsOf : List It → Option (List K)
  | [] => some []
  | .v (.int k _) :: l => match kindsOf l with | some r => some (some k :: r) | none => none
  | .v (.bool _) :: l => match kindsOf l with | some r => some (none :: r) | none => none
  | .w k _ :: l => match kindsOf l with | some r => some (List.replicate k (some IntKind.u64) ++ r) | none => none
  | _ => none
def aggEq (neg : Bool) (d : Ty) (x y : List It) : Option Bool → Option (SV × List Prop)
  | some h => match d.kinds with
    | [] => none
    | ks => if d.agg = true ∧ kindsOf x = some ks ∧ kindsOf y = some ks then some (vB (neg ^^ h), [plainVals x = plainVals y ↔ h = true]) else none
  | none => none
def boolBin (op : BinOp) (a b : Bool) : Option SV := match op with
  | .eql => some (vB (a == b))
  | .neq => some (vB (!(a == b)))
  | _ => none

def av (ev : Operand → Option SV) (x : Operand) : Option AV := match ev x with
  | some (.one y) => some y
  | _ => none
def placeOf (d : Ty) (i : Nat) : Option (Nat × Nat) := match d.arr with
  | some (_, s, _) => some (i * s, s)
  | none => match d.fields[i]? with
    | some (off, s, _) => some (off, s)
    | none => none
def fillIt (d : Ty) (ev : Operand → Option SV) : List It → List (Nat × Operand) → Option (List It)
  | z, [] => some z
  | z, (i, x) :: ps => match placeOf d i, av ev x with
    | some (off, s), some y => if sizes y.its = s then (match lay z off y.its with | some r => fillIt d ev r ps | none => none) else none
    | _, _ => none
def avs (ev : Operand → Option SV) : List Operand → Option (List AV)
  | [] => some []
  | x :: l => match av ev x, avs ev l with
    | some y, some ys => some (y :: ys)
    | _, _ => none
def ptrs (ev : Operand → Option SV) : List Operand → Option (List (Nat × Nat))
  | [] => some []
  | x :: l => match av ev x, ptrs ev l with
    | some y, some ys => match asPtr y with
      | some q => some (q :: ys)
      | none => none
    | _, _ => none
def partIt (cs : List It) (off size : Nat) (agg : Bool) : Option SV := match cut cs off (if agg then size else 1) with
  | some r => some (.one ⟨agg, r⟩)
  | none => none
def boundOf (ev : Operand → Option SV) (dflt : Nat) : Option Operand → Option Nat
  | none => some dflt
  | some x => match av ev x with
    | some y => match asInt y with
      | some (_, i) => if 0 ≤ i then some i.toNat else none
      | none => none
    | none => none
def indexOf (n : Nat) (y : AV) : Option Nat := match asInt y with
  | some (_, i) => if 0 ≤ i ∧ i < n then some i.toNat else none
  | none => none

def binPlan (tab : TypeId → Option Ty) (hint : Option Bool) (op : BinOp) (t : TypeId) (x y : AV) : Option (SV × List Prop) :=
  match x, y with
  | ⟨false, [.v (.int k a)]⟩, ⟨false, [.v (.int k' b)]⟩ => intBin op k a k' b hint
  | ⟨false, [.v (.bool a)]⟩, ⟨false, [.v (.bool b)]⟩ => match boolBin op a b, tab t with
    | some s, some d => if d.kinds = [none] ∧ d.agg = false then some (s, []) else none
    | _, _ => none
  | ⟨true, l⟩, ⟨true, m⟩ => match op, tab t with
    | .eql, some d => aggEq false d l m hint
    | .neq, some d => aggEq true d l m hint
    | _, _ => none
  | _, _ => none
def appTy (d : Ty) (t t' : TypeId) : Bool := match d.sl, d.slz with
  | some 1, some _ => d.mk8 && Nat.beq t t'
  | _, _ => false
def callPlan (ev : Operand → Option SV) (c : Call) (tab : TypeId → Option Ty) : Option Plan := match c.callee with
  | .value f => match av ev f, avs ev c.args.toList with
    | some ⟨false, [.f fn caps]⟩, some args => some (.call fn (args ++ caps.map fun q => ⟨false, [.p q.1 q.2]⟩))
    | _, _ => none
  | .builtin .len => match c.args.toList, c.argTypes.toList with
    | [x], [t] => match av ev x, tab t with
      | some ⟨false, [.s _ _ len _]⟩, some d => match d.sl with
        | some _ => some (.val (vI .i64 (len : Int)) [])
        | none => none
      | some ⟨false, [.v (.slice _ len _)]⟩, some d => match d.sl with
        | some _ => some (.val (vI .i64 (len : Int)) [])
        | none => none
      | some ⟨false, [.c _ len]⟩, some d => match d.sl with
        | some _ => some (.val (vI .i64 (len : Int)) [])
        | none => none
      | _, _ => none
    | _, _ => none
  | .builtin .max => match c.args.toList with
    | [x, y] => match av ev x, av ev y with
      | some x, some y => match asInt x, asInt y with
        | some (k, a), some (_, b) => some (.val (vI k (if b > a then b else a)) [])
        | _, _ => none
      | _, _ => none
    | _ => none
  | .builtin .copy => match c.args.toList, c.argTypes.toList with
    | [x, y], t :: _ => match av ev x, av ev y, tab t with
      | some ⟨false, [.s did doff dlen _]⟩, some ⟨false, [.s sid soff slen _]⟩, some d => match d.sl with
        | some s => some (.copy did doff sid soff (Nat.min slen dlen * s) (Nat.min slen dlen))
        | none => none
      | _, _, _ => none
    | _, _ => none
  | .builtin .clear => match c.args.toList, c.argTypes.toList with
    | [x], t :: _ => match av ev x, tab t with
      | some ⟨false, [.s id off len _]⟩, some d => match d.slz with
        | some i => some (.clear id off (List.replicate len i))
        | none => none
      | _, _ => none
    | _, _ => none
  | .builtin .append => match c.args.toList, c.argTypes.toList with
    | [x, y], [t, t'] => match av ev x, av ev y, tab t with
      | some ⟨false, [.s xid xoff xlen xcap]⟩, some ⟨false, [.s yid yoff m _]⟩, some d => match appTy d t t', decide (xcap < xlen + m) && decide (xlen + m < 1000000) with
        | true, true => some (.app false xid xoff xlen xcap yid yoff m)
        | _, _ => none
      | some ⟨false, [.c xid xlen]⟩, some ⟨false, [.s yid yoff m _]⟩, some d => match appTy d t t', decide (xlen + m < 1000000) with
        | true, true => some (.app true xid 0 xlen 0 yid yoff m)
        | _, _ => none
      | _, _, _ => none
    | _, _ => none
  | _ => none
def opPlan (tab : TypeId → Option Ty) (hint : Option Bool) (ev : Operand → Option SV) (op : Op) : Option Plan :=
  match op with
  | .move x | .assign x => match ev x with
    | some s => some (.val s [])
    | none => none
  | .pick c a b => match av ev c with
    | some c => match asBool c with
      | some true => match ev a with
        | some s => some (.val s [])
        | none => none
      | some false => match ev b with
        | some s => some (.val s [])
        | none => none
      | none => none
    | none => none
  | .alloc t => match tab t with
    | some d => match d.zero with
      | some l => some (.new l none)
      | none => none
    | none => none
  | .box _ x => match av ev x with
    | some y => some (.new y.its none)
    | none => none
  | .build t ps => match tab t with
    | some d => match d.zero with
      | some z => if d.agg && (d.arr.isSome || !d.fields.isEmpty) then (match fillIt d ev z ps.toList with
        | some r => some (.val (.one ⟨true, r⟩) [])
        | none => none) else none
      | none => none
    | none => none
  | .buildSlice t n ps => match tab t with
    | some d => match d.sl, d.ez with
      | some s, some l => if sizes l = s ∧ n * s ≤ 16777216 then (match fillIt { d with arr := some (n, s, true) } ev ((List.replicate n l).flatten) ps.toList with
        | some r => some (.new r (some n))
        | none => none) else none
      | _, _ => none
    | none => none
  | .makeSlice t x y => match av ev x, av ev y, tab t with
    | some x, some y, some d => match asInt x, asInt y, d.sl, d.ez, d.mk8 with
      | some (_, a), some (_, b), some s, some l, true => match a with
        | .ofNat n => if b = a ∧ sizes l = s ∧ n ≤ 1000000 then some (.new ((List.replicate n l).flatten) (some n)) else none
        | _ => none
      | _, _, _, _, _ => none
    | _, _, _ => none
  | .load t x => match av ev x, tab t with
    | some y, some d => match asPtr y with
      | some (id, off) => some (.load id off (if d.agg then d.size else 1) d.agg)
      | none => none
    | _, _ => none
  | .store t x y => match av ev x, av ev y, tab t with
    | some p, some z, some d => match asPtr p with
      | some (id, off) => if sizes z.its = d.size then some (.store id off z.its) else none
      | none => none
    | _, _, _ => none
  | .nilCheck x => match av ev x with
    | some y => match asPtr y with
      | some _ => some (.val (.one y) [])
      | none => none
    | none => none
  | .binOp op t x y _ => match av ev x, av ev y with
    | some x, some y => match binPlan tab hint op t x y with
      | some (s, ob) => some (.val s ob)
      | none => none
    | _, _ => none
  | .unOp op _ x => match av ev x with
    | some y => match op with
      | .not => match asBool y with
        | some b => some (.val (vB (!b)) [])
        | none => none
      | .neg => match asInt y with
        | some (k, a) => some (.val (vI k (k.wrap (0 - a))) [])
        | none => none
      | _ => none
    | none => none
  | .convert src dst x => match av ev x, tab src, tab dst with
    | some y, some _, some d => match asInt y, d.ik with
      | some (_, a), some k => some (.val (vI k (k.wrap a)) [])
      | _, _ => none
    | _, _, _ => none
  | .sliceToArrayPointer t x => match av ev x, tab t with
    | some ⟨false, [.s id off len _]⟩, some d => match d.arr with
      | some (n, _, _) => if n ≤ len then some (.val (it1 (.p id off)) []) else none
      | none => none
    | _, _ => none
  | .makeFunc (.func f) first caps => if first.size = 0 then (match ptrs ev caps.toList with
    | some qs => some (.val (it1 (.f f qs)) [])
    | none => none) else none
  | .slice t x lo hi none => match av ev x, tab t with
    | some y, some d => match y, d.arr, d.sl with
      | ⟨false, [.p id off]⟩, some (n, s, _), _ => match boundOf ev 0 lo, boundOf ev n hi with
        | some l, some h => if l ≤ h ∧ h ≤ n then some (.val (it1 (.s id (if n = l then off else off + l * s) (h - l) (n - l))) []) else none
        | _, _ => none
      | ⟨false, [.s id off len cap]⟩, none, some s => match boundOf ev 0 lo, boundOf ev len hi with
        | some l, some h => if l ≤ h ∧ h ≤ cap then some (.val (it1 (.s id (if cap = l then off else off + l * s) (h - l) (cap - l))) []) else none
        | _, _ => none
      | _, _, _ => none
    | _, _ => none
  | .fieldAddr t x i => match av ev x, tab t with
    | some y, some d => match asPtr y, d.fields[i]? with
      | some (id, off), some (o, s, _) => if s ≠ 0 then some (.val (it1 (.p id (off + o))) []) else none
      | _, _ => none
    | _, _ => none
  | .field t x i => match av ev x, tab t with
    | some ⟨true, l⟩, some d => match d.fields[i]? with
      | some (o, s, g) => match partIt l o s g with
        | some r => some (.val r [])
        | none => none
      | none => none
    | _, _ => none
  | .indexAddr t x i => match av ev x, av ev i, tab t with
    | some y, some j, some d => match y, d.arr, d.sl with
      | ⟨false, [.p id off]⟩, some (n, s, _), _ => match indexOf n j with
        | some q => some (.val (it1 (.p id (off + q * s))) [])
        | none => none
      | ⟨false, [.s id off len _]⟩, none, some s => match hint with
        | some false => match asInt j with
          | some (_, a) => some (.val (it1 (.p id (off + a.toNat * s))) [0 ≤ a ∧ a < (len : Int)])
          | none => none
        | _ => match indexOf len j with
          | some q => some (.val (it1 (.p id (off + q * s))) [])
          | none => none
      | _, _, _ => none
    | _, _, _ => none
  | .index t x i => match av ev x, av ev i, tab t with
    | some ⟨false, [.v (.string z)]⟩, some j, some d => match d.str, asInt j with
      | true, some (_, a) => match (if 0 ≤ a then z[a.toNat]? else none) with
        | some b => some (.val (vI .u8 b.toNat) [])
        | none => none
      | _, _ => none
    | some ⟨true, l⟩, some j, some d => match d.arr with
      | some (n, s, g) => match indexOf n j with
        | some q => match partIt l (q * s) s g with
          | some r => some (.val r [])
          | none => none
        | none => none
      | none => none
    | _, _, _ => none
  | .extract x i => match ev x with
    | some (.tup l) => match l[i]? with
      | some y => some (.val (.one y) [])
      | none => none
    | _ => none
  | .call c => callPlan ev c tab
  | _ => none

/-! ### the model does what the plan says -/
/-- An append that makes a new block: vs, and some cells more. -/
def Grows (P : Program) (val : Operand → Value) (o : Oper) (w : World) (n : Nat) (vs : List Value) : Prop :=
  ∃ k zs t, n + List.length zs = k ∧ (execOp val o).run P w = .ok (.value (.slice (some ⟨w.heap.size, 0, none⟩) n k)) (w.drew.alloc (.cells (vs ++ zs).toArray t))
def AppSem (P : Program) (val : Operand → Value) (o : Oper) (qx : Nat × Nat) (xoff xlen m : Nat) (w : World) (us : List Value) : Bool → Prop
  | false => ∀ vs : List Value, vs.length = xlen → (∀ i v, vs[i]? = some v → w.cell? ⟨qx.1, qx.2 + (xoff + i), none⟩ = some v) → Grows P val o w (xlen + m) (vs ++ us)
  | true => (∀ u ∈ us, u.oneCell' = true) → ∀ (cur : Array Value) (t : TypeId), w.heap[qx.1]? = some (.cells cur t (0, 0)) → cur.size = qx.2 → xlen ≤ cur.size →
      Grows P val o w (xlen + m) (cur.toList.take xlen ++ us) ∨
      (xlen + m ≤ cur.size ∧ (execOp val o).run P w = .ok (.value (.slice (some ⟨qx.1, 0, none⟩) (xlen + m) qx.2)) (w.setRow qx.1 (cur.toList.take xlen ++ us ++ cur.toList.drop (xlen + m)).toArray))
/-- What the model makes of an operation, under 'ρ'. -/
def PlanSem (P : Program) (ρ : Rho) (val : Operand → Value) (o : Oper) : Plan → Prop
  | .val x ob => (∀ p ∈ ob, p) → ∃ v, x.val ρ = some v ∧ ∀ w, (execOp val o).run P w = .ok (.value v) w
  | .load id off len agg => ∃ q, ρ id = some q ∧ (agg = false → len = 1) ∧ ∀ (w : World) (vs : List Value), vs.length = len → (∀ i v, vs[i]? = some v → w.cell? ⟨q.1, q.2 + (off + i), none⟩ = some v) →
      (execOp val o).run P w = .ok (.value (match agg with | true => .agg vs.toArray | false => vs.headD undef)) w
  | .new l sl => ∃ vs t, conc ρ l = some vs ∧ ∀ w : World, (execOp val o).run P w = .ok (.value (match sl with | some n => .slice (some ⟨w.heap.size, 0, none⟩) n n | none => .pointer (some ⟨w.heap.size, 0, none⟩))) (w.alloc (.cells vs.toArray t))
  | .store id off l => ∃ q vs, ρ id = some q ∧ conc ρ l = some vs ∧ ∀ w : World, (execOp val o).run P w = ((storeCells ⟨q.1, q.2 + off, none⟩ vs).run P w).andThen fun _ w' => .ok .skip w'
  | .call f args => ∃ vs, vals ρ args = some vs ∧ ∀ w, (execOp val o).run P w = (callFunc f vs.toArray).run P w
  | .copy did doff sid soff cells cnt => ∃ qd qs, ρ did = some qd ∧ ρ sid = some qs ∧ ∀ (w : World) (vs : List Value), vs.length = cells → (∀ i v, vs[i]? = some v → w.cell? ⟨qs.1, qs.2 + (soff + i), none⟩ = some v) →
      (execOp val o).run P w = ((storeCells ⟨qd.1, qd.2 + doff, none⟩ vs).run P w).andThen fun _ w' => .ok (.value (.int .i64 (cnt : Int))) w'
  | .clear id off l => ∃ q vs, ρ id = some q ∧ conc ρ l = some vs ∧ ∀ w : World, (execOp val o).run P w = ((storeCells ⟨q.1, q.2 + off, none⟩ vs).run P w).andThen fun _ w' => .ok (.value (.tuple #[])) w'
  | .app c xid xoff xlen _ yid yoff m => ∃ qx qy, ρ xid = some qx ∧ ρ yid = some qy ∧ ∀ (w : World) (us : List Value), us.length = m → (∀ i v, us[i]? = some v → w.cell? ⟨qy.1, qy.2 + (yoff + i), none⟩ = some v) → AppSem P val o qx xoff xlen m w us c
end Go.Eng
/-
  THE ENGINE, part E: the plans are right: operation by operation.
-/
namespace Go.Eng
open Go Go.RowKit

theorem AV.val_one {ρ : Rho} {i : It} {v : Value} (h : AV.val ρ ⟨false, [i]⟩ = some v) : i.cs ρ = some [v] := by
  unfold AV.val at h
  cases hc : conc ρ [i] with
  | none => simp [hc] at h
  | some vs =>
    obtain ⟨a, b, ha, hb, rfl⟩ := conc_cons hc
    cases hb
    simp only [List.append_nil] at hc
    simp only [hc] at h
    split at h
    · rename_i h1 _; cases h1
    · rename_i v' _ h2
      cases h
      rw [ha, ← h2]
    · cases h
theorem AV.val_mk {ρ : Rho} {i : It} {v : Value} (h : i.cs ρ = some [v]) : AV.val ρ ⟨false, [i]⟩ = some v := by
  unfold AV.val
  have : conc ρ [i] = some [v] := conc_mk h rfl
  simp only [this]
theorem asInt_val {ρ : Rho} {y : AV} {k : IntKind} {a : Int} {v : Value} (h : asInt y = some (k, a)) (hv : y.val ρ = some v) : v = .int k a := by
  unfold asInt at h
  split at h
  · cases h; have := AV.val_one hv; simp only [It.cs] at this; cases this; rfl
  · cases h
theorem asBool_val {ρ : Rho} {y : AV} {b : Bool} {v : Value} (h : asBool y = some b) (hv : y.val ρ = some v) : v = .bool b := by
  unfold asBool at h
  split at h
  · cases h; have := AV.val_one hv; simp only [It.cs] at this; cases this; rfl
  · cases h
theorem asPtr_val {ρ : Rho} {y : AV} {id off : Nat} {v : Value} (h : asPtr y = some (id, off)) (hv : y.val ρ = some v) : ∃ q, ρ id = some q ∧ v = ptr q off := by
  unfold asPtr at h
  split at h
  · cases h
    have := AV.val_one hv
    simp only [It.cs] at this
    split at this
    · rename_i q hq; cases this; exact ⟨q, hq, rfl⟩
    · cases this
  · cases h
theorem slice_val {ρ : Rho} {id off len cap : Nat} {v : Value} (hv : AV.val ρ ⟨false, [.s id off len cap]⟩ = some v) : ∃ q, ρ id = some q ∧ v = .slice (some ⟨q.1, q.2 + off, none⟩) len cap := by
  have := AV.val_one hv
  simp only [It.cs] at this
  split at this
  · rename_i q hq; cases this; exact ⟨q, hq, rfl⟩
  · cases this
theorem ptr_mk {ρ : Rho} {id : Nat} {q : Nat × Nat} (h : ρ id = some q) (off : Nat) : (it1 (.p id off)).val ρ = some (ptr q off) :=
  AV.val_mk (by simp only [It.cs, h])
theorem cslice_val {ρ : Rho} {id len : Nat} {v : Value} (hv : AV.val ρ ⟨false, [.c id len]⟩ = some v) : ∃ q, ρ id = some q ∧ v = .slice (some ⟨q.1, 0, none⟩) len q.2 := by
  have := AV.val_one hv
  simp only [It.cs] at this
  split at this
  · rename_i q hq; cases this; exact ⟨q, hq, rfl⟩
  · cases this
theorem cslice_mk {ρ : Rho} {id : Nat} {q : Nat × Nat} (h : ρ id = some q) (len : Nat) : (it1 (.c id len)).val ρ = some (.slice (some ⟨q.1, 0, none⟩) len q.2) :=
  AV.val_mk (by simp only [It.cs, h])
theorem slice_mk {ρ : Rho} {id : Nat} {q : Nat × Nat} (h : ρ id = some q) (off len cap : Nat) : (it1 (.s id off len cap)).val ρ = some (.slice (some ⟨q.1, q.2 + off, none⟩) len cap) :=
  AV.val_mk (by simp only [It.cs, h])
theorem AV.val_v {ρ : Rho} {x : Value} (h : x.oneCell' = true) : AV.val ρ ⟨false, [.v x]⟩ = some x := AV.val_mk (by simp only [It.cs, h])
theorem vI_val (ρ : Rho) (k : IntKind) (a : Int) : (vI k a).val ρ = some (.int k a) := AV.val_v (ρ := ρ) (x := .int k a) rfl
theorem vB_val (ρ : Rho) (b : Bool) : (vB b).val ρ = some (.bool b) := AV.val_v (ρ := ρ) (x := .bool b) rfl
theorem cs_v {ρ : Rho} {x : Value} (h : x.oneCell' = true) : (It.v x).cs ρ = some [x] := by simp only [It.cs, h]
theorem val_plain (ρ : Rho) (vs : List Value) (h : ∀ v ∈ vs, v.oneCell' = true) : conc ρ (vs.map .v) = some vs := by
  induction vs with
  | nil => rfl
  | cons v vs ih => exact conc_mk (i := .v v) (a := [v]) (cs_v (h v (by simp))) (ih fun u hu => h u (by simp [hu]))
theorem cells_one {v : Value} (h : v.oneCell' = true) : v.cells = #[v] := by
  cases v <;> first | rfl | cases h

section
variable {P : Program} {ρ : Rho} {tab : TypeId → Option Ty} {ev : Operand → Option SV} {val : Operand → Value}
theorem av_val (hev : ∀ x s, ev x = some s → s.val ρ = some (val x)) {x : Operand} {y : AV} (h : av ev x = some y) : y.val ρ = some (val x) := by
  unfold av at h
  split at h
  · rename_i z hz; cases h; exact hev x _ hz
  · cases h
/-- The facts that the table gives. -/
theorem TyOk.facts {t : TypeId} {d : Ty} (h : TyOk P t d) : ∃ i u, P.info? t = some i ∧ P.underlying t = some u ∧ i.size = d.size ∧ aggD u = d.agg ∧ ikD u = d.ik ∧ fieldsD P u = d.fields.map some ∧ arrD P u = d.arr ∧ slD P u = d.sl := by
  have hc := h.core
  unfold Eng.core at hc
  cases hi : P.info? t with
  | none => simp [hi] at hc
  | some i =>
    cases hu : P.underlying t with
    | none => simp [hi, hu] at hc
    | some u =>
      simp only [hi, hu, Option.some.injEq, Prod.mk.injEq] at hc
      exact ⟨i, u, rfl, rfl, hc.1, hc.2.1, hc.2.2.1, hc.2.2.2.1, hc.2.2.2.2.1, hc.2.2.2.2.2⟩
theorem run_sizeOf' {t : TypeId} {i : TypeInfo} (h : P.info? t = some i) (w : World) : (sizeOf t).run P w = .ok i.size w := by
  simp [sizeOf, run_typeInfo w h]
theorem elemOf_some {e : TypeId} {s : Nat} {g : Bool} (h : elemOf P e = some (s, g)) : ∃ i u, P.info? e = some i ∧ P.underlying e = some u ∧ i.size = s ∧ aggD u = g := by
  unfold elemOf at h
  split at h
  · rename_i i u hi hu
    cases h
    exact ⟨i, u, hi, hu, rfl, rfl⟩
  · cases h
theorem arr_some {u : TypeDesc} {n s : Nat} {g : Bool} (h : arrD P u = some (n, s, g)) : ∃ e i ue, u = .array n e ∧ P.info? e = some i ∧ P.underlying e = some ue ∧ i.size = s ∧ aggD ue = g := by
  unfold arrD at h
  split at h
  · split at h
    · rename_i hs; cases h
      obtain ⟨i, ue, h1, h2, h3, h4⟩ := elemOf_some hs
      exact ⟨_, i, ue, rfl, h1, h2, h3, h4⟩
    · cases h
  · cases h
theorem sl_some {u : TypeDesc} {s : Nat} (h : slD P u = some s) : ∃ e i, u = .slice e ∧ P.info? e = some i ∧ i.size = s := by
  unfold slD at h
  split at h
  · split at h
    · rename_i hs; cases h
      obtain ⟨i, ue, h1, h2, h3, h4⟩ := elemOf_some hs
      exact ⟨_, i, rfl, h1, h3⟩
    · cases h
  · cases h
theorem field_some {u : TypeDesc} {fs : List (Nat × Nat × Bool)} (h : fieldsD P u = fs.map some) {i : Nat} {o s : Nat} {g : Bool} (hi : fs[i]? = some (o, s, g)) :
    ∃ (Fs : Array Field) (f : Field) (n : TypeInfo) (uf : TypeDesc), u = .struct Fs ∧ Fs[i]? = some f ∧ P.info? f.type = some n ∧ P.underlying f.type = some uf ∧ f.offset = o ∧ n.size = s ∧ aggD uf = g := by
  unfold fieldsD at h
  split at h
  · rename_i Fs
    have h1 := congrArg (fun l => l[i]?) h
    simp only [List.getElem?_map, hi, Option.map_some] at h1
    cases hf : Fs.toList[i]? with
    | none => simp [hf] at h1
    | some f =>
      simp only [hf, Option.map_some, Option.some.injEq] at h1
      unfold fieldOf at h1
      split at h1
      · rename_i s' g' hs
        cases h1
        obtain ⟨n, uf, h2, h3, h4, h5⟩ := elemOf_some hs
        exact ⟨Fs, f, n, uf, rfl, by simpa using hf, h2, h3, rfl, h4, h5⟩
      · cases h1
  · have h1 := congrArg (fun l => l[i]?) h
    simp [hi] at h1
theorem sem_val {o : Oper} {x : SV} {v : Value} {ob : List Prop} (hx : x.val ρ = some v) (hr : ∀ w, (execOp val o).run P w = .ok (.value v) w) : PlanSem P ρ val o (.val x ob) :=
  fun _ => ⟨v, hx, hr⟩

theorem sound_alloc (htab : ∀ t d, tab t = some d → TyOk P t d) {o : Oper} {t : TypeId} (ho : o.op = .alloc t) {d : Ty} (ht : tab t = some d) {l : List It} (hz : d.zero = some l) : PlanSem P ρ val o (.new l none) := by
  obtain ⟨vs, h1, h2⟩ := (htab t d ht).zero l hz
  obtain ⟨i, u, hi, hu, _⟩ := (htab t d ht).facts
  unfold zeroP at h2
  simp only [hi] at h2
  cases hzv : i.zero with
  | none => simp [hzv] at h2
  | some zv =>
    simp only [hzv, Option.some.injEq] at h2
    refine ⟨vs, t, conc_le (rho0_le ρ) _ _ h1, fun w => ?_⟩
    simp only [execOp, ho, Instr.alloc, Sem.run_bind, zeroValue, run_typeInfo w hi, Result.andThen_ok, hzv, Sem.run_pure, newVar, newRow, run_newObj]
    subst h2
    rfl
theorem sound_box {o : Oper} {t : TypeId} {x : Operand} (ho : o.op = .box t x) {y : AV} (hy : y.val ρ = some (val x)) : PlanSem P ρ val o (.new y.its none) := by
  obtain ⟨vs, hc, hv⟩ := AV.cells hy
  have e : (val x).cells = vs.toArray := by
    rcases hv with ⟨_, h⟩ | ⟨_, h⟩
    · rw [h]; rfl
    · subst h
      rw [cells_one (conc_one _ _ hc _ (by simp))]
  refine ⟨vs, t, hc, fun w => ?_⟩
  simp only [execOp, ho, Instr.box, Sem.run_bind, newVar, newRow, run_newObj, Result.andThen_ok, Sem.run_pure, e]
  rfl
theorem sound_load (htab : ∀ t d, tab t = some d → TyOk P t d) {o : Oper} {t : TypeId} {x : Operand} (ho : o.op = .load t x) {d : Ty} (ht : tab t = some d) {q : Nat × Nat} {id off : Nat} (hq : ρ id = some q) (hx : val x = ptr q off) :
    PlanSem P ρ val o (.load id off (if d.agg then d.size else 1) d.agg) := by
  obtain ⟨i, u, hi, hu, hs, ha, _⟩ := (htab t d ht).facts
  refine ⟨q, hq, fun h => by simp [h], fun w vs hl hc => ?_⟩
  have hadd : ∀ j, (⟨q.1, q.2 + off, none⟩ : Addr).add j = ⟨q.1, q.2 + (off + j), none⟩ := fun j => by unfold Addr.add; split <;> simp_all [Nat.add_assoc]
  simp only [execOp, ho, hx, ptr, Instr.loadAt, Instr.sureAddr, Sem.run_bind, Sem.run_pure, Result.andThen_ok, loadVar, run_isAgg hu, ha]
  cases hg : d.agg with
  | true =>
    simp only [hg, if_true] at hl
    simp only [if_true, Sem.run_bind, run_sizeOf' hi, Result.andThen_ok, hs, ← hl]
    rw [run_loadCells_list (P := P) w ⟨q.1, q.2 + off, none⟩ vs (fun j v hv => by rw [hadd]; exact hc j v hv)]
    rfl
  | false =>
    simp only [hg, Bool.false_eq_true, if_false] at hl
    obtain ⟨v, rfl⟩ : ∃ v, vs = [v] := by
      cases vs with
      | nil => cases hl
      | cons v vs => cases vs with
        | nil => exact ⟨v, rfl⟩
        | cons _ _ => simp at hl
    have h0 := hc 0 v rfl
    simp only [Nat.add_zero] at h0
    simp only [Bool.false_eq_true, if_false, run_load, h0, Result.andThen_ok, List.headD_cons]
theorem sound_store (htab : ∀ t d, tab t = some d → TyOk P t d) {o : Oper} {t : TypeId} {x y : Operand} (ho : o.op = .store t x y) {d : Ty} (ht : tab t = some d) {q : Nat × Nat} {id off : Nat} (hq : ρ id = some q) (hx : val x = ptr q off)
    {z : AV} (hz : z.val ρ = some (val y)) (hsz : sizes z.its = d.size) : PlanSem P ρ val o (.store id off z.its) := by
  obtain ⟨i, u, hi, hu, hs, _⟩ := (htab t d ht).facts
  obtain ⟨vs, hc, hv⟩ := AV.cells hz
  have e : (val y).cells = vs.toArray := by
    rcases hv with ⟨_, h⟩ | ⟨_, h⟩
    · rw [h]; rfl
    · subst h
      rw [cells_one (conc_one _ _ hc _ (by simp))]
  have hl : vs.length = i.size := by rw [length_conc _ _ hc, hsz, hs]
  refine ⟨q, vs, hq, hc, fun w => ?_⟩
  simp only [execOp, ho, hx, ptr, Instr.storeAt, Instr.sureAddr, Sem.run_bind, Sem.run_pure, Result.andThen_ok, storeVar, run_sizeOf' hi, e, List.size_toArray, hl, ne_eq, not_true_eq_false, if_false, Sem.run_ite]
theorem sound_nilCheck {o : Oper} {x : Operand} (ho : o.op = .nilCheck x) {y : AV} (hy : y.val ρ = some (val x)) {id off : Nat} (hp : asPtr y = some (id, off)) : PlanSem P ρ val o (.val (.one y) []) := by
  obtain ⟨q, hq, hx⟩ := asPtr_val hp hy
  refine sem_val (v := val x) hy fun w => ?_
  simp only [execOp, ho, hx, ptr, Sem.run_pure]
theorem sound_intBin {o : Oper} {op : BinOp} {t u : TypeId} {x y : Operand} (ho : o.op = .binOp op t x y u) {k k' : IntKind} {a b : Int} (hx : val x = .int k a) (hy : val y = .int k' b) {hint : Option Bool} {s : SV} {ob : List Prop}
    (h : intBin op k a k' b hint = some (s, ob)) : PlanSem P ρ val o (.val s ob) := by
  intro hob
  have hg : ∀ w, (eqGuard op t x y (val x) (val y)).run P w = .ok () w := fun w => by
    rw [hx, hy]; cases op <;> simp [eqGuard]
  have owes : ∀ {c : Prop} {d : Bool} {l : List Prop}, owed c d hint = some l → (d = true → c) → (∀ p ∈ l, p) → c := by
    intro c d l h1 h2 h3
    cases hint with
    | none => cases d with
      | true => exact h2 rfl
      | false => cases h1
    | some b => cases h1; exact h3 c (by simp)
  have cmps : ∀ {c : Prop} {d : Bool}, (d = true ↔ c) → cmpV c d hint = (s, ob) → s.val ρ = some (.bool d) := by
    intro c d hd he
    cases hint with
    | none => cases he; exact vB_val ρ d
    | some b =>
      cases he
      have := hob _ (List.mem_singleton.2 rfl)
      have e : b = d := by rw [Bool.eq_iff_iff]; exact this.symm.trans hd.symm
      rw [e]; exact vB_val ρ d
  have fin : ∀ v : Value, s.val ρ = some v → (∀ w, (binOp op t (val x) (val y)).run P w = .ok v w) → ∃ v, s.val ρ = some v ∧ ∀ w, (execOp val o).run P w = .ok (.value v) w := by
    intro v h1 h2
    refine ⟨v, h1, fun w => ?_⟩
    simp only [execOp, ho, Sem.run_bind, hg, Result.andThen_ok, h2, Sem.run_pure]
  rw [hx, hy] at fin
  cases op <;> simp only [intBin] at h
  case shl =>
    split at h
    · rename_i l hl
      cases h
      have hb := owes hl (by simp) hob
      refine fin _ (vI_val ρ _ _) fun w => ?_
      have : ¬ b < 0 := by omega
      simp [binOp, Op.shift, this]
    · cases h
  case shr =>
    split at h
    · rename_i l hl
      cases h
      have hb := owes hl (by simp) hob
      refine fin _ (vI_val ρ _ _) fun w => ?_
      have : ¬ b < 0 := by omega
      simp [binOp, Op.shift, this]
    · cases h
  all_goals
    split at h
    · rename_i hk
      subst hk
      first
        | (cases h; done)
        | (cases h; exact fin _ (vI_val ρ _ _) fun w => by simp [binOp, Op.intArith, Op.intBits, bits])
        | (split at h
           · rename_i l hl
             cases h
             have hb := owes hl (by simp) hob
             exact fin _ (vI_val ρ _ _) fun w => by simp [binOp, Op.intDiv, hb]
           · cases h)
        | exact fin _ (cmps (by simp) (Option.some.inj h)) fun w => by simp [binOp, Op.intCmp]
    · cases h
theorem kindsOf_spec : ∀ (l : List It) (ks : List K), kindsOf l = some ks → ∀ (vs : List Value), conc ρ l = some vs → vs = plainVals l ∧ fits vs ks = true := by
  intro l
  induction l with
  | nil => intro ks h vs hv; cases h; cases hv; exact ⟨rfl, rfl⟩
  | cons i l ih =>
    intro ks h vs hv
    obtain ⟨a, b, ha, hb, rfl⟩ := conc_cons hv
    cases i with
    | v x =>
      cases x with
      | int k n =>
        simp only [kindsOf] at h
        split at h
        · rename_i r hr
          cases h
          simp only [It.cs] at ha
          cases ha
          obtain ⟨h1, h2⟩ := ih r hr b hb
          exact ⟨by simp [plainVals, ← h1], by simp [fits, kOk, h2]⟩
        · cases h
      | bool n =>
        simp only [kindsOf] at h
        split at h
        · rename_i r hr
          cases h
          simp only [It.cs] at ha
          cases ha
          obtain ⟨h1, h2⟩ := ih r hr b hb
          exact ⟨by simp [plainVals, ← h1], by simp [fits, kOk, h2]⟩
        · cases h
      | _ => cases h
    | w k n =>
      simp only [kindsOf] at h
      split at h
      · rename_i r hr
        cases h
        simp only [It.cs, Option.some.injEq] at ha
        subst ha
        obtain ⟨h1, h2⟩ := ih r hr b hb
        refine ⟨by simp [plainVals, ← h1], ?_⟩
        unfold words
        have : ∀ (m : List Nat), fits (m.map (word n) ++ b) (List.replicate m.length (some IntKind.u64) ++ r) = true := by
          intro m
          induction m with
          | nil => exact h2
          | cons j m ih2 => simpa [fits, kOk, word, List.replicate_succ] using ih2
        simpa using this (List.range k)
      · cases h
    | p id off => cases h
    | s id off len cap => cases h
    | f fn caps => cases h
    | c id len => cases h
theorem sound_aggEq (htab : ∀ t d, tab t = some d → TyOk P t d) {o : Oper} {op : BinOp} {neg : Bool} (hop : (neg = false ∧ op = .eql) ∨ (neg = true ∧ op = .neq)) {t u : TypeId} {x y : Operand} (ho : o.op = .binOp op t x y u) {d : Ty} (ht : tab t = some d)
    {l m : List It} (hx : AV.val ρ ⟨true, l⟩ = some (val x)) (hy : AV.val ρ ⟨true, m⟩ = some (val y)) {hint : Option Bool} {s : SV} {ob : List Prop} (h : aggEq neg d l m hint = some (s, ob)) : PlanSem P ρ val o (.val s ob) := by
  intro hob
  cases hint with
  | none => cases h
  | some b =>
    simp only [aggEq] at h
    split at h
    · cases h
    · rename_i hks
      split at h
      · rename_i hk
        cases h
        have hiff := hob _ (List.mem_singleton.2 rfl)
        obtain ⟨vs, hv, hv'⟩ := AV.cells hx
        obtain ⟨us, hu, hu'⟩ := AV.cells hy
        rcases hv' with ⟨_, ex⟩ | ⟨h0, _⟩
        case inr => cases h0
        rcases hu' with ⟨_, ey⟩ | ⟨h0, _⟩
        case inr => cases h0
        obtain ⟨e1, f1⟩ := kindsOf_spec _ _ hk.2.1 _ hv
        obtain ⟨e2, f2⟩ := kindsOf_spec _ _ hk.2.2 _ hu
        have hkinds := (htab t d ht).kinds
        rcases hkinds with h0 | ⟨hflat, hguard⟩
        · exact absurd h0 (by intro h0; exact hks h0)
        obtain ⟨i, ut, hi, hut, hs, ha, _⟩ := (htab t d ht).facts
        refine ⟨_, vB_val ρ _, fun w => ?_⟩
        obtain ⟨r, hr, hr'⟩ := run_flat (P := P) 9992 8 t _ hflat w vs us f1 f2
        have hform : ∀ zs, form P t zs = .agg zs.toArray := fun zs => by simp only [form, hut, ha, hk.1, if_true]
        rw [hform, hform] at hr
        have hg : ∀ w, (eqGuard op t x y (val x) (val y)).run P w = .ok () w := fun w => by
          rw [ex, ey]; exact run_eqGuard_agg w op t x y _ _ hguard
        have er : r = b := by
          rw [Bool.eq_iff_iff, hr', e1, e2]; exact hiff
        simp only [execOp, ho, Sem.run_bind, hg, Result.andThen_ok]
        rw [ex, ey]
        rcases hop with ⟨rfl, rfl⟩ | ⟨rfl, rfl⟩
        · rw [run_eql_struct w t, show (10000 : Nat) = 9992 + 8 from rfl, hr, er]
          simp
        · rw [run_neq_struct w t, show (10000 : Nat) = 9992 + 8 from rfl, hr, er]
          simp
      · cases h
theorem sound_boolBin (htab : ∀ t d, tab t = some d → TyOk P t d) {o : Oper} {op : BinOp} {t u : TypeId} {x y : Operand} (ho : o.op = .binOp op t x y u) {d : Ty} (ht : tab t = some d) (hk : d.kinds = [none] ∧ d.agg = false)
    {a b : Bool} (hx : val x = .bool a) (hy : val y = .bool b) {s : SV} (h : boolBin op a b = some s) : PlanSem P ρ val o (.val s []) := by
  obtain ⟨i, ut, hi, hut, hs, ha, _⟩ := (htab t d ht).facts
  have hu : P.underlying t = some .bool := by
    rcases (htab t d ht).kinds with h0 | ⟨hf, _⟩
    · rw [hk.1] at h0; cases h0
    · rw [hk.1] at hf
      rw [hk.2] at ha
      simp only [flat, hut] at hf
      cases ut <;> simp only [aggD] at ha <;> first | exact hut | (cases hf; done) | (cases ha; done)
  have hg : ∀ w, (eqGuard op t x y (val x) (val y)).run P w = .ok () w := fun w => by
    rw [hx, hy]; cases op <;> simp [eqGuard]
  cases op <;> simp only [boolBin] at h <;> try (cases h; done)
  case eql =>
    cases h
    refine sem_val (vB_val ρ _) fun w => ?_
    simp only [execOp, ho, Sem.run_bind, hg, Result.andThen_ok]
    simp only [hx, hy, binOp, Sem.run_bind, run_equal_bool w t a b hu, Result.andThen_ok, Sem.run_pure]
  case neq =>
    cases h
    refine sem_val (vB_val ρ _) fun w => ?_
    simp only [execOp, ho, Sem.run_bind, hg, Result.andThen_ok]
    simp only [hx, hy, binOp, Sem.run_bind, run_equal_bool w t a b hu, Result.andThen_ok, Sem.run_pure]
/-! ### parts laid together -/
theorem foldl_set (off : Nat) : ∀ (vs : List Value) (k : Nat) (cs : Array Value), off + k + vs.length ≤ cs.size →
    (vs.zipIdx k).foldl (fun (cs : Array Value) (p : Value × Nat) => cs.setIfInBounds (off + p.2) p.1) cs = (cs.toList.take (off + k) ++ (vs ++ cs.toList.drop (off + k + vs.length))).toArray := by
  intro vs
  induction vs with
  | nil => intro k cs _; simp
  | cons v vs ih =>
    intro k cs h
    simp only [List.length_cons] at h
    simp only [List.zipIdx_cons, List.foldl_cons]
    rw [ih (k + 1) _ (by simp; omega)]
    apply Array.ext'
    simp only [Array.toList_setIfInBounds, List.length_cons]
    have hl : off + k < cs.toList.length := by simp; omega
    rw [show off + (k + 1) = (off + k) + 1 by omega, List.take_succ_eq_append_getElem (by simpa using hl)]
    rw [List.getElem_set_self]
    rw [List.take_set_of_le (Nat.le_refl _)]
    rw [List.drop_set_of_lt (by omega)]
    simp only [List.append_assoc, List.cons_append, List.nil_append]
    rw [show off + k + 1 + vs.length = off + k + (vs.length + 1) by omega]
theorem fill_ok {d : Ty} {place : Nat → Option (Nat × Nat)} (hp : ∀ i q, placeOf d i = some q → place i = some q) (hev : ∀ x s, ev x = some s → s.val ρ = some (val x)) :
    ∀ (ps : List (Nat × Operand)) (z r : List It) (zs : List Value), fillIt d ev z ps = some r → conc ρ z = some zs →
      ∃ rs, conc ρ r = some rs ∧ Instr.fill place zs.toArray (ps.map fun q => (q.1, val q.2)) = some rs.toArray := by
  intro ps
  induction ps with
  | nil => intro z r zs h hz; cases h; exact ⟨zs, hz, rfl⟩
  | cons q ps ih =>
    intro z r zs h hz
    obtain ⟨i, x⟩ := q
    simp only [fillIt] at h
    split at h
    · rename_i off s y hpl hy
      split at h
      · rename_i hs
        split at h
        · rename_i r' hr'
          obtain ⟨us, hu, hv⟩ := AV.cells (av_val hev hy)
          have e : (val x).cells = us.toArray := by
            rcases hv with ⟨_, h⟩ | ⟨_, h⟩
            · rw [h]; rfl
            · subst h
              rw [cells_one (conc_one _ _ hu _ (by simp))]
          obtain ⟨h1, h2⟩ := lay_conc hr' hz hu
          have hl : us.length = s := by rw [length_conc _ _ hu, hs]
          obtain ⟨rs, h3, h4⟩ := ih r' r _ h h2
          refine ⟨rs, h3, ?_⟩
          simp only [List.map_cons, Instr.fill, hp _ _ hpl, e, List.size_toArray, hl, ne_eq, not_true_eq_false, decide_false, Bool.false_or]
          rw [if_neg (by simp; omega)]
          rw [← h4]
          congr 1
          have := foldl_set off us 0 zs.toArray (by simp; omega)
          simp only [Nat.add_zero] at this
          rw [← this, ← Array.foldl_toList, Array.toList_zipIdx]
        · cases h
      · cases h
    · cases h
theorem run_places (w : World) : ∀ (fs : List Field) (l : List (Nat × Nat × Bool)), fs.map (fieldOf P) = l.map some →
    (fs.mapM fun f => do pure (f.offset, ← sizeOf f.type) : Sem (List (Nat × Nat))).run P w = .ok (l.map fun q => (q.1, q.2.1)) w := by
  intro fs
  induction fs with
  | nil => intro l h; cases l with
    | nil => rfl
    | cons _ _ => cases h
  | cons f fs ih =>
    intro l h
    cases l with
    | nil => cases h
    | cons q l =>
      simp only [List.map_cons, List.cons.injEq] at h
      obtain ⟨h1, h2⟩ := h
      unfold fieldOf at h1
      split at h1
      · rename_i s g hs
        cases h1
        obtain ⟨i, u, hi, hu, hsz, _⟩ := elemOf_some hs
        simp only [List.mapM_cons, Sem.run_bind, run_sizeOf' hi, Result.andThen_ok, Sem.run_pure, ih l h2, List.map_cons, hsz]
      · cases h1
theorem sound_build (htab : ∀ t d, tab t = some d → TyOk P t d) (hev : ∀ x s, ev x = some s → s.val ρ = some (val x)) {o : Oper} {t : TypeId} {ps : Array (Nat × Operand)} (ho : o.op = .build t ps) {d : Ty} (ht : tab t = some d)
    {z r : List It} (hz : d.zero = some z) (hg : (d.agg && (d.arr.isSome || !d.fields.isEmpty)) = true) (hr : fillIt d ev z ps.toList = some r) : PlanSem P ρ val o (.val (.one ⟨true, r⟩) []) := by
  obtain ⟨i, u, hi, hu, hs, ha, hik, hf, harr, hsl⟩ := (htab t d ht).facts
  obtain ⟨zs, h1, h2⟩ := (htab t d ht).zero z hz
  unfold zeroP at h2
  simp only [hi] at h2
  cases hzv : i.zero with
  | none => simp [hzv] at h2
  | some zv =>
    simp only [hzv, Option.some.injEq] at h2
    have hzr : ∀ w, (zeroValue t).run P w = .ok zv w := fun w => by simp only [zeroValue, Sem.run_bind, run_typeInfo w hi, Result.andThen_ok, hzv, Sem.run_pure]
    have hzc : zv.cells = zs.toArray := by rw [← h2]
    have hps : (ps.map fun (x : Nat × Operand) => (x.1, val x.2)).toList = ps.toList.map fun q => (q.1, val q.2) := by simp
    rw [Bool.and_eq_true] at hg
    rw [hg.1] at ha
    cases u <;> simp only [aggD] at ha <;> try (cases ha; done)
    case array n e =>
      have hfl : d.fields = [] := by
        cases hfd : d.fields with
        | nil => rfl
        | cons _ _ => rw [hfd] at hf; cases hf
      simp only [arrD] at harr
      split at harr
      · rename_i s g hs'
        obtain ⟨ie, ue, hie, hue, hse, _⟩ := elemOf_some hs'
        obtain ⟨rs, h3, h4⟩ := fill_ok (place := fun i => some (i * s, s)) (fun i q hq => by
          unfold placeOf at hq; rw [← harr] at hq; exact hq) hev ps.toList z r zs hr (conc_le (rho0_le ρ) _ _ h1)
        refine sem_val (v := .agg rs.toArray) (by simp only [SV.val, AV.val, h3]) fun w => ?_
        simp only [execOp, ho, Instr.build, Sem.run_bind, hzr, Result.andThen_ok, run_underlying hu, run_sizeOf' hie, hse, hzc]
        rw [show ((fun (x : Nat × Operand) => match x with | (i, x) => (i, val x)) = fun (x : Nat × Operand) => (x.1, val x.2)) from rfl, hps, h4]
        rfl
      · have := hg.2
        rw [← harr, hfl] at this
        cases this
    case struct fs =>
      have harr' : d.arr = none := harr.symm
      obtain ⟨rs, h3, h4⟩ := fill_ok (place := fun i => (d.fields.map fun q => (q.1, q.2.1)).toArray[i]?) (fun i q hq => by
          unfold placeOf at hq; rw [harr'] at hq
          simp only at hq
          split at hq
          · rename_i off s g hi'
            cases hq
            simp [hi']
          · cases hq) hev ps.toList z r zs hr (conc_le (rho0_le ρ) _ _ h1)
      refine sem_val (v := .agg rs.toArray) (by simp only [SV.val, AV.val, h3]) fun w => ?_
      have hm : (fs.mapM fun f => do pure (f.offset, ← sizeOf f.type) : Sem (Array (Nat × Nat))).run P w = .ok (d.fields.map fun q => (q.1, q.2.1)).toArray w := by
        rw [Array.mapM_eq_mapM_toList, Sem.run_map, run_places w fs.toList d.fields hf]
        rfl
      simp only [execOp, ho, Instr.build, Sem.run_bind, hzr, Result.andThen_ok, run_underlying hu, hm, hzc]
      rw [show ((fun (x : Nat × Operand) => match x with | (i, x) => (i, val x)) = fun (x : Nat × Operand) => (x.1, val x.2)) from rfl, hps, h4]
      rfl
end
end Go.Eng
/-
  THE ENGINE, part F: the plans are right: the other operations; all together.
-/
namespace Go.Eng
open Go Go.RowKit
section
variable {P : Program} {ρ : Rho} {tab : TypeId → Option Ty} {ev : Operand → Option SV} {val : Operand → Value}

theorem addr_add (b o : Nat) (j : Nat) : (⟨b, o, none⟩ : Addr).add j = ⟨b, o + j, none⟩ := by unfold Addr.add; split <;> simp_all
theorem ptrs_ok (hev : ∀ x s, ev x = some s → s.val ρ = some (val x)) : ∀ (l : List Operand) (qs : List (Nat × Nat)), ptrs ev l = some qs → capVals ρ qs = some (l.map val) := by
  intro l
  induction l with
  | nil => intro qs h; cases h; rfl
  | cons x l ih =>
    intro qs h
    simp only [ptrs] at h
    split at h
    · rename_i y ys hy hys
      split at h
      · rename_i q hq
        cases h
        obtain ⟨id, off⟩ := q
        obtain ⟨r, hr, hx⟩ := asPtr_val hq (av_val hev hy)
        simp only [capVals, hr, ih _ hys, List.map_cons, hx]
      · cases h
    · cases h
theorem avs_ok (hev : ∀ x s, ev x = some s → s.val ρ = some (val x)) : ∀ (l : List Operand) (ys : List AV), avs ev l = some ys → vals ρ ys = some (l.map val) := by
  intro l
  induction l with
  | nil => intro ys h; cases h; rfl
  | cons x l ih =>
    intro ys h
    simp only [avs] at h
    split at h
    · rename_i y ys' hy hys
      cases h
      simp only [vals, av_val hev hy, ih _ hys, List.map_cons]
    · cases h
theorem vals_append {a b : List AV} {x y : List Value} (ha : vals ρ a = some x) (hb : vals ρ b = some y) : vals ρ (a ++ b) = some (x ++ y) := by
  induction a generalizing x with
  | nil => cases ha; exact hb
  | cons v a ih =>
    simp only [vals] at ha
    split at ha
    · rename_i u us hu hus
      cases ha
      simp only [List.cons_append, vals, hu, ih hus]
    · cases ha
theorem vals_caps : ∀ (caps : List (Nat × Nat)) (vs : List Value), capVals ρ caps = some vs → vals ρ (caps.map fun q => (⟨false, [.p q.1 q.2]⟩ : AV)) = some vs := by
  intro caps
  induction caps with
  | nil => intro vs h; cases h; rfl
  | cons c caps ih =>
    intro vs h
    simp only [capVals] at h
    split at h
    · rename_i q us hq hus
      cases h
      have : AV.val ρ ⟨false, [.p c.1 c.2]⟩ = some (ptr q c.2) := AV.val_mk (by simp only [It.cs, hq])
      simp only [List.map_cons, vals, this, ih _ hus]
    · cases h
theorem func_val {fn : FuncId} {caps : List (Nat × Nat)} {v : Value} (hv : AV.val ρ ⟨false, [.f fn caps]⟩ = some v) : ∃ vs, capVals ρ caps = some vs ∧ v = .func (.func fn) #[] vs.toArray := by
  have := AV.val_one hv
  simp only [It.cs] at this
  split at this
  · rename_i q hq; cases this; exact ⟨q, hq, rfl⟩
  · cases this

theorem sound_call (hev : ∀ x s, ev x = some s → s.val ρ = some (val x)) {o : Oper} {c : Call} (ho : o.op = .call c) {f : Operand} (hc : c.callee = .value f) {fn : FuncId} {caps : List (Nat × Nat)} (hf : av ev f = some ⟨false, [.f fn caps]⟩)
    {args : List AV} (ha : avs ev c.args.toList = some args) : PlanSem P ρ val o (.call fn (args ++ caps.map fun q => ⟨false, [.p q.1 q.2]⟩)) := by
  obtain ⟨vs, h1, h2⟩ := func_val (av_val hev hf)
  refine ⟨_, vals_append (avs_ok hev _ _ ha) (vals_caps _ _ h1), fun w => ?_⟩
  simp only [execOp, ho, resolve, hc, h2, Deferred.ofValue, Sem.run_bind, Sem.run_pure, Result.andThen_ok, invoke]
  congr 2
  apply Array.ext'
  simp
theorem sound_len (htab : ∀ t d, tab t = some d → TyOk P t d) {o : Oper} {c : Call} (ho : o.op = .call c) (hc : c.callee = .builtin .len) {x : Operand} {t : TypeId} (h1 : c.args.toList = [x]) (h2 : c.argTypes.toList = [t])
    {d : Ty} (ht : tab t = some d) {s : Nat} (hs : d.sl = some s) {a : Option Addr} {n m : Nat} (hx : val x = .slice a n m) : PlanSem P ρ val o (.val (vI .i64 (n : Int)) []) := by
  obtain ⟨i, u, hi, hu, _, _, _, _, _, hsl⟩ := (htab t d ht).facts
  rw [hs] at hsl
  obtain ⟨e, ie, rfl, _⟩ := sl_some hsl
  have e1 : c.args = #[x] := by rw [← h1]
  have e2 : c.argTypes = #[t] := by rw [← h2]
  refine sem_val (vI_val ρ _ _) fun w => ?_
  simp only [execOp, ho, resolve, hc, e1, e2, Sem.run_bind, Sem.run_pure, Result.andThen_ok, invoke, builtin, Builtin.len_, hx, List.map_toArray, List.map_cons, List.map_nil,
    List.getElem?_toArray, List.getElem?_cons_zero, run_underlying hu, goInt]
theorem sound_max {o : Oper} {c : Call} (ho : o.op = .call c) (hc : c.callee = .builtin .max) {x y : Operand} (h1 : c.args.toList = [x, y]) {k k' : IntKind} {a b : Int} (hx : val x = .int k a) (hy : val y = .int k' b) :
    PlanSem P ρ val o (.val (vI k (if b > a then b else a)) []) := by
  have e1 : c.args = #[x, y] := by rw [← h1]
  refine sem_val (vI_val ρ _ _) fun w => ?_
  simp [execOp, ho, resolve, hc, e1, invoke, builtin, Builtin.max_, hx, hy, Builtin.max2]
theorem sound_copy (htab : ∀ t d, tab t = some d → TyOk P t d) {o : Oper} {c : Call} (ho : o.op = .call c) (hc : c.callee = .builtin .copy) {x y : Operand} {t : TypeId} {ts : List TypeId} (h1 : c.args.toList = [x, y]) (h2 : c.argTypes.toList = t :: ts)
    {d : Ty} (ht : tab t = some d) {s : Nat} (hs : d.sl = some s) {did sid : Nat} {qd qs : Nat × Nat} {doff dlen dcap soff slen scap : Nat} (hqd : ρ did = some qd) (hqs : ρ sid = some qs)
    (hx : val x = .slice (some ⟨qd.1, qd.2 + doff, none⟩) dlen dcap) (hy : val y = .slice (some ⟨qs.1, qs.2 + soff, none⟩) slen scap) :
    PlanSem P ρ val o (.copy did doff sid soff (Nat.min slen dlen * s) (Nat.min slen dlen)) := by
  obtain ⟨i, u, hi, hu, _, _, _, _, _, hsl⟩ := (htab t d ht).facts
  rw [hs] at hsl
  obtain ⟨e, ie, rfl, hie, hse⟩ := sl_some hsl
  have e1 : c.args = #[x, y] := by rw [← h1]
  have e2 : c.argTypes = (t :: ts).toArray := by rw [← h2]
  refine ⟨qd, qs, hqd, hqs, fun w vs hl hv => ?_⟩
  have hload := run_loadCells_list (P := P) w ⟨qs.1, qs.2 + soff, none⟩ vs (fun j v hj => by
    rw [addr_add, Nat.add_assoc]; exact hv j v hj)
  rw [hl] at hload
  simp only [execOp, ho, resolve, hc, e1, e2, Sem.run_bind, Sem.run_pure, Result.andThen_ok, invoke, builtin, Builtin.copy_, hx, hy, List.map_toArray, List.map_cons, List.map_nil,
    List.getElem?_toArray, List.getElem?_cons_zero, List.getElem?_cons_succ, run_underlying hu, Builtin.lenOf, run_sizeOf' hie, hse, Builtin.firstCells, hload, goInt]
  cases (storeCells ⟨qd.1, qd.2 + doff, none⟩ vs).run P w <;> rfl
theorem zeroCells_len {z : Array Value} (hz : z.size = 1) (n : Nat) : (Builtin.zeroCells z n).toList.length = n := by
  unfold Builtin.zeroCells
  simp [hz]
theorem run_append_room' (w : World) (t ty e : TypeId) (i : TypeInfo) (ht : P.underlying t = some (.slice e)) (hi : P.info? e = some i) (g sLen sCap : Nat) (t' : TypeId) (cur : Array Value) (hg : w.heap[g]? = some (.cells cur t' (0, 0)))
    (a : Addr) (m c : Nat) (news : List Value) (hl : news.length = m * i.size) (hnews : ∀ j u, news[j]? = some u → w.cell? (a.add j) = some u) (h1 : ∀ u ∈ news, u.oneCell' = true) (hroom : sLen + m ≤ sCap) (hfit : sLen * i.size + news.length ≤ cur.size) :
    (Builtin.append_ #[t, t] ty #[.slice (some ⟨g, 0, none⟩) sLen sCap, .slice (some a) m c]).run P w =
      .ok (.slice (some ⟨g, 0, none⟩) (sLen + m) sCap) (w.setRow g (cur.toList.take (sLen * i.size) ++ news ++ cur.toList.drop (sLen * i.size + news.length)).toArray) := by
  have hf := run_firstCells_some (P := P) w i.size m a m c news hl hnews
  have hst := run_storeCells_at P g (sLen * i.size) t' news 0 cur w hg (by simpa using hfit) h1
  simp only [Nat.add_zero] at hst
  simp [Builtin.append_, run_underlying ht, sizeOf, typeInfo, hi, Builtin.lenOf, hroom, hf, Addr.add_lit, hst]
theorem grows_of {o : Oper} {c : Call} (ho : o.op = .call c) (hc : c.callee = .builtin .append) {x y : Operand} {t e : TypeId} {ie : TypeInfo} {z : Value} (e1 : c.args = #[x, y]) (e2 : c.argTypes = #[t, t])
    (hu : P.underlying t = some (.slice e)) (hie : P.info? e = some ie) (hz : ie.zero = some z) (hzc : z.cells.size = 1) (hsz : ie.size = 1) (hby : ie.bytes ≤ 8) (w : World) (b : Addr) (len cap m cap' : Nat) (vs us : List Value) (hlv : vs.length = len) (hlu : us.length = m)
    (hv : ∀ j v, vs[j]? = some v → w.cell? (b.add j) = some v) (a : Addr) (hu' : ∀ j v, us[j]? = some v → w.cell? (a.add j) = some v) (hx : val x = .slice (some b) len cap) (hy : val y = .slice (some a) m cap') (hg : cap < len + m) (hsm : len + m < 1000000) :
    Grows P val o w (len + m) (vs ++ us) := by
  have hfit : Builtin.nextslicecap (len + m) cap * ie.bytes ≤ 281474976710656 := growslice_fits hg (Nat.le_trans (Nat.mul_le_mul (Nat.le_of_lt hsm) hby) (by omega))
  have hrun := fun ty => run_append_grow (P := P) w t ty e ie z hu hie hz b len cap vs (by rw [hsz, hlv, Nat.mul_one]) hv a m cap' us (by rw [hsz, hlu, Nat.mul_one]) hu' hg (by omega) hfit
  have hk : len + m ≤ grownCap w (len + m) cap e := by unfold grownCap Question.cut; exact Nat.le_add_right _ _
  refine ⟨grownCap w (len + m) cap e, (Builtin.zeroCells z.cells (grownCap w (len + m) cap e - (len + m))).toList, e, by rw [zeroCells_len hzc]; omega, ?_⟩
  have harr : (vs.toArray ++ us.toArray ++ Builtin.zeroCells z.cells (grownCap w (len + m) cap e - (len + m))) = (vs ++ us ++ (Builtin.zeroCells z.cells (grownCap w (len + m) cap e - (len + m))).toList).toArray := by
    apply Array.ext'
    simp
  simp only [execOp, ho, resolve, hc, e1, e2, Sem.run_bind, Sem.run_pure, Result.andThen_ok, invoke, builtin, List.map_toArray, List.map_cons, List.map_nil, hx, hy, hrun, harr]
theorem appTy_ok (htab : ∀ t d, tab t = some d → TyOk P t d) {t t' : TypeId} {d : Ty} (ht : tab t = some d) (h : appTy d t t' = true) : t' = t ∧ ∃ e ie z, P.underlying t = some (.slice e) ∧ P.info? e = some ie ∧ ie.zero = some z ∧ z.cells.size = 1 ∧ ie.size = 1 ∧ ie.bytes ≤ 8 := by
  unfold appTy at h
  split at h
  · rename_i iz hs hz
    rw [Bool.and_eq_true] at h
    obtain ⟨i, u, hi, hu, _, _, _, _, _, hsl⟩ := (htab t d ht).facts
    rw [hs] at hsl
    obtain ⟨e, ie, rfl, hie, hse⟩ := sl_some hsl
    obtain ⟨e1, v, hu1, hcs, hz1⟩ := (htab t d ht).slz iz hz
    rw [hu] at hu1; cases hu1
    obtain ⟨e2, i2, hu2, hi2, hb2⟩ := (htab t d ht).mk8 h.1
    rw [hu] at hu2; cases hu2
    rw [hie] at hi2; cases hi2
    unfold zeroP at hz1
    rw [hie] at hz1
    simp only at hz1
    cases hzv : ie.zero with
    | none => rw [hzv] at hz1; cases hz1
    | some zv =>
      rw [hzv] at hz1
      simp only [Option.some.injEq] at hz1
      exact ⟨(Nat.eq_of_beq_eq_true h.2).symm, e, ie, zv, hu, hie, hzv, by rw [← Array.length_toList, hz1]; rfl, hse, hb2⟩
  · cases h
theorem sound_app0 (htab : ∀ t d, tab t = some d → TyOk P t d) {o : Oper} {c : Call} (ho : o.op = .call c) (hc : c.callee = .builtin .append) {x y : Operand} {t t' : TypeId} (h1 : c.args.toList = [x, y]) (h2 : c.argTypes.toList = [t, t'])
    {d : Ty} (ht : tab t = some d) (hty : appTy d t t' = true) {xid yid : Nat} {qx qy : Nat × Nat} {xoff xlen xcap yoff m ycap : Nat} (hqx : ρ xid = some qx) (hqy : ρ yid = some qy)
    (hx : val x = .slice (some ⟨qx.1, qx.2 + xoff, none⟩) xlen xcap) (hy : val y = .slice (some ⟨qy.1, qy.2 + yoff, none⟩) m ycap) (hg : xcap < xlen + m) (hsm : xlen + m < 1000000) :
    PlanSem P ρ val o (.app false xid xoff xlen xcap yid yoff m) := by
  obtain ⟨rfl, e, ie, z, hu, hie, hz, hzc, hsz, hby⟩ := appTy_ok htab ht hty
  have e1 : c.args = #[x, y] := by rw [← h1]
  have e2 : c.argTypes = #[t', t'] := by rw [← h2]
  refine ⟨qx, qy, hqx, hqy, fun w us hlu hcu => ?_⟩
  intro vs hlv hcv
  exact grows_of ho hc e1 e2 hu hie hz hzc hsz hby w _ xlen xcap m ycap vs us hlv hlu (fun j v hj => by rw [addr_add, Nat.add_assoc]; exact hcv j v hj) _ (fun j v hj => by rw [addr_add, Nat.add_assoc]; exact hcu j v hj) hx hy hg hsm
theorem sound_app1 (htab : ∀ t d, tab t = some d → TyOk P t d) {o : Oper} {c : Call} (ho : o.op = .call c) (hc : c.callee = .builtin .append) {x y : Operand} {t t' : TypeId} (h1 : c.args.toList = [x, y]) (h2 : c.argTypes.toList = [t, t'])
    {d : Ty} (ht : tab t = some d) (hty : appTy d t t' = true) {xid yid : Nat} {qx qy : Nat × Nat} {xlen yoff m ycap : Nat} (hqx : ρ xid = some qx) (hqy : ρ yid = some qy)
    (hx : val x = .slice (some ⟨qx.1, 0, none⟩) xlen qx.2) (hy : val y = .slice (some ⟨qy.1, qy.2 + yoff, none⟩) m ycap) (hsm : xlen + m < 1000000) :
    PlanSem P ρ val o (.app true xid 0 xlen 0 yid yoff m) := by
  obtain ⟨rfl, e, ie, z, hu, hie, hz, hzc, hsz, hby⟩ := appTy_ok htab ht hty
  have e1 : c.args = #[x, y] := by rw [← h1]
  have e2 : c.argTypes = #[t', t'] := by rw [← h2]
  refine ⟨qx, qy, hqx, hqy, fun w us hlu hcu => ?_⟩
  intro hone cur tt hheap hsize hle
  have hu' : ∀ j v, us[j]? = some v → w.cell? ((⟨qy.1, qy.2 + yoff, none⟩ : Addr).add j) = some v := fun j v hj => by rw [addr_add, Nat.add_assoc]; exact hcu j v hj
  by_cases hr : xlen + m ≤ qx.2
  · refine .inr ⟨by omega, ?_⟩
    have hrun := fun ty => run_append_room' (P := P) w t' ty e ie hu hie qx.1 xlen qx.2 tt cur hheap _ m ycap us (by rw [hsz, hlu, Nat.mul_one]) hu' hone hr (by rw [hsz, Nat.mul_one, hlu]; omega)
    rw [hsz, Nat.mul_one, hlu] at hrun
    simp only [execOp, ho, resolve, hc, e1, e2, Sem.run_bind, Sem.run_pure, Result.andThen_ok, invoke, builtin, List.map_toArray, List.map_cons, List.map_nil, hx, hy, hrun]
  · refine .inl ?_
    refine grows_of ho hc e1 e2 hu hie hz hzc hsz hby w _ xlen qx.2 m ycap _ us (by rw [List.length_take, Array.length_toList]; omega) hlu (fun j v hj => ?_) _ hu' hx hy (by omega) hsm
    rw [addr_add, cell_of_row w qx.1 _ _ tt _ hheap, Nat.zero_add]
    rw [List.getElem?_take] at hj
    split at hj
    · simpa using hj
    · cases hj
theorem sound_clear (htab : ∀ t d, tab t = some d → TyOk P t d) {o : Oper} {c : Call} (ho : o.op = .call c) (hc : c.callee = .builtin .clear) {x : Operand} {t : TypeId} {ts : List TypeId} (h1 : c.args.toList = [x]) (h2 : c.argTypes.toList = t :: ts)
    {d : Ty} (ht : tab t = some d) {i : It} (hs : d.slz = some i) {id : Nat} {q : Nat × Nat} {off len cap : Nat} (hq : ρ id = some q)
    (hx : val x = .slice (some ⟨q.1, q.2 + off, none⟩) len cap) : PlanSem P ρ val o (.clear id off (List.replicate len i)) := by
  obtain ⟨e, v, hu, hcs, hz⟩ := (htab t d ht).slz i hs
  unfold zeroP at hz
  have e1 : c.args = #[x] := by rw [← h1]
  have e2 : c.argTypes = (t :: ts).toArray := by rw [← h2]
  cases hie : P.info? e with
  | none => simp [hie] at hz
  | some ie =>
    cases hzv : ie.zero with
    | none => simp [hie, hzv] at hz
    | some zv =>
      simp only [hie, hzv, Option.some.injEq] at hz
      have hzc : zv.cells = #[v] := by rw [← hz]
      have hconc : conc ρ (List.replicate len i) = some (List.replicate len v) := by
        clear hx
        induction len with
        | zero => rfl
        | succ n ih => exact conc_mk (It.cs_le (rho0_le ρ) _ _ hcs) ih
      refine ⟨q, _, hq, hconc, fun w => ?_⟩
      have hzr : (zeroValue e).run P w = .ok zv w := by simp only [zeroValue, Sem.run_bind, run_typeInfo w hie, Result.andThen_ok, hzv, Sem.run_pure]
      have hcells : (Builtin.zeroCells #[v] len).toList = List.replicate len v := by
        unfold Builtin.zeroCells
        apply List.ext_getElem
        · simp
        · intro j h1 h2; simp [Nat.mod_one]
      cases len with
      | zero => simp [execOp, ho, resolve, hc, e1, e2, invoke, builtin, Builtin.clear_, hx, run_underlying hu, storeCells]
      | succ n =>
        simp only [execOp, ho, resolve, hc, e1, e2, Sem.run_bind, Sem.run_pure, Result.andThen_ok, invoke, builtin, Builtin.clear_, hx, List.map_toArray, List.map_cons, List.map_nil,
          List.getElem?_toArray, List.getElem?_cons_zero, run_underlying hu, hzr, hzc, hcells]
        cases (storeCells ⟨q.1, q.2 + off, none⟩ (List.replicate (n + 1) v)).run P w <;> rfl
theorem sound_makeFunc (hev : ∀ x s, ev x = some s → s.val ρ = some (val x)) {o : Oper} {f : FuncId} {first caps : Array Operand} (ho : o.op = .makeFunc (.func f) first caps) (h0 : first.size = 0) {qs : List (Nat × Nat)} (hq : ptrs ev caps.toList = some qs) :
    PlanSem P ρ val o (.val (it1 (.f f qs)) []) := by
  have e : first = #[] := by simpa using h0
  refine sem_val (v := .func (.func f) #[] (caps.map val)) ?_ fun w => ?_
  · refine AV.val_mk ?_
    simp only [It.cs, ptrs_ok hev _ _ hq]
    congr 3
    apply Array.ext'
    simp
  · simp only [execOp, ho, e, Instr.makeFunc, Sem.run_bind, Sem.run_pure, Result.andThen_ok, Array.map_empty]
theorem bound_ok (hev : ∀ x s, ev x = some s → s.val ρ = some (val x)) {x : Operand} {dflt l : Nat} (h : boundOf ev dflt (some x) = some l) : ∃ k, val x = .int k (l : Int) := by
  simp only [boundOf] at h
  split at h
  · rename_i y hy
    split at h
    · rename_i k i hi
      split at h
      · rename_i h0
        cases h
        refine ⟨k, ?_⟩
        rw [asInt_val hi (av_val hev hy), Int.toNat_of_nonneg h0]
      · cases h
    · cases h
  · cases h
theorem run_sliceBound {x : Value} {k : IntKind} {l y : Nat} (hx : x = .int k (l : Int)) (h : l ≤ y) (code : BoundsCode) (w : World) : (Instr.sliceBound x y code).run P w = .ok l w := by
  subst hx
  have : (0 : Int) ≤ l ∧ (l : Int) ≤ y := ⟨by omega, by omega⟩
  simp [Instr.sliceBound, asIntOf, this]
theorem run_sliceBounds (hev : ∀ x s, ev x = some s → s.val ρ = some (val x)) {isSlice : Bool} {len cap : Nat} {lo hi : Option Operand} {l h : Nat} (hl : boundOf ev 0 lo = some l) (hh : boundOf ev len hi = some h) (h1 : l ≤ h) (h2 : h ≤ cap) (w : World) :
    (Instr.sliceBounds isSlice len cap (lo.map val) (hi.map val) none).run P w = .ok (l, h, cap) w := by
  cases hi with
  | none =>
    simp only [boundOf, Option.some.injEq] at hh
    subst hh
    cases lo with
    | none => simp only [boundOf, Option.some.injEq] at hl; subst hl; simp [Instr.sliceBounds]
    | some x =>
      obtain ⟨k, hx⟩ := bound_ok hev hl
      simp [Instr.sliceBounds, run_sliceBound hx h1]
  | some y =>
    obtain ⟨k', hy⟩ := bound_ok hev hh
    cases lo with
    | none => simp only [boundOf, Option.some.injEq] at hl; subst hl; simp [Instr.sliceBounds, run_sliceBound hy h2]
    | some x =>
      obtain ⟨k, hx⟩ := bound_ok hev hl
      simp [Instr.sliceBounds, run_sliceBound hx h1, run_sliceBound hy h2]
theorem sound_sliceArr (htab : ∀ t d, tab t = some d → TyOk P t d) (hev : ∀ x s, ev x = some s → s.val ρ = some (val x)) {o : Oper} {t : TypeId} {x : Operand} {lo hi : Option Operand} (ho : o.op = .slice t x lo hi none) {d : Ty} (ht : tab t = some d)
    {n s : Nat} {g : Bool} (ha : d.arr = some (n, s, g)) {q : Nat × Nat} {id off : Nat} (hq : ρ id = some q) (hx : val x = ptr q off) {l h : Nat} (hl : boundOf ev 0 lo = some l) (hh : boundOf ev n hi = some h) (h1 : l ≤ h) (h2 : h ≤ n) :
    PlanSem P ρ val o (.val (it1 (.s id (if n = l then off else off + l * s) (h - l) (n - l))) []) := by
  obtain ⟨i, u, hi', hu, _, _, _, _, harr, _⟩ := (htab t d ht).facts
  rw [ha] at harr
  obtain ⟨e, ie, ue, rfl, hie, _, hse, _⟩ := arr_some harr
  refine sem_val (slice_mk hq _ _ _) fun w => ?_
  simp only [execOp, ho, Instr.sliceAt, Sem.run_bind, run_underlying hu, Result.andThen_ok, hx, ptr, Instr.sureAddr, Sem.run_pure, Option.map_none, run_sliceBounds hev hl hh h1 h2, run_sizeOf' hie, hse]
  by_cases hc : n = l
  · simp [hc]
  · simp [hc, addr_add, Nat.add_assoc]
theorem sound_sliceSl (htab : ∀ t d, tab t = some d → TyOk P t d) (hev : ∀ x s, ev x = some s → s.val ρ = some (val x)) {o : Oper} {t : TypeId} {x : Operand} {lo hi : Option Operand} (ho : o.op = .slice t x lo hi none) {d : Ty} (ht : tab t = some d)
    {s : Nat} (ha : d.sl = some s) {q : Nat × Nat} {id off len cap : Nat} (hq : ρ id = some q) (hx : val x = .slice (some ⟨q.1, q.2 + off, none⟩) len cap) {l h : Nat} (hl : boundOf ev 0 lo = some l) (hh : boundOf ev len hi = some h) (h1 : l ≤ h) (h2 : h ≤ cap) :
    PlanSem P ρ val o (.val (it1 (.s id (if cap = l then off else off + l * s) (h - l) (cap - l))) []) := by
  obtain ⟨i, u, hi', hu, _, _, _, _, _, hsl⟩ := (htab t d ht).facts
  rw [ha] at hsl
  obtain ⟨e, ie, rfl, hie, hse⟩ := sl_some hsl
  refine sem_val (slice_mk hq _ _ _) fun w => ?_
  simp only [execOp, ho, Instr.sliceAt, Instr.slice, Sem.run_bind, run_underlying hu, Result.andThen_ok, hx, Option.map_none, run_sliceBounds hev hl hh h1 h2, run_sizeOf' hie, hse, Sem.run_pure]
  by_cases hc : cap = l
  · simp [hc]
  · simp [hc, addr_add, Nat.add_assoc]
theorem sound_sliceToArrayPointer (htab : ∀ t d, tab t = some d → TyOk P t d) {o : Oper} {t : TypeId} {x : Operand} (ho : o.op = .sliceToArrayPointer t x) {d : Ty} (ht : tab t = some d)
    {n s : Nat} {g : Bool} (ha : d.arr = some (n, s, g)) {q : Nat × Nat} {id off len cap : Nat} (hq : ρ id = some q) (hx : val x = .slice (some ⟨q.1, q.2 + off, none⟩) len cap) (hn : n ≤ len) : PlanSem P ρ val o (.val (it1 (.p id off)) []) := by
  obtain ⟨i, u, hi', hu, _, _, _, _, harr, _⟩ := (htab t d ht).facts
  rw [ha] at harr
  obtain ⟨e, ie, ue, rfl, hie, _, hse, _⟩ := arr_some harr
  have : ¬ len < n := by omega
  refine sem_val (ptr_mk hq _) fun w => ?_
  simp [execOp, ho, Instr.arrayAt, run_underlying hu, hx, this, ptr]
theorem sound_fieldAddr (htab : ∀ t d, tab t = some d → TyOk P t d) {o : Oper} {t : TypeId} {x : Operand} {i : Nat} (ho : o.op = .fieldAddr t x i) {d : Ty} (ht : tab t = some d) {off' s : Nat} {g : Bool} (hf : d.fields[i]? = some (off', s, g)) (hs : s ≠ 0)
    {q : Nat × Nat} {id off : Nat} (hq : ρ id = some q) (hx : val x = ptr q off) : PlanSem P ρ val o (.val (it1 (.p id (off + off'))) []) := by
  obtain ⟨_, u, _, hu, _, _, _, hfs, _⟩ := (htab t d ht).facts
  obtain ⟨Fs, f, n, uf, rfl, h1, h2, h3, h4, h5, h6⟩ := field_some hfs hf
  refine sem_val (ptr_mk hq _) fun w => ?_
  simp only [execOp, ho, Instr.fieldAt, Sem.run_bind, run_underlying hu, Result.andThen_ok, h1, hx, ptr, Instr.sureAddr, Sem.run_pure, fieldPlace, run_sizeOf' h2, h5, hs, if_false, Sem.run_ite, h4, addr_add, Nat.add_assoc]
theorem part_ok {t : TypeId} {u : TypeDesc} {i : TypeInfo} (hu : P.underlying t = some u) (hi : P.info? t = some i) {l : List It} {vs : List Value} (hc : conc ρ l = some vs) {off : Nat} {s : SV} (h : partIt l off i.size (aggD u) = some s) :
    ∃ v, s.val ρ = some v ∧ ∀ w, (part t vs.toArray off).run P w = .ok v w := by
  unfold partIt at h
  split at h
  · rename_i r hr
    cases h
    obtain ⟨h1, h2⟩ := cut_conc hr hc
    cases ha : aggD u with
    | true =>
      rw [ha] at h1 h2
      simp only [if_true] at h1 h2
      refine ⟨.agg ((vs.drop off).take i.size).toArray, by simp only [SV.val, AV.val, h2], fun w => ?_⟩
      unfold part
      simp only [Sem.run_bind, run_isAgg hu, Result.andThen_ok, ha, if_true, run_sizeOf' hi, Sem.run_pure]
      congr 2
      apply Array.ext'
      rw [Array.toList_extract]
      simp [List.extract_eq_take_drop]
    | false =>
      rw [ha] at h1 h2
      simp only [Bool.false_eq_true, if_false] at h1 h2
      have hlt : off < vs.length := by omega
      have e : (vs.drop off).take 1 = [vs[off]] := by
        rw [List.drop_eq_getElem_cons hlt, List.take_succ_cons, List.take_zero]
      rw [e] at h2
      refine ⟨vs[off], by simp only [SV.val, AV.val, h2], fun w => ?_⟩
      unfold part
      simp [run_isAgg hu, ha, hlt]
  · cases h
theorem sound_field (htab : ∀ t d, tab t = some d → TyOk P t d) {o : Oper} {t : TypeId} {x : Operand} {i : Nat} (ho : o.op = .field t x i) {d : Ty} (ht : tab t = some d) {off s : Nat} {g : Bool} (hf : d.fields[i]? = some (off, s, g))
    {l : List It} (hx : AV.val ρ ⟨true, l⟩ = some (val x)) {r : SV} (hr : partIt l off s g = some r) : PlanSem P ρ val o (.val r []) := by
  obtain ⟨_, u, _, hu, _, _, _, hfs, _⟩ := (htab t d ht).facts
  obtain ⟨Fs, f, n, uf, rfl, h1, h2, h3, h4, h5, h6⟩ := field_some hfs hf
  obtain ⟨vs, hc, hv⟩ := AV.cells hx
  rcases hv with ⟨_, ex⟩ | ⟨h0, _⟩
  case inr => cases h0
  rw [← h5, ← h6] at hr
  obtain ⟨v, hv1, hv2⟩ := part_ok h3 h2 hc hr
  refine sem_val hv1 fun w => ?_
  simp only [execOp, ho, Instr.field, Sem.run_bind, run_underlying hu, Result.andThen_ok, h1, ex, asAgg, Sem.run_pure, h4, hv2]
theorem index_ok {y : AV} {n j : Nat} {v : Value} (h : indexOf n y = some j) (hv : y.val ρ = some v) : ∃ k, v = .int k (j : Int) ∧ j < n := by
  unfold indexOf at h
  split at h
  · rename_i k i hi
    split at h
    · rename_i hb
      cases h
      exact ⟨k, by rw [asInt_val hi hv, Int.toNat_of_nonneg hb.1], by omega⟩
    · cases h
  · cases h
theorem sound_indexArr (htab : ∀ t d, tab t = some d → TyOk P t d) {o : Oper} {t : TypeId} {x i : Operand} (ho : o.op = .indexAddr t x i) {d : Ty} (ht : tab t = some d) {n s : Nat} {g : Bool} (ha : d.arr = some (n, s, g))
    {q : Nat × Nat} {id off : Nat} (hq : ρ id = some q) (hx : val x = ptr q off) {k : IntKind} {j : Nat} (hi : val i = .int k (j : Int)) (hj : j < n) : PlanSem P ρ val o (.val (it1 (.p id (off + j * s))) []) := by
  obtain ⟨_, u, _, hu, _, _, _, _, harr, _⟩ := (htab t d ht).facts
  rw [ha] at harr
  obtain ⟨e, ie, ue, rfl, hie, _, hse, _⟩ := arr_some harr
  refine sem_val (ptr_mk hq _) fun w => ?_
  have hb : (0 : Int) ≤ j ∧ (j : Int) < n := ⟨by omega, by omega⟩
  simp only [execOp, ho, Instr.indexAt, Sem.run_bind, hi, asIntOf, Sem.run_pure, Result.andThen_ok, run_underlying hu, hx, ptr, Instr.sureAddr]
  simp [hb, run_sizeOf' hie, hse, addr_add, Nat.add_assoc]
theorem sound_indexSl (htab : ∀ t d, tab t = some d → TyOk P t d) {o : Oper} {t : TypeId} {x i : Operand} (ho : o.op = .indexAddr t x i) {d : Ty} (ht : tab t = some d) {s : Nat} (ha : d.sl = some s)
    {q : Nat × Nat} {id off len cap : Nat} (hq : ρ id = some q) (hx : val x = .slice (some ⟨q.1, q.2 + off, none⟩) len cap) {k : IntKind} {j : Nat} (hi : val i = .int k (j : Int)) (hj : j < len) : PlanSem P ρ val o (.val (it1 (.p id (off + j * s))) []) := by
  obtain ⟨_, u, _, hu, _, _, _, _, _, hsl⟩ := (htab t d ht).facts
  rw [ha] at hsl
  obtain ⟨e, ie, rfl, hie, hse⟩ := sl_some hsl
  refine sem_val (ptr_mk hq _) fun w => ?_
  have hb : (0 : Int) ≤ j ∧ (j : Int) < len := ⟨by omega, by omega⟩
  simp only [execOp, ho, Instr.indexAt, Sem.run_bind, hi, asIntOf, Sem.run_pure, Result.andThen_ok, run_underlying hu, hx, ptr]
  simp [hb, run_sizeOf' hie, hse, addr_add, Nat.add_assoc]
theorem sound_index (htab : ∀ t d, tab t = some d → TyOk P t d) {o : Oper} {t : TypeId} {x i : Operand} (ho : o.op = .index t x i) {d : Ty} (ht : tab t = some d) {n s : Nat} {g : Bool} (ha : d.arr = some (n, s, g))
    {l : List It} (hx : AV.val ρ ⟨true, l⟩ = some (val x)) {k : IntKind} {j : Nat} (hi : val i = .int k (j : Int)) (hj : j < n) {r : SV} (hr : partIt l (j * s) s g = some r) : PlanSem P ρ val o (.val r []) := by
  obtain ⟨_, u, _, hu, _, _, _, _, harr, _⟩ := (htab t d ht).facts
  rw [ha] at harr
  obtain ⟨e, ie, ue, rfl, hie, hue, hse, hge⟩ := arr_some harr
  obtain ⟨vs, hc, hv⟩ := AV.cells hx
  rcases hv with ⟨_, ex⟩ | ⟨h0, _⟩
  case inr => cases h0
  rw [← hge] at hr
  have hr' := hr
  rw [← hse] at hr'
  obtain ⟨v, hv1, hv2⟩ := part_ok hue hie hc hr'
  refine sem_val hv1 fun w => ?_
  have hb : (0 : Int) ≤ j ∧ (j : Int) < n := ⟨by omega, by omega⟩
  simp only [execOp, ho, Instr.index, Sem.run_bind, hi, asIntOf, Sem.run_pure, Result.andThen_ok, run_underlying hu, ex, Sem.run_ite, hb, and_self, if_true, run_sizeOf' hie]
  rw [Int.toNat_natCast, hv2]
  rfl
theorem tup_val {l : List AV} {v : Value} (h : SV.val ρ (.tup l) = some v) : ∃ vs, vals ρ l = some vs ∧ v = .tuple vs.toArray := by
  simp only [SV.val] at h
  split at h
  · rename_i vs hvs; cases h; exact ⟨vs, hvs, rfl⟩
  · cases h
theorem vals_get : ∀ (l : List AV) (vs : List Value) (i : Nat) (y : AV), vals ρ l = some vs → l[i]? = some y → ∃ v, y.val ρ = some v ∧ vs[i]? = some v := by
  intro l
  induction l with
  | nil => intro vs i y h hy; simp at hy
  | cons x l ih =>
    intro vs i y h hy
    simp only [vals] at h
    split at h
    · rename_i u us hu hus
      cases h
      cases i with
      | zero => simp only [List.getElem?_cons_zero, Option.some.injEq] at hy ⊢; subst hy; exact ⟨u, hu, rfl⟩
      | succ i => simp only [List.getElem?_cons_succ] at hy ⊢; exact ih _ _ _ hus hy
    · cases h
theorem sound_extract {o : Oper} {x : Operand} {i : Nat} (ho : o.op = .extract x i) {l : List AV} (hx : SV.val ρ (.tup l) = some (val x)) {y : AV} (hy : l[i]? = some y) : PlanSem P ρ val o (.val (.one y) []) := by
  obtain ⟨vs, h1, h2⟩ := tup_val hx
  obtain ⟨v, h3, h4⟩ := vals_get _ _ _ _ h1 hy
  refine sem_val (v := v) h3 fun w => ?_
  simp [execOp, ho, Instr.extract, h2, h4]

/-- All together: THE MODEL DOES WHAT THE PLAN SAYS. -/
theorem conc_rep {ρ : Rho} {l : List It} {vs : List Value} (h : conc ρ l = some vs) : ∀ n, conc ρ (List.replicate n l).flatten = some (List.replicate n vs).flatten := by
  intro n
  induction n with
  | zero => rfl
  | succ n ih => rw [List.replicate_succ, List.flatten_cons, List.replicate_succ, List.flatten_cons]; exact conc_append _ _ _ _ h ih
theorem rep_cells (vs : List Value) (n : Nat) : ((Array.range (n * vs.length)).map (fun i => (vs.toArray)[i % (vs.toArray).size]!)).toList = (List.replicate n vs).flatten := by
  have key : ∀ n, (List.range (n * vs.length)).map (fun i => (vs.toArray)[i % (vs.toArray).size]!) = (List.replicate n vs).flatten := by
    intro n
    induction n with
    | zero => simp
    | succ n ih =>
      rw [List.replicate_succ', List.flatten_append, List.flatten_singleton, ← ih, Nat.succ_mul]
      have : List.range (n * vs.length + vs.length) = List.range (n * vs.length) ++ (List.range vs.length).map (n * vs.length + ·) := List.range_add
      rw [this, List.map_append, List.map_map]
      congr 1
      apply List.ext_getElem
      · simp
      · intro i h1 h2
        simp only [List.getElem_map, List.getElem_range, Function.comp_apply, List.size_toArray]
        have : (n * vs.length + i) % vs.length = i := by
          rw [Nat.mul_comm, Nat.mul_add_mod]; exact Nat.mod_eq_of_lt h2
        rw [this]
        simp [h2]
  rw [← key n]
  simp
theorem sound_buildSlice (htab : ∀ t d, tab t = some d → TyOk P t d) (hev : ∀ x s, ev x = some s → s.val ρ = some (val x)) {o : Oper} {t : TypeId} {n : Nat} {ps : Array (Nat × Operand)} (ho : o.op = .buildSlice t n ps) {d : Ty} (ht : tab t = some d)
    {s : Nat} {l r : List It} (hsl : d.sl = some s) (hez : d.ez = some l) (hs : sizes l = s) (hn : n * s ≤ 16777216) (hr : fillIt { d with arr := some (n, s, true) } ev ((List.replicate n l).flatten) ps.toList = some r) : PlanSem P ρ val o (.new r (some n)) := by
  obtain ⟨i, u, hi, hu, _, _, _, _, _, hsd⟩ := (htab t d ht).facts
  obtain ⟨e, zs, hue, hz, hzp⟩ := (htab t d ht).ez l hez
  rw [hu] at hue
  cases hue
  rw [hsl] at hsd
  obtain ⟨e', ie, he, hie, hse⟩ := sl_some hsd
  cases he
  have hzl : zs.length = s := by rw [length_conc _ _ hz, hs]
  have hz' := conc_rep (conc_le (rho0_le ρ) _ _ hz) n
  obtain ⟨rs, h3, h4⟩ := fill_ok (place := fun i => some (i * s, s)) (fun i q hq => by unfold placeOf at hq; simpa using hq) hev ps.toList _ r _ hr hz'
  have hps : (ps.map fun (x : Nat × Operand) => (x.1, val x.2)).toList = ps.toList.map fun q => (q.1, val q.2) := by simp
  refine ⟨rs, e, h3, fun w => ?_⟩
  unfold zeroP at hzp
  simp only [hie] at hzp
  cases hzv : ie.zero with
  | none => simp [hzv] at hzp
  | some zv =>
    simp only [hzv, Option.some.injEq] at hzp
    have hzr : ∀ w, (zeroValue e).run P w = .ok zv w := fun w => by simp only [zeroValue, Sem.run_bind, run_typeInfo w hie, Result.andThen_ok, hzv, Sem.run_pure]
    have hzc : zv.cells = zs.toArray := by rw [← hzp]
    have hbig : ¬ n * s > 2 ^ 24 := by
      have : (2 : Nat) ^ 24 = 16777216 := by decide
      omega
    simp only [execOp, ho, Instr.buildSlice, Sem.run_bind, run_underlying hu, Result.andThen_ok, run_sizeOf' hie, hse, hbig, if_false, Sem.run_pure]
    by_cases h0 : n * s = 0
    · have e0 : (List.replicate n zs).flatten = [] := by
        have : ((List.replicate n zs).flatten).length = 0 := by simp [hzl, h0]
        exact List.length_eq_zero_iff.1 this
      rw [e0] at h4
      simp only [h0, if_true, Sem.run_bind, Sem.run_pure, Result.andThen_ok]
      rw [show ((fun (x : Nat × Operand) => match x with | (i, x) => (i, val x)) = fun (x : Nat × Operand) => (x.1, val x.2)) from rfl, hps]
      have e1 : (Array.range 0).map (fun i => (#[] : Array Value)[i % (#[] : Array Value).size]!) = ([] : List Value).toArray := by simp
      rw [e1, h4]
      simp only [newRow, Sem.run_bind, run_newObj, Result.andThen_ok, Sem.run_pure]
      rfl
    · have e1 : (Array.range (n * s)).map (fun i => (zs.toArray)[i % (zs.toArray).size]!) = ((List.replicate n zs).flatten).toArray := by
        have := rep_cells zs n
        rw [hzl] at this
        rw [← this]
      simp only [h0, if_false, hzr, Sem.run_bind, Result.andThen_ok, Sem.run_pure, hzc]
      rw [show ((fun (x : Nat × Operand) => match x with | (i, x) => (i, val x)) = fun (x : Nat × Operand) => (x.1, val x.2)) from rfl, hps, e1, h4]
      simp only [newRow, Sem.run_bind, run_newObj, Result.andThen_ok, Sem.run_pure]
      rfl
theorem sound_makeSlice (htab : ∀ t d, tab t = some d → TyOk P t d) {o : Oper} {t : TypeId} {x y : Operand} (ho : o.op = .makeSlice t x y) {d : Ty} (ht : tab t = some d)
    {s n : Nat} {l : List It} {k k' : IntKind} (hx : val x = .int k (n : Int)) (hy : val y = .int k' (n : Int)) (hsl : d.sl = some s) (hez : d.ez = some l) (hmk : d.mk8 = true) (hs : sizes l = s) (hn : n ≤ 1000000) : PlanSem P ρ val o (.new ((List.replicate n l).flatten) (some n)) := by
  obtain ⟨i, u, hi, hu, _, _, _, _, _, hsd⟩ := (htab t d ht).facts
  obtain ⟨e, zs, hue, hz, hzp⟩ := (htab t d ht).ez l hez
  obtain ⟨e2, i2, hu2, hi2, hby⟩ := (htab t d ht).mk8 hmk
  rw [hue] at hu2
  cases hu2
  rw [hu] at hue
  cases hue
  rw [hsl] at hsd
  obtain ⟨e', ie, he, hie, hse⟩ := sl_some hsd
  cases he
  have hby : ie.bytes ≤ 8 := by
    have := hie.symm.trans hi2
    cases this
    exact hby
  have hzl : zs.length = s := by rw [length_conc _ _ hz, hs]
  have hz' := conc_rep (conc_le (rho0_le ρ) _ _ hz) n
  unfold zeroP at hzp
  simp only [hie] at hzp
  cases hzv : ie.zero with
  | none => simp [hzv] at hzp
  | some zv =>
    simp only [hzv, Option.some.injEq] at hzp
    have hzc : zv.cells = zs.toArray := by rw [← hzp]
    refine ⟨(List.replicate n zs).flatten, e, hz', fun w => ?_⟩
    have hb : (ie.bytes : Int) * (n : Int) ≤ 281474976710656 := by
      have : ie.bytes * n ≤ 8 * 1000000 := Nat.mul_le_mul hby hn
      have h2 : ((ie.bytes * n : Nat) : Int) ≤ 281474976710656 := by omega
      rwa [Int.natCast_mul] at h2
    have hrun := run_make (P := P) w t e ie zv hu hie hzv k k' (n : Int) (n : Int) (by omega) (Int.le_refl _) hb (by omega)
    simp only [Int.toNat_natCast] at hrun
    have hcells : madeCells zv.cells (n * ie.size) = ((List.replicate n zs).flatten).toArray := by
      rw [← rep_cells zs n, hzc, hse, hzl]
      rfl
    rw [hcells] at hrun
    simp only [execOp, ho, hx, hy, Sem.run_bind, hrun, Result.andThen_ok, Sem.run_pure]
theorem opPlan_sound (htab : ∀ t d, tab t = some d → TyOk P t d) (hev : ∀ x s, ev x = some s → s.val ρ = some (val x)) {hint : Option Bool} {o : Oper} {p : Plan} (h : opPlan tab hint ev o.op = some p) : PlanSem P ρ val o p := by
  have mv : ∀ {x : Operand} {y : AV}, av ev x = some y → y.val ρ = some (val x) := fun h => av_val hev h
  cases ho : o.op <;> rw [ho] at h <;> simp only [opPlan] at h <;> try (cases h; done)
  case move x =>
    split at h
    · rename_i s hs; cases h
      exact sem_val (hev _ _ hs) fun w => by simp only [execOp, ho, Sem.run_pure]
    · cases h
  case assign x =>
    split at h
    · rename_i s hs; cases h
      exact sem_val (hev _ _ hs) fun w => by simp only [execOp, ho, Sem.run_pure]
    · cases h
  case pick c a b =>
    split at h
    · rename_i y hy
      split at h
      · rename_i hb
        split at h
        · rename_i s hs; cases h
          have := asBool_val hb (mv hy)
          exact sem_val (hev _ _ hs) fun w => by simp [execOp, ho, this, Go.asBool]
        · cases h
      · rename_i hb
        split at h
        · rename_i s hs; cases h
          have := asBool_val hb (mv hy)
          exact sem_val (hev _ _ hs) fun w => by simp [execOp, ho, this, Go.asBool]
        · cases h
      · cases h
    · cases h
  case alloc t =>
    split at h
    · rename_i d ht
      split at h
      · rename_i l hz; cases h; exact sound_alloc htab ho ht hz
      · cases h
    · cases h
  case box t x =>
    split at h
    · rename_i y hy; cases h; exact sound_box ho (mv hy)
    · cases h
  case build t ps =>
    split at h
    · rename_i d ht
      split at h
      · rename_i z hz
        split at h
        · rename_i hg
          split at h
          · rename_i r hr; cases h; exact sound_build htab hev ho ht hz hg hr
          · cases h
        · cases h
      · cases h
    · cases h
  case buildSlice t n ps =>
    split at h
    · rename_i d ht
      split at h
      · rename_i s l hsl hez
        split at h
        · rename_i hc
          split at h
          · rename_i r hr; cases h; exact sound_buildSlice htab hev ho ht hsl hez hc.1 hc.2 hr
          · cases h
        · cases h
      · cases h
    · cases h
  case makeSlice t x y =>
    split at h
    · rename_i x' y' d hx' hy' ht
      split at h
      · rename_i k a k' b s l hx hy hsl hez hmk
        split at h
        · rename_i n
          split at h
          · rename_i hc
            cases h
            obtain ⟨hb, hs, hn⟩ := hc
            subst hb
            exact sound_makeSlice htab ho ht (asInt_val hx (av_val hev hx')) (asInt_val hy (av_val hev hy')) hsl hez hmk hs hn
          · cases h
        · cases h
      · cases h
    · cases h
  case load t x =>
    split at h
    · rename_i y d hy ht
      split at h
      · rename_i id off hp
        cases h
        obtain ⟨q, hq, hx⟩ := asPtr_val hp (mv hy)
        exact sound_load htab ho ht hq hx
      · cases h
    · cases h
  case store t x y =>
    split at h
    · rename_i p' z d hp hz ht
      split at h
      · rename_i id off hpp
        split at h
        · rename_i hsz
          cases h
          obtain ⟨q, hq, hx⟩ := asPtr_val hpp (mv hp)
          exact sound_store htab ho ht hq hx (mv hz) hsz
        · cases h
      · cases h
    · cases h
  case nilCheck x =>
    split at h
    · rename_i y hy
      split at h
      · rename_i q hp; cases h; obtain ⟨id, off⟩ := q; exact sound_nilCheck ho (mv hy) hp
      · cases h
    · cases h
  case binOp op t x y u =>
    split at h
    · rename_i a b ha hb
      split at h
      · rename_i s ob hs
        cases h
        have hx := mv ha
        have hy := mv hb
        unfold binPlan at hs
        split at hs
        · rename_i k n k' m
          have ex := AV.val_one hx
          have ey := AV.val_one hy
          simp only [It.cs, Value.oneCell', Option.some.injEq, List.cons.injEq, and_true] at ex ey
          exact sound_intBin ho ex.symm ey.symm hs
        · rename_i n m
          have ex := AV.val_one hx
          have ey := AV.val_one hy
          simp only [It.cs, Value.oneCell', Option.some.injEq, List.cons.injEq, and_true] at ex ey
          split at hs
          · rename_i s' d hbb ht
            split at hs
            · rename_i hk; cases hs; exact sound_boolBin htab ho ht hk ex.symm ey.symm hbb
            · cases hs
          · cases hs
        · rename_i l m
          split at hs
          · rename_i d ht; exact sound_aggEq htab (.inl ⟨rfl, rfl⟩) ho ht hx hy hs
          · rename_i d ht; exact sound_aggEq htab (.inr ⟨rfl, rfl⟩) ho ht hx hy hs
          · cases hs
        · cases hs
      · cases h
    · cases h
  case unOp op t x =>
    split at h
    · rename_i y hy
      cases op <;> simp only at h <;> try (cases h; done)
      · split at h
        · rename_i k a hi
          cases h
          have := asInt_val hi (mv hy)
          exact sem_val (vI_val ρ _ _) fun w => by simp [execOp, ho, this, Op.unary, Op.intArith]
        · cases h
      · split at h
        · rename_i b hb
          cases h
          have := asBool_val hb (mv hy)
          exact sem_val (vB_val ρ _) fun w => by simp [execOp, ho, this, Op.unary]
        · cases h
    · cases h
  case convert src dst x =>
    split at h
    · rename_i y d' d hy hs ht
      split at h
      · rename_i k' a k hi hk
        cases h
        obtain ⟨_, u, _, hu, _, _, hik, _⟩ := (htab _ _ ht).facts
        obtain ⟨_, u', _, hu', _⟩ := (htab _ _ hs).facts
        rw [hk] at hik
        have hu2 : u = .int k := by
          unfold ikD at hik
          split at hik
          · cases hik; rfl
          · cases hik
        subst hu2
        have := asInt_val hi (mv hy)
        exact sem_val (vI_val ρ _ _) fun w => by simp [execOp, ho, this, convert, run_underlying hu, run_underlying hu', Conv.intToInt]
      · cases h
    · cases h
  case sliceToArrayPointer t x =>
    split at h
    · rename_i id off len cap d hx ht
      split at h
      · rename_i n s g ha
        split at h
        · rename_i hn
          cases h
          obtain ⟨q, hq, hv⟩ := slice_val (mv hx)
          exact sound_sliceToArrayPointer htab ho ht ha hq hv hn
        · cases h
      · cases h
    · cases h
  case makeFunc fn first caps =>
    cases fn <;> simp only at h <;> try (cases h; done)
    split at h
    · rename_i h0
      split at h
      · rename_i qs hq; cases h; exact sound_makeFunc hev ho h0 hq
      · cases h
    · cases h
  case slice t x lo hi mx =>
    cases mx <;> simp only at h <;> try (cases h; done)
    split at h
    · rename_i y d hy ht
      split at h
      · rename_i id off n s g ha
        split at h
        · rename_i l hh hl hhh
          split at h
          · rename_i hb
            cases h
            obtain ⟨q, hq, hx⟩ := asPtr_val (id := id) (off := off) rfl (mv hy)
            exact sound_sliceArr htab hev ho ht ha hq hx hl hhh hb.1 hb.2
          · cases h
        · cases h
      · rename_i id off len cap s ha hs
        split at h
        · rename_i l hh hl hhh
          split at h
          · rename_i hb
            cases h
            obtain ⟨q, hq, hx⟩ := slice_val (mv hy)
            exact sound_sliceSl htab hev ho ht hs hq hx hl hhh hb.1 hb.2
          · cases h
        · cases h
      · cases h
    · cases h
  case fieldAddr t x i =>
    split at h
    · rename_i y d hy ht
      split at h
      · rename_i id off off' s g hp hf
        split at h
        · rename_i hs
          cases h
          obtain ⟨q, hq, hx⟩ := asPtr_val hp (mv hy)
          exact sound_fieldAddr htab ho ht hf hs hq hx
        · cases h
      · cases h
    · cases h
  case field t x i =>
    split at h
    · rename_i l d hx ht
      split at h
      · rename_i off s g hf
        split at h
        · rename_i r hr; cases h; exact sound_field htab ho ht hf (mv hx) hr
        · cases h
      · cases h
    · cases h
  case indexAddr t x i =>
    split at h
    · rename_i y j d hy hj ht
      split at h
      · rename_i id off n s g ha
        split at h
        · rename_i q hq
          cases h
          obtain ⟨q', hq', hx⟩ := asPtr_val (id := id) (off := off) rfl (mv hy)
          obtain ⟨k, hk, hlt⟩ := index_ok hq (mv hj)
          exact sound_indexArr htab ho ht ha hq' hx hk hlt
        · cases h
      · rename_i id off len cap s ha hs
        split at h
        · split at h
          · rename_i k n hn
            cases h
            obtain ⟨q', hq', hx⟩ := slice_val (mv hy)
            intro hob
            have hb := hob _ (List.mem_singleton.2 rfl)
            have hk := asInt_val hn (mv hj)
            exact sound_indexSl htab ho ht hs hq' hx (k := k) (j := n.toNat) (by rw [hk, Int.toNat_of_nonneg hb.1]) (by omega) (fun p hp => by cases hp)
          · cases h
        · split at h
          · rename_i q hq
            cases h
            obtain ⟨q', hq', hx⟩ := slice_val (mv hy)
            obtain ⟨k, hk, hlt⟩ := index_ok hq (mv hj)
            exact sound_indexSl htab ho ht hs hq' hx hk hlt
          · cases h
      · cases h
    · cases h
  case index t x i =>
    split at h
    · rename_i z j d hx hj ht
      split at h
      · rename_i k n hstr hn
        split at h
        · rename_i b hb
          cases h
          have hu := (htab t d ht).str hstr
          have hx2 := AV.val_one (ρ := ρ) (mv hx)
          have hx3 : val x = .string z := by
            simp only [It.cs] at hx2
            split at hx2
            · simp only [Option.some.injEq, List.cons.injEq, and_true] at hx2; exact hx2.symm
            · cases hx2
          have hi := asInt_val hn (mv hj)
          exact sem_val (vI_val _ _ _) fun w => by simp only [execOp, ho, Instr.index, Sem.run_bind, hi, asIntOf, Sem.run_pure, Result.andThen_ok, run_underlying hu, hx3, hb]
        · cases h
      · cases h
    · rename_i l j d hx hj ht
      split at h
      · rename_i n s g ha
        split at h
        · rename_i q hq
          split at h
          · rename_i r hr
            cases h
            obtain ⟨k, hk, hlt⟩ := index_ok hq (mv hj)
            exact sound_index htab ho ht ha (mv hx) hk hlt hr
          · cases h
        · cases h
      · cases h
    · cases h
  case extract x i =>
    split at h
    · rename_i l hl
      split at h
      · rename_i y hy; cases h; exact sound_extract ho (hev _ _ hl) hy
      · cases h
    · cases h
  case call c =>
    unfold callPlan at h
    split at h
    · rename_i f hc
      split at h
      · rename_i fn caps args hf ha; cases h; exact sound_call hev ho hc hf ha
      · cases h
    · rename_i hc
      split at h
      · rename_i x t h1 h2
        split at h
        · rename_i id off len cap d hx ht
          split at h
          · rename_i s hs
            cases h
            obtain ⟨q, hq, hv⟩ := slice_val (mv hx)
            exact sound_len htab ho hc h1 h2 ht hs hv
          · cases h
        · rename_i a len cap d hx ht
          split at h
          · rename_i s hs
            cases h
            have ex := AV.val_one (mv hx)
            simp only [It.cs, Value.oneCell', Option.some.injEq, List.cons.injEq, and_true] at ex
            exact sound_len htab ho hc h1 h2 ht hs ex.symm
          · cases h
        · rename_i id len d hx ht
          split at h
          · rename_i s hs
            cases h
            obtain ⟨q, hq, hv⟩ := cslice_val (mv hx)
            exact sound_len htab ho hc h1 h2 ht hs hv
          · cases h
        · cases h
      · cases h
    · rename_i hc
      split at h
      · rename_i x y h1
        split at h
        · rename_i a b ha hb
          split at h
          · rename_i k n k' m hi hj
            cases h
            exact sound_max ho hc h1 (asInt_val hi (mv ha)) (asInt_val hj (mv hb))
          · cases h
        · cases h
      · cases h
    · rename_i hc
      split at h
      · rename_i x y t ts h1 h2
        split at h
        · rename_i did doff dlen dcap sid soff slen scap d hx hy ht
          split at h
          · rename_i s hs
            cases h
            obtain ⟨qd, hqd, hvd⟩ := slice_val (mv hx)
            obtain ⟨qs, hqs, hvs⟩ := slice_val (mv hy)
            exact sound_copy htab ho hc h1 h2 ht hs hqd hqs hvd hvs
          · cases h
        · cases h
      · cases h
    · rename_i hc
      split at h
      · rename_i x t ts h1 h2
        split at h
        · rename_i id off len cap d hx ht
          split at h
          · rename_i i hs
            cases h
            obtain ⟨q, hq, hv⟩ := slice_val (mv hx)
            exact sound_clear htab ho hc h1 h2 ht hs hq hv
          · cases h
        · cases h
      · cases h
    · rename_i hc
      split at h
      · rename_i x y t t' h1 h2
        split at h
        · rename_i xid xoff xlen xcap yid yoff m ycap d hx hy ht
          split at h
          · rename_i hty hsm
            cases h
            rw [Bool.and_eq_true, decide_eq_true_eq, decide_eq_true_eq] at hsm
            obtain ⟨qd, hqd, hvd⟩ := slice_val (mv hx)
            obtain ⟨qs, hqs, hvs⟩ := slice_val (mv hy)
            exact sound_app0 htab ho hc h1 h2 ht hty hqd hqs hvd hvs hsm.1 hsm.2
          · cases h
        · rename_i xid xlen yid yoff m ycap d hx hy ht
          split at h
          · rename_i hty hsm
            cases h
            rw [decide_eq_true_eq] at hsm
            obtain ⟨qd, hqd, hvd⟩ := cslice_val (mv hx)
            obtain ⟨qs, hqs, hvs⟩ := slice_val (mv hy)
            exact sound_app1 htab ho hc h1 h2 ht hty hqd hqs hvd hvs hsm
          · cases h
        · cases h
      · cases h
    · cases h
end
end Go.Eng
/-
  THE ENGINE, part G: one operation on a state: what it reads and writes; that it hangs on what it reads alone; that the model's operation does the same.
-/
namespace Go.Eng
open Go Go.RowKit

/-! ### calls -/
structure Out where
  val : SV
  wr : List (Nat × List It)
  news : List (Nat × List It)
  ob : List Prop
abbrev CallT := FuncId → List AV → St → Nat → Option Out
def blkW (l : List (Nat × List It)) : List (Nat × Ct) := l.map fun p => (2 * p.1 + 1, .bl p.2)
/-- A function is called and hands back a value: a Go function, or one that the model stands in for. -/
def Invoked (P : Program) (f : FuncId) (args : Array Value) (w : World) (R : Value → World → Prop) : Prop :=
  (∃ v, (callFunc f args).run P w = .ok (.value v) w ∧ R v w) ∨
  ((callFunc f args).run P w = .ok (.enter f args) w ∧ Calls P f args w fun e w' => ∃ v, e = .returned v ∧ R v w')
theorem Invoked.mono {P : Program} {f : FuncId} {args : Array Value} {w : World} {R R' : Value → World → Prop} (h : Invoked P f args w R) (hr : ∀ v w', R v w' → R' v w') : Invoked P f args w R' := by
  rcases h with ⟨v, h1, h2⟩ | ⟨h1, h2⟩
  · exact .inl ⟨v, h1, hr _ _ h2⟩
  · exact .inr ⟨h1, h2.mono fun e w' ⟨v, he, hR⟩ => ⟨v, he, hr _ _ hR⟩⟩
/-- A memory: the blocks that a call may look at. -/
structure Mem (ρ : Rho) (m : St) (w : World) : Prop where
  ok : MemOk ρ m.blk w
  inj : Inj ρ m.blk
  dom : ∀ id q, ρ id = some q → ∃ l, m.blk id = some l
def CallOk (P : Program) (call : CallT) : Prop := ∀ (f : FuncId) (args : List AV) (m : St) (nid : Nat) (out : Out), call f args m nid = some out → (∀ p ∈ out.ob, p) →
  ∀ (ρ : Rho) (w : World) (vs : List Value), vals ρ args = some vs → Mem ρ m w → (∀ p ∈ out.news, m.blk p.1 = none) →
    Invoked P f vs.toArray w fun v w' => ∃ ρ', Ext ρ w ρ' w' ∧ out.val.val ρ' = some v ∧ Mem ρ' (puts m (blkW (out.wr ++ out.news))) w'

theorem puts_append {α : Type} (e f : List (Nat × α)) : ∀ l, puts l (e ++ f) = puts (puts l e) f := by
  induction e with
  | nil => intro l; rfl
  | cons p e ih => intro l; obtain ⟨k, v⟩ := p; simp only [List.cons_append, puts, ih]
theorem slot_blkW (l : List (Nat × List It)) : ∀ (st : St) (t : Nat), St.slot (puts st (blkW l)) t = st.slot t := by
  induction l with
  | nil => intro st t; rfl
  | cons p l ih =>
    intro st t
    have := ih (puts st [(2 * p.1 + 1, .bl p.2)]) t
    rw [slot_put_blk] at this
    exact this
/-- The block's cells behind such writes. -/
def lastB : List (Nat × List It) → Nat → Option (List It)
  | [], _ => none
  | p :: l, id => match lastB l id with
    | some r => some r
    | none => if p.1 = id then some p.2 else none
theorem blk_blkW (l : List (Nat × List It)) : ∀ (st : St) (id : Nat), St.blk (puts st (blkW l)) id = match lastB l id with | some r => some r | none => st.blk id := by
  induction l with
  | nil => intro st id; rfl
  | cons p l ih =>
    intro st id
    have := ih (puts st [(2 * p.1 + 1, .bl p.2)]) id
    rw [blk_put_blk] at this
    simp only [lastB]
    refine this.trans ?_
    cases lastB l id with
    | some r => rfl
    | none => by_cases h : p.1 = id <;> simp [h]
theorem lastB_mem : ∀ (l : List (Nat × List It)) (id : Nat) (r : List It), lastB l id = some r → ∃ p ∈ l, p.1 = id := by
  intro l
  induction l with
  | nil => intro id r h; cases h
  | cons p l ih =>
    intro id r h
    simp only [lastB] at h
    cases hl : lastB l id with
    | some u => obtain ⟨q, hq, e⟩ := ih id u hl; exact ⟨q, by simp [hq], e⟩
    | none =>
      simp only [hl] at h
      split at h
      · rename_i e; exact ⟨p, by simp, e⟩
      · cases h
/-- An append's block that another append has taken over. -/
def gone (id : Nat) (l : List It) : Bool := app id && Nat.beq (sizes l) 0
def St.kept (st : St) (id : Nat) : Option (List It) := match st.blk id with
  | some b => (match gone id b with
    | true => none
    | false => some b)
  | none => none
theorem kept_blk {st : St} {id : Nat} {l : List It} (h : st.kept id = some l) : st.blk id = some l ∧ gone id l = false := by
  unfold St.kept at h
  split at h
  · rename_i b hb
    split at h
    · cases h
    · rename_i hg; cases h; exact ⟨hb, hg⟩
  · cases h
theorem kept_mk {st : St} {id : Nat} {l : List It} (h : st.blk id = some l) (hg : gone id l = false) : st.kept id = some l := by
  unfold St.kept
  rw [h]
  simp only [hg]
theorem live_kept {st : St} {id : Nat} {l : List It} (h : st.kept id = some l) (ho : own id = true ∨ app id = true) : Live id l := by
  rcases ho with ho | ho
  · exact .inl ho
  · have hg := (kept_blk h).2
    unfold gone at hg
    rw [ho, Bool.true_and] at hg
    exact .inr fun e => by rw [e] at hg; cases hg
/-- The part of the memory that is handed on. -/
def memOf (st : St) : List Nat → St
  | [] => []
  | id :: l => match st.kept id with
    | some b => (2 * id + 1, .bl b) :: memOf st l
    | none => memOf st l
theorem blk_memOf (st : St) : ∀ (l : List Nat) (id : Nat), (memOf st l).blk id = if id ∈ l then st.kept id else none := by
  intro l
  induction l with
  | nil => intro id; rfl
  | cons j l ih =>
    intro id
    simp only [memOf]
    cases hj : st.kept j with
    | none =>
      simp only [ih id]
      by_cases h : id = j
      · subst h; simp [hj]
      · simp [h]
    | some b =>
      by_cases h : id = j
      · subst h
        simp only [St.blk, look, beq_self_eq_true, if_true, List.mem_cons, true_or]
        exact hj.symm
      · have : ¬ 2 * j + 1 = 2 * id + 1 := by omega
        have e : St.blk ((2 * j + 1, .bl b) :: memOf st l) id = (memOf st l).blk id := by
          simp only [St.blk, look, beq_iff_eq, this, if_false]
        rw [e, ih id]
        simp [h]
theorem some_memOf {st : St} {ids : List Nat} {id : Nat} (h : ((memOf st ids).blk id).isSome = true) : ∃ l, st.kept id = some l ∧ (memOf st ids).blk id = some l := by
  obtain ⟨l, hl⟩ := Option.isSome_iff_exists.1 h
  have := hl
  rw [blk_memOf] at this
  split at this
  · exact ⟨l, this, hl⟩
  · cases this

theorem Sim.call {ρ : Rho} {N : Nat} {st : St} {a : Act} {w w' : World} (h : Sim ρ N st a w) {ids : List Nat} {wr news : List (Nat × List It)} {ρ' : Rho}
    (hE : Ext (fun id => if ((memOf st ids).blk id).isSome then ρ id else none) w ρ' w') (hM : Mem ρ' (puts (memOf st ids) (blkW (wr ++ news))) w')
    (hwr : ∀ p ∈ wr, ((memOf st ids).blk p.1).isSome = true ∧ (own p.1 = true ∨ app p.1 = true)) (hnew : ∀ p ∈ news, st.blk p.1 = none) :
    ∃ ρ'', Ext ρ w ρ'' w' ∧ ρ'.le ρ'' ∧ Sim ρ'' N (puts st (blkW (wr ++ news))) a w' := by
  have hb := fun id => blk_memOf st ids id
  have old : ∀ id q, ρ' id = some q → ∀ q', ρ id = some q' → ((memOf st ids).blk id).isSome = true ∧ q = q' := by
    intro id q h1 q' h2
    obtain ⟨l, hl⟩ := hM.dom id q h1
    have his : ((memOf st ids).blk id).isSome = true := by
      rw [blk_blkW] at hl
      cases hlast : lastB (wr ++ news) id with
      | none => simp only [hlast] at hl; simp [hl]
      | some r =>
        obtain ⟨p, hp, e⟩ := lastB_mem _ _ _ hlast
        rcases List.mem_append.1 hp with hp | hp
        · have := (hwr p hp).1; rw [e] at this; exact this
        · have := hnew p hp
          rw [e] at this
          obtain ⟨l', hl'⟩ := h.dom id q' h2
          rw [this] at hl'; cases hl'
    refine ⟨his, ?_⟩
    have := hE.le id q' (by simp [his, h2])
    rw [h1] at this
    exact Option.some.inj this
  have le1 : ρ'.le (fun id => match ρ id with | some q => some q | none => ρ' id) := by
    intro id q hq
    simp only
    cases h0 : ρ id with
    | none => exact hq
    | some q' => rw [(old id q hq q' h0).2]
  have le2 : ρ.le (fun id => match ρ id with | some q => some q | none => ρ' id) := by
    intro id q hq
    simp only [hq]
  have sub : ∀ id q, (if ((memOf st ids).blk id).isSome then ρ id else none) = some q → ρ id = some q ∧ ((memOf st ids).blk id).isSome = true := by
    intro id q hq
    split at hq
    · rename_i his; exact ⟨hq, his⟩
    · cases hq
  have newb : ∀ id b o, ρ id = none → ρ' id = some (b, o) → w.heap.size ≤ b ∨ Own (fun id => if ((memOf st ids).blk id).isSome then ρ id else none) b := fun id b o h0 h1 => hE.new id b o (by simp [h0]) h1
  have kept : ∀ b, b < w.heap.size → ¬ Own (fun id => if ((memOf st ids).blk id).isSome then ρ id else none) b → w'.heap[b]? = w.heap[b]? := hE.keep.block
  -- a block that is known before: what it held was told, if what it holds is
  have before : ∀ id q l, ρ id = some q → St.blk (puts st (blkW (wr ++ news))) id = some l → Live id l → ∃ l0, st.blk id = some l0 ∧ Live id l0 := by
    intro id q l hq hl hlv
    rw [blk_blkW] at hl
    cases hlast : lastB (wr ++ news) id with
    | none => rw [hlast] at hl; exact ⟨l, hl, hlv⟩
    | some r =>
      obtain ⟨p, hp, e⟩ := lastB_mem _ _ _ hlast
      rcases List.mem_append.1 hp with hp | hp
      · obtain ⟨h1, h2⟩ := hwr p hp
        rw [e] at h1 h2
        obtain ⟨l0, h3, _⟩ := some_memOf h1
        exact ⟨l0, (kept_blk h3).1, live_kept h3 h2⟩
      · have := hnew p hp
        rw [e] at this
        obtain ⟨l', hl'⟩ := h.dom id q hq
        rw [this] at hl'; cases hl'
  -- what is handed on, or new, holds there what it holds here
  have same : ∀ id l, (((memOf st ids).blk id).isSome = true ∨ ρ id = none) → St.blk (puts st (blkW (wr ++ news))) id = some l → St.blk (puts (memOf st ids) (blkW (wr ++ news))) id = some l := by
    intro id l hid hl
    rw [blk_blkW] at hl ⊢
    cases hlast : lastB (wr ++ news) id with
    | some r => rw [hlast] at hl; exact hl
    | none =>
      rw [hlast] at hl
      simp only at hl ⊢
      rcases hid with hid | hid
      · obtain ⟨l0, h3, h4⟩ := some_memOf hid
        rw [h4, ← (kept_blk h3).1]; exact hl
      · obtain ⟨b, o, vs, h1, _⟩ := h.mem.blk id l hl
        rw [hid] at h1; cases h1
  -- a new name for a block that is known before: the other one was handed on
  have clash : ∀ id b o l, ρ id = some (b, o) → St.blk (puts st (blkW (wr ++ news))) id = some l → Live id l → (w.heap.size ≤ b ∨ Own (fun id => if ((memOf st ids).blk id).isSome then ρ id else none) b) → ((memOf st ids).blk id).isSome = true := by
    intro id b o l hq hl hlv hb
    rcases hb with hb | ⟨id0, o0, ho0, hq0⟩
    · have := h.lt hq; omega
    · obtain ⟨h1, h2⟩ := sub _ _ hq0
      obtain ⟨l0, h3, _⟩ := some_memOf h2
      obtain ⟨k0, h5, h6⟩ := before id _ l hq hl hlv
      have := h.inj.inj id0 id b o0 o l0 k0 ho0 (kept_blk h3).1 h5 (live_kept h3 ho0) h6 h1 hq
      subst this
      exact h2
  refine ⟨_, ⟨le2, ?_, ?_⟩, le1, ?_⟩
  · intro id b o h0 h1
    simp only [h0] at h1
    rcases newb id b o h0 h1 with h3 | ⟨id2, o2, ho2, hq2⟩
    · exact .inl h3
    · exact .inr ⟨id2, o2, ho2, (sub _ _ hq2).1⟩
  · refine ⟨hE.keep.os, hE.keep.tape, hE.keep.output, hE.keep.size, fun k hk hD => kept k hk ?_⟩
    rintro ⟨id, o, ho, hq⟩
    exact hD ⟨id, o, ho, (sub _ _ hq).1⟩
  · constructor
    · intro t x hx
      rw [slot_blkW] at hx
      exact SV.val_le le2 _ _ (h.slots t x hx)
    · exact h.size
    · constructor
      intro id l hl
      by_cases hin : ((memOf st ids).blk id).isSome = true
      · obtain ⟨b, o, vs, h1, h2, h3⟩ := hM.ok.blk id l (same id l (.inl hin) hl)
        exact ⟨b, o, vs, le1 _ _ h1, conc_le le1 _ _ h2, h3⟩
      · rw [blk_blkW] at hl
        cases hlast : lastB (wr ++ news) id with
        | some r =>
          simp only [hlast, Option.some.injEq] at hl
          subst hl
          obtain ⟨b, o, vs, h1, h2, h3⟩ := hM.ok.blk id r (by rw [blk_blkW, hlast])
          exact ⟨b, o, vs, le1 _ _ h1, conc_le le1 _ _ h2, h3⟩
        | none =>
          simp only [hlast] at hl
          obtain ⟨b, o, vs, h1, h2, h3⟩ := h.mem.blk id l hl
          by_cases hlv : Live id l
          · refine ⟨b, o, vs, le2 _ _ h1, conc_le le2 _ _ h2, h3.of_kept hE.keep.size (kept b h3.1 ?_)⟩
            rintro ⟨id', o', ho', hq'⟩
            obtain ⟨h4, h5⟩ := sub _ _ hq'
            obtain ⟨l0, h6, _⟩ := some_memOf h5
            have := h.inj.inj id' id b o' o l0 l ho' (kept_blk h6).1 hl (live_kept h6 ho') hlv h4 h1
            subst this
            exact hin h5
          · exact ⟨b, o, vs, le2 _ _ h1, conc_le le2 _ _ h2, blkOk_dead hlv h2 h3 hE.keep.size⟩
    · constructor
      intro id id' b o o' l l' ho m1 m2 l1 l2 h1 h2
      cases e1 : ρ id with
      | some q1 =>
        simp only [e1, Option.some.injEq] at h1
        subst h1
        cases e2 : ρ id' with
        | some q2 =>
          simp only [e2, Option.some.injEq] at h2
          subst h2
          obtain ⟨k0, a1, a2⟩ := before id _ l e1 m1 l1
          obtain ⟨k0', a3, a4⟩ := before id' _ l' e2 m2 l2
          exact h.inj.inj id id' b o o' k0 k0' ho a1 a3 a2 a4 e1 e2
        | none =>
          simp only [e2] at h2
          have hin := clash id b o l e1 m1 l1 (newb id' b o' e2 h2)
          exact hM.inj.inj id id' b o o' l l' ho (same id l (.inl hin) m1) (same id' l' (.inr e2) m2) l1 l2 (hE.le id _ (by simp only [hin, if_true]; exact e1)) h2
      | none =>
        simp only [e1] at h1
        cases e2 : ρ id' with
        | some q2 =>
          simp only [e2, Option.some.injEq] at h2
          subst h2
          have hin := clash id' b o' l' e2 m2 l2 (newb id b o e1 h1)
          exact hM.inj.inj id id' b o o' l l' ho (same id l (.inr e1) m1) (same id' l' (.inl hin) m2) l1 l2 h1 (hE.le id' _ (by simp only [hin, if_true]; exact e2))
        | none =>
          simp only [e2] at h2
          exact hM.inj.inj id id' b o o' l l' ho (same id l (.inr e1) m1) (same id' l' (.inr e2) m2) l1 l2 h1 h2
    · intro id q hq
      rw [blk_blkW]
      cases hlast : lastB (wr ++ news) id with
      | some r => exact ⟨r, rfl⟩
      | none =>
        cases e1 : ρ id with
        | some q1 => exact h.dom id q1 e1
        | none =>
          simp only [e1] at hq
          obtain ⟨l, hl⟩ := hM.dom id q hq
          rw [blk_blkW, hlast, hb] at hl
          simp only at hl
          split at hl
          · exact ⟨l, (kept_blk hl).1⟩
          · cases hl
    · exact h.calm
/-- The blocks that a row of cells names. -/
def idsIt : List It → List Nat
  | [] => []
  | .p id _ :: l => id :: idsIt l
  | .s id _ _ _ :: l => id :: idsIt l
  | .f _ caps :: l => caps.map (·.1) ++ idsIt l
  | .c id _ :: l => id :: idsIt l
  | .v _ :: l => idsIt l
  | .w _ _ :: l => idsIt l
def idsAV : List AV → List Nat
  | [] => []
  | x :: l => idsIt x.its ++ idsAV l
theorem capVals_on {ρ ρ' : Rho} : ∀ (l : List (Nat × Nat)) (vs : List Value), (∀ id ∈ l.map (·.1), ∀ q, ρ id = some q → ρ' id = some q) → capVals ρ l = some vs → capVals ρ' l = some vs := by
  intro l
  induction l with
  | nil => intro vs _ h; exact h
  | cons c l ih =>
    intro vs hon h
    simp only [capVals] at h ⊢
    split at h
    · rename_i q us hq hus
      rw [hon c.1 (by simp) q hq, ih us (fun id hid => hon id (by simp only [List.map_cons, List.mem_cons]; exact .inr hid)) hus]
      exact h
    · cases h
theorem conc_on {ρ ρ' : Rho} : ∀ (l : List It) (vs : List Value), (∀ id ∈ idsIt l, ∀ q, ρ id = some q → ρ' id = some q) → conc ρ l = some vs → conc ρ' l = some vs := by
  intro l
  induction l with
  | nil => intro vs _ h; exact h
  | cons i l ih =>
    intro vs hon h
    obtain ⟨a, b, ha, hb, rfl⟩ := conc_cons h
    cases i with
    | v x => exact conc_mk ha (ih b (fun id hid => hon id hid) hb)
    | w k n => exact conc_mk ha (ih b (fun id hid => hon id hid) hb)
    | p id off =>
      refine conc_mk ?_ (ih b (fun j hj => hon j (by simp [idsIt, hj])) hb)
      simp only [It.cs] at ha ⊢
      split at ha
      · rename_i q hq; rw [hon id (by simp [idsIt]) q hq]; exact ha
      · cases ha
    | s id off len cap =>
      refine conc_mk ?_ (ih b (fun j hj => hon j (by simp [idsIt, hj])) hb)
      simp only [It.cs] at ha ⊢
      split at ha
      · rename_i q hq; rw [hon id (by simp [idsIt]) q hq]; exact ha
      · cases ha
    | f fn caps =>
      refine conc_mk ?_ (ih b (fun j hj => hon j (by simp [idsIt, hj])) hb)
      simp only [It.cs] at ha ⊢
      split at ha
      · rename_i us hus
        rw [capVals_on caps us (fun j hj => hon j (by simp only [idsIt, List.mem_append]; exact .inl hj)) hus]; exact ha
      · cases ha
    | c id len =>
      refine conc_mk ?_ (ih b (fun j hj => hon j (by simp [idsIt, hj])) hb)
      simp only [It.cs] at ha ⊢
      split at ha
      · rename_i q hq; rw [hon id (by simp [idsIt]) q hq]; exact ha
      · cases ha
theorem AV.val_on {ρ ρ' : Rho} {x : AV} {v : Value} (hon : ∀ id ∈ idsIt x.its, ∀ q, ρ id = some q → ρ' id = some q) (h : x.val ρ = some v) : x.val ρ' = some v := by
  unfold AV.val at h ⊢
  cases hc : conc ρ x.its with
  | none => simp [hc] at h
  | some vs => rw [hc] at h; rw [conc_on _ _ hon hc]; exact h
theorem vals_on {ρ ρ' : Rho} : ∀ (l : List AV) (vs : List Value), (∀ id ∈ idsAV l, ∀ q, ρ id = some q → ρ' id = some q) → vals ρ l = some vs → vals ρ' l = some vs := by
  intro l
  induction l with
  | nil => intro vs _ h; exact h
  | cons x l ih =>
    intro vs hon h
    simp only [vals] at h ⊢
    split at h
    · rename_i v us hv hus
      rw [AV.val_on (fun id hid => hon id (by simp [idsAV, hid])) hv, ih us (fun id hid => hon id (by simp [idsAV, hid])) hus]; exact h
    · cases h
def keptB (st : St) (id : Nat) : Bool := match st.blk id with
  | some l => !(gone id l)
  | none => true
/-- What is handed on names nothing that is not. -/
def closedB (st : St) (as ids : List Nat) : Bool := as.all (keptB st) && ids.all fun id => match st.kept id with
  | some l => (idsIt l).all fun j => ids.contains j && keptB st j
  | none => true
theorem Sim.on {ρ : Rho} {N : Nat} {st : St} {a : Act} {w : World} (h : Sim ρ N st a w) {ids : List Nat} {id : Nat} (hid : id ∈ ids) (hk : keptB st id = true) {q : Nat × Nat} (hq : ρ id = some q) :
    (fun id => if ((memOf st ids).blk id).isSome then ρ id else none) id = some q := by
  obtain ⟨l, hl⟩ := h.dom id q hq
  have : st.kept id = some l := kept_mk hl (by unfold keptB at hk; rw [hl] at hk; simpa using hk)
  simp only [blk_memOf, if_pos hid, this, Option.isSome_some, if_true, hq]
theorem Sim.handed {ρ : Rho} {N : Nat} {st : St} {a : Act} {w : World} (h : Sim ρ N st a w) (as ids : List Nat) (hcl : closedB st as ids = true) : Mem (fun id => if ((memOf st ids).blk id).isSome then ρ id else none) (memOf st ids) w := by
  have hb := fun id => blk_memOf st ids id
  have sub : ∀ id q, (if ((memOf st ids).blk id).isSome then ρ id else none) = some q → ρ id = some q := by
    intro id q hq; split at hq
    · exact hq
    · cases hq
  have blk : ∀ id l, (memOf st ids).blk id = some l → id ∈ ids ∧ st.kept id = some l := by
    intro id l hl
    rw [hb] at hl
    split at hl
    · rename_i hin; exact ⟨hin, hl⟩
    · cases hl
  unfold closedB at hcl
  rw [Bool.and_eq_true] at hcl
  refine ⟨⟨fun id l hl => ?_⟩, ⟨fun id id' b o o' l l' ho m1 m2 l1 l2 h1 h2 => h.inj.inj id id' b o o' l l' ho (kept_blk (blk _ _ m1).2).1 (kept_blk (blk _ _ m2).2).1 l1 l2 (sub _ _ h1) (sub _ _ h2)⟩, fun id q hq => ?_⟩
  · obtain ⟨hin, hk⟩ := blk id l hl
    obtain ⟨hk1, hk2⟩ := kept_blk hk
    obtain ⟨b, o, vs, h1, h2, h3⟩ := h.mem.blk id l hk1
    refine ⟨b, o, vs, h.on hin (by unfold keptB; rw [hk1]; simp [hk2]) h1, conc_on l vs (fun j hj q hq => ?_) h2, h3⟩
    have hcl := hcl.2
    rw [List.all_eq_true] at hcl
    have := hcl id hin
    simp only [hk, List.all_eq_true] at this
    have := this j hj
    rw [Bool.and_eq_true] at this
    exact h.on (by simpa using this.1) this.2 hq
  · split at hq
    · rename_i his; exact Option.isSome_iff_exists.1 his
    · cases hq
end Go.Eng
