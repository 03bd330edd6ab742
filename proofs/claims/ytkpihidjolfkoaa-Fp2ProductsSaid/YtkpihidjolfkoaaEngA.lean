/-
  THE ENGINE, part A: a map by keys (slots and blocks), effects, and: whatever order a region's operations come up in, so long as it keeps the edges, the state comes out as in the text's order.
-/
import Derived.Orders
namespace Go.Eng
open Go

/-! ### a map by keys -/
section
variable {α : Type}
def look : List (Nat × α) → Nat → Option α
  | [], _ => none
  | (k, v) :: l, x => if k == x then some v else look l x
def upd : List (Nat × α) → Nat → α → List (Nat × α)
  | [], k, v => [(k, v)]
  | (k', v') :: l, k, v => if k' == k then (k, v) :: l else (k', v') :: upd l k v
theorem look_upd (l : List (Nat × α)) (k : Nat) (v : α) (x : Nat) : look (upd l k v) x = if k = x then some v else look l x := by
  induction l with
  | nil => simp [upd, look]
  | cons p l ih =>
    obtain ⟨k', v'⟩ := p
    by_cases h : k' = k
    · subst h
      by_cases hx : k' = x
      · simp [upd, look, hx]
      · simp [upd, look, hx]
    · by_cases hx : k' = x
      · subst hx
        have : ¬ k = k' := fun e => h e.symm
        simp [upd, look, h, this]
      · simp only [upd, beq_iff_eq, h, if_false, look, hx, ih]
def puts (l : List (Nat × α)) : List (Nat × α) → List (Nat × α)
  | [] => l
  | (k, v) :: e => puts (upd l k v) e
/-- What a list of writes says of a key: the last one counts. -/
def last : List (Nat × α) → Nat → Option α
  | [], _ => none
  | (k, v) :: e, x => match last e x with
    | some u => some u
    | none => if k = x then some v else none
theorem look_puts (e : List (Nat × α)) : ∀ (l : List (Nat × α)) (x : Nat), look (puts l e) x = match last e x with | some u => some u | none => look l x := by
  induction e with
  | nil => intro l x; rfl
  | cons p e ih =>
    intro l x
    obtain ⟨k, v⟩ := p
    simp only [puts, ih, last]
    cases h : last e x with
    | some u => rfl
    | none =>
      simp only [look_upd]
      by_cases hk : k = x <;> simp [hk]
def keys (e : List (Nat × α)) : List Nat := e.map (·.1)
theorem last_none {e : List (Nat × α)} {x : Nat} (h : x ∉ keys e) : last e x = none := by
  induction e with
  | nil => rfl
  | cons p e ih =>
    obtain ⟨k, v⟩ := p
    simp only [keys, List.map_cons, List.mem_cons, not_or] at h
    have h1 : ¬ k = x := fun e => h.1 e.symm
    simp only [last, ih h.2, h1, if_false]
theorem last_some {e : List (Nat × α)} {x : Nat} (h : x ∈ keys e) : ∃ u, last e x = some u := by
  induction e with
  | nil => cases h
  | cons p e ih =>
    obtain ⟨k, v⟩ := p
    simp only [keys, List.map_cons, List.mem_cons] at h
    simp only [last]
    cases hl : last e x with
    | some u => exact ⟨u, rfl⟩
    | none =>
      rcases h with h | h
      · exact ⟨v, by simp [h]⟩
      · obtain ⟨u, hu⟩ := ih h
        rw [hl] at hu; cases hu
end

/-! ### effects by number, laid in the text's order, of those that are listed -/
section
variable {α : Type}
/-- The state when the operations of 'l' (numbers) have come up, each with its writes 'W'. -/
def laid (W : Nat → List (Nat × α)) (σ : List (Nat × α)) : List Nat → List (Nat × α)
  | [] => σ
  | i :: l => laid W (puts σ (W i)) l
theorem laid_append (W : Nat → List (Nat × α)) (l m : List Nat) : ∀ σ, laid W σ (l ++ m) = laid W (laid W σ l) m := by
  induction l with
  | nil => intro σ; rfl
  | cons i l ih => intro σ; simp [laid, ih]
/-- Only those that write the key count. -/
theorem look_laid_filter (W : Nat → List (Nat × α)) (x : Nat) (l : List Nat) : ∀ σ σ', look σ x = look σ' x →
    look (laid W σ l) x = look (laid W σ' (l.filter fun i => (keys (W i)).contains x)) x := by
  induction l with
  | nil => intro σ σ' h; exact h
  | cons i l ih =>
    intro σ σ' h
    by_cases hi : x ∈ keys (W i)
    · have hc : (keys (W i)).contains x = true := by simpa using hi
      simp only [List.filter_cons, hc, if_true, laid]
      exact ih _ _ (by rw [look_puts, look_puts, h])
    · have hc : (keys (W i)).contains x = false := by simpa using hi
      simp only [List.filter_cons, hc, laid]
      exact ih _ _ (by rw [look_puts, last_none hi]; exact h)
/-- If the last of the list that writes the key is i, the key holds what i writes. -/
theorem look_laid_last (W : Nat → List (Nat × α)) (x i : Nat) (hx : x ∈ keys (W i)) (l m : List Nat) (hm : ∀ j ∈ m, x ∉ keys (W j)) (σ : List (Nat × α)) :
    look (laid W σ (l ++ i :: m)) x = last (W i) x := by
  rw [laid_append]
  have h0 := look_laid_filter W x (i :: m) (laid W σ l) (laid W σ l) rfl
  rw [h0]
  have hf : (i :: m).filter (fun i => (keys (W i)).contains x) = [i] := by
    rw [List.filter_cons, if_pos (by simpa using hx)]
    congr 1
    rw [List.filter_eq_nil_iff]
    intro j hj
    simpa using hm j hj
  rw [hf]
  simp only [laid, look_puts]
  obtain ⟨u, hu⟩ := last_some hx
  rw [hu]
theorem look_laid_none (W : Nat → List (Nat × α)) (x : Nat) (l : List Nat) (hl : ∀ j ∈ l, x ∉ keys (W j)) (σ : List (Nat × α)) :
    look (laid W σ l) x = look σ x := by
  rw [look_laid_filter W x l σ σ rfl]
  have hf : l.filter (fun i => (keys (W i)).contains x) = [] := by
    rw [List.filter_eq_nil_iff]
    intro j hj
    simpa using hl j hj
  rw [hf]; rfl
end

/-! ### the edges -/
/-- The sources of an operation's binding edges. -/
def srcs (o : Oper) : List Nat := (o.after.toList.filter fun e => Region.binds .any e).map (·.on)
theorem mem_srcs {o : Oper} {m : Nat} : m ∈ srcs o ↔ ∃ e ∈ o.after, Region.binds .any e = true ∧ e.on = m := by
  simp only [srcs, List.mem_map, List.mem_filter, Array.mem_toList_iff]
  constructor
  · rintro ⟨e, ⟨h1, h2⟩, h3⟩; exact ⟨e, h1, h2, h3⟩
  · rintro ⟨e, h1, h2, h3⟩; exact ⟨e, ⟨h1, h2⟩, h3⟩
/-- Two operations that touch nothing of one another's. -/
def indep (R W : Nat → List Nat) (i j : Nat) : Prop := (∀ k ∈ W i, k ∉ R j ∧ k ∉ W j) ∧ (∀ k ∈ W j, k ∉ R i)

section order
variable {α : Type} {n : Nat} {anc : Nat → Nat → Bool} {R : Nat → List Nat} {W : Nat → List (Nat × α)}
/-- j comes before i, or they touch nothing of one another's: for all j below i. -/
structure Sorted (n : Nat) (src : Nat → List Nat) (anc : Nat → Nat → Bool) (R : Nat → List Nat) (W : Nat → List (Nat × α)) : Prop where
  below : ∀ i < n, ∀ m ∈ src i, m < i
  step : ∀ i < n, ∀ j, anc i j = true → ∃ m ∈ src i, m = j ∨ anc m j = true
  apart : ∀ i < n, ∀ j < i, anc i j = true ∨ indep R (fun i => keys (W i)) j i

/-- What is listed, is listed with all that it waits for. -/
def Closed (n : Nat) (anc : Nat → Nat → Bool) (L : Nat → Bool) : Prop := ∀ j < n, L j = true → ∀ m, anc j m = true → L m = true

variable {src : Nat → List Nat} (S : Sorted n src anc R W)
include S
theorem Closed.add {L : Nat → Bool} (hL : Closed n anc L) {i : Nat} (hi : i < n) (hs : ∀ m ∈ src i, L m = true) : Closed n anc (fun j => j == i || L j) := by
  intro j hj hl m hm
  have key : ∀ k < n, L k = true → anc k m = true → L m = true := fun k hk h1 h2 => hL k hk h1 m h2
  simp only [Bool.or_eq_true, beq_iff_eq] at hl ⊢
  rcases hl with rfl | hl
  · obtain ⟨s, h1, h2⟩ := S.step j hj m hm
    rcases h2 with rfl | h2
    · exact .inr (hs _ h1)
    · exact .inr (key s (Nat.lt_trans (S.below j hj s h1) hj) (hs _ h1) h2)
  · exact .inr (key j hj hl hm)
theorem Sorted.anc_listed {L : Nat → Bool} (hL : Closed n anc L) {i : Nat} (hi : i < n) (hs : ∀ m ∈ src i, L m = true) {m : Nat} (hm : anc i m = true) : L m = true := by
  obtain ⟨s, h1, h2⟩ := S.step i hi m hm
  rcases h2 with rfl | h2
  · exact hs _ h1
  · exact hL s (Nat.lt_trans (S.below i hi s h1) hi) (hs _ h1) m h2

/-- The state when those of L have come up. -/
def at_ (W : Nat → List (Nat × α)) (σ : List (Nat × α)) (n : Nat) (L : Nat → Bool) : List (Nat × α) := laid W σ ((List.range n).filter L)
omit S in
theorem range_filter_lt (i n : Nat) (h : i ≤ n) : (List.range n).filter (fun j => decide (j < i)) = List.range i := by
  obtain ⟨d, rfl⟩ := Nat.exists_eq_add_of_le h
  induction d with
  | zero => simp [List.filter_eq_self]
  | succ d ih =>
    rw [show i + (d + 1) = (i + d) + 1 by omega, List.range_succ, List.filter_append, ih (by omega)]
    simp
/-- What an operation that may come up reads is what it reads in the text's order. -/
theorem Sorted.reads {L : Nat → Bool} (hL : Closed n anc L) {i : Nat} (hi : i < n) (hun : L i = false) (hs : ∀ m ∈ src i, L m = true) (σ : List (Nat × α)) {k : Nat} (hk : k ∈ R i) :
    look (at_ W σ n L) k = look (laid W σ (List.range i)) k := by
  unfold at_
  rw [look_laid_filter W k _ σ σ rfl, look_laid_filter W k (List.range i) σ σ rfl]
  congr 2
  rw [← range_filter_lt i n (Nat.le_of_lt hi), List.filter_filter, List.filter_filter]
  apply List.filter_congr
  intro j hj
  have hj' : j < n := by simpa using hj
  by_cases hw : k ∈ keys (W j)
  · have hc : (keys (W j)).contains k = true := by simpa using hw
    rw [hc, Bool.true_and, Bool.true_and]
    by_cases hlt : j < i
    · have : L j = true := by
        rcases S.apart i hi j hlt with h | h
        · exact S.anc_listed hL hi hs h
        · exact absurd hk (h.1 k hw).1
      simp [this, hlt]
    · by_cases he : j = i
      · subst he; simp [hun]
      · have hgt : i < j := by omega
        have : L j = false := by
          cases hl : L j with
          | false => rfl
          | true =>
            rcases S.apart j hj' i hgt with h | h
            · have := hL j hj' hl i h
              rw [hun] at this; cases this
            · exact absurd hk (h.2 k hw)
        simp [this, hlt]
  · have hc : (keys (W j)).contains k = false := by simpa using hw
    rw [hc, Bool.false_and, Bool.false_and]
omit S in
theorem range_split (i n : Nat) (h : i < n) : List.range n = List.range i ++ i :: (List.range' (i + 1) (n - i - 1)) := by
  rw [List.range_eq_range', List.range_eq_range']
  have := List.range'_append (s := 0) (m := i) (n := n - i) (step := 1)
  rw [show i + (n - i) = n by omega] at this
  rw [← this]
  congr 1
  rw [show n - i = (n - i - 1) + 1 by omega, List.range'_succ]
  simp
/-- Behind it, the state is that of one more. -/
theorem Sorted.more {L : Nat → Bool} (hL : Closed n anc L) {i : Nat} (hi : i < n) (hun : L i = false) (_ : ∀ m ∈ src i, L m = true) (σ : List (Nat × α)) (k : Nat) :
    look (at_ W σ n (fun j => j == i || L j)) k = look (puts (at_ W σ n L) (W i)) k := by
  have later : ∀ j, i < j → j < n → L j = true → k ∈ keys (W i) → k ∉ keys (W j) := by
    intro j hj hjn hl hki hkj
    rcases S.apart j hjn i hj with h | h
    · have := hL j hjn hl i h
      rw [hun] at this; cases this
    · exact (h.1 k hki).2 hkj
  have e1 : (List.range n).filter (fun j => j == i || L j) = (List.range i).filter L ++ i :: (List.range' (i + 1) (n - i - 1)).filter L := by
    rw [range_split i n hi, List.filter_append, List.filter_cons, if_pos (by simp)]
    congr 1
    · apply List.filter_congr
      intro j hj
      have : j < i := by simpa using hj
      have : ¬ j = i := by omega
      simp [this]
    · congr 1
      apply List.filter_congr
      intro j hj
      have : i + 1 ≤ j := by rw [List.mem_range'_1] at hj; exact hj.1
      have : ¬ j = i := by omega
      simp [this]
  have e2 : (List.range n).filter L = (List.range i).filter L ++ (List.range' (i + 1) (n - i - 1)).filter L := by
    rw [range_split i n hi, List.filter_append, List.filter_cons, if_neg (by simp [hun])]
  unfold at_
  rw [e1, e2]
  have hlater : k ∈ keys (W i) → ∀ j ∈ (List.range' (i + 1) (n - i - 1)).filter L, k ∉ keys (W j) := by
    intro hk j hj
    rw [List.mem_filter, List.mem_range'_1] at hj
    exact later j (by omega) (by omega) hj.2 hk
  by_cases hk : k ∈ keys (W i)
  · rw [look_laid_last W k i hk _ _ (hlater hk), look_puts]
    obtain ⟨u, hu⟩ := last_some hk
    rw [hu]
  · rw [look_puts, last_none hk]
    rw [look_laid_filter W k _ σ σ rfl, look_laid_filter W k (_ ++ _) σ σ rfl]
    congr 2
    rw [List.filter_append, List.filter_append, List.filter_cons, if_neg (by simpa using hk)]
end order
end Go.Eng
