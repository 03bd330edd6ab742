/-
  THE ENGINE, part B: what a state stands for: cells, blocks and slots told by plain data; what keeps a state true of a frame and a world.
-/
import Derived.Test.YtkpihidjolfkoaaEngA
import Derived.WalkKit
namespace Go.Eng
open Go Go.RowKit

/-- Which block (and from which offset on) a block's number stands for. -/
abbrev Rho := Nat → Option (Nat × Nat)

/-- What stands in a row of cells. -/
inductive It where
  | v (x : Value)
  | w (k n : Nat)
  | p (id off : Nat)
  | s (id off len cap : Nat)
  | f (fn : FuncId) (caps : List (Nat × Nat))

/-- The i-th word of a number. -/
def word (n i : Nat) : Value := .int .u64 ((n / 2 ^ (64 * i) % 2 ^ 64 : Nat) : Int)
def words (k n : Nat) : List Value := (List.range k).map (word n)
theorem length_words (k n : Nat) : (words k n).length = k := by simp [words]

def ptr (q : Nat × Nat) (off : Nat) : Value := .pointer (some ⟨q.1, q.2 + off, none⟩)
def capVals (ρ : Rho) : List (Nat × Nat) → Option (List Value)
  | [] => some []
  | c :: l => match ρ c.1, capVals ρ l with
    | some q, some vs => some (ptr q c.2 :: vs)
    | _, _ => none
def It.cs (ρ : Rho) : It → Option (List Value)
  | .v x => match x.oneCell' with
    | true => some [x]
    | false => none
  | .w k n => some (words k n)
  | .p id off => match ρ id with
    | some q => some [ptr q off]
    | none => none
  | .s id off len cap => match ρ id with
    | some q => some [.slice (some ⟨q.1, q.2 + off, none⟩) len cap]
    | none => none
  | .f fn caps => match capVals ρ caps with
    | some vs => some [.func (.func fn) #[] vs.toArray]
    | none => none
def It.size : It → Nat
  | .w k _ => k
  | _ => 1
def conc (ρ : Rho) : List It → Option (List Value)
  | [] => some []
  | i :: l => match i.cs ρ, conc ρ l with
    | some a, some b => some (a ++ b)
    | _, _ => none
def sizes : List It → Nat
  | [] => 0
  | i :: l => i.size + sizes l

/-- ρ' knows all that ρ knows. -/
def Rho.le (ρ ρ' : Rho) : Prop := ∀ id q, ρ id = some q → ρ' id = some q
theorem Rho.le.refl (ρ : Rho) : ρ.le ρ := fun _ _ h => h
theorem Rho.le.trans {a b c : Rho} (h : a.le b) (k : b.le c) : a.le c := fun id q hq => k id q (h id q hq)

theorem capVals_le {ρ ρ' : Rho} (h : ρ.le ρ') : ∀ (l : List (Nat × Nat)) (vs : List Value), capVals ρ l = some vs → capVals ρ' l = some vs := by
  intro l
  induction l with
  | nil => intro vs hv; exact hv
  | cons c l ih =>
    intro vs hv
    simp only [capVals] at hv ⊢
    cases hc : ρ c.1 with
    | none => simp [hc] at hv
    | some q =>
      cases hl : capVals ρ l with
      | none => simp [hc, hl] at hv
      | some us =>
        simp only [hc, hl] at hv
        rw [h _ _ hc, ih _ hl]; exact hv
theorem It.cs_le {ρ ρ' : Rho} (h : ρ.le ρ') (i : It) (vs : List Value) (hv : i.cs ρ = some vs) : i.cs ρ' = some vs := by
  cases i with
  | v x => exact hv
  | w k n => exact hv
  | p id off =>
    simp only [It.cs] at hv ⊢
    cases hc : ρ id with
    | none => simp [hc] at hv
    | some q => rw [h _ _ hc]; simpa [hc] using hv
  | s id off len cap =>
    simp only [It.cs] at hv ⊢
    cases hc : ρ id with
    | none => simp [hc] at hv
    | some q => rw [h _ _ hc]; simpa [hc] using hv
  | f fn caps =>
    simp only [It.cs] at hv ⊢
    cases hc : capVals ρ caps with
    | none => simp [hc] at hv
    | some q => rw [capVals_le h _ _ hc]; simpa [hc] using hv
theorem conc_le {ρ ρ' : Rho} (h : ρ.le ρ') : ∀ (l : List It) (vs : List Value), conc ρ l = some vs → conc ρ' l = some vs := by
  intro l
  induction l with
  | nil => intro vs hv; exact hv
  | cons i l ih =>
    intro vs hv
    simp only [conc] at hv ⊢
    cases hc : i.cs ρ with
    | none => simp [hc] at hv
    | some a =>
      cases hl : conc ρ l with
      | none => simp [hc, hl] at hv
      | some b =>
        simp only [hc, hl] at hv
        rw [It.cs_le h _ _ hc, ih _ hl]; exact hv
theorem conc_cons {ρ : Rho} {i : It} {l : List It} {vs : List Value} (h : conc ρ (i :: l) = some vs) : ∃ a b, i.cs ρ = some a ∧ conc ρ l = some b ∧ vs = a ++ b := by
  simp only [conc] at h
  cases hc : i.cs ρ with
  | none => simp [hc] at h
  | some a =>
    cases hl : conc ρ l with
    | none => simp [hc, hl] at h
    | some b =>
      simp only [hc, hl, Option.some.injEq] at h
      exact ⟨a, b, rfl, rfl, h.symm⟩
theorem conc_mk {ρ : Rho} {i : It} {l : List It} {a b : List Value} (hi : i.cs ρ = some a) (hl : conc ρ l = some b) : conc ρ (i :: l) = some (a ++ b) := by
  simp only [conc, hi, hl]
theorem It.length_cs {ρ : Rho} {i : It} {vs : List Value} (h : i.cs ρ = some vs) : vs.length = i.size := by
  cases i <;> simp only [It.cs, It.size] at h ⊢
  case w => cases h; exact length_words _ _
  all_goals (split at h <;> first | (cases h; rfl) | cases h)
theorem length_conc {ρ : Rho} : ∀ (l : List It) (vs : List Value), conc ρ l = some vs → vs.length = sizes l := by
  intro l
  induction l with
  | nil => intro vs h; cases h; rfl
  | cons i l ih =>
    intro vs h
    obtain ⟨a, b, ha, hb, rfl⟩ := conc_cons h
    rw [List.length_append, It.length_cs ha, ih _ hb]; rfl
theorem It.one_cs {ρ : Rho} {i : It} {vs : List Value} (h : i.cs ρ = some vs) : ∀ v ∈ vs, v.oneCell' = true := by
  cases i <;> simp only [It.cs] at h
  case v x =>
    split at h
    · rename_i hx; cases h; intro v hv; rw [List.mem_singleton] at hv; subst hv; exact hx
    · cases h
  case w k n => cases h; intro v hv; unfold words at hv; rw [List.mem_map] at hv; obtain ⟨i, _, rfl⟩ := hv; rfl
  all_goals (split at h <;> first | (cases h; intro v hv; rw [List.mem_singleton] at hv; subst hv; rfl) | cases h)
theorem conc_one {ρ : Rho} : ∀ (l : List It) (vs : List Value), conc ρ l = some vs → ∀ v ∈ vs, v.oneCell' = true := by
  intro l
  induction l with
  | nil => intro vs h; cases h; intro v hv; cases hv
  | cons i l ih =>
    intro vs h
    obtain ⟨a, b, ha, hb, rfl⟩ := conc_cons h
    intro v hv
    rcases List.mem_append.1 hv with h1 | h1
    · exact It.one_cs ha v h1
    · exact ih b hb v h1
theorem conc_append {ρ : Rho} : ∀ (l m : List It) (a b : List Value), conc ρ l = some a → conc ρ m = some b → conc ρ (l ++ m) = some (a ++ b) := by
  intro l
  induction l with
  | nil => intro m a b ha hb; cases ha; exact hb
  | cons i l ih =>
    intro m a b ha hb
    obtain ⟨x, y, hx, hy, rfl⟩ := conc_cons ha
    rw [List.cons_append, List.append_assoc]
    exact conc_mk hx (ih m y b hy hb)

/-! ### cuts -/
def dropIt : List It → Nat → Option (List It)
  | l, 0 => some l
  | [], _ + 1 => none
  | i :: l, n + 1 => if i.size ≤ n + 1 then dropIt l (n + 1 - i.size) else none
def takeIt : List It → Nat → Option (List It)
  | _, 0 => some []
  | [], _ + 1 => none
  | i :: l, n + 1 => if i.size ≤ n + 1 then (match takeIt l (n + 1 - i.size) with | some r => some (i :: r) | none => none) else none
theorem dropIt_conc {ρ : Rho} : ∀ (l : List It) (n : Nat) (r : List It) (vs : List Value), dropIt l n = some r → conc ρ l = some vs → n ≤ vs.length ∧ conc ρ r = some (vs.drop n) := by
  intro l
  induction l with
  | nil =>
    intro n r vs h hv
    cases n with
    | zero => simp only [dropIt] at h; cases h; exact ⟨Nat.zero_le _, by simpa using hv⟩
    | succ n => cases h
  | cons i l ih =>
    intro n r vs h hv
    cases n with
    | zero => simp only [dropIt] at h; cases h; exact ⟨Nat.zero_le _, by simpa using hv⟩
    | succ n =>
      simp only [dropIt] at h
      split at h
      · rename_i hs
        obtain ⟨a, b, ha, hb, rfl⟩ := conc_cons hv
        obtain ⟨h1, h2⟩ := ih _ _ _ h hb
        have hl := It.length_cs ha
        refine ⟨by rw [List.length_append]; omega, ?_⟩
        have hd : (a ++ b).drop (n + 1) = b.drop (n + 1 - i.size) := by
          rw [List.drop_append, List.drop_of_length_le (by omega), hl, List.nil_append]
        rw [h2, hd]
      · cases h
theorem takeIt_conc {ρ : Rho} : ∀ (l : List It) (n : Nat) (r : List It) (vs : List Value), takeIt l n = some r → conc ρ l = some vs → n ≤ vs.length ∧ conc ρ r = some (vs.take n) := by
  intro l
  induction l with
  | nil =>
    intro n r vs h hv
    cases n with
    | zero => simp only [takeIt] at h; cases h; exact ⟨Nat.zero_le _, by simp [conc]⟩
    | succ n => cases h
  | cons i l ih =>
    intro n r vs h hv
    cases n with
    | zero => simp only [takeIt] at h; cases h; exact ⟨Nat.zero_le _, by simp [conc]⟩
    | succ n =>
      simp only [takeIt] at h
      split at h
      · rename_i hs
        cases ht : takeIt l (n + 1 - i.size) with
        | none => simp [ht] at h
        | some r' =>
          simp only [ht, Option.some.injEq] at h
          subst h
          obtain ⟨a, b, ha, hb, rfl⟩ := conc_cons hv
          obtain ⟨h1, h2⟩ := ih _ _ _ ht hb
          have hl := It.length_cs ha
          refine ⟨by rw [List.length_append]; omega, ?_⟩
          rw [List.take_append, List.take_of_length_le (by omega), hl]
          exact conc_mk ha h2
      · cases h
/-- A number's words, one by one. -/
def wordIts (n : Nat) (k : Nat) : List It := (List.range k).map fun i => .v (word n i)
def explode : List It → List It
  | [] => []
  | .w k n :: l => wordIts n k ++ explode l
  | i :: l => i :: explode l
theorem conc_wordIts (ρ : Rho) (n : Nat) : ∀ k, conc ρ (wordIts n k) = some (words k n) := by
  intro k
  unfold wordIts words
  generalize List.range k = l
  induction l with
  | nil => rfl
  | cons i l ih => exact conc_mk (i := .v (word n i)) (a := [word n i]) rfl ih
theorem conc_explode {ρ : Rho} : ∀ (l : List It) (vs : List Value), conc ρ l = some vs → conc ρ (explode l) = some vs := by
  intro l
  induction l with
  | nil => intro vs h; exact h
  | cons i l ih =>
    intro vs h
    obtain ⟨a, b, ha, hb, rfl⟩ := conc_cons h
    cases i with
    | w k n => simp only [It.cs, Option.some.injEq] at ha; subst ha; exact conc_append _ _ _ _ (conc_wordIts ρ n k) (ih _ hb)
    | v x => exact conc_mk ha (ih _ hb)
    | p id off => exact conc_mk ha (ih _ hb)
    | s id off len cap => exact conc_mk ha (ih _ hb)
    | f fn caps => exact conc_mk ha (ih _ hb)
def cut1 (l : List It) (off len : Nat) : Option (List It) := match dropIt l off with
  | some r => takeIt r len
  | none => none
/-- The cells from off on, so many. -/
def cut (l : List It) (off len : Nat) : Option (List It) := match cut1 l off len with
  | some r => some r
  | none => cut1 (explode l) off len
theorem cut1_conc {ρ : Rho} {l r : List It} {off len : Nat} {vs : List Value} (h : cut1 l off len = some r) (hv : conc ρ l = some vs) :
    off + len ≤ vs.length ∧ conc ρ r = some ((vs.drop off).take len) := by
  unfold cut1 at h
  cases hd : dropIt l off with
  | none => simp [hd] at h
  | some m =>
    simp only [hd] at h
    obtain ⟨h1, h2⟩ := dropIt_conc _ _ _ _ hd hv
    obtain ⟨h3, h4⟩ := takeIt_conc _ _ _ _ h h2
    rw [List.length_drop] at h3
    exact ⟨by omega, h4⟩
theorem cut_conc {ρ : Rho} {l r : List It} {off len : Nat} {vs : List Value} (h : cut l off len = some r) (hv : conc ρ l = some vs) :
    off + len ≤ vs.length ∧ conc ρ r = some ((vs.drop off).take len) := by
  unfold cut at h
  cases hc : cut1 l off len with
  | some x => simp only [hc, Option.some.injEq] at h; subst h; exact cut1_conc hc hv
  | none => simp only [hc] at h; exact cut1_conc h (conc_explode _ _ hv)
def lay1 (l : List It) (off : Nat) (new : List It) : Option (List It) := match takeIt l off, dropIt l (off + sizes new) with
  | some a, some b => some (a ++ (new ++ b))
  | _, _ => none
/-- New cells laid from off on. -/
def lay (l : List It) (off : Nat) (new : List It) : Option (List It) := match lay1 l off new with
  | some r => some r
  | none => lay1 (explode l) off new
theorem lay1_conc {ρ : Rho} {l new r : List It} {off : Nat} {vs us : List Value} (h : lay1 l off new = some r) (hv : conc ρ l = some vs) (hu : conc ρ new = some us) :
    off + us.length ≤ vs.length ∧ conc ρ r = some (vs.take off ++ (us ++ vs.drop (off + us.length))) := by
  unfold lay1 at h
  cases ht : takeIt l off with
  | none => simp [ht] at h
  | some a =>
    cases hd : dropIt l (off + sizes new) with
    | none => simp [ht, hd] at h
    | some b =>
      simp only [ht, hd, Option.some.injEq] at h
      subst h
      obtain ⟨_, h2⟩ := takeIt_conc _ _ _ _ ht hv
      obtain ⟨h3, h4⟩ := dropIt_conc _ _ _ _ hd hv
      have hl := length_conc _ _ hu
      rw [← hl] at h3 h4
      exact ⟨h3, conc_append _ _ _ _ h2 (conc_append _ _ _ _ hu h4)⟩
theorem lay_conc {ρ : Rho} {l new r : List It} {off : Nat} {vs us : List Value} (h : lay l off new = some r) (hv : conc ρ l = some vs) (hu : conc ρ new = some us) :
    off + us.length ≤ vs.length ∧ conc ρ r = some (vs.take off ++ (us ++ vs.drop (off + us.length))) := by
  unfold lay at h
  cases hc : lay1 l off new with
  | some x => simp only [hc, Option.some.injEq] at h; subst h; exact lay1_conc hc hv hu
  | none => simp only [hc] at h; exact lay1_conc h (conc_explode _ _ hv) hu

/-! ### values of slots -/
/-- A value: one cell, or a row of cells. -/
structure AV where
  agg : Bool
  its : List It
def AV.val (ρ : Rho) (x : AV) : Option Value := match x.agg, conc ρ x.its with
  | true, some vs => some (.agg vs.toArray)
  | false, some [v] => some v
  | _, _ => none
inductive SV where
  | one (x : AV)
  | tup (l : List AV)
def vals (ρ : Rho) : List AV → Option (List Value)
  | [] => some []
  | x :: l => match x.val ρ, vals ρ l with
    | some v, some vs => some (v :: vs)
    | _, _ => none
def SV.val (ρ : Rho) : SV → Option Value
  | .one x => x.val ρ
  | .tup l => match vals ρ l with
    | some vs => some (.tuple vs.toArray)
    | none => none
theorem AV.val_le {ρ ρ' : Rho} (h : ρ.le ρ') (x : AV) (v : Value) (hv : x.val ρ = some v) : x.val ρ' = some v := by
  unfold AV.val at hv ⊢
  cases hc : conc ρ x.its with
  | none => simp [hc] at hv
  | some vs => rw [hc] at hv; rw [conc_le h _ _ hc]; exact hv
theorem vals_le {ρ ρ' : Rho} (h : ρ.le ρ') : ∀ (l : List AV) (vs : List Value), vals ρ l = some vs → vals ρ' l = some vs := by
  intro l
  induction l with
  | nil => intro vs hv; exact hv
  | cons x l ih =>
    intro vs hv
    simp only [vals] at hv ⊢
    cases hx : x.val ρ with
    | none => simp [hx] at hv
    | some v =>
      cases hl : vals ρ l with
      | none => simp [hx, hl] at hv
      | some us => simp only [hx, hl] at hv; rw [AV.val_le h _ _ hx, ih _ hl]; exact hv
theorem SV.val_le {ρ ρ' : Rho} (h : ρ.le ρ') (x : SV) (v : Value) (hv : x.val ρ = some v) : x.val ρ' = some v := by
  cases x with
  | one x => exact AV.val_le h x v hv
  | tup l =>
    simp only [SV.val] at hv ⊢
    cases hl : vals ρ l with
    | none => simp [hl] at hv
    | some us => simp only [hl] at hv; rw [vals_le h _ _ hl]; exact hv
/-- The cells of a value. -/
theorem AV.cells {ρ : Rho} {x : AV} {v : Value} (h : x.val ρ = some v) : (∃ vs, conc ρ x.its = some vs ∧ ((x.agg = true ∧ v = .agg vs.toArray) ∨ (x.agg = false ∧ vs = [v]))) := by
  unfold AV.val at h
  split at h
  · rename_i vs h1 h2; cases h; exact ⟨vs, h2, .inl ⟨h1, rfl⟩⟩
  · rename_i u h1 h2; cases h; exact ⟨_, h2, .inr ⟨h1, rfl⟩⟩
  · cases h

/-! ### the state, and what it says of a frame and a world -/
inductive Ct where
  | sl (x : SV)
  | bl (l : List It)
abbrev St := List (Nat × Ct)
def St.slot (st : St) (t : Nat) : Option SV := match look st (2 * t) with
  | some (.sl x) => some x
  | _ => none
def St.blk (st : St) (id : Nat) : Option (List It) := match look st (2 * id + 1) with
  | some (.bl l) => some l
  | _ => none
/-- A block of the run's own (it may be written); else one that is only read. -/
def own (id : Nat) : Bool := decide (16 ≤ id)
/-- A block's cells stand in the world. -/
def BlkOk (w : World) (id b o : Nat) (vs : List Value) : Prop :=
  b < w.heap.size ∧ (own id = true → o = 0 ∧ ∃ t, w.heap[b]? = some (.cells vs.toArray t (0, 0))) ∧
  (own id = false → ∀ i v, vs[i]? = some v → w.cell? ⟨b, o + i, none⟩ = some v)
structure MemOk (ρ : Rho) (m : Nat → Option (List It)) (w : World) : Prop where
  blk : ∀ id l, m id = some l → ∃ b o vs, ρ id = some (b, o) ∧ conc ρ l = some vs ∧ BlkOk w id b o vs
structure Inj (ρ : Rho) : Prop where
  inj : ∀ id id' b o o', own id = true → ρ id = some (b, o) → ρ id' = some (b, o') → id = id'
structure Sim (ρ : Rho) (N : Nat) (st : St) (a : Act) (w : World) : Prop where
  slots : ∀ t x, st.slot t = some x → x.val ρ = some (a.tmps.getD t undef)
  size : a.tmps.size = N
  mem : MemOk ρ st.blk w
  inj : Inj ρ
  dom : ∀ id q, ρ id = some q → ∃ l, st.blk id = some l
  calm : a.defers = []
theorem Sim.congr {ρ : Rho} {N : Nat} {st st' : St} {a : Act} {w : World} (h : Sim ρ N st a w) (hs : ∀ k, look st' k = look st k) : Sim ρ N st' a w := by
  have h1 : ∀ t, st'.slot t = st.slot t := fun t => by unfold St.slot; rw [hs]
  have h2 : st'.blk = st.blk := funext fun t => by unfold St.blk; rw [hs]
  exact ⟨fun t x hx => h.slots t x (by rw [← h1]; exact hx), h.size, by rw [h2]; exact h.mem, h.inj, fun id q hq => by rw [h2]; exact h.dom id q hq, h.calm⟩

/-- What the world keeps: the streams, and every block but those of D. -/
structure Keep (D : Nat → Prop) (w w' : World) : Prop where
  os : w'.os = w.os
  tape : w'.tape = w.tape
  output : w'.output = w.output
  size : w.heap.size ≤ w'.heap.size
  block : ∀ k, k < w.heap.size → ¬ D k → w'.heap[k]? = w.heap[k]?
/-- The blocks of the run's own that ρ knows. -/
def Own (ρ : Rho) (b : Nat) : Prop := ∃ id, own id = true ∧ ρ id = some (b, 0)
/-- From one world to a later one: what ρ knows stays; what is new lies in new blocks; blocks that are not the run's own are as they were. -/
structure Ext (ρ : Rho) (w : World) (ρ' : Rho) (w' : World) : Prop where
  le : ρ.le ρ'
  new : ∀ id b o, ρ id = none → ρ' id = some (b, o) → w.heap.size ≤ b
  keep : Keep (Own ρ) w w'
theorem Ext.refl (ρ : Rho) (w : World) : Ext ρ w ρ w := ⟨.refl ρ, fun id b o h h' => (by rw [h] at h'; cases h'), rfl, rfl, rfl, Nat.le_refl _, fun _ _ _ => rfl⟩
theorem Ext.trans {ρ ρ' ρ'' : Rho} {w w' w'' : World} (h : Ext ρ w ρ' w') (k : Ext ρ' w' ρ'' w'') : Ext ρ w ρ'' w'' where
  le := h.le.trans k.le
  new id b o h0 h2 := by
    cases h1 : ρ' id with
    | none => exact Nat.le_trans h.keep.size (k.new id b o h1 h2)
    | some q =>
      have := k.le id q h1
      rw [h2] at this; cases this
      exact h.new id b o h0 h1
  keep := {
    os := k.keep.os.trans h.keep.os
    tape := k.keep.tape.trans h.keep.tape
    output := k.keep.output.trans h.keep.output
    size := Nat.le_trans h.keep.size k.keep.size
    block := fun j hj hD => by
      rw [k.keep.block j (Nat.lt_of_lt_of_le hj h.keep.size) ?_, h.keep.block j hj hD]
      rintro ⟨id, ho, hq⟩
      cases h0 : ρ id with
      | none => exact absurd (h.new id j 0 h0 hq) (by omega)
      | some q =>
        have := h.le id q h0
        rw [hq] at this; cases this
        exact hD ⟨id, ho, h0⟩ }
theorem Ext.drew (ρ : Rho) (w : World) : Ext ρ w ρ w.drew := ⟨.refl ρ, fun id b o h h' => (by rw [h] at h'; cases h'), rfl, rfl, rfl, Nat.le_refl _, fun _ _ _ => rfl⟩
theorem Ext.below {ρ ρ' : Rho} {w w' : World} (h : Ext ρ w ρ' w') (hρ : ∀ b, ¬ Own ρ b) : Below w.heap.size w w' :=
  ⟨h.keep.os, h.keep.tape, h.keep.output, h.keep.size, fun k hk => h.keep.block k hk (hρ k)⟩
theorem Sim.drew {ρ : Rho} {N : Nat} {st : St} {a : Act} {w : World} (h : Sim ρ N st a w) : Sim ρ N st a w.drew :=
  ⟨h.slots, h.size, ⟨fun id l hl => h.mem.blk id l hl⟩, h.inj, h.dom, h.calm⟩

/-! ### three ways on: a slot is written; a block is made; a block is written -/
theorem slot_put_slot (st : St) (t : Nat) (x : SV) (u : Nat) : St.slot (puts st [(2 * t, .sl x)]) u = if t = u then some x else st.slot u := by
  unfold St.slot
  simp only [puts, look_upd]
  by_cases h : t = u
  · simp [h]
  · have : ¬ 2 * t = 2 * u := by omega
    simp [h, this]
theorem blk_put_slot (st : St) (t : Nat) (x : SV) (id : Nat) : St.blk (puts st [(2 * t, .sl x)]) id = st.blk id := by
  unfold St.blk
  simp only [puts, look_upd]
  have : ¬ 2 * t = 2 * id + 1 := by omega
  simp [this]
theorem slot_put_blk (st : St) (id : Nat) (l : List It) (u : Nat) : St.slot (puts st [(2 * id + 1, .bl l)]) u = st.slot u := by
  unfold St.slot
  simp only [puts, look_upd]
  have : ¬ 2 * id + 1 = 2 * u := by omega
  simp [this]
theorem blk_put_blk (st : St) (id : Nat) (l : List It) (j : Nat) : St.blk (puts st [(2 * id + 1, .bl l)]) j = if id = j then some l else st.blk j := by
  unfold St.blk
  simp only [puts, look_upd]
  by_cases h : id = j
  · simp [h]
  · have : ¬ 2 * id = 2 * j := by omega
    simp [h, this]
theorem Sim.put {ρ : Rho} {N : Nat} {st : St} {a : Act} {w : World} (h : Sim ρ N st a w) {t : Nat} (ht : t < N) {x : SV} {v : Value} (hv : x.val ρ = some v) :
    Sim ρ N (puts st [(2 * t, .sl x)]) (a.put (some t) v) w where
  slots u y hy := by
    rw [slot_put_slot] at hy
    by_cases hu : t = u
    · subst hu
      simp only [if_true, Option.some.injEq] at hy
      subst hy
      have : t < a.tmps.size := by rw [h.size]; exact ht
      simp [Act.put, this, hv]
    · simp only [hu, if_false] at hy
      have := h.slots u y hy
      simp only [Act.put, Array.getD_eq_getD_getElem?] at this ⊢
      rw [Array.getElem?_setIfInBounds_ne hu]; exact this
  size := by simp [Act.put, h.size]
  mem := ⟨fun id l hl => h.mem.blk id l (by rw [← blk_put_slot st t x]; exact hl)⟩
  inj := h.inj
  dom id q hq := by rw [blk_put_slot]; exact h.dom id q hq
  calm := h.calm
/-- ρ and one block more. -/
def Rho.set (ρ : Rho) (id b : Nat) : Rho := fun j => if j = id then some (b, 0) else ρ j
theorem Rho.le_set {ρ : Rho} {id b : Nat} (h : ρ id = none) : ρ.le (ρ.set id b) := fun j q hq => by
  unfold Rho.set
  by_cases hj : j = id
  · subst hj; rw [h] at hq; cases hq
  · rw [if_neg hj]; exact hq
theorem Inj.set {ρ : Rho} (h : Inj ρ) {id b : Nat} (hb : ∀ j c o, ρ j = some (c, o) → c < b) : Inj (ρ.set id b) := ⟨fun j j' c o o' ho h1 h2 => by
  unfold Rho.set at h1 h2
  by_cases e1 : j = id
  · by_cases e2 : j' = id
    · rw [e1, e2]
    · rw [if_pos e1] at h1; rw [if_neg e2] at h2; cases h1
      exact absurd (hb _ _ _ h2) (by omega)
  · by_cases e2 : j' = id
    · rw [if_neg e1] at h1; rw [if_pos e2] at h2; cases h2
      exact absurd (hb _ _ _ h1) (by omega)
    · rw [if_neg e1] at h1; rw [if_neg e2] at h2; exact h.inj j j' c o o' ho h1 h2⟩
theorem BlkOk.of_kept {w w' : World} {id b o : Nat} {vs : List Value} (h : BlkOk w id b o vs) (hs : w.heap.size ≤ w'.heap.size) (hb : w'.heap[b]? = w.heap[b]?) : BlkOk w' id b o vs := by
  obtain ⟨h1, h2, h3⟩ := h
  refine ⟨by omega, fun ho => ?_, fun ho i v hv => ?_⟩
  · obtain ⟨h4, t, h5⟩ := h2 ho
    exact ⟨h4, t, by rw [hb]; exact h5⟩
  · rw [← h3 ho i v hv]
    exact World.cell?_of_block (a := ⟨b, o + i, none⟩) hb
theorem Sim.lt {ρ : Rho} {N : Nat} {st : St} {a : Act} {w : World} (h : Sim ρ N st a w) {id b o : Nat} (hq : ρ id = some (b, o)) : b < w.heap.size := by
  obtain ⟨l, hl⟩ := h.dom id _ hq
  obtain ⟨b', o', vs, h1, _, h2, _⟩ := h.mem.blk id l hl
  rw [hq] at h1; cases h1; exact h2
theorem Sim.unknown {ρ : Rho} {N : Nat} {st : St} {a : Act} {w : World} (h : Sim ρ N st a w) {id : Nat} (hn : st.blk id = Option.none)   : ρ id = none := by
  cases hq : ρ id with
  | none => rfl
  | some q => obtain ⟨l, hl⟩ := h.dom id q hq; rw [hn] at hl; cases hl
theorem heap_alloc (w : World) (o : Obj) (k : Nat) (h : k < w.heap.size) : (w.alloc o).heap[k]? = w.heap[k]? := Below.heap_alloc w o k h
theorem Ext.alloc {ρ : Rho} {w : World} {id : Nat} (hn : ρ id = none) (o : Obj) : Ext ρ w (ρ.set id w.heap.size) (w.alloc o) where
  le := Rho.le_set hn
  new j b o h0 h1 := by
    unfold Rho.set at h1
    by_cases e : j = id
    · rw [if_pos e] at h1; cases h1; exact Nat.le_refl _
    · rw [if_neg e, h0] at h1; cases h1
  keep := ⟨rfl, rfl, rfl, by simp, fun k hk _ => heap_alloc _ _ _ hk⟩
theorem Sim.alloc {ρ : Rho} {N : Nat} {st : St} {a : Act} {w : World} (h : Sim ρ N st a w) {id : Nat} (hn : st.blk id = Option.none) {l : List It} {vs : List Value} (hv : conc ρ l = some vs) (t : TypeId) :
    Sim (ρ.set id w.heap.size) N (puts st [(2 * id + 1, .bl l)]) a (w.alloc (.cells vs.toArray t)) where
  slots u x hx := SV.val_le (Rho.le_set (h.unknown hn)) _ _ (h.slots u x (by rw [← slot_put_blk st id l]; exact hx))
  size := h.size
  mem := ⟨fun j m hm => by
    rw [blk_put_blk] at hm
    by_cases e : id = j
    · subst e
      simp only [if_true, Option.some.injEq] at hm
      subst hm
      refine ⟨w.heap.size, 0, vs, by simp [Rho.set], conc_le (Rho.le_set (h.unknown hn)) _ _ hv, by simp, fun _ => ⟨rfl, t, ?_⟩, fun _ i v hi => ?_⟩
      · exact heap_alloc_new w _
      · rw [World.cell?_alloc_new]; simpa using hi
    · simp only [e, if_false] at hm
      obtain ⟨b, o, us, h1, h2, h3⟩ := h.mem.blk j m hm
      refine ⟨b, o, us, Rho.le_set (h.unknown hn) _ _ h1, conc_le (Rho.le_set (h.unknown hn)) _ _ h2, h3.of_kept (by simp) (heap_alloc _ _ _ h3.1)⟩⟩
  inj := h.inj.set fun j c o hq => h.lt hq
  dom j q hq := by
    rw [blk_put_blk]
    by_cases e : id = j
    · exact ⟨l, by simp [e]⟩
    · simp only [e, if_false]
      have : ¬ j = id := fun h => e h.symm
      unfold Rho.set at hq
      rw [if_neg this] at hq
      exact h.dom j q hq
  calm := h.calm
theorem Ext.store {ρ : Rho} {w w' : World} {id b : Nat} (ho : own id = true) (hq : ρ id = some (b, 0)) (h1 : w'.os = w.os) (h2 : w'.tape = w.tape) (h3 : w'.output = w.output) (hs : w'.heap.size = w.heap.size)
    (hb : ∀ k, k ≠ b → w'.heap[k]? = w.heap[k]?) : Ext ρ w ρ w' :=
  ⟨.refl ρ, fun id b o h h' => (by rw [h] at h'; cases h'), h1, h2, h3, by omega, fun k _ hD => hb k fun e => hD ⟨id, ho, e ▸ hq⟩⟩
theorem Sim.store {ρ : Rho} {N : Nat} {st : St} {a : Act} {w w' : World} (h : Sim ρ N st a w) {id b : Nat} (ho : own id = true) (hq : ρ id = some (b, 0)) (hs : w'.heap.size = w.heap.size)
    (hb : ∀ k, k ≠ b → w'.heap[k]? = w.heap[k]?) {l : List It} {vs : List Value} (hv : conc ρ l = some vs) {t : TypeId} (hw : w'.heap[b]? = some (.cells vs.toArray t (0, 0))) :
    Sim ρ N (puts st [(2 * id + 1, .bl l)]) a w' where
  slots u x hx := h.slots u x (by rw [← slot_put_blk st id l]; exact hx)
  size := h.size
  mem := ⟨fun j m hm => by
    rw [blk_put_blk] at hm
    by_cases e : id = j
    · subst e
      simp only [if_true, Option.some.injEq] at hm
      subst hm
      refine ⟨b, 0, vs, hq, hv, by have := h.lt hq; omega, fun _ => ⟨rfl, t, hw⟩, fun hf => by rw [ho] at hf; cases hf⟩
    · simp only [e, if_false] at hm
      obtain ⟨c, o, us, h1, h2, h3⟩ := h.mem.blk j m hm
      refine ⟨c, o, us, h1, h2, h3.of_kept (by omega) (hb c fun ec => e ?_)⟩
      exact h.inj.inj id j b 0 o ho hq (ec ▸ h1)⟩
  inj := h.inj
  dom j q hj := by
    rw [blk_put_blk]
    by_cases e : id = j
    · exact ⟨l, by simp [e]⟩
    · simp only [e, if_false]; exact h.dom j q hj
  calm := h.calm
end Go.Eng
