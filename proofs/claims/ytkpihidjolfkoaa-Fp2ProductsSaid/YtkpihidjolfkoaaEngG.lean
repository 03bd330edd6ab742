/-
  THE ENGINE, part G: one operation on a state: what it reads and writes; that it hangs on what it reads alone; that the model's operation does the same.
-/
import Derived.Test.YtkpihidjolfkoaaEngF
namespace Go.Eng
open Go Go.RowKit

/-! ### calls -/
structure Out where
  val : SV
  wr : List (Nat × List It)
  news : List (Nat × List It)
  ob : List Prop
abbrev CallT := FuncId → List AV → St → Nat → Option Out
def blkW (l : List (Nat × List It)) : List (Nat × Ct) := l.map fun p => (2 * p.1 + 1, .bl p.2)
/-- A function is called and hands back a value: a Go function, or one that the model stands in for. -/
def Invoked (P : Program) (f : FuncId) (args : Array Value) (w : World) (R : Value → World → Prop) : Prop :=
  (∃ v, (callFunc f args).run P w = .ok (.value v) w ∧ R v w) ∨
  ((callFunc f args).run P w = .ok (.enter f args) w ∧ Calls P f args w fun e w' => ∃ v, e = .returned v ∧ R v w')
theorem Invoked.mono {P : Program} {f : FuncId} {args : Array Value} {w : World} {R R' : Value → World → Prop} (h : Invoked P f args w R) (hr : ∀ v w', R v w' → R' v w') : Invoked P f args w R' := by
  rcases h with ⟨v, h1, h2⟩ | ⟨h1, h2⟩
  · exact .inl ⟨v, h1, hr _ _ h2⟩
  · exact .inr ⟨h1, h2.mono fun e w' ⟨v, he, hR⟩ => ⟨v, he, hr _ _ hR⟩⟩
/-- A memory: the blocks that a call may look at. -/
structure Mem (ρ : Rho) (m : St) (w : World) : Prop where
  ok : MemOk ρ m.blk w
  inj : Inj ρ
  dom : ∀ id q, ρ id = some q → ∃ l, m.blk id = some l
def CallOk (P : Program) (call : CallT) : Prop := ∀ (f : FuncId) (args : List AV) (m : St) (nid : Nat) (out : Out), call f args m nid = some out → (∀ p ∈ out.ob, p) →
  ∀ (ρ : Rho) (w : World) (vs : List Value), vals ρ args = some vs → Mem ρ m w → (∀ p ∈ out.news, m.blk p.1 = none) →
    Invoked P f vs.toArray w fun v w' => ∃ ρ', Ext ρ w ρ' w' ∧ out.val.val ρ' = some v ∧ Mem ρ' (puts m (blkW (out.wr ++ out.news))) w'

theorem puts_append {α : Type} (e f : List (Nat × α)) : ∀ l, puts l (e ++ f) = puts (puts l e) f := by
  induction e with
  | nil => intro l; rfl
  | cons p e ih => intro l; obtain ⟨k, v⟩ := p; simp only [List.cons_append, puts, ih]
theorem slot_blkW (l : List (Nat × List It)) : ∀ (st : St) (t : Nat), St.slot (puts st (blkW l)) t = st.slot t := by
  induction l with
  | nil => intro st t; rfl
  | cons p l ih =>
    intro st t
    have := ih (puts st [(2 * p.1 + 1, .bl p.2)]) t
    rw [slot_put_blk] at this
    exact this
/-- The block's cells behind such writes. -/
def lastB : List (Nat × List It) → Nat → Option (List It)
  | [], _ => none
  | p :: l, id => match lastB l id with
    | some r => some r
    | none => if p.1 = id then some p.2 else none
theorem blk_blkW (l : List (Nat × List It)) : ∀ (st : St) (id : Nat), St.blk (puts st (blkW l)) id = match lastB l id with | some r => some r | none => st.blk id := by
  induction l with
  | nil => intro st id; rfl
  | cons p l ih =>
    intro st id
    have := ih (puts st [(2 * p.1 + 1, .bl p.2)]) id
    rw [blk_put_blk] at this
    simp only [lastB]
    refine this.trans ?_
    cases lastB l id with
    | some r => rfl
    | none => by_cases h : p.1 = id <;> simp [h]
theorem lastB_mem : ∀ (l : List (Nat × List It)) (id : Nat) (r : List It), lastB l id = some r → ∃ p ∈ l, p.1 = id := by
  intro l
  induction l with
  | nil => intro id r h; cases h
  | cons p l ih =>
    intro id r h
    simp only [lastB] at h
    cases hl : lastB l id with
    | some u => obtain ⟨q, hq, e⟩ := ih id u hl; exact ⟨q, by simp [hq], e⟩
    | none =>
      simp only [hl] at h
      split at h
      · rename_i e; exact ⟨p, by simp, e⟩
      · cases h
/-- The part of the memory that is handed on. -/
def memOf (st : St) : List Nat → St
  | [] => []
  | id :: l => match st.blk id with
    | some b => (2 * id + 1, .bl b) :: memOf st l
    | none => memOf st l
theorem blk_memOf (st : St) : ∀ (l : List Nat) (id : Nat), (memOf st l).blk id = if id ∈ l then st.blk id else none := by
  intro l
  induction l with
  | nil => intro id; rfl
  | cons j l ih =>
    intro id
    simp only [memOf]
    cases hj : st.blk j with
    | none =>
      simp only [ih id]
      by_cases h : id = j
      · subst h; simp [hj]
      · simp [h]
    | some b =>
      by_cases h : id = j
      · subst h
        simp only [St.blk, look, beq_self_eq_true, if_true, List.mem_cons, true_or]
        unfold St.blk at hj
        exact hj.symm
      · have : ¬ 2 * j + 1 = 2 * id + 1 := by omega
        have e : St.blk ((2 * j + 1, .bl b) :: memOf st l) id = (memOf st l).blk id := by
          simp only [St.blk, look, beq_iff_eq, this, if_false]
        rw [e, ih id]
        simp [h]

theorem Sim.call {ρ : Rho} {N : Nat} {st : St} {a : Act} {w w' : World} (h : Sim ρ N st a w) {ids : List Nat} {wr news : List (Nat × List It)} {ρ' : Rho}
    (hE : Ext (fun id => if ((memOf st ids).blk id).isSome then ρ id else none) w ρ' w') (hM : Mem ρ' (puts (memOf st ids) (blkW (wr ++ news))) w')
    (hwr : ∀ p ∈ wr, ((memOf st ids).blk p.1).isSome = true) (hnew : ∀ p ∈ news, st.blk p.1 = none) :
    ∃ ρ'', Ext ρ w ρ'' w' ∧ ρ'.le ρ'' ∧ Sim ρ'' N (puts st (blkW (wr ++ news))) a w' := by
  have hb := fun id => blk_memOf st ids id
  have old : ∀ id q, ρ' id = some q → ∀ q', ρ id = some q' → ((memOf st ids).blk id).isSome = true ∧ q = q' := by
    intro id q h1 q' h2
    obtain ⟨l, hl⟩ := hM.dom id q h1
    have his : ((memOf st ids).blk id).isSome = true := by
      rw [blk_blkW] at hl
      cases hlast : lastB (wr ++ news) id with
      | none => simp only [hlast] at hl; simp [hl]
      | some r =>
        obtain ⟨p, hp, e⟩ := lastB_mem _ _ _ hlast
        rcases List.mem_append.1 hp with hp | hp
        · have := hwr p hp; rw [e] at this; exact this
        · have := hnew p hp
          rw [e] at this
          obtain ⟨l', hl'⟩ := h.dom id q' h2
          rw [this] at hl'; cases hl'
    refine ⟨his, ?_⟩
    have := hE.le id q' (by simp [his, h2])
    rw [h1] at this
    exact Option.some.inj this
  have le1 : ρ'.le (fun id => match ρ id with | some q => some q | none => ρ' id) := by
    intro id q hq
    simp only
    cases h0 : ρ id with
    | none => exact hq
    | some q' => rw [(old id q hq q' h0).2]
  have le2 : ρ.le (fun id => match ρ id with | some q => some q | none => ρ' id) := by
    intro id q hq
    simp only [hq]
  have newb : ∀ id b o, ρ id = none → ρ' id = some (b, o) → w.heap.size ≤ b := fun id b o h0 h1 => hE.new id b o (by simp [h0]) h1
  have kept : ∀ b, b < w.heap.size → ¬ Own (fun id => if ((memOf st ids).blk id).isSome then ρ id else none) b → w'.heap[b]? = w.heap[b]? := hE.keep.block
  refine ⟨_, ⟨le2, ?_, ?_⟩, le1, ?_⟩
  · intro id b o h0 h1
    simp only [h0] at h1
    exact newb id b o h0 h1
  · refine ⟨hE.keep.os, hE.keep.tape, hE.keep.output, hE.keep.size, fun k hk hD => kept k hk ?_⟩
    rintro ⟨id, ho, hq⟩
    simp only at hq
    split at hq
    · exact hD ⟨id, ho, hq⟩
    · cases hq
  · constructor
    · intro t x hx
      rw [slot_blkW] at hx
      exact SV.val_le le2 _ _ (h.slots t x hx)
    · exact h.size
    · constructor
      intro id l hl
      rw [blk_blkW] at hl
      cases hlast : lastB (wr ++ news) id with
      | some r =>
        simp only [hlast, Option.some.injEq] at hl
        subst hl
        obtain ⟨b, o, vs, h1, h2, h3⟩ := hM.ok.blk id r (by rw [blk_blkW, hlast])
        exact ⟨b, o, vs, le1 _ _ h1, conc_le le1 _ _ h2, h3⟩
      | none =>
        simp only [hlast] at hl
        by_cases hin : id ∈ ids
        · obtain ⟨b, o, vs, h1, h2, h3⟩ := hM.ok.blk id l (by rw [blk_blkW, hlast, hb, if_pos hin]; exact hl)
          exact ⟨b, o, vs, le1 _ _ h1, conc_le le1 _ _ h2, h3⟩
        · obtain ⟨b, o, vs, h1, h2, h3⟩ := h.mem.blk id l hl
          refine ⟨b, o, vs, le2 _ _ h1, conc_le le2 _ _ h2, h3.of_kept hE.keep.size (kept b h3.1 ?_)⟩
          rintro ⟨id', ho', hq'⟩
          simp only at hq'
          split at hq'
          · rename_i his
            have := h.inj.inj id' id b 0 o ho' hq' h1
            subst this
            rw [hb, if_neg hin] at his
            cases his
          · cases hq'
    · constructor
      intro id id' b o o' ho h1 h2
      cases e1 : ρ id with
      | some q1 =>
        simp only [e1, Option.some.injEq] at h1
        subst h1
        cases e2 : ρ id' with
        | some q2 => simp only [e2, Option.some.injEq] at h2; subst h2; exact h.inj.inj id id' b o o' ho e1 e2
        | none =>
          simp only [e2] at h2
          have := newb id' b o' e2 h2
          have := h.lt e1
          omega
      | none =>
        simp only [e1] at h1
        cases e2 : ρ id' with
        | some q2 =>
          simp only [e2, Option.some.injEq] at h2
          subst h2
          have := newb id b o e1 h1
          have := h.lt e2
          omega
        | none => simp only [e2] at h2; exact hM.inj.inj id id' b o o' ho h1 h2
    · intro id q hq
      rw [blk_blkW]
      cases hlast : lastB (wr ++ news) id with
      | some r => exact ⟨r, rfl⟩
      | none =>
        cases e1 : ρ id with
        | some q1 => exact h.dom id q1 e1
        | none =>
          simp only [e1] at hq
          obtain ⟨l, hl⟩ := hM.dom id q hq
          rw [blk_blkW, hlast, hb] at hl
          simp only at hl
          split at hl
          · exact ⟨l, hl⟩
          · cases hl
    · exact h.calm
/-- The blocks that a row of cells names. -/
def idsIt : List It → List Nat
  | [] => []
  | .p id _ :: l => id :: idsIt l
  | .s id _ _ _ :: l => id :: idsIt l
  | .f _ caps :: l => caps.map (·.1) ++ idsIt l
  | .v _ :: l => idsIt l
  | .w _ _ :: l => idsIt l
def idsAV : List AV → List Nat
  | [] => []
  | x :: l => idsIt x.its ++ idsAV l
theorem capVals_on {ρ ρ' : Rho} : ∀ (l : List (Nat × Nat)) (vs : List Value), (∀ id ∈ l.map (·.1), ∀ q, ρ id = some q → ρ' id = some q) → capVals ρ l = some vs → capVals ρ' l = some vs := by
  intro l
  induction l with
  | nil => intro vs _ h; exact h
  | cons c l ih =>
    intro vs hon h
    simp only [capVals] at h ⊢
    split at h
    · rename_i q us hq hus
      rw [hon c.1 (by simp) q hq, ih us (fun id hid => hon id (by simp only [List.map_cons, List.mem_cons]; exact .inr hid)) hus]
      exact h
    · cases h
theorem conc_on {ρ ρ' : Rho} : ∀ (l : List It) (vs : List Value), (∀ id ∈ idsIt l, ∀ q, ρ id = some q → ρ' id = some q) → conc ρ l = some vs → conc ρ' l = some vs := by
  intro l
  induction l with
  | nil => intro vs _ h; exact h
  | cons i l ih =>
    intro vs hon h
    obtain ⟨a, b, ha, hb, rfl⟩ := conc_cons h
    cases i with
    | v x => exact conc_mk ha (ih b (fun id hid => hon id hid) hb)
    | w k n => exact conc_mk ha (ih b (fun id hid => hon id hid) hb)
    | p id off =>
      refine conc_mk ?_ (ih b (fun j hj => hon j (by simp [idsIt, hj])) hb)
      simp only [It.cs] at ha ⊢
      split at ha
      · rename_i q hq; rw [hon id (by simp [idsIt]) q hq]; exact ha
      · cases ha
    | s id off len cap =>
      refine conc_mk ?_ (ih b (fun j hj => hon j (by simp [idsIt, hj])) hb)
      simp only [It.cs] at ha ⊢
      split at ha
      · rename_i q hq; rw [hon id (by simp [idsIt]) q hq]; exact ha
      · cases ha
    | f fn caps =>
      refine conc_mk ?_ (ih b (fun j hj => hon j (by simp [idsIt, hj])) hb)
      simp only [It.cs] at ha ⊢
      split at ha
      · rename_i us hus
        rw [capVals_on caps us (fun j hj => hon j (by simp only [idsIt, List.mem_append]; exact .inl hj)) hus]; exact ha
      · cases ha
theorem AV.val_on {ρ ρ' : Rho} {x : AV} {v : Value} (hon : ∀ id ∈ idsIt x.its, ∀ q, ρ id = some q → ρ' id = some q) (h : x.val ρ = some v) : x.val ρ' = some v := by
  unfold AV.val at h ⊢
  cases hc : conc ρ x.its with
  | none => simp [hc] at h
  | some vs => rw [hc] at h; rw [conc_on _ _ hon hc]; exact h
theorem vals_on {ρ ρ' : Rho} : ∀ (l : List AV) (vs : List Value), (∀ id ∈ idsAV l, ∀ q, ρ id = some q → ρ' id = some q) → vals ρ l = some vs → vals ρ' l = some vs := by
  intro l
  induction l with
  | nil => intro vs _ h; exact h
  | cons x l ih =>
    intro vs hon h
    simp only [vals] at h ⊢
    split at h
    · rename_i v us hv hus
      rw [AV.val_on (fun id hid => hon id (by simp [idsAV, hid])) hv, ih us (fun id hid => hon id (by simp [idsAV, hid])) hus]; exact h
    · cases h
/-- What is handed on names nothing that is not. -/
def closedB (st : St) (ids : List Nat) : Bool := ids.all fun id => match st.blk id with
  | some l => (idsIt l).all fun j => ids.contains j
  | none => true
theorem Sim.on {ρ : Rho} {N : Nat} {st : St} {a : Act} {w : World} (h : Sim ρ N st a w) {ids : List Nat} {id : Nat} (hid : id ∈ ids) {q : Nat × Nat} (hq : ρ id = some q) :
    (fun id => if ((memOf st ids).blk id).isSome then ρ id else none) id = some q := by
  obtain ⟨l, hl⟩ := h.dom id q hq
  simp only [blk_memOf, if_pos hid, hl, Option.isSome_some, if_true, hq]
theorem Sim.handed {ρ : Rho} {N : Nat} {st : St} {a : Act} {w : World} (h : Sim ρ N st a w) (ids : List Nat) (hcl : closedB st ids = true) : Mem (fun id => if ((memOf st ids).blk id).isSome then ρ id else none) (memOf st ids) w := by
  have hb := fun id => blk_memOf st ids id
  have sub : ∀ id q, (if ((memOf st ids).blk id).isSome then ρ id else none) = some q → ρ id = some q := by
    intro id q hq; split at hq
    · exact hq
    · cases hq
  refine ⟨⟨fun id l hl => ?_⟩, ⟨fun id id' b o o' ho h1 h2 => h.inj.inj id id' b o o' ho (sub _ _ h1) (sub _ _ h2)⟩, fun id q hq => ?_⟩
  · rw [hb] at hl
    split at hl
    · rename_i hin
      obtain ⟨b, o, vs, h1, h2, h3⟩ := h.mem.blk id l hl
      refine ⟨b, o, vs, h.on hin h1, conc_on l vs (fun j hj q hq => h.on ?_ hq) h2, h3⟩
      unfold closedB at hcl
      rw [List.all_eq_true] at hcl
      have := hcl id hin
      simp only [hl, List.all_eq_true] at this
      simpa using this j hj
    · cases hl
  · split at hq
    · rename_i his; exact Option.isSome_iff_exists.1 his
    · cases hq
end Go.Eng
