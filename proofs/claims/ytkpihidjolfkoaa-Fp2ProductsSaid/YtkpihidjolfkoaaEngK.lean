/-
  THE ENGINE, part K: what a run leaves, forgotten in part; loops by an invariant; tables of contracts.
-/
import Derived.Test.YtkpihidjolfkoaaEngJ
namespace Go.Eng
open Go Go.RowKit

/-- The frame and the world stand for the state, and the world has come from w0 in good order. -/
def At (N : Nat) (ρ0 : Rho) (w0 : World) (st : St) (a : Act) (w : World) : Prop := ∃ ρ, Ext ρ0 w0 ρ w ∧ Sim ρ N st a w
theorem At.exec {P : Program} {E : Eng} (hm : P.follows .mixedOrders = true) (htab : ∀ t d, E.tab t = some d → TyOk P t d) (hcall : CallOk P E.call) {n : Nat} {c : Code} {x : Xs} {k : Xk} {y : Xs} (h : exec E n c x = some (k, y)) (hob : ∀ q ∈ y.obs, q)
    {ρ0 : Rho} {w0 : World} {a : Act} {w : World} (hA : At E.N ρ0 w0 x.st a w) {Q : Exit → Act → World → Prop} (hQ : ∀ a' w', At E.N ρ0 w0 y.st a' w' → Q k.exit a' w') : c.wp P Q a w := by
  obtain ⟨ρ, hE, hs⟩ := hA
  exact (exec_wp hm htab hcall n c x k y h hob ρ a w hs Q fun ρ' a' w' hE' hs' => hQ a' w' ⟨ρ', hE.trans hE', hs'⟩).1

/-! ### forgetting -/
def idsSV : SV → List Nat
  | .one x => idsIt x.its
  | .tup l => idsAV l
def idsCt : Ct → List Nat
  | .sl x => idsSV x
  | .bl l => idsIt l
def keepsB (st : St) (keep : List Nat) : Bool := (blkIds st).all (fun id => keep.contains id) && st.all fun p => (idsCt p.2).all fun id => keep.contains id
theorem SV.val_on {ρ ρ' : Rho} {x : SV} {v : Value} (hon : ∀ id ∈ idsSV x, ∀ q, ρ id = some q → ρ' id = some q) (h : x.val ρ = some v) : x.val ρ' = some v := by
  cases x with
  | one x => exact AV.val_on hon h
  | tup l =>
    simp only [SV.val] at h ⊢
    split at h
    · rename_i vs hvs; rw [vals_on l vs hon hvs]; exact h
    · cases h
theorem look_mem' {α : Type} : ∀ (l : List (Nat × α)) (k : Nat) (v : α), look l k = some v → (k, v) ∈ l := by
  intro l
  induction l with
  | nil => intro k v h; cases h
  | cons p l ih =>
    intro k v h
    obtain ⟨k', v'⟩ := p
    simp only [look, beq_iff_eq] at h
    split at h
    · rename_i e; cases h; subst e; exact List.mem_cons_self
    · exact List.mem_cons_of_mem _ (ih k v h)
/-- Less is told of the same frame and world: the slots and blocks of st', which st has as well; what st' names, it has. -/
theorem At.forget {N : Nat} {ρ0 : Rho} {w0 : World} {st st' : St} {a : Act} {w : World} (h : At N ρ0 w0 st a w) (keep : List Nat) (h1 : ∀ k c, look st' k = some c → look st k = some c) (h2 : ∀ id ∈ keep, ∃ l, st'.blk id = some l)
    (h3 : keepsB st' keep = true) (h4 : ∀ id q, ρ0 id = some q → id ∈ keep) : At N ρ0 w0 st' a w := by
  obtain ⟨ρ, hE, hs⟩ := h
  simp only [keepsB, Bool.and_eq_true, List.all_eq_true, List.contains_eq_mem, decide_eq_true_eq] at h3
  have on : ∀ id q, ρ id = some q → id ∈ keep → (fun id => if id ∈ keep then ρ id else none) id = some q := fun id q hq hk => by simp only [hk, if_true, hq]
  have sub : ∀ id q, (fun id => if id ∈ keep then ρ id else none) id = some q → ρ id = some q ∧ id ∈ keep := by
    intro id q hq
    simp only at hq
    split at hq
    · rename_i hk; exact ⟨hq, hk⟩
    · cases hq
  refine ⟨fun id => if id ∈ keep then ρ id else none, ⟨fun id q hq => on id q (hE.le id q hq) (h4 id q hq), fun id b o h0 hq => hE.new id b o h0 (sub _ _ hq).1, hE.keep⟩, ?_⟩
  constructor
  · intro t x hx
    unfold St.slot at hx
    split at hx
    · rename_i y hy
      cases hx
      refine SV.val_on (fun id hid q hq => on id q hq (h3.2 _ (look_mem' _ _ _ hy) id hid)) (hs.slots t x ?_)
      unfold St.slot
      rw [h1 _ _ hy]
    · cases hx
  · exact hs.size
  · constructor
    intro id l hl
    unfold St.blk at hl
    split at hl
    · rename_i m hm
      cases hl
      have hb : st.blk id = some l := by unfold St.blk; rw [h1 _ _ hm]
      obtain ⟨b, o, vs, e1, e2, e3⟩ := hs.mem.blk id l hb
      have hid : id ∈ keep := h3.1 id (by
        unfold blkIds
        rw [List.mem_filterMap]
        refine ⟨_, look_mem' _ _ _ hm, ?_⟩
        simp only
        rw [if_pos (by omega)]
        congr 1; omega)
      exact ⟨b, o, vs, on id _ e1 hid, conc_on l vs (fun j hj q hq => on j q hq (h3.2 _ (look_mem' _ _ _ hm) j hj)) e2, e3⟩
    · cases hl
  · exact ⟨fun id id' b o o' ho e1 e2 => hs.inj.inj id id' b o o' ho (sub _ _ e1).1 (sub _ _ e2).1⟩
  · intro id q hq; exact h2 id (sub _ _ hq).2
  · exact hs.calm

/-! ### loops -/
theorem loop_rule {P : Program} {N : Nat} {ρ0 : Rho} {w0 : World} {body : Code} {Q : Exit → Act → World → Prop} {ι : Type} (Inv : ι → Prop) (x : ι → St) (μ : ι → Nat)
    (h : ∀ i, Inv i → ∀ a w, At N ρ0 w0 (x i) a w → body.wp P (Exit.then (fun a' w' => ∃ i', Inv i' ∧ μ i' < μ i ∧ At N ρ0 w0 (x i') a' w') Q) a w) :
    ∀ i, Inv i → ∀ a w, At N ρ0 w0 (x i) a w → (Code.loop body).wp P Q a w := by
  have key : ∀ n i, μ i < n → Inv i → ∀ a w, At N ρ0 w0 (x i) a w → Code.rounds P body Q n a w := by
    intro n
    induction n with
    | zero => intro i hi; omega
    | succ n ih =>
      intro i hi hI a w hA
      rw [rounds_succ]
      refine wp_mono (h i hI a w hA) fun e a' w' hq => ?_
      cases e with
      | normal => obtain ⟨i', h1, h2, h3⟩ := hq; exact ih i' (by omega) h1 a' w' h3
      | _ => exact hq
  intro i hI a w hA
  exact wp_loop_rounds (μ i + 1) (key _ i (by omega) hI a w hA)

/-! ### a function that only computes -/
/-- Called with these values the function hands back v, and of what was there before nothing has turned. -/
def Pure (P : Program) (f : FuncId) (args : List Value) (v : Value) : Prop := ∀ w, Invoked P f args.toArray w fun u w' => u = v ∧ Below w.heap.size w w'
/-- A row of a table: for some arguments the answer and what is owed. -/
structure Row where
  f : FuncId
  ans : List AV → Option (SV × List Prop)
def RowOk (P : Program) (r : Row) : Prop := ∀ (args : List AV) (s : SV) (ob : List Prop), r.ans args = some (s, ob) → (∀ p ∈ ob, p) → ∀ (ρ : Rho) (vs : List Value), vals ρ args = some vs → ∃ v, s.val rho0 = some v ∧ Pure P r.f vs v
def findRow : List Row → FuncId → List AV → Option (SV × List Prop)
  | [], _, _ => none
  | r :: l, f, args => if r.f == f then r.ans args else findRow l f args
/-- The calls of a table. -/
def tableT (l : List Row) : CallT := fun f args _ _ => match findRow l f args with
  | some (s, ob) => some { val := s, wr := [], news := [], ob := ob }
  | none => none
theorem findRow_spec : ∀ (l : List Row) (f : FuncId) (args : List AV) (s : SV) (ob : List Prop), findRow l f args = some (s, ob) → ∃ r ∈ l, r.f = f ∧ r.ans args = some (s, ob) := by
  intro l
  induction l with
  | nil => intro f args s ob h; cases h
  | cons r l ih =>
    intro f args s ob h
    simp only [findRow, beq_iff_eq] at h
    split at h
    · rename_i e; exact ⟨r, by simp, e, h⟩
    · obtain ⟨r', h1, h2⟩ := ih f args s ob h; exact ⟨r', by simp [h1], h2⟩
theorem Ext.of_below {ρ : Rho} {w w' : World} (h : Below w.heap.size w w') : Ext ρ w ρ w' :=
  ⟨.refl ρ, fun id b o h h' => (by rw [h] at h'; cases h'), h.os, h.tape, h.output, h.size, fun k hk _ => h.block k hk⟩
theorem Mem.of_below {ρ : Rho} {m : St} {w w' : World} (hM : Mem ρ m w) (h : Below w.heap.size w w') : Mem ρ m w' :=
  ⟨⟨fun id l hl => by obtain ⟨b, o, vs, h1, h2, h3⟩ := hM.ok.blk id l hl; exact ⟨b, o, vs, h1, h2, h3.of_kept h.size (h.block b h3.1)⟩⟩, hM.inj, hM.dom⟩
theorem tableT_ok {P : Program} {l : List Row} (h : ∀ r ∈ l, RowOk P r) : CallOk P (tableT l) := by
  intro f args m nid out hout hob ρ w vs hv hM hnew
  unfold tableT at hout
  split at hout
  · rename_i s ob hr
    cases hout
    obtain ⟨r, hr1, rfl, hr3⟩ := findRow_spec _ _ _ _ _ hr
    obtain ⟨v, hv1, hp⟩ := h r hr1 args s ob hr3 hob ρ vs hv
    refine (hp w).mono ?_
    rintro u w' ⟨rfl, hb⟩
    exact ⟨ρ, Ext.of_below hb, SV.val_le (rho0_le ρ) _ _ hv1, hM.of_below hb⟩
  · cases hout
/-- One table behind another. -/
def orT (a b : CallT) : CallT := fun f args m nid => match a f args m nid with
  | some out => some out
  | none => b f args m nid
theorem orT_ok {P : Program} {a b : CallT} (ha : CallOk P a) (hb : CallOk P b) : CallOk P (orT a b) := by
  intro f args m nid out hout
  unfold orT at hout
  split at hout
  · rename_i o ho; cases hout; exact ha f args m nid _ ho
  · exact hb f args m nid out hout

theorem mem_rho0 (w : World) : Mem rho0 [] w := ⟨⟨fun id l h => by cases h⟩, ⟨fun id id' b o o' _ h => by cases h⟩, fun id q h => by cases h⟩
/-- A run gives a contract. -/
theorem pure_of_run {P : Program} (hm : P.follows .mixedOrders = true) {tab : TypeId → Option Ty} (htab : ∀ t d, tab t = some d → TyOk P t d) {call : CallT} (hcall : CallOk P call) {fuel : Nat} {f : FuncId} {d : Fn1} (hf : FnOk P f d)
    {args : List AV} {nid : Nat} {hints : List (Nat × Bool)} {out : Out} (h : runFn tab call fuel d args [] nid hints = some out) (hob : ∀ p ∈ out.ob, p) {vs : List Value} (hv : vals rho0 args = some vs) {v : Value} (hval : ∀ ρ u, out.val.val ρ = some u → u = v) :
    Pure P f vs v := by
  intro w
  refine .inr ⟨hf.enter _ _, (runFn_calls hm htab hcall hf h hob hv (mem_rho0 w)).mono ?_⟩
  rintro e w' ⟨u, rfl, ρ', hE, hu, _⟩
  exact ⟨u, rfl, hval ρ' u hu, hE.below fun b ⟨id, _, hq⟩ => by cases hq⟩
end Go.Eng
