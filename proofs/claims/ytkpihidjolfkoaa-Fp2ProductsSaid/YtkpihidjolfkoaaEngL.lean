/-
  THE ENGINE, part L: a run told by its ends; pieces of code.
-/
import Derived.Test.YtkpihidjolfkoaaEngK
namespace Go.Eng
open Go Go.RowKit

def Xk.code : Xk → Nat
  | .n => 0
  | .e id => id + 2
  | .r => 1
def exitOf : Nat → Exit
  | 0 => .normal
  | 1 => .ret
  | n + 2 => .exit n
theorem exit_code (k : Xk) : exitOf k.code = k.exit := by cases k <;> rfl
/-- A run of a piece of code: how it ends, what is owed, what some keys hold then. -/
def probe (E : Eng) (n : Nat) (c : Code) (st : St) (nid : Nat) (hints : List (Nat × Bool)) (ks : List Nat) : Option (Nat × List Prop × List (Option Ct)) :=
  match exec E n c { st := st, nid := nid, hints := hints, obs := [], dirty := [] } with
  | some (k, y) => some (k.code, y.obs, ks.map (look y.st))
  | none => none
def seqL : Code → Code
  | .seq a _ => a
  | c => c
def seqR : Code → Code
  | .seq _ b => b
  | c => c
def blockIn : Code → Code
  | .block _ b => b
  | c => c
def loopIn : Code → Code
  | .loop b => b
  | c => c
theorem look_some_mem {α : Type} {l : List (Nat × α)} {k : Nat} {v : α} (h : look l k = some v) : (k, v) ∈ l := look_mem' l k v h
/-- The piece is run; what is told of its end is told of the state 'canon'. -/
theorem At.probe {P : Program} {E : Eng} (hm : P.follows .mixedOrders = true) (htab : ∀ t d, E.tab t = some d → TyOk P t d) (hcall : CallOk P E.call) {n : Nat} {c : Code} {st : St} {nid : Nat} {hints : List (Nat × Bool)} {canon : St} {kc : Nat} {ob : List Prop}
    (h : Eng.probe E n c st nid hints (canon.map (·.1)) = some (kc, ob, canon.map fun p => some p.2)) (hob : ∀ q ∈ ob, q)
    {ρ0 : Rho} {w0 : World} {a : Act} {w : World} (hA : At E.N ρ0 w0 st a w) (keep : List Nat) (h2 : ∀ id ∈ keep, ∃ l, canon.blk id = some l) (h3 : keepsB canon keep = true) (h4 : ∀ id q, ρ0 id = some q → id ∈ keep)
    {Q : Exit → Act → World → Prop} (hQ : ∀ a' w', At E.N ρ0 w0 canon a' w' → Q (exitOf kc) a' w') : c.wp P Q a w := by
  unfold Eng.probe at h
  split at h
  · rename_i k y hx
    simp only [Option.some.injEq, Prod.mk.injEq] at h
    obtain ⟨h5, h6, h7⟩ := h
    subst h6
    refine At.exec (x := { st := st, nid := nid, hints := hints, obs := [], dirty := [] }) hm htab hcall hx hob hA fun a' w' hA' => ?_
    rw [← exit_code, h5]
    refine hQ a' w' (hA'.forget keep (fun j v hj => ?_) h2 h3 h4)
    have hmem := look_some_mem hj
    have : ∀ (l : St), l.map (fun p => look y.st p.1) = l.map (fun p => some p.2) → ∀ p ∈ l, look y.st p.1 = some p.2 := by
      intro l
      induction l with
      | nil => intro _ p hp; cases hp
      | cons q l ih =>
        intro hl p hp
        simp only [List.map_cons, List.cons.injEq] at hl
        rcases List.mem_cons.1 hp with rfl | hp
        · exact hl.1
        · exact ih hl.2 p hp
    rw [List.map_map] at h7
    exact this canon h7 _ hmem
  · cases h
/-- Nothing of the caller's is told: the state at a function's head. -/
theorem At.begin {ρ : Rho} {m : St} {w : World} (hM : Mem ρ m w) (hodd : m.all (fun p => p.1 % 2 == 1) = true) {args : List AV} {vs : List Value} (hv : vals ρ args = some vs) {N : Nat} (hN : args.length ≤ N) :
    At N ρ w (initSlots 0 args (N - args.length) ++ m) { tmps := vs.toArray ++ Array.replicate (N - vs.toArray.size) undef, defers := [] } w :=
  ⟨ρ, .refl ρ w, sim_init hM hodd hv hN⟩
/-- Cells that stand for the same values, told otherwise. -/
def SameCt (c c' : Ct) : Prop := match c, c' with
  | .sl x, .sl y => ∀ ρ v, x.val ρ = some v → y.val ρ = some v
  | .bl l, .bl m => ∀ ρ vs, conc ρ l = some vs → conc ρ m = some vs
  | _, _ => False
theorem SameCt.refl (c : Ct) : SameCt c c := by cases c with
  | sl x => exact fun ρ v h => h
  | bl l => exact fun ρ vs h => h
theorem At.same {N : Nat} {ρ0 : Rho} {w0 : World} {st st' : St} {a : Act} {w : World} (h : At N ρ0 w0 st a w) (hs : ∀ k, match look st k, look st' k with | some c, some c' => SameCt c c' | none, none => True | _, _ => False) : At N ρ0 w0 st' a w := by
  obtain ⟨ρ, hE, hsim⟩ := h
  have slot : ∀ t y, st'.slot t = some y → ∃ x, st.slot t = some x ∧ ∀ ρ v, x.val ρ = some v → y.val ρ = some v := by
    intro t y hy
    have := hs (2 * t)
    unfold St.slot at hy ⊢
    cases h1 : look st (2 * t) with
    | none => cases h2 : look st' (2 * t) with
      | none => rw [h2] at hy; cases hy
      | some c => rw [h1, h2] at this; exact this.elim
    | some c => cases h2 : look st' (2 * t) with
      | none => rw [h2] at hy; cases hy
      | some c' =>
        rw [h1, h2] at this
        cases c' with
        | bl l => rw [h2] at hy; cases hy
        | sl z =>
          rw [h2] at hy
          cases hy
          cases c with
          | bl l => exact this.elim
          | sl x => exact ⟨x, rfl, this⟩
  have blk : ∀ id m, st'.blk id = some m → ∃ l, st.blk id = some l ∧ ∀ ρ vs, conc ρ l = some vs → conc ρ m = some vs := by
    intro id m hy
    have := hs (2 * id + 1)
    unfold St.blk at hy ⊢
    cases h1 : look st (2 * id + 1) with
    | none => cases h2 : look st' (2 * id + 1) with
      | none => rw [h2] at hy; cases hy
      | some c => rw [h1, h2] at this; exact this.elim
    | some c => cases h2 : look st' (2 * id + 1) with
      | none => rw [h2] at hy; cases hy
      | some c' =>
        rw [h1, h2] at this
        cases c' with
        | sl z => rw [h2] at hy; cases hy
        | bl m' =>
          rw [h2] at hy
          cases hy
          cases c with
          | sl x => exact this.elim
          | bl l => exact ⟨l, rfl, this⟩
  refine ⟨ρ, hE, ⟨fun t y hy => ?_, hsim.size, ⟨fun id m hm => ?_⟩, hsim.inj, fun id q hq => ?_, hsim.calm⟩⟩
  · obtain ⟨x, h1, h2⟩ := slot t y hy
    exact h2 _ _ (hsim.slots t x h1)
  · obtain ⟨l, h1, h2⟩ := blk id m hm
    obtain ⟨b, o, vs, e1, e2, e3⟩ := hsim.mem.blk id l h1
    exact ⟨b, o, vs, e1, h2 _ _ e2, e3⟩
  · obtain ⟨l, hl⟩ := hsim.dom id q hq
    have := hs (2 * id + 1)
    unfold St.blk at hl ⊢
    cases h1 : look st (2 * id + 1) with
    | none => rw [h1] at hl; cases hl
    | some c => cases h2 : look st' (2 * id + 1) with
      | none => rw [h1, h2] at this; exact this.elim
      | some c' =>
        rw [h1, h2] at this
        cases c with
        | sl x => rw [h1] at hl; cases hl
        | bl l' => cases c' with
          | sl z => exact this.elim
          | bl m => exact ⟨m, rfl⟩
end Go.Eng
