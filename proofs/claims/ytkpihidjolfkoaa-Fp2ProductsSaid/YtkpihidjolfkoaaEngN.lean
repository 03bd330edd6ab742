/-
  THE ENGINE, part N: pieces of code one behind another.
-/
import Derived.Test.YtkpihidjolfkoaaEngM
namespace Go.Eng
open Go Go.RowKit

/-- Pieces, and a rest. -/
def chain : List Code → Code → Code
  | [], r => r
  | c :: l, r => .seq c (chain l r)
def runs (E : Eng) (n : Nat) : List Code → Xs → Option (Xk × Xs)
  | [], x => some (.n, x)
  | c :: l, x => match exec E n c x with
    | some (.n, y) => runs E n l y
    | r => r
theorem runs_kept {E : Eng} {n : Nat} : ∀ (l : List Code) (x : Xs) (k : Xk) (y : Xs), runs E n l x = some (k, y) → Kept x y := by
  intro l
  induction l with
  | nil => intro x k y h; cases h; exact .refl _
  | cons c l ih =>
    intro x k y h
    simp only [runs] at h
    split at h
    · rename_i z hz; exact (exec_kept _ _ _ _ _ hz).trans (ih _ _ _ h)
    · exact exec_kept _ _ _ _ _ h
theorem At.runs {P : Program} {E : Eng} (hm : P.follows .mixedOrders = true) (htab : ∀ t d, E.tab t = some d → TyOk P t d) (hcall : CallOk P E.call) {n : Nat} {rest : Code} {Q : Exit → Act → World → Prop} {ρ0 : Rho} {w0 : World} : ∀ (l : List Code) (x : Xs) (k : Xk) (y : Xs), Eng.runs E n l x = some (k, y) → (∀ q ∈ y.obs, q) →
    ∀ (a : Act) (w : World), At E.N ρ0 w0 x.st a w → (∀ a' w', At E.N ρ0 w0 y.st a' w' → Exit.then (rest.wp P Q) Q k.exit a' w') → (chain l rest).wp P Q a w := by
  intro l
  induction l with
  | nil => intro x k y h hob a w hA hQ; cases h; exact hQ a w hA
  | cons c l ih =>
    intro x k y h hob a w hA hQ
    simp only [Eng.runs] at h
    split at h
    · rename_i z hz
      refine wp_seq (At.exec hm htab hcall hz (fun q hq => hob q ((runs_kept _ _ _ _ h).1 q hq)) hA fun a' w' hA' => ?_)
      exact ih z k y h hob a' w' hA' hQ
    · rename_i hne
      refine wp_seq (At.exec hm htab hcall h hob hA fun a' w' hA' => ?_)
      have := hQ a' w' hA'
      cases k with
      | n => exact (hne y h).elim
      | e id => exact this
      | r => exact this
/-- A run of pieces told by its ends. -/
def probes (E : Eng) (n : Nat) (l : List Code) (st : St) (nid : Nat) (hints : List (Nat × Bool)) (ks : List Nat) : Option (Nat × List Prop × List (Option Ct)) :=
  match Eng.runs E n l { st := st, nid := nid, hints := hints, obs := [], dirty := [] } with
  | some (k, y) => some (k.code, y.obs, ks.map (look y.st))
  | none => none
theorem At.probes {P : Program} {E : Eng} (hm : P.follows .mixedOrders = true) (htab : ∀ t d, E.tab t = some d → TyOk P t d) (hcall : CallOk P E.call) {n : Nat} {l : List Code} {rest : Code} {st : St} {nid : Nat} {hints : List (Nat × Bool)} {canon : St} {kc : Nat} {ob : List Prop}
    (h : Eng.probes E n l st nid hints (canon.map (·.1)) = some (kc, ob, canon.map fun p => some p.2)) (hob : ∀ q ∈ ob, q)
    {ρ0 : Rho} {w0 : World} {a : Act} {w : World} (hA : At E.N ρ0 w0 st a w) (keep : List Nat) (h2 : ∀ id ∈ keep, ∃ l, canon.blk id = some l) (h3 : keepsB canon keep = true) (h4 : ∀ id q, ρ0 id = some q → id ∈ keep)
    {Q : Exit → Act → World → Prop} (hQ : ∀ a' w', At E.N ρ0 w0 canon a' w' → Exit.then (rest.wp P Q) Q (exitOf kc) a' w') : (chain l rest).wp P Q a w := by
  unfold Eng.probes at h
  split at h
  · rename_i k y hx
    simp only [Option.some.injEq, Prod.mk.injEq] at h
    obtain ⟨h5, h6, h7⟩ := h
    subst h6
    refine At.runs (x := { st := st, nid := nid, hints := hints, obs := [], dirty := [] }) hm htab hcall l k y hx hob a w hA fun a' w' hA' => ?_
    rw [← exit_code, h5]
    refine hQ a' w' (hA'.forget keep (fun j v hj => ?_) h2 h3 h4)
    have hmem := look_some_mem hj
    have : ∀ (l : St), l.map (fun p => look y.st p.1) = l.map (fun p => some p.2) → ∀ p ∈ l, look y.st p.1 = some p.2 := by
      intro l
      induction l with
      | nil => intro _ p hp; cases hp
      | cons q l ih =>
        intro hl p hp
        simp only [List.map_cons, List.cons.injEq] at hl
        rcases List.mem_cons.1 hp with rfl | hp
        · exact hl.1
        · exact ih hl.2 p hp
    rw [List.map_map] at h7
    exact this canon h7 _ hmem
  · cases h
end Go.Eng
