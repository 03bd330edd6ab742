/-
  From a call's outcome to the statement, 3: arguments of six words a number.
-/
import Derived.Test.YtkpihidjolfkoaaLiftB
import Derived.Test.YtkpihidjolfkoaaEngK
namespace Go.Eng
open Go Go.RowKit Go.ChangeShapes Go.WideShapes Go.Wd

section
variable {H : Type} {enc : TypeId × Value → H} {P : Program}
theorem wOk_u64 {v : Value} (h : wOk v (some .u64) = true) : ∃ n : Nat, n < 18446744073709551616 ∧ v = .int .u64 (n : Int) := by
  unfold wOk at h
  split at h
  · rename_i k n k' e
    cases e
    simp only [Bool.and_eq_true, decide_eq_true_eq] at h
    obtain ⟨rfl, h2⟩ := h
    obtain ⟨h3, h4⟩ := bounds_u64 h2
    exact ⟨n.toNat, by omega, by congr 1; omega⟩
  · rename_i e; cases e
  · cases h
theorem cells_nums : ∀ (n : Nat) (vs : List Value), fitsW vs (List.replicate n (some .u64)) = true → ∃ d : Nat → Nat, (∀ i, d i < 18446744073709551616) ∧ vs = (List.range n).map fun i => Value.int .u64 ((d i : Nat) : Int) := by
  intro n
  induction n with
  | zero => intro vs h; cases vs with
    | nil => exact ⟨fun _ => 0, fun _ => by show 0 < 18446744073709551616; omega, rfl⟩
    | cons v vs => cases h
  | succ n ih =>
    intro vs h
    rw [List.replicate_succ] at h
    cases vs with
    | nil => cases h
    | cons v vs =>
      simp only [fitsW, Bool.and_eq_true] at h
      obtain ⟨x, hx, rfl⟩ := wOk_u64 h.1
      obtain ⟨d, hd, rfl⟩ := ih vs h.2
      refine ⟨fun i => match i with | 0 => x | i + 1 => d i, fun i => by cases i <;> simp_all, ?_⟩
      rw [List.range_succ_eq_map, List.map_cons, List.map_map]
      rfl
theorem cells_words (n : Nat) (vs : List Value) (h : fitsW vs (List.replicate n (some .u64)) = true) : ∃ x, x < pw n ∧ vs = words n x := by
  obtain ⟨d, hd, rfl⟩ := cells_nums n vs h
  exact ⟨num d n, num_lt n fun i _ => hd i, (words_map n fun i _ => hd i).symm⟩
/-- Numbers of six words, one behind another, and a rest. -/
theorem cells_six : ∀ (m : Nat) (ls : List K) (vs : List Value), fitsW vs (List.replicate (6 * m) (some .u64) ++ ls) = true →
    ∃ (l : List Nat) (rest : List Value), l.length = m ∧ (∀ x ∈ l, x < pw 6) ∧ fitsW rest ls = true ∧ ∀ ρ its, conc ρ its = some rest → conc ρ (l.map (It.w 6) ++ its) = some vs := by
  intro m
  induction m with
  | zero => intro ls vs h; exact ⟨[], vs, rfl, by simp, h, fun ρ its h => h⟩
  | succ m ih =>
    intro ls vs h
    rw [show 6 * (m + 1) = 6 + 6 * m by omega, ← List.replicate_append_replicate, List.append_assoc] at h
    obtain ⟨a, b, rfl, h1, h2⟩ := fitsW_split _ _ _ h
    obtain ⟨x, hx, rfl⟩ := cells_words 6 a h1
    obtain ⟨l, rest, e1, e2, e3, e4⟩ := ih ls b h2
    refine ⟨x :: l, rest, by simp [e1], by simpa using ⟨hx, e2⟩, e3, fun ρ its hi => ?_⟩
    simp only [List.map_cons, List.cons_append, conc, It.cs, e4 ρ its hi]
theorem cells_agg {v : Value} {cs : Array Value} (h : v = .agg cs) : v.cells.toList = cs.toList := by subst h; rfl
/-- An argument of such a type. -/
theorem open_six {W : World} {base : Nat} {t : TypeId} {v : Value} {d : DataW H} {ps : List MemPlace} (m : Nat) {u : TypeDesc} (hu : P.underlying t = some u) (ha : aggD u = true)
    (hk : flat P 8 t = some (List.replicate (6 * m) (some .u64))) (hc : P.cellsOf t = 6 * m) (hv : Value.okWide P W .any base t v) (ht : DataW.Trod enc P W 0 (fun _ => true) true t v d ps) :
    ∃ l : List Nat, l.length = m ∧ (∀ x ∈ l, x < pw 6) ∧ ∀ ρ, AV.val ρ ⟨true, l.map (It.w 6)⟩ = some v := by
  obtain ⟨fuel, hx⟩ := ht
  obtain ⟨_, hf⟩ := trod_fits 8 t _ hk (by rw [hc]; simp) fuel _ _ hx
  have : ∃ cs, v = .agg cs := by
    unfold Value.okWide at hv
    rw [hu] at hv
    cases u <;> first | (obtain ⟨cs, rfl, _⟩ := hv; exact ⟨cs, rfl⟩) | (cases ha)
  obtain ⟨cs, rfl⟩ := this
  have hf : fitsW cs.toList (List.replicate (6 * m) (some .u64)) = true := hf
  rw [← List.append_nil (List.replicate _ _)] at hf
  obtain ⟨l, rest, e1, e2, e3, e4⟩ := cells_six m [] _ hf
  cases rest with
  | cons x r => cases e3
  | nil =>
    refine ⟨l, e1, e2, fun ρ => ?_⟩
    have := e4 ρ [] rfl
    rw [List.append_nil] at this
    simp [AV.val, this]
/-- Such an argument with a bool behind its numbers. -/
theorem open_sixb {W : World} {base : Nat} {t : TypeId} {v : Value} {d : DataW H} {ps : List MemPlace} (m : Nat) {u : TypeDesc} (hu : P.underlying t = some u) (ha : aggD u = true)
    (hk : flat P 8 t = some (List.replicate (6 * m) (some .u64) ++ [none])) (hc : P.cellsOf t = 6 * m + 1) (hv : Value.okWide P W .any base t v) (ht : DataW.Trod enc P W 0 (fun _ => true) true t v d ps) :
    ∃ (l : List Nat) (b : Bool), l.length = m ∧ (∀ x ∈ l, x < pw 6) ∧ ∀ ρ, AV.val ρ ⟨true, l.map (It.w 6) ++ [.v (.bool b)]⟩ = some v := by
  obtain ⟨fuel, hx⟩ := ht
  obtain ⟨_, hf⟩ := trod_fits 8 t _ hk (by rw [hc]; simp) fuel _ _ hx
  have : ∃ cs, v = .agg cs := by
    unfold Value.okWide at hv
    rw [hu] at hv
    cases u <;> first | (obtain ⟨cs, rfl, _⟩ := hv; exact ⟨cs, rfl⟩) | (cases ha)
  obtain ⟨cs, rfl⟩ := this
  obtain ⟨l, rest, e1, e2, e3, e4⟩ := cells_six m [none] cs.toList hf
  match rest, e3, e4 with
  | _ :: _ :: _, e3, _ => simp [fitsW] at e3
  | [r], e3, e4 =>
    have : ∃ b, r = .bool b := by
      simp only [fitsW, Bool.and_true] at e3
      unfold wOk at e3
      split at e3
      · rename_i h; cases h
      · exact ⟨_, rfl⟩
      · cases e3
    obtain ⟨b, rfl⟩ := this
    refine ⟨l, b, e1, e2, fun ρ => ?_⟩
    have := e4 ρ [.v (.bool b)] rfl
    simp [AV.val, this]
theorem five_of {α : Type} {l : List α} {n : Nat} (h : l.length = n + 1) : ∃ a l', l = a :: l' ∧ l'.length = n := by
  cases l with
  | nil => cases h
  | cons a l => exact ⟨a, l, rfl, by simpa using h⟩
/-- A run of a law. -/
theorem gives_of_run {P : Program} (hm : P.follows .mixedOrders = true) {tab : TypeId → Option Ty} (htab : ∀ t d, tab t = some d → TyOk P t d) {call : CallT} (hcall : CallOk P call) {fuel : Nat} {f : FuncId} {d : Fn1} (hf : FnOk P f d)
    {args : List AV} {nid : Nat} {hints : List (Nat × Bool)} {out : Out} (h : runFn tab call fuel d args [] nid hints = some out) (hob : ∀ p ∈ out.ob, p) {vs : List Value} (hv : vals rho0 args = some vs) {v : Value} (hval : ∀ ρ u, out.val.val ρ = some u → u = v) (w : World) :
    Gives P f vs.toArray v w := by
  refine (runFn_calls hm htab hcall hf h hob hv (mem_rho0 w)).mono ?_
  rintro e w' ⟨u, rfl, ρ', hE, hu, _⟩
  exact ⟨by rw [hval ρ' u hu], hE.below fun b ⟨id, _, hq⟩ => by cases hq⟩
/-- Of what computes only. -/
theorem gives_of_pure {P : Program} {f : FuncId} {args : List Value} {v : Value} (h : Pure P f args v) (hf : ∀ a w, (callFunc f a).run P w = .ok (.enter f a) w) (w : World) : Gives P f args.toArray v w := by
  rcases h w with ⟨u, h1, _⟩ | ⟨_, h2⟩
  · rw [hf] at h1; cases h1
  · refine h2.mono ?_
    rintro e w' ⟨u, rfl, rfl, hb⟩
    exact ⟨rfl, hb⟩
end
end Go.Eng
