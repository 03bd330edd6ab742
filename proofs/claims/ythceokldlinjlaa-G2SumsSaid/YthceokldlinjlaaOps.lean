/-
  Slices of points among the arguments.
-/
import Derived.Test.YthceokldlinjlaaOpp
namespace Go.Proofs.Ythceokldlinjlaa
open Go Go.Eng Go.RowKit Go.Wd Go.ChangeShapes Go.WideShapes Go.Alg

/-! ### a memory of some blocks that are only read -/
/-- The values stand at the place. -/
def Stands (w : World) (b o : Nat) (vs : List Value) : Prop := b < w.heap.size ∧ ∀ i v, vs[i]? = some v → w.cell? ⟨b, o + i, none⟩ = some v
def memL : List (Nat × List It) → St
  | [] => []
  | (id, l) :: m => (2 * id + 1, .bl l) :: memL m
def rhoL : List (Nat × (Nat × Nat)) → Rho
  | [], _ => none
  | (id, q) :: m, x => if id = x then some q else rhoL m x
theorem blk_memL (l : List (Nat × List It)) (id : Nat) : (memL l).blk id = Eng.look l id := by
  induction l with
  | nil => rfl
  | cons p l ih =>
    obtain ⟨k, v⟩ := p
    unfold St.blk at ih ⊢
    simp only [memL, Eng.look, beq_iff_eq]
    by_cases h : k = id
    · subst h; simp
    · have e : ¬ 2 * k + 1 = 2 * id + 1 := by omega
      simp only [h, e, if_false]
      exact ih
theorem mem_rhoL {w : World} : ∀ (l : List (Nat × List It × (Nat × Nat) × List Value)), (∀ x ∈ l, x.1 < 16 ∧ conc rho0 x.2.1 = some x.2.2.2 ∧ Stands w x.2.2.1.1 x.2.2.1.2 x.2.2.2) →
    Mem (rhoL (l.map fun x => (x.1, x.2.2.1))) (memL (l.map fun x => (x.1, x.2.1))) w := by
  intro l h
  have key : ∀ (l : List (Nat × List It × (Nat × Nat) × List Value)) (id : Nat), (∃ x ∈ l, x.1 = id ∧ rhoL (l.map fun x => (x.1, x.2.2.1)) id = some x.2.2.1 ∧ Eng.look (l.map fun x => (x.1, x.2.1)) id = some x.2.1) ∨
      (rhoL (l.map fun x => (x.1, x.2.2.1)) id = none ∧ Eng.look (l.map fun x => (x.1, x.2.1)) id = none) := by
    intro l id
    induction l with
    | nil => exact .inr ⟨rfl, rfl⟩
    | cons x l ih =>
      by_cases e : x.1 = id
      · exact .inl ⟨x, List.mem_cons_self, e, by simp [rhoL, e], by simp [Eng.look, e]⟩
      · simp only [List.map_cons, rhoL, Eng.look, e, if_false, beq_iff_eq]
        rcases ih with ⟨y, hy, h⟩ | h
        · exact .inl ⟨y, List.mem_cons_of_mem _ hy, h⟩
        · exact .inr h
  refine ⟨⟨fun id its hl => ?_⟩, ⟨fun id id' b' o1 o2 _ _ ho _ _ _ _ e1 _ => ?_⟩, fun id q hq => ?_⟩
  · rw [blk_memL] at hl
    rcases key l id with ⟨x, hx, he, h1, h2⟩ | ⟨_, h2⟩
    · rw [h2] at hl; cases hl
      obtain ⟨h16, hc, hs⟩ := h x hx
      refine ⟨x.2.2.1.1, x.2.2.1.2, x.2.2.2, h1, conc_le (rho0_le _) _ _ hc, hs.1, fun ho => ?_, fun _ _ => hs.2, fun ho => ?_⟩
      · simp only [own, Bool.and_eq_true, decide_eq_true_eq] at ho; omega
      · simp only [app, Bool.and_eq_true, decide_eq_true_eq] at ho; omega
    · rw [h2] at hl; cases hl
  · rcases key l id with ⟨x, hx, he, h1, h2⟩ | ⟨h1, _⟩
    · have := (h x hx).1
      simp only [own, app, Bool.and_eq_true, decide_eq_true_eq] at ho; omega
    · rw [h1] at e1; cases e1
  · rw [blk_memL]
    rcases key l id with ⟨x, hx, he, h1, h2⟩ | ⟨h1, _⟩
    · exact ⟨_, h2⟩
    · rw [h1] at hq; cases hq
theorem no_ownL {w : World} (l : List (Nat × List It × (Nat × Nat) × List Value)) (h : ∀ x ∈ l, x.1 < 16 ∧ conc rho0 x.2.1 = some x.2.2.2 ∧ Stands w x.2.2.1.1 x.2.2.1.2 x.2.2.2) : ∀ c, ¬ Own (rhoL (l.map fun x => (x.1, x.2.2.1))) c := by
  rintro c ⟨id, _, ho, hq⟩
  simp only [own, app, Bool.and_eq_true, decide_eq_true_eq] at ho

  induction l with
  | nil => cases hq
  | cons x l ih =>
    simp only [List.map_cons, rhoL] at hq
    split at hq
    · rename_i e
      have := (h x List.mem_cons_self).1
      omega
    · exact ih (fun y hy => h y (List.mem_cons_of_mem _ hy)) hq
theorem stands_nil {w : World} {b o : Nat} (h : b < w.heap.size) : Stands w b o [] := ⟨h, fun i v hi => by cases hi⟩

/-! ### a slice of points -/
def pcs {A : Type} [Nm A] (p : A × Bool) : List Value := ((Nm.toL p.1).map (words 6)).flatten ++ [Value.bool p.2]
theorem length_pcs {A : Type} [Nm A] (p : A × Bool) : (pcs p).length = 6 * Nm.k A + 1 := by
  unfold pcs
  rw [List.length_append, List.length_flatten, List.map_map]
  have : ∀ l : List Nat, (l.map (List.length ∘ words 6)).sum = 6 * l.length := by
    intro l
    induction l with
    | nil => rfl
    | cons n l ih => simp only [List.map_cons, List.sum_cons, List.length_cons, ih, Function.comp, length_words]; omega
  rw [this, Nm.len]; rfl
theorem conc_pcs {A : Type} [Nm A] (ρ : Rho) (p : A × Bool) : conc ρ (wP p).its = some (pcs p) := conc_append2 (conc_ws ρ (Nm.toL p.1)) (m := [.v (.bool p.2)]) (us := [Value.bool p.2]) rfl
/-- The rows of points, one behind another. -/
def ptsI {A : Type} [Nm A] : List (A × Bool) → List It
  | [] => []
  | p :: l => (wP p).its ++ ptsI l
def ptsV {A : Type} [Nm A] : List (A × Bool) → List Value
  | [] => []
  | p :: l => pcs p ++ ptsV l
theorem conc_pts {A : Type} [Nm A] (ρ : Rho) (l : List (A × Bool)) : conc ρ (ptsI l) = some (ptsV l) := by
  induction l with
  | nil => rfl
  | cons p l ih => exact conc_append _ _ _ _ (conc_pcs ρ p) ih
/-- Points stand there, one behind another. -/
theorem stands_pts {A : Type} [Nm A] {w : World} {b o : Nat} (hb : b < w.heap.size) (l : List (A × Bool)) (h : ∀ i p, l[i]? = some p → ∀ j v, (pcs p)[j]? = some v → w.cell? ⟨b, o + i * (6 * Nm.k A + 1) + j, none⟩ = some v) : Stands w b o (ptsV l) := by
  refine ⟨hb, ?_⟩
  induction l generalizing o with
  | nil => intro i v hi; cases hi
  | cons p l ih =>
    intro i v hi
    have hl := length_pcs p
    by_cases hj : i < (pcs p).length
    · have hi : (pcs p ++ ptsV l)[i]? = some v := hi
      rw [List.getElem?_append_left hj] at hi
      have := h 0 p rfl i v hi
      rwa [Nat.zero_mul, Nat.add_zero] at this
    · have hi : (pcs p ++ ptsV l)[i]? = some v := hi
      rw [List.getElem?_append_right (by omega)] at hi
      have := ih (o := o + (6 * Nm.k A + 1)) (fun k q hk j u hj => by
        have := h (k + 1) q hk j u hj
        rw [← this]
        congr 2
        rw [Nat.add_mul]; omega) _ v hi
      rw [← this]
      congr 2
      omega
/-- A slice of points: none, or points. -/
def IsPts (A : Type) [Nm A] (W : World) (v : Value) : Prop := v = .slice none 0 0 ∨ ∃ b o len cap, ∃ l : List (A × Bool), v = .slice (some ⟨b, o, none⟩) len cap ∧ len ≤ 9223372036854775807 ∧ l.length = len ∧ Stands W b o (ptsV l)
section
variable {H : Type} {enc : TypeId × Value → H}
theorem open_el {A : Type} [Nm A] {W : World} {e : TypeId} {fuel : Nat} {a : Addr} {y : DataW H × List MemPlace} (hk : flat Try.prog 8 e = some (List.replicate (6 * Nm.k A) (some .u64) ++ [none])) (hc : Try.prog.cellsOf e = 6 * Nm.k A + 1)
    (h : (W.cells? 0 a (Try.prog.cellsOf e)).bind (DataW.trod enc Try.prog W 0 (fun _ => true) true fuel e) = some y) : ∃ p : A × Bool, ∀ j v, (pcs p)[j]? = some v → W.cell? (a.add j) = some v := by
  rw [Option.bind_eq_some_iff] at h
  obtain ⟨cs, hcs, hy⟩ := h
  obtain ⟨_, hf⟩ := trod_fits 8 e _ hk (by rw [hc]; simp) fuel _ _ hy
  obtain ⟨l, rest, e1, e2, e3, e4⟩ := cells_six (Nm.k A) [none] cs hf
  match rest, e3, e4 with
  | _ :: _ :: _, e3, _ => simp [fitsW] at e3
  | [r], e3, e4 =>
    have : ∃ b, r = .bool b := by
      simp only [fitsW, Bool.and_true] at e3
      unfold wOk at e3
      split at e3
      · rename_i h; cases h
      · exact ⟨_, rfl⟩
      · cases e3
    obtain ⟨b, rfl⟩ := this
    have h1 := e4 rho0 [.v (.bool b)] rfl
    have h2 := conc_pcs (A := A) rho0 (Nm.ofL l, b)
    rw [show (wP ((Nm.ofL l, b) : A × Bool)).its = l.map (It.w 6) ++ [.v (.bool b)] by unfold wP; rw [Nm.to_of l e1], h1] at h2
    cases h2
    obtain ⟨_, hl, hcell⟩ := World.cells?_some hcs
    refine ⟨(Nm.ofL l, b), fun j v hj => ?_⟩
    have hjl := (List.getElem?_eq_some_iff.1 hj).1
    rw [hcell j (by omega), hj]
set_option maxRecDepth 100000 in
theorem open_pts {A : Type} [Nm A] {W : World} {base : Nat} {t e : TypeId} {v : Value} {d : DataW H} {ps : List MemPlace} (ht : Try.prog.underlying t = some (.slice e))
    (hk : flat Try.prog 8 e = some (List.replicate (6 * Nm.k A) (some .u64) ++ [none])) (hc : Try.prog.cellsOf e = 6 * Nm.k A + 1) (hv : Value.okWide Try.prog W .any base t v) (hd : DataW.Trod enc Try.prog W 0 (fun _ => true) true t v d ps) : IsPts A W v := by
  obtain ⟨a, len, cap, rfl⟩ := okWide_slice ht hv
  obtain ⟨fuel, hf⟩ := hd
  have hf : DataW.trod enc Try.prog W 0 (fun _ => true) true fuel t [.slice a len cap] = some (d, ps) := hf
  rcases DataW.trod_slice ht hf with ⟨hcs, _⟩ | ⟨a', len', cap', elems, rest, n, _, hcs, _, hb0, hl, hm, hlen, hel, _, _⟩
  · left
    cases hcs; rfl
  · right
    cases hcs
    obtain ⟨ha, hb, _⟩ := open_addr ht hv
    have each : ∀ i, i < len → ∃ p : A × Bool, ∀ j v, (pcs p)[j]? = some v → W.cell? ((a'.add (i * Try.prog.cellsOf e)).add j) = some v := by
      intro i hi
      obtain ⟨y, hy⟩ : ∃ y, elems[i]? = some y := ⟨_, List.getElem?_eq_getElem (by omega)⟩
      exact open_el hk hc (by rw [hel i hi, hy])
    refine ⟨a'.block, a'.off, len, cap, (List.range len).attach.map fun i => Classical.choose (each i.1 (List.mem_range.1 i.2)), by rw [← ha], by unfold maxLen at hm; omega, by simp, ?_⟩
    refine stands_pts hb _ fun i p hi j v hj => ?_
    rw [List.getElem?_map, Option.map_eq_some_iff] at hi
    obtain ⟨⟨k, hk'⟩, hi, rfl⟩ := hi
    have hik : i = k := by
      obtain ⟨h1, h2⟩ := List.getElem?_eq_some_iff.1 hi
      simp only [List.getElem_attach, List.getElem_range, Subtype.mk.injEq] at h2
      exact h2
    subst hik
    have := Classical.choose_spec (each i (List.mem_range.1 hk')) j v hj
    rw [ha, addr_add, addr_add, hc] at this
    exact this
end
end Go.Proofs.Ythceokldlinjlaa
