/-
  Slices of slices of words among the arguments.
-/
import Derived.Test.YthceokldlinjlaaOps
namespace Go.Proofs.Ythceokldlinjlaa
open Go Go.Eng Go.RowKit Go.Wd Go.ChangeShapes Go.WideShapes Go.Alg

/-- A slice of words: an empty one, wherever it points to, or a number's words. -/
def IsWordsE (W : World) (v : Value) : Prop := (∃ a c, v = .slice a 0 c) ∨ ∃ b o len cap n, v = .slice (some ⟨b, o, none⟩) len cap ∧ len ≤ 9223372036854775807 ∧ SlHas W b o len n
/-- A slice of such slices. -/
def IsSls (W : World) (v : Value) : Prop := v = .slice none 0 0 ∨ ∃ b o len cap, ∃ l : List Value, v = .slice (some ⟨b, o, none⟩) len cap ∧ len ≤ 9223372036854775807 ∧ l.length = len ∧ Stands W b o l ∧ ∀ x ∈ l, IsWordsE W x
theorem cell_spot {w : World} {a : Addr} {v : Value} (h : w.cell? a = some v) : a = ⟨a.block, a.off, none⟩ ∧ a.block < w.heap.size := by
  unfold World.cell? at h
  split at h
  · rename_i c e f hc
    refine ⟨?_, (Array.getElem?_eq_some_iff.1 hc).1⟩
    cases a
    rename_i b o s
    cases s with
    | none => rfl
    | some s => simp at h
  · cases h
section
variable {H : Type} {enc : TypeId × Value → H} {P : Program}
theorem open_wordsE {W : World} {t e : TypeId} {fuel : Nat} {v : Value} {x : DataW H × List MemPlace} (ht : P.underlying t = some (.slice e)) (he : P.underlying e = some (.int .u64)) (hc : P.cellsOf e = 1)
    (hf : DataW.trod enc P W 0 (fun _ => true) true fuel t [v] = some x) : IsWordsE W v := by
  rcases open_ints ht he hc hf with ⟨hcs, _⟩ | ⟨a', len', cap', zs, hcs, _, hl, hm, hz, _, hcell, hwz⟩
  · cases hcs; exact .inl ⟨none, 0, rfl⟩
  · cases hcs
    rcases Nat.eq_zero_or_pos len' with h0 | h0
    · subst h0; exact .inl ⟨some a', cap', rfl⟩
    · right
      have hzl : zs.length = cap' := hz
      have h1 := hcell 0 (by omega)
      rw [show a'.add 0 = a' from rfl] at h1
      obtain ⟨ha, hb⟩ := cell_spot h1
      refine ⟨a'.block, a'.off, len', cap', numL (zs.take len'), by rw [← ha], by unfold maxLen at hm; omega, hb, fun i v hi => ?_⟩
      have hlen : (zs.take len').length = len' := by rw [List.length_take]; omega
      have hw := words_numL (zs.take len') (fun z hz => by
        have := hwz z (List.mem_of_mem_take hz)
        simp only [Lit.wf, Bool.and_eq_true, decide_eq_true_eq] at this
        have h1 : IntKind.u64.min = 0 := rfl
        have h2 : IntKind.u64.max = 18446744073709551615 := rfl
        omega)
      rw [hlen] at hw
      rw [hw, List.getElem?_map, List.getElem?_take] at hi
      split at hi
      · rename_i hil
        have hiz : i < zs.length := by omega
        rw [List.getElem?_eq_getElem hiz] at hi
        simp only [Option.map_some, Option.some.injEq] at hi
        have := hcell i hiz
        rw [ha, addr_add] at this
        rw [this, ← hi]
        simp [List.getD, List.getElem?_eq_getElem hiz]
      · cases hi
theorem open_slices {W : World} {base : Nat} {t e e2 : TypeId} {v : Value} {d : DataW H} {ps : List MemPlace} (ht : P.underlying t = some (.slice e)) (he : P.underlying e = some (.slice e2)) (he2 : P.underlying e2 = some (.int .u64))
    (hc : P.cellsOf e = 1) (hc2 : P.cellsOf e2 = 1) (hv : Value.okWide P W .any base t v) (hd : DataW.Trod enc P W 0 (fun _ => true) true t v d ps) : IsSls W v := by
  obtain ⟨a, len, cap, rfl⟩ := okWide_slice ht hv
  obtain ⟨fuel, hf⟩ := hd
  have hf : DataW.trod enc P W 0 (fun _ => true) true fuel t [.slice a len cap] = some (d, ps) := hf
  rcases DataW.trod_slice ht hf with ⟨hcs, _⟩ | ⟨a', len', cap', elems, rest, n, _, hcs, _, hb0, hl, hm, hlen, hel, _, _⟩
  · left
    cases hcs; rfl
  · right
    cases hcs
    obtain ⟨ha, hb, _⟩ := open_addr ht hv
    have each : ∀ i, i < len → ∃ x, W.cell? (a'.add i) = some x ∧ IsWordsE W x := by
      intro i hi
      obtain ⟨y, hy⟩ : ∃ y, elems[i]? = some y := ⟨_, List.getElem?_eq_getElem (by omega)⟩
      have h := (hel i hi).trans hy
      rw [hc, Nat.mul_one, Option.bind_eq_some_iff] at h
      obtain ⟨cs', hcs, hy'⟩ := h
      have hl1 := (World.cells?_some hcs).2.1
      match cs', hl1 with
      | [x], _ => exact ⟨x, cell_of_cells?_one hcs, open_wordsE he he2 hc2 hy'⟩
    refine ⟨a'.block, a'.off, len, cap, (List.range len).attach.map fun i => Classical.choose (each i.1 (List.mem_range.1 i.2)), by rw [← ha], by unfold maxLen at hm; omega, by simp, ⟨hb, fun i x hi => ?_⟩, fun x hx => ?_⟩
    · rw [List.getElem?_map, Option.map_eq_some_iff] at hi
      obtain ⟨⟨k, hk'⟩, hi, rfl⟩ := hi
      have hik : i = k := by
        obtain ⟨h1, h2⟩ := List.getElem?_eq_some_iff.1 hi
        simp only [List.getElem_attach, List.getElem_range, Subtype.mk.injEq] at h2
        exact h2
      subst hik
      have key : ∀ x, W.cell? (a'.add i) = some x → W.cell? ⟨a'.block, a'.off + i, none⟩ = some x := fun x h => by
        rw [ha, addr_add] at h
        exact h
      exact key _ (Classical.choose_spec (each i (List.mem_range.1 hk'))).1
    · rw [List.mem_map] at hx
      obtain ⟨i, _, rfl⟩ := hx
      exact (Classical.choose_spec (each i.1 (List.mem_range.1 i.2))).2
end
end Go.Proofs.Ythceokldlinjlaa
