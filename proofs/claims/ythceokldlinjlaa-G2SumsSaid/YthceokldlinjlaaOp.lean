/-
  Arguments that are slices: what they are, and runs over the memory that they stand in.
-/
import Derived.Test.YthceokldlinjlaaBl
import Derived.Test.YthceokldlinjlaaSay
import Derived.ChangeSlices
namespace Go.Proofs.Ythceokldlinjlaa
open Go Go.Eng Go.RowKit Go.Wd Go.ChangeShapes Go.WideShapes Go.Alg

/-! ### runs over a memory -/
noncomputable def runS (T : CallT) (f : FuncId) (args : List AV) (m : St) (hints : List (Nat × Bool)) : Option (SV × List Prop) := match fn1 f with
  | some d => match runFn tyTab (callN tyTab T fn1 1000 6) 1000 d args m 16 hints with
    | some o => some (o.val, o.ob)
    | none => none
  | none => none
theorem gives_of_runS {T : CallT} (hT : CallOk Try.prog T) {f : FuncId} {args : List AV} {m : St} {hints : List (Nat × Bool)} {s : SV} {ob : List Prop} (h : runS T f args m hints = some (s, ob)) (hob : ∀ p ∈ ob, p) {ρ : Rho} {w : World} (hM : Mem ρ m w)
    (hno : ∀ c, ¬ Own ρ c) {vs : List Value} (hv : vals ρ args = some vs) {v : Value} (hval : ∀ ρ u, s.val ρ = some u → u = v) : Gives Try.prog f vs.toArray v w := by
  unfold runS at h
  split at h
  · rename_i d hd
    split at h
    · rename_i o ho
      cases h
      refine (runFn_calls mixed tyTab_ok (callN_ok mixed tyTab_ok hT fn1_ok 1000 6) (fn1_ok _ _ hd) ho hob hv hM).mono ?_
      rintro e w' ⟨u, rfl, ρ', hE, hu, _⟩
      exact ⟨by rw [hval ρ' u hu], hE.below hno⟩
    · cases h
  · cases h

/-! ### a slice of words among the arguments -/
def numL : List Int → Nat
  | [] => 0
  | z :: l => z.toNat + numL l * 18446744073709551616
theorem words_numL : ∀ (l : List Int), (∀ z ∈ l, 0 ≤ z ∧ z < 18446744073709551616) → words l.length (numL l) = l.map (Value.int .u64) := by
  intro l
  induction l with
  | nil => intro _; rfl
  | cons z l ih =>
    intro h
    have hz := h z List.mem_cons_self
    show words (l.length + 1) (z.toNat + numL l * 18446744073709551616) = _
    rw [words_cons (by omega), ih fun y hy => h y (List.mem_cons_of_mem _ hy), Int.toNat_of_nonneg hz.1]; rfl
section
variable {P : Program} {H : Type} {enc : TypeId × Value → H}
theorem addr_add (b o i : Nat) : (⟨b, o, none⟩ : Addr).add i = ⟨b, o + i, none⟩ := by
  unfold Addr.add
  split
  · rename_i h; subst h; rfl
  · rfl
theorem shape_lt {w : World} {b : Nat} {x : TypeId × Nat} (h : w.shape? b = some x) : b < w.heap.size := by
  unfold World.shape? at h
  split at h
  · rename_i c e r hb
    exact (Array.getElem?_eq_some_iff.1 hb).1
  · cases h
/-- A slice by its address, where there is one. -/
theorem open_addr {W : World} {base : Nat} {t e : TypeId} {a : Addr} {len cap : Nat} (ht : P.underlying t = some (.slice e)) (hv : Value.okWide P W .any base t (.slice (some a) len cap)) : a = ⟨a.block, a.off, none⟩ ∧ a.block < W.heap.size ∧ len ≤ cap := by
  simp only [Value.okWide, ht, Cell.okWide, Cell.ok] at hv
  obtain ⟨h1, _, _, h2, row, cells, h3, _⟩ := hv
  refine ⟨?_, shape_lt h3, h1⟩
  cases a
  simp only at h2
  subst h2; rfl
/-- A slice of words: none, or a number's words. -/
def IsWords (W : World) (v : Value) : Prop := v = .slice none 0 0 ∨ ∃ b o len cap n, v = .slice (some ⟨b, o, none⟩) len cap ∧ len ≤ 9223372036854775807 ∧ SlHas W b o len n
theorem open_words {W : World} {base : Nat} {t e : TypeId} {v : Value} {d : DataW H} {ps : List MemPlace} (ht : P.underlying t = some (.slice e)) (he : P.underlying e = some (.int .u64)) (hc : P.cellsOf e = 1)
    (hv : Value.okWide P W .any base t v) (hd : DataW.Trod enc P W 0 (fun _ => true) true t v d ps) :
    IsWords W v := by
  obtain ⟨a, len, cap, rfl⟩ := okWide_slice ht hv
  obtain ⟨fuel, hf⟩ := hd
  have hf : DataW.trod enc P W 0 (fun _ => true) true fuel t [.slice a len cap] = some (d, ps) := hf
  rcases open_ints ht he hc hf with ⟨hcs, _⟩ | ⟨a', len', cap', zs, hcs, _, hl, hm, hz, _, hcell, hwz⟩
  · left
    cases hcs; rfl
  · right
    cases hcs
    obtain ⟨ha, hb, _⟩ := open_addr ht hv
    have hzl : zs.length = cap := hz
    refine ⟨a'.block, a'.off, len, cap, numL (zs.take len), by rw [← ha], by unfold maxLen at hm; omega, hb, fun i v hi => ?_⟩
    have hlen : (zs.take len).length = len := by rw [List.length_take]; omega
    have hw := words_numL (zs.take len) (fun z hz => by
      have := hwz z (List.mem_of_mem_take hz)
      simp only [Lit.wf, Bool.and_eq_true, decide_eq_true_eq] at this
      have h1 : IntKind.u64.min = 0 := rfl
      have h2 : IntKind.u64.max = 18446744073709551615 := rfl
      omega)
    rw [hlen] at hw
    rw [hw, List.getElem?_map, List.getElem?_take] at hi
    split at hi
    · rename_i hil
      have hiz : i < zs.length := by omega
      rw [List.getElem?_eq_getElem hiz] at hi
      simp only [Option.map_some, Option.some.injEq] at hi
      have := hcell i hiz
      rw [ha, addr_add] at this
      rw [this, ← hi]
      simp [List.getD, List.getElem?_eq_getElem hiz]
    · cases hi
end
end Go.Proofs.Ythceokldlinjlaa
