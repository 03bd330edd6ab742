/-
  THE ENGINE, part M: functions that take two pointers to blocks of the caller's own: a contract that names no numbers of blocks.
-/
import Derived.Test.YtkpihidjolfkoaaEngL
namespace Go.Eng
open Go Go.RowKit

/-- Block b holds these cells. -/
def Holds (w : World) (b : Nat) (vs : List Value) : Prop := ∃ t, w.heap[b]? = some (.cells vs.toArray t (0, 0))
/-- Called with two blocks that hold va and vb, the function hands back r, the blocks hold va' and vb' then, and nothing else has turned. -/
def Two (P : Program) (f : FuncId) (args : List Value) (b1 b2 : Nat) (va vb va' vb' : List Value) (r : Value) : Prop :=
  ∀ w, Holds w b1 va → Holds w b2 vb → Invoked P f args.toArray w fun v w' => v = r ∧ Holds w' b1 va' ∧ Holds w' b2 vb' ∧ Keep (fun b => b = b1 ∨ b = b2) w w'
def rho2 (b1 b2 : Nat) : Rho := fun id => if id = 16 then some (b1, 0) else if id = 17 then some (b2, 0) else none
def mem2 (A B : List It) : St := [(33, .bl A), (35, .bl B)]
theorem lt_of_holds {w : World} {b : Nat} {vs : List Value} (h : Holds w b vs) : b < w.heap.size := by
  obtain ⟨t, h⟩ := h
  exact (Array.getElem?_eq_some_iff.1 h).1
theorem blk_mem2 (A B : List It) (id : Nat) : (mem2 A B).blk id = if id = 16 then some A else if id = 17 then some B else none := by
  unfold St.blk mem2
  simp only [look, beq_iff_eq]
  by_cases h1 : id = 16
  · subst h1; rfl
  · by_cases h2 : id = 17
    · subst h2; rfl
    · have e1 : ¬ 33 = 2 * id + 1 := by omega
      have e2 : ¬ 35 = 2 * id + 1 := by omega
      simp only [e1, e2, h1, h2, if_false]
theorem mem_rho2 {w : World} {b1 b2 : Nat} (hne : b1 ≠ b2) {va vb : List Value} (h1 : Holds w b1 va) (h2 : Holds w b2 vb) {A B : List It} (hA : conc (rho2 b1 b2) A = some va) (hB : conc (rho2 b1 b2) B = some vb) : Mem (rho2 b1 b2) (mem2 A B) w := by
  refine ⟨⟨fun id l hl => ?_⟩, ⟨fun id id' b o o' _ e1 e2 => ?_⟩, fun id q hq => ?_⟩
  · rw [blk_mem2] at hl
    split at hl
    · rename_i e; cases hl; subst e
      exact ⟨b1, 0, va, by simp [rho2], hA, lt_of_holds h1, fun _ => ⟨rfl, h1⟩, fun h => by simp [own] at h⟩
    · split at hl
      · rename_i e; cases hl; subst e
        exact ⟨b2, 0, vb, by simp [rho2], hB, lt_of_holds h2, fun _ => ⟨rfl, h2⟩, fun h => by simp [own] at h⟩
      · cases hl
  · unfold rho2 at e1 e2
    split at e1
    · rename_i a; split at e2
      · rename_i c; rw [a, c]
      · split at e2
        · cases e1; cases e2; exact absurd rfl hne
        · cases e2
    · split at e1
      · rename_i a; split at e2
        · cases e1; cases e2; exact absurd rfl hne
        · split at e2
          · rename_i c; rw [a, c]
          · cases e2
      · cases e1
  · rw [blk_mem2]
    unfold rho2 at hq
    split at hq
    · rename_i e; exact ⟨A, if_pos e⟩
    · rename_i e
      split at hq
      · rename_i e'; exact ⟨B, by rw [if_neg e, if_pos e']⟩
      · cases hq
/-- What a run that began with two such blocks leaves. -/
theorem two_of_mem {P : Program} {f : FuncId} {args : List Value} {b1 b2 : Nat} {va vb va' vb' : List Value} {r : Value} (hne : b1 ≠ b2) {A B A' B' : List It} (hA : conc (rho2 b1 b2) A = some va) (hB : conc (rho2 b1 b2) B = some vb)
    (hA' : ∀ ρ us, conc ρ A' = some us → us = va') (hB' : ∀ ρ us, conc ρ B' = some us → us = vb')
    (h : ∀ w, Mem (rho2 b1 b2) (mem2 A B) w → Invoked P f args.toArray w fun v w' => v = r ∧ ∃ ρ st, Ext (rho2 b1 b2) w ρ w' ∧ MemOk ρ (St.blk st) w' ∧ st.blk 16 = some A' ∧ st.blk 17 = some B') : Two P f args b1 b2 va vb va' vb' r := by
  intro w h1 h2
  refine (h w (mem_rho2 hne h1 h2 hA hB)).mono ?_
  rintro v w' ⟨hv, ρ, st, hE, hM, s1, s2⟩
  have get : ∀ {id b : Nat} {l : List It} {us : List Value}, own id = true → rho2 b1 b2 id = some (b, 0) → st.blk id = some l → (∀ ρ us', conc ρ l = some us' → us' = us) → Holds w' b us := by
    intro id b l us ho hq hl hu
    obtain ⟨b', o, us', e1, e2, _, e4, _⟩ := hM.blk id l hl
    rw [hE.le id _ hq] at e1
    cases e1
    rw [← hu _ _ e2]
    exact (e4 ho).2
  refine ⟨hv, get (id := 16) rfl (by simp [rho2]) s1 hA', get (id := 17) rfl (by simp [rho2]) s2 hB', ?_⟩
  refine ⟨hE.keep.os, hE.keep.tape, hE.keep.output, hE.keep.size, fun k hk hD => hE.keep.block k hk ?_⟩
  rintro ⟨id, _, hq⟩
  unfold rho2 at hq
  split at hq
  · cases hq; exact hD (.inl rfl)
  · split at hq
    · cases hq; exact hD (.inr rfl)
    · cases hq
/-- Such a function in a table: blocks a and b of the caller's. -/
theorem two_call {P : Program} {f : FuncId} {ρ : Rho} {m : St} {w : World} (hM : Mem ρ m w) {a b : Nat} (hab : a ≠ b) (ha : own a = true) (hb : own b = true) {A B A' B' : List It} (hmA : m.blk a = some A) (hmB : m.blk b = some B)
    {args : Nat × Nat → Nat × Nat → List Value} {va vb va' vb' : List Value} {r : Value} (hA : ∀ ρ us, conc ρ A = some us → us = va) (hB : ∀ ρ us, conc ρ B = some us → us = vb) (hA' : ∀ ρ, conc ρ A' = some va') (hB' : ∀ ρ, conc ρ B' = some vb')
    (h : ∀ b1 b2, b1 ≠ b2 → Two P f (args (b1, 0) (b2, 0)) b1 b2 va vb va' vb' r) {vs : List Value} (hvs : ∀ q1 q2, ρ a = some q1 → ρ b = some q2 → vs = args q1 q2) {s : SV} (hs : s.val rho0 = some r) :
    Invoked P f vs.toArray w fun v w' => ∃ ρ', Ext ρ w ρ' w' ∧ s.val ρ' = some v ∧ Mem ρ' (puts m (blkW ([(a, A'), (b, B')] ++ []))) w' := by
  obtain ⟨b1, o1, us1, e1, c1, l1, h1, _⟩ := hM.ok.blk a A hmA
  obtain ⟨b2, o2, us2, e2, c2, l2, h2, _⟩ := hM.ok.blk b B hmB
  obtain ⟨rfl, t1, h1⟩ := h1 ha
  obtain ⟨rfl, t2, h2⟩ := h2 hb
  have hne : b1 ≠ b2 := fun e => hab (hM.inj.inj a b b1 0 0 ha e1 (e ▸ e2))
  rw [hA _ _ c1] at h1
  rw [hB _ _ c2] at h2
  rw [hvs _ _ e1 e2]
  refine (h b1 b2 hne w ⟨t1, h1⟩ ⟨t2, h2⟩).mono ?_
  rintro v w' ⟨rfl, ⟨t1', k1⟩, ⟨t2', k2⟩, hK⟩
  refine ⟨ρ, ⟨.refl ρ, fun id b o h h' => (by rw [h] at h'; cases h'), hK.os, hK.tape, hK.output, hK.size, fun k hk hD => hK.block k hk ?_⟩, SV.val_le (rho0_le ρ) _ _ hs, ⟨⟨fun id l hl => ?_⟩, hM.inj, fun id q hq => ?_⟩⟩
  · rintro (rfl | rfl)
    · exact hD ⟨a, ha, e1⟩
    · exact hD ⟨b, hb, e2⟩
  · rw [blk_blkW] at hl
    simp only [List.append_nil, lastB] at hl
    by_cases eb : b = id
    · subst eb
      simp only [if_true, Option.some.injEq] at hl
      subst hl
      exact ⟨b2, 0, vb', e2, hB' ρ, by have := hK.size; omega, fun _ => ⟨rfl, t2', k2⟩, fun hf => by rw [hb] at hf; cases hf⟩
    · simp only [eb, if_false] at hl
      by_cases ea : a = id
      · subst ea
        simp only [if_true, Option.some.injEq] at hl
        subst hl
        exact ⟨b1, 0, va', e1, hA' ρ, by have := hK.size; omega, fun _ => ⟨rfl, t1', k1⟩, fun hf => by rw [ha] at hf; cases hf⟩
      · simp only [ea, if_false] at hl
        obtain ⟨c, o, us, f1, f2, f3⟩ := hM.ok.blk id l hl
        refine ⟨c, o, us, f1, f2, f3.of_kept hK.size (hK.block c f3.1 ?_)⟩
        rintro (rfl | rfl)
        · exact ea (hM.inj.inj a id c 0 o ha e1 f1)
        · exact eb (hM.inj.inj b id c 0 o hb e2 f1)
  · obtain ⟨l, hl⟩ := hM.dom id q hq
    rw [blk_blkW]
    cases lastB ([(a, A'), (b, B')] ++ []) id with
    | some r => exact ⟨r, rfl⟩
    | none => exact ⟨l, hl⟩
/-- A function, by a proof of its body: G tells of what is handed back and of the last state. -/
theorem calls_of_at {P : Program} {tab : TypeId → Option Ty} (htab : ∀ t d, tab t = some d → TyOk P t d) {f : FuncId} {d : Fn1} (hf : FnOk P f d) {ρ : Rho} {m : St} {w : World} (hM : Mem ρ m w) (hodd : m.all (fun p => p.1 % 2 == 1) = true)
    {args : List AV} {vs : List Value} (hv : vals ρ args = some vs) (hN : args.length ≤ d.ntmps) {G : List AV → St → Prop}
    (h : ∀ a, At d.ntmps ρ w (initSlots 0 args (d.ntmps - args.length) ++ m) a w → d.body.wp P (fun e a' w' => (e = .normal ∨ e = .ret) ∧ ∃ st xs, At d.ntmps ρ w st a' w' ∧ resultsOf tab st d.results = some xs ∧ G xs st) a w) :
    Calls P f vs.toArray w fun e w' => ∃ v, e = .returned v ∧ ∃ xs st ρ', Ext ρ w ρ' w' ∧ (pack xs).val ρ' = some v ∧ MemOk ρ' st.blk w' ∧ G xs st := by
  obtain ⟨fn, hfn, hbody, hres, hnt, _⟩ := hf.ok
  refine calls_of_wp hfn hbody ?_
  rw [hnt]
  refine wp_mono (h _ (At.begin hM hodd hv hN)) ?_
  rintro e a' w' ⟨he, st, xs, ⟨ρ', hE, hs⟩, hxs, hG⟩
  obtain ⟨v, hv1, hv2⟩ := results_ok htab hs hres hxs
  have : a'.defers = [] ∧ ∃ u, (results fn a'.tmps).run P w' = .ok u w' ∧ ∃ v, (Ending.returned u) = .returned v ∧ ∃ xs st ρ', Ext ρ w ρ' w' ∧ (pack xs).val ρ' = some v ∧ MemOk ρ' st.blk w' ∧ G xs st :=
    ⟨hs.calm, v, hv2, v, rfl, xs, st, ρ', hE, hv1, hs.mem, hG⟩
  rcases he with rfl | rfl <;> exact this
end Go.Eng
