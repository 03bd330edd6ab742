/-
  THE ENGINE, part I: a region, in the text's order and in any other that its edges allow.
-/
import Derived.Test.YtkpihidjolfkoaaEngH
import Derived.Scope
namespace Go.Eng
open Go Go.RowKit

def hintOf (hints : List (Nat × Bool)) (o : Oper) : Option Bool := match o.dst with
  | some d => look hints d
  | none => none
/-- The region's operations in the text's order: what each reads and writes. -/
def textRun (tab : TypeId → Option Ty) (call : CallT) (N : Nat) (ops : Array Oper) (keys0 : List Nat) (hints : List (Nat × Bool)) : Nat → List Oper → St → Option (List Step)
  | _, [], _ => some []
  | nid, o :: l, st => match stepOp tab call N ops keys0 nid (hintOf hints o) o st with
    | some (R, W, ob) => match textRun tab call N ops keys0 hints (nid + 1) l (puts st W) with
      | some r => some ((R, W, ob) :: r)
      | none => none
    | none => none
def allW (l : List Step) : List (Nat × Ct) := l.flatMap (·.2.1)
def allOb (l : List Step) : List Prop := l.flatMap (·.2.2)

/-! ### is the order free? -/
def maskOf (prev : List Nat) : List Nat → Nat
  | [] => 0
  | m :: l => maskOf prev l ||| (1 <<< m ||| prev.getD m 0)
def indepB (R1 W1 R2 W2 : List Nat) : Bool := W1.all (fun k => !R2.contains k && !W2.contains k) && W2.all fun k => !R1.contains k
/-- One operation against all that stand before it. -/
def chkOne (mask : Nat) (R W : List Nat) : Nat → List (List Nat × List Nat) → Bool
  | _, [] => true
  | j, (R', W') :: l => (mask.testBit j || indepB R' W' R W) && chkOne mask R W (j + 1) l
def chkAll : List Oper → List Step → List Nat → List (List Nat × List Nat) → Bool
  | [], [], _, _ => true
  | o :: ops, (R, W, _) :: l, prev, infos =>
    (srcs o).all (fun m => decide (m < infos.length)) && chkOne (maskOf prev (srcs o)) R (keys W) 0 infos && chkAll ops l (prev ++ [maskOf prev (srcs o)]) (infos ++ [(R, keys W)])
  | _, _, _, _ => false

theorem indepB_spec {R1 W1 R2 W2 : List Nat} (h : indepB R1 W1 R2 W2 = true) : (∀ k ∈ W1, k ∉ R2 ∧ k ∉ W2) ∧ (∀ k ∈ W2, k ∉ R1) := by
  unfold indepB at h
  simp only [Bool.and_eq_true, List.all_eq_true, Bool.not_eq_true', List.contains_eq_mem, decide_eq_false_iff_not] at h
  exact h
theorem maskOf_spec (prev : List Nat) : ∀ (l : List Nat) (j : Nat), (maskOf prev l).testBit j = true → ∃ m ∈ l, m = j ∨ (prev.getD m 0).testBit j = true := by
  intro l
  induction l with
  | nil => intro j h; simp [maskOf] at h
  | cons m l ih =>
    intro j h
    simp only [maskOf, Nat.testBit_or, Bool.or_eq_true] at h
    rcases h with h | h | h
    · obtain ⟨m', h1, h2⟩ := ih j h; exact ⟨m', by simp [h1], h2⟩
    · refine ⟨m, by simp, .inl ?_⟩
      rw [Nat.shiftLeft_eq, Nat.one_mul, Nat.testBit_two_pow] at h
      simpa using h
    · exact ⟨m, by simp, .inr h⟩
theorem chkOne_spec {mask : Nat} {R W : List Nat} : ∀ (l : List (List Nat × List Nat)) (j : Nat), chkOne mask R W j l = true → ∀ i p, l[i]? = some p → mask.testBit (j + i) = true ∨ indepB p.1 p.2 R W = true := by
  intro l
  induction l with
  | nil => intro j _ i p h; simp at h
  | cons q l ih =>
    intro j h i p hp
    simp only [chkOne, Bool.and_eq_true, Bool.or_eq_true] at h
    cases i with
    | zero => simp only [List.getElem?_cons_zero, Option.some.injEq] at hp; subst hp; exact h.1
    | succ i =>
      simp only [List.getElem?_cons_succ] at hp
      have := ih (j + 1) h.2 i p hp
      rwa [show j + 1 + i = j + (i + 1) by omega] at this
/-- What the check gives, all through the list. -/
theorem chkAll_spec : ∀ (ops : List Oper) (l : List Step) (prev : List Nat) (infos : List (List Nat × List Nat)), chkAll ops l prev infos = true → prev.length = infos.length →
    ∃ masks : List Nat, masks.length = ops.length ∧ ops.length = l.length ∧ ∀ i o s, ops[i]? = some o → l[i]? = some s →
      (∀ m ∈ srcs o, m < infos.length + i) ∧
      (∀ j, ((prev ++ masks).getD (infos.length + i) 0).testBit j = true → ∃ m ∈ srcs o, m = j ∨ ((prev ++ masks).getD m 0).testBit j = true) ∧
      (∀ j p, j < infos.length + i → (infos ++ l.map fun s => (s.1, keys s.2.1))[j]? = some p → ((prev ++ masks).getD (infos.length + i) 0).testBit j = true ∨ indepB p.1 p.2 s.1 (keys s.2.1) = true) := by
  intro ops
  induction ops with
  | nil =>
    intro l prev infos h _
    cases l with
    | nil => exact ⟨[], rfl, rfl, fun i o s ho _ => by simp at ho⟩
    | cons s l => cases h
  | cons o ops ih =>
    intro l prev infos h hlen
    cases l with
    | nil => cases h
    | cons s l =>
      obtain ⟨R, W, ob⟩ := s
      simp only [chkAll, Bool.and_eq_true, List.all_eq_true, decide_eq_true_eq] at h
      obtain ⟨⟨h1, h2⟩, h3⟩ := h
      obtain ⟨masks, hm1, hm2, hm3⟩ := ih l _ _ h3 (by simp [hlen])
      refine ⟨maskOf prev (srcs o) :: masks, by simp [hm1], by simp [hm2], fun i o' s' ho hs => ?_⟩
      have eapp : prev ++ maskOf prev (srcs o) :: masks = (prev ++ [maskOf prev (srcs o)]) ++ masks := by simp
      have einf : infos ++ List.map (fun s : Step => (s.1, keys s.2.1)) ((R, W, ob) :: l) = (infos ++ [(R, keys W)]) ++ List.map (fun s : Step => (s.1, keys s.2.1)) l := by simp
      cases i with
      | zero =>
        simp only [List.getElem?_cons_zero, Option.some.injEq] at ho hs
        subst ho; subst hs
        have eg : (prev ++ maskOf prev (srcs o) :: masks).getD (infos.length + 0) 0 = maskOf prev (srcs o) := by
          rw [List.getD_eq_getElem?_getD, List.getElem?_append_right (by omega), ← hlen]; simp
        refine ⟨fun m hm => by simpa using h1 m hm, fun j hj => ?_, fun j p hj hp => ?_⟩
        · rw [eg] at hj
          obtain ⟨m, hm, hj'⟩ := maskOf_spec prev _ j hj
          refine ⟨m, hm, hj'.imp id fun hj' => ?_⟩
          have := h1 m hm
          rw [List.getD_eq_getElem?_getD, List.getElem?_append_left (by omega), ← List.getD_eq_getElem?_getD]; exact hj'
        · rw [eg]
          rw [List.getElem?_append_left (by omega)] at hp
          have := chkOne_spec infos 0 h2 j p hp
          rwa [Nat.zero_add] at this
      | succ i =>
        simp only [List.getElem?_cons_succ] at ho hs
        obtain ⟨a1, a2, a3⟩ := hm3 i o' s' ho hs
        have el : (infos ++ [(R, keys W)]).length + i = infos.length + (i + 1) := by simp; omega
        rw [el] at a1 a2 a3
        refine ⟨a1, fun j hj => ?_, fun j p hj hp => ?_⟩
        · rw [eapp] at hj ⊢; exact a2 j hj
        · rw [eapp]; rw [einf] at hp; exact a3 j p hj hp

section
variable {P : Program} {tab : TypeId → Option Ty} {call : CallT} {N : Nat} {ops : Array Oper} {keys0 : List Nat} {hints : List (Nat × Bool)}
/-- What the run in the text's order did, number by number. -/
theorem textRun_spec : ∀ (l : List Oper) (nid : Nat) (st : St) (infos : List Step), textRun tab call N ops keys0 hints nid l st = some infos →
    infos.length = l.length ∧ ∀ i o s, l[i]? = some o → infos[i]? = some s → stepOp tab call N ops keys0 (nid + i) (hintOf hints o) o (puts st (allW (infos.take i))) = some s := by
  intro l
  induction l with
  | nil => intro nid st infos h; cases h; exact ⟨rfl, fun i o s ho _ => by simp at ho⟩
  | cons o l ih =>
    intro nid st infos h
    simp only [textRun] at h
    split at h
    · rename_i R W ob hs
      split at h
      · rename_i r hr
        cases h
        obtain ⟨h1, h2⟩ := ih _ _ _ hr
        refine ⟨by simp [h1], fun i o' s ho hi => ?_⟩
        cases i with
        | zero =>
          simp only [List.getElem?_cons_zero, Option.some.injEq] at ho hi
          subst ho; subst hi
          exact hs
        | succ i =>
          simp only [List.getElem?_cons_succ] at ho hi
          have := h2 i o' s ho hi
          rw [show nid + 1 + i = nid + (i + 1) by omega] at this
          simp only [List.take_succ_cons, allW, List.flatMap_cons, puts_append]
          exact this
      · cases h
    · cases h
/-- By functions of the number. -/
def Wf (infos : List Step) (i : Nat) : List (Nat × Ct) := match infos[i]? with
  | some s => s.2.1
  | none => []
def Rf (infos : List Step) (i : Nat) : List Nat := match infos[i]? with
  | some s => s.1
  | none => []
theorem laid_take (infos : List Step) (st : St) : ∀ i, i ≤ infos.length → laid (Wf infos) st (List.range i) = puts st (allW (infos.take i)) := by
  intro i
  induction i with
  | zero => intro _; rfl
  | succ i ih =>
    intro h
    rw [List.range_succ, laid_append, ih (by omega), List.take_succ_eq_append_getElem (by omega)]
    simp only [laid, Wf, List.getElem?_eq_getElem (show i < infos.length by omega), allW, List.flatMap_append, List.flatMap_cons, List.flatMap_nil, List.append_nil, puts_append]
def srcF (ops : Array Oper) (i : Nat) : List Nat := match ops[i]? with
  | some o => srcs o
  | none => []
theorem sorted_of_chk {infos : List Step} (h : chkAll ops.toList infos [] [] = true) : ∃ anc : Nat → Nat → Bool, Sorted ops.size (srcF ops) anc (Rf infos) (Wf infos) := by
  obtain ⟨masks, h1, h2, h3⟩ := chkAll_spec ops.toList infos [] [] h rfl
  have hl : infos.length = ops.size := by rw [← h2]; simp
  refine ⟨fun i j => (masks.getD i 0).testBit j, ⟨?_, ?_, ?_⟩⟩
  all_goals
    intro i hi
    have ho : ops.toList[i]? = some ops[i] := by simp [hi]
    have hs : infos[i]? = some infos[i] := List.getElem?_eq_getElem (by omega)
    obtain ⟨a1, a2, a3⟩ := h3 i _ _ ho hs
    simp only [List.length_nil, Nat.zero_add, List.nil_append] at a1 a2 a3
    have es : srcF ops i = srcs ops[i] := by simp [srcF, hi]
  · intro m hm; rw [es] at hm; exact a1 m hm
  · intro j hj
    obtain ⟨m, hm, h'⟩ := a2 j hj
    exact ⟨m, by rw [es]; exact hm, h'⟩
  · intro j hj
    have hsj : infos[j]? = some infos[j] := List.getElem?_eq_getElem (by omega)
    refine (a3 j _ hj (by rw [List.getElem?_map, hsj]; rfl)).imp id fun hI => ?_
    have := indepB_spec hI
    simp only [indep, Rf, Wf, hs, hsj]
    exact this

variable {Q : Exit → Act → World → Prop} {ρ : Rho} {a : Act} {w : World} {st : St}
theorem wpAny_inv (htab : ∀ t d, tab t = some d → TyOk P t d) (hcall : CallOk P call) {nid : Nat} {infos : List Step} (hrun : textRun tab call N ops keys0 hints nid ops.toList st = some infos) (hchk : chkAll ops.toList infos [] [] = true)
    (hob : ∀ q ∈ allOb infos, q) {ρ0 : Rho} {w0 : World} (hQ : ∀ ρ' a' w', Ext ρ0 w0 ρ' w' → Sim ρ' N (puts st (allW infos)) a' w' → Q .normal a' w') :
    ∃ anc : Nat → Nat → Bool, ∀ (fuel : Nat) (listed : Array Bool) (a : Act) (w : World) (ρ : Rho), listed.size = ops.size → Closed ops.size anc (fun j => listed.getD j true) →
      ((List.range ops.size).filter fun j => !listed.getD j true).length ≤ fuel → Ext ρ0 w0 ρ w → Sim ρ N (at_ (Wf infos) st ops.size fun j => listed.getD j true) a w → wpAny P .any ops Q fuel listed a w := by
  obtain ⟨anc, S⟩ := sorted_of_chk hchk
  obtain ⟨hl, hstep⟩ := textRun_spec _ _ _ _ hrun
  have hlen : infos.length = ops.size := by rw [hl]; simp
  refine ⟨anc, ?_⟩
  -- what is ready, is ready
  have rd : ∀ (listed : Array Bool) i, i ∈ Region.ready .any ops listed ↔ listed.getD i true = false ∧ i < ops.size ∧ ∀ m ∈ srcF ops i, listed.getD m false = true := by
    intro listed i
    rw [mem_ready]
    constructor
    · rintro ⟨h0, o, ho, hall⟩
      have hi : i < ops.size := (Array.getElem?_eq_some_iff.1 ho).1
      refine ⟨h0, hi, fun m hm => ?_⟩
      simp only [srcF, ho] at hm
      obtain ⟨e, he, hb, rfl⟩ := mem_srcs.1 hm
      exact hall e he hb
    · rintro ⟨h0, hi, hall⟩
      refine ⟨h0, ops[i], by simp [hi], fun e he hb => hall _ ?_⟩
      simp only [srcF, Array.getElem?_eq_getElem hi]
      exact mem_srcs.2 ⟨e, he, hb, rfl⟩
  have done : ∀ (listed : Array Bool), listed.size = ops.size → Region.ready .any ops listed = [] → ∀ i, i < ops.size → listed.getD i true = true := by
    intro listed hsz hnil i
    induction i using Nat.strongRecOn with
    | _ i ih =>
      intro hi
      cases hg : listed.getD i true with
      | true => rfl
      | false =>
        have : i ∈ Region.ready .any ops listed := (rd listed i).2 ⟨hg, hi, fun m hm => by
          have hmi := S.below i hi m hm
          have := ih m hmi (by omega)
          rw [Array.getD_eq_getD_getElem?, Array.getElem?_eq_getElem (by omega)] at this ⊢
          exact this⟩
        rw [hnil] at this
        cases this
  have fin : ∀ (listed : Array Bool) (a : Act) (w : World) (ρ : Rho), listed.size = ops.size → Region.ready .any ops listed = [] → Ext ρ0 w0 ρ w → Sim ρ N (at_ (Wf infos) st ops.size fun j => listed.getD j true) a w → Q .normal a w := by
    intro listed a w ρ hsz hnil hE hs
    refine hQ ρ a w hE (hs.congr fun k => ?_)
    unfold at_
    rw [List.filter_eq_self.2 (fun j hj => by simpa using done listed hsz hnil j (by simpa using hj))]
    rw [laid_take infos st ops.size (by omega), ← hlen, List.take_length]
  intro fuel
  induction fuel with
  | zero =>
    intro listed a w ρ hsz hcl hfu hE hs
    have hnil : Region.ready .any ops listed = [] := by
      rw [List.eq_nil_iff_forall_not_mem]
      intro i hi
      have := (rd listed i).1 hi
      have hm : i ∈ (List.range ops.size).filter fun j => !listed.getD j true := by
        rw [List.mem_filter]; exact ⟨by simpa using this.2.1, by rw [this.1]; rfl⟩
      have := List.length_pos_of_mem hm
      omega
    exact ⟨hnil, fin listed a w ρ hsz hnil hE hs⟩
  | succ fuel ih =>
    intro listed a w ρ hsz hcl hfu hE hs
    refine ⟨fun hnil => fin listed a w ρ hsz hnil hE hs, fun i hi => ?_⟩
    obtain ⟨h0, hlt, hsrc⟩ := (rd listed i).1 hi
    have hsrc' : ∀ m ∈ srcF ops i, listed.getD m true = true := fun m hm => by
      have := hsrc m hm
      have hmi := S.below i hlt m hm
      rw [Array.getD_eq_getD_getElem?, Array.getElem?_eq_getElem (by omega)] at this ⊢
      exact this
    have hi' : i < infos.length := by omega
    have hinfo : infos[i]? = some (infos[i]'hi') := List.getElem?_eq_getElem hi'
    rcases hinfo' : infos[i]'hi' with ⟨R, W, ob⟩
    have hst := hstep i ops[i] (infos[i]'hi') (by simp [hlt]) hinfo
    rw [hinfo'] at hst
    have hR : Rf infos i = R := by simp only [Rf, hinfo, hinfo']
    have hW : Wf infos i = W := by simp only [Wf, hinfo, hinfo']
    have hst' := stepOp_congr (st' := at_ (Wf infos) st ops.size fun j => listed.getD j true) hst fun k hk => by
      rw [S.reads hcl hlt h0 hsrc' st (by rw [hR]; exact hk), laid_take infos st i (by omega)]
    refine stepOp_wp htab hcall (by simp [hlt]) hst' (fun q hq => hob q ?_) hs fun ρ' a' w' hE' hs' => ?_
    · unfold allOb
      rw [List.mem_flatMap]
      exact ⟨infos[i]'hi', List.getElem_mem _, by rw [hinfo']; exact hq⟩
    · have heq : ∀ j, (listed.setIfInBounds i true).getD j true = (j == i || listed.getD j true) := by
        intro j
        simp only [Array.getD_eq_getD_getElem?]
        by_cases hj : i = j
        · subst hj; simp [show i < listed.size by omega]
        · rw [Array.getElem?_setIfInBounds_ne hj]
          have : (j == i) = false := by simpa using fun e => hj e.symm
          rw [this, Bool.false_or]
      have hfun : (fun j => (listed.setIfInBounds i true).getD j true) = fun j => j == i || listed.getD j true := funext heq
      refine ih (listed.setIfInBounds i true) a' w' ρ' (by simp [hsz]) ?_ ?_ (hE.trans hE') ?_
      · rw [hfun]; exact Closed.add S hcl hlt hsrc'
      · have hlt' : ((List.range ops.size).filter fun j => !(j == i || listed.getD j true)).length < ((List.range ops.size).filter fun j => !listed.getD j true).length := by
          have e : ((List.range ops.size).filter fun j => !(j == i || listed.getD j true)) = ((List.range ops.size).filter fun j => !listed.getD j true).filter fun j => !(j == i) := by
            rw [List.filter_filter]
            apply List.filter_congr
            intro j _
            simp [Bool.not_or]
          rw [e]
          refine List.length_filter_lt_length_iff_exists.2 ⟨i, ?_, by simp⟩
          rw [List.mem_filter]; exact ⟨by simpa using hlt, by rw [h0]; rfl⟩
        have e2 : ((List.range ops.size).filter fun j => !(listed.setIfInBounds i true).getD j true) = (List.range ops.size).filter fun j => !(j == i || listed.getD j true) := by
          apply List.filter_congr; intro j _; rw [heq]
        rw [e2]; omega
      · rw [hfun]
        refine hs'.congr fun k => ?_
        rw [S.more hcl hlt h0 hsrc' st k, hW]
end
end Go.Eng
