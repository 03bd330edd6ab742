/-
  THE ENGINE, part J: code; functions; calls within calls.
-/
import Derived.Test.YtkpihidjolfkoaaEngI
import Derived.LoopN
namespace Go.Eng
open Go Go.RowKit

section
variable {P : Program} {tab : TypeId → Option Ty} {call : CallT} {N : Nat} {ops : Array Oper} {keys0 : List Nat} {hints : List (Nat × Bool)} {Q : Exit → Act → World → Prop} {ρ : Rho} {a : Act} {w : World} {st : St}
theorem region_wp (hm : P.follows .mixedOrders = true) (htab : ∀ t d, tab t = some d → TyOk P t d) (hcall : CallOk P call) {nid id : Nat} {draw : Bool} {infos : List Step} (hrun : textRun tab call N ops keys0 hints nid ops.toList st = some infos)
    (hchk : draw = true → chkAll ops.toList infos [] [] = true) (hob : ∀ q ∈ allOb infos, q) (hs : Sim ρ N st a w)
    (hQ : ∀ ρ' a' w', Ext ρ w ρ' w' → Sim ρ' N (puts st (allW infos)) a' w' → Q .normal a' w') : (Code.region id ops draw).wp P Q a w := by
  cases draw with
  | true =>
    obtain ⟨anc, h⟩ := wpAny_inv htab hcall hrun (hchk rfl) hob hQ
    refine wp_region_any hm (h ops.size _ a _ ρ (by simp) ?_ (Nat.le_trans (List.length_filter_le _ _) (by simp)) (Ext.drew ρ w) ?_)
    · intro j hj hl
      simp [hj] at hl
    · refine (Sim.congr hs fun k => ?_).drew
      unfold at_
      have : (List.range ops.size).filter (fun j => (Array.replicate ops.size false).getD j true) = [] := by
        rw [List.filter_eq_nil_iff]
        intro j hj
        have : j < ops.size := by simpa using hj
        simp [this]
      rw [this]; rfl
  | false =>
    obtain ⟨hl, hstep⟩ := textRun_spec _ _ _ _ hrun
    have hlen : infos.length = ops.size := by rw [hl]; simp
    refine wp_region ?_
    rw [List.range_eq_range']
    have key : ∀ (m k : Nat) (a : Act) (w' : World) (ρ' : Rho), k + m = ops.size → Ext ρ w ρ' w' → Sim ρ' N (puts st (allW (infos.take k))) a w' → wpOps P ops Q (List.range' k m) a w' := by
      intro m
      induction m with
      | zero =>
        intro k a w' ρ' hk hE hs'
        rw [show infos.take k = infos by rw [List.take_of_length_le (by omega)]] at hs'
        exact hQ ρ' a w' hE hs'
      | succ m ih =>
        intro k a w' ρ' hk hE hs'
        have hlt : k < ops.size := by omega
        have hi' : k < infos.length := by omega
        have hinfo : infos[k]? = some (infos[k]'hi') := List.getElem?_eq_getElem hi'
        rcases hinfo' : infos[k]'hi' with ⟨R, W, ob⟩
        have hst := hstep k ops[k] (infos[k]'hi') (by simp [hlt]) hinfo
        rw [hinfo'] at hst
        rw [List.range'_succ, wpOps_cons]
        refine stepOp_wp htab hcall (by simp [hlt]) hst (fun q hq => hob q ?_) hs' fun ρ'' a'' w'' hE' hs'' => ?_
        · unfold allOb
          rw [List.mem_flatMap]
          exact ⟨infos[k]'hi', List.getElem_mem _, by rw [hinfo']; exact hq⟩
        · refine ih (k + 1) a'' w'' ρ'' (by omega) (hE.trans hE') ?_
          rw [List.take_succ_eq_append_getElem hi', hinfo']
          simp only [allW, List.flatMap_append, List.flatMap_cons, List.flatMap_nil, List.append_nil, puts_append]
          exact hs''
    exact key ops.size 0 a w ρ (by omega) (.refl ρ w) hs
end

/-! ### code -/
structure Xs where
  st : St
  nid : Nat
  hints : List (Nat × Bool)
  obs : List Prop
  dirty : List Nat
inductive Xk where
  | n
  | e (id : Nat)
  | r
def Xk.exit : Xk → Exit
  | .n => .normal
  | .e id => .exit id
  | .r => .ret
def blkIds (st : St) : List Nat := st.filterMap fun p => if p.1 % 2 = 1 then some (p.1 / 2) else none
def dirtyOf (W : List (Nat × Ct)) : List Nat := W.filterMap fun p => if p.1 % 2 = 1 then some (p.1 / 2) else none
def dropHint : List (Nat × Bool) → Nat → List (Nat × Bool)
  | [], _ => []
  | (k, b) :: l, d => if k = d then l else (k, b) :: dropHint l d
def useHints : List Oper → List (Nat × Bool) → List (Nat × Bool)
  | [], h => h
  | o :: l, h => match o.dst with
    | some d => useHints l (dropHint h d)
    | none => useHints l h
structure Eng where
  tab : TypeId → Option Ty
  call : CallT
  N : Nat
def runRegion (E : Eng) (ops : Array Oper) (draw : Bool) (x : Xs) : Option Xs :=
  match textRun E.tab E.call E.N ops (blkIds x.st) x.hints x.nid ops.toList x.st with
  | some infos => match draw && !chkAll ops.toList infos [] [] with
    | true => none
    | false => some { st := puts x.st (allW infos), nid := x.nid + ops.size, hints := useHints ops.toList x.hints, obs := x.obs ++ allOb infos, dirty := dirtyOf (allW infos) ++ x.dirty }
  | none => none
def condOf (st : St) (c : Operand) : Option Bool := match evE st.slot c with
  | some (.one ⟨false, [.v (.bool b)]⟩) => some b
  | _ => none
def exec (E : Eng) : Nat → Code → Xs → Option (Xk × Xs)
  | 0, _, _ => none
  | n + 1, c, x => match c with
    | .skip => some (.n, x)
    | .label _ => some (.n, x)
    | .region _ ops draw => match runRegion E ops draw x with
      | some y => some (.n, y)
      | none => none
    | .seq p q => match exec E n p x with
      | some (.n, y) => exec E n q y
      | r => r
    | .cond c p q => match condOf x.st c with
      | some true => exec E n p x
      | some false => exec E n q x
      | none => none
    | .block id p => match exec E n p x with
      | some (.e id', y) => if id' = id then some (.n, y) else some (.e id', y)
      | r => r
    | .loop p => match exec E n p x with
      | some (.n, y) => exec E n (.loop p) y
      | r => r
    | .exit id => some (.e id, x)
    | .ret => some (.r, x)
    | .scope p => exec E n p x
    | _ => none

/-- What a run keeps: what it owes only grows; what is not dirty is as it was. -/
def Kept (x y : Xs) : Prop := (∀ q ∈ x.obs, q ∈ y.obs) ∧ (∀ d ∈ x.dirty, d ∈ y.dirty) ∧ ∀ id, id ∉ y.dirty → y.st.blk id = x.st.blk id
theorem Kept.refl (x : Xs) : Kept x x := ⟨fun _ h => h, fun _ h => h, fun _ _ => rfl⟩
theorem Kept.trans {x y z : Xs} (h : Kept x y) (k : Kept y z) : Kept x z :=
  ⟨fun q hq => k.1 q (h.1 q hq), fun q hq => k.2.1 q (h.2.1 q hq), fun id hid => (k.2.2 id hid).trans (h.2.2 id fun hd => hid (k.2.1 id hd))⟩
theorem runRegion_kept {E : Eng} {ops : Array Oper} {draw : Bool} {x y : Xs} (h : runRegion E ops draw x = some y) : Kept x y := by
  unfold runRegion at h
  split at h
  · rename_i infos hi
    split at h
    · cases h
    · cases h
      refine ⟨fun q hq => List.mem_append_left _ hq, fun q hq => List.mem_append_right _ hq, fun id hid => ?_⟩
      have : 2 * id + 1 ∉ keys (allW infos) := by
        intro hk
        refine hid (List.mem_append_left _ ?_)
        unfold keys at hk
        obtain ⟨p, hp, e⟩ := List.mem_map.1 hk
        unfold dirtyOf
        rw [List.mem_filterMap]
        refine ⟨p, hp, ?_⟩
        rw [e, if_pos (by omega)]
        congr 1; omega
      unfold St.blk
      rw [look_puts, last_none this]
  · cases h
theorem exec_kept {E : Eng} : ∀ (n : Nat) (c : Code) (x : Xs) (k : Xk) (y : Xs), exec E n c x = some (k, y) → Kept x y := by
  intro n
  induction n with
  | zero => intro c x k y h; cases h
  | succ n ih =>
    intro c x k y h
    cases c <;> simp only [exec] at h <;> try (cases h; done)
    case skip => cases h; exact .refl _
    case label => cases h; exact .refl _
    case exit => cases h; exact .refl _
    case ret => cases h; exact .refl _
    case region id ops draw =>
      split at h
      · rename_i z hz; cases h; exact runRegion_kept hz
      · cases h
    case seq p q =>
      cases hp : exec E n p x with
      | none => rw [hp] at h; cases h
      | some r =>
        obtain ⟨k', z⟩ := r
        rw [hp] at h
        cases k' with
        | n => exact (ih _ _ _ _ hp).trans (ih _ _ _ _ h)
        | e id => cases h; exact ih _ _ _ _ hp
        | r => cases h; exact ih _ _ _ _ hp
    case cond c p q =>
      split at h
      · exact ih _ _ _ _ h
      · exact ih _ _ _ _ h
      · cases h
    case block id p =>
      cases hp : exec E n p x with
      | none => rw [hp] at h; cases h
      | some r =>
        obtain ⟨k', z⟩ := r
        rw [hp] at h
        cases k' with
        | n => cases h; exact ih _ _ _ _ hp
        | e id' => simp only at h; split at h <;> (cases h; exact ih _ _ _ _ hp)
        | r => cases h; exact ih _ _ _ _ hp
    case loop p =>
      cases hp : exec E n p x with
      | none => rw [hp] at h; cases h
      | some r =>
        obtain ⟨k', z⟩ := r
        rw [hp] at h
        cases k' with
        | n => exact (ih _ _ _ _ hp).trans (ih _ _ _ _ h)
        | e id => cases h; exact ih _ _ _ _ hp
        | r => cases h; exact ih _ _ _ _ hp
    case scope p => exact ih _ _ _ _ h

section
variable {P : Program} {E : Eng}
theorem runRegion_wp (hm : P.follows .mixedOrders = true) (htab : ∀ t d, E.tab t = some d → TyOk P t d) (hcall : CallOk P E.call) {id : Nat} {ops : Array Oper} {draw : Bool} {x y : Xs} (h : runRegion E ops draw x = some y) (hob : ∀ q ∈ y.obs, q)
    {ρ : Rho} {a : Act} {w : World} (hs : Sim ρ E.N x.st a w) {Q : Exit → Act → World → Prop} (hQ : ∀ ρ' a' w', Ext ρ w ρ' w' → Sim ρ' E.N y.st a' w' → Q .normal a' w') : (Code.region id ops draw).wp P Q a w := by
  unfold runRegion at h
  split at h
  · rename_i infos hi
    split at h
    · cases h
    · rename_i hd
      cases h
      refine region_wp hm htab hcall hi (fun e => ?_) (fun q hq => hob q (List.mem_append_right _ hq)) hs hQ
      subst e
      simpa using hd
  · cases h
theorem condOf_ok {N : Nat} {st : St} {ρ : Rho} {a : Act} {w : World} (hs : Sim ρ N st a w) {c : Operand} {b : Bool} (h : condOf st c = some b) : a.eval c = .bool b := by
  unfold condOf at h
  split at h
  · rename_i b' he
    cases h
    have := AV.val_one (ρ := ρ) (i := .v (.bool b)) (evE_val (fun t x hx => hs.slots t x hx) c _ he)
    simp only [It.cs, Value.oneCell', Option.some.injEq, List.cons.injEq, and_true] at this
    exact this.symm
  · cases h
theorem exec_wp (hm : P.follows .mixedOrders = true) (htab : ∀ t d, E.tab t = some d → TyOk P t d) (hcall : CallOk P E.call) : ∀ (n : Nat) (c : Code) (x : Xs) (k : Xk) (y : Xs), exec E n c x = some (k, y) → (∀ q ∈ y.obs, q) →
    ∀ (ρ : Rho) (a : Act) (w : World), Sim ρ E.N x.st a w → ∀ (Q : Exit → Act → World → Prop), (∀ ρ' a' w', Ext ρ w ρ' w' → Sim ρ' E.N y.st a' w' → Q k.exit a' w') →
      c.wp P Q a w ∧ ∀ p, c = .loop p → Code.rounds P p Q n a w := by
  intro n
  induction n with
  | zero => intro c x k y h; cases h
  | succ n ih =>
    intro c x k y h hob ρ a w hs Q hQ
    have nl : ∀ (hc : ∀ p, c ≠ .loop p), c.wp P Q a w → c.wp P Q a w ∧ ∀ p, c = .loop p → Code.rounds P p Q (n + 1) a w := fun hc h => ⟨h, fun p e => absurd e (hc p)⟩
    cases c <;> simp only [exec] at h <;> try (cases h; done)
    case skip => cases h; exact nl (fun _ e => by cases e) (wp_skip (hQ ρ a w (.refl ρ w) hs))
    case label => cases h; exact nl (fun _ e => by cases e) (wp_label (hQ ρ a w (.refl ρ w) hs))
    case exit => cases h; exact nl (fun _ e => by cases e) (wp_exit (hQ ρ a w (.refl ρ w) hs))
    case ret => cases h; exact nl (fun _ e => by cases e) (wp_ret (hQ ρ a w (.refl ρ w) hs))
    case region id ops draw =>
      split at h
      · rename_i z hz; cases h; exact nl (fun _ e => by cases e) (runRegion_wp hm htab hcall hz hob hs hQ)
      · cases h
    case seq p q =>
      refine nl (fun _ e => by cases e) (wp_seq ?_)
      cases hp : exec E n p x with
      | none => rw [hp] at h; cases h
      | some r =>
        obtain ⟨k', z⟩ := r
        rw [hp] at h
        cases k' with
        | n =>
          have hk := exec_kept _ _ _ _ _ h
          refine (ih _ _ _ _ hp (fun q hq => hob q (hk.1 q hq)) ρ a w hs _ fun ρ' a' w' hE hs' => ?_).1
          exact (ih _ _ _ _ h hob ρ' a' w' hs' Q fun ρ'' a'' w'' hE' hs'' => hQ ρ'' a'' w'' (hE.trans hE') hs'').1
        | e id => cases h; refine (ih _ _ _ _ hp hob ρ a w hs _ fun ρ' a' w' hE hs' => ?_).1; exact hQ ρ' a' w' hE hs'
        | r => cases h; refine (ih _ _ _ _ hp hob ρ a w hs _ fun ρ' a' w' hE hs' => ?_).1; exact hQ ρ' a' w' hE hs'
    case cond c p q =>
      refine nl (fun _ e => by cases e) ?_
      split at h
      · rename_i hc; exact wp_cond_true (condOf_ok hs hc) (ih _ _ _ _ h hob ρ a w hs Q hQ).1
      · rename_i hc; exact wp_cond_false (condOf_ok hs hc) (ih _ _ _ _ h hob ρ a w hs Q hQ).1
      · cases h
    case block id p =>
      refine nl (fun _ e => by cases e) (wp_block ?_)
      cases hp : exec E n p x with
      | none => rw [hp] at h; cases h
      | some r =>
        obtain ⟨k', z⟩ := r
        rw [hp] at h
        cases k' with
        | n => cases h; refine (ih _ _ _ _ hp hob ρ a w hs _ fun ρ' a' w' hE hs' => ?_).1; exact hQ ρ' a' w' hE hs'
        | e id' =>
          simp only at h
          split at h
          · rename_i e
            cases h
            refine (ih _ _ _ _ hp hob ρ a w hs _ fun ρ' a' w' hE hs' => ?_).1
            simp only [Xk.exit, Exit.inBlock, e, if_true]
            exact hQ ρ' a' w' hE hs'
          · rename_i e
            cases h
            refine (ih _ _ _ _ hp hob ρ a w hs _ fun ρ' a' w' hE hs' => ?_).1
            simp only [Xk.exit, Exit.inBlock, e, if_false]
            exact hQ ρ' a' w' hE hs'
        | r => cases h; refine (ih _ _ _ _ hp hob ρ a w hs _ fun ρ' a' w' hE hs' => ?_).1; exact hQ ρ' a' w' hE hs'
    case loop p =>
      have rounds : Code.rounds P p Q (n + 1) a w := by
        rw [rounds_succ]
        cases hp : exec E n p x with
        | none => rw [hp] at h; cases h
        | some r =>
          obtain ⟨k', z⟩ := r
          rw [hp] at h
          cases k' with
          | n =>
            have hk := exec_kept _ _ _ _ _ h
            refine (ih _ _ _ _ hp (fun q hq => hob q (hk.1 q hq)) ρ a w hs _ fun ρ' a' w' hE hs' => ?_).1
            exact (ih _ _ _ _ h hob ρ' a' w' hs' Q fun ρ'' a'' w'' hE' hs'' => hQ ρ'' a'' w'' (hE.trans hE') hs'').2 p rfl
          | e id => cases h; refine (ih _ _ _ _ hp hob ρ a w hs _ fun ρ' a' w' hE hs' => ?_).1; exact hQ ρ' a' w' hE hs'
          | r => cases h; refine (ih _ _ _ _ hp hob ρ a w hs _ fun ρ' a' w' hE hs' => ?_).1; exact hQ ρ' a' w' hE hs'
      exact ⟨wp_loop_rounds _ rounds, fun q e => by cases e; exact rounds⟩
    case scope p =>
      refine nl (fun _ e => by cases e) (wp_scope_straight (ih _ _ _ _ h hob ρ a w hs _ fun ρ' a' w' hE hs' => ?_).1)
      have := hQ ρ' a' w' hE hs'
      cases k <;> exact this
end

/-! ### functions -/
structure Fn1 where
  body : Code
  results : List ResultVar
  ntmps : Nat
structure FnOk (P : Program) (f : FuncId) (d : Fn1) : Prop where
  ok : ∃ fn, P.funcs[f]? = some fn ∧ fn.body = some d.body ∧ fn.results.toList = d.results ∧ fn.ntmps = d.ntmps ∧ (fn.name == "runtime.NumGoroutine") = false
def padSlots : Nat → Nat → St
  | _, 0 => []
  | t, n + 1 => (2 * t, .sl (.tup [])) :: padSlots (t + 1) n
def initSlots : Nat → List AV → Nat → St
  | t, [], n => padSlots t n
  | t, x :: l, n => (2 * t, .sl (.one x)) :: initSlots (t + 1) l n
def resultOf (tab : TypeId → Option Ty) (st : St) : ResultVar → Option AV
  | .tmp t => match st.slot t with
    | some (.one x) => some x
    | _ => none
  | .cell p ty => match st.slot p, tab ty with
    | some (.one x), some d => match asPtr x with
      | some (id, off) => match st.blk id with
        | some l => match cut l off (if d.agg then d.size else 1) with
          | some r => some ⟨d.agg, r⟩
          | none => none
        | none => none
      | none => none
    | _, _ => none
def resultsOf (tab : TypeId → Option Ty) (st : St) : List ResultVar → Option (List AV)
  | [] => some []
  | r :: l => match resultOf tab st r, resultsOf tab st l with
    | some x, some xs => some (x :: xs)
    | _, _ => none
def pack : List AV → SV
  | [x] => .one x
  | l => .tup l
/-- The blocks that were handed in and have been written; those that are new. -/
def oldDirty (m st : St) : List Nat → List (Nat × List It)
  | [] => []
  | id :: l => match m.blk id, st.blk id with
    | some _, some b => (id, b) :: oldDirty m st l
    | _, _ => oldDirty m st l
def newDirty (m st : St) : List Nat → List (Nat × List It)
  | [] => []
  | id :: l => match m.blk id, st.blk id with
    | none, some b => (id, b) :: newDirty m st l
    | _, _ => newDirty m st l
def dedup : List Nat → List Nat
  | [] => []
  | x :: l => if l.contains x then dedup l else x :: dedup l
def runFn (tab : TypeId → Option Ty) (call : CallT) (fuel : Nat) (d : Fn1) (args : List AV) (m : St) (nid : Nat) (hints : List (Nat × Bool)) : Option Out :=
  if args.length ≤ d.ntmps ∧ m.all (fun p => p.1 % 2 == 1) = true then
    match exec { tab := tab, call := call, N := d.ntmps } fuel d.body { st := initSlots 0 args (d.ntmps - args.length) ++ m, nid := nid, hints := hints, obs := [], dirty := [] } with
    | some (.e _, _) => none
    | some (_, y) => match resultsOf tab y.st d.results with
      | some rs => some { val := pack rs, wr := oldDirty m y.st (dedup y.dirty), news := newDirty m y.st (dedup y.dirty), ob := y.obs }
      | none => none
    | none => none
  else none

theorem look_append {α : Type} (l m : List (Nat × α)) (k : Nat) : look (l ++ m) k = match look l k with | some v => some v | none => look m k := by
  induction l with
  | nil => rfl
  | cons p l ih =>
    obtain ⟨k', v⟩ := p
    simp only [List.cons_append, look]
    by_cases h : k' = k
    · simp [h]
    · simp [h, ih]
theorem look_initSlots : ∀ (args : List AV) (t n k : Nat) (c : Ct), look (initSlots t args n) k = some c →
    ∃ u, k = 2 * u ∧ t ≤ u ∧ u < t + (args.length + n) ∧ ((∃ y, args[u - t]? = some y ∧ c = .sl (.one y)) ∨ (args.length ≤ u - t ∧ c = .sl (.tup []))) := by
  intro args
  induction args with
  | nil =>
    intro t n
    induction n generalizing t with
    | zero => intro k c h; simp only [initSlots, padSlots, look] at h; cases h
    | succ n ih =>
      intro k c h
      simp only [initSlots, padSlots, look, beq_iff_eq] at h
      split at h
      · rename_i e
        cases h
        exact ⟨t, e.symm, Nat.le_refl _, by simp, .inr ⟨by simp, rfl⟩⟩
      · obtain ⟨u, h1, h2, h3, h4⟩ := ih (t + 1) k c h
        refine ⟨u, h1, by omega, by simp at h3 ⊢; omega, .inr ?_⟩
        rcases h4 with ⟨y, hy, _⟩ | ⟨_, hc⟩
        · simp at hy
        · exact ⟨by simp, hc⟩
  | cons x args ih =>
    intro t n k c h
    simp only [initSlots, look, beq_iff_eq] at h
    split at h
    · rename_i e
      cases h
      exact ⟨t, e.symm, Nat.le_refl _, by simp; omega, .inl ⟨x, by simp, rfl⟩⟩
    · obtain ⟨u, h1, h2, h3, h4⟩ := ih (t + 1) n k c h
      refine ⟨u, h1, by omega, by simp at h3 ⊢; omega, ?_⟩
      have e : u - t = (u - (t + 1)) + 1 := by omega
      rcases h4 with ⟨y, hy, hc⟩ | ⟨hl, hc⟩
      · exact .inl ⟨y, by rw [e, List.getElem?_cons_succ]; exact hy, hc⟩
      · exact .inr ⟨by simp; omega, hc⟩
theorem look_odd {m : St} (hm : m.all (fun p => p.1 % 2 == 1) = true) (t : Nat) : look m (2 * t) = none := by
  induction m with
  | nil => rfl
  | cons p m ih =>
    obtain ⟨k, v⟩ := p
    simp only [List.all_cons, Bool.and_eq_true, beq_iff_eq] at hm
    simp only [look, beq_iff_eq]
    have : ¬ k = 2 * t := by omega
    rw [if_neg this]; exact ih hm.2
theorem blk_init {m : St} {args : List AV} {n id : Nat} : St.blk (initSlots 0 args n ++ m) id = m.blk id := by
  unfold St.blk
  rw [look_append]
  cases h : look (initSlots 0 args n) (2 * id + 1) with
  | none => rfl
  | some c => obtain ⟨u, h1, _⟩ := look_initSlots _ _ _ _ _ h; omega
theorem sim_init {ρ : Rho} {m : St} {w : World} (hM : Mem ρ m w) (hodd : m.all (fun p => p.1 % 2 == 1) = true) {args : List AV} {vs : List Value} (hv : vals ρ args = some vs) {N : Nat} (hN : args.length ≤ N) :
    Sim ρ N (initSlots 0 args (N - args.length) ++ m) { tmps := vs.toArray ++ Array.replicate (N - vs.toArray.size) undef, defers := [] } w := by
  have hlen : vs.length = args.length := by
    clear hM hN
    induction args generalizing vs with
    | nil => cases hv; rfl
    | cons x args ih =>
      simp only [vals] at hv
      split at hv
      · rename_i u us hu hus; cases hv; simp [ih hus]
      · cases hv
  constructor
  · intro t x hx
    unfold St.slot at hx
    rw [look_append, look_odd hodd] at hx
    cases h : look (initSlots 0 args (N - args.length)) (2 * t) with
    | none => rw [h] at hx; cases hx
    | some c =>
      rw [h] at hx
      obtain ⟨u, h1, h2, h3, h4⟩ := look_initSlots _ _ _ _ _ h
      have hu : u = t := by omega
      subst hu
      simp only [Nat.sub_zero] at h4
      rcases h4 with ⟨y, hy, rfl⟩ | ⟨hl, rfl⟩
      · simp only [Option.some.injEq] at hx
        subst hx
        obtain ⟨v, hv1, hv2⟩ := vals_get _ _ _ _ hv hy
        have hlt : u < vs.length := (List.getElem?_eq_some_iff.1 hv2).1
        rw [Array.getD_eq_getD_getElem?, Array.getElem?_append_left (by simpa using hlt)]
        rw [List.getElem?_toArray, hv2]; exact hv1
      · simp only [Option.some.injEq] at hx
        subst hx
        rw [Array.getD_eq_getD_getElem?, Array.getElem?_append_right (by simp; omega)]
        simp only [Array.getElem?_replicate]
        split <;> rfl
  · simp; omega
  · exact ⟨fun id l hl => hM.ok.blk id l (by rw [← blk_init (args := args) (n := N - args.length)]; exact hl)⟩
  · exact hM.inj
  · intro id q hq; rw [blk_init]; exact hM.dom id q hq
  · rfl
section
variable {P : Program} {tab : TypeId → Option Ty}
theorem run_loadVar_ok (htab : ∀ t d, tab t = some d → TyOk P t d) {ρ : Rho} {N : Nat} {st : St} {a : Act} {w : World} (hs : Sim ρ N st a w) {t : TypeId} {d : Ty} (ht : tab t = some d) {id off : Nat} {l r : List It} {q : Nat × Nat} (hq : ρ id = some q)
    (hl : st.blk id = some l) (hr : cut l off (if d.agg then d.size else 1) = some r) : ∃ v, AV.val ρ ⟨d.agg, r⟩ = some v ∧ (loadVar t ⟨q.1, q.2 + off, none⟩).run P w = .ok v w := by
  obtain ⟨i, u, hi, hu, hsz, ha, _⟩ := (htab t d ht).facts
  obtain ⟨b, o', vs, hb, hc, hok⟩ := hs.mem.blk id l hl
  rw [hb] at hq; cases hq
  obtain ⟨hle, hcr⟩ := cut_conc hr hc
  have hcell : ∀ j v, vs[off + j]? = some v → w.cell? ⟨b, o' + off + j, none⟩ = some v := by
    intro j v hj
    obtain ⟨_, hown, hfor⟩ := hok
    cases ho : own id with
    | true =>
      obtain ⟨rfl, t', ht'⟩ := hown ho
      rw [cell_of_row w b _ _ t' _ ht', Nat.zero_add]
      simpa using hj
    | false => rw [Nat.add_assoc]; exact hfor ho _ _ hj
  simp only [loadVar, Sem.run_bind, run_isAgg hu, Result.andThen_ok, ha]
  cases hg : d.agg with
  | true =>
    rw [hg] at hcr hle
    simp only [if_true] at hcr hle
    have hlen : ((vs.drop off).take d.size).length = d.size := by rw [List.length_take, List.length_drop]; omega
    refine ⟨.agg ((vs.drop off).take d.size).toArray, by simp only [AV.val, hcr], ?_⟩
    simp only [if_true, Sem.run_bind, run_sizeOf' hi, Result.andThen_ok, hsz]
    have := run_loadCells_list (P := P) w ⟨b, o' + off, none⟩ ((vs.drop off).take d.size) (fun j v hv => by
      rw [addr_add]
      refine hcell j v ?_
      rw [List.getElem?_take] at hv
      split at hv
      · rw [List.getElem?_drop] at hv; exact hv
      · cases hv)
    rw [hlen] at this
    rw [this]; rfl
  | false =>
    rw [hg] at hcr hle
    simp only [Bool.false_eq_true, if_false] at hcr hle
    have hlt : off < vs.length := by omega
    have e : (vs.drop off).take 1 = [vs[off]] := by
      rw [List.drop_eq_getElem_cons hlt, List.take_succ_cons, List.take_zero]
    rw [e] at hcr
    refine ⟨vs[off], by simp only [AV.val, hcr], ?_⟩
    have h0 := hcell 0 vs[off] (by simp)
    simp only [Nat.add_zero] at h0
    simp only [Bool.false_eq_true, if_false, run_load, h0]
def resSem (tmps : Array Value) : ResultVar → Sem Value
  | .tmp t => pure (tmps.getD t undef)
  | .cell a t => do loadVar t (← asAddr (tmps.getD a undef))
theorem resultOf_ok (htab : ∀ t d, tab t = some d → TyOk P t d) {ρ : Rho} {N : Nat} {st : St} {a : Act} {w : World} (hs : Sim ρ N st a w) {r : ResultVar} {x : AV} (h : resultOf tab st r = some x) :
    ∃ v, x.val ρ = some v ∧ (resSem a.tmps r).run P w = .ok v w := by
  cases r with
  | tmp t =>
    simp only [resultOf] at h
    split at h
    · rename_i y hy; cases h; exact ⟨_, hs.slots t _ hy, rfl⟩
    · cases h
  | cell p ty =>
    simp only [resultOf] at h
    split at h
    · rename_i y d hy ht
      split at h
      · rename_i id off hp
        split at h
        · rename_i l hl
          split at h
          · rename_i r hr
            cases h
            obtain ⟨q, hq, hv⟩ := asPtr_val hp (hs.slots p _ hy)
            obtain ⟨v, h1, h2⟩ := run_loadVar_ok htab hs ht hq hl hr
            refine ⟨v, h1, ?_⟩
            simp only [resSem, hv, ptr, asAddr, Sem.run_bind, Sem.run_pure, Result.andThen_ok, h2]
          · cases h
        · cases h
      · cases h
    · cases h
theorem resultsOf_ok (htab : ∀ t d, tab t = some d → TyOk P t d) {ρ : Rho} {N : Nat} {st : St} {a : Act} {w : World} (hs : Sim ρ N st a w) : ∀ (l : List ResultVar) (xs : List AV), resultsOf tab st l = some xs →
    ∃ vs, vals ρ xs = some vs ∧ (l.mapM (resSem a.tmps)).run P w = .ok vs w := by
  intro l
  induction l with
  | nil => intro xs h; cases h; exact ⟨[], rfl, rfl⟩
  | cons r l ih =>
    intro xs h
    simp only [resultsOf] at h
    split at h
    · rename_i x ys hx hys
      cases h
      obtain ⟨v, h1, h2⟩ := resultOf_ok htab hs hx
      obtain ⟨vs, h3, h4⟩ := ih ys hys
      exact ⟨v :: vs, by simp only [vals, h1, h3], by simp only [List.mapM_cons, Sem.run_bind, h2, h4, Result.andThen_ok, Sem.run_pure]⟩
    · cases h
theorem pack_val {ρ : Rho} {xs : List AV} {vs : List Value} (h : vals ρ xs = some vs) : (pack xs).val ρ = some (if h : vs.toArray.size = 1 then vs.toArray[0] else .tuple vs.toArray) := by
  cases xs with
  | nil => cases h; rfl
  | cons x xs =>
    simp only [vals] at h
    split at h
    · rename_i v us hv hus
      cases h
      cases xs with
      | nil => cases hus; simpa [pack, SV.val] using hv
      | cons y ys =>
        have hne : ¬ ((v :: us).toArray.size = 1) := by
          simp only [vals] at hus
          split at hus
          · cases hus; simp
          · cases hus
        rw [dif_neg hne]
        have : vals ρ (x :: y :: ys) = some (v :: us) := by
          show (match x.val ρ, vals ρ (y :: ys) with | some v, some vs => some (v :: vs) | _, _ => none) = _
          rw [hv, hus]
        simp only [pack, SV.val, this]
    · cases h
theorem results_ok (htab : ∀ t d, tab t = some d → TyOk P t d) {ρ : Rho} {N : Nat} {st : St} {a : Act} {w : World} (hs : Sim ρ N st a w) {fn : Func} {rs : List ResultVar} (hr : fn.results.toList = rs) {xs : List AV} (h : resultsOf tab st rs = some xs) :
    ∃ v, (pack xs).val ρ = some v ∧ (results fn a.tmps).run P w = .ok v w := by
  obtain ⟨vs, h1, h2⟩ := resultsOf_ok htab hs rs xs h
  refine ⟨_, pack_val h1, ?_⟩
  have e : (fn.results.mapM (resSem a.tmps)).run P w = .ok vs.toArray w := by
    rw [Array.mapM_eq_mapM_toList, Sem.run_map, hr, h2]; rfl
  have e' : results fn a.tmps = (do let vs ← fn.results.mapM (resSem a.tmps); pure (if h : vs.size = 1 then vs[0] else .tuple vs)) := by
    unfold results
    congr 1
  rw [e', Sem.run_bind, e]
  rfl
end
theorem lastB_append (a b : List (Nat × List It)) (id : Nat) : lastB (a ++ b) id = match lastB b id with | some r => some r | none => lastB a id := by
  induction a with
  | nil => cases h : lastB b id <;> simp [lastB, h]
  | cons p a ih =>
    simp only [List.cons_append, lastB, ih]
    cases lastB b id with
    | some r => rfl
    | none => rfl
theorem lastB_old (m st : St) (id : Nat) : ∀ (D : List Nat), lastB (oldDirty m st D) id = if id ∈ D then (match m.blk id, st.blk id with | some _, some b => some b | _, _ => none) else none := by
  intro D
  induction D with
  | nil => rfl
  | cons j D ih =>
    simp only [oldDirty]
    by_cases hj : id = j
    · subst hj
      cases h1 : m.blk id with
      | none =>
        simp only [ih, h1, List.mem_cons, true_or, if_true]
        split <;> rfl
      | some x =>
        cases h2 : st.blk id with
        | none => simp only [ih, h1, h2, List.mem_cons, true_or, if_true]; split <;> rfl
        | some b =>
          simp only [lastB, ih, h1, h2, List.mem_cons, true_or, if_true]
          by_cases hD : id ∈ D <;> simp [hD]
    · have hj' : ¬ j = id := fun e => hj e.symm
      cases h1 : m.blk j with
      | none => simp only [ih, List.mem_cons, hj, false_or]
      | some x =>
        cases h2 : st.blk j with
        | none => simp only [ih, List.mem_cons, hj, false_or]
        | some b =>
          simp only [lastB, ih, List.mem_cons, hj, false_or, hj', if_false]
          split <;> simp_all
theorem lastB_new (m st : St) (id : Nat) : ∀ (D : List Nat), lastB (newDirty m st D) id = if id ∈ D then (match m.blk id, st.blk id with | none, some b => some b | _, _ => none) else none := by
  intro D
  induction D with
  | nil => rfl
  | cons j D ih =>
    simp only [newDirty]
    by_cases hj : id = j
    · subst hj
      cases h1 : m.blk id with
      | some x =>
        simp only [ih, h1, List.mem_cons, true_or, if_true]
        split <;> rfl
      | none =>
        cases h2 : st.blk id with
        | none => simp only [ih, h1, h2, List.mem_cons, true_or, if_true]; split <;> rfl
        | some b =>
          simp only [lastB, ih, h1, h2, List.mem_cons, true_or, if_true]
          by_cases hD : id ∈ D <;> simp [hD]
    · have hj' : ¬ j = id := fun e => hj e.symm
      cases h1 : m.blk j with
      | some x => simp only [ih, List.mem_cons, hj, false_or]
      | none =>
        cases h2 : st.blk j with
        | none => simp only [ih, List.mem_cons, hj, false_or]
        | some b =>
          simp only [lastB, ih, List.mem_cons, hj, false_or, hj', if_false]
          split <;> simp_all
theorem mem_dedup : ∀ (l : List Nat) (x : Nat), x ∈ dedup l ↔ x ∈ l := by
  intro l
  induction l with
  | nil => intro x; exact Iff.rfl
  | cons y l ih =>
    intro x
    simp only [dedup]
    by_cases h : y ∈ l
    · have hc : l.contains y = true := by simpa using h
      rw [if_pos hc, ih]
      constructor
      · intro hx; exact List.mem_cons_of_mem _ hx
      · intro hx
        rcases List.mem_cons.1 hx with rfl | hx
        · exact h
        · exact hx
    · have hc : ¬ l.contains y = true := by simpa using h
      rw [if_neg hc, List.mem_cons, List.mem_cons, ih]
/-- **A FUNCTION's RUN IS SOUND.** -/
theorem runFn_calls {P : Program} (hm : P.follows .mixedOrders = true) {tab : TypeId → Option Ty} (htab : ∀ t d, tab t = some d → TyOk P t d) {call : CallT} (hcall : CallOk P call) {fuel : Nat} {f : FuncId} {d : Fn1} (hf : FnOk P f d)
    {args : List AV} {m : St} {nid : Nat} {hints : List (Nat × Bool)} {out : Out} (h : runFn tab call fuel d args m nid hints = some out) (hob : ∀ p ∈ out.ob, p) {ρ : Rho} {w : World} {vs : List Value} (hv : vals ρ args = some vs) (hM : Mem ρ m w) :
    Calls P f vs.toArray w fun e w' => ∃ v, e = .returned v ∧ ∃ ρ', Ext ρ w ρ' w' ∧ out.val.val ρ' = some v ∧ Mem ρ' (puts m (blkW (out.wr ++ out.news))) w' := by
  obtain ⟨fn, hfn, hbody, hres, hnt, _⟩ := hf.ok
  unfold runFn at h
  split at h
  · rename_i hc
    -- what comes of the run's two good ends
    have fin : ∀ (k : Xk) (y : Xs), exec { tab := tab, call := call, N := d.ntmps } fuel d.body { st := initSlots 0 args (d.ntmps - args.length) ++ m, nid := nid, hints := hints, obs := [], dirty := [] } = some (k, y) →
        (k.exit = .normal ∨ k.exit = .ret) → ∀ rs, resultsOf tab y.st d.results = some rs → out = { val := pack rs, wr := oldDirty m y.st (dedup y.dirty), news := newDirty m y.st (dedup y.dirty), ob := y.obs } →
        Calls P f vs.toArray w fun e w' => ∃ v, e = .returned v ∧ ∃ ρ', Ext ρ w ρ' w' ∧ out.val.val ρ' = some v ∧ Mem ρ' (puts m (blkW (out.wr ++ out.news))) w' := by
      intro k y hx hk rs hrs hout
      subst hout
      refine calls_of_wp hfn hbody ?_
      have hkept := exec_kept _ _ _ _ _ hx
      rw [hnt]
      refine (exec_wp (E := { tab := tab, call := call, N := d.ntmps }) hm htab hcall _ _ _ _ _ hx hob ρ _ w (sim_init hM hc.2 hv hc.1) _ fun ρ' a' w' hE hs' => ?_).1
      obtain ⟨v, hv1, hv2⟩ := results_ok htab hs' hres hrs
      have hblk : ∀ id, St.blk (puts m (blkW (oldDirty m y.st (dedup y.dirty) ++ newDirty m y.st (dedup y.dirty)))) id = y.st.blk id := by
        intro id
        rw [blk_blkW, lastB_append, lastB_old, lastB_new]
        have hsome : ∀ l, m.blk id = some l → ∃ l', y.st.blk id = some l' := by
          intro l hl
          obtain ⟨b, o, us, h1, _⟩ := hM.ok.blk id l hl
          exact hs'.dom id _ (hE.le id _ h1)
        by_cases hd : id ∈ dedup y.dirty
        · simp only [hd, if_true]
          cases h1 : m.blk id with
          | none =>
            cases h2 : y.st.blk id with
            | none => rfl
            | some b => rfl
          | some l =>
            obtain ⟨l', hl'⟩ := hsome l h1
            simp only [hl']
        · simp only [hd, if_false]
          have := hkept.2.2 id (fun hh => hd ((mem_dedup _ _).2 hh))
          rw [this, blk_init]
      have hmem : Mem ρ' (puts m (blkW (oldDirty m y.st (dedup y.dirty) ++ newDirty m y.st (dedup y.dirty)))) w' :=
        ⟨⟨fun id l hl => hs'.mem.blk id l (by rw [← hblk]; exact hl)⟩, hs'.inj, fun id q hq => by rw [hblk]; exact hs'.dom id q hq⟩
      have hgood : a'.defers = [] ∧ ∃ u, (results fn a'.tmps).run P w' = .ok u w' ∧ ∃ v, (Ending.returned u) = .returned v ∧ ∃ ρ', Ext ρ w ρ' w' ∧ (pack rs).val ρ' = some v ∧ Mem ρ' (puts m (blkW (oldDirty m y.st (dedup y.dirty) ++ newDirty m y.st (dedup y.dirty)))) w' :=
        ⟨hs'.calm, v, hv2, v, rfl, ρ', hE, hv1, hmem⟩
      rcases hk with hk | hk <;> (rw [hk]; exact hgood)
    split at h
    · cases h
    · rename_i k y hne hx
      split at h
      · rename_i rs hrs
        cases h
        refine fin k y hx ?_ rs hrs rfl
        cases k with
        | n => exact .inl rfl
        | e id => exact absurd rfl (hne id)
        | r => exact .inr rfl
      · cases h
    · cases h
  · cases h
theorem FnOk.enter {P : Program} {f : FuncId} {d : Fn1} (hf : FnOk P f d) (args : Array Value) (w : World) : (callFunc f args).run P w = .ok (.enter f args) w := by
  obtain ⟨fn, hfn, hbody, _, _, hname⟩ := hf.ok
  have h1 : fn.name ≠ "runtime.NumGoroutine" := by simpa using hname
  simp [callFunc, hfn, h1, hbody]
/-- Calls within calls: by the table, or by running the callee's body, to a depth. -/
def callN (tab : TypeId → Option Ty) (T : CallT) (fns : FuncId → Option Fn1) (fuel : Nat) : Nat → CallT
  | 0 => T
  | n + 1 => fun f args m nid => match T f args m nid with
    | some out => some out
    | none => match fns f with
      | some d => runFn tab (callN tab T fns fuel n) fuel d args m (nid * 1048576) []
      | none => none
theorem callN_ok {P : Program} (hm : P.follows .mixedOrders = true) {tab : TypeId → Option Ty} (htab : ∀ t d, tab t = some d → TyOk P t d) {T : CallT} (hT : CallOk P T) {fns : FuncId → Option Fn1} (hfns : ∀ f d, fns f = some d → FnOk P f d) (fuel : Nat) :
    ∀ n, CallOk P (callN tab T fns fuel n) := by
  intro n
  induction n with
  | zero => exact hT
  | succ n ih =>
    intro f args m nid out h hob ρ w vs hv hM hnew
    simp only [callN] at h
    split at h
    · rename_i o ho; cases h; exact hT f args m nid _ ho hob ρ w vs hv hM hnew
    · split at h
      · rename_i d hd
        exact .inr ⟨(hfns f d hd).enter _ _, runFn_calls hm htab ih (hfns f d hd) h hob hv hM⟩
      · cases h
end Go.Eng
