/-
  THE ENGINE, part E: the plans are right: operation by operation.
-/
import Derived.Test.YtkpihidjolfkoaaEngD
namespace Go.Eng
open Go Go.RowKit

theorem AV.val_one {ρ : Rho} {i : It} {v : Value} (h : AV.val ρ ⟨false, [i]⟩ = some v) : i.cs ρ = some [v] := by
  unfold AV.val at h
  cases hc : conc ρ [i] with
  | none => simp [hc] at h
  | some vs =>
    obtain ⟨a, b, ha, hb, rfl⟩ := conc_cons hc
    cases hb
    simp only [List.append_nil] at hc
    simp only [hc] at h
    split at h
    · rename_i h1 _; cases h1
    · rename_i v' _ h2
      cases h
      rw [ha, ← h2]
    · cases h
theorem AV.val_mk {ρ : Rho} {i : It} {v : Value} (h : i.cs ρ = some [v]) : AV.val ρ ⟨false, [i]⟩ = some v := by
  unfold AV.val
  have : conc ρ [i] = some [v] := conc_mk h rfl
  simp only [this]
theorem asInt_val {ρ : Rho} {y : AV} {k : IntKind} {a : Int} {v : Value} (h : asInt y = some (k, a)) (hv : y.val ρ = some v) : v = .int k a := by
  unfold asInt at h
  split at h
  · cases h; have := AV.val_one hv; simp only [It.cs] at this; cases this; rfl
  · cases h
theorem asBool_val {ρ : Rho} {y : AV} {b : Bool} {v : Value} (h : asBool y = some b) (hv : y.val ρ = some v) : v = .bool b := by
  unfold asBool at h
  split at h
  · cases h; have := AV.val_one hv; simp only [It.cs] at this; cases this; rfl
  · cases h
theorem asPtr_val {ρ : Rho} {y : AV} {id off : Nat} {v : Value} (h : asPtr y = some (id, off)) (hv : y.val ρ = some v) : ∃ q, ρ id = some q ∧ v = ptr q off := by
  unfold asPtr at h
  split at h
  · cases h
    have := AV.val_one hv
    simp only [It.cs] at this
    split at this
    · rename_i q hq; cases this; exact ⟨q, hq, rfl⟩
    · cases this
  · cases h
theorem slice_val {ρ : Rho} {id off len cap : Nat} {v : Value} (hv : AV.val ρ ⟨false, [.s id off len cap]⟩ = some v) : ∃ q, ρ id = some q ∧ v = .slice (some ⟨q.1, q.2 + off, none⟩) len cap := by
  have := AV.val_one hv
  simp only [It.cs] at this
  split at this
  · rename_i q hq; cases this; exact ⟨q, hq, rfl⟩
  · cases this
theorem ptr_mk {ρ : Rho} {id : Nat} {q : Nat × Nat} (h : ρ id = some q) (off : Nat) : (it1 (.p id off)).val ρ = some (ptr q off) :=
  AV.val_mk (by simp only [It.cs, h])
theorem slice_mk {ρ : Rho} {id : Nat} {q : Nat × Nat} (h : ρ id = some q) (off len cap : Nat) : (it1 (.s id off len cap)).val ρ = some (.slice (some ⟨q.1, q.2 + off, none⟩) len cap) :=
  AV.val_mk (by simp only [It.cs, h])
theorem AV.val_v {ρ : Rho} {x : Value} (h : x.oneCell' = true) : AV.val ρ ⟨false, [.v x]⟩ = some x := AV.val_mk (by simp only [It.cs, h])
theorem vI_val (ρ : Rho) (k : IntKind) (a : Int) : (vI k a).val ρ = some (.int k a) := AV.val_v (ρ := ρ) (x := .int k a) rfl
theorem vB_val (ρ : Rho) (b : Bool) : (vB b).val ρ = some (.bool b) := AV.val_v (ρ := ρ) (x := .bool b) rfl
theorem cs_v {ρ : Rho} {x : Value} (h : x.oneCell' = true) : (It.v x).cs ρ = some [x] := by simp only [It.cs, h]
theorem val_plain (ρ : Rho) (vs : List Value) (h : ∀ v ∈ vs, v.oneCell' = true) : conc ρ (vs.map .v) = some vs := by
  induction vs with
  | nil => rfl
  | cons v vs ih => exact conc_mk (i := .v v) (a := [v]) (cs_v (h v (by simp))) (ih fun u hu => h u (by simp [hu]))
theorem cells_one {v : Value} (h : v.oneCell' = true) : v.cells = #[v] := by
  cases v <;> first | rfl | cases h

section
variable {P : Program} {ρ : Rho} {tab : TypeId → Option Ty} {ev : Operand → Option SV} {val : Operand → Value}
theorem av_val (hev : ∀ x s, ev x = some s → s.val ρ = some (val x)) {x : Operand} {y : AV} (h : av ev x = some y) : y.val ρ = some (val x) := by
  unfold av at h
  split at h
  · rename_i z hz; cases h; exact hev x _ hz
  · cases h
/-- The facts that the table gives. -/
theorem TyOk.facts {t : TypeId} {d : Ty} (h : TyOk P t d) : ∃ i u, P.info? t = some i ∧ P.underlying t = some u ∧ i.size = d.size ∧ aggD u = d.agg ∧ ikD u = d.ik ∧ fieldsD P u = d.fields.map some ∧ arrD P u = d.arr ∧ slD P u = d.sl := by
  have hc := h.core
  unfold Eng.core at hc
  cases hi : P.info? t with
  | none => simp [hi] at hc
  | some i =>
    cases hu : P.underlying t with
    | none => simp [hi, hu] at hc
    | some u =>
      simp only [hi, hu, Option.some.injEq, Prod.mk.injEq] at hc
      exact ⟨i, u, rfl, rfl, hc.1, hc.2.1, hc.2.2.1, hc.2.2.2.1, hc.2.2.2.2.1, hc.2.2.2.2.2⟩
theorem run_sizeOf' {t : TypeId} {i : TypeInfo} (h : P.info? t = some i) (w : World) : (sizeOf t).run P w = .ok i.size w := by
  simp [sizeOf, run_typeInfo w h]
theorem elemOf_some {e : TypeId} {s : Nat} {g : Bool} (h : elemOf P e = some (s, g)) : ∃ i u, P.info? e = some i ∧ P.underlying e = some u ∧ i.size = s ∧ aggD u = g := by
  unfold elemOf at h
  split at h
  · rename_i i u hi hu
    cases h
    exact ⟨i, u, hi, hu, rfl, rfl⟩
  · cases h
theorem arr_some {u : TypeDesc} {n s : Nat} {g : Bool} (h : arrD P u = some (n, s, g)) : ∃ e i ue, u = .array n e ∧ P.info? e = some i ∧ P.underlying e = some ue ∧ i.size = s ∧ aggD ue = g := by
  unfold arrD at h
  split at h
  · split at h
    · rename_i hs; cases h
      obtain ⟨i, ue, h1, h2, h3, h4⟩ := elemOf_some hs
      exact ⟨_, i, ue, rfl, h1, h2, h3, h4⟩
    · cases h
  · cases h
theorem sl_some {u : TypeDesc} {s : Nat} (h : slD P u = some s) : ∃ e i, u = .slice e ∧ P.info? e = some i ∧ i.size = s := by
  unfold slD at h
  split at h
  · split at h
    · rename_i hs; cases h
      obtain ⟨i, ue, h1, h2, h3, h4⟩ := elemOf_some hs
      exact ⟨_, i, rfl, h1, h3⟩
    · cases h
  · cases h
theorem field_some {u : TypeDesc} {fs : List (Nat × Nat × Bool)} (h : fieldsD P u = fs.map some) {i : Nat} {o s : Nat} {g : Bool} (hi : fs[i]? = some (o, s, g)) :
    ∃ (Fs : Array Field) (f : Field) (n : TypeInfo) (uf : TypeDesc), u = .struct Fs ∧ Fs[i]? = some f ∧ P.info? f.type = some n ∧ P.underlying f.type = some uf ∧ f.offset = o ∧ n.size = s ∧ aggD uf = g := by
  unfold fieldsD at h
  split at h
  · rename_i Fs
    have h1 := congrArg (fun l => l[i]?) h
    simp only [List.getElem?_map, hi, Option.map_some] at h1
    cases hf : Fs.toList[i]? with
    | none => simp [hf] at h1
    | some f =>
      simp only [hf, Option.map_some, Option.some.injEq] at h1
      unfold fieldOf at h1
      split at h1
      · rename_i s' g' hs
        cases h1
        obtain ⟨n, uf, h2, h3, h4, h5⟩ := elemOf_some hs
        exact ⟨Fs, f, n, uf, rfl, by simpa using hf, h2, h3, rfl, h4, h5⟩
      · cases h1
  · have h1 := congrArg (fun l => l[i]?) h
    simp [hi] at h1
theorem sem_val {o : Oper} {x : SV} {v : Value} {ob : List Prop} (hx : x.val ρ = some v) (hr : ∀ w, (execOp val o).run P w = .ok (.value v) w) : PlanSem P ρ val o (.val x ob) :=
  fun _ => ⟨v, hx, hr⟩

theorem sound_alloc (htab : ∀ t d, tab t = some d → TyOk P t d) {o : Oper} {t : TypeId} (ho : o.op = .alloc t) {d : Ty} (ht : tab t = some d) {l : List It} (hz : d.zero = some l) : PlanSem P ρ val o (.new l none) := by
  obtain ⟨vs, h1, h2⟩ := (htab t d ht).zero l hz
  obtain ⟨i, u, hi, hu, _⟩ := (htab t d ht).facts
  unfold zeroP at h2
  simp only [hi] at h2
  cases hzv : i.zero with
  | none => simp [hzv] at h2
  | some zv =>
    simp only [hzv, Option.some.injEq] at h2
    refine ⟨vs, t, conc_le (rho0_le ρ) _ _ h1, fun w => ?_⟩
    simp only [execOp, ho, Instr.alloc, Sem.run_bind, zeroValue, run_typeInfo w hi, Result.andThen_ok, hzv, Sem.run_pure, newVar, newRow, run_newObj]
    subst h2
    rfl
theorem sound_box {o : Oper} {t : TypeId} {x : Operand} (ho : o.op = .box t x) {y : AV} (hy : y.val ρ = some (val x)) : PlanSem P ρ val o (.new y.its none) := by
  obtain ⟨vs, hc, hv⟩ := AV.cells hy
  have e : (val x).cells = vs.toArray := by
    rcases hv with ⟨_, h⟩ | ⟨_, h⟩
    · rw [h]; rfl
    · subst h
      rw [cells_one (conc_one _ _ hc _ (by simp))]
  refine ⟨vs, t, hc, fun w => ?_⟩
  simp only [execOp, ho, Instr.box, Sem.run_bind, newVar, newRow, run_newObj, Result.andThen_ok, Sem.run_pure, e]
  rfl
theorem sound_load (htab : ∀ t d, tab t = some d → TyOk P t d) {o : Oper} {t : TypeId} {x : Operand} (ho : o.op = .load t x) {d : Ty} (ht : tab t = some d) {q : Nat × Nat} {id off : Nat} (hq : ρ id = some q) (hx : val x = ptr q off) :
    PlanSem P ρ val o (.load id off (if d.agg then d.size else 1) d.agg) := by
  obtain ⟨i, u, hi, hu, hs, ha, _⟩ := (htab t d ht).facts
  refine ⟨q, hq, fun h => by simp [h], fun w vs hl hc => ?_⟩
  have hadd : ∀ j, (⟨q.1, q.2 + off, none⟩ : Addr).add j = ⟨q.1, q.2 + (off + j), none⟩ := fun j => by unfold Addr.add; split <;> simp_all [Nat.add_assoc]
  simp only [execOp, ho, hx, ptr, Instr.loadAt, Instr.sureAddr, Sem.run_bind, Sem.run_pure, Result.andThen_ok, loadVar, run_isAgg hu, ha]
  cases hg : d.agg with
  | true =>
    simp only [hg, if_true] at hl
    simp only [if_true, Sem.run_bind, run_sizeOf' hi, Result.andThen_ok, hs, ← hl]
    rw [run_loadCells_list (P := P) w ⟨q.1, q.2 + off, none⟩ vs (fun j v hv => by rw [hadd]; exact hc j v hv)]
    rfl
  | false =>
    simp only [hg, Bool.false_eq_true, if_false] at hl
    obtain ⟨v, rfl⟩ : ∃ v, vs = [v] := by
      cases vs with
      | nil => cases hl
      | cons v vs => cases vs with
        | nil => exact ⟨v, rfl⟩
        | cons _ _ => simp at hl
    have h0 := hc 0 v rfl
    simp only [Nat.add_zero] at h0
    simp only [Bool.false_eq_true, if_false, run_load, h0, Result.andThen_ok, List.headD_cons]
theorem sound_store (htab : ∀ t d, tab t = some d → TyOk P t d) {o : Oper} {t : TypeId} {x y : Operand} (ho : o.op = .store t x y) {d : Ty} (ht : tab t = some d) {q : Nat × Nat} {id off : Nat} (hq : ρ id = some q) (hx : val x = ptr q off)
    {z : AV} (hz : z.val ρ = some (val y)) (hsz : sizes z.its = d.size) : PlanSem P ρ val o (.store id off z.its) := by
  obtain ⟨i, u, hi, hu, hs, _⟩ := (htab t d ht).facts
  obtain ⟨vs, hc, hv⟩ := AV.cells hz
  have e : (val y).cells = vs.toArray := by
    rcases hv with ⟨_, h⟩ | ⟨_, h⟩
    · rw [h]; rfl
    · subst h
      rw [cells_one (conc_one _ _ hc _ (by simp))]
  have hl : vs.length = i.size := by rw [length_conc _ _ hc, hsz, hs]
  refine ⟨q, vs, hq, hc, fun w => ?_⟩
  simp only [execOp, ho, hx, ptr, Instr.storeAt, Instr.sureAddr, Sem.run_bind, Sem.run_pure, Result.andThen_ok, storeVar, run_sizeOf' hi, e, List.size_toArray, hl, ne_eq, not_true_eq_false, if_false, Sem.run_ite]
theorem sound_nilCheck {o : Oper} {x : Operand} (ho : o.op = .nilCheck x) {y : AV} (hy : y.val ρ = some (val x)) {id off : Nat} (hp : asPtr y = some (id, off)) : PlanSem P ρ val o (.val (.one y) []) := by
  obtain ⟨q, hq, hx⟩ := asPtr_val hp hy
  refine sem_val (v := val x) hy fun w => ?_
  simp only [execOp, ho, hx, ptr, Sem.run_pure]
theorem sound_intBin {o : Oper} {op : BinOp} {t u : TypeId} {x y : Operand} (ho : o.op = .binOp op t x y u) {k k' : IntKind} {a b : Int} (hx : val x = .int k a) (hy : val y = .int k' b) {hint : Option Bool} {s : SV} {ob : List Prop}
    (h : intBin op k a k' b hint = some (s, ob)) : PlanSem P ρ val o (.val s ob) := by
  intro hob
  have hg : ∀ w, (eqGuard op t x y (val x) (val y)).run P w = .ok () w := fun w => by
    rw [hx, hy]; cases op <;> simp [eqGuard]
  have owes : ∀ {c : Prop} {d : Bool} {l : List Prop}, owed c d hint = some l → (d = true → c) → (∀ p ∈ l, p) → c := by
    intro c d l h1 h2 h3
    cases hint with
    | none => cases d with
      | true => exact h2 rfl
      | false => cases h1
    | some b => cases h1; exact h3 c (by simp)
  have cmps : ∀ {c : Prop} {d : Bool}, (d = true ↔ c) → cmpV c d hint = (s, ob) → s.val ρ = some (.bool d) := by
    intro c d hd he
    cases hint with
    | none => cases he; exact vB_val ρ d
    | some b =>
      cases he
      have := hob _ (List.mem_singleton.2 rfl)
      have e : b = d := by rw [Bool.eq_iff_iff]; exact this.symm.trans hd.symm
      rw [e]; exact vB_val ρ d
  have fin : ∀ v : Value, s.val ρ = some v → (∀ w, (binOp op t (val x) (val y)).run P w = .ok v w) → ∃ v, s.val ρ = some v ∧ ∀ w, (execOp val o).run P w = .ok (.value v) w := by
    intro v h1 h2
    refine ⟨v, h1, fun w => ?_⟩
    simp only [execOp, ho, Sem.run_bind, hg, Result.andThen_ok, h2, Sem.run_pure]
  rw [hx, hy] at fin
  cases op <;> simp only [intBin] at h
  case shl =>
    split at h
    · rename_i l hl
      cases h
      have hb := owes hl (by simp) hob
      refine fin _ (vI_val ρ _ _) fun w => ?_
      have : ¬ b < 0 := by omega
      simp [binOp, Op.shift, this]
    · cases h
  case shr =>
    split at h
    · rename_i l hl
      cases h
      have hb := owes hl (by simp) hob
      refine fin _ (vI_val ρ _ _) fun w => ?_
      have : ¬ b < 0 := by omega
      simp [binOp, Op.shift, this]
    · cases h
  all_goals
    split at h
    · rename_i hk
      subst hk
      first
        | (cases h; done)
        | (cases h; exact fin _ (vI_val ρ _ _) fun w => by simp [binOp, Op.intArith, Op.intBits, bits])
        | (split at h
           · rename_i l hl
             cases h
             have hb := owes hl (by simp) hob
             exact fin _ (vI_val ρ _ _) fun w => by simp [binOp, Op.intDiv, hb]
           · cases h)
        | exact fin _ (cmps (by simp) (Option.some.inj h)) fun w => by simp [binOp, Op.intCmp]
    · cases h
theorem kindsOf_spec : ∀ (l : List It) (ks : List K), kindsOf l = some ks → ∀ (vs : List Value), conc ρ l = some vs → vs = plainVals l ∧ fits vs ks = true := by
  intro l
  induction l with
  | nil => intro ks h vs hv; cases h; cases hv; exact ⟨rfl, rfl⟩
  | cons i l ih =>
    intro ks h vs hv
    obtain ⟨a, b, ha, hb, rfl⟩ := conc_cons hv
    cases i with
    | v x =>
      cases x with
      | int k n =>
        simp only [kindsOf] at h
        split at h
        · rename_i r hr
          cases h
          simp only [It.cs] at ha
          cases ha
          obtain ⟨h1, h2⟩ := ih r hr b hb
          exact ⟨by simp [plainVals, ← h1], by simp [fits, kOk, h2]⟩
        · cases h
      | bool n =>
        simp only [kindsOf] at h
        split at h
        · rename_i r hr
          cases h
          simp only [It.cs] at ha
          cases ha
          obtain ⟨h1, h2⟩ := ih r hr b hb
          exact ⟨by simp [plainVals, ← h1], by simp [fits, kOk, h2]⟩
        · cases h
      | _ => cases h
    | w k n =>
      simp only [kindsOf] at h
      split at h
      · rename_i r hr
        cases h
        simp only [It.cs, Option.some.injEq] at ha
        subst ha
        obtain ⟨h1, h2⟩ := ih r hr b hb
        refine ⟨by simp [plainVals, ← h1], ?_⟩
        unfold words
        have : ∀ (m : List Nat), fits (m.map (word n) ++ b) (List.replicate m.length (some IntKind.u64) ++ r) = true := by
          intro m
          induction m with
          | nil => exact h2
          | cons j m ih2 => simpa [fits, kOk, word, List.replicate_succ] using ih2
        simpa using this (List.range k)
      · cases h
    | p id off => cases h
    | s id off len cap => cases h
    | f fn caps => cases h
theorem sound_aggEq (htab : ∀ t d, tab t = some d → TyOk P t d) {o : Oper} {op : BinOp} {neg : Bool} (hop : (neg = false ∧ op = .eql) ∨ (neg = true ∧ op = .neq)) {t u : TypeId} {x y : Operand} (ho : o.op = .binOp op t x y u) {d : Ty} (ht : tab t = some d)
    {l m : List It} (hx : AV.val ρ ⟨true, l⟩ = some (val x)) (hy : AV.val ρ ⟨true, m⟩ = some (val y)) {hint : Option Bool} {s : SV} {ob : List Prop} (h : aggEq neg d l m hint = some (s, ob)) : PlanSem P ρ val o (.val s ob) := by
  intro hob
  cases hint with
  | none => cases h
  | some b =>
    simp only [aggEq] at h
    split at h
    · cases h
    · rename_i hks
      split at h
      · rename_i hk
        cases h
        have hiff := hob _ (List.mem_singleton.2 rfl)
        obtain ⟨vs, hv, hv'⟩ := AV.cells hx
        obtain ⟨us, hu, hu'⟩ := AV.cells hy
        rcases hv' with ⟨_, ex⟩ | ⟨h0, _⟩
        case inr => cases h0
        rcases hu' with ⟨_, ey⟩ | ⟨h0, _⟩
        case inr => cases h0
        obtain ⟨e1, f1⟩ := kindsOf_spec _ _ hk.2.1 _ hv
        obtain ⟨e2, f2⟩ := kindsOf_spec _ _ hk.2.2 _ hu
        have hkinds := (htab t d ht).kinds
        rcases hkinds with h0 | ⟨hflat, hguard⟩
        · exact absurd h0 (by intro h0; exact hks h0)
        obtain ⟨i, ut, hi, hut, hs, ha, _⟩ := (htab t d ht).facts
        refine ⟨_, vB_val ρ _, fun w => ?_⟩
        obtain ⟨r, hr, hr'⟩ := run_flat (P := P) 9992 8 t _ hflat w vs us f1 f2
        have hform : ∀ zs, form P t zs = .agg zs.toArray := fun zs => by simp only [form, hut, ha, hk.1, if_true]
        rw [hform, hform] at hr
        have hg : ∀ w, (eqGuard op t x y (val x) (val y)).run P w = .ok () w := fun w => by
          rw [ex, ey]; exact run_eqGuard_agg w op t x y _ _ hguard
        have er : r = b := by
          rw [Bool.eq_iff_iff, hr', e1, e2]; exact hiff
        simp only [execOp, ho, Sem.run_bind, hg, Result.andThen_ok]
        rw [ex, ey]
        rcases hop with ⟨rfl, rfl⟩ | ⟨rfl, rfl⟩
        · rw [run_eql_struct w t, show (10000 : Nat) = 9992 + 8 from rfl, hr, er]
          simp
        · rw [run_neq_struct w t, show (10000 : Nat) = 9992 + 8 from rfl, hr, er]
          simp
      · cases h
theorem sound_boolBin (htab : ∀ t d, tab t = some d → TyOk P t d) {o : Oper} {op : BinOp} {t u : TypeId} {x y : Operand} (ho : o.op = .binOp op t x y u) {d : Ty} (ht : tab t = some d) (hk : d.kinds = [none] ∧ d.agg = false)
    {a b : Bool} (hx : val x = .bool a) (hy : val y = .bool b) {s : SV} (h : boolBin op a b = some s) : PlanSem P ρ val o (.val s []) := by
  obtain ⟨i, ut, hi, hut, hs, ha, _⟩ := (htab t d ht).facts
  have hu : P.underlying t = some .bool := by
    rcases (htab t d ht).kinds with h0 | ⟨hf, _⟩
    · rw [hk.1] at h0; cases h0
    · rw [hk.1] at hf
      rw [hk.2] at ha
      simp only [flat, hut] at hf
      cases ut <;> simp only [aggD] at ha <;> first | exact hut | (cases hf; done) | (cases ha; done)
  have hg : ∀ w, (eqGuard op t x y (val x) (val y)).run P w = .ok () w := fun w => by
    rw [hx, hy]; cases op <;> simp [eqGuard]
  cases op <;> simp only [boolBin] at h <;> try (cases h; done)
  case eql =>
    cases h
    refine sem_val (vB_val ρ _) fun w => ?_
    simp only [execOp, ho, Sem.run_bind, hg, Result.andThen_ok]
    simp only [hx, hy, binOp, Sem.run_bind, run_equal_bool w t a b hu, Result.andThen_ok, Sem.run_pure]
  case neq =>
    cases h
    refine sem_val (vB_val ρ _) fun w => ?_
    simp only [execOp, ho, Sem.run_bind, hg, Result.andThen_ok]
    simp only [hx, hy, binOp, Sem.run_bind, run_equal_bool w t a b hu, Result.andThen_ok, Sem.run_pure]
/-! ### parts laid together -/
theorem foldl_set (off : Nat) : ∀ (vs : List Value) (k : Nat) (cs : Array Value), off + k + vs.length ≤ cs.size →
    (vs.zipIdx k).foldl (fun (cs : Array Value) (p : Value × Nat) => cs.setIfInBounds (off + p.2) p.1) cs = (cs.toList.take (off + k) ++ (vs ++ cs.toList.drop (off + k + vs.length))).toArray := by
  intro vs
  induction vs with
  | nil => intro k cs _; simp
  | cons v vs ih =>
    intro k cs h
    simp only [List.length_cons] at h
    simp only [List.zipIdx_cons, List.foldl_cons]
    rw [ih (k + 1) _ (by simp; omega)]
    apply Array.ext'
    simp only [Array.toList_setIfInBounds, List.length_cons]
    have hl : off + k < cs.toList.length := by simp; omega
    rw [show off + (k + 1) = (off + k) + 1 by omega, List.take_succ_eq_append_getElem (by simpa using hl)]
    rw [List.getElem_set_self]
    rw [List.take_set_of_le (Nat.le_refl _)]
    rw [List.drop_set_of_lt (by omega)]
    simp only [List.append_assoc, List.cons_append, List.nil_append]
    rw [show off + k + 1 + vs.length = off + k + (vs.length + 1) by omega]
theorem fill_ok {d : Ty} {place : Nat → Option (Nat × Nat)} (hp : ∀ i q, placeOf d i = some q → place i = some q) (hev : ∀ x s, ev x = some s → s.val ρ = some (val x)) :
    ∀ (ps : List (Nat × Operand)) (z r : List It) (zs : List Value), fillIt d ev z ps = some r → conc ρ z = some zs →
      ∃ rs, conc ρ r = some rs ∧ Instr.fill place zs.toArray (ps.map fun q => (q.1, val q.2)) = some rs.toArray := by
  intro ps
  induction ps with
  | nil => intro z r zs h hz; cases h; exact ⟨zs, hz, rfl⟩
  | cons q ps ih =>
    intro z r zs h hz
    obtain ⟨i, x⟩ := q
    simp only [fillIt] at h
    split at h
    · rename_i off s y hpl hy
      split at h
      · rename_i hs
        split at h
        · rename_i r' hr'
          obtain ⟨us, hu, hv⟩ := AV.cells (av_val hev hy)
          have e : (val x).cells = us.toArray := by
            rcases hv with ⟨_, h⟩ | ⟨_, h⟩
            · rw [h]; rfl
            · subst h
              rw [cells_one (conc_one _ _ hu _ (by simp))]
          obtain ⟨h1, h2⟩ := lay_conc hr' hz hu
          have hl : us.length = s := by rw [length_conc _ _ hu, hs]
          obtain ⟨rs, h3, h4⟩ := ih r' r _ h h2
          refine ⟨rs, h3, ?_⟩
          simp only [List.map_cons, Instr.fill, hp _ _ hpl, e, List.size_toArray, hl, ne_eq, not_true_eq_false, decide_false, Bool.false_or]
          rw [if_neg (by simp; omega)]
          rw [← h4]
          congr 1
          have := foldl_set off us 0 zs.toArray (by simp; omega)
          simp only [Nat.add_zero] at this
          rw [← this, ← Array.foldl_toList, Array.toList_zipIdx]
        · cases h
      · cases h
    · cases h
theorem run_places (w : World) : ∀ (fs : List Field) (l : List (Nat × Nat × Bool)), fs.map (fieldOf P) = l.map some →
    (fs.mapM fun f => do pure (f.offset, ← sizeOf f.type) : Sem (List (Nat × Nat))).run P w = .ok (l.map fun q => (q.1, q.2.1)) w := by
  intro fs
  induction fs with
  | nil => intro l h; cases l with
    | nil => rfl
    | cons _ _ => cases h
  | cons f fs ih =>
    intro l h
    cases l with
    | nil => cases h
    | cons q l =>
      simp only [List.map_cons, List.cons.injEq] at h
      obtain ⟨h1, h2⟩ := h
      unfold fieldOf at h1
      split at h1
      · rename_i s g hs
        cases h1
        obtain ⟨i, u, hi, hu, hsz, _⟩ := elemOf_some hs
        simp only [List.mapM_cons, Sem.run_bind, run_sizeOf' hi, Result.andThen_ok, Sem.run_pure, ih l h2, List.map_cons, hsz]
      · cases h1
theorem sound_build (htab : ∀ t d, tab t = some d → TyOk P t d) (hev : ∀ x s, ev x = some s → s.val ρ = some (val x)) {o : Oper} {t : TypeId} {ps : Array (Nat × Operand)} (ho : o.op = .build t ps) {d : Ty} (ht : tab t = some d)
    {z r : List It} (hz : d.zero = some z) (hg : (d.agg && (d.arr.isSome || !d.fields.isEmpty)) = true) (hr : fillIt d ev z ps.toList = some r) : PlanSem P ρ val o (.val (.one ⟨true, r⟩) []) := by
  obtain ⟨i, u, hi, hu, hs, ha, hik, hf, harr, hsl⟩ := (htab t d ht).facts
  obtain ⟨zs, h1, h2⟩ := (htab t d ht).zero z hz
  unfold zeroP at h2
  simp only [hi] at h2
  cases hzv : i.zero with
  | none => simp [hzv] at h2
  | some zv =>
    simp only [hzv, Option.some.injEq] at h2
    have hzr : ∀ w, (zeroValue t).run P w = .ok zv w := fun w => by simp only [zeroValue, Sem.run_bind, run_typeInfo w hi, Result.andThen_ok, hzv, Sem.run_pure]
    have hzc : zv.cells = zs.toArray := by rw [← h2]
    have hps : (ps.map fun (x : Nat × Operand) => (x.1, val x.2)).toList = ps.toList.map fun q => (q.1, val q.2) := by simp
    rw [Bool.and_eq_true] at hg
    rw [hg.1] at ha
    cases u <;> simp only [aggD] at ha <;> try (cases ha; done)
    case array n e =>
      have hfl : d.fields = [] := by
        cases hfd : d.fields with
        | nil => rfl
        | cons _ _ => rw [hfd] at hf; cases hf
      simp only [arrD] at harr
      split at harr
      · rename_i s g hs'
        obtain ⟨ie, ue, hie, hue, hse, _⟩ := elemOf_some hs'
        obtain ⟨rs, h3, h4⟩ := fill_ok (place := fun i => some (i * s, s)) (fun i q hq => by
          unfold placeOf at hq; rw [← harr] at hq; exact hq) hev ps.toList z r zs hr (conc_le (rho0_le ρ) _ _ h1)
        refine sem_val (v := .agg rs.toArray) (by simp only [SV.val, AV.val, h3]) fun w => ?_
        simp only [execOp, ho, Instr.build, Sem.run_bind, hzr, Result.andThen_ok, run_underlying hu, run_sizeOf' hie, hse, hzc]
        rw [show ((fun (x : Nat × Operand) => match x with | (i, x) => (i, val x)) = fun (x : Nat × Operand) => (x.1, val x.2)) from rfl, hps, h4]
        rfl
      · have := hg.2
        rw [← harr, hfl] at this
        cases this
    case struct fs =>
      have harr' : d.arr = none := harr.symm
      obtain ⟨rs, h3, h4⟩ := fill_ok (place := fun i => (d.fields.map fun q => (q.1, q.2.1)).toArray[i]?) (fun i q hq => by
          unfold placeOf at hq; rw [harr'] at hq
          simp only at hq
          split at hq
          · rename_i off s g hi'
            cases hq
            simp [hi']
          · cases hq) hev ps.toList z r zs hr (conc_le (rho0_le ρ) _ _ h1)
      refine sem_val (v := .agg rs.toArray) (by simp only [SV.val, AV.val, h3]) fun w => ?_
      have hm : (fs.mapM fun f => do pure (f.offset, ← sizeOf f.type) : Sem (Array (Nat × Nat))).run P w = .ok (d.fields.map fun q => (q.1, q.2.1)).toArray w := by
        rw [Array.mapM_eq_mapM_toList, Sem.run_map, run_places w fs.toList d.fields hf]
        rfl
      simp only [execOp, ho, Instr.build, Sem.run_bind, hzr, Result.andThen_ok, run_underlying hu, hm, hzc]
      rw [show ((fun (x : Nat × Operand) => match x with | (i, x) => (i, val x)) = fun (x : Nat × Operand) => (x.1, val x.2)) from rfl, hps, h4]
      rfl
end
end Go.Eng
