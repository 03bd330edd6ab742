/-
  THE ENGINE, part F: the plans are right: the other operations; all together.
-/
import Derived.Test.YtkpihidjolfkoaaEngE
namespace Go.Eng
open Go Go.RowKit
section
variable {P : Program} {ρ : Rho} {tab : TypeId → Option Ty} {ev : Operand → Option SV} {val : Operand → Value}

theorem addr_add (b o : Nat) (j : Nat) : (⟨b, o, none⟩ : Addr).add j = ⟨b, o + j, none⟩ := by unfold Addr.add; split <;> simp_all
theorem ptrs_ok (hev : ∀ x s, ev x = some s → s.val ρ = some (val x)) : ∀ (l : List Operand) (qs : List (Nat × Nat)), ptrs ev l = some qs → capVals ρ qs = some (l.map val) := by
  intro l
  induction l with
  | nil => intro qs h; cases h; rfl
  | cons x l ih =>
    intro qs h
    simp only [ptrs] at h
    split at h
    · rename_i y ys hy hys
      split at h
      · rename_i q hq
        cases h
        obtain ⟨id, off⟩ := q
        obtain ⟨r, hr, hx⟩ := asPtr_val hq (av_val hev hy)
        simp only [capVals, hr, ih _ hys, List.map_cons, hx]
      · cases h
    · cases h
theorem avs_ok (hev : ∀ x s, ev x = some s → s.val ρ = some (val x)) : ∀ (l : List Operand) (ys : List AV), avs ev l = some ys → vals ρ ys = some (l.map val) := by
  intro l
  induction l with
  | nil => intro ys h; cases h; rfl
  | cons x l ih =>
    intro ys h
    simp only [avs] at h
    split at h
    · rename_i y ys' hy hys
      cases h
      simp only [vals, av_val hev hy, ih _ hys, List.map_cons]
    · cases h
theorem vals_append {a b : List AV} {x y : List Value} (ha : vals ρ a = some x) (hb : vals ρ b = some y) : vals ρ (a ++ b) = some (x ++ y) := by
  induction a generalizing x with
  | nil => cases ha; exact hb
  | cons v a ih =>
    simp only [vals] at ha
    split at ha
    · rename_i u us hu hus
      cases ha
      simp only [List.cons_append, vals, hu, ih hus]
    · cases ha
theorem vals_caps : ∀ (caps : List (Nat × Nat)) (vs : List Value), capVals ρ caps = some vs → vals ρ (caps.map fun q => (⟨false, [.p q.1 q.2]⟩ : AV)) = some vs := by
  intro caps
  induction caps with
  | nil => intro vs h; cases h; rfl
  | cons c caps ih =>
    intro vs h
    simp only [capVals] at h
    split at h
    · rename_i q us hq hus
      cases h
      have : AV.val ρ ⟨false, [.p c.1 c.2]⟩ = some (ptr q c.2) := AV.val_mk (by simp only [It.cs, hq])
      simp only [List.map_cons, vals, this, ih _ hus]
    · cases h
theorem func_val {fn : FuncId} {caps : List (Nat × Nat)} {v : Value} (hv : AV.val ρ ⟨false, [.f fn caps]⟩ = some v) : ∃ vs, capVals ρ caps = some vs ∧ v = .func (.func fn) #[] vs.toArray := by
  have := AV.val_one hv
  simp only [It.cs] at this
  split at this
  · rename_i q hq; cases this; exact ⟨q, hq, rfl⟩
  · cases this

theorem sound_call (hev : ∀ x s, ev x = some s → s.val ρ = some (val x)) {o : Oper} {c : Call} (ho : o.op = .call c) {f : Operand} (hc : c.callee = .value f) {fn : FuncId} {caps : List (Nat × Nat)} (hf : av ev f = some ⟨false, [.f fn caps]⟩)
    {args : List AV} (ha : avs ev c.args.toList = some args) : PlanSem P ρ val o (.call fn (args ++ caps.map fun q => ⟨false, [.p q.1 q.2]⟩)) := by
  obtain ⟨vs, h1, h2⟩ := func_val (av_val hev hf)
  refine ⟨_, vals_append (avs_ok hev _ _ ha) (vals_caps _ _ h1), fun w => ?_⟩
  simp only [execOp, ho, resolve, hc, h2, Deferred.ofValue, Sem.run_bind, Sem.run_pure, Result.andThen_ok, invoke]
  congr 2
  apply Array.ext'
  simp
theorem sound_len (htab : ∀ t d, tab t = some d → TyOk P t d) {o : Oper} {c : Call} (ho : o.op = .call c) (hc : c.callee = .builtin .len) {x : Operand} {t : TypeId} (h1 : c.args.toList = [x]) (h2 : c.argTypes.toList = [t])
    {d : Ty} (ht : tab t = some d) {s : Nat} (hs : d.sl = some s) {a : Option Addr} {n m : Nat} (hx : val x = .slice a n m) : PlanSem P ρ val o (.val (vI .i64 (n : Int)) []) := by
  obtain ⟨i, u, hi, hu, _, _, _, _, _, hsl⟩ := (htab t d ht).facts
  rw [hs] at hsl
  obtain ⟨e, ie, rfl, _⟩ := sl_some hsl
  have e1 : c.args = #[x] := by rw [← h1]
  have e2 : c.argTypes = #[t] := by rw [← h2]
  refine sem_val (vI_val ρ _ _) fun w => ?_
  simp only [execOp, ho, resolve, hc, e1, e2, Sem.run_bind, Sem.run_pure, Result.andThen_ok, invoke, builtin, Builtin.len_, hx, List.map_toArray, List.map_cons, List.map_nil,
    List.getElem?_toArray, List.getElem?_cons_zero, run_underlying hu, goInt]
theorem sound_max {o : Oper} {c : Call} (ho : o.op = .call c) (hc : c.callee = .builtin .max) {x y : Operand} (h1 : c.args.toList = [x, y]) {k k' : IntKind} {a b : Int} (hx : val x = .int k a) (hy : val y = .int k' b) :
    PlanSem P ρ val o (.val (vI k (if b > a then b else a)) []) := by
  have e1 : c.args = #[x, y] := by rw [← h1]
  refine sem_val (vI_val ρ _ _) fun w => ?_
  simp [execOp, ho, resolve, hc, e1, invoke, builtin, Builtin.max_, hx, hy, Builtin.max2]
theorem sound_copy (htab : ∀ t d, tab t = some d → TyOk P t d) {o : Oper} {c : Call} (ho : o.op = .call c) (hc : c.callee = .builtin .copy) {x y : Operand} {t : TypeId} {ts : List TypeId} (h1 : c.args.toList = [x, y]) (h2 : c.argTypes.toList = t :: ts)
    {d : Ty} (ht : tab t = some d) {s : Nat} (hs : d.sl = some s) {did sid : Nat} {qd qs : Nat × Nat} {doff dlen dcap soff slen scap : Nat} (hqd : ρ did = some qd) (hqs : ρ sid = some qs)
    (hx : val x = .slice (some ⟨qd.1, qd.2 + doff, none⟩) dlen dcap) (hy : val y = .slice (some ⟨qs.1, qs.2 + soff, none⟩) slen scap) :
    PlanSem P ρ val o (.copy did doff sid soff (Nat.min slen dlen * s) (Nat.min slen dlen)) := by
  obtain ⟨i, u, hi, hu, _, _, _, _, _, hsl⟩ := (htab t d ht).facts
  rw [hs] at hsl
  obtain ⟨e, ie, rfl, hie, hse⟩ := sl_some hsl
  have e1 : c.args = #[x, y] := by rw [← h1]
  have e2 : c.argTypes = (t :: ts).toArray := by rw [← h2]
  refine ⟨qd, qs, hqd, hqs, fun w vs hl hv => ?_⟩
  have hload := run_loadCells_list (P := P) w ⟨qs.1, qs.2 + soff, none⟩ vs (fun j v hj => by
    rw [addr_add, Nat.add_assoc]; exact hv j v hj)
  rw [hl] at hload
  simp only [execOp, ho, resolve, hc, e1, e2, Sem.run_bind, Sem.run_pure, Result.andThen_ok, invoke, builtin, Builtin.copy_, hx, hy, List.map_toArray, List.map_cons, List.map_nil,
    List.getElem?_toArray, List.getElem?_cons_zero, List.getElem?_cons_succ, run_underlying hu, Builtin.lenOf, run_sizeOf' hie, hse, Builtin.firstCells, hload, goInt]
  cases (storeCells ⟨qd.1, qd.2 + doff, none⟩ vs).run P w <;> rfl
theorem sound_clear (htab : ∀ t d, tab t = some d → TyOk P t d) {o : Oper} {c : Call} (ho : o.op = .call c) (hc : c.callee = .builtin .clear) {x : Operand} {t : TypeId} {ts : List TypeId} (h1 : c.args.toList = [x]) (h2 : c.argTypes.toList = t :: ts)
    {d : Ty} (ht : tab t = some d) {i : It} (hs : d.slz = some i) {id : Nat} {q : Nat × Nat} {off len cap : Nat} (hq : ρ id = some q)
    (hx : val x = .slice (some ⟨q.1, q.2 + off, none⟩) len cap) : PlanSem P ρ val o (.clear id off (List.replicate len i)) := by
  obtain ⟨e, v, hu, hcs, hz⟩ := (htab t d ht).slz i hs
  unfold zeroP at hz
  have e1 : c.args = #[x] := by rw [← h1]
  have e2 : c.argTypes = (t :: ts).toArray := by rw [← h2]
  cases hie : P.info? e with
  | none => simp [hie] at hz
  | some ie =>
    cases hzv : ie.zero with
    | none => simp [hie, hzv] at hz
    | some zv =>
      simp only [hie, hzv, Option.some.injEq] at hz
      have hzc : zv.cells = #[v] := by rw [← hz]
      have hconc : conc ρ (List.replicate len i) = some (List.replicate len v) := by
        clear hx
        induction len with
        | zero => rfl
        | succ n ih => exact conc_mk (It.cs_le (rho0_le ρ) _ _ hcs) ih
      refine ⟨q, _, hq, hconc, fun w => ?_⟩
      have hzr : (zeroValue e).run P w = .ok zv w := by simp only [zeroValue, Sem.run_bind, run_typeInfo w hie, Result.andThen_ok, hzv, Sem.run_pure]
      have hcells : (Builtin.zeroCells #[v] len).toList = List.replicate len v := by
        unfold Builtin.zeroCells
        apply List.ext_getElem
        · simp
        · intro j h1 h2; simp [Nat.mod_one]
      cases len with
      | zero => simp [execOp, ho, resolve, hc, e1, e2, invoke, builtin, Builtin.clear_, hx, run_underlying hu, storeCells]
      | succ n =>
        simp only [execOp, ho, resolve, hc, e1, e2, Sem.run_bind, Sem.run_pure, Result.andThen_ok, invoke, builtin, Builtin.clear_, hx, List.map_toArray, List.map_cons, List.map_nil,
          List.getElem?_toArray, List.getElem?_cons_zero, run_underlying hu, hzr, hzc, hcells]
        cases (storeCells ⟨q.1, q.2 + off, none⟩ (List.replicate (n + 1) v)).run P w <;> rfl
theorem sound_makeFunc (hev : ∀ x s, ev x = some s → s.val ρ = some (val x)) {o : Oper} {f : FuncId} {first caps : Array Operand} (ho : o.op = .makeFunc (.func f) first caps) (h0 : first.size = 0) {qs : List (Nat × Nat)} (hq : ptrs ev caps.toList = some qs) :
    PlanSem P ρ val o (.val (it1 (.f f qs)) []) := by
  have e : first = #[] := by simpa using h0
  refine sem_val (v := .func (.func f) #[] (caps.map val)) ?_ fun w => ?_
  · refine AV.val_mk ?_
    simp only [It.cs, ptrs_ok hev _ _ hq]
    congr 3
    apply Array.ext'
    simp
  · simp only [execOp, ho, e, Instr.makeFunc, Sem.run_bind, Sem.run_pure, Result.andThen_ok, Array.map_empty]
theorem bound_ok (hev : ∀ x s, ev x = some s → s.val ρ = some (val x)) {x : Operand} {dflt l : Nat} (h : boundOf ev dflt (some x) = some l) : ∃ k, val x = .int k (l : Int) := by
  simp only [boundOf] at h
  split at h
  · rename_i y hy
    split at h
    · rename_i k i hi
      split at h
      · rename_i h0
        cases h
        refine ⟨k, ?_⟩
        rw [asInt_val hi (av_val hev hy), Int.toNat_of_nonneg h0]
      · cases h
    · cases h
  · cases h
theorem run_sliceBound {x : Value} {k : IntKind} {l y : Nat} (hx : x = .int k (l : Int)) (h : l ≤ y) (code : BoundsCode) (w : World) : (Instr.sliceBound x y code).run P w = .ok l w := by
  subst hx
  have : (0 : Int) ≤ l ∧ (l : Int) ≤ y := ⟨by omega, by omega⟩
  simp [Instr.sliceBound, asIntOf, this]
theorem run_sliceBounds (hev : ∀ x s, ev x = some s → s.val ρ = some (val x)) {isSlice : Bool} {len cap : Nat} {lo hi : Option Operand} {l h : Nat} (hl : boundOf ev 0 lo = some l) (hh : boundOf ev len hi = some h) (h1 : l ≤ h) (h2 : h ≤ cap) (w : World) :
    (Instr.sliceBounds isSlice len cap (lo.map val) (hi.map val) none).run P w = .ok (l, h, cap) w := by
  cases hi with
  | none =>
    simp only [boundOf, Option.some.injEq] at hh
    subst hh
    cases lo with
    | none => simp only [boundOf, Option.some.injEq] at hl; subst hl; simp [Instr.sliceBounds]
    | some x =>
      obtain ⟨k, hx⟩ := bound_ok hev hl
      simp [Instr.sliceBounds, run_sliceBound hx h1]
  | some y =>
    obtain ⟨k', hy⟩ := bound_ok hev hh
    cases lo with
    | none => simp only [boundOf, Option.some.injEq] at hl; subst hl; simp [Instr.sliceBounds, run_sliceBound hy h2]
    | some x =>
      obtain ⟨k, hx⟩ := bound_ok hev hl
      simp [Instr.sliceBounds, run_sliceBound hx h1, run_sliceBound hy h2]
theorem sound_sliceArr (htab : ∀ t d, tab t = some d → TyOk P t d) (hev : ∀ x s, ev x = some s → s.val ρ = some (val x)) {o : Oper} {t : TypeId} {x : Operand} {lo hi : Option Operand} (ho : o.op = .slice t x lo hi none) {d : Ty} (ht : tab t = some d)
    {n s : Nat} {g : Bool} (ha : d.arr = some (n, s, g)) {q : Nat × Nat} {id off : Nat} (hq : ρ id = some q) (hx : val x = ptr q off) {l h : Nat} (hl : boundOf ev 0 lo = some l) (hh : boundOf ev n hi = some h) (h1 : l ≤ h) (h2 : h ≤ n) :
    PlanSem P ρ val o (.val (it1 (.s id (if n = l then off else off + l * s) (h - l) (n - l))) []) := by
  obtain ⟨i, u, hi', hu, _, _, _, _, harr, _⟩ := (htab t d ht).facts
  rw [ha] at harr
  obtain ⟨e, ie, ue, rfl, hie, _, hse, _⟩ := arr_some harr
  refine sem_val (slice_mk hq _ _ _) fun w => ?_
  simp only [execOp, ho, Instr.sliceAt, Sem.run_bind, run_underlying hu, Result.andThen_ok, hx, ptr, Instr.sureAddr, Sem.run_pure, Option.map_none, run_sliceBounds hev hl hh h1 h2, run_sizeOf' hie, hse]
  by_cases hc : n = l
  · simp [hc]
  · simp [hc, addr_add, Nat.add_assoc]
theorem sound_sliceSl (htab : ∀ t d, tab t = some d → TyOk P t d) (hev : ∀ x s, ev x = some s → s.val ρ = some (val x)) {o : Oper} {t : TypeId} {x : Operand} {lo hi : Option Operand} (ho : o.op = .slice t x lo hi none) {d : Ty} (ht : tab t = some d)
    {s : Nat} (ha : d.sl = some s) {q : Nat × Nat} {id off len cap : Nat} (hq : ρ id = some q) (hx : val x = .slice (some ⟨q.1, q.2 + off, none⟩) len cap) {l h : Nat} (hl : boundOf ev 0 lo = some l) (hh : boundOf ev len hi = some h) (h1 : l ≤ h) (h2 : h ≤ cap) :
    PlanSem P ρ val o (.val (it1 (.s id (if cap = l then off else off + l * s) (h - l) (cap - l))) []) := by
  obtain ⟨i, u, hi', hu, _, _, _, _, _, hsl⟩ := (htab t d ht).facts
  rw [ha] at hsl
  obtain ⟨e, ie, rfl, hie, hse⟩ := sl_some hsl
  refine sem_val (slice_mk hq _ _ _) fun w => ?_
  simp only [execOp, ho, Instr.sliceAt, Instr.slice, Sem.run_bind, run_underlying hu, Result.andThen_ok, hx, Option.map_none, run_sliceBounds hev hl hh h1 h2, run_sizeOf' hie, hse, Sem.run_pure]
  by_cases hc : cap = l
  · simp [hc]
  · simp [hc, addr_add, Nat.add_assoc]
theorem sound_sliceToArrayPointer (htab : ∀ t d, tab t = some d → TyOk P t d) {o : Oper} {t : TypeId} {x : Operand} (ho : o.op = .sliceToArrayPointer t x) {d : Ty} (ht : tab t = some d)
    {n s : Nat} {g : Bool} (ha : d.arr = some (n, s, g)) {q : Nat × Nat} {id off len cap : Nat} (hq : ρ id = some q) (hx : val x = .slice (some ⟨q.1, q.2 + off, none⟩) len cap) (hn : n ≤ len) : PlanSem P ρ val o (.val (it1 (.p id off)) []) := by
  obtain ⟨i, u, hi', hu, _, _, _, _, harr, _⟩ := (htab t d ht).facts
  rw [ha] at harr
  obtain ⟨e, ie, ue, rfl, hie, _, hse, _⟩ := arr_some harr
  have : ¬ len < n := by omega
  refine sem_val (ptr_mk hq _) fun w => ?_
  simp [execOp, ho, Instr.arrayAt, run_underlying hu, hx, this, ptr]
theorem sound_fieldAddr (htab : ∀ t d, tab t = some d → TyOk P t d) {o : Oper} {t : TypeId} {x : Operand} {i : Nat} (ho : o.op = .fieldAddr t x i) {d : Ty} (ht : tab t = some d) {off' s : Nat} {g : Bool} (hf : d.fields[i]? = some (off', s, g)) (hs : s ≠ 0)
    {q : Nat × Nat} {id off : Nat} (hq : ρ id = some q) (hx : val x = ptr q off) : PlanSem P ρ val o (.val (it1 (.p id (off + off'))) []) := by
  obtain ⟨_, u, _, hu, _, _, _, hfs, _⟩ := (htab t d ht).facts
  obtain ⟨Fs, f, n, uf, rfl, h1, h2, h3, h4, h5, h6⟩ := field_some hfs hf
  refine sem_val (ptr_mk hq _) fun w => ?_
  simp only [execOp, ho, Instr.fieldAt, Sem.run_bind, run_underlying hu, Result.andThen_ok, h1, hx, ptr, Instr.sureAddr, Sem.run_pure, fieldPlace, run_sizeOf' h2, h5, hs, if_false, Sem.run_ite, h4, addr_add, Nat.add_assoc]
theorem part_ok {t : TypeId} {u : TypeDesc} {i : TypeInfo} (hu : P.underlying t = some u) (hi : P.info? t = some i) {l : List It} {vs : List Value} (hc : conc ρ l = some vs) {off : Nat} {s : SV} (h : partIt l off i.size (aggD u) = some s) :
    ∃ v, s.val ρ = some v ∧ ∀ w, (part t vs.toArray off).run P w = .ok v w := by
  unfold partIt at h
  split at h
  · rename_i r hr
    cases h
    obtain ⟨h1, h2⟩ := cut_conc hr hc
    cases ha : aggD u with
    | true =>
      rw [ha] at h1 h2
      simp only [if_true] at h1 h2
      refine ⟨.agg ((vs.drop off).take i.size).toArray, by simp only [SV.val, AV.val, h2], fun w => ?_⟩
      unfold part
      simp only [Sem.run_bind, run_isAgg hu, Result.andThen_ok, ha, if_true, run_sizeOf' hi, Sem.run_pure]
      congr 2
      apply Array.ext'
      rw [Array.toList_extract]
      simp [List.extract_eq_take_drop]
    | false =>
      rw [ha] at h1 h2
      simp only [Bool.false_eq_true, if_false] at h1 h2
      have hlt : off < vs.length := by omega
      have e : (vs.drop off).take 1 = [vs[off]] := by
        rw [List.drop_eq_getElem_cons hlt, List.take_succ_cons, List.take_zero]
      rw [e] at h2
      refine ⟨vs[off], by simp only [SV.val, AV.val, h2], fun w => ?_⟩
      unfold part
      simp [run_isAgg hu, ha, hlt]
  · cases h
theorem sound_field (htab : ∀ t d, tab t = some d → TyOk P t d) {o : Oper} {t : TypeId} {x : Operand} {i : Nat} (ho : o.op = .field t x i) {d : Ty} (ht : tab t = some d) {off s : Nat} {g : Bool} (hf : d.fields[i]? = some (off, s, g))
    {l : List It} (hx : AV.val ρ ⟨true, l⟩ = some (val x)) {r : SV} (hr : partIt l off s g = some r) : PlanSem P ρ val o (.val r []) := by
  obtain ⟨_, u, _, hu, _, _, _, hfs, _⟩ := (htab t d ht).facts
  obtain ⟨Fs, f, n, uf, rfl, h1, h2, h3, h4, h5, h6⟩ := field_some hfs hf
  obtain ⟨vs, hc, hv⟩ := AV.cells hx
  rcases hv with ⟨_, ex⟩ | ⟨h0, _⟩
  case inr => cases h0
  rw [← h5, ← h6] at hr
  obtain ⟨v, hv1, hv2⟩ := part_ok h3 h2 hc hr
  refine sem_val hv1 fun w => ?_
  simp only [execOp, ho, Instr.field, Sem.run_bind, run_underlying hu, Result.andThen_ok, h1, ex, asAgg, Sem.run_pure, h4, hv2]
theorem index_ok {y : AV} {n j : Nat} {v : Value} (h : indexOf n y = some j) (hv : y.val ρ = some v) : ∃ k, v = .int k (j : Int) ∧ j < n := by
  unfold indexOf at h
  split at h
  · rename_i k i hi
    split at h
    · rename_i hb
      cases h
      exact ⟨k, by rw [asInt_val hi hv, Int.toNat_of_nonneg hb.1], by omega⟩
    · cases h
  · cases h
theorem sound_indexArr (htab : ∀ t d, tab t = some d → TyOk P t d) {o : Oper} {t : TypeId} {x i : Operand} (ho : o.op = .indexAddr t x i) {d : Ty} (ht : tab t = some d) {n s : Nat} {g : Bool} (ha : d.arr = some (n, s, g))
    {q : Nat × Nat} {id off : Nat} (hq : ρ id = some q) (hx : val x = ptr q off) {k : IntKind} {j : Nat} (hi : val i = .int k (j : Int)) (hj : j < n) : PlanSem P ρ val o (.val (it1 (.p id (off + j * s))) []) := by
  obtain ⟨_, u, _, hu, _, _, _, _, harr, _⟩ := (htab t d ht).facts
  rw [ha] at harr
  obtain ⟨e, ie, ue, rfl, hie, _, hse, _⟩ := arr_some harr
  refine sem_val (ptr_mk hq _) fun w => ?_
  have hb : (0 : Int) ≤ j ∧ (j : Int) < n := ⟨by omega, by omega⟩
  simp only [execOp, ho, Instr.indexAt, Sem.run_bind, hi, asIntOf, Sem.run_pure, Result.andThen_ok, run_underlying hu, hx, ptr, Instr.sureAddr]
  simp [hb, run_sizeOf' hie, hse, addr_add, Nat.add_assoc]
theorem sound_indexSl (htab : ∀ t d, tab t = some d → TyOk P t d) {o : Oper} {t : TypeId} {x i : Operand} (ho : o.op = .indexAddr t x i) {d : Ty} (ht : tab t = some d) {s : Nat} (ha : d.sl = some s)
    {q : Nat × Nat} {id off len cap : Nat} (hq : ρ id = some q) (hx : val x = .slice (some ⟨q.1, q.2 + off, none⟩) len cap) {k : IntKind} {j : Nat} (hi : val i = .int k (j : Int)) (hj : j < len) : PlanSem P ρ val o (.val (it1 (.p id (off + j * s))) []) := by
  obtain ⟨_, u, _, hu, _, _, _, _, _, hsl⟩ := (htab t d ht).facts
  rw [ha] at hsl
  obtain ⟨e, ie, rfl, hie, hse⟩ := sl_some hsl
  refine sem_val (ptr_mk hq _) fun w => ?_
  have hb : (0 : Int) ≤ j ∧ (j : Int) < len := ⟨by omega, by omega⟩
  simp only [execOp, ho, Instr.indexAt, Sem.run_bind, hi, asIntOf, Sem.run_pure, Result.andThen_ok, run_underlying hu, hx, ptr]
  simp [hb, run_sizeOf' hie, hse, addr_add, Nat.add_assoc]
theorem sound_index (htab : ∀ t d, tab t = some d → TyOk P t d) {o : Oper} {t : TypeId} {x i : Operand} (ho : o.op = .index t x i) {d : Ty} (ht : tab t = some d) {n s : Nat} {g : Bool} (ha : d.arr = some (n, s, g))
    {l : List It} (hx : AV.val ρ ⟨true, l⟩ = some (val x)) {k : IntKind} {j : Nat} (hi : val i = .int k (j : Int)) (hj : j < n) {r : SV} (hr : partIt l (j * s) s g = some r) : PlanSem P ρ val o (.val r []) := by
  obtain ⟨_, u, _, hu, _, _, _, _, harr, _⟩ := (htab t d ht).facts
  rw [ha] at harr
  obtain ⟨e, ie, ue, rfl, hie, hue, hse, hge⟩ := arr_some harr
  obtain ⟨vs, hc, hv⟩ := AV.cells hx
  rcases hv with ⟨_, ex⟩ | ⟨h0, _⟩
  case inr => cases h0
  rw [← hge] at hr
  have hr' := hr
  rw [← hse] at hr'
  obtain ⟨v, hv1, hv2⟩ := part_ok hue hie hc hr'
  refine sem_val hv1 fun w => ?_
  have hb : (0 : Int) ≤ j ∧ (j : Int) < n := ⟨by omega, by omega⟩
  simp only [execOp, ho, Instr.index, Sem.run_bind, hi, asIntOf, Sem.run_pure, Result.andThen_ok, run_underlying hu, ex, Sem.run_ite, hb, and_self, if_true, run_sizeOf' hie]
  rw [Int.toNat_natCast, hv2]
  rfl
theorem tup_val {l : List AV} {v : Value} (h : SV.val ρ (.tup l) = some v) : ∃ vs, vals ρ l = some vs ∧ v = .tuple vs.toArray := by
  simp only [SV.val] at h
  split at h
  · rename_i vs hvs; cases h; exact ⟨vs, hvs, rfl⟩
  · cases h
theorem vals_get : ∀ (l : List AV) (vs : List Value) (i : Nat) (y : AV), vals ρ l = some vs → l[i]? = some y → ∃ v, y.val ρ = some v ∧ vs[i]? = some v := by
  intro l
  induction l with
  | nil => intro vs i y h hy; simp at hy
  | cons x l ih =>
    intro vs i y h hy
    simp only [vals] at h
    split at h
    · rename_i u us hu hus
      cases h
      cases i with
      | zero => simp only [List.getElem?_cons_zero, Option.some.injEq] at hy ⊢; subst hy; exact ⟨u, hu, rfl⟩
      | succ i => simp only [List.getElem?_cons_succ] at hy ⊢; exact ih _ _ _ hus hy
    · cases h
theorem sound_extract {o : Oper} {x : Operand} {i : Nat} (ho : o.op = .extract x i) {l : List AV} (hx : SV.val ρ (.tup l) = some (val x)) {y : AV} (hy : l[i]? = some y) : PlanSem P ρ val o (.val (.one y) []) := by
  obtain ⟨vs, h1, h2⟩ := tup_val hx
  obtain ⟨v, h3, h4⟩ := vals_get _ _ _ _ h1 hy
  refine sem_val (v := v) h3 fun w => ?_
  simp [execOp, ho, Instr.extract, h2, h4]

/-- All together: THE MODEL DOES WHAT THE PLAN SAYS. -/
theorem conc_rep {ρ : Rho} {l : List It} {vs : List Value} (h : conc ρ l = some vs) : ∀ n, conc ρ (List.replicate n l).flatten = some (List.replicate n vs).flatten := by
  intro n
  induction n with
  | zero => rfl
  | succ n ih => rw [List.replicate_succ, List.flatten_cons, List.replicate_succ, List.flatten_cons]; exact conc_append _ _ _ _ h ih
theorem rep_cells (vs : List Value) (n : Nat) : ((Array.range (n * vs.length)).map (fun i => (vs.toArray)[i % (vs.toArray).size]!)).toList = (List.replicate n vs).flatten := by
  have key : ∀ n, (List.range (n * vs.length)).map (fun i => (vs.toArray)[i % (vs.toArray).size]!) = (List.replicate n vs).flatten := by
    intro n
    induction n with
    | zero => simp
    | succ n ih =>
      rw [List.replicate_succ', List.flatten_append, List.flatten_singleton, ← ih, Nat.succ_mul]
      have : List.range (n * vs.length + vs.length) = List.range (n * vs.length) ++ (List.range vs.length).map (n * vs.length + ·) := List.range_add
      rw [this, List.map_append, List.map_map]
      congr 1
      apply List.ext_getElem
      · simp
      · intro i h1 h2
        simp only [List.getElem_map, List.getElem_range, Function.comp_apply, List.size_toArray]
        have : (n * vs.length + i) % vs.length = i := by
          rw [Nat.mul_comm, Nat.mul_add_mod]; exact Nat.mod_eq_of_lt h2
        rw [this]
        simp [h2]
  rw [← key n]
  simp
theorem sound_buildSlice (htab : ∀ t d, tab t = some d → TyOk P t d) (hev : ∀ x s, ev x = some s → s.val ρ = some (val x)) {o : Oper} {t : TypeId} {n : Nat} {ps : Array (Nat × Operand)} (ho : o.op = .buildSlice t n ps) {d : Ty} (ht : tab t = some d)
    {s : Nat} {l r : List It} (hsl : d.sl = some s) (hez : d.ez = some l) (hs : sizes l = s) (hn : n * s ≤ 16777216) (hr : fillIt { d with arr := some (n, s, true) } ev ((List.replicate n l).flatten) ps.toList = some r) : PlanSem P ρ val o (.new r (some n)) := by
  obtain ⟨i, u, hi, hu, _, _, _, _, _, hsd⟩ := (htab t d ht).facts
  obtain ⟨e, zs, hue, hz, hzp⟩ := (htab t d ht).ez l hez
  rw [hu] at hue
  cases hue
  rw [hsl] at hsd
  obtain ⟨e', ie, he, hie, hse⟩ := sl_some hsd
  cases he
  have hzl : zs.length = s := by rw [length_conc _ _ hz, hs]
  have hz' := conc_rep (conc_le (rho0_le ρ) _ _ hz) n
  obtain ⟨rs, h3, h4⟩ := fill_ok (place := fun i => some (i * s, s)) (fun i q hq => by unfold placeOf at hq; simpa using hq) hev ps.toList _ r _ hr hz'
  have hps : (ps.map fun (x : Nat × Operand) => (x.1, val x.2)).toList = ps.toList.map fun q => (q.1, val q.2) := by simp
  refine ⟨rs, e, h3, fun w => ?_⟩
  unfold zeroP at hzp
  simp only [hie] at hzp
  cases hzv : ie.zero with
  | none => simp [hzv] at hzp
  | some zv =>
    simp only [hzv, Option.some.injEq] at hzp
    have hzr : ∀ w, (zeroValue e).run P w = .ok zv w := fun w => by simp only [zeroValue, Sem.run_bind, run_typeInfo w hie, Result.andThen_ok, hzv, Sem.run_pure]
    have hzc : zv.cells = zs.toArray := by rw [← hzp]
    have hbig : ¬ n * s > 2 ^ 24 := by
      have : (2 : Nat) ^ 24 = 16777216 := by decide
      omega
    simp only [execOp, ho, Instr.buildSlice, Sem.run_bind, run_underlying hu, Result.andThen_ok, run_sizeOf' hie, hse, hbig, if_false, Sem.run_pure]
    by_cases h0 : n * s = 0
    · have e0 : (List.replicate n zs).flatten = [] := by
        have : ((List.replicate n zs).flatten).length = 0 := by simp [hzl, h0]
        exact List.length_eq_zero_iff.1 this
      rw [e0] at h4
      simp only [h0, if_true, Sem.run_bind, Sem.run_pure, Result.andThen_ok]
      rw [show ((fun (x : Nat × Operand) => match x with | (i, x) => (i, val x)) = fun (x : Nat × Operand) => (x.1, val x.2)) from rfl, hps]
      have e1 : (Array.range 0).map (fun i => (#[] : Array Value)[i % (#[] : Array Value).size]!) = ([] : List Value).toArray := by simp
      rw [e1, h4]
      simp only [newRow, Sem.run_bind, run_newObj, Result.andThen_ok, Sem.run_pure]
      rfl
    · have e1 : (Array.range (n * s)).map (fun i => (zs.toArray)[i % (zs.toArray).size]!) = ((List.replicate n zs).flatten).toArray := by
        have := rep_cells zs n
        rw [hzl] at this
        rw [← this]
      simp only [h0, if_false, hzr, Sem.run_bind, Result.andThen_ok, Sem.run_pure, hzc]
      rw [show ((fun (x : Nat × Operand) => match x with | (i, x) => (i, val x)) = fun (x : Nat × Operand) => (x.1, val x.2)) from rfl, hps, e1, h4]
      simp only [newRow, Sem.run_bind, run_newObj, Result.andThen_ok, Sem.run_pure]
      rfl
theorem opPlan_sound (htab : ∀ t d, tab t = some d → TyOk P t d) (hev : ∀ x s, ev x = some s → s.val ρ = some (val x)) {hint : Option Bool} {o : Oper} {p : Plan} (h : opPlan tab hint ev o.op = some p) : PlanSem P ρ val o p := by
  have mv : ∀ {x : Operand} {y : AV}, av ev x = some y → y.val ρ = some (val x) := fun h => av_val hev h
  cases ho : o.op <;> rw [ho] at h <;> simp only [opPlan] at h <;> try (cases h; done)
  case move x =>
    split at h
    · rename_i s hs; cases h
      exact sem_val (hev _ _ hs) fun w => by simp only [execOp, ho, Sem.run_pure]
    · cases h
  case assign x =>
    split at h
    · rename_i s hs; cases h
      exact sem_val (hev _ _ hs) fun w => by simp only [execOp, ho, Sem.run_pure]
    · cases h
  case pick c a b =>
    split at h
    · rename_i y hy
      split at h
      · rename_i hb
        split at h
        · rename_i s hs; cases h
          have := asBool_val hb (mv hy)
          exact sem_val (hev _ _ hs) fun w => by simp [execOp, ho, this, Go.asBool]
        · cases h
      · rename_i hb
        split at h
        · rename_i s hs; cases h
          have := asBool_val hb (mv hy)
          exact sem_val (hev _ _ hs) fun w => by simp [execOp, ho, this, Go.asBool]
        · cases h
      · cases h
    · cases h
  case alloc t =>
    split at h
    · rename_i d ht
      split at h
      · rename_i l hz; cases h; exact sound_alloc htab ho ht hz
      · cases h
    · cases h
  case box t x =>
    split at h
    · rename_i y hy; cases h; exact sound_box ho (mv hy)
    · cases h
  case build t ps =>
    split at h
    · rename_i d ht
      split at h
      · rename_i z hz
        split at h
        · rename_i hg
          split at h
          · rename_i r hr; cases h; exact sound_build htab hev ho ht hz hg hr
          · cases h
        · cases h
      · cases h
    · cases h
  case buildSlice t n ps =>
    split at h
    · rename_i d ht
      split at h
      · rename_i s l hsl hez
        split at h
        · rename_i hc
          split at h
          · rename_i r hr; cases h; exact sound_buildSlice htab hev ho ht hsl hez hc.1 hc.2 hr
          · cases h
        · cases h
      · cases h
    · cases h
  case load t x =>
    split at h
    · rename_i y d hy ht
      split at h
      · rename_i id off hp
        cases h
        obtain ⟨q, hq, hx⟩ := asPtr_val hp (mv hy)
        exact sound_load htab ho ht hq hx
      · cases h
    · cases h
  case store t x y =>
    split at h
    · rename_i p' z d hp hz ht
      split at h
      · rename_i id off hpp
        split at h
        · rename_i hsz
          cases h
          obtain ⟨q, hq, hx⟩ := asPtr_val hpp (mv hp)
          exact sound_store htab ho ht hq hx (mv hz) hsz
        · cases h
      · cases h
    · cases h
  case nilCheck x =>
    split at h
    · rename_i y hy
      split at h
      · rename_i q hp; cases h; obtain ⟨id, off⟩ := q; exact sound_nilCheck ho (mv hy) hp
      · cases h
    · cases h
  case binOp op t x y u =>
    split at h
    · rename_i a b ha hb
      split at h
      · rename_i s ob hs
        cases h
        have hx := mv ha
        have hy := mv hb
        unfold binPlan at hs
        split at hs
        · rename_i k n k' m
          have ex := AV.val_one hx
          have ey := AV.val_one hy
          simp only [It.cs, Value.oneCell', Option.some.injEq, List.cons.injEq, and_true] at ex ey
          exact sound_intBin ho ex.symm ey.symm hs
        · rename_i n m
          have ex := AV.val_one hx
          have ey := AV.val_one hy
          simp only [It.cs, Value.oneCell', Option.some.injEq, List.cons.injEq, and_true] at ex ey
          split at hs
          · rename_i s' d hbb ht
            split at hs
            · rename_i hk; cases hs; exact sound_boolBin htab ho ht hk ex.symm ey.symm hbb
            · cases hs
          · cases hs
        · rename_i l m
          split at hs
          · rename_i d ht; exact sound_aggEq htab (.inl ⟨rfl, rfl⟩) ho ht hx hy hs
          · rename_i d ht; exact sound_aggEq htab (.inr ⟨rfl, rfl⟩) ho ht hx hy hs
          · cases hs
        · cases hs
      · cases h
    · cases h
  case unOp op t x =>
    split at h
    · rename_i y hy
      cases op <;> simp only at h <;> try (cases h; done)
      · split at h
        · rename_i k a hi
          cases h
          have := asInt_val hi (mv hy)
          exact sem_val (vI_val ρ _ _) fun w => by simp [execOp, ho, this, Op.unary, Op.intArith]
        · cases h
      · split at h
        · rename_i b hb
          cases h
          have := asBool_val hb (mv hy)
          exact sem_val (vB_val ρ _) fun w => by simp [execOp, ho, this, Op.unary]
        · cases h
    · cases h
  case convert src dst x =>
    split at h
    · rename_i y d' d hy hs ht
      split at h
      · rename_i k' a k hi hk
        cases h
        obtain ⟨_, u, _, hu, _, _, hik, _⟩ := (htab _ _ ht).facts
        obtain ⟨_, u', _, hu', _⟩ := (htab _ _ hs).facts
        rw [hk] at hik
        have hu2 : u = .int k := by
          unfold ikD at hik
          split at hik
          · cases hik; rfl
          · cases hik
        subst hu2
        have := asInt_val hi (mv hy)
        exact sem_val (vI_val ρ _ _) fun w => by simp [execOp, ho, this, convert, run_underlying hu, run_underlying hu', Conv.intToInt]
      · cases h
    · cases h
  case sliceToArrayPointer t x =>
    split at h
    · rename_i id off len cap d hx ht
      split at h
      · rename_i n s g ha
        split at h
        · rename_i hn
          cases h
          obtain ⟨q, hq, hv⟩ := slice_val (mv hx)
          exact sound_sliceToArrayPointer htab ho ht ha hq hv hn
        · cases h
      · cases h
    · cases h
  case makeFunc fn first caps =>
    cases fn <;> simp only at h <;> try (cases h; done)
    split at h
    · rename_i h0
      split at h
      · rename_i qs hq; cases h; exact sound_makeFunc hev ho h0 hq
      · cases h
    · cases h
  case slice t x lo hi mx =>
    cases mx <;> simp only at h <;> try (cases h; done)
    split at h
    · rename_i y d hy ht
      split at h
      · rename_i id off n s g ha
        split at h
        · rename_i l hh hl hhh
          split at h
          · rename_i hb
            cases h
            obtain ⟨q, hq, hx⟩ := asPtr_val (id := id) (off := off) rfl (mv hy)
            exact sound_sliceArr htab hev ho ht ha hq hx hl hhh hb.1 hb.2
          · cases h
        · cases h
      · rename_i id off len cap s ha hs
        split at h
        · rename_i l hh hl hhh
          split at h
          · rename_i hb
            cases h
            obtain ⟨q, hq, hx⟩ := slice_val (mv hy)
            exact sound_sliceSl htab hev ho ht hs hq hx hl hhh hb.1 hb.2
          · cases h
        · cases h
      · cases h
    · cases h
  case fieldAddr t x i =>
    split at h
    · rename_i y d hy ht
      split at h
      · rename_i id off off' s g hp hf
        split at h
        · rename_i hs
          cases h
          obtain ⟨q, hq, hx⟩ := asPtr_val hp (mv hy)
          exact sound_fieldAddr htab ho ht hf hs hq hx
        · cases h
      · cases h
    · cases h
  case field t x i =>
    split at h
    · rename_i l d hx ht
      split at h
      · rename_i off s g hf
        split at h
        · rename_i r hr; cases h; exact sound_field htab ho ht hf (mv hx) hr
        · cases h
      · cases h
    · cases h
  case indexAddr t x i =>
    split at h
    · rename_i y j d hy hj ht
      split at h
      · rename_i id off n s g ha
        split at h
        · rename_i q hq
          cases h
          obtain ⟨q', hq', hx⟩ := asPtr_val (id := id) (off := off) rfl (mv hy)
          obtain ⟨k, hk, hlt⟩ := index_ok hq (mv hj)
          exact sound_indexArr htab ho ht ha hq' hx hk hlt
        · cases h
      · rename_i id off len cap s ha hs
        split at h
        · split at h
          · rename_i k n hn
            cases h
            obtain ⟨q', hq', hx⟩ := slice_val (mv hy)
            intro hob
            have hb := hob _ (List.mem_singleton.2 rfl)
            have hk := asInt_val hn (mv hj)
            exact sound_indexSl htab ho ht hs hq' hx (k := k) (j := n.toNat) (by rw [hk, Int.toNat_of_nonneg hb.1]) (by omega) (fun p hp => by cases hp)
          · cases h
        · split at h
          · rename_i q hq
            cases h
            obtain ⟨q', hq', hx⟩ := slice_val (mv hy)
            obtain ⟨k, hk, hlt⟩ := index_ok hq (mv hj)
            exact sound_indexSl htab ho ht hs hq' hx hk hlt
          · cases h
      · cases h
    · cases h
  case index t x i =>
    split at h
    · rename_i z j d hx hj ht
      split at h
      · rename_i k n hstr hn
        split at h
        · rename_i b hb
          cases h
          have hu := (htab t d ht).str hstr
          have hx2 := AV.val_one (ρ := ρ) (mv hx)
          have hx3 : val x = .string z := by
            simp only [It.cs] at hx2
            split at hx2
            · simp only [Option.some.injEq, List.cons.injEq, and_true] at hx2; exact hx2.symm
            · cases hx2
          have hi := asInt_val hn (mv hj)
          exact sem_val (vI_val _ _ _) fun w => by simp only [execOp, ho, Instr.index, Sem.run_bind, hi, asIntOf, Sem.run_pure, Result.andThen_ok, run_underlying hu, hx3, hb]
        · cases h
      · cases h
    · rename_i l j d hx hj ht
      split at h
      · rename_i n s g ha
        split at h
        · rename_i q hq
          split at h
          · rename_i r hr
            cases h
            obtain ⟨k, hk, hlt⟩ := index_ok hq (mv hj)
            exact sound_index htab ho ht ha (mv hx) hk hlt hr
          · cases h
        · cases h
      · cases h
    · cases h
  case extract x i =>
    split at h
    · rename_i l hl
      split at h
      · rename_i y hy; cases h; exact sound_extract ho (hev _ _ hl) hy
      · cases h
    · cases h
  case call c =>
    unfold callPlan at h
    split at h
    · rename_i f hc
      split at h
      · rename_i fn caps args hf ha; cases h; exact sound_call hev ho hc hf ha
      · cases h
    · rename_i hc
      split at h
      · rename_i x t h1 h2
        split at h
        · rename_i id off len cap d hx ht
          split at h
          · rename_i s hs
            cases h
            obtain ⟨q, hq, hv⟩ := slice_val (mv hx)
            exact sound_len htab ho hc h1 h2 ht hs hv
          · cases h
        · rename_i len cap d hx ht
          split at h
          · rename_i s hs
            cases h
            have ex := AV.val_one (mv hx)
            simp only [It.cs, Value.oneCell', Option.some.injEq, List.cons.injEq, and_true] at ex
            exact sound_len htab ho hc h1 h2 ht hs ex.symm
          · cases h
        · cases h
      · cases h
    · rename_i hc
      split at h
      · rename_i x y h1
        split at h
        · rename_i a b ha hb
          split at h
          · rename_i k n k' m hi hj
            cases h
            exact sound_max ho hc h1 (asInt_val hi (mv ha)) (asInt_val hj (mv hb))
          · cases h
        · cases h
      · cases h
    · rename_i hc
      split at h
      · rename_i x y t ts h1 h2
        split at h
        · rename_i did doff dlen dcap sid soff slen scap d hx hy ht
          split at h
          · rename_i s hs
            cases h
            obtain ⟨qd, hqd, hvd⟩ := slice_val (mv hx)
            obtain ⟨qs, hqs, hvs⟩ := slice_val (mv hy)
            exact sound_copy htab ho hc h1 h2 ht hs hqd hqs hvd hvs
          · cases h
        · cases h
      · cases h
    · rename_i hc
      split at h
      · rename_i x t ts h1 h2
        split at h
        · rename_i id off len cap d hx ht
          split at h
          · rename_i i hs
            cases h
            obtain ⟨q, hq, hv⟩ := slice_val (mv hx)
            exact sound_clear htab ho hc h1 h2 ht hs hq hv
          · cases h
        · cases h
      · cases h
    · cases h
end
end Go.Eng
