/-
  THE ENGINE, part H: one operation on a state; a region, in whatever order.
-/
import Derived.Test.YtkpihidjolfkoaaEngG
namespace Go.Eng
open Go Go.RowKit

def constSV : Value → Option SV
  | .agg cs => if cs.toList.all (·.oneCell') then some (.one ⟨true, cs.toList.map .v⟩) else none
  | .tuple _ => none
  | v => some (it1 (.v v))
def evE (env : Nat → Option SV) : Operand → Option SV
  | .tmp t => env t
  | .const v => constSV v
  | .func f => some (it1 (.f f []))
  | .global _ => none
theorem it1_v {ρ : Rho} {x : Value} (h : x.oneCell' = true) : (it1 (.v x)).val ρ = some x := AV.val_v h
theorem constSV_val {ρ : Rho} {v : Value} {s : SV} (h : constSV v = some s) : s.val ρ = some v := by
  cases v
  case agg cs =>
    simp only [constSV] at h
    split at h
    · rename_i hall
      cases h
      rw [List.all_eq_true] at hall
      simp only [SV.val, AV.val, val_plain ρ _ hall]
    · cases h
  case tuple => cases h
  all_goals
    simp only [constSV, Option.some.injEq] at h
    subst h
    exact it1_v rfl
theorem evE_val {ρ : Rho} {a : Act} {env : Nat → Option SV} (henv : ∀ t x, env t = some x → x.val ρ = some (a.tmps.getD t undef)) : ∀ x s, evE env x = some s → s.val ρ = some (a.eval x) := by
  intro x s h
  cases x with
  | tmp t => exact henv t s h
  | const v => exact constSV_val h
  | func f =>
    cases h
    have e : (It.f f []).cs ρ = some [.func (.func f) #[] #[]] := rfl
    exact AV.val_mk (ρ := ρ) e
  | global g => cases h

/-- Is the operation wanted? -/
def wantedA (ops : Array Oper) (o : Oper) (env : Nat → Option SV) : Option Bool := match o.guard with
  | none => some true
  | some (j, want) => match (ops[j]?).bind (·.dst) with
    | none => none
    | some d => match env d with
      | some (.one ⟨false, [.v (.bool b)]⟩) => some (b == want)
      | some (.tup []) => some false
      | _ => none
theorem wantedA_ok {ρ : Rho} {a : Act} {ops : Array Oper} {o : Oper} {env : Nat → Option SV} (henv : ∀ t x, env t = some x → x.val ρ = some (a.tmps.getD t undef)) {b : Bool} (h : wantedA ops o env = some b) :
    Region.wanted o (yielded ops a.tmps) = b := by
  unfold wantedA at h
  unfold Region.wanted
  cases hg : o.guard with
  | none => simp only [hg] at h; cases h; rfl
  | some g =>
    obtain ⟨j, want⟩ := g
    simp only [hg] at h
    simp only
    unfold yielded
    cases hd : (ops[j]?).bind (·.dst) with
    | none => simp only [hd] at h; cases h
    | some d =>
      simp only [hd] at h
      simp only [Option.bind_some]
      split at h
      · rename_i c hc
        cases h
        have := AV.val_one (ρ := ρ) (i := .v (.bool c)) (henv d _ hc)
        simp only [It.cs, Value.oneCell', Option.some.injEq, List.cons.injEq, and_true] at this
        rw [Array.getD_eq_getD_getElem?] at this
        cases ht : a.tmps[d]? with
        | none => rw [ht] at this; cases this
        | some v =>
          rw [ht] at this
          simp only [Option.getD_some] at this
          subst this
          cases c <;> cases want <;> rfl
      · rename_i hc
        cases h
        have := henv d _ hc
        simp only [SV.val, vals, Option.some.injEq] at this
        rw [Array.getD_eq_getD_getElem?] at this
        cases ht : a.tmps[d]? with
        | none => cases want <;> rfl
        | some v =>
          rw [ht] at this
          simp only [Option.getD_some] at this
          subst this
          cases want <;> rfl
      · cases h

def dstW (N : Nat) : Option Nat → SV → Option (List (Nat × Ct))
  | none, _ => some []
  | some d, x => if d < N then some [(2 * d, .sl x)] else none
abbrev Step := List Nat × List (Nat × Ct) × List Prop
def fresh (st : St) (l : List (Nat × List It)) : Bool := l.all fun p => match look st (2 * p.1 + 1) with
  | none => true
  | some _ => false
def inMem (m : St) (l : List (Nat × List It)) : Bool := l.all fun p => (m.blk p.1).isSome
def handIds (args : List AV) (keys0 : List Nat) : List Nat := match idsAV args with
  | [] => []
  | l => l ++ keys0
def putDst (N : Nat) (dst : Option Nat) (x : SV) (reads : List Nat) (wr : List (Nat × Ct)) (ob : List Prop) : Option Step := match dstW N dst x with
  | some d => some (reads, wr ++ d, ob)
  | none => none
/-- What is read of a block; of one that is marked by an empty row ahead, at any place. -/
def loadIt (l : List It) (off len : Nat) (agg : Bool) : Option (AV × List Prop) := match l with
  | [.w 0 _, .w k n] => match agg, Nat.beq len 1 with
    | false, true => some (⟨false, [.v (word n off)]⟩, [off < k])
    | _, _ => none
  | l => match cut l off len with
    | some r => some (⟨agg, r⟩, [])
    | none => none
theorem loadIt_ok {l : List It} {off len : Nat} {agg : Bool} {x : AV} {ob : List Prop} (h : loadIt l off len agg = some (x, ob)) (hob : ∀ p ∈ ob, p) {ρ : Rho} {vs : List Value} (hc : conc ρ l = some vs) :
    off + len ≤ vs.length ∧ ((agg = true ∧ x.agg = true ∧ conc ρ x.its = some ((vs.drop off).take len)) ∨ (agg = false ∧ x.agg = false ∧ (len = 1 → conc ρ x.its = some ((vs.drop off).take 1)))) := by
  unfold loadIt at h
  split at h
  · rename_i k0 k n
    split at h
    · rename_i hb
      cases h
      have hb : len = 1 := Nat.eq_of_beq_eq_true hb
      have hlt : off < k := hob _ (List.mem_singleton.2 rfl)
      have hv : vs = words k n := by
        simp only [conc, It.cs, Option.some.injEq] at hc
        rw [← hc]; simp [words]
      subst hv
      subst hb
      refine ⟨by rw [length_words]; omega, .inr ⟨rfl, rfl, fun _ => ?_⟩⟩
      have h1 : ((words k n).drop off).take 1 = [word n off] := by
        rw [List.drop_eq_getElem_cons (by rw [length_words]; exact hlt)]
        simp [words]
      rw [h1]
      simp [conc, It.cs, word, Value.oneCell']
    · cases h
  · split at h
    · rename_i r hr
      cases h
      obtain ⟨hle, hcr⟩ := cut_conc hr hc
      refine ⟨hle, ?_⟩
      cases agg with
      | true => exact .inl ⟨rfl, rfl, hcr⟩
      | false => exact .inr ⟨rfl, rfl, fun e => by rw [e] at hcr; exact hcr⟩
    · cases h
def doPlan (call : CallT) (N : Nat) (keys0 : List Nat) (nid : Nat) (dst : Option Nat) (st : St) : Plan → Option Step
  | .val x ob => putDst N dst x [] [] ob
  | .load id off len agg => match st.blk id with
    | some l => match loadIt l off len agg with
      | some (x, ob) => putDst N dst (.one x) [2 * id + 1] [] ob
      | none => none
    | none => none
  | .new l sl => match own nid, fresh st [(nid, l)] with
    | true, true => putDst N dst (match sl with | some n => it1 (.s nid 0 n n) | none => it1 (.p nid 0)) [2 * nid + 1] [(2 * nid + 1, .bl l)] []
    | _, _ => none
  | .store id off new => match own id, st.blk id with
    | true, some l => match lay l off new with
      | some r => putDst N dst (.tup []) [2 * id + 1] [(2 * id + 1, .bl r)] []
      | none => none
    | _, _ => none
  | .clear id off new => match own id, st.blk id with
    | true, some l => match lay l off new with
      | some r => putDst N dst (.tup []) [2 * id + 1] [(2 * id + 1, .bl r)] []
      | none => none
    | _, _ => none
  | .copy did doff sid soff cells cnt => match own did, st.blk did, st.blk sid with
    | true, some l, some l2 => match cut l2 soff cells with
      | some c => match lay l doff c with
        | some r => putDst N dst (vI .i64 (cnt : Int)) [2 * did + 1, 2 * sid + 1] [(2 * did + 1, .bl r)] []
        | none => none
      | none => none
    | _, _, _ => none
  | .call f args => match closedB st (handIds args keys0), call f args (memOf st (handIds args keys0)) nid with
    | true, some out => match fresh st out.news, inMem (memOf st (handIds args keys0)) out.wr with
      | true, true => putDst N dst out.val ((handIds args keys0).map (fun id => 2 * id + 1) ++ out.news.map fun p => 2 * p.1 + 1) (blkW (out.wr ++ out.news)) out.ob
      | _, _ => none
    | _, _ => none
def envOf (st : St) (sl : List Nat) (t : Nat) : Option SV := if sl.contains t then st.slot t else none
def stepOp (tab : TypeId → Option Ty) (call : CallT) (N : Nat) (ops : Array Oper) (keys0 : List Nat) (nid : Nat) (hint : Option Bool) (o : Oper) (st : St) : Option Step :=
  match wantedA ops o (envOf st (o.looksAt ops)) with
  | some true => match opPlan tab hint (evE (envOf st (o.looksAt ops))) o.op with
    | some p => match doPlan call N keys0 nid o.dst st p with
      | some (R, W, ob) => some ((o.looksAt ops).map (fun t => 2 * t) ++ R, W, ob)
      | none => none
    | none => none
  | some false => match dstW N o.dst (.tup []) with
    | some d => some ((o.looksAt ops).map (fun t => 2 * t), d, [])
    | none => none
  | none => none

/-! ### it hangs on what it reads alone -/
theorem blk_of_look {st st' : St} {id : Nat} (h : look st (2 * id + 1) = look st' (2 * id + 1)) : st.blk id = st'.blk id := by unfold St.blk; rw [h]
theorem memOf_congr {st st' : St} : ∀ (l : List Nat), (∀ id ∈ l, st.blk id = st'.blk id) → memOf st l = memOf st' l := by
  intro l
  induction l with
  | nil => intro _; rfl
  | cons j l ih =>
    intro h
    simp only [memOf, h j (by simp), ih fun id hid => h id (by simp [hid])]
theorem doPlan_congr {call : CallT} {N : Nat} {keys0 : List Nat} {nid : Nat} {dst : Option Nat} {st st' : St} {p : Plan} {R : List Nat} {W : List (Nat × Ct)} {ob : List Prop}
    (h : doPlan call N keys0 nid dst st p = some (R, W, ob)) (hR : ∀ k ∈ R, look st k = look st' k) : doPlan call N keys0 nid dst st' p = some (R, W, ob) := by
  have pd : ∀ {x : SV} {rd : List Nat} {wr : List (Nat × Ct)} {ob' : List Prop}, putDst N dst x rd wr ob' = some (R, W, ob) → rd = R := by
    intro x rd wr ob' h
    unfold putDst at h
    split at h
    · cases h; rfl
    · cases h
  cases p with
  | val x ob' => exact h
  | load id off len agg =>
    simp only [doPlan] at h ⊢
    cases hb : st.blk id with
    | none => simp [hb] at h
    | some l =>
      cases hc : loadIt l off len agg with
      | none => simp [hb, hc] at h
      | some r =>
        obtain ⟨x, ob'⟩ := r
        simp only [hb, hc] at h
        have := pd h
        have e := blk_of_look (hR (2 * id + 1) (by rw [← this]; simp))
        rw [← e]
        simp only [hb, hc, h]
  | new l sl =>
    simp only [doPlan] at h ⊢
    cases ho : own nid with
    | false => simp [ho] at h
    | true =>
      cases hf : fresh st [(nid, l)] with
      | false => simp [ho, hf] at h
      | true =>
        simp only [ho, hf] at h
        have := pd h
        have e := hR (2 * nid + 1) (by rw [← this]; simp)
        have : fresh st' [(nid, l)] = true := by
          simp only [fresh, List.all_cons, List.all_nil, Bool.and_true] at hf ⊢
          rw [← e]; exact hf
        simp only [this]; exact h
  | store id off new =>
    simp only [doPlan] at h ⊢
    cases ho : own id with
    | false => simp [ho] at h
    | true =>
      cases hb : st.blk id with
      | none => simp [ho, hb] at h
      | some l =>
        cases hc : lay l off new with
        | none => simp [ho, hb, hc] at h
        | some r =>
          simp only [ho, hb, hc] at h
          have := pd h
          have e := blk_of_look (hR (2 * id + 1) (by rw [← this]; simp))
          rw [← e]
          simp only [hb, hc, h]
  | clear id off new =>
    simp only [doPlan] at h ⊢
    cases ho : own id with
    | false => simp [ho] at h
    | true =>
      cases hb : st.blk id with
      | none => simp [ho, hb] at h
      | some l =>
        cases hc : lay l off new with
        | none => simp [ho, hb, hc] at h
        | some r =>
          simp only [ho, hb, hc] at h
          have := pd h
          have e := blk_of_look (hR (2 * id + 1) (by rw [← this]; simp))
          rw [← e]
          simp only [hb, hc, h]
  | copy did doff sid soff cells cnt =>
    simp only [doPlan] at h ⊢
    cases ho : own did with
    | false => simp [ho] at h
    | true =>
      cases hb : st.blk did with
      | none => simp [ho, hb] at h
      | some l =>
        cases hb2 : st.blk sid with
        | none => simp [ho, hb, hb2] at h
        | some l2 =>
          cases hc2 : cut l2 soff cells with
          | none => simp [ho, hb, hb2, hc2] at h
          | some c =>
            cases hc : lay l doff c with
            | none => simp [ho, hb, hb2, hc2, hc] at h
            | some r =>
              simp only [ho, hb, hb2, hc2, hc] at h
              have := pd h
              have e := blk_of_look (hR (2 * did + 1) (by rw [← this]; simp))
              have e2 := blk_of_look (hR (2 * sid + 1) (by rw [← this]; simp))
              rw [← e, ← e2]
              simp only [hb, hb2, hc2, hc, h]
  | call f args =>
    simp only [doPlan] at h ⊢
    cases hcl : closedB st (handIds args keys0) with
    | false => simp [hcl] at h
    | true =>
      cases hc : call f args (memOf st (handIds args keys0)) nid with
      | none => simp [hcl, hc] at h
      | some out =>
        simp only [hcl, hc] at h
        cases hf : fresh st out.news with
        | false => simp [hf] at h
        | true =>
          cases hi : inMem (memOf st (handIds args keys0)) out.wr with
          | false => simp [hf, hi] at h
          | true =>
            simp only [hf, hi] at h
            have := pd h
            have eb : ∀ id ∈ handIds args keys0, st.blk id = st'.blk id := fun id hid => blk_of_look (hR _ (by
              rw [← this]; exact List.mem_append_left _ (List.mem_map.2 ⟨id, hid, rfl⟩)))
            have em := memOf_congr _ eb
            have e1 : closedB st' (handIds args keys0) = true := by
              unfold closedB at hcl ⊢
              rw [List.all_eq_true] at hcl ⊢
              intro id hid
              rw [← eb id hid]; exact hcl id hid
            have e2 : fresh st' out.news = true := by
              unfold fresh at hf ⊢
              rw [List.all_eq_true] at hf ⊢
              intro p hp
              rw [← hR _ (by rw [← this]; exact List.mem_append_right _ (List.mem_map.2 ⟨p, hp, rfl⟩))]; exact hf p hp
            simp only [e1, ← em, hc, e2, hi]; exact h
theorem stepOp_congr {tab : TypeId → Option Ty} {call : CallT} {N : Nat} {ops : Array Oper} {keys0 : List Nat} {nid : Nat} {hint : Option Bool} {o : Oper} {st st' : St} {R : List Nat} {W : List (Nat × Ct)} {ob : List Prop}
    (h : stepOp tab call N ops keys0 nid hint o st = some (R, W, ob)) (hR : ∀ k ∈ R, look st k = look st' k) : stepOp tab call N ops keys0 nid hint o st' = some (R, W, ob) := by
  have hbase : ∀ t ∈ o.looksAt ops, 2 * t ∈ R := by
    intro t ht
    unfold stepOp at h
    split at h
    · split at h
      · split at h
        · cases h; exact List.mem_append_left _ (List.mem_map.2 ⟨t, ht, rfl⟩)
        · cases h
      · cases h
    · split at h
      · cases h; exact List.mem_map.2 ⟨t, ht, rfl⟩
      · cases h
    · cases h
  have henv : envOf st (o.looksAt ops) = envOf st' (o.looksAt ops) := by
    funext t
    unfold envOf
    by_cases ht : t ∈ o.looksAt ops
    · have hc : (o.looksAt ops).contains t = true := by simpa using ht
      simp only [hc, if_true]
      unfold St.slot
      rw [hR _ (hbase t ht)]
    · have hc : (o.looksAt ops).contains t = false := by simpa using ht
      simp only [hc, Bool.false_eq_true, if_false]
  unfold stepOp at h ⊢
  rw [← henv]
  cases hw : wantedA ops o (envOf st (o.looksAt ops)) with
  | none => rw [hw] at h; cases h
  | some b =>
    rw [hw] at h
    cases b with
    | false => exact h
    | true =>
      simp only at h ⊢
      cases hp : opPlan tab hint (evE (envOf st (o.looksAt ops))) o.op with
      | none => rw [hp] at h; cases h
      | some p =>
        rw [hp] at h
        simp only at h ⊢
        cases hd : doPlan call N keys0 nid o.dst st p with
        | none => rw [hd] at h; cases h
        | some q =>
          obtain ⟨R', W', ob'⟩ := q
          rw [hd] at h
          cases h
          rw [doPlan_congr hd fun k hk => hR k (List.mem_append_right _ hk)]

/-! ### the model's operation does it -/
theorem putDst_ok {N : Nat} {dst : Option Nat} {x : SV} {rd : List Nat} {wr : List (Nat × Ct)} {ob : List Prop} {R : List Nat} {W : List (Nat × Ct)} {ob' : List Prop} (h : putDst N dst x rd wr ob = some (R, W, ob')) {ρ : Rho} {st : St} {a : Act} {w : World}
    (hs : Sim ρ N (puts st wr) a w) {v : Value} (hv : x.val ρ = some v) : ob' = ob ∧ Sim ρ N (puts st W) (a.put dst v) w := by
  unfold putDst at h
  split at h
  · rename_i d hd
    cases h
    refine ⟨rfl, ?_⟩
    rw [puts_append]
    unfold dstW at hd
    cases dst with
    | none => cases hd; exact hs
    | some t =>
      simp only at hd
      split at hd
      · rename_i ht; cases hd; exact hs.put ht hv
      · cases hd
  · cases h
section
variable {P : Program} {tab : TypeId → Option Ty} {call : CallT} {N : Nat} {ops : Array Oper} {keys0 : List Nat} {nid : Nat} {hint : Option Bool} {o : Oper} {st : St} {Q : Exit → Act → World → Prop} {R : List Nat} {W : List (Nat × Ct)} {ob : List Prop} {ρ : Rho} {a : Act} {w : World}
theorem doPlan_wp (hcall : CallOk P call) {p : Plan} (hp : PlanSem P ρ a.eval o p) (h : doPlan call N keys0 nid o.dst st p = some (R, W, ob)) (hob : ∀ q ∈ ob, q) (hs : Sim ρ N st a w) {K : Act → World → Prop}
    (hK : ∀ ρ' a' w', Ext ρ w ρ' w' → Sim ρ' N (puts st W) a' w' → K a' w') : o.wp P a w K Q := by
  unfold Oper.wp
  cases p with
  | val x ob' =>
    simp only [doPlan] at h
    obtain ⟨v, hv, hr⟩ := hp (by
      unfold putDst at h; split at h
      · cases h; exact hob
      · cases h)
    rw [hr w, Oper.upon_value]
    exact hK ρ _ w (.refl ρ w) (putDst_ok h (wr := []) hs hv).2
  | load id off len agg =>
    simp only [doPlan] at h
    split at h
    · rename_i l hl
      split at h
      · rename_i x ob' hr
        have hob' : ∀ p ∈ ob', p := by
          unfold putDst at h; split at h
          · cases h; exact hob
          · cases h
        obtain ⟨q, hq, h1, hrun⟩ := hp
        obtain ⟨b, o', vs, hb, hc, hok⟩ := hs.mem.blk id l hl
        rw [hb] at hq; cases hq
        obtain ⟨hle, hcr⟩ := loadIt_ok hr hob' hc
        have hlen : ((vs.drop off).take len).length = len := by rw [List.length_take, List.length_drop]; omega
        have hcell : ∀ i v, ((vs.drop off).take len)[i]? = some v → w.cell? ⟨b, o' + (off + i), none⟩ = some v := by
          intro i v hi
          have hi' : vs[off + i]? = some v := by
            rw [List.getElem?_take] at hi
            split at hi
            · rw [List.getElem?_drop] at hi; exact hi
            · cases hi
          obtain ⟨_, hown, hfor⟩ := hok
          cases ho : own id with
          | true =>
            obtain ⟨rfl, t, ht⟩ := hown ho
            rw [cell_of_row w b _ _ t _ ht, Nat.zero_add]
            simpa using hi'
          | false => exact hfor ho _ _ hi'
        have hrun' := hrun w _ hlen hcell
        rw [hrun', Oper.upon_value]
        refine hK ρ _ w (.refl ρ w) (putDst_ok h (wr := []) hs ?_).2
        obtain ⟨xa, xi⟩ := x
        rcases hcr with ⟨ha, hx, hcr⟩ | ⟨ha, hx, hcr⟩
        · simp only at hx hcr
          subst ha; subst hx
          simp only [SV.val, AV.val, hcr]
        · simp only at hx hcr
          subst ha; subst hx
          have hl1 := h1 rfl
          have hcr := hcr hl1
          rw [hl1] at hlen ⊢
          obtain ⟨v, hv⟩ : ∃ v, (vs.drop off).take 1 = [v] := by
            cases hh : (vs.drop off).take 1 with
            | nil => rw [hh] at hlen; cases hlen
            | cons v t => cases t with
              | nil => exact ⟨v, rfl⟩
              | cons _ _ => rw [hh] at hlen; simp at hlen
          rw [hv] at hcr ⊢
          simp only [SV.val, AV.val, hcr, List.headD_cons]
      · cases h
    · cases h
  | new l sl =>
    simp only [doPlan] at h
    split at h
    · rename_i ho hf
      obtain ⟨vs, t, hc, hrun⟩ := hp
      have hn : st.blk nid = none := by
        simp only [fresh, List.all_cons, List.all_nil, Bool.and_true] at hf
        unfold St.blk
        split at hf
        · rename_i hlk; rw [hlk]
        · cases hf
      have hs' := hs.alloc hn hc t
      have hnone := hs.unknown hn
      rw [hrun w, Oper.upon_value]
      refine hK _ _ _ (Ext.alloc hnone _) (putDst_ok h hs' ?_).2
      cases sl with
      | none =>
        have := ptr_mk (ρ := ρ.set nid w.heap.size) (id := nid) (q := (w.heap.size, 0)) (by simp [Rho.set]) 0
        simpa [ptr] using this
      | some n =>
        have := slice_mk (ρ := ρ.set nid w.heap.size) (id := nid) (q := (w.heap.size, 0)) (by simp [Rho.set]) 0 n n
        simpa using this
    · cases h
  | store id off new =>
    simp only [doPlan] at h
    split at h
    · rename_i l ho hl
      split at h
      · rename_i r hr
        obtain ⟨q, us, hq, hu, hrun⟩ := hp
        obtain ⟨b, o', vs, hb, hc, hok⟩ := hs.mem.blk id l hl
        rw [hb] at hq; cases hq
        obtain ⟨hlt, hown, _⟩ := hok
        obtain ⟨rfl, t, ht⟩ := hown ho
        obtain ⟨hle, hcr⟩ := lay_conc hr hc hu
        rw [hrun w]
        simp only [Nat.zero_add]
        rw [run_storeCells_at (P := P) b off t us 0 vs.toArray w ht (by simp; omega) (conc_one _ _ hu)]
        simp only [Result.andThen_ok, Oper.upon_skip, Nat.add_zero]
        have hset : (w.setRow b (vs.toArray.toList.take off ++ us ++ vs.toArray.toList.drop (off + us.length)).toArray).heap[b]? = some (.cells (vs.take off ++ (us ++ vs.drop (off + us.length))).toArray t (0, 0)) := by
          rw [setRow_heap w b vs.toArray _ t _ ht]; simp
        have hoth : ∀ k, k ≠ b → (w.setRow b (vs.toArray.toList.take off ++ us ++ vs.toArray.toList.drop (off + us.length)).toArray).heap[k]? = w.heap[k]? := fun k hk => setRow_other w b k _ hk
        refine hK ρ _ _ (Ext.store ho hb rfl rfl rfl (by simp) hoth) (putDst_ok h (hs.store ho hb (by simp) hoth hcr hset) ?_).2
        rfl
      · cases h
    · cases h
  | clear id off new =>
    simp only [doPlan] at h
    split at h
    · rename_i l ho hl
      split at h
      · rename_i r hr
        obtain ⟨q, us, hq, hu, hrun⟩ := hp
        obtain ⟨b, o', vs, hb, hc, hok⟩ := hs.mem.blk id l hl
        rw [hb] at hq; cases hq
        obtain ⟨hlt, hown, _⟩ := hok
        obtain ⟨rfl, t, ht⟩ := hown ho
        obtain ⟨hle, hcr⟩ := lay_conc hr hc hu
        rw [hrun w]
        simp only [Nat.zero_add]
        rw [run_storeCells_at (P := P) b off t us 0 vs.toArray w ht (by simp; omega) (conc_one _ _ hu)]
        simp only [Result.andThen_ok, Oper.upon_value, Nat.add_zero]
        have hset : (w.setRow b (vs.toArray.toList.take off ++ us ++ vs.toArray.toList.drop (off + us.length)).toArray).heap[b]? = some (.cells (vs.take off ++ (us ++ vs.drop (off + us.length))).toArray t (0, 0)) := by
          rw [setRow_heap w b vs.toArray _ t _ ht]; simp
        have hoth : ∀ k, k ≠ b → (w.setRow b (vs.toArray.toList.take off ++ us ++ vs.toArray.toList.drop (off + us.length)).toArray).heap[k]? = w.heap[k]? := fun k hk => setRow_other w b k _ hk
        refine hK ρ _ _ (Ext.store ho hb rfl rfl rfl (by simp) hoth) (putDst_ok h (hs.store ho hb (by simp) hoth hcr hset) ?_).2
        rfl
      · cases h
    · cases h
  | copy did doff sid soff cells cnt =>
    simp only [doPlan] at h
    split at h
    · rename_i l l2 ho hl hl2
      split at h
      · rename_i c hc2
        split at h
        · rename_i r hr
          obtain ⟨qd, qs, hqd, hqs, hrun⟩ := hp
          obtain ⟨b, o', vs, hb, hc, hok⟩ := hs.mem.blk did l hl
          rw [hb] at hqd; cases hqd
          obtain ⟨hlt, hown, _⟩ := hok
          obtain ⟨rfl, t, ht⟩ := hown ho
          obtain ⟨b2, o2, vs2, hb2, hcc2, hok2⟩ := hs.mem.blk sid l2 hl2
          rw [hb2] at hqs; cases hqs
          obtain ⟨hle2, hcr2⟩ := cut_conc hc2 hcc2
          obtain ⟨hle, hcr⟩ := lay_conc hr hc hcr2
          have hlen : ((vs2.drop soff).take cells).length = cells := by rw [List.length_take, List.length_drop]; omega
          have hcell : ∀ i v, ((vs2.drop soff).take cells)[i]? = some v → w.cell? ⟨b2, o2 + (soff + i), none⟩ = some v := by
            intro i v hi
            have hi' : vs2[soff + i]? = some v := by
              rw [List.getElem?_take] at hi
              split at hi
              · rw [List.getElem?_drop] at hi; exact hi
              · cases hi
            obtain ⟨_, hown2, hfor2⟩ := hok2
            cases ho2 : own sid with
            | true =>
              obtain ⟨rfl, t2, ht2⟩ := hown2 ho2
              rw [cell_of_row w b2 _ _ t2 _ ht2, Nat.zero_add]
              simpa using hi'
            | false => exact hfor2 ho2 _ _ hi'
          rw [hrun w _ hlen hcell]
          simp only [Nat.zero_add]
          rw [run_storeCells_at (P := P) b doff t _ 0 vs.toArray w ht (by simp only [List.size_toArray]; omega) (conc_one _ _ hcr2)]
          simp only [Result.andThen_ok, Oper.upon_value, Nat.add_zero]
          generalize hus : (vs2.drop soff).take cells = us at *
          have hset : (w.setRow b (vs.toArray.toList.take doff ++ us ++ vs.toArray.toList.drop (doff + us.length)).toArray).heap[b]? = some (.cells (vs.take doff ++ (us ++ vs.drop (doff + us.length))).toArray t (0, 0)) := by
            rw [setRow_heap w b vs.toArray _ t _ ht]; simp
          have hoth : ∀ k, k ≠ b → (w.setRow b (vs.toArray.toList.take doff ++ us ++ vs.toArray.toList.drop (doff + us.length)).toArray).heap[k]? = w.heap[k]? := fun k hk => setRow_other w b k _ hk
          refine hK ρ _ _ (Ext.store ho hb rfl rfl rfl (by simp) hoth) (putDst_ok h (hs.store ho hb (by simp) hoth hcr hset) ?_).2
          exact vI_val ρ _ _
        · cases h
      · cases h
    · cases h
  | call f args =>
    simp only [doPlan] at h
    split at h
    · rename_i out hcl hc
      split at h
      · rename_i hf hi
        obtain ⟨vs, hv, hrun⟩ := hp
        have hobs : ob = out.ob := by
          unfold putDst at h; split at h
          · cases h; rfl
          · cases h
        subst hobs
        have hmem := hs.handed _ hcl
        have hv' : vals (fun id => if ((memOf st (handIds args keys0)).blk id).isSome then ρ id else none) args = some vs := by
          refine vals_on args vs (fun id hid q hq => hs.on ?_ hq) hv
          unfold handIds
          split
          · rename_i he; rw [he] at hid; cases hid
          · exact List.mem_append_left _ hid
        have hnews : ∀ p ∈ out.news, st.blk p.1 = none := by
          intro p hp
          unfold fresh at hf
          rw [List.all_eq_true] at hf
          have := hf p hp
          unfold St.blk
          split at this
          · rename_i hlk; rw [hlk]
          · cases this
        have hinv := hcall f args _ nid out hc hob _ w vs hv' hmem (fun p hp => by
          rw [blk_memOf]; split
          · exact hnews p hp
          · rfl)
        have fin : ∀ v w', (∃ ρ', Ext (fun id => if ((memOf st (handIds args keys0)).blk id).isSome then ρ id else none) w ρ' w' ∧ out.val.val ρ' = some v ∧ Mem ρ' (puts (memOf st (handIds args keys0)) (blkW (out.wr ++ out.news))) w') →
            K (a.put o.dst v) w' := by
          rintro v w' ⟨ρ', hE, hval, hM⟩
          obtain ⟨ρ'', hE'', hle, hsim⟩ := hs.call hE hM (fun p hp => by
            unfold inMem at hi; rw [List.all_eq_true] at hi; exact hi p hp) hnews
          exact hK ρ'' _ w' hE'' (putDst_ok h hsim (SV.val_le hle _ _ hval)).2
        rw [hrun w]
        rcases hinv with ⟨v, h1, h2⟩ | ⟨h1, h2⟩
        · rw [h1, Oper.upon_value]; exact fin v w h2
        · rw [h1, Oper.upon_enter]
          refine h2.mono ?_
          rintro e w' ⟨v, rfl, hR⟩
          exact fin v w' hR
      · cases h
    · cases h
theorem stepOp_wp (htab : ∀ t d, tab t = some d → TyOk P t d) (hcall : CallOk P call) {i : Nat} (hi : ops[i]? = some o) (h : stepOp tab call N ops keys0 nid hint o st = some (R, W, ob)) (hob : ∀ q ∈ ob, q) (hs : Sim ρ N st a w) {K : Act → World → Prop}
    (hK : ∀ ρ' a' w', Ext ρ w ρ' w' → Sim ρ' N (puts st W) a' w' → K a' w') : wpOp P ops Q i K a w := by
  have henv : ∀ t x, envOf st (o.looksAt ops) t = some x → x.val ρ = some (a.tmps.getD t undef) := by
    intro t x hx
    unfold envOf at hx
    split at hx
    · exact hs.slots t x hx
    · cases hx
  unfold wpOp
  simp only [hi]
  unfold stepOp at h
  split at h
  · rename_i hw
    rw [if_pos (wantedA_ok henv hw)]
    split at h
    · rename_i p hp
      split at h
      · rename_i R' W' ob' hd
        cases h
        exact .inl (doPlan_wp hcall (opPlan_sound htab (evE_val henv) hp) hd hob hs hK)
      · cases h
    · cases h
  · rename_i hw
    rw [if_neg (by rw [wantedA_ok henv hw]; simp)]
    split at h
    · rename_i d hd
      cases h
      refine hK ρ _ w (.refl ρ w) ?_
      unfold dstW at hd
      cases hdst : o.dst with
      | none => simp only [hdst] at hd; cases hd; exact hs
      | some t =>
        simp only [hdst] at hd
        split at hd
        · rename_i ht; cases hd; exact hs.put ht rfl
        · cases hd
    · cases h
  · cases h
end
end Go.Eng
