/-
  THE ENGINE, part H: one operation on a state; a region, in whatever order.
-/
import Derived.Test.YthceokldlinjlaaEa
import Derived.Scope
import Derived.LoopN
namespace Go.Eng
open Go Go.RowKit

def constSV : Value → Option SV
  | .agg cs => if cs.toList.all (·.oneCell') then some (.one ⟨true, cs.toList.map .v⟩) else none
  | .tuple _ => none
  | v => some (it1 (.v v))
def evE (env : Nat → Option SV) : Operand → Option SV
  | .tmp t => env t
  | .const v => constSV v
  | .func f => some (it1 (.f f []))
  | .global _ => none
theorem it1_v {ρ : Rho} {x : Value} (h : x.oneCell' = true) : (it1 (.v x)).val ρ = some x := AV.val_v h
theorem constSV_val {ρ : Rho} {v : Value} {s : SV} (h : constSV v = some s) : s.val ρ = some v := by
  cases v
  case agg cs =>
    simp only [constSV] at h
    split at h
    · rename_i hall
      cases h
      rw [List.all_eq_true] at hall
      simp only [SV.val, AV.val, val_plain ρ _ hall]
    · cases h
  case tuple => cases h
  all_goals
    simp only [constSV, Option.some.injEq] at h
    subst h
    exact it1_v rfl
theorem evE_val {ρ : Rho} {a : Act} {env : Nat → Option SV} (henv : ∀ t x, env t = some x → x.val ρ = some (a.tmps.getD t undef)) : ∀ x s, evE env x = some s → s.val ρ = some (a.eval x) := by
  intro x s h
  cases x with
  | tmp t => exact henv t s h
  | const v => exact constSV_val h
  | func f =>
    cases h
    have e : (It.f f []).cs ρ = some [.func (.func f) #[] #[]] := rfl
    exact AV.val_mk (ρ := ρ) e
  | global g => cases h

/-- Is the operation wanted? -/
def wantedA (ops : Array Oper) (o : Oper) (env : Nat → Option SV) : Option Bool := match o.guard with
  | none => some true
  | some (j, want) => match (ops[j]?).bind (·.dst) with
    | none => none
    | some d => match env d with
      | some (.one ⟨false, [.v (.bool b)]⟩) => some (b == want)
      | some (.tup []) => some false
      | _ => none
theorem wantedA_ok {ρ : Rho} {a : Act} {ops : Array Oper} {o : Oper} {env : Nat → Option SV} (henv : ∀ t x, env t = some x → x.val ρ = some (a.tmps.getD t undef)) {b : Bool} (h : wantedA ops o env = some b) :
    Region.wanted o (yielded ops a.tmps) = b := by
  unfold wantedA at h
  unfold Region.wanted
  cases hg : o.guard with
  | none => simp only [hg] at h; cases h; rfl
  | some g =>
    obtain ⟨j, want⟩ := g
    simp only [hg] at h
    simp only
    unfold yielded
    cases hd : (ops[j]?).bind (·.dst) with
    | none => simp only [hd] at h; cases h
    | some d =>
      simp only [hd] at h
      simp only [Option.bind_some]
      split at h
      · rename_i c hc
        cases h
        have := AV.val_one (ρ := ρ) (i := .v (.bool c)) (henv d _ hc)
        simp only [It.cs, Value.oneCell', Option.some.injEq, List.cons.injEq, and_true] at this
        rw [Array.getD_eq_getD_getElem?] at this
        cases ht : a.tmps[d]? with
        | none => rw [ht] at this; cases this
        | some v =>
          rw [ht] at this
          simp only [Option.getD_some] at this
          subst this
          cases c <;> cases want <;> rfl
      · rename_i hc
        cases h
        have := henv d _ hc
        simp only [SV.val, vals, Option.some.injEq] at this
        rw [Array.getD_eq_getD_getElem?] at this
        cases ht : a.tmps[d]? with
        | none => cases want <;> rfl
        | some v =>
          rw [ht] at this
          simp only [Option.getD_some] at this
          subst this
          cases want <;> rfl
      · cases h

def dstW (N : Nat) : Option Nat → SV → Option (List (Nat × Ct))
  | none, _ => some []
  | some d, x => if d < N then some [(2 * d, .sl x)] else none
abbrev Step := List Nat × List (Nat × Ct) × List Prop
def fresh (st : St) (l : List (Nat × List It)) : Bool := l.all fun p => match look st (2 * p.1 + 1) with
  | none => true
  | some _ => false
def inMem (m : St) (l : List (Nat × List It)) : Bool := l.all fun p => (m.blk p.1).isSome && (own p.1 || app p.1)
def handIds (args : List AV) (keys0 : List Nat) : List Nat := match idsAV args with
  | [] => []
  | l => l ++ keys0
def putDst (N : Nat) (dst : Option Nat) (x : SV) (reads : List Nat) (wr : List (Nat × Ct)) (ob : List Prop) : Option Step := match dstW N dst x with
  | some d => some (reads, wr ++ d, ob)
  | none => none
/-- What is read of a block; of one that is marked by an empty row ahead, at any place. -/
def loadIt (l : List It) (off len : Nat) (agg : Bool) : Option (AV × List Prop) := match l with
  | [.w 0 _, .w k n] => match agg, Nat.beq len 1 with
    | false, true => some (⟨false, [.v (word n off)]⟩, [off < k])
    | _, _ => none
  | l => match cut l off len with
    | some r => some (⟨agg, r⟩, [])
    | none => none
theorem loadIt_ok {l : List It} {off len : Nat} {agg : Bool} {x : AV} {ob : List Prop} (h : loadIt l off len agg = some (x, ob)) (hob : ∀ p ∈ ob, p) {ρ : Rho} {vs : List Value} (hc : conc ρ l = some vs) :
    off + len ≤ vs.length ∧ ((agg = true ∧ x.agg = true ∧ conc ρ x.its = some ((vs.drop off).take len)) ∨ (agg = false ∧ x.agg = false ∧ (len = 1 → conc ρ x.its = some ((vs.drop off).take 1)))) := by
  unfold loadIt at h
  split at h
  · rename_i k0 k n
    split at h
    · rename_i hb
      cases h
      have hb : len = 1 := Nat.eq_of_beq_eq_true hb
      have hlt : off < k := hob _ (List.mem_singleton.2 rfl)
      have hv : vs = words k n := by
        simp only [conc, It.cs, Option.some.injEq] at hc
        rw [← hc]; simp [words]
      subst hv
      subst hb
      refine ⟨by rw [length_words]; omega, .inr ⟨rfl, rfl, fun _ => ?_⟩⟩
      have h1 : ((words k n).drop off).take 1 = [word n off] := by
        rw [List.drop_eq_getElem_cons (by rw [length_words]; exact hlt)]
        simp [words]
      rw [h1]
      simp [conc, It.cs, word, Value.oneCell']
    · cases h
  · split at h
    · rename_i r hr
      cases h
      obtain ⟨hle, hcr⟩ := cut_conc hr hc
      refine ⟨hle, ?_⟩
      cases agg with
      | true => exact .inl ⟨rfl, rfl, hcr⟩
      | false => exact .inr ⟨rfl, rfl, fun e => by rw [e] at hcr; exact hcr⟩
    · cases h
/-- A block that may be read cell by cell. -/
def St.rblk (st : St) (id : Nat) : Option (List It) := match app id with
  | true => none
  | false => st.blk id
theorem rblk_blk {st : St} {id : Nat} {l : List It} (h : st.rblk id = some l) : app id = false ∧ st.blk id = some l := by
  unfold St.rblk at h
  split at h
  · cases h
  · rename_i e; exact ⟨e, h⟩
/-- The name of the block that an append makes. -/
def apId (nid : Nat) : Nat := nid + 1000000000000000000000000000000000000000000000000000000000000000000000000000000000000
theorem apId_app {nid : Nat} (h : own nid = true) : app (apId nid) = true := by
  unfold own at h
  unfold app apId
  simp only [Bool.and_eq_true, decide_eq_true_eq] at h ⊢
  omega
def kills (c : Bool) (id : Nat) : List (Nat × Ct) := match c with
  | true => [(2 * id + 1, .bl [])]
  | false => []
def apOk (c : Bool) (xid xoff xlen m nid : Nat) : Bool := Bool.and (match c with
  | true => app xid && (Nat.ble 1 xlen && Nat.beq xoff 0)
  | false => !(app xid)) (own nid && Nat.ble 1 (xlen + m))
def doPlan (call : CallT) (N : Nat) (keys0 : List Nat) (nid : Nat) (dst : Option Nat) (st : St) : Plan → Option Step
  | .val x ob => putDst N dst x [] [] ob
  | .load id off len agg => match st.rblk id with
    | some l => match loadIt l off len agg with
      | some (x, ob) => putDst N dst (.one x) [2 * id + 1] [] ob
      | none => none
    | none => none
  | .new l sl => match own nid, fresh st [(nid, l)] with
    | true, true => putDst N dst (match sl with | some n => it1 (.s nid 0 n n) | none => it1 (.p nid 0)) [2 * nid + 1] [(2 * nid + 1, .bl l)] []
    | _, _ => none
  | .store id off new => match own id, st.blk id with
    | true, some l => match lay l off new with
      | some r => putDst N dst (.tup []) [2 * id + 1] [(2 * id + 1, .bl r)] []
      | none => none
    | _, _ => none
  | .clear id off new => match own id, st.blk id with
    | true, some l => match lay l off new with
      | some r => putDst N dst (.tup []) [2 * id + 1] [(2 * id + 1, .bl r)] []
      | none => none
    | _, _ => none
  | .copy did doff sid soff cells cnt => match own did, st.blk did, st.rblk sid with
    | true, some l, some l2 => match cut l2 soff cells with
      | some c => match lay l doff c with
        | some r => putDst N dst (vI .i64 (cnt : Int)) [2 * did + 1, 2 * sid + 1] [(2 * did + 1, .bl r)] []
        | none => none
      | none => none
    | _, _, _ => none
  | .app c xid xoff xlen _ yid yoff m => match apOk c xid xoff xlen m nid, fresh st [(apId nid, [])] with
    | true, true => match st.blk xid, st.rblk yid with
      | some lx, some ly => match cut lx xoff xlen, cut ly yoff m with
        | some l1, some l2 => putDst N dst (it1 (.c (apId nid) (xlen + m))) [2 * xid + 1, 2 * yid + 1, 2 * apId nid + 1] (kills c xid ++ [(2 * apId nid + 1, .bl (l1 ++ l2))]) []
        | _, _ => none
      | _, _ => none
    | _, _ => none
  | .call f args => match closedB st (idsAV args) (handIds args keys0), call f args (memOf st (handIds args keys0)) nid with
    | true, some out => match fresh st out.news, inMem (memOf st (handIds args keys0)) out.wr with
      | true, true => putDst N dst out.val ((handIds args keys0).map (fun id => 2 * id + 1) ++ out.news.map fun p => 2 * p.1 + 1) (blkW (out.wr ++ out.news)) out.ob
      | _, _ => none
    | _, _ => none
def envOf (st : St) (sl : List Nat) (t : Nat) : Option SV := if sl.contains t then st.slot t else none
def stepOp (tab : TypeId → Option Ty) (call : CallT) (N : Nat) (ops : Array Oper) (keys0 : List Nat) (nid : Nat) (hint : Option Bool) (o : Oper) (st : St) : Option Step :=
  match wantedA ops o (envOf st (o.looksAt ops)) with
  | some true => match opPlan tab hint (evE (envOf st (o.looksAt ops))) o.op with
    | some p => match doPlan call N keys0 nid o.dst st p with
      | some (R, W, ob) => some ((o.looksAt ops).map (fun t => 2 * t) ++ R, W, ob)
      | none => none
    | none => none
  | some false => match dstW N o.dst (.tup []) with
    | some d => some ((o.looksAt ops).map (fun t => 2 * t), d, [])
    | none => none
  | none => none

/-! ### it hangs on what it reads alone -/
theorem blk_of_look {st st' : St} {id : Nat} (h : look st (2 * id + 1) = look st' (2 * id + 1)) : st.blk id = st'.blk id := by unfold St.blk; rw [h]
theorem rblk_of_look {st st' : St} {id : Nat} (h : look st (2 * id + 1) = look st' (2 * id + 1)) : st.rblk id = st'.rblk id := by unfold St.rblk; rw [blk_of_look h]
theorem memOf_congr {st st' : St} : ∀ (l : List Nat), (∀ id ∈ l, st.blk id = st'.blk id) → memOf st l = memOf st' l := by
  intro l
  induction l with
  | nil => intro _; rfl
  | cons j l ih =>
    intro h
    have e : st.kept j = st'.kept j := by unfold St.kept; rw [h j (by simp)]
    simp only [memOf, e, ih fun id hid => h id (by simp [hid])]
theorem doPlan_congr {call : CallT} {N : Nat} {keys0 : List Nat} {nid : Nat} {dst : Option Nat} {st st' : St} {p : Plan} {R : List Nat} {W : List (Nat × Ct)} {ob : List Prop}
    (h : doPlan call N keys0 nid dst st p = some (R, W, ob)) (hR : ∀ k ∈ R, look st k = look st' k) : doPlan call N keys0 nid dst st' p = some (R, W, ob) := by
  have pd : ∀ {x : SV} {rd : List Nat} {wr : List (Nat × Ct)} {ob' : List Prop}, putDst N dst x rd wr ob' = some (R, W, ob) → rd = R := by
    intro x rd wr ob' h
    unfold putDst at h
    split at h
    · cases h; rfl
    · cases h
  cases p with
  | val x ob' => exact h
  | app c xid xoff xlen xcap yid yoff m =>
    simp only [doPlan] at h ⊢
    cases ho : apOk c xid xoff xlen m nid with
    | false => simp [ho] at h
    | true =>
      cases hf : fresh st [(apId nid, [])] with
      | false => simp [ho, hf] at h
      | true =>
        cases hb : st.blk xid with
        | none => simp [ho, hf, hb] at h
        | some lx =>
          cases hb2 : st.rblk yid with
          | none => simp [ho, hf, hb, hb2] at h
          | some ly =>
            cases hc : cut lx xoff xlen with
            | none => simp [ho, hf, hb, hb2, hc] at h
            | some l1 =>
              cases hc2 : cut ly yoff m with
              | none => simp [ho, hf, hb, hb2, hc, hc2] at h
              | some l2 =>
                simp only [ho, hf, hb, hb2, hc, hc2] at h
                have := pd h
                have e := blk_of_look (hR (2 * xid + 1) (by rw [← this]; simp))
                have e2 := rblk_of_look (hR (2 * yid + 1) (by rw [← this]; simp))
                have e3 := hR (2 * apId nid + 1) (by rw [← this]; simp)
                have e4 : fresh st' [(apId nid, [])] = true := by
                  simp only [fresh, List.all_cons, List.all_nil, Bool.and_true] at hf ⊢
                  rw [← e3]; exact hf
                rw [← e, ← e2]
                simp only [e4, hb, hb2, hc, hc2, h]
  | load id off len agg =>
    simp only [doPlan] at h ⊢
    cases hb : st.rblk id with
    | none => simp [hb] at h
    | some l =>
      cases hc : loadIt l off len agg with
      | none => simp [hb, hc] at h
      | some r =>
        obtain ⟨x, ob'⟩ := r
        simp only [hb, hc] at h
        have := pd h
        have e := rblk_of_look (hR (2 * id + 1) (by rw [← this]; simp))
        rw [← e]
        simp only [hb, hc, h]
  | new l sl =>
    simp only [doPlan] at h ⊢
    cases ho : own nid with
    | false => simp [ho] at h
    | true =>
      cases hf : fresh st [(nid, l)] with
      | false => simp [ho, hf] at h
      | true =>
        simp only [ho, hf] at h
        have := pd h
        have e := hR (2 * nid + 1) (by rw [← this]; simp)
        have : fresh st' [(nid, l)] = true := by
          simp only [fresh, List.all_cons, List.all_nil, Bool.and_true] at hf ⊢
          rw [← e]; exact hf
        simp only [this]; exact h
  | store id off new =>
    simp only [doPlan] at h ⊢
    cases ho : own id with
    | false => simp [ho] at h
    | true =>
      cases hb : st.blk id with
      | none => simp [ho, hb] at h
      | some l =>
        cases hc : lay l off new with
        | none => simp [ho, hb, hc] at h
        | some r =>
          simp only [ho, hb, hc] at h
          have := pd h
          have e := blk_of_look (hR (2 * id + 1) (by rw [← this]; simp))
          rw [← e]
          simp only [hb, hc, h]
  | clear id off new =>
    simp only [doPlan] at h ⊢
    cases ho : own id with
    | false => simp [ho] at h
    | true =>
      cases hb : st.blk id with
      | none => simp [ho, hb] at h
      | some l =>
        cases hc : lay l off new with
        | none => simp [ho, hb, hc] at h
        | some r =>
          simp only [ho, hb, hc] at h
          have := pd h
          have e := blk_of_look (hR (2 * id + 1) (by rw [← this]; simp))
          rw [← e]
          simp only [hb, hc, h]
  | copy did doff sid soff cells cnt =>
    simp only [doPlan] at h ⊢
    cases ho : own did with
    | false => simp [ho] at h
    | true =>
      cases hb : st.blk did with
      | none => simp [ho, hb] at h
      | some l =>
        cases hb2 : st.rblk sid with
        | none => simp [ho, hb, hb2] at h
        | some l2 =>
          cases hc2 : cut l2 soff cells with
          | none => simp [ho, hb, hb2, hc2] at h
          | some c =>
            cases hc : lay l doff c with
            | none => simp [ho, hb, hb2, hc2, hc] at h
            | some r =>
              simp only [ho, hb, hb2, hc2, hc] at h
              have := pd h
              have e := blk_of_look (hR (2 * did + 1) (by rw [← this]; simp))
              have e2 := rblk_of_look (hR (2 * sid + 1) (by rw [← this]; simp))
              rw [← e, ← e2]
              simp only [hb, hb2, hc2, hc, h]
  | call f args =>
    simp only [doPlan] at h ⊢
    cases hcl : closedB st (idsAV args) (handIds args keys0) with
    | false => simp [hcl] at h
    | true =>
      cases hc : call f args (memOf st (handIds args keys0)) nid with
      | none => simp [hcl, hc] at h
      | some out =>
        simp only [hcl, hc] at h
        cases hf : fresh st out.news with
        | false => simp [hf] at h
        | true =>
          cases hi : inMem (memOf st (handIds args keys0)) out.wr with
          | false => simp [hf, hi] at h
          | true =>
            simp only [hf, hi] at h
            have := pd h
            have eb : ∀ id ∈ handIds args keys0, st.blk id = st'.blk id := fun id hid => blk_of_look (hR _ (by
              rw [← this]; exact List.mem_append_left _ (List.mem_map.2 ⟨id, hid, rfl⟩)))
            have em := memOf_congr _ eb
            have hin : ∀ id ∈ idsAV args, id ∈ handIds args keys0 := by
              intro id hid
              unfold handIds
              split
              · rename_i he; rw [he] at hid; cases hid
              · exact List.mem_append_left _ hid
            have ek : ∀ id ∈ handIds args keys0, keptB st id = keptB st' id := fun id hid => by unfold keptB; rw [eb id hid]
            have e1 : closedB st' (idsAV args) (handIds args keys0) = true := by
              unfold closedB at hcl ⊢
              rw [Bool.and_eq_true, List.all_eq_true, List.all_eq_true] at hcl ⊢
              refine ⟨fun id hid => by rw [← ek id (hin id hid)]; exact hcl.1 id hid, fun id hid => ?_⟩
              have e : st.kept id = st'.kept id := by unfold St.kept; rw [eb id hid]
              have h0 := hcl.2 id hid
              rw [← e]
              cases hk : st.kept id with
              | none => rfl
              | some l =>
                rw [hk] at h0
                simp only [List.all_eq_true] at h0 ⊢
                intro j hj
                have h1 := h0 j hj
                rw [Bool.and_eq_true] at h1 ⊢
                exact ⟨h1.1, by rw [← ek j (by simpa using h1.1)]; exact h1.2⟩
            have e2 : fresh st' out.news = true := by
              unfold fresh at hf ⊢
              rw [List.all_eq_true] at hf ⊢
              intro p hp
              rw [← hR _ (by rw [← this]; exact List.mem_append_right _ (List.mem_map.2 ⟨p, hp, rfl⟩))]; exact hf p hp
            simp only [e1, ← em, hc, e2, hi]; exact h
theorem stepOp_congr {tab : TypeId → Option Ty} {call : CallT} {N : Nat} {ops : Array Oper} {keys0 : List Nat} {nid : Nat} {hint : Option Bool} {o : Oper} {st st' : St} {R : List Nat} {W : List (Nat × Ct)} {ob : List Prop}
    (h : stepOp tab call N ops keys0 nid hint o st = some (R, W, ob)) (hR : ∀ k ∈ R, look st k = look st' k) : stepOp tab call N ops keys0 nid hint o st' = some (R, W, ob) := by
  have hbase : ∀ t ∈ o.looksAt ops, 2 * t ∈ R := by
    intro t ht
    unfold stepOp at h
    split at h
    · split at h
      · split at h
        · cases h; exact List.mem_append_left _ (List.mem_map.2 ⟨t, ht, rfl⟩)
        · cases h
      · cases h
    · split at h
      · cases h; exact List.mem_map.2 ⟨t, ht, rfl⟩
      · cases h
    · cases h
  have henv : envOf st (o.looksAt ops) = envOf st' (o.looksAt ops) := by
    funext t
    unfold envOf
    by_cases ht : t ∈ o.looksAt ops
    · have hc : (o.looksAt ops).contains t = true := by simpa using ht
      simp only [hc, if_true]
      unfold St.slot
      rw [hR _ (hbase t ht)]
    · have hc : (o.looksAt ops).contains t = false := by simpa using ht
      simp only [hc, Bool.false_eq_true, if_false]
  unfold stepOp at h ⊢
  rw [← henv]
  cases hw : wantedA ops o (envOf st (o.looksAt ops)) with
  | none => rw [hw] at h; cases h
  | some b =>
    rw [hw] at h
    cases b with
    | false => exact h
    | true =>
      simp only at h ⊢
      cases hp : opPlan tab hint (evE (envOf st (o.looksAt ops))) o.op with
      | none => rw [hp] at h; cases h
      | some p =>
        rw [hp] at h
        simp only at h ⊢
        cases hd : doPlan call N keys0 nid o.dst st p with
        | none => rw [hd] at h; cases h
        | some q =>
          obtain ⟨R', W', ob'⟩ := q
          rw [hd] at h
          cases h
          rw [doPlan_congr hd fun k hk => hR k (List.mem_append_right _ hk)]

/-! ### the model's operation does it -/
theorem putDst_ok {N : Nat} {dst : Option Nat} {x : SV} {rd : List Nat} {wr : List (Nat × Ct)} {ob : List Prop} {R : List Nat} {W : List (Nat × Ct)} {ob' : List Prop} (h : putDst N dst x rd wr ob = some (R, W, ob')) {ρ : Rho} {st : St} {a : Act} {w : World}
    (hs : Sim ρ N (puts st wr) a w) {v : Value} (hv : x.val ρ = some v) : ob' = ob ∧ Sim ρ N (puts st W) (a.put dst v) w := by
  unfold putDst at h
  split at h
  · rename_i d hd
    cases h
    refine ⟨rfl, ?_⟩
    rw [puts_append]
    unfold dstW at hd
    cases dst with
    | none => cases hd; exact hs
    | some t =>
      simp only at hd
      split at hd
      · rename_i ht; cases hd; exact hs.put ht hv
      · cases hd
  · cases h
section
variable {P : Program} {tab : TypeId → Option Ty} {call : CallT} {N : Nat} {ops : Array Oper} {keys0 : List Nat} {nid : Nat} {hint : Option Bool} {o : Oper} {st : St} {Q : Exit → Act → World → Prop} {R : List Nat} {W : List (Nat × Ct)} {ob : List Prop} {ρ : Rho} {a : Act} {w : World}
theorem BlkOk.cells {w : World} {id b o : Nat} {vs : List Value} (h : BlkOk w id b o vs) (ha : app id = false) (off len : Nat) : ∀ i v, ((vs.drop off).take len)[i]? = some v → w.cell? ⟨b, o + (off + i), none⟩ = some v := by
  intro i v hi
  have hi' : vs[off + i]? = some v := by
    rw [List.getElem?_take] at hi
    split at hi
    · rw [List.getElem?_drop] at hi; exact hi
    · cases hi
  obtain ⟨_, hown, hfor, _⟩ := h
  cases ho : own id with
  | true =>
    obtain ⟨rfl, t, ht⟩ := hown ho
    rw [cell_of_row w b _ _ t _ ht, Nat.zero_add]
    simpa using hi'
  | false => exact hfor ho ha _ _ hi'
/-- After an append: a block that is new, or that took another's place. -/
theorem appAt_wp {a0 : Act} {n : Nat} {rd : List Nat} {kl : List (Nat × Ct)} {l : List It} {ob0 : List Prop} (h : putDst N o.dst (it1 (.c (apId nid) n)) rd (kl ++ [(2 * apId nid + 1, .bl l)]) ob0 = some (R, W, ob)) (hown : own nid = true) (hs : Sim ρ N (puts st kl) a0 w) (hn : St.blk (puts st kl) (apId nid) = none)
    {w' : World} {b : Nat} {vs : List Value} {cur : Array Value} {t : TypeId} (hno : ∀ j m o, St.blk (puts st kl) j = some m → Live j m → ρ j = some (b, o) → False) (hnew : w.heap.size ≤ b ∨ Own ρ b) (h1 : w'.os = w.os) (h2 : w'.tape = w.tape) (h3 : w'.output = w.output) (hsz : w.heap.size ≤ w'.heap.size)
    (hb : ∀ j, j < w.heap.size → j ≠ b → w'.heap[j]? = w.heap[j]?) (hv : conc ρ l = some vs) (hw : w'.heap[b]? = some (.cells cur t (0, 0))) (hp : ∀ (i : Nat) (v : Value), vs[i]? = some v → cur[i]? = some v) :
    ∃ ρ', Ext ρ w ρ' w' ∧ Sim ρ' N (puts st W) (a0.put o.dst (.slice (some ⟨b, 0, none⟩) n cur.size)) w' := by
  have hsim := hs.appAt (apId_app hown) hn hno hsz hb hv hw hp
  refine ⟨_, Ext.appAt (q := (b, cur.size)) (hs.unknown hn) hnew h1 h2 h3 hsz hb, (putDst_ok h (st := st) (by rw [puts_append]; exact hsim) ?_).2⟩
  have := cslice_mk (ρ := ρ.setq (apId nid) (b, cur.size)) (id := apId nid) (q := (b, cur.size)) (by simp [Rho.setq]) n
  exact this
theorem doPlan_wp (hcall : CallOk P call) {p : Plan} (hp : PlanSem P ρ a.eval o p) (h : doPlan call N keys0 nid o.dst st p = some (R, W, ob)) (hob : ∀ q ∈ ob, q) (hs : Sim ρ N st a w) {K : Act → World → Prop}
    (hK : ∀ ρ' a' w', Ext ρ w ρ' w' → Sim ρ' N (puts st W) a' w' → K a' w') : o.wp P a w K Q := by
  unfold Oper.wp
  cases p with
  | val x ob' =>
    simp only [doPlan] at h
    obtain ⟨v, hv, hr⟩ := hp (by
      unfold putDst at h; split at h
      · cases h; exact hob
      · cases h)
    rw [hr w, Oper.upon_value]
    exact hK ρ _ w (.refl ρ w) (putDst_ok h (wr := []) hs hv).2
  | load id off len agg =>
    simp only [doPlan] at h
    split at h
    · rename_i l hl
      split at h
      · rename_i x ob' hr
        have hob' : ∀ p ∈ ob', p := by
          unfold putDst at h; split at h
          · cases h; exact hob
          · cases h
        obtain ⟨q, hq, h1, hrun⟩ := hp
        obtain ⟨happ, hl⟩ := rblk_blk hl
        obtain ⟨b, o', vs, hb, hc, hok⟩ := hs.mem.blk id l hl
        rw [hb] at hq; cases hq
        obtain ⟨hle, hcr⟩ := loadIt_ok hr hob' hc
        have hlen : ((vs.drop off).take len).length = len := by rw [List.length_take, List.length_drop]; omega
        have hcell : ∀ i v, ((vs.drop off).take len)[i]? = some v → w.cell? ⟨b, o' + (off + i), none⟩ = some v := by
          intro i v hi
          have hi' : vs[off + i]? = some v := by
            rw [List.getElem?_take] at hi
            split at hi
            · rw [List.getElem?_drop] at hi; exact hi
            · cases hi
          obtain ⟨_, hown, hfor, _⟩ := hok
          cases ho : own id with
          | true =>
            obtain ⟨rfl, t, ht⟩ := hown ho
            rw [cell_of_row w b _ _ t _ ht, Nat.zero_add]
            simpa using hi'
          | false => exact hfor ho happ _ _ hi'
        have hrun' := hrun w _ hlen hcell
        rw [hrun', Oper.upon_value]
        refine hK ρ _ w (.refl ρ w) (putDst_ok h (wr := []) hs ?_).2
        obtain ⟨xa, xi⟩ := x
        rcases hcr with ⟨ha, hx, hcr⟩ | ⟨ha, hx, hcr⟩
        · simp only at hx hcr
          subst ha; subst hx
          simp only [SV.val, AV.val, hcr]
        · simp only at hx hcr
          subst ha; subst hx
          have hl1 := h1 rfl
          have hcr := hcr hl1
          rw [hl1] at hlen ⊢
          obtain ⟨v, hv⟩ : ∃ v, (vs.drop off).take 1 = [v] := by
            cases hh : (vs.drop off).take 1 with
            | nil => rw [hh] at hlen; cases hlen
            | cons v t => cases t with
              | nil => exact ⟨v, rfl⟩
              | cons _ _ => rw [hh] at hlen; simp at hlen
          rw [hv] at hcr ⊢
          simp only [SV.val, AV.val, hcr, List.headD_cons]
      · cases h
    · cases h
  | new l sl =>
    simp only [doPlan] at h
    split at h
    · rename_i ho hf
      obtain ⟨vs, t, hc, hrun⟩ := hp
      have hn : st.blk nid = none := by
        simp only [fresh, List.all_cons, List.all_nil, Bool.and_true] at hf
        unfold St.blk
        split at hf
        · rename_i hlk; rw [hlk]
        · cases hf
      have hs' := hs.alloc hn (app_own ho) hc t
      have hnone := hs.unknown hn
      rw [hrun w, Oper.upon_value]
      refine hK _ _ _ (Ext.alloc hnone _) (putDst_ok h hs' ?_).2
      cases sl with
      | none =>
        have := ptr_mk (ρ := ρ.set nid w.heap.size) (id := nid) (q := (w.heap.size, 0)) (by simp [Rho.set]) 0
        simpa [ptr] using this
      | some n =>
        have := slice_mk (ρ := ρ.set nid w.heap.size) (id := nid) (q := (w.heap.size, 0)) (by simp [Rho.set]) 0 n n
        simpa using this
    · cases h
  | store id off new =>
    simp only [doPlan] at h
    split at h
    · rename_i l ho hl
      split at h
      · rename_i r hr
        obtain ⟨q, us, hq, hu, hrun⟩ := hp
        obtain ⟨b, o', vs, hb, hc, hok⟩ := hs.mem.blk id l hl
        rw [hb] at hq; cases hq
        obtain ⟨hlt, hown, _⟩ := hok
        obtain ⟨rfl, t, ht⟩ := hown ho
        obtain ⟨hle, hcr⟩ := lay_conc hr hc hu
        rw [hrun w]
        simp only [Nat.zero_add]
        rw [run_storeCells_at (P := P) b off t us 0 vs.toArray w ht (by simp; omega) (conc_one _ _ hu)]
        simp only [Result.andThen_ok, Oper.upon_skip, Nat.add_zero]
        have hset : (w.setRow b (vs.toArray.toList.take off ++ us ++ vs.toArray.toList.drop (off + us.length)).toArray).heap[b]? = some (.cells (vs.take off ++ (us ++ vs.drop (off + us.length))).toArray t (0, 0)) := by
          rw [setRow_heap w b vs.toArray _ t _ ht]; simp
        have hoth : ∀ k, k ≠ b → (w.setRow b (vs.toArray.toList.take off ++ us ++ vs.toArray.toList.drop (off + us.length)).toArray).heap[k]? = w.heap[k]? := fun k hk => setRow_other w b k _ hk
        refine hK ρ _ _ (Ext.store ho hb rfl rfl rfl (by simp) hoth) (putDst_ok h (hs.store ho hb (by simp) hoth hcr hset) ?_).2
        rfl
      · cases h
    · cases h
  | clear id off new =>
    simp only [doPlan] at h
    split at h
    · rename_i l ho hl
      split at h
      · rename_i r hr
        obtain ⟨q, us, hq, hu, hrun⟩ := hp
        obtain ⟨b, o', vs, hb, hc, hok⟩ := hs.mem.blk id l hl
        rw [hb] at hq; cases hq
        obtain ⟨hlt, hown, _⟩ := hok
        obtain ⟨rfl, t, ht⟩ := hown ho
        obtain ⟨hle, hcr⟩ := lay_conc hr hc hu
        rw [hrun w]
        simp only [Nat.zero_add]
        rw [run_storeCells_at (P := P) b off t us 0 vs.toArray w ht (by simp; omega) (conc_one _ _ hu)]
        simp only [Result.andThen_ok, Oper.upon_value, Nat.add_zero]
        have hset : (w.setRow b (vs.toArray.toList.take off ++ us ++ vs.toArray.toList.drop (off + us.length)).toArray).heap[b]? = some (.cells (vs.take off ++ (us ++ vs.drop (off + us.length))).toArray t (0, 0)) := by
          rw [setRow_heap w b vs.toArray _ t _ ht]; simp
        have hoth : ∀ k, k ≠ b → (w.setRow b (vs.toArray.toList.take off ++ us ++ vs.toArray.toList.drop (off + us.length)).toArray).heap[k]? = w.heap[k]? := fun k hk => setRow_other w b k _ hk
        refine hK ρ _ _ (Ext.store ho hb rfl rfl rfl (by simp) hoth) (putDst_ok h (hs.store ho hb (by simp) hoth hcr hset) ?_).2
        rfl
      · cases h
    · cases h
  | app c xid xoff xlen xcap yid yoff m =>
    simp only [doPlan] at h
    split at h
    · rename_i hok hf
      split at h
      · rename_i lx ly hlx hly
        split at h
        · rename_i l1 l2 hc1 hc2
          obtain ⟨qx, qy, hqx, hqy, hrun⟩ := hp
          obtain ⟨happy, hly⟩ := rblk_blk hly
          obtain ⟨bx, ox, vx, ex, cx, okx⟩ := hs.mem.blk xid lx hlx
          rw [ex] at hqx; cases hqx
          obtain ⟨by_, oy, vy, ey, cy, oky⟩ := hs.mem.blk yid ly hly
          rw [ey] at hqy; cases hqy
          obtain ⟨hle1, hcr1⟩ := cut_conc hc1 cx
          obtain ⟨hle2, hcr2⟩ := cut_conc hc2 cy
          have hlen1 : ((vx.drop xoff).take xlen).length = xlen := by rw [List.length_take, List.length_drop]; omega
          have hlen2 : ((vy.drop yoff).take m).length = m := by rw [List.length_take, List.length_drop]; omega
          have hsem := hrun w _ hlen2 (oky.cells happy yoff m)
          have hcc := conc_append _ _ _ _ hcr1 hcr2
          have hnid : own nid = true := by
            unfold apOk at hok
            rw [Bool.and_eq_true, Bool.and_eq_true] at hok; exact hok.2.1
          have hnone : st.blk (apId nid) = none := by
            simp only [fresh, List.all_cons, List.all_nil, Bool.and_true] at hf
            unfold St.blk
            split at hf
            · rename_i hlk; rw [hlk]
            · cases hf
          cases c with
          | false =>
            have hax : app xid = false := by
              unfold apOk at hok
              rw [Bool.and_eq_true] at hok
              simpa using hok.1
            obtain ⟨k, zs, t, hk, hr⟩ := hsem _ hlen1 (okx.cells hax xoff xlen)
            rw [hr, Oper.upon_value]
            have hsize : (((vx.drop xoff).take xlen ++ (vy.drop yoff).take m) ++ zs).toArray.size = k := by simp only [List.size_toArray, List.length_append, hlen1, hlen2]; omega
            obtain ⟨ρ', hE, hsim⟩ := appAt_wp (kl := []) h hnid (hs.drew) hnone (w' := w.drew.alloc (.cells (((vx.drop xoff).take xlen ++ (vy.drop yoff).take m) ++ zs).toArray t)) (b := w.heap.size)
              (fun j m o hj hlv hq => by have := hs.lt hq; omega) (.inl (Nat.le_refl _)) rfl rfl rfl (by simp) (fun j hj _ => heap_alloc _ _ _ hj) hcc (heap_alloc_new _ _)
              (fun i v hi => by rw [List.getElem?_toArray, List.getElem?_append_left (List.getElem?_eq_some_iff.1 hi).1]; exact hi)
            rw [hsize] at hsim
            exact hK ρ' _ _ ((Ext.drew ρ w).trans hE) hsim
          | true =>
            have hax : app xid = true ∧ 1 ≤ xlen ∧ xoff = 0 := by
              unfold apOk at hok
              rw [Bool.and_eq_true, Bool.and_eq_true, Bool.and_eq_true] at hok
              exact ⟨hok.1.1, by simpa using hok.1.2.1, Nat.eq_of_beq_eq_true hok.1.2.2⟩
            obtain ⟨hax, hx1, hxoff⟩ := hax
            obtain ⟨hltx, _, _, happx⟩ := okx
            have hvx : vx ≠ [] := fun e => by subst e; simp at hle1; omega
            obtain ⟨cur, t, hheap, hcs, hpre⟩ := happx hax hvx
            have hlive : Live xid lx := .inr fun e => hvx (List.length_eq_zero_iff.1 (by rw [length_conc _ _ cx, e]))
            subst hxoff
            rw [List.drop_zero] at hlen1 hcr1 hcc
            have htk : cur.toList.take xlen = vx.take xlen := by
              apply List.ext_getElem?
              intro i
              rw [List.getElem?_take, List.getElem?_take]
              by_cases hi : i < xlen
              · rw [if_pos hi, if_pos hi]
                have hiv : i < vx.length := by rw [List.length_take] at hlen1; omega
                rw [List.getElem?_eq_getElem hiv]
                have := hpre i _ (List.getElem?_eq_getElem hiv)
                simpa using this
              · rw [if_neg hi, if_neg hi]
            have hcl : xlen ≤ cur.size := by
              have : (vx.take xlen).length ≤ cur.toList.length := by rw [← htk]; exact List.length_take_le' _ _
              rw [hlen1, Array.length_toList] at this; exact this
            have hkill := hs.kill hax hlx
            have hne : ¬ xid = apId nid := fun e => by rw [← e, hlx] at hnone; cases hnone
            have hnone' : St.blk (puts st (kills true xid)) (apId nid) = none := by
              show St.blk (puts st [(2 * xid + 1, .bl [])]) (apId nid) = none
              rw [blk_put_blk, if_neg hne]; exact hnone
            have hliv' : ∀ j mm, St.blk (puts st (kills true xid)) j = some mm → Live j mm → st.blk j = some mm ∧ j ≠ xid := by
              intro j mm hj hlv
              have hj : St.blk (puts st [(2 * xid + 1, .bl [])]) j = some mm := hj
              rw [blk_put_blk] at hj
              by_cases e : xid = j
              · rw [if_pos e] at hj; cases hj
                rcases hlv with hlv | hlv
                · rw [← e, own_app hax] at hlv; cases hlv
                · exact absurd rfl hlv
              · rw [if_neg e] at hj; exact ⟨hj, fun e' => e e'.symm⟩
            rcases hsem (conc_one _ _ hcr2) cur t hheap hcs hcl with ⟨k, zs, t', hk, hr⟩ | ⟨hfit, hr⟩
            · rw [hr, Oper.upon_value]
              rw [htk] at hr ⊢
              have hsize : ((vx.take xlen ++ (vy.drop yoff).take m) ++ zs).toArray.size = k := by simp only [List.size_toArray, List.length_append, hlen1, hlen2]; omega
              obtain ⟨ρ', hE, hsim⟩ := appAt_wp (kl := kills true xid) h hnid (hkill.drew) hnone' (w' := w.drew.alloc (.cells ((vx.take xlen ++ (vy.drop yoff).take m) ++ zs).toArray t')) (b := w.heap.size)
                (fun j m o hj hlv hq => by have := hs.lt hq; omega) (.inl (Nat.le_refl _)) rfl rfl rfl (by simp) (fun j hj _ => heap_alloc _ _ _ hj) hcc (heap_alloc_new _ _)
                (fun i v hi => by rw [List.getElem?_toArray, List.getElem?_append_left (List.getElem?_eq_some_iff.1 hi).1]; exact hi)
              rw [hsize] at hsim
              exact hK ρ' _ _ ((Ext.drew ρ w).trans hE) hsim
            · rw [hr, Oper.upon_value, htk]
              have hsz2 : (vx.take xlen ++ (vy.drop yoff).take m ++ cur.toList.drop (xlen + m)).toArray.size = ox := by
                simp only [List.size_toArray, List.length_append, hlen1, hlen2, List.length_drop, Array.length_toList]; omega
              obtain ⟨ρ', hE, hsim⟩ := appAt_wp (kl := kills true xid) h hnid hkill hnone' (w' := w.setRow bx (vx.take xlen ++ (vy.drop yoff).take m ++ cur.toList.drop (xlen + m)).toArray) (b := bx)
                (fun j m o hj hlv hq => by
                  obtain ⟨h1, h2⟩ := hliv' j m hj hlv
                  exact h2 (hs.inj.inj xid j bx ox o lx m (.inr hax) hlx h1 hlive hlv ex hq).symm) (.inr ⟨xid, ox, .inr hax, ex⟩) rfl rfl rfl (by simp) (fun j _ hne => setRow_other w bx j _ hne) hcc (setRow_heap w bx cur _ t _ hheap)
                (fun i v hi => by rw [List.getElem?_toArray, List.getElem?_append_left (List.getElem?_eq_some_iff.1 hi).1]; exact hi)
              rw [hsz2] at hsim
              exact hK ρ' _ _ hE hsim
        · cases h
      · cases h
    · cases h
  | copy did doff sid soff cells cnt =>
    simp only [doPlan] at h
    split at h
    · rename_i l l2 ho hl hl2
      split at h
      · rename_i c hc2
        split at h
        · rename_i r hr
          obtain ⟨qd, qs, hqd, hqs, hrun⟩ := hp
          obtain ⟨b, o', vs, hb, hc, hok⟩ := hs.mem.blk did l hl
          rw [hb] at hqd; cases hqd
          obtain ⟨hlt, hown, _⟩ := hok
          obtain ⟨rfl, t, ht⟩ := hown ho
          obtain ⟨happ, hl2⟩ := rblk_blk hl2
          obtain ⟨b2, o2, vs2, hb2, hcc2, hok2⟩ := hs.mem.blk sid l2 hl2
          rw [hb2] at hqs; cases hqs
          obtain ⟨hle2, hcr2⟩ := cut_conc hc2 hcc2
          obtain ⟨hle, hcr⟩ := lay_conc hr hc hcr2
          have hlen : ((vs2.drop soff).take cells).length = cells := by rw [List.length_take, List.length_drop]; omega
          have hcell : ∀ i v, ((vs2.drop soff).take cells)[i]? = some v → w.cell? ⟨b2, o2 + (soff + i), none⟩ = some v := by
            intro i v hi
            have hi' : vs2[soff + i]? = some v := by
              rw [List.getElem?_take] at hi
              split at hi
              · rw [List.getElem?_drop] at hi; exact hi
              · cases hi
            obtain ⟨_, hown2, hfor2, _⟩ := hok2
            cases ho2 : own sid with
            | true =>
              obtain ⟨rfl, t2, ht2⟩ := hown2 ho2
              rw [cell_of_row w b2 _ _ t2 _ ht2, Nat.zero_add]
              simpa using hi'
            | false => exact hfor2 ho2 happ _ _ hi'
          rw [hrun w _ hlen hcell]
          simp only [Nat.zero_add]
          rw [run_storeCells_at (P := P) b doff t _ 0 vs.toArray w ht (by simp only [List.size_toArray]; omega) (conc_one _ _ hcr2)]
          simp only [Result.andThen_ok, Oper.upon_value, Nat.add_zero]
          generalize hus : (vs2.drop soff).take cells = us at *
          have hset : (w.setRow b (vs.toArray.toList.take doff ++ us ++ vs.toArray.toList.drop (doff + us.length)).toArray).heap[b]? = some (.cells (vs.take doff ++ (us ++ vs.drop (doff + us.length))).toArray t (0, 0)) := by
            rw [setRow_heap w b vs.toArray _ t _ ht]; simp
          have hoth : ∀ k, k ≠ b → (w.setRow b (vs.toArray.toList.take doff ++ us ++ vs.toArray.toList.drop (doff + us.length)).toArray).heap[k]? = w.heap[k]? := fun k hk => setRow_other w b k _ hk
          refine hK ρ _ _ (Ext.store ho hb rfl rfl rfl (by simp) hoth) (putDst_ok h (hs.store ho hb (by simp) hoth hcr hset) ?_).2
          exact vI_val ρ _ _
        · cases h
      · cases h
    · cases h
  | call f args =>
    simp only [doPlan] at h
    split at h
    · rename_i out hcl hc
      split at h
      · rename_i hf hi
        obtain ⟨vs, hv, hrun⟩ := hp
        have hobs : ob = out.ob := by
          unfold putDst at h; split at h
          · cases h; rfl
          · cases h
        subst hobs
        have hmem := hs.handed _ _ hcl
        have hkp : ∀ id ∈ idsAV args, keptB st id = true := by
          have := hcl
          unfold closedB at this
          rw [Bool.and_eq_true, List.all_eq_true] at this
          exact this.1
        have hv' : vals (fun id => if ((memOf st (handIds args keys0)).blk id).isSome then ρ id else none) args = some vs := by
          refine vals_on args vs (fun id hid q hq => hs.on ?_ (hkp id hid) hq) hv
          unfold handIds
          split
          · rename_i he; rw [he] at hid; cases hid
          · exact List.mem_append_left _ hid
        have hnews : ∀ p ∈ out.news, st.blk p.1 = none := by
          intro p hp
          unfold fresh at hf
          rw [List.all_eq_true] at hf
          have := hf p hp
          unfold St.blk
          split at this
          · rename_i hlk; rw [hlk]
          · cases this
        have hinv := hcall f args _ nid out hc hob _ w vs hv' hmem (fun p hp => by
          rw [blk_memOf]; split
          · unfold St.kept; rw [hnews p hp]
          · rfl)
        have fin : ∀ v w', (∃ ρ', Ext (fun id => if ((memOf st (handIds args keys0)).blk id).isSome then ρ id else none) w ρ' w' ∧ out.val.val ρ' = some v ∧ Mem ρ' (puts (memOf st (handIds args keys0)) (blkW (out.wr ++ out.news))) w') →
            K (a.put o.dst v) w' := by
          rintro v w' ⟨ρ', hE, hval, hM⟩
          obtain ⟨ρ'', hE'', hle, hsim⟩ := hs.call hE hM (fun p hp => by
            unfold inMem at hi; rw [List.all_eq_true] at hi; have := hi p hp; rw [Bool.and_eq_true, Bool.or_eq_true] at this; exact this) hnews
          exact hK ρ'' _ w' hE'' (putDst_ok h hsim (SV.val_le hle _ _ hval)).2
        rw [hrun w]
        rcases hinv with ⟨v, h1, h2⟩ | ⟨h1, h2⟩
        · rw [h1, Oper.upon_value]; exact fin v w h2
        · rw [h1, Oper.upon_enter]
          refine h2.mono ?_
          rintro e w' ⟨v, rfl, hR⟩
          exact fin v w' hR
      · cases h
    · cases h
theorem stepOp_wp (htab : ∀ t d, tab t = some d → TyOk P t d) (hcall : CallOk P call) {i : Nat} (hi : ops[i]? = some o) (h : stepOp tab call N ops keys0 nid hint o st = some (R, W, ob)) (hob : ∀ q ∈ ob, q) (hs : Sim ρ N st a w) {K : Act → World → Prop}
    (hK : ∀ ρ' a' w', Ext ρ w ρ' w' → Sim ρ' N (puts st W) a' w' → K a' w') : wpOp P ops Q i K a w := by
  have henv : ∀ t x, envOf st (o.looksAt ops) t = some x → x.val ρ = some (a.tmps.getD t undef) := by
    intro t x hx
    unfold envOf at hx
    split at hx
    · exact hs.slots t x hx
    · cases hx
  unfold wpOp
  simp only [hi]
  unfold stepOp at h
  split at h
  · rename_i hw
    rw [if_pos (wantedA_ok henv hw)]
    split at h
    · rename_i p hp
      split at h
      · rename_i R' W' ob' hd
        cases h
        exact .inl (doPlan_wp hcall (opPlan_sound htab (evE_val henv) hp) hd hob hs hK)
      · cases h
    · cases h
  · rename_i hw
    rw [if_neg (by rw [wantedA_ok henv hw]; simp)]
    split at h
    · rename_i d hd
      cases h
      refine hK ρ _ w (.refl ρ w) ?_
      unfold dstW at hd
      cases hdst : o.dst with
      | none => simp only [hdst] at hd; cases hd; exact hs
      | some t =>
        simp only [hdst] at hd
        split at hd
        · rename_i ht; cases hd; exact hs.put ht rfl
        · cases hd
    · cases h
  · cases h
end
end Go.Eng
/-
  THE ENGINE, part I: a region, in the text's order and in any other that its edges allow.
-/
namespace Go.Eng
open Go Go.RowKit

def hintOf (hints : List (Nat × Bool)) (o : Oper) : Option Bool := match o.dst with
  | some d => look hints d
  | none => none
/-- The region's operations in the text's order: what each reads and writes. -/
def textRun (tab : TypeId → Option Ty) (call : CallT) (N : Nat) (ops : Array Oper) (keys0 : List Nat) (hints : List (Nat × Bool)) : Nat → List Oper → St → Option (List Step)
  | _, [], _ => some []
  | nid, o :: l, st => match stepOp tab call N ops keys0 nid (hintOf hints o) o st with
    | some (R, W, ob) => match textRun tab call N ops keys0 hints (nid + 1) l (puts st W) with
      | some r => some ((R, W, ob) :: r)
      | none => none
    | none => none
def allW (l : List Step) : List (Nat × Ct) := l.flatMap (·.2.1)
def allOb (l : List Step) : List Prop := l.flatMap (·.2.2)

/-! ### is the order free? -/
def maskOf (prev : List Nat) : List Nat → Nat
  | [] => 0
  | m :: l => maskOf prev l ||| (1 <<< m ||| prev.getD m 0)
def indepB (R1 W1 R2 W2 : List Nat) : Bool := W1.all (fun k => !R2.contains k && !W2.contains k) && W2.all fun k => !R1.contains k
/-- One operation against all that stand before it. -/
def chkOne (mask : Nat) (R W : List Nat) : Nat → List (List Nat × List Nat) → Bool
  | _, [] => true
  | j, (R', W') :: l => (mask.testBit j || indepB R' W' R W) && chkOne mask R W (j + 1) l
def chkAll : List Oper → List Step → List Nat → List (List Nat × List Nat) → Bool
  | [], [], _, _ => true
  | o :: ops, (R, W, _) :: l, prev, infos =>
    (srcs o).all (fun m => decide (m < infos.length)) && chkOne (maskOf prev (srcs o)) R (keys W) 0 infos && chkAll ops l (prev ++ [maskOf prev (srcs o)]) (infos ++ [(R, keys W)])
  | _, _, _, _ => false

theorem indepB_spec {R1 W1 R2 W2 : List Nat} (h : indepB R1 W1 R2 W2 = true) : (∀ k ∈ W1, k ∉ R2 ∧ k ∉ W2) ∧ (∀ k ∈ W2, k ∉ R1) := by
  unfold indepB at h
  simp only [Bool.and_eq_true, List.all_eq_true, Bool.not_eq_true', List.contains_eq_mem, decide_eq_false_iff_not] at h
  exact h
theorem maskOf_spec (prev : List Nat) : ∀ (l : List Nat) (j : Nat), (maskOf prev l).testBit j = true → ∃ m ∈ l, m = j ∨ (prev.getD m 0).testBit j = true := by
  intro l
  induction l with
  | nil => intro j h; simp [maskOf] at h
  | cons m l ih =>
    intro j h
    simp only [maskOf, Nat.testBit_or, Bool.or_eq_true] at h
    rcases h with h | h | h
    · obtain ⟨m', h1, h2⟩ := ih j h; exact ⟨m', by simp [h1], h2⟩
    · refine ⟨m, by simp, .inl ?_⟩
      rw [Nat.shiftLeft_eq, Nat.one_mul, Nat.testBit_two_pow] at h
      simpa using h
    · exact ⟨m, by simp, .inr h⟩
theorem chkOne_spec {mask : Nat} {R W : List Nat} : ∀ (l : List (List Nat × List Nat)) (j : Nat), chkOne mask R W j l = true → ∀ i p, l[i]? = some p → mask.testBit (j + i) = true ∨ indepB p.1 p.2 R W = true := by
  intro l
  induction l with
  | nil => intro j _ i p h; simp at h
  | cons q l ih =>
    intro j h i p hp
    simp only [chkOne, Bool.and_eq_true, Bool.or_eq_true] at h
    cases i with
    | zero => simp only [List.getElem?_cons_zero, Option.some.injEq] at hp; subst hp; exact h.1
    | succ i =>
      simp only [List.getElem?_cons_succ] at hp
      have := ih (j + 1) h.2 i p hp
      rwa [show j + 1 + i = j + (i + 1) by omega] at this
/-- What the check gives, all through the list. -/
theorem chkAll_spec : ∀ (ops : List Oper) (l : List Step) (prev : List Nat) (infos : List (List Nat × List Nat)), chkAll ops l prev infos = true → prev.length = infos.length →
    ∃ masks : List Nat, masks.length = ops.length ∧ ops.length = l.length ∧ ∀ i o s, ops[i]? = some o → l[i]? = some s →
      (∀ m ∈ srcs o, m < infos.length + i) ∧
      (∀ j, ((prev ++ masks).getD (infos.length + i) 0).testBit j = true → ∃ m ∈ srcs o, m = j ∨ ((prev ++ masks).getD m 0).testBit j = true) ∧
      (∀ j p, j < infos.length + i → (infos ++ l.map fun s => (s.1, keys s.2.1))[j]? = some p → ((prev ++ masks).getD (infos.length + i) 0).testBit j = true ∨ indepB p.1 p.2 s.1 (keys s.2.1) = true) := by
  intro ops
  induction ops with
  | nil =>
    intro l prev infos h _
    cases l with
    | nil => exact ⟨[], rfl, rfl, fun i o s ho _ => by simp at ho⟩
    | cons s l => cases h
  | cons o ops ih =>
    intro l prev infos h hlen
    cases l with
    | nil => cases h
    | cons s l =>
      obtain ⟨R, W, ob⟩ := s
      simp only [chkAll, Bool.and_eq_true, List.all_eq_true, decide_eq_true_eq] at h
      obtain ⟨⟨h1, h2⟩, h3⟩ := h
      obtain ⟨masks, hm1, hm2, hm3⟩ := ih l _ _ h3 (by simp [hlen])
      refine ⟨maskOf prev (srcs o) :: masks, by simp [hm1], by simp [hm2], fun i o' s' ho hs => ?_⟩
      have eapp : prev ++ maskOf prev (srcs o) :: masks = (prev ++ [maskOf prev (srcs o)]) ++ masks := by simp
      have einf : infos ++ List.map (fun s : Step => (s.1, keys s.2.1)) ((R, W, ob) :: l) = (infos ++ [(R, keys W)]) ++ List.map (fun s : Step => (s.1, keys s.2.1)) l := by simp
      cases i with
      | zero =>
        simp only [List.getElem?_cons_zero, Option.some.injEq] at ho hs
        subst ho; subst hs
        have eg : (prev ++ maskOf prev (srcs o) :: masks).getD (infos.length + 0) 0 = maskOf prev (srcs o) := by
          rw [List.getD_eq_getElem?_getD, List.getElem?_append_right (by omega), ← hlen]; simp
        refine ⟨fun m hm => by simpa using h1 m hm, fun j hj => ?_, fun j p hj hp => ?_⟩
        · rw [eg] at hj
          obtain ⟨m, hm, hj'⟩ := maskOf_spec prev _ j hj
          refine ⟨m, hm, hj'.imp id fun hj' => ?_⟩
          have := h1 m hm
          rw [List.getD_eq_getElem?_getD, List.getElem?_append_left (by omega), ← List.getD_eq_getElem?_getD]; exact hj'
        · rw [eg]
          rw [List.getElem?_append_left (by omega)] at hp
          have := chkOne_spec infos 0 h2 j p hp
          rwa [Nat.zero_add] at this
      | succ i =>
        simp only [List.getElem?_cons_succ] at ho hs
        obtain ⟨a1, a2, a3⟩ := hm3 i o' s' ho hs
        have el : (infos ++ [(R, keys W)]).length + i = infos.length + (i + 1) := by simp; omega
        rw [el] at a1 a2 a3
        refine ⟨a1, fun j hj => ?_, fun j p hj hp => ?_⟩
        · rw [eapp] at hj ⊢; exact a2 j hj
        · rw [eapp]; rw [einf] at hp; exact a3 j p hj hp

section
variable {P : Program} {tab : TypeId → Option Ty} {call : CallT} {N : Nat} {ops : Array Oper} {keys0 : List Nat} {hints : List (Nat × Bool)}
/-- What the run in the text's order did, number by number. -/
theorem textRun_spec : ∀ (l : List Oper) (nid : Nat) (st : St) (infos : List Step), textRun tab call N ops keys0 hints nid l st = some infos →
    infos.length = l.length ∧ ∀ i o s, l[i]? = some o → infos[i]? = some s → stepOp tab call N ops keys0 (nid + i) (hintOf hints o) o (puts st (allW (infos.take i))) = some s := by
  intro l
  induction l with
  | nil => intro nid st infos h; cases h; exact ⟨rfl, fun i o s ho _ => by simp at ho⟩
  | cons o l ih =>
    intro nid st infos h
    simp only [textRun] at h
    split at h
    · rename_i R W ob hs
      split at h
      · rename_i r hr
        cases h
        obtain ⟨h1, h2⟩ := ih _ _ _ hr
        refine ⟨by simp [h1], fun i o' s ho hi => ?_⟩
        cases i with
        | zero =>
          simp only [List.getElem?_cons_zero, Option.some.injEq] at ho hi
          subst ho; subst hi
          exact hs
        | succ i =>
          simp only [List.getElem?_cons_succ] at ho hi
          have := h2 i o' s ho hi
          rw [show nid + 1 + i = nid + (i + 1) by omega] at this
          simp only [List.take_succ_cons, allW, List.flatMap_cons, puts_append]
          exact this
      · cases h
    · cases h
/-- By functions of the number. -/
def Wf (infos : List Step) (i : Nat) : List (Nat × Ct) := match infos[i]? with
  | some s => s.2.1
  | none => []
def Rf (infos : List Step) (i : Nat) : List Nat := match infos[i]? with
  | some s => s.1
  | none => []
theorem laid_take (infos : List Step) (st : St) : ∀ i, i ≤ infos.length → laid (Wf infos) st (List.range i) = puts st (allW (infos.take i)) := by
  intro i
  induction i with
  | zero => intro _; rfl
  | succ i ih =>
    intro h
    rw [List.range_succ, laid_append, ih (by omega), List.take_succ_eq_append_getElem (by omega)]
    simp only [laid, Wf, List.getElem?_eq_getElem (show i < infos.length by omega), allW, List.flatMap_append, List.flatMap_cons, List.flatMap_nil, List.append_nil, puts_append]
def srcF (ops : Array Oper) (i : Nat) : List Nat := match ops[i]? with
  | some o => srcs o
  | none => []
theorem sorted_of_chk {infos : List Step} (h : chkAll ops.toList infos [] [] = true) : ∃ anc : Nat → Nat → Bool, Sorted ops.size (srcF ops) anc (Rf infos) (Wf infos) := by
  obtain ⟨masks, h1, h2, h3⟩ := chkAll_spec ops.toList infos [] [] h rfl
  have hl : infos.length = ops.size := by rw [← h2]; simp
  refine ⟨fun i j => (masks.getD i 0).testBit j, ⟨?_, ?_, ?_⟩⟩
  all_goals
    intro i hi
    have ho : ops.toList[i]? = some ops[i] := by simp [hi]
    have hs : infos[i]? = some infos[i] := List.getElem?_eq_getElem (by omega)
    obtain ⟨a1, a2, a3⟩ := h3 i _ _ ho hs
    simp only [List.length_nil, Nat.zero_add, List.nil_append] at a1 a2 a3
    have es : srcF ops i = srcs ops[i] := by simp [srcF, hi]
  · intro m hm; rw [es] at hm; exact a1 m hm
  · intro j hj
    obtain ⟨m, hm, h'⟩ := a2 j hj
    exact ⟨m, by rw [es]; exact hm, h'⟩
  · intro j hj
    have hsj : infos[j]? = some infos[j] := List.getElem?_eq_getElem (by omega)
    refine (a3 j _ hj (by rw [List.getElem?_map, hsj]; rfl)).imp id fun hI => ?_
    have := indepB_spec hI
    simp only [indep, Rf, Wf, hs, hsj]
    exact this

variable {Q : Exit → Act → World → Prop} {ρ : Rho} {a : Act} {w : World} {st : St}
theorem wpAny_inv (htab : ∀ t d, tab t = some d → TyOk P t d) (hcall : CallOk P call) {nid : Nat} {infos : List Step} (hrun : textRun tab call N ops keys0 hints nid ops.toList st = some infos) (hchk : chkAll ops.toList infos [] [] = true)
    (hob : ∀ q ∈ allOb infos, q) {ρ0 : Rho} {w0 : World} (hQ : ∀ ρ' a' w', Ext ρ0 w0 ρ' w' → Sim ρ' N (puts st (allW infos)) a' w' → Q .normal a' w') :
    ∃ anc : Nat → Nat → Bool, ∀ (fuel : Nat) (listed : Array Bool) (a : Act) (w : World) (ρ : Rho), listed.size = ops.size → Closed ops.size anc (fun j => listed.getD j true) →
      ((List.range ops.size).filter fun j => !listed.getD j true).length ≤ fuel → Ext ρ0 w0 ρ w → Sim ρ N (at_ (Wf infos) st ops.size fun j => listed.getD j true) a w → wpAny P .any ops Q fuel listed a w := by
  obtain ⟨anc, S⟩ := sorted_of_chk hchk
  obtain ⟨hl, hstep⟩ := textRun_spec _ _ _ _ hrun
  have hlen : infos.length = ops.size := by rw [hl]; simp
  refine ⟨anc, ?_⟩
  -- what is ready, is ready
  have rd : ∀ (listed : Array Bool) i, i ∈ Region.ready .any ops listed ↔ listed.getD i true = false ∧ i < ops.size ∧ ∀ m ∈ srcF ops i, listed.getD m false = true := by
    intro listed i
    rw [mem_ready]
    constructor
    · rintro ⟨h0, o, ho, hall⟩
      have hi : i < ops.size := (Array.getElem?_eq_some_iff.1 ho).1
      refine ⟨h0, hi, fun m hm => ?_⟩
      simp only [srcF, ho] at hm
      obtain ⟨e, he, hb, rfl⟩ := mem_srcs.1 hm
      exact hall e he hb
    · rintro ⟨h0, hi, hall⟩
      refine ⟨h0, ops[i], by simp [hi], fun e he hb => hall _ ?_⟩
      simp only [srcF, Array.getElem?_eq_getElem hi]
      exact mem_srcs.2 ⟨e, he, hb, rfl⟩
  have done : ∀ (listed : Array Bool), listed.size = ops.size → Region.ready .any ops listed = [] → ∀ i, i < ops.size → listed.getD i true = true := by
    intro listed hsz hnil i
    induction i using Nat.strongRecOn with
    | _ i ih =>
      intro hi
      cases hg : listed.getD i true with
      | true => rfl
      | false =>
        have : i ∈ Region.ready .any ops listed := (rd listed i).2 ⟨hg, hi, fun m hm => by
          have hmi := S.below i hi m hm
          have := ih m hmi (by omega)
          rw [Array.getD_eq_getD_getElem?, Array.getElem?_eq_getElem (by omega)] at this ⊢
          exact this⟩
        rw [hnil] at this
        cases this
  have fin : ∀ (listed : Array Bool) (a : Act) (w : World) (ρ : Rho), listed.size = ops.size → Region.ready .any ops listed = [] → Ext ρ0 w0 ρ w → Sim ρ N (at_ (Wf infos) st ops.size fun j => listed.getD j true) a w → Q .normal a w := by
    intro listed a w ρ hsz hnil hE hs
    refine hQ ρ a w hE (hs.congr fun k => ?_)
    unfold at_
    rw [List.filter_eq_self.2 (fun j hj => by simpa using done listed hsz hnil j (by simpa using hj))]
    rw [laid_take infos st ops.size (by omega), ← hlen, List.take_length]
  intro fuel
  induction fuel with
  | zero =>
    intro listed a w ρ hsz hcl hfu hE hs
    have hnil : Region.ready .any ops listed = [] := by
      rw [List.eq_nil_iff_forall_not_mem]
      intro i hi
      have := (rd listed i).1 hi
      have hm : i ∈ (List.range ops.size).filter fun j => !listed.getD j true := by
        rw [List.mem_filter]; exact ⟨by simpa using this.2.1, by rw [this.1]; rfl⟩
      have := List.length_pos_of_mem hm
      omega
    exact ⟨hnil, fin listed a w ρ hsz hnil hE hs⟩
  | succ fuel ih =>
    intro listed a w ρ hsz hcl hfu hE hs
    refine ⟨fun hnil => fin listed a w ρ hsz hnil hE hs, fun i hi => ?_⟩
    obtain ⟨h0, hlt, hsrc⟩ := (rd listed i).1 hi
    have hsrc' : ∀ m ∈ srcF ops i, listed.getD m true = true := fun m hm => by
      have := hsrc m hm
      have hmi := S.below i hlt m hm
      rw [Array.getD_eq_getD_getElem?, Array.getElem?_eq_getElem (by omega)] at this ⊢
      exact this
    have hi' : i < infos.length := by omega
    have hinfo : infos[i]? = some (infos[i]'hi') := List.getElem?_eq_getElem hi'
    rcases hinfo' : infos[i]'hi' with ⟨R, W, ob⟩
    have hst := hstep i ops[i] (infos[i]'hi') (by simp [hlt]) hinfo
    rw [hinfo'] at hst
    have hR : Rf infos i = R := by simp only [Rf, hinfo, hinfo']
    have hW : Wf infos i = W := by simp only [Wf, hinfo, hinfo']
    have hst' := stepOp_congr (st' := at_ (Wf infos) st ops.size fun j => listed.getD j true) hst fun k hk => by
      rw [S.reads hcl hlt h0 hsrc' st (by rw [hR]; exact hk), laid_take infos st i (by omega)]
    refine stepOp_wp htab hcall (by simp [hlt]) hst' (fun q hq => hob q ?_) hs fun ρ' a' w' hE' hs' => ?_
    · unfold allOb
      rw [List.mem_flatMap]
      exact ⟨infos[i]'hi', List.getElem_mem _, by rw [hinfo']; exact hq⟩
    · have heq : ∀ j, (listed.setIfInBounds i true).getD j true = (j == i || listed.getD j true) := by
        intro j
        simp only [Array.getD_eq_getD_getElem?]
        by_cases hj : i = j
        · subst hj; simp [show i < listed.size by omega]
        · rw [Array.getElem?_setIfInBounds_ne hj]
          have : (j == i) = false := by simpa using fun e => hj e.symm
          rw [this, Bool.false_or]
      have hfun : (fun j => (listed.setIfInBounds i true).getD j true) = fun j => j == i || listed.getD j true := funext heq
      refine ih (listed.setIfInBounds i true) a' w' ρ' (by simp [hsz]) ?_ ?_ (hE.trans hE') ?_
      · rw [hfun]; exact Closed.add S hcl hlt hsrc'
      · have hlt' : ((List.range ops.size).filter fun j => !(j == i || listed.getD j true)).length < ((List.range ops.size).filter fun j => !listed.getD j true).length := by
          have e : ((List.range ops.size).filter fun j => !(j == i || listed.getD j true)) = ((List.range ops.size).filter fun j => !listed.getD j true).filter fun j => !(j == i) := by
            rw [List.filter_filter]
            apply List.filter_congr
            intro j _
            simp [Bool.not_or]
          rw [e]
          refine List.length_filter_lt_length_iff_exists.2 ⟨i, ?_, by simp⟩
          rw [List.mem_filter]; exact ⟨by simpa using hlt, by rw [h0]; rfl⟩
        have e2 : ((List.range ops.size).filter fun j => !(listed.setIfInBounds i true).getD j true) = (List.range ops.size).filter fun j => !(j == i || listed.getD j true) := by
          apply List.filter_congr; intro j _; rw [heq]
        rw [e2]; omega
      · rw [hfun]
        refine hs'.congr fun k => ?_
        rw [S.more hcl hlt h0 hsrc' st k, hW]
end
end Go.Eng
/-
  THE ENGINE, part J: code; functions; calls within calls.
-/
namespace Go.Eng
open Go Go.RowKit

section
variable {P : Program} {tab : TypeId → Option Ty} {call : CallT} {N : Nat} {ops : Array Oper} {keys0 : List Nat} {hints : List (Nat × Bool)} {Q : Exit → Act → World → Prop} {ρ : Rho} {a : Act} {w : World} {st : St}
theorem region_wp (hm : P.follows .mixedOrders = true) (htab : ∀ t d, tab t = some d → TyOk P t d) (hcall : CallOk P call) {nid id : Nat} {draw : Bool} {infos : List Step} (hrun : textRun tab call N ops keys0 hints nid ops.toList st = some infos)
    (hchk : draw = true → chkAll ops.toList infos [] [] = true) (hob : ∀ q ∈ allOb infos, q) (hs : Sim ρ N st a w)
    (hQ : ∀ ρ' a' w', Ext ρ w ρ' w' → Sim ρ' N (puts st (allW infos)) a' w' → Q .normal a' w') : (Code.region id ops draw).wp P Q a w := by
  cases draw with
  | true =>
    obtain ⟨anc, h⟩ := wpAny_inv htab hcall hrun (hchk rfl) hob hQ
    refine wp_region_any hm (h ops.size _ a _ ρ (by simp) ?_ (Nat.le_trans (List.length_filter_le _ _) (by simp)) (Ext.drew ρ w) ?_)
    · intro j hj hl
      simp [hj] at hl
    · refine (Sim.congr hs fun k => ?_).drew
      unfold at_
      have : (List.range ops.size).filter (fun j => (Array.replicate ops.size false).getD j true) = [] := by
        rw [List.filter_eq_nil_iff]
        intro j hj
        have : j < ops.size := by simpa using hj
        simp [this]
      rw [this]; rfl
  | false =>
    obtain ⟨hl, hstep⟩ := textRun_spec _ _ _ _ hrun
    have hlen : infos.length = ops.size := by rw [hl]; simp
    refine wp_region ?_
    rw [List.range_eq_range']
    have key : ∀ (m k : Nat) (a : Act) (w' : World) (ρ' : Rho), k + m = ops.size → Ext ρ w ρ' w' → Sim ρ' N (puts st (allW (infos.take k))) a w' → wpOps P ops Q (List.range' k m) a w' := by
      intro m
      induction m with
      | zero =>
        intro k a w' ρ' hk hE hs'
        rw [show infos.take k = infos by rw [List.take_of_length_le (by omega)]] at hs'
        exact hQ ρ' a w' hE hs'
      | succ m ih =>
        intro k a w' ρ' hk hE hs'
        have hlt : k < ops.size := by omega
        have hi' : k < infos.length := by omega
        have hinfo : infos[k]? = some (infos[k]'hi') := List.getElem?_eq_getElem hi'
        rcases hinfo' : infos[k]'hi' with ⟨R, W, ob⟩
        have hst := hstep k ops[k] (infos[k]'hi') (by simp [hlt]) hinfo
        rw [hinfo'] at hst
        rw [List.range'_succ, wpOps_cons]
        refine stepOp_wp htab hcall (by simp [hlt]) hst (fun q hq => hob q ?_) hs' fun ρ'' a'' w'' hE' hs'' => ?_
        · unfold allOb
          rw [List.mem_flatMap]
          exact ⟨infos[k]'hi', List.getElem_mem _, by rw [hinfo']; exact hq⟩
        · refine ih (k + 1) a'' w'' ρ'' (by omega) (hE.trans hE') ?_
          rw [List.take_succ_eq_append_getElem hi', hinfo']
          simp only [allW, List.flatMap_append, List.flatMap_cons, List.flatMap_nil, List.append_nil, puts_append]
          exact hs''
    exact key ops.size 0 a w ρ (by omega) (.refl ρ w) hs
end

/-! ### code -/
structure Xs where
  st : St
  nid : Nat
  hints : List (Nat × Bool)
  obs : List Prop
  dirty : List Nat
inductive Xk where
  | n
  | e (id : Nat)
  | r
def Xk.exit : Xk → Exit
  | .n => .normal
  | .e id => .exit id
  | .r => .ret
def blkIds (st : St) : List Nat := st.filterMap fun p => if p.1 % 2 = 1 then some (p.1 / 2) else none
def dirtyOf (W : List (Nat × Ct)) : List Nat := W.filterMap fun p => if p.1 % 2 = 1 then some (p.1 / 2) else none
def dropHint : List (Nat × Bool) → Nat → List (Nat × Bool)
  | [], _ => []
  | (k, b) :: l, d => if k = d then l else (k, b) :: dropHint l d
def useHints : List Oper → List (Nat × Bool) → List (Nat × Bool)
  | [], h => h
  | o :: l, h => match o.dst with
    | some d => useHints l (dropHint h d)
    | none => useHints l h
structure Eng where
  tab : TypeId → Option Ty
  call : CallT
  N : Nat
def runRegion (E : Eng) (ops : Array Oper) (draw : Bool) (x : Xs) : Option Xs :=
  match textRun E.tab E.call E.N ops (blkIds x.st) x.hints x.nid ops.toList x.st with
  | some infos => match draw && !chkAll ops.toList infos [] [] with
    | true => none
    | false => some { st := puts x.st (allW infos), nid := x.nid + ops.size, hints := useHints ops.toList x.hints, obs := x.obs ++ allOb infos, dirty := dirtyOf (allW infos) ++ x.dirty }
  | none => none
def condOf (st : St) (c : Operand) : Option Bool := match evE st.slot c with
  | some (.one ⟨false, [.v (.bool b)]⟩) => some b
  | _ => none
def exec (E : Eng) : Nat → Code → Xs → Option (Xk × Xs)
  | 0, _, _ => none
  | n + 1, c, x => match c with
    | .skip => some (.n, x)
    | .label _ => some (.n, x)
    | .region _ ops draw => match runRegion E ops draw x with
      | some y => some (.n, y)
      | none => none
    | .seq p q => match exec E n p x with
      | some (.n, y) => exec E n q y
      | r => r
    | .cond c p q => match condOf x.st c with
      | some true => exec E n p x
      | some false => exec E n q x
      | none => none
    | .block id p => match exec E n p x with
      | some (.e id', y) => if id' = id then some (.n, y) else some (.e id', y)
      | r => r
    | .loop p => match exec E n p x with
      | some (.n, y) => exec E n (.loop p) y
      | r => r
    | .exit id => some (.e id, x)
    | .ret => some (.r, x)
    | .scope p => exec E n p x
    | _ => none

/-- What a run keeps: what it owes only grows; what is not dirty is as it was. -/
def Kept (x y : Xs) : Prop := (∀ q ∈ x.obs, q ∈ y.obs) ∧ (∀ d ∈ x.dirty, d ∈ y.dirty) ∧ ∀ id, id ∉ y.dirty → y.st.blk id = x.st.blk id
theorem Kept.refl (x : Xs) : Kept x x := ⟨fun _ h => h, fun _ h => h, fun _ _ => rfl⟩
theorem Kept.trans {x y z : Xs} (h : Kept x y) (k : Kept y z) : Kept x z :=
  ⟨fun q hq => k.1 q (h.1 q hq), fun q hq => k.2.1 q (h.2.1 q hq), fun id hid => (k.2.2 id hid).trans (h.2.2 id fun hd => hid (k.2.1 id hd))⟩
theorem runRegion_kept {E : Eng} {ops : Array Oper} {draw : Bool} {x y : Xs} (h : runRegion E ops draw x = some y) : Kept x y := by
  unfold runRegion at h
  split at h
  · rename_i infos hi
    split at h
    · cases h
    · cases h
      refine ⟨fun q hq => List.mem_append_left _ hq, fun q hq => List.mem_append_right _ hq, fun id hid => ?_⟩
      have : 2 * id + 1 ∉ keys (allW infos) := by
        intro hk
        refine hid (List.mem_append_left _ ?_)
        unfold keys at hk
        obtain ⟨p, hp, e⟩ := List.mem_map.1 hk
        unfold dirtyOf
        rw [List.mem_filterMap]
        refine ⟨p, hp, ?_⟩
        rw [e, if_pos (by omega)]
        congr 1; omega
      unfold St.blk
      rw [look_puts, last_none this]
  · cases h
theorem exec_kept {E : Eng} : ∀ (n : Nat) (c : Code) (x : Xs) (k : Xk) (y : Xs), exec E n c x = some (k, y) → Kept x y := by
  intro n
  induction n with
  | zero => intro c x k y h; cases h
  | succ n ih =>
    intro c x k y h
    cases c <;> simp only [exec] at h <;> try (cases h; done)
    case skip => cases h; exact .refl _
    case label => cases h; exact .refl _
    case exit => cases h; exact .refl _
    case ret => cases h; exact .refl _
    case region id ops draw =>
      split at h
      · rename_i z hz; cases h; exact runRegion_kept hz
      · cases h
    case seq p q =>
      cases hp : exec E n p x with
      | none => rw [hp] at h; cases h
      | some r =>
        obtain ⟨k', z⟩ := r
        rw [hp] at h
        cases k' with
        | n => exact (ih _ _ _ _ hp).trans (ih _ _ _ _ h)
        | e id => cases h; exact ih _ _ _ _ hp
        | r => cases h; exact ih _ _ _ _ hp
    case cond c p q =>
      split at h
      · exact ih _ _ _ _ h
      · exact ih _ _ _ _ h
      · cases h
    case block id p =>
      cases hp : exec E n p x with
      | none => rw [hp] at h; cases h
      | some r =>
        obtain ⟨k', z⟩ := r
        rw [hp] at h
        cases k' with
        | n => cases h; exact ih _ _ _ _ hp
        | e id' => simp only at h; split at h <;> (cases h; exact ih _ _ _ _ hp)
        | r => cases h; exact ih _ _ _ _ hp
    case loop p =>
      cases hp : exec E n p x with
      | none => rw [hp] at h; cases h
      | some r =>
        obtain ⟨k', z⟩ := r
        rw [hp] at h
        cases k' with
        | n => exact (ih _ _ _ _ hp).trans (ih _ _ _ _ h)
        | e id => cases h; exact ih _ _ _ _ hp
        | r => cases h; exact ih _ _ _ _ hp
    case scope p => exact ih _ _ _ _ h

section
variable {P : Program} {E : Eng}
theorem runRegion_wp (hm : P.follows .mixedOrders = true) (htab : ∀ t d, E.tab t = some d → TyOk P t d) (hcall : CallOk P E.call) {id : Nat} {ops : Array Oper} {draw : Bool} {x y : Xs} (h : runRegion E ops draw x = some y) (hob : ∀ q ∈ y.obs, q)
    {ρ : Rho} {a : Act} {w : World} (hs : Sim ρ E.N x.st a w) {Q : Exit → Act → World → Prop} (hQ : ∀ ρ' a' w', Ext ρ w ρ' w' → Sim ρ' E.N y.st a' w' → Q .normal a' w') : (Code.region id ops draw).wp P Q a w := by
  unfold runRegion at h
  split at h
  · rename_i infos hi
    split at h
    · cases h
    · rename_i hd
      cases h
      refine region_wp hm htab hcall hi (fun e => ?_) (fun q hq => hob q (List.mem_append_right _ hq)) hs hQ
      subst e
      simpa using hd
  · cases h
theorem condOf_ok {N : Nat} {st : St} {ρ : Rho} {a : Act} {w : World} (hs : Sim ρ N st a w) {c : Operand} {b : Bool} (h : condOf st c = some b) : a.eval c = .bool b := by
  unfold condOf at h
  split at h
  · rename_i b' he
    cases h
    have := AV.val_one (ρ := ρ) (i := .v (.bool b)) (evE_val (fun t x hx => hs.slots t x hx) c _ he)
    simp only [It.cs, Value.oneCell', Option.some.injEq, List.cons.injEq, and_true] at this
    exact this.symm
  · cases h
theorem exec_wp (hm : P.follows .mixedOrders = true) (htab : ∀ t d, E.tab t = some d → TyOk P t d) (hcall : CallOk P E.call) : ∀ (n : Nat) (c : Code) (x : Xs) (k : Xk) (y : Xs), exec E n c x = some (k, y) → (∀ q ∈ y.obs, q) →
    ∀ (ρ : Rho) (a : Act) (w : World), Sim ρ E.N x.st a w → ∀ (Q : Exit → Act → World → Prop), (∀ ρ' a' w', Ext ρ w ρ' w' → Sim ρ' E.N y.st a' w' → Q k.exit a' w') →
      c.wp P Q a w ∧ ∀ p, c = .loop p → Code.rounds P p Q n a w := by
  intro n
  induction n with
  | zero => intro c x k y h; cases h
  | succ n ih =>
    intro c x k y h hob ρ a w hs Q hQ
    have nl : ∀ (hc : ∀ p, c ≠ .loop p), c.wp P Q a w → c.wp P Q a w ∧ ∀ p, c = .loop p → Code.rounds P p Q (n + 1) a w := fun hc h => ⟨h, fun p e => absurd e (hc p)⟩
    cases c <;> simp only [exec] at h <;> try (cases h; done)
    case skip => cases h; exact nl (fun _ e => by cases e) (wp_skip (hQ ρ a w (.refl ρ w) hs))
    case label => cases h; exact nl (fun _ e => by cases e) (wp_label (hQ ρ a w (.refl ρ w) hs))
    case exit => cases h; exact nl (fun _ e => by cases e) (wp_exit (hQ ρ a w (.refl ρ w) hs))
    case ret => cases h; exact nl (fun _ e => by cases e) (wp_ret (hQ ρ a w (.refl ρ w) hs))
    case region id ops draw =>
      split at h
      · rename_i z hz; cases h; exact nl (fun _ e => by cases e) (runRegion_wp hm htab hcall hz hob hs hQ)
      · cases h
    case seq p q =>
      refine nl (fun _ e => by cases e) (wp_seq ?_)
      cases hp : exec E n p x with
      | none => rw [hp] at h; cases h
      | some r =>
        obtain ⟨k', z⟩ := r
        rw [hp] at h
        cases k' with
        | n =>
          have hk := exec_kept _ _ _ _ _ h
          refine (ih _ _ _ _ hp (fun q hq => hob q (hk.1 q hq)) ρ a w hs _ fun ρ' a' w' hE hs' => ?_).1
          exact (ih _ _ _ _ h hob ρ' a' w' hs' Q fun ρ'' a'' w'' hE' hs'' => hQ ρ'' a'' w'' (hE.trans hE') hs'').1
        | e id => cases h; refine (ih _ _ _ _ hp hob ρ a w hs _ fun ρ' a' w' hE hs' => ?_).1; exact hQ ρ' a' w' hE hs'
        | r => cases h; refine (ih _ _ _ _ hp hob ρ a w hs _ fun ρ' a' w' hE hs' => ?_).1; exact hQ ρ' a' w' hE hs'
    case cond c p q =>
      refine nl (fun _ e => by cases e) ?_
      split at h
      · rename_i hc; exact wp_cond_true (condOf_ok hs hc) (ih _ _ _ _ h hob ρ a w hs Q hQ).1
      · rename_i hc; exact wp_cond_false (condOf_ok hs hc) (ih _ _ _ _ h hob ρ a w hs Q hQ).1
      · cases h
    case block id p =>
      refine nl (fun _ e => by cases e) (wp_block ?_)
      cases hp : exec E n p x with
      | none => rw [hp] at h; cases h
      | some r =>
        obtain ⟨k', z⟩ := r
        rw [hp] at h
        cases k' with
        | n => cases h; refine (ih _ _ _ _ hp hob ρ a w hs _ fun ρ' a' w' hE hs' => ?_).1; exact hQ ρ' a' w' hE hs'
        | e id' =>
          simp only at h
          split at h
          · rename_i e
            cases h
            refine (ih _ _ _ _ hp hob ρ a w hs _ fun ρ' a' w' hE hs' => ?_).1
            simp only [Xk.exit, Exit.inBlock, e, if_true]
            exact hQ ρ' a' w' hE hs'
          · rename_i e
            cases h
            refine (ih _ _ _ _ hp hob ρ a w hs _ fun ρ' a' w' hE hs' => ?_).1
            simp only [Xk.exit, Exit.inBlock, e, if_false]
            exact hQ ρ' a' w' hE hs'
        | r => cases h; refine (ih _ _ _ _ hp hob ρ a w hs _ fun ρ' a' w' hE hs' => ?_).1; exact hQ ρ' a' w' hE hs'
    case loop p =>
      have rounds : Code.rounds P p Q (n + 1) a w := by
        rw [rounds_succ]
        cases hp : exec E n p x with
        | none => rw [hp] at h; cases h
        | some r =>
          obtain ⟨k', z⟩ := r
          rw [hp] at h
          cases k' with
          | n =>
            have hk := exec_kept _ _ _ _ _ h
            refine (ih _ _ _ _ hp (fun q hq => hob q (hk.1 q hq)) ρ a w hs _ fun ρ' a' w' hE hs' => ?_).1
            exact (ih _ _ _ _ h hob ρ' a' w' hs' Q fun ρ'' a'' w'' hE' hs'' => hQ ρ'' a'' w'' (hE.trans hE') hs'').2 p rfl
          | e id => cases h; refine (ih _ _ _ _ hp hob ρ a w hs _ fun ρ' a' w' hE hs' => ?_).1; exact hQ ρ' a' w' hE hs'
          | r => cases h; refine (ih _ _ _ _ hp hob ρ a w hs _ fun ρ' a' w' hE hs' => ?_).1; exact hQ ρ' a' w' hE hs'
      exact ⟨wp_loop_rounds _ rounds, fun q e => by cases e; exact rounds⟩
    case scope p =>
      refine nl (fun _ e => by cases e) (wp_scope_straight (ih _ _ _ _ h hob ρ a w hs _ fun ρ' a' w' hE hs' => ?_).1)
      have := hQ ρ' a' w' hE hs'
      cases k <;> exact this
end

/-! ### functions -/
structure Fn1 where
  body : Code
  results : List ResultVar
  ntmps : Nat
structure FnOk (P : Program) (f : FuncId) (d : Fn1) : Prop where
  ok : ∃ fn, P.funcs[f]? = some fn ∧ fn.body = some d.body ∧ fn.results.toList = d.results ∧ fn.ntmps = d.ntmps ∧ (fn.name == "runtime.NumGoroutine") = false
def padSlots : Nat → Nat → St
  | _, 0 => []
  | t, n + 1 => (2 * t, .sl (.tup [])) :: padSlots (t + 1) n
def initSlots : Nat → List AV → Nat → St
  | t, [], n => padSlots t n
  | t, x :: l, n => (2 * t, .sl (.one x)) :: initSlots (t + 1) l n
def resultOf (tab : TypeId → Option Ty) (st : St) : ResultVar → Option AV
  | .tmp t => match st.slot t with
    | some (.one x) => some x
    | _ => none
  | .cell p ty => match st.slot p, tab ty with
    | some (.one x), some d => match asPtr x with
      | some (id, off) => match st.rblk id with
        | some l => match cut l off (if d.agg then d.size else 1) with
          | some r => some ⟨d.agg, r⟩
          | none => none
        | none => none
      | none => none
    | _, _ => none
def resultsOf (tab : TypeId → Option Ty) (st : St) : List ResultVar → Option (List AV)
  | [] => some []
  | r :: l => match resultOf tab st r, resultsOf tab st l with
    | some x, some xs => some (x :: xs)
    | _, _ => none
def pack : List AV → SV
  | [x] => .one x
  | l => .tup l
/-- The blocks that were handed in and have been written; those that are new. -/
def oldDirty (m st : St) : List Nat → List (Nat × List It)
  | [] => []
  | id :: l => match m.blk id, st.blk id with
    | some _, some b => (id, b) :: oldDirty m st l
    | _, _ => oldDirty m st l
def newDirty (m st : St) : List Nat → List (Nat × List It)
  | [] => []
  | id :: l => match m.blk id, st.blk id with
    | none, some b => (id, b) :: newDirty m st l
    | _, _ => newDirty m st l
def dedup : List Nat → List Nat
  | [] => []
  | x :: l => if l.contains x then dedup l else x :: dedup l
def runFn (tab : TypeId → Option Ty) (call : CallT) (fuel : Nat) (d : Fn1) (args : List AV) (m : St) (nid : Nat) (hints : List (Nat × Bool)) : Option Out :=
  if args.length ≤ d.ntmps ∧ m.all (fun p => p.1 % 2 == 1) = true then
    match exec { tab := tab, call := call, N := d.ntmps } fuel d.body { st := initSlots 0 args (d.ntmps - args.length) ++ m, nid := nid, hints := hints, obs := [], dirty := [] } with
    | some (.e _, _) => none
    | some (_, y) => match resultsOf tab y.st d.results with
      | some rs => some { val := pack rs, wr := oldDirty m y.st (dedup y.dirty), news := newDirty m y.st (dedup y.dirty), ob := y.obs }
      | none => none
    | none => none
  else none

theorem look_append {α : Type} (l m : List (Nat × α)) (k : Nat) : look (l ++ m) k = match look l k with | some v => some v | none => look m k := by
  induction l with
  | nil => rfl
  | cons p l ih =>
    obtain ⟨k', v⟩ := p
    simp only [List.cons_append, look]
    by_cases h : k' = k
    · simp [h]
    · simp [h, ih]
theorem look_initSlots : ∀ (args : List AV) (t n k : Nat) (c : Ct), look (initSlots t args n) k = some c →
    ∃ u, k = 2 * u ∧ t ≤ u ∧ u < t + (args.length + n) ∧ ((∃ y, args[u - t]? = some y ∧ c = .sl (.one y)) ∨ (args.length ≤ u - t ∧ c = .sl (.tup []))) := by
  intro args
  induction args with
  | nil =>
    intro t n
    induction n generalizing t with
    | zero => intro k c h; simp only [initSlots, padSlots, look] at h; cases h
    | succ n ih =>
      intro k c h
      simp only [initSlots, padSlots, look, beq_iff_eq] at h
      split at h
      · rename_i e
        cases h
        exact ⟨t, e.symm, Nat.le_refl _, by simp, .inr ⟨by simp, rfl⟩⟩
      · obtain ⟨u, h1, h2, h3, h4⟩ := ih (t + 1) k c h
        refine ⟨u, h1, by omega, by simp at h3 ⊢; omega, .inr ?_⟩
        rcases h4 with ⟨y, hy, _⟩ | ⟨_, hc⟩
        · simp at hy
        · exact ⟨by simp, hc⟩
  | cons x args ih =>
    intro t n k c h
    simp only [initSlots, look, beq_iff_eq] at h
    split at h
    · rename_i e
      cases h
      exact ⟨t, e.symm, Nat.le_refl _, by simp; omega, .inl ⟨x, by simp, rfl⟩⟩
    · obtain ⟨u, h1, h2, h3, h4⟩ := ih (t + 1) n k c h
      refine ⟨u, h1, by omega, by simp at h3 ⊢; omega, ?_⟩
      have e : u - t = (u - (t + 1)) + 1 := by omega
      rcases h4 with ⟨y, hy, hc⟩ | ⟨hl, hc⟩
      · exact .inl ⟨y, by rw [e, List.getElem?_cons_succ]; exact hy, hc⟩
      · exact .inr ⟨by simp; omega, hc⟩
theorem look_odd {m : St} (hm : m.all (fun p => p.1 % 2 == 1) = true) (t : Nat) : look m (2 * t) = none := by
  induction m with
  | nil => rfl
  | cons p m ih =>
    obtain ⟨k, v⟩ := p
    simp only [List.all_cons, Bool.and_eq_true, beq_iff_eq] at hm
    simp only [look, beq_iff_eq]
    have : ¬ k = 2 * t := by omega
    rw [if_neg this]; exact ih hm.2
theorem blk_init {m : St} {args : List AV} {n id : Nat} : St.blk (initSlots 0 args n ++ m) id = m.blk id := by
  unfold St.blk
  rw [look_append]
  cases h : look (initSlots 0 args n) (2 * id + 1) with
  | none => rfl
  | some c => obtain ⟨u, h1, _⟩ := look_initSlots _ _ _ _ _ h; omega
theorem sim_init {ρ : Rho} {m : St} {w : World} (hM : Mem ρ m w) (hodd : m.all (fun p => p.1 % 2 == 1) = true) {args : List AV} {vs : List Value} (hv : vals ρ args = some vs) {N : Nat} (hN : args.length ≤ N) :
    Sim ρ N (initSlots 0 args (N - args.length) ++ m) { tmps := vs.toArray ++ Array.replicate (N - vs.toArray.size) undef, defers := [] } w := by
  have hlen : vs.length = args.length := by
    clear hM hN
    induction args generalizing vs with
    | nil => cases hv; rfl
    | cons x args ih =>
      simp only [vals] at hv
      split at hv
      · rename_i u us hu hus; cases hv; simp [ih hus]
      · cases hv
  constructor
  · intro t x hx
    unfold St.slot at hx
    rw [look_append, look_odd hodd] at hx
    cases h : look (initSlots 0 args (N - args.length)) (2 * t) with
    | none => rw [h] at hx; cases hx
    | some c =>
      rw [h] at hx
      obtain ⟨u, h1, h2, h3, h4⟩ := look_initSlots _ _ _ _ _ h
      have hu : u = t := by omega
      subst hu
      simp only [Nat.sub_zero] at h4
      rcases h4 with ⟨y, hy, rfl⟩ | ⟨hl, rfl⟩
      · simp only [Option.some.injEq] at hx
        subst hx
        obtain ⟨v, hv1, hv2⟩ := vals_get _ _ _ _ hv hy
        have hlt : u < vs.length := (List.getElem?_eq_some_iff.1 hv2).1
        rw [Array.getD_eq_getD_getElem?, Array.getElem?_append_left (by simpa using hlt)]
        rw [List.getElem?_toArray, hv2]; exact hv1
      · simp only [Option.some.injEq] at hx
        subst hx
        rw [Array.getD_eq_getD_getElem?, Array.getElem?_append_right (by simp; omega)]
        simp only [Array.getElem?_replicate]
        split <;> rfl
  · simp; omega
  · exact ⟨fun id l hl => hM.ok.blk id l (by rw [← blk_init (args := args) (n := N - args.length)]; exact hl)⟩
  · exact hM.inj.congr fun id => blk_init
  · intro id q hq; rw [blk_init]; exact hM.dom id q hq
  · rfl
section
variable {P : Program} {tab : TypeId → Option Ty}
theorem run_loadVar_ok (htab : ∀ t d, tab t = some d → TyOk P t d) {ρ : Rho} {N : Nat} {st : St} {a : Act} {w : World} (hs : Sim ρ N st a w) {t : TypeId} {d : Ty} (ht : tab t = some d) {id off : Nat} {l r : List It} {q : Nat × Nat} (hq : ρ id = some q)
    (hl : st.rblk id = some l) (hr : cut l off (if d.agg then d.size else 1) = some r) : ∃ v, AV.val ρ ⟨d.agg, r⟩ = some v ∧ (loadVar t ⟨q.1, q.2 + off, none⟩).run P w = .ok v w := by
  obtain ⟨i, u, hi, hu, hsz, ha, _⟩ := (htab t d ht).facts
  obtain ⟨happ, hl⟩ := rblk_blk hl
  obtain ⟨b, o', vs, hb, hc, hok⟩ := hs.mem.blk id l hl
  rw [hb] at hq; cases hq
  obtain ⟨hle, hcr⟩ := cut_conc hr hc
  have hcell : ∀ j v, vs[off + j]? = some v → w.cell? ⟨b, o' + off + j, none⟩ = some v := by
    intro j v hj
    obtain ⟨_, hown, hfor, _⟩ := hok
    cases ho : own id with
    | true =>
      obtain ⟨rfl, t', ht'⟩ := hown ho
      rw [cell_of_row w b _ _ t' _ ht', Nat.zero_add]
      simpa using hj
    | false => rw [Nat.add_assoc]; exact hfor ho happ _ _ hj
  simp only [loadVar, Sem.run_bind, run_isAgg hu, Result.andThen_ok, ha]
  cases hg : d.agg with
  | true =>
    rw [hg] at hcr hle
    simp only [if_true] at hcr hle
    have hlen : ((vs.drop off).take d.size).length = d.size := by rw [List.length_take, List.length_drop]; omega
    refine ⟨.agg ((vs.drop off).take d.size).toArray, by simp only [AV.val, hcr], ?_⟩
    simp only [if_true, Sem.run_bind, run_sizeOf' hi, Result.andThen_ok, hsz]
    have := run_loadCells_list (P := P) w ⟨b, o' + off, none⟩ ((vs.drop off).take d.size) (fun j v hv => by
      rw [addr_add]
      refine hcell j v ?_
      rw [List.getElem?_take] at hv
      split at hv
      · rw [List.getElem?_drop] at hv; exact hv
      · cases hv)
    rw [hlen] at this
    rw [this]; rfl
  | false =>
    rw [hg] at hcr hle
    simp only [Bool.false_eq_true, if_false] at hcr hle
    have hlt : off < vs.length := by omega
    have e : (vs.drop off).take 1 = [vs[off]] := by
      rw [List.drop_eq_getElem_cons hlt, List.take_succ_cons, List.take_zero]
    rw [e] at hcr
    refine ⟨vs[off], by simp only [AV.val, hcr], ?_⟩
    have h0 := hcell 0 vs[off] (by simp)
    simp only [Nat.add_zero] at h0
    simp only [Bool.false_eq_true, if_false, run_load, h0]
def resSem (tmps : Array Value) : ResultVar → Sem Value
  | .tmp t => pure (tmps.getD t undef)
  | .cell a t => do loadVar t (← asAddr (tmps.getD a undef))
theorem resultOf_ok (htab : ∀ t d, tab t = some d → TyOk P t d) {ρ : Rho} {N : Nat} {st : St} {a : Act} {w : World} (hs : Sim ρ N st a w) {r : ResultVar} {x : AV} (h : resultOf tab st r = some x) :
    ∃ v, x.val ρ = some v ∧ (resSem a.tmps r).run P w = .ok v w := by
  cases r with
  | tmp t =>
    simp only [resultOf] at h
    split at h
    · rename_i y hy; cases h; exact ⟨_, hs.slots t _ hy, rfl⟩
    · cases h
  | cell p ty =>
    simp only [resultOf] at h
    split at h
    · rename_i y d hy ht
      split at h
      · rename_i id off hp
        split at h
        · rename_i l hl
          split at h
          · rename_i r hr
            cases h
            obtain ⟨q, hq, hv⟩ := asPtr_val hp (hs.slots p _ hy)
            obtain ⟨v, h1, h2⟩ := run_loadVar_ok htab hs ht hq hl hr
            refine ⟨v, h1, ?_⟩
            simp only [resSem, hv, ptr, asAddr, Sem.run_bind, Sem.run_pure, Result.andThen_ok, h2]
          · cases h
        · cases h
      · cases h
    · cases h
theorem resultsOf_ok (htab : ∀ t d, tab t = some d → TyOk P t d) {ρ : Rho} {N : Nat} {st : St} {a : Act} {w : World} (hs : Sim ρ N st a w) : ∀ (l : List ResultVar) (xs : List AV), resultsOf tab st l = some xs →
    ∃ vs, vals ρ xs = some vs ∧ (l.mapM (resSem a.tmps)).run P w = .ok vs w := by
  intro l
  induction l with
  | nil => intro xs h; cases h; exact ⟨[], rfl, rfl⟩
  | cons r l ih =>
    intro xs h
    simp only [resultsOf] at h
    split at h
    · rename_i x ys hx hys
      cases h
      obtain ⟨v, h1, h2⟩ := resultOf_ok htab hs hx
      obtain ⟨vs, h3, h4⟩ := ih ys hys
      exact ⟨v :: vs, by simp only [vals, h1, h3], by simp only [List.mapM_cons, Sem.run_bind, h2, h4, Result.andThen_ok, Sem.run_pure]⟩
    · cases h
theorem pack_val {ρ : Rho} {xs : List AV} {vs : List Value} (h : vals ρ xs = some vs) : (pack xs).val ρ = some (if h : vs.toArray.size = 1 then vs.toArray[0] else .tuple vs.toArray) := by
  cases xs with
  | nil => cases h; rfl
  | cons x xs =>
    simp only [vals] at h
    split at h
    · rename_i v us hv hus
      cases h
      cases xs with
      | nil => cases hus; simpa [pack, SV.val] using hv
      | cons y ys =>
        have hne : ¬ ((v :: us).toArray.size = 1) := by
          simp only [vals] at hus
          split at hus
          · cases hus; simp
          · cases hus
        rw [dif_neg hne]
        have : vals ρ (x :: y :: ys) = some (v :: us) := by
          show (match x.val ρ, vals ρ (y :: ys) with | some v, some vs => some (v :: vs) | _, _ => none) = _
          rw [hv, hus]
        simp only [pack, SV.val, this]
    · cases h
theorem results_ok (htab : ∀ t d, tab t = some d → TyOk P t d) {ρ : Rho} {N : Nat} {st : St} {a : Act} {w : World} (hs : Sim ρ N st a w) {fn : Func} {rs : List ResultVar} (hr : fn.results.toList = rs) {xs : List AV} (h : resultsOf tab st rs = some xs) :
    ∃ v, (pack xs).val ρ = some v ∧ (results fn a.tmps).run P w = .ok v w := by
  obtain ⟨vs, h1, h2⟩ := resultsOf_ok htab hs rs xs h
  refine ⟨_, pack_val h1, ?_⟩
  have e : (fn.results.mapM (resSem a.tmps)).run P w = .ok vs.toArray w := by
    rw [Array.mapM_eq_mapM_toList, Sem.run_map, hr, h2]; rfl
  have e' : results fn a.tmps = (do let vs ← fn.results.mapM (resSem a.tmps); pure (if h : vs.size = 1 then vs[0] else .tuple vs)) := by
    unfold results
    congr 1
  rw [e', Sem.run_bind, e]
  rfl
end
theorem lastB_append (a b : List (Nat × List It)) (id : Nat) : lastB (a ++ b) id = match lastB b id with | some r => some r | none => lastB a id := by
  induction a with
  | nil => cases h : lastB b id <;> simp [lastB, h]
  | cons p a ih =>
    simp only [List.cons_append, lastB, ih]
    cases lastB b id with
    | some r => rfl
    | none => rfl
theorem lastB_old (m st : St) (id : Nat) : ∀ (D : List Nat), lastB (oldDirty m st D) id = if id ∈ D then (match m.blk id, st.blk id with | some _, some b => some b | _, _ => none) else none := by
  intro D
  induction D with
  | nil => rfl
  | cons j D ih =>
    simp only [oldDirty]
    by_cases hj : id = j
    · subst hj
      cases h1 : m.blk id with
      | none =>
        simp only [ih, h1, List.mem_cons, true_or, if_true]
        split <;> rfl
      | some x =>
        cases h2 : st.blk id with
        | none => simp only [ih, h1, h2, List.mem_cons, true_or, if_true]; split <;> rfl
        | some b =>
          simp only [lastB, ih, h1, h2, List.mem_cons, true_or, if_true]
          by_cases hD : id ∈ D <;> simp [hD]
    · have hj' : ¬ j = id := fun e => hj e.symm
      cases h1 : m.blk j with
      | none => simp only [ih, List.mem_cons, hj, false_or]
      | some x =>
        cases h2 : st.blk j with
        | none => simp only [ih, List.mem_cons, hj, false_or]
        | some b =>
          simp only [lastB, ih, List.mem_cons, hj, false_or, hj', if_false]
          split <;> simp_all
theorem lastB_new (m st : St) (id : Nat) : ∀ (D : List Nat), lastB (newDirty m st D) id = if id ∈ D then (match m.blk id, st.blk id with | none, some b => some b | _, _ => none) else none := by
  intro D
  induction D with
  | nil => rfl
  | cons j D ih =>
    simp only [newDirty]
    by_cases hj : id = j
    · subst hj
      cases h1 : m.blk id with
      | some x =>
        simp only [ih, h1, List.mem_cons, true_or, if_true]
        split <;> rfl
      | none =>
        cases h2 : st.blk id with
        | none => simp only [ih, h1, h2, List.mem_cons, true_or, if_true]; split <;> rfl
        | some b =>
          simp only [lastB, ih, h1, h2, List.mem_cons, true_or, if_true]
          by_cases hD : id ∈ D <;> simp [hD]
    · have hj' : ¬ j = id := fun e => hj e.symm
      cases h1 : m.blk j with
      | some x => simp only [ih, List.mem_cons, hj, false_or]
      | none =>
        cases h2 : st.blk j with
        | none => simp only [ih, List.mem_cons, hj, false_or]
        | some b =>
          simp only [lastB, ih, List.mem_cons, hj, false_or, hj', if_false]
          split <;> simp_all
theorem mem_dedup : ∀ (l : List Nat) (x : Nat), x ∈ dedup l ↔ x ∈ l := by
  intro l
  induction l with
  | nil => intro x; exact Iff.rfl
  | cons y l ih =>
    intro x
    simp only [dedup]
    by_cases h : y ∈ l
    · have hc : l.contains y = true := by simpa using h
      rw [if_pos hc, ih]
      constructor
      · intro hx; exact List.mem_cons_of_mem _ hx
      · intro hx
        rcases List.mem_cons.1 hx with rfl | hx
        · exact h
        · exact hx
    · have hc : ¬ l.contains y = true := by simpa using h
      rw [if_neg hc, List.mem_cons, List.mem_cons, ih]
/-- **A FUNCTION's RUN IS SOUND.** -/
theorem runFn_calls {P : Program} (hm : P.follows .mixedOrders = true) {tab : TypeId → Option Ty} (htab : ∀ t d, tab t = some d → TyOk P t d) {call : CallT} (hcall : CallOk P call) {fuel : Nat} {f : FuncId} {d : Fn1} (hf : FnOk P f d)
    {args : List AV} {m : St} {nid : Nat} {hints : List (Nat × Bool)} {out : Out} (h : runFn tab call fuel d args m nid hints = some out) (hob : ∀ p ∈ out.ob, p) {ρ : Rho} {w : World} {vs : List Value} (hv : vals ρ args = some vs) (hM : Mem ρ m w) :
    Calls P f vs.toArray w fun e w' => ∃ v, e = .returned v ∧ ∃ ρ', Ext ρ w ρ' w' ∧ out.val.val ρ' = some v ∧ Mem ρ' (puts m (blkW (out.wr ++ out.news))) w' := by
  obtain ⟨fn, hfn, hbody, hres, hnt, _⟩ := hf.ok
  unfold runFn at h
  split at h
  · rename_i hc
    -- what comes of the run's two good ends
    have fin : ∀ (k : Xk) (y : Xs), exec { tab := tab, call := call, N := d.ntmps } fuel d.body { st := initSlots 0 args (d.ntmps - args.length) ++ m, nid := nid, hints := hints, obs := [], dirty := [] } = some (k, y) →
        (k.exit = .normal ∨ k.exit = .ret) → ∀ rs, resultsOf tab y.st d.results = some rs → out = { val := pack rs, wr := oldDirty m y.st (dedup y.dirty), news := newDirty m y.st (dedup y.dirty), ob := y.obs } →
        Calls P f vs.toArray w fun e w' => ∃ v, e = .returned v ∧ ∃ ρ', Ext ρ w ρ' w' ∧ out.val.val ρ' = some v ∧ Mem ρ' (puts m (blkW (out.wr ++ out.news))) w' := by
      intro k y hx hk rs hrs hout
      subst hout
      refine calls_of_wp hfn hbody ?_
      have hkept := exec_kept _ _ _ _ _ hx
      rw [hnt]
      refine (exec_wp (E := { tab := tab, call := call, N := d.ntmps }) hm htab hcall _ _ _ _ _ hx hob ρ _ w (sim_init hM hc.2 hv hc.1) _ fun ρ' a' w' hE hs' => ?_).1
      obtain ⟨v, hv1, hv2⟩ := results_ok htab hs' hres hrs
      have hblk : ∀ id, St.blk (puts m (blkW (oldDirty m y.st (dedup y.dirty) ++ newDirty m y.st (dedup y.dirty)))) id = y.st.blk id := by
        intro id
        rw [blk_blkW, lastB_append, lastB_old, lastB_new]
        have hsome : ∀ l, m.blk id = some l → ∃ l', y.st.blk id = some l' := by
          intro l hl
          obtain ⟨b, o, us, h1, _⟩ := hM.ok.blk id l hl
          exact hs'.dom id _ (hE.le id _ h1)
        by_cases hd : id ∈ dedup y.dirty
        · simp only [hd, if_true]
          cases h1 : m.blk id with
          | none =>
            cases h2 : y.st.blk id with
            | none => rfl
            | some b => rfl
          | some l =>
            obtain ⟨l', hl'⟩ := hsome l h1
            simp only [hl']
        · simp only [hd, if_false]
          have := hkept.2.2 id (fun hh => hd ((mem_dedup _ _).2 hh))
          rw [this, blk_init]
      have hmem : Mem ρ' (puts m (blkW (oldDirty m y.st (dedup y.dirty) ++ newDirty m y.st (dedup y.dirty)))) w' :=
        ⟨⟨fun id l hl => hs'.mem.blk id l (by rw [← hblk]; exact hl)⟩, hs'.inj.congr hblk, fun id q hq => by rw [hblk]; exact hs'.dom id q hq⟩
      have hgood : a'.defers = [] ∧ ∃ u, (results fn a'.tmps).run P w' = .ok u w' ∧ ∃ v, (Ending.returned u) = .returned v ∧ ∃ ρ', Ext ρ w ρ' w' ∧ (pack rs).val ρ' = some v ∧ Mem ρ' (puts m (blkW (oldDirty m y.st (dedup y.dirty) ++ newDirty m y.st (dedup y.dirty)))) w' :=
        ⟨hs'.calm, v, hv2, v, rfl, ρ', hE, hv1, hmem⟩
      rcases hk with hk | hk <;> (rw [hk]; exact hgood)
    split at h
    · cases h
    · rename_i k y hne hx
      split at h
      · rename_i rs hrs
        cases h
        refine fin k y hx ?_ rs hrs rfl
        cases k with
        | n => exact .inl rfl
        | e id => exact absurd rfl (hne id)
        | r => exact .inr rfl
      · cases h
    · cases h
  · cases h
theorem FnOk.enter {P : Program} {f : FuncId} {d : Fn1} (hf : FnOk P f d) (args : Array Value) (w : World) : (callFunc f args).run P w = .ok (.enter f args) w := by
  obtain ⟨fn, hfn, hbody, _, _, hname⟩ := hf.ok
  have h1 : fn.name ≠ "runtime.NumGoroutine" := by simpa using hname
  simp [callFunc, hfn, h1, hbody]
/-- Calls within calls: by the table, or by running the callee's body, to a depth. -/
def callN (tab : TypeId → Option Ty) (T : CallT) (fns : FuncId → Option Fn1) (fuel : Nat) : Nat → CallT
  | 0 => T
  | n + 1 => fun f args m nid => match T f args m nid with
    | some out => some out
    | none => match fns f with
      | some d => runFn tab (callN tab T fns fuel n) fuel d args m (nid * 1048576) []
      | none => none
theorem callN_ok {P : Program} (hm : P.follows .mixedOrders = true) {tab : TypeId → Option Ty} (htab : ∀ t d, tab t = some d → TyOk P t d) {T : CallT} (hT : CallOk P T) {fns : FuncId → Option Fn1} (hfns : ∀ f d, fns f = some d → FnOk P f d) (fuel : Nat) :
    ∀ n, CallOk P (callN tab T fns fuel n) := by
  intro n
  induction n with
  | zero => exact hT
  | succ n ih =>
    intro f args m nid out h hob ρ w vs hv hM hnew
    simp only [callN] at h
    split at h
    · rename_i o ho; cases h; exact hT f args m nid _ ho hob ρ w vs hv hM hnew
    · split at h
      · rename_i d hd
        exact .inr ⟨(hfns f d hd).enter _ _, runFn_calls hm htab ih (hfns f d hd) h hob hv hM⟩
      · cases h
/-- Calls within calls, with hints for each function. -/
def callH (tab : TypeId → Option Ty) (T : CallT) (fns : FuncId → Option Fn1) (fuel : Nat) (hf : FuncId → List (Nat × Bool)) : Nat → CallT
  | 0 => T
  | n + 1 => fun f args m nid => match T f args m nid with
    | some out => some out
    | none => match fns f with
      | some d => runFn tab (callH tab T fns fuel hf n) fuel d args m (nid * 1048576) (hf f)
      | none => none
theorem callH_ok {P : Program} (hm : P.follows .mixedOrders = true) {tab : TypeId → Option Ty} (htab : ∀ t d, tab t = some d → TyOk P t d) {T : CallT} (hT : CallOk P T) {fns : FuncId → Option Fn1} (hfns : ∀ f d, fns f = some d → FnOk P f d) (fuel : Nat) (hf : FuncId → List (Nat × Bool)) :
    ∀ n, CallOk P (callH tab T fns fuel hf n) := by
  intro n
  induction n with
  | zero => exact hT
  | succ n ih =>
    intro f args m nid out h hob ρ w vs hv hM hnew
    simp only [callH] at h
    split at h
    · rename_i o ho; cases h; exact hT f args m nid _ ho hob ρ w vs hv hM hnew
    · split at h
      · rename_i d hd
        exact .inr ⟨(hfns f d hd).enter _ _, runFn_calls hm htab ih (hfns f d hd) h hob hv hM⟩
      · cases h
end Go.Eng
/-
  THE ENGINE, part K: what a run leaves, forgotten in part; loops by an invariant; tables of contracts.
-/
namespace Go.Eng
open Go Go.RowKit

/-- The frame and the world stand for the state, and the world has come from w0 in good order. -/
def At (N : Nat) (ρ0 : Rho) (w0 : World) (st : St) (a : Act) (w : World) : Prop := ∃ ρ, Ext ρ0 w0 ρ w ∧ Sim ρ N st a w
theorem At.exec {P : Program} {E : Eng} (hm : P.follows .mixedOrders = true) (htab : ∀ t d, E.tab t = some d → TyOk P t d) (hcall : CallOk P E.call) {n : Nat} {c : Code} {x : Xs} {k : Xk} {y : Xs} (h : exec E n c x = some (k, y)) (hob : ∀ q ∈ y.obs, q)
    {ρ0 : Rho} {w0 : World} {a : Act} {w : World} (hA : At E.N ρ0 w0 x.st a w) {Q : Exit → Act → World → Prop} (hQ : ∀ a' w', At E.N ρ0 w0 y.st a' w' → Q k.exit a' w') : c.wp P Q a w := by
  obtain ⟨ρ, hE, hs⟩ := hA
  exact (exec_wp hm htab hcall n c x k y h hob ρ a w hs Q fun ρ' a' w' hE' hs' => hQ a' w' ⟨ρ', hE.trans hE', hs'⟩).1

/-! ### forgetting -/
def idsSV : SV → List Nat
  | .one x => idsIt x.its
  | .tup l => idsAV l
def idsCt : Ct → List Nat
  | .sl x => idsSV x
  | .bl l => idsIt l
def keepsB (st : St) (keep : List Nat) : Bool := (blkIds st).all (fun id => keep.contains id) && st.all fun p => (idsCt p.2).all fun id => keep.contains id
theorem SV.val_on {ρ ρ' : Rho} {x : SV} {v : Value} (hon : ∀ id ∈ idsSV x, ∀ q, ρ id = some q → ρ' id = some q) (h : x.val ρ = some v) : x.val ρ' = some v := by
  cases x with
  | one x => exact AV.val_on hon h
  | tup l =>
    simp only [SV.val] at h ⊢
    split at h
    · rename_i vs hvs; rw [vals_on l vs hon hvs]; exact h
    · cases h
theorem look_mem' {α : Type} : ∀ (l : List (Nat × α)) (k : Nat) (v : α), look l k = some v → (k, v) ∈ l := by
  intro l
  induction l with
  | nil => intro k v h; cases h
  | cons p l ih =>
    intro k v h
    obtain ⟨k', v'⟩ := p
    simp only [look, beq_iff_eq] at h
    split at h
    · rename_i e; cases h; subst e; exact List.mem_cons_self
    · exact List.mem_cons_of_mem _ (ih k v h)
/-- Less is told of the same frame and world: the slots and blocks of st', which st has as well; what st' names, it has. -/
theorem At.forget {N : Nat} {ρ0 : Rho} {w0 : World} {st st' : St} {a : Act} {w : World} (h : At N ρ0 w0 st a w) (keep : List Nat) (h1 : ∀ k c, look st' k = some c → look st k = some c) (h2 : ∀ id ∈ keep, ∃ l, st'.blk id = some l)
    (h3 : keepsB st' keep = true) (h4 : ∀ id q, ρ0 id = some q → id ∈ keep) : At N ρ0 w0 st' a w := by
  obtain ⟨ρ, hE, hs⟩ := h
  simp only [keepsB, Bool.and_eq_true, List.all_eq_true, List.contains_eq_mem, decide_eq_true_eq] at h3
  have on : ∀ id q, ρ id = some q → id ∈ keep → (fun id => if id ∈ keep then ρ id else none) id = some q := fun id q hq hk => by simp only [hk, if_true, hq]
  have sub : ∀ id q, (fun id => if id ∈ keep then ρ id else none) id = some q → ρ id = some q ∧ id ∈ keep := by
    intro id q hq
    simp only at hq
    split at hq
    · rename_i hk; exact ⟨hq, hk⟩
    · cases hq
  refine ⟨fun id => if id ∈ keep then ρ id else none, ⟨fun id q hq => on id q (hE.le id q hq) (h4 id q hq), fun id b o h0 hq => hE.new id b o h0 (sub _ _ hq).1, hE.keep⟩, ?_⟩
  constructor
  · intro t x hx
    unfold St.slot at hx
    split at hx
    · rename_i y hy
      cases hx
      refine SV.val_on (fun id hid q hq => on id q hq (h3.2 _ (look_mem' _ _ _ hy) id hid)) (hs.slots t x ?_)
      unfold St.slot
      rw [h1 _ _ hy]
    · cases hx
  · exact hs.size
  · constructor
    intro id l hl
    unfold St.blk at hl
    split at hl
    · rename_i m hm
      cases hl
      have hb : st.blk id = some l := by unfold St.blk; rw [h1 _ _ hm]
      obtain ⟨b, o, vs, e1, e2, e3⟩ := hs.mem.blk id l hb
      have hid : id ∈ keep := h3.1 id (by
        unfold blkIds
        rw [List.mem_filterMap]
        refine ⟨_, look_mem' _ _ _ hm, ?_⟩
        simp only
        rw [if_pos (by omega)]
        congr 1; omega)
      exact ⟨b, o, vs, on id _ e1 hid, conc_on l vs (fun j hj q hq => on j q hq (h3.2 _ (look_mem' _ _ _ hm) j hj)) e2, e3⟩
    · cases hl
  · have hb : ∀ id l, St.blk st' id = some l → st.blk id = some l := by
      intro id l hl
      unfold St.blk at hl
      split at hl
      · rename_i m hm
        cases hl
        unfold St.blk; rw [h1 _ _ hm]
      · cases hl
    exact ⟨fun id id' b o o' l l' ho m1 m2 l1 l2 e1 e2 => hs.inj.inj id id' b o o' l l' ho (hb _ _ m1) (hb _ _ m2) l1 l2 (sub _ _ e1).1 (sub _ _ e2).1⟩
  · intro id q hq; exact h2 id (sub _ _ hq).2
  · exact hs.calm

/-! ### loops -/
theorem loop_rule {P : Program} {N : Nat} {ρ0 : Rho} {w0 : World} {body : Code} {Q : Exit → Act → World → Prop} {ι : Type} (Inv : ι → Prop) (x : ι → St) (μ : ι → Nat)
    (h : ∀ i, Inv i → ∀ a w, At N ρ0 w0 (x i) a w → body.wp P (Exit.then (fun a' w' => ∃ i', Inv i' ∧ μ i' < μ i ∧ At N ρ0 w0 (x i') a' w') Q) a w) :
    ∀ i, Inv i → ∀ a w, At N ρ0 w0 (x i) a w → (Code.loop body).wp P Q a w := by
  have key : ∀ n i, μ i < n → Inv i → ∀ a w, At N ρ0 w0 (x i) a w → Code.rounds P body Q n a w := by
    intro n
    induction n with
    | zero => intro i hi; omega
    | succ n ih =>
      intro i hi hI a w hA
      rw [rounds_succ]
      refine wp_mono (h i hI a w hA) fun e a' w' hq => ?_
      cases e with
      | normal => obtain ⟨i', h1, h2, h3⟩ := hq; exact ih i' (by omega) h1 a' w' h3
      | _ => exact hq
  intro i hI a w hA
  exact wp_loop_rounds (μ i + 1) (key _ i (by omega) hI a w hA)

/-! ### a function that only computes -/
/-- Called with these values the function hands back v, and of what was there before nothing has turned. -/
def Pure (P : Program) (f : FuncId) (args : List Value) (v : Value) : Prop := ∀ w, Invoked P f args.toArray w fun u w' => u = v ∧ Below w.heap.size w w'
/-- A row of a table: for some arguments the answer and what is owed. -/
structure Row where
  f : FuncId
  ans : List AV → Option (SV × List Prop)
def RowOk (P : Program) (r : Row) : Prop := ∀ (args : List AV) (s : SV) (ob : List Prop), r.ans args = some (s, ob) → (∀ p ∈ ob, p) → ∀ (ρ : Rho) (vs : List Value), vals ρ args = some vs → ∃ v, s.val rho0 = some v ∧ Pure P r.f vs v
def findRow : List Row → FuncId → List AV → Option (SV × List Prop)
  | [], _, _ => none
  | r :: l, f, args => if r.f == f then r.ans args else findRow l f args
/-- The calls of a table. -/
def tableT (l : List Row) : CallT := fun f args _ _ => match findRow l f args with
  | some (s, ob) => some { val := s, wr := [], news := [], ob := ob }
  | none => none
theorem findRow_spec : ∀ (l : List Row) (f : FuncId) (args : List AV) (s : SV) (ob : List Prop), findRow l f args = some (s, ob) → ∃ r ∈ l, r.f = f ∧ r.ans args = some (s, ob) := by
  intro l
  induction l with
  | nil => intro f args s ob h; cases h
  | cons r l ih =>
    intro f args s ob h
    simp only [findRow, beq_iff_eq] at h
    split at h
    · rename_i e; exact ⟨r, by simp, e, h⟩
    · obtain ⟨r', h1, h2⟩ := ih f args s ob h; exact ⟨r', by simp [h1], h2⟩
theorem Ext.of_below {ρ : Rho} {w w' : World} (h : Below w.heap.size w w') : Ext ρ w ρ w' :=
  ⟨.refl ρ, fun id b o h h' => (by rw [h] at h'; cases h'), h.os, h.tape, h.output, h.size, fun k hk _ => h.block k hk⟩
theorem Mem.of_below {ρ : Rho} {m : St} {w w' : World} (hM : Mem ρ m w) (h : Below w.heap.size w w') : Mem ρ m w' :=
  ⟨⟨fun id l hl => by obtain ⟨b, o, vs, h1, h2, h3⟩ := hM.ok.blk id l hl; exact ⟨b, o, vs, h1, h2, h3.of_kept h.size (h.block b h3.1)⟩⟩, hM.inj, hM.dom⟩
theorem tableT_ok {P : Program} {l : List Row} (h : ∀ r ∈ l, RowOk P r) : CallOk P (tableT l) := by
  intro f args m nid out hout hob ρ w vs hv hM hnew
  unfold tableT at hout
  split at hout
  · rename_i s ob hr
    cases hout
    obtain ⟨r, hr1, rfl, hr3⟩ := findRow_spec _ _ _ _ _ hr
    obtain ⟨v, hv1, hp⟩ := h r hr1 args s ob hr3 hob ρ vs hv
    refine (hp w).mono ?_
    rintro u w' ⟨rfl, hb⟩
    exact ⟨ρ, Ext.of_below hb, SV.val_le (rho0_le ρ) _ _ hv1, hM.of_below hb⟩
  · cases hout
/-- One table behind another. -/
def orT (a b : CallT) : CallT := fun f args m nid => match a f args m nid with
  | some out => some out
  | none => b f args m nid
theorem orT_ok {P : Program} {a b : CallT} (ha : CallOk P a) (hb : CallOk P b) : CallOk P (orT a b) := by
  intro f args m nid out hout
  unfold orT at hout
  split at hout
  · rename_i o ho; cases hout; exact ha f args m nid _ ho
  · exact hb f args m nid out hout

theorem mem_rho0 (w : World) : Mem rho0 [] w := ⟨⟨fun id l h => by cases h⟩, ⟨fun id id' b o o' l l' _ h => by cases h⟩, fun id q h => by cases h⟩
/-- A run gives a contract. -/
theorem pure_of_run {P : Program} (hm : P.follows .mixedOrders = true) {tab : TypeId → Option Ty} (htab : ∀ t d, tab t = some d → TyOk P t d) {call : CallT} (hcall : CallOk P call) {fuel : Nat} {f : FuncId} {d : Fn1} (hf : FnOk P f d)
    {args : List AV} {nid : Nat} {hints : List (Nat × Bool)} {out : Out} (h : runFn tab call fuel d args [] nid hints = some out) (hob : ∀ p ∈ out.ob, p) {vs : List Value} (hv : vals rho0 args = some vs) {v : Value} (hval : ∀ ρ u, out.val.val ρ = some u → u = v) :
    Pure P f vs v := by
  intro w
  refine .inr ⟨hf.enter _ _, (runFn_calls hm htab hcall hf h hob hv (mem_rho0 w)).mono ?_⟩
  rintro e w' ⟨u, rfl, ρ', hE, hu, _⟩
  exact ⟨u, rfl, hval ρ' u hu, hE.below fun b ⟨id, _, _, hq⟩ => by cases hq⟩
end Go.Eng
/-
  THE ENGINE, part L: a run told by its ends; pieces of code.
-/
namespace Go.Eng
open Go Go.RowKit

def Xk.code : Xk → Nat
  | .n => 0
  | .e id => id + 2
  | .r => 1
def exitOf : Nat → Exit
  | 0 => .normal
  | 1 => .ret
  | n + 2 => .exit n
theorem exit_code (k : Xk) : exitOf k.code = k.exit := by cases k <;> rfl
/-- A run of a piece of code: how it ends, what is owed, what some keys hold then. -/
def probe (E : Eng) (n : Nat) (c : Code) (st : St) (nid : Nat) (hints : List (Nat × Bool)) (ks : List Nat) : Option (Nat × List Prop × List (Option Ct)) :=
  match exec E n c { st := st, nid := nid, hints := hints, obs := [], dirty := [] } with
  | some (k, y) => some (k.code, y.obs, ks.map (look y.st))
  | none => none
def seqL : Code → Code
  | .seq a _ => a
  | c => c
def seqR : Code → Code
  | .seq _ b => b
  | c => c
def blockIn : Code → Code
  | .block _ b => b
  | c => c
def loopIn : Code → Code
  | .loop b => b
  | c => c
theorem look_some_mem {α : Type} {l : List (Nat × α)} {k : Nat} {v : α} (h : look l k = some v) : (k, v) ∈ l := look_mem' l k v h
/-- The piece is run; what is told of its end is told of the state 'canon'. -/
theorem At.probe {P : Program} {E : Eng} (hm : P.follows .mixedOrders = true) (htab : ∀ t d, E.tab t = some d → TyOk P t d) (hcall : CallOk P E.call) {n : Nat} {c : Code} {st : St} {nid : Nat} {hints : List (Nat × Bool)} {canon : St} {kc : Nat} {ob : List Prop}
    (h : Eng.probe E n c st nid hints (canon.map (·.1)) = some (kc, ob, canon.map fun p => some p.2)) (hob : ∀ q ∈ ob, q)
    {ρ0 : Rho} {w0 : World} {a : Act} {w : World} (hA : At E.N ρ0 w0 st a w) (keep : List Nat) (h2 : ∀ id ∈ keep, ∃ l, canon.blk id = some l) (h3 : keepsB canon keep = true) (h4 : ∀ id q, ρ0 id = some q → id ∈ keep)
    {Q : Exit → Act → World → Prop} (hQ : ∀ a' w', At E.N ρ0 w0 canon a' w' → Q (exitOf kc) a' w') : c.wp P Q a w := by
  unfold Eng.probe at h
  split at h
  · rename_i k y hx
    simp only [Option.some.injEq, Prod.mk.injEq] at h
    obtain ⟨h5, h6, h7⟩ := h
    subst h6
    refine At.exec (x := { st := st, nid := nid, hints := hints, obs := [], dirty := [] }) hm htab hcall hx hob hA fun a' w' hA' => ?_
    rw [← exit_code, h5]
    refine hQ a' w' (hA'.forget keep (fun j v hj => ?_) h2 h3 h4)
    have hmem := look_some_mem hj
    have : ∀ (l : St), l.map (fun p => look y.st p.1) = l.map (fun p => some p.2) → ∀ p ∈ l, look y.st p.1 = some p.2 := by
      intro l
      induction l with
      | nil => intro _ p hp; cases hp
      | cons q l ih =>
        intro hl p hp
        simp only [List.map_cons, List.cons.injEq] at hl
        rcases List.mem_cons.1 hp with rfl | hp
        · exact hl.1
        · exact ih hl.2 p hp
    rw [List.map_map] at h7
    exact this canon h7 _ hmem
  · cases h
/-- Nothing of the caller's is told: the state at a function's head. -/
theorem At.begin {ρ : Rho} {m : St} {w : World} (hM : Mem ρ m w) (hodd : m.all (fun p => p.1 % 2 == 1) = true) {args : List AV} {vs : List Value} (hv : vals ρ args = some vs) {N : Nat} (hN : args.length ≤ N) :
    At N ρ w (initSlots 0 args (N - args.length) ++ m) { tmps := vs.toArray ++ Array.replicate (N - vs.toArray.size) undef, defers := [] } w :=
  ⟨ρ, .refl ρ w, sim_init hM hodd hv hN⟩
/-- Cells that stand for the same values, told otherwise. -/
def SameCt (c c' : Ct) : Prop := match c, c' with
  | .sl x, .sl y => ∀ ρ v, x.val ρ = some v → y.val ρ = some v
  | .bl l, .bl m => ∀ ρ vs, conc ρ l = some vs → conc ρ m = some vs
  | _, _ => False
theorem SameCt.refl (c : Ct) : SameCt c c := by cases c with
  | sl x => exact fun ρ v h => h
  | bl l => exact fun ρ vs h => h
theorem At.same {N : Nat} {ρ0 : Rho} {w0 : World} {st st' : St} {a : Act} {w : World} (h : At N ρ0 w0 st a w) (hs : ∀ k, match look st k, look st' k with | some c, some c' => SameCt c c' | none, none => True | _, _ => False) : At N ρ0 w0 st' a w := by
  obtain ⟨ρ, hE, hsim⟩ := h
  have slot : ∀ t y, st'.slot t = some y → ∃ x, st.slot t = some x ∧ ∀ ρ v, x.val ρ = some v → y.val ρ = some v := by
    intro t y hy
    have := hs (2 * t)
    unfold St.slot at hy ⊢
    cases h1 : look st (2 * t) with
    | none => cases h2 : look st' (2 * t) with
      | none => rw [h2] at hy; cases hy
      | some c => rw [h1, h2] at this; exact this.elim
    | some c => cases h2 : look st' (2 * t) with
      | none => rw [h2] at hy; cases hy
      | some c' =>
        rw [h1, h2] at this
        cases c' with
        | bl l => rw [h2] at hy; cases hy
        | sl z =>
          rw [h2] at hy
          cases hy
          cases c with
          | bl l => exact this.elim
          | sl x => exact ⟨x, rfl, this⟩
  have blk : ∀ id m, st'.blk id = some m → ∃ l, st.blk id = some l ∧ ∀ ρ vs, conc ρ l = some vs → conc ρ m = some vs := by
    intro id m hy
    have := hs (2 * id + 1)
    unfold St.blk at hy ⊢
    cases h1 : look st (2 * id + 1) with
    | none => cases h2 : look st' (2 * id + 1) with
      | none => rw [h2] at hy; cases hy
      | some c => rw [h1, h2] at this; exact this.elim
    | some c => cases h2 : look st' (2 * id + 1) with
      | none => rw [h2] at hy; cases hy
      | some c' =>
        rw [h1, h2] at this
        cases c' with
        | sl z => rw [h2] at hy; cases hy
        | bl m' =>
          rw [h2] at hy
          cases hy
          cases c with
          | sl x => exact this.elim
          | bl l => exact ⟨l, rfl, this⟩
  have live : ∀ id m, st'.blk id = some m → Live id m → ∃ l, st.blk id = some l ∧ Live id l := by
    intro id m hm hlv
    obtain ⟨l, h1, h2⟩ := blk id m hm
    refine ⟨l, h1, hlv.elim .inl fun hsz => .inr ?_⟩
    obtain ⟨b, o, vs, e1, e2, e3⟩ := hsim.mem.blk id l h1
    rw [← length_conc _ _ e2, length_conc _ _ (h2 _ _ e2)]
    exact hsz
  refine ⟨ρ, hE, ⟨fun t y hy => ?_, hsim.size, ⟨fun id m hm => ?_⟩, ⟨fun i i' c o o' l l' ho m1 m2 l1 l2 h1 h2 => ?_⟩, fun id q hq => ?_, hsim.calm⟩⟩
  · obtain ⟨x, h1, h2⟩ := slot t y hy
    exact h2 _ _ (hsim.slots t x h1)
  · obtain ⟨l, h1, h2⟩ := blk id m hm
    obtain ⟨b, o, vs, e1, e2, e3⟩ := hsim.mem.blk id l h1
    exact ⟨b, o, vs, e1, h2 _ _ e2, e3⟩
  · obtain ⟨k0, a1, a2⟩ := live i l m1 l1
    obtain ⟨k0', a3, a4⟩ := live i' l' m2 l2
    exact hsim.inj.inj i i' c o o' k0 k0' ho a1 a3 a2 a4 h1 h2
  · obtain ⟨l, hl⟩ := hsim.dom id q hq
    have := hs (2 * id + 1)
    unfold St.blk at hl ⊢
    cases h1 : look st (2 * id + 1) with
    | none => rw [h1] at hl; cases hl
    | some c => cases h2 : look st' (2 * id + 1) with
      | none => rw [h1, h2] at this; exact this.elim
      | some c' =>
        rw [h1, h2] at this
        cases c with
        | sl x => rw [h1] at hl; cases hl
        | bl l' => cases c' with
          | sl z => exact this.elim
          | bl m => exact ⟨m, rfl⟩
end Go.Eng
/-
  THE ENGINE, part M: functions that take two pointers to blocks of the caller's own: a contract that names no numbers of blocks.
-/
namespace Go.Eng
open Go Go.RowKit

/-- Block b holds these cells. -/
def Holds (w : World) (b : Nat) (vs : List Value) : Prop := ∃ t, w.heap[b]? = some (.cells vs.toArray t (0, 0))
/-- Called with two blocks that hold va and vb, the function hands back r, the blocks hold va' and vb' then, and nothing else has turned. -/
def Two (P : Program) (f : FuncId) (args : List Value) (b1 b2 : Nat) (va vb va' vb' : List Value) (r : Value) : Prop :=
  ∀ w, Holds w b1 va → Holds w b2 vb → Invoked P f args.toArray w fun v w' => v = r ∧ Holds w' b1 va' ∧ Holds w' b2 vb' ∧ Keep (fun b => b = b1 ∨ b = b2) w w'
def rho2 (b1 b2 : Nat) : Rho := fun id => if id = 16 then some (b1, 0) else if id = 17 then some (b2, 0) else none
def mem2 (A B : List It) : St := [(33, .bl A), (35, .bl B)]
theorem lt_of_holds {w : World} {b : Nat} {vs : List Value} (h : Holds w b vs) : b < w.heap.size := by
  obtain ⟨t, h⟩ := h
  exact (Array.getElem?_eq_some_iff.1 h).1
theorem blk_mem2 (A B : List It) (id : Nat) : (mem2 A B).blk id = if id = 16 then some A else if id = 17 then some B else none := by
  unfold St.blk mem2
  simp only [look, beq_iff_eq]
  by_cases h1 : id = 16
  · subst h1; rfl
  · by_cases h2 : id = 17
    · subst h2; rfl
    · have e1 : ¬ 33 = 2 * id + 1 := by omega
      have e2 : ¬ 35 = 2 * id + 1 := by omega
      simp only [e1, e2, h1, h2, if_false]
theorem mem_rho2 {w : World} {b1 b2 : Nat} (hne : b1 ≠ b2) {va vb : List Value} (h1 : Holds w b1 va) (h2 : Holds w b2 vb) {A B : List It} (hA : conc (rho2 b1 b2) A = some va) (hB : conc (rho2 b1 b2) B = some vb) : Mem (rho2 b1 b2) (mem2 A B) w := by
  refine ⟨⟨fun id l hl => ?_⟩, ⟨fun id id' b o o' l l' _ _ _ _ _ e1 e2 => ?_⟩, fun id q hq => ?_⟩
  · rw [blk_mem2] at hl
    split at hl
    · rename_i e; cases hl; subst e
      exact ⟨b1, 0, va, by simp [rho2], hA, lt_of_holds h1, fun _ => ⟨rfl, h1⟩, fun h => by simp [own] at h, fun h => by simp [app] at h⟩
    · split at hl
      · rename_i e; cases hl; subst e
        exact ⟨b2, 0, vb, by simp [rho2], hB, lt_of_holds h2, fun _ => ⟨rfl, h2⟩, fun h => by simp [own] at h, fun h => by simp [app] at h⟩
      · cases hl
  · unfold rho2 at e1 e2
    split at e1
    · rename_i a; split at e2
      · rename_i c; rw [a, c]
      · split at e2
        · cases e1; cases e2; exact absurd rfl hne
        · cases e2
    · split at e1
      · rename_i a; split at e2
        · cases e1; cases e2; exact absurd rfl hne
        · split at e2
          · rename_i c; rw [a, c]
          · cases e2
      · cases e1
  · rw [blk_mem2]
    unfold rho2 at hq
    split at hq
    · rename_i e; exact ⟨A, if_pos e⟩
    · rename_i e
      split at hq
      · rename_i e'; exact ⟨B, by rw [if_neg e, if_pos e']⟩
      · cases hq
/-- What a run that began with two such blocks leaves. -/
theorem two_of_mem {P : Program} {f : FuncId} {args : List Value} {b1 b2 : Nat} {va vb va' vb' : List Value} {r : Value} (hne : b1 ≠ b2) {A B A' B' : List It} (hA : conc (rho2 b1 b2) A = some va) (hB : conc (rho2 b1 b2) B = some vb)
    (hA' : ∀ ρ us, conc ρ A' = some us → us = va') (hB' : ∀ ρ us, conc ρ B' = some us → us = vb')
    (h : ∀ w, Mem (rho2 b1 b2) (mem2 A B) w → Invoked P f args.toArray w fun v w' => v = r ∧ ∃ ρ st, Ext (rho2 b1 b2) w ρ w' ∧ MemOk ρ (St.blk st) w' ∧ st.blk 16 = some A' ∧ st.blk 17 = some B') : Two P f args b1 b2 va vb va' vb' r := by
  intro w h1 h2
  refine (h w (mem_rho2 hne h1 h2 hA hB)).mono ?_
  rintro v w' ⟨hv, ρ, st, hE, hM, s1, s2⟩
  have get : ∀ {id b : Nat} {l : List It} {us : List Value}, own id = true → rho2 b1 b2 id = some (b, 0) → st.blk id = some l → (∀ ρ us', conc ρ l = some us' → us' = us) → Holds w' b us := by
    intro id b l us ho hq hl hu
    obtain ⟨b', o, us', e1, e2, _, e4, _⟩ := hM.blk id l hl
    rw [hE.le id _ hq] at e1
    cases e1
    rw [← hu _ _ e2]
    exact (e4 ho).2
  refine ⟨hv, get (id := 16) rfl (by simp [rho2]) s1 hA', get (id := 17) rfl (by simp [rho2]) s2 hB', ?_⟩
  refine ⟨hE.keep.os, hE.keep.tape, hE.keep.output, hE.keep.size, fun k hk hD => hE.keep.block k hk ?_⟩
  rintro ⟨id, _, _, hq⟩
  unfold rho2 at hq
  split at hq
  · cases hq; exact hD (.inl rfl)
  · split at hq
    · cases hq; exact hD (.inr rfl)
    · cases hq
/-- Such a function in a table: blocks a and b of the caller's. -/
theorem two_call {P : Program} {f : FuncId} {ρ : Rho} {m : St} {w : World} (hM : Mem ρ m w) {a b : Nat} (hab : a ≠ b) (ha : own a = true) (hb : own b = true) {A B A' B' : List It} (hmA : m.blk a = some A) (hmB : m.blk b = some B)
    {args : Nat × Nat → Nat × Nat → List Value} {va vb va' vb' : List Value} {r : Value} (hA : ∀ ρ us, conc ρ A = some us → us = va) (hB : ∀ ρ us, conc ρ B = some us → us = vb) (hA' : ∀ ρ, conc ρ A' = some va') (hB' : ∀ ρ, conc ρ B' = some vb')
    (h : ∀ b1 b2, b1 ≠ b2 → Two P f (args (b1, 0) (b2, 0)) b1 b2 va vb va' vb' r) {vs : List Value} (hvs : ∀ q1 q2, ρ a = some q1 → ρ b = some q2 → vs = args q1 q2) {s : SV} (hs : s.val rho0 = some r) :
    Invoked P f vs.toArray w fun v w' => ∃ ρ', Ext ρ w ρ' w' ∧ s.val ρ' = some v ∧ Mem ρ' (puts m (blkW ([(a, A'), (b, B')] ++ []))) w' := by
  obtain ⟨b1, o1, us1, e1, c1, l1, h1, _⟩ := hM.ok.blk a A hmA
  obtain ⟨b2, o2, us2, e2, c2, l2, h2, _⟩ := hM.ok.blk b B hmB
  obtain ⟨rfl, t1, h1⟩ := h1 ha
  obtain ⟨rfl, t2, h2⟩ := h2 hb
  have hne : b1 ≠ b2 := fun e => hab (hM.inj.inj a b b1 0 0 A B (.inl ha) hmA hmB (.inl ha) (.inl hb) e1 (e ▸ e2))
  rw [hA _ _ c1] at h1
  rw [hB _ _ c2] at h2
  rw [hvs _ _ e1 e2]
  refine (h b1 b2 hne w ⟨t1, h1⟩ ⟨t2, h2⟩).mono ?_
  rintro v w' ⟨rfl, ⟨t1', k1⟩, ⟨t2', k2⟩, hK⟩
  refine ⟨ρ, ⟨.refl ρ, fun id b o h h' => (by rw [h] at h'; cases h'), hK.os, hK.tape, hK.output, hK.size, fun k hk hD => hK.block k hk ?_⟩, SV.val_le (rho0_le ρ) _ _ hs, ⟨⟨fun id l hl => ?_⟩, ⟨fun i i' c o o' l l' ho m1 m2 l1 l2 h1 h2 => ?_⟩, fun id q hq => ?_⟩⟩
  · rintro (rfl | rfl)
    · exact hD ⟨a, 0, .inl ha, e1⟩
    · exact hD ⟨b, 0, .inl hb, e2⟩
  · rw [blk_blkW] at hl
    simp only [List.append_nil, lastB] at hl
    by_cases eb : b = id
    · subst eb
      simp only [if_true, Option.some.injEq] at hl
      subst hl
      exact ⟨b2, 0, vb', e2, hB' ρ, by have := hK.size; omega, fun _ => ⟨rfl, t2', k2⟩, fun hf => (by rw [hb] at hf; cases hf), fun hf => (by rw [app_own hb] at hf; cases hf)⟩
    · simp only [eb, if_false] at hl
      by_cases ea : a = id
      · subst ea
        simp only [if_true, Option.some.injEq] at hl
        subst hl
        exact ⟨b1, 0, va', e1, hA' ρ, by have := hK.size; omega, fun _ => ⟨rfl, t1', k1⟩, fun hf => (by rw [ha] at hf; cases hf), fun hf => (by rw [app_own ha] at hf; cases hf)⟩
      · simp only [ea, if_false] at hl
        obtain ⟨c, o, us, f1, f2, f3⟩ := hM.ok.blk id l hl
        by_cases hlv : Live id l
        · refine ⟨c, o, us, f1, f2, f3.of_kept hK.size (hK.block c f3.1 ?_)⟩
          rintro (rfl | rfl)
          · exact ea (hM.inj.inj a id c 0 o A l (.inl ha) hmA hl (.inl ha) hlv e1 f1)
          · exact eb (hM.inj.inj b id c 0 o B l (.inl hb) hmB hl (.inl hb) hlv e2 f1)
        · exact ⟨c, o, us, f1, f2, blkOk_dead hlv f2 f3 hK.size⟩
  · have live : ∀ id k, St.blk (puts m (blkW ([(a, A'), (b, B')] ++ []))) id = some k → Live id k → ∃ k0, m.blk id = some k0 ∧ Live id k0 := by
      intro id k hk hlv
      rw [blk_blkW] at hk
      simp only [List.append_nil, lastB] at hk
      by_cases eb : b = id
      · subst eb; exact ⟨B, hmB, .inl hb⟩
      · simp only [eb, if_false] at hk
        by_cases ea : a = id
        · subst ea; exact ⟨A, hmA, .inl ha⟩
        · simp only [ea, if_false] at hk
          exact ⟨k, hk, hlv⟩
    obtain ⟨k0, a1, a2⟩ := live i l m1 l1
    obtain ⟨k0', a3, a4⟩ := live i' l' m2 l2
    exact hM.inj.inj i i' c o o' k0 k0' ho a1 a3 a2 a4 h1 h2
  · obtain ⟨l, hl⟩ := hM.dom id q hq
    rw [blk_blkW]
    cases lastB ([(a, A'), (b, B')] ++ []) id with
    | some r => exact ⟨r, rfl⟩
    | none => exact ⟨l, hl⟩
/-- A function, by a proof of its body: G tells of what is handed back and of the last state. -/
theorem calls_of_at {P : Program} {tab : TypeId → Option Ty} (htab : ∀ t d, tab t = some d → TyOk P t d) {f : FuncId} {d : Fn1} (hf : FnOk P f d) {ρ : Rho} {m : St} {w : World} (hM : Mem ρ m w) (hodd : m.all (fun p => p.1 % 2 == 1) = true)
    {args : List AV} {vs : List Value} (hv : vals ρ args = some vs) (hN : args.length ≤ d.ntmps) {G : List AV → St → Prop}
    (h : ∀ a, At d.ntmps ρ w (initSlots 0 args (d.ntmps - args.length) ++ m) a w → d.body.wp P (fun e a' w' => (e = .normal ∨ e = .ret) ∧ ∃ st xs, At d.ntmps ρ w st a' w' ∧ resultsOf tab st d.results = some xs ∧ G xs st) a w) :
    Calls P f vs.toArray w fun e w' => ∃ v, e = .returned v ∧ ∃ xs st ρ', Ext ρ w ρ' w' ∧ (pack xs).val ρ' = some v ∧ MemOk ρ' st.blk w' ∧ G xs st := by
  obtain ⟨fn, hfn, hbody, hres, hnt, _⟩ := hf.ok
  refine calls_of_wp hfn hbody ?_
  rw [hnt]
  refine wp_mono (h _ (At.begin hM hodd hv hN)) ?_
  rintro e a' w' ⟨he, st, xs, ⟨ρ', hE, hs⟩, hxs, hG⟩
  obtain ⟨v, hv1, hv2⟩ := results_ok htab hs hres hxs
  have : a'.defers = [] ∧ ∃ u, (results fn a'.tmps).run P w' = .ok u w' ∧ ∃ v, (Ending.returned u) = .returned v ∧ ∃ xs st ρ', Ext ρ w ρ' w' ∧ (pack xs).val ρ' = some v ∧ MemOk ρ' st.blk w' ∧ G xs st :=
    ⟨hs.calm, v, hv2, v, rfl, xs, st, ρ', hE, hv1, hs.mem, hG⟩
  rcases he with rfl | rfl <;> exact this
end Go.Eng
/-
  THE ENGINE, part N: pieces of code one behind another.
-/
namespace Go.Eng
open Go Go.RowKit

/-- Pieces, and a rest. -/
def chain : List Code → Code → Code
  | [], r => r
  | c :: l, r => .seq c (chain l r)
def runs (E : Eng) (n : Nat) : List Code → Xs → Option (Xk × Xs)
  | [], x => some (.n, x)
  | c :: l, x => match exec E n c x with
    | some (.n, y) => runs E n l y
    | r => r
theorem runs_kept {E : Eng} {n : Nat} : ∀ (l : List Code) (x : Xs) (k : Xk) (y : Xs), runs E n l x = some (k, y) → Kept x y := by
  intro l
  induction l with
  | nil => intro x k y h; cases h; exact .refl _
  | cons c l ih =>
    intro x k y h
    simp only [runs] at h
    split at h
    · rename_i z hz; exact (exec_kept _ _ _ _ _ hz).trans (ih _ _ _ h)
    · exact exec_kept _ _ _ _ _ h
theorem At.runs {P : Program} {E : Eng} (hm : P.follows .mixedOrders = true) (htab : ∀ t d, E.tab t = some d → TyOk P t d) (hcall : CallOk P E.call) {n : Nat} {rest : Code} {Q : Exit → Act → World → Prop} {ρ0 : Rho} {w0 : World} : ∀ (l : List Code) (x : Xs) (k : Xk) (y : Xs), Eng.runs E n l x = some (k, y) → (∀ q ∈ y.obs, q) →
    ∀ (a : Act) (w : World), At E.N ρ0 w0 x.st a w → (∀ a' w', At E.N ρ0 w0 y.st a' w' → Exit.then (rest.wp P Q) Q k.exit a' w') → (chain l rest).wp P Q a w := by
  intro l
  induction l with
  | nil => intro x k y h hob a w hA hQ; cases h; exact hQ a w hA
  | cons c l ih =>
    intro x k y h hob a w hA hQ
    simp only [Eng.runs] at h
    split at h
    · rename_i z hz
      refine wp_seq (At.exec hm htab hcall hz (fun q hq => hob q ((runs_kept _ _ _ _ h).1 q hq)) hA fun a' w' hA' => ?_)
      exact ih z k y h hob a' w' hA' hQ
    · rename_i hne
      refine wp_seq (At.exec hm htab hcall h hob hA fun a' w' hA' => ?_)
      have := hQ a' w' hA'
      cases k with
      | n => exact (hne y h).elim
      | e id => exact this
      | r => exact this
/-- A run of pieces told by its ends. -/
def probes (E : Eng) (n : Nat) (l : List Code) (st : St) (nid : Nat) (hints : List (Nat × Bool)) (ks : List Nat) : Option (Nat × List Prop × List (Option Ct)) :=
  match Eng.runs E n l { st := st, nid := nid, hints := hints, obs := [], dirty := [] } with
  | some (k, y) => some (k.code, y.obs, ks.map (look y.st))
  | none => none
theorem At.probes {P : Program} {E : Eng} (hm : P.follows .mixedOrders = true) (htab : ∀ t d, E.tab t = some d → TyOk P t d) (hcall : CallOk P E.call) {n : Nat} {l : List Code} {rest : Code} {st : St} {nid : Nat} {hints : List (Nat × Bool)} {canon : St} {kc : Nat} {ob : List Prop}
    (h : Eng.probes E n l st nid hints (canon.map (·.1)) = some (kc, ob, canon.map fun p => some p.2)) (hob : ∀ q ∈ ob, q)
    {ρ0 : Rho} {w0 : World} {a : Act} {w : World} (hA : At E.N ρ0 w0 st a w) (keep : List Nat) (h2 : ∀ id ∈ keep, ∃ l, canon.blk id = some l) (h3 : keepsB canon keep = true) (h4 : ∀ id q, ρ0 id = some q → id ∈ keep)
    {Q : Exit → Act → World → Prop} (hQ : ∀ a' w', At E.N ρ0 w0 canon a' w' → Exit.then (rest.wp P Q) Q (exitOf kc) a' w') : (chain l rest).wp P Q a w := by
  unfold Eng.probes at h
  split at h
  · rename_i k y hx
    simp only [Option.some.injEq, Prod.mk.injEq] at h
    obtain ⟨h5, h6, h7⟩ := h
    subst h6
    refine At.runs (x := { st := st, nid := nid, hints := hints, obs := [], dirty := [] }) hm htab hcall l k y hx hob a w hA fun a' w' hA' => ?_
    rw [← exit_code, h5]
    refine hQ a' w' (hA'.forget keep (fun j v hj => ?_) h2 h3 h4)
    have hmem := look_some_mem hj
    have : ∀ (l : St), l.map (fun p => look y.st p.1) = l.map (fun p => some p.2) → ∀ p ∈ l, look y.st p.1 = some p.2 := by
      intro l
      induction l with
      | nil => intro _ p hp; cases hp
      | cons q l ih =>
        intro hl p hp
        simp only [List.map_cons, List.cons.injEq] at hl
        rcases List.mem_cons.1 hp with rfl | hp
        · exact hl.1
        · exact ih hl.2 p hp
    rw [List.map_map] at h7
    exact this canon h7 _ hmem
  · cases h
end Go.Eng
