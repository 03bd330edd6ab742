/-
  THE ENGINE, part D: what an operation is to do, read off its operands ('opPlan'); that the model does just that.
-/
import Derived.Test.YtkpihidjolfkoaaEngC
namespace Go.Eng
open Go Go.RowKit

def rho0 : Rho := fun _ => none
theorem rho0_le (ρ : Rho) : rho0.le ρ := fun _ _ h => by cases h

/-- What is to be known of a type. -/
structure Ty where
  size : Nat
  agg : Bool
  zero : Option (List It)
  ik : Option IntKind
  fields : List (Nat × Nat × Bool)
  arr : Option (Nat × Nat × Bool)
  sl : Option Nat
  kinds : List K
  slz : Option It := none
  ez : Option (List It) := none
  str : Bool := false

def elemOf (P : Program) (e : TypeId) : Option (Nat × Bool) := match P.info? e, P.underlying e with
  | some i, some u => some (i.size, aggD u)
  | _, _ => none
def fieldOf (P : Program) (f : Field) : Option (Nat × Nat × Bool) := match elemOf P f.type with
  | some (s, g) => some (f.offset, s, g)
  | none => none
def ikD : TypeDesc → Option IntKind
  | .int k => some k
  | _ => none
def fieldsD (P : Program) : TypeDesc → List (Option (Nat × Nat × Bool))
  | .struct fs => fs.toList.map (fieldOf P)
  | _ => []
def arrD (P : Program) : TypeDesc → Option (Nat × Nat × Bool)
  | .array n e => match elemOf P e with
    | some (s, g) => some (n, s, g)
    | none => none
  | _ => none
def slD (P : Program) : TypeDesc → Option Nat
  | .slice e => match elemOf P e with
    | some (s, _) => some s
    | none => none
  | _ => none
def core (P : Program) (t : TypeId) : Option (Nat × Bool × Option IntKind × List (Option (Nat × Nat × Bool)) × Option (Nat × Nat × Bool) × Option Nat) :=
  match P.info? t, P.underlying t with
  | some i, some u => some (i.size, aggD u, ikD u, fieldsD P u, arrD P u, slD P u)
  | _, _ => none
def zeroP (P : Program) (t : TypeId) : Option (List Value) := match P.info? t with
  | some i => match i.zero with
    | some v => some v.cells.toList
    | none => none
  | none => none
structure TyOk (P : Program) (t : TypeId) (d : Ty) : Prop where
  core : core P t = some (d.size, d.agg, d.ik, d.fields.map some, d.arr, d.sl)
  zero : ∀ l, d.zero = some l → ∃ vs, conc rho0 l = some vs ∧ zeroP P t = some vs
  kinds : d.kinds = [] ∨ (flat P 8 t = some d.kinds ∧ P.eqGuardType P.depth t = false)
  slz : ∀ i, d.slz = some i → ∃ e v, P.underlying t = some (.slice e) ∧ i.cs rho0 = some [v] ∧ zeroP P e = some [v]
  ez : ∀ l, d.ez = some l → ∃ e vs, P.underlying t = some (.slice e) ∧ conc rho0 l = some vs ∧ zeroP P e = some vs
  str : d.str = true → P.underlying t = some .string

inductive Plan where
  | val (x : SV) (ob : List Prop)
  | load (id off len : Nat) (agg : Bool)
  | new (l : List It) (sl : Option Nat)
  | store (id off : Nat) (l : List It)
  | call (f : FuncId) (args : List AV)
  | copy (did doff sid soff cells cnt : Nat)
  | clear (id off : Nat) (l : List It)

def asInt : AV → Option (IntKind × Int)
  | ⟨false, [.v (.int k a)]⟩ => some (k, a)
  | _ => none
def asBool : AV → Option Bool
  | ⟨false, [.v (.bool b)]⟩ => some b
  | _ => none
def asPtr : AV → Option (Nat × Nat)
  | ⟨false, [.p id off]⟩ => some (id, off)
  | _ => none
def it1 (i : It) : SV := .one ⟨false, [i]⟩
def vI (k : IntKind) (a : Int) : SV := it1 (.v (.int k a))
def vB (b : Bool) : SV := it1 (.v (.bool b))

def cmpV (c : Prop) (d : Bool) : Option Bool → SV × List Prop
  | some h => (vB h, [c ↔ h = true])
  | none => (vB d, [])
def bits (op : BinOp) (k : IntKind) (x y : Int) : Int :=
  let a := BitVec.ofInt k.bits x
  let b := BitVec.ofInt k.bits y
  match op with
  | .and => k.wrap (a &&& b).toNat
  | .or => k.wrap (a ||| b).toNat
  | .xor => k.wrap (a ^^^ b).toNat
  | _ => k.wrap (a &&& ~~~b).toNat
/-- A side condition: reckoned, where no hint is given; else owed. -/
def owed (c : Prop) (d : Bool) : Option Bool → Option (List Prop)
  | some _ => some [c]
  | none => match d with
    | true => some []
    | false => none
def intBin (op : BinOp) (k : IntKind) (a : Int) (k' : IntKind) (b : Int) (hint : Option Bool) : Option (SV × List Prop) :=
  match op with
  | .shl => match owed (0 ≤ b) (decide (0 ≤ b)) hint with
    | some ob => some (vI k (k.wrap (a * 2 ^ (min b.toNat k.bits))), ob)
    | none => none
  | .shr => match owed (0 ≤ b) (decide (0 ≤ b)) hint with
    | some ob => some (vI k (a.fdiv (2 ^ (min b.toNat k.bits))), ob)
    | none => none
  | op => if k = k' then (match op with
    | .add => some (vI k (k.wrap (a + b)), [])
    | .sub => some (vI k (k.wrap (a - b)), [])
    | .mul => some (vI k (k.wrap (a * b)), [])
    | .quo => match owed (b ≠ 0) (decide (b ≠ 0)) hint with
      | some ob => some (vI k (k.wrap (a.tdiv b)), ob)
      | none => none
    | .rem => match owed (b ≠ 0) (decide (b ≠ 0)) hint with
      | some ob => some (vI k (a.tmod b), ob)
      | none => none
    | .and => some (vI k (bits .and k a b), [])
    | .or => some (vI k (bits .or k a b), [])
    | .xor => some (vI k (bits .xor k a b), [])
    | .andNot => some (vI k (bits .andNot k a b), [])
    | .eql => some (cmpV (a = b) (a == b) hint)
    | .neq => some (cmpV (a ≠ b) (a != b) hint)
    | .lss => some (cmpV (a < b) (decide (a < b)) hint)
    | .leq => some (cmpV (a ≤ b) (decide (a ≤ b)) hint)
    | .gtr => some (cmpV (a > b) (decide (a > b)) hint)
    | .geq => some (cmpV (a ≥ b) (decide (a ≥ b)) hint)
    | _ => none) else none

/-- The cells of plain rows. -/
def plainVals : List It → List Value
  | [] => []
  | .v x :: l => x :: plainVals l
  | .w k n :: l => words k n ++ plainVals l
  | _ :: l => plainVals l
def kindsOf : List It → Option (List K)
  | [] => some []
  | .v (.int k _) :: l => match kindsOf l with | some r => some (some k :: r) | none => none
  | .v (.bool _) :: l => match kindsOf l with | some r => some (none :: r) | none => none
  | .w k _ :: l => match kindsOf l with | some r => some (List.replicate k (some IntKind.u64) ++ r) | none => none
  | _ => none
def aggEq (neg : Bool) (d : Ty) (x y : List It) : Option Bool → Option (SV × List Prop)
  | some h => match d.kinds with
    | [] => none
    | ks => if d.agg = true ∧ kindsOf x = some ks ∧ kindsOf y = some ks then some (vB (neg ^^ h), [plainVals x = plainVals y ↔ h = true]) else none
  | none => none
def boolBin (op : BinOp) (a b : Bool) : Option SV := match op with
  | .eql => some (vB (a == b))
  | .neq => some (vB (!(a == b)))
  | _ => none

def av (ev : Operand → Option SV) (x : Operand) : Option AV := match ev x with
  | some (.one y) => some y
  | _ => none
def placeOf (d : Ty) (i : Nat) : Option (Nat × Nat) := match d.arr with
  | some (_, s, _) => some (i * s, s)
  | none => match d.fields[i]? with
    | some (off, s, _) => some (off, s)
    | none => none
def fillIt (d : Ty) (ev : Operand → Option SV) : List It → List (Nat × Operand) → Option (List It)
  | z, [] => some z
  | z, (i, x) :: ps => match placeOf d i, av ev x with
    | some (off, s), some y => if sizes y.its = s then (match lay z off y.its with | some r => fillIt d ev r ps | none => none) else none
    | _, _ => none
def avs (ev : Operand → Option SV) : List Operand → Option (List AV)
  | [] => some []
  | x :: l => match av ev x, avs ev l with
    | some y, some ys => some (y :: ys)
    | _, _ => none
def ptrs (ev : Operand → Option SV) : List Operand → Option (List (Nat × Nat))
  | [] => some []
  | x :: l => match av ev x, ptrs ev l with
    | some y, some ys => match asPtr y with
      | some q => some (q :: ys)
      | none => none
    | _, _ => none
def partIt (cs : List It) (off size : Nat) (agg : Bool) : Option SV := match cut cs off (if agg then size else 1) with
  | some r => some (.one ⟨agg, r⟩)
  | none => none
def boundOf (ev : Operand → Option SV) (dflt : Nat) : Option Operand → Option Nat
  | none => some dflt
  | some x => match av ev x with
    | some y => match asInt y with
      | some (_, i) => if 0 ≤ i then some i.toNat else none
      | none => none
    | none => none
def indexOf (n : Nat) (y : AV) : Option Nat := match asInt y with
  | some (_, i) => if 0 ≤ i ∧ i < n then some i.toNat else none
  | none => none

def binPlan (tab : TypeId → Option Ty) (hint : Option Bool) (op : BinOp) (t : TypeId) (x y : AV) : Option (SV × List Prop) :=
  match x, y with
  | ⟨false, [.v (.int k a)]⟩, ⟨false, [.v (.int k' b)]⟩ => intBin op k a k' b hint
  | ⟨false, [.v (.bool a)]⟩, ⟨false, [.v (.bool b)]⟩ => match boolBin op a b, tab t with
    | some s, some d => if d.kinds = [none] ∧ d.agg = false then some (s, []) else none
    | _, _ => none
  | ⟨true, l⟩, ⟨true, m⟩ => match op, tab t with
    | .eql, some d => aggEq false d l m hint
    | .neq, some d => aggEq true d l m hint
    | _, _ => none
  | _, _ => none
def callPlan (ev : Operand → Option SV) (c : Call) (tab : TypeId → Option Ty) : Option Plan := match c.callee with
  | .value f => match av ev f, avs ev c.args.toList with
    | some ⟨false, [.f fn caps]⟩, some args => some (.call fn (args ++ caps.map fun q => ⟨false, [.p q.1 q.2]⟩))
    | _, _ => none
  | .builtin .len => match c.args.toList, c.argTypes.toList with
    | [x], [t] => match av ev x, tab t with
      | some ⟨false, [.s _ _ len _]⟩, some d => match d.sl with
        | some _ => some (.val (vI .i64 (len : Int)) [])
        | none => none
      | some ⟨false, [.v (.slice none len _)]⟩, some d => match d.sl with
        | some _ => some (.val (vI .i64 (len : Int)) [])
        | none => none
      | _, _ => none
    | _, _ => none
  | .builtin .max => match c.args.toList with
    | [x, y] => match av ev x, av ev y with
      | some x, some y => match asInt x, asInt y with
        | some (k, a), some (_, b) => some (.val (vI k (if b > a then b else a)) [])
        | _, _ => none
      | _, _ => none
    | _ => none
  | .builtin .copy => match c.args.toList, c.argTypes.toList with
    | [x, y], t :: _ => match av ev x, av ev y, tab t with
      | some ⟨false, [.s did doff dlen _]⟩, some ⟨false, [.s sid soff slen _]⟩, some d => match d.sl with
        | some s => some (.copy did doff sid soff (Nat.min slen dlen * s) (Nat.min slen dlen))
        | none => none
      | _, _, _ => none
    | _, _ => none
  | .builtin .clear => match c.args.toList, c.argTypes.toList with
    | [x], t :: _ => match av ev x, tab t with
      | some ⟨false, [.s id off len _]⟩, some d => match d.slz with
        | some i => some (.clear id off (List.replicate len i))
        | none => none
      | _, _ => none
    | _, _ => none
  | _ => none
def opPlan (tab : TypeId → Option Ty) (hint : Option Bool) (ev : Operand → Option SV) (op : Op) : Option Plan :=
  match op with
  | .move x | .assign x => match ev x with
    | some s => some (.val s [])
    | none => none
  | .pick c a b => match av ev c with
    | some c => match asBool c with
      | some true => match ev a with
        | some s => some (.val s [])
        | none => none
      | some false => match ev b with
        | some s => some (.val s [])
        | none => none
      | none => none
    | none => none
  | .alloc t => match tab t with
    | some d => match d.zero with
      | some l => some (.new l none)
      | none => none
    | none => none
  | .box _ x => match av ev x with
    | some y => some (.new y.its none)
    | none => none
  | .build t ps => match tab t with
    | some d => match d.zero with
      | some z => if d.agg && (d.arr.isSome || !d.fields.isEmpty) then (match fillIt d ev z ps.toList with
        | some r => some (.val (.one ⟨true, r⟩) [])
        | none => none) else none
      | none => none
    | none => none
  | .buildSlice t n ps => match tab t with
    | some d => match d.sl, d.ez with
      | some s, some l => if sizes l = s ∧ n * s ≤ 16777216 then (match fillIt { d with arr := some (n, s, true) } ev ((List.replicate n l).flatten) ps.toList with
        | some r => some (.new r (some n))
        | none => none) else none
      | _, _ => none
    | none => none
  | .load t x => match av ev x, tab t with
    | some y, some d => match asPtr y with
      | some (id, off) => some (.load id off (if d.agg then d.size else 1) d.agg)
      | none => none
    | _, _ => none
  | .store t x y => match av ev x, av ev y, tab t with
    | some p, some z, some d => match asPtr p with
      | some (id, off) => if sizes z.its = d.size then some (.store id off z.its) else none
      | none => none
    | _, _, _ => none
  | .nilCheck x => match av ev x with
    | some y => match asPtr y with
      | some _ => some (.val (.one y) [])
      | none => none
    | none => none
  | .binOp op t x y _ => match av ev x, av ev y with
    | some x, some y => match binPlan tab hint op t x y with
      | some (s, ob) => some (.val s ob)
      | none => none
    | _, _ => none
  | .unOp op _ x => match av ev x with
    | some y => match op with
      | .not => match asBool y with
        | some b => some (.val (vB (!b)) [])
        | none => none
      | .neg => match asInt y with
        | some (k, a) => some (.val (vI k (k.wrap (0 - a))) [])
        | none => none
      | _ => none
    | none => none
  | .convert src dst x => match av ev x, tab src, tab dst with
    | some y, some _, some d => match asInt y, d.ik with
      | some (_, a), some k => some (.val (vI k (k.wrap a)) [])
      | _, _ => none
    | _, _, _ => none
  | .sliceToArrayPointer t x => match av ev x, tab t with
    | some ⟨false, [.s id off len _]⟩, some d => match d.arr with
      | some (n, _, _) => if n ≤ len then some (.val (it1 (.p id off)) []) else none
      | none => none
    | _, _ => none
  | .makeFunc (.func f) first caps => if first.size = 0 then (match ptrs ev caps.toList with
    | some qs => some (.val (it1 (.f f qs)) [])
    | none => none) else none
  | .slice t x lo hi none => match av ev x, tab t with
    | some y, some d => match y, d.arr, d.sl with
      | ⟨false, [.p id off]⟩, some (n, s, _), _ => match boundOf ev 0 lo, boundOf ev n hi with
        | some l, some h => if l ≤ h ∧ h ≤ n then some (.val (it1 (.s id (if n = l then off else off + l * s) (h - l) (n - l))) []) else none
        | _, _ => none
      | ⟨false, [.s id off len cap]⟩, none, some s => match boundOf ev 0 lo, boundOf ev len hi with
        | some l, some h => if l ≤ h ∧ h ≤ cap then some (.val (it1 (.s id (if cap = l then off else off + l * s) (h - l) (cap - l))) []) else none
        | _, _ => none
      | _, _, _ => none
    | _, _ => none
  | .fieldAddr t x i => match av ev x, tab t with
    | some y, some d => match asPtr y, d.fields[i]? with
      | some (id, off), some (o, s, _) => if s ≠ 0 then some (.val (it1 (.p id (off + o))) []) else none
      | _, _ => none
    | _, _ => none
  | .field t x i => match av ev x, tab t with
    | some ⟨true, l⟩, some d => match d.fields[i]? with
      | some (o, s, g) => match partIt l o s g with
        | some r => some (.val r [])
        | none => none
      | none => none
    | _, _ => none
  | .indexAddr t x i => match av ev x, av ev i, tab t with
    | some y, some j, some d => match y, d.arr, d.sl with
      | ⟨false, [.p id off]⟩, some (n, s, _), _ => match indexOf n j with
        | some q => some (.val (it1 (.p id (off + q * s))) [])
        | none => none
      | ⟨false, [.s id off len _]⟩, none, some s => match hint with
        | some false => match asInt j with
          | some (_, a) => some (.val (it1 (.p id (off + a.toNat * s))) [0 ≤ a ∧ a < (len : Int)])
          | none => none
        | _ => match indexOf len j with
          | some q => some (.val (it1 (.p id (off + q * s))) [])
          | none => none
      | _, _, _ => none
    | _, _, _ => none
  | .index t x i => match av ev x, av ev i, tab t with
    | some ⟨false, [.v (.string z)]⟩, some j, some d => match d.str, asInt j with
      | true, some (_, a) => match (if 0 ≤ a then z[a.toNat]? else none) with
        | some b => some (.val (vI .u8 b.toNat) [])
        | none => none
      | _, _ => none
    | some ⟨true, l⟩, some j, some d => match d.arr with
      | some (n, s, g) => match indexOf n j with
        | some q => match partIt l (q * s) s g with
          | some r => some (.val r [])
          | none => none
        | none => none
      | none => none
    | _, _, _ => none
  | .extract x i => match ev x with
    | some (.tup l) => match l[i]? with
      | some y => some (.val (.one y) [])
      | none => none
    | _ => none
  | .call c => callPlan ev c tab
  | _ => none

/-! ### the model does what the plan says -/
/-- What the model makes of an operation, under 'ρ'. -/
def PlanSem (P : Program) (ρ : Rho) (val : Operand → Value) (o : Oper) : Plan → Prop
  | .val x ob => (∀ p ∈ ob, p) → ∃ v, x.val ρ = some v ∧ ∀ w, (execOp val o).run P w = .ok (.value v) w
  | .load id off len agg => ∃ q, ρ id = some q ∧ (agg = false → len = 1) ∧ ∀ (w : World) (vs : List Value), vs.length = len → (∀ i v, vs[i]? = some v → w.cell? ⟨q.1, q.2 + (off + i), none⟩ = some v) →
      (execOp val o).run P w = .ok (.value (match agg with | true => .agg vs.toArray | false => vs.headD undef)) w
  | .new l sl => ∃ vs t, conc ρ l = some vs ∧ ∀ w : World, (execOp val o).run P w = .ok (.value (match sl with | some n => .slice (some ⟨w.heap.size, 0, none⟩) n n | none => .pointer (some ⟨w.heap.size, 0, none⟩))) (w.alloc (.cells vs.toArray t))
  | .store id off l => ∃ q vs, ρ id = some q ∧ conc ρ l = some vs ∧ ∀ w : World, (execOp val o).run P w = ((storeCells ⟨q.1, q.2 + off, none⟩ vs).run P w).andThen fun _ w' => .ok .skip w'
  | .call f args => ∃ vs, vals ρ args = some vs ∧ ∀ w, (execOp val o).run P w = (callFunc f vs.toArray).run P w
  | .copy did doff sid soff cells cnt => ∃ qd qs, ρ did = some qd ∧ ρ sid = some qs ∧ ∀ (w : World) (vs : List Value), vs.length = cells → (∀ i v, vs[i]? = some v → w.cell? ⟨qs.1, qs.2 + (soff + i), none⟩ = some v) →
      (execOp val o).run P w = ((storeCells ⟨qd.1, qd.2 + doff, none⟩ vs).run P w).andThen fun _ w' => .ok (.value (.int .i64 (cnt : Int))) w'
  | .clear id off l => ∃ q vs, ρ id = some q ∧ conc ρ l = some vs ∧ ∀ w : World, (execOp val o).run P w = ((storeCells ⟨q.1, q.2 + off, none⟩ vs).run P w).andThen fun _ w' => .ok (.value (.tuple #[])) w'
end Go.Eng
