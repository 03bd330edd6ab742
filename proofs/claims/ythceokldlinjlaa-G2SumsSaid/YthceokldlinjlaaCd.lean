/-
  Rows of a table by coded arguments and results: tuples of numbers, such tuples with a bool behind, integers, bools, pairs.
-/
import Derived.Test.YthceokldlinjlaaFf
import Derived.Test.YthceokldlinjlaaPx
import Derived.Test.YthceokldlinjlaaEc
namespace Go.Proofs.Ythceokldlinjlaa
open Go Go.Eng Go.RowKit Go.Wd Go.Alg

/-- How a kind of data stands in an argument. -/
structure Cd (A : Type) where
  av : A → AV
  vl : A → Value
  rd : AV → Option A
  val : ∀ ρ x, (av x).val ρ = some (vl x)
  ok : ∀ {x : AV} {a : A}, rd x = some a → ∀ {ρ : Rho} {v : Value}, x.val ρ = some v → v = vl a
/-- .. and in what a call hands back. -/
structure Rs (B : Type) where
  sv : B → SV
  vl : B → Value
  val : ∀ ρ x, (sv x).val ρ = some (vl x)
def kdN (A : Type) [Nm A] : Cd A := ⟨wN, wv, asN A, val_wN, fun h => fun hv => asN_ok h hv⟩

theorem all_nil : ∀ q ∈ ([] : List Prop), q := fun q h => by cases h
theorem all_cons {p : Prop} {l : List Prop} (h : p) (k : ∀ q ∈ l, q) : ∀ q ∈ p :: l, q := by
  intro q hq
  rcases List.mem_cons.1 hq with rfl | hq
  · exact h
  · exact k q hq

/-! ### numbers with a bool behind -/
def wP {A : Type} [Nm A] (x : A × Bool) : AV := ⟨true, (Nm.toL x.1).map (It.w 6) ++ [.v (.bool x.2)]⟩
def wpv {A : Type} [Nm A] (x : A × Bool) : Value := .agg (((Nm.toL x.1).map (words 6)).flatten ++ [Value.bool x.2]).toArray
theorem conc_append2 {ρ : Rho} {l m : List It} {vs us : List Value} (h : conc ρ l = some vs) (k : conc ρ m = some us) : conc ρ (l ++ m) = some (vs ++ us) := by
  induction l generalizing vs with
  | nil => cases h; exact k
  | cons i l ih =>
    obtain ⟨a, b, ha, hb, rfl⟩ := conc_cons h
    rw [List.cons_append, conc_mk ha (ih hb), List.append_assoc]
theorem val_wP {A : Type} [Nm A] (ρ : Rho) (x : A × Bool) : (wP x).val ρ = some (wpv x) := by
  have := conc_append2 (conc_ws ρ (Nm.toL x.1)) (m := [.v (.bool x.2)]) (us := [Value.bool x.2]) rfl
  simp only [wP, wpv, AV.val, this]
def popB : List It → Option (List It × Bool)
  | [] => none
  | i :: l => match l with
    | [] => match i with
      | .v (.bool b) => some ([], b)
      | _ => none
    | j :: m => match popB (j :: m) with
      | some (r, b) => some (i :: r, b)
      | none => none
theorem popB_ok : ∀ (l m : List It) (b : Bool), popB l = some (m, b) → l = m ++ [.v (.bool b)] := by
  intro l
  induction l with
  | nil => intro m b h; cases h
  | cons i l ih =>
    intro m b h
    cases l with
    | nil =>
      unfold popB at h
      simp only at h
      split at h
      · cases h; rfl
      · cases h
    | cons j l =>
      unfold popB at h
      simp only at h
      split at h
      · rename_i r b' hr
        cases h
        rw [ih _ _ hr]; rfl
      · cases h
def asP (A : Type) [Nm A] (x : AV) : Option (A × Bool) := match x.agg with
  | true => match popB x.its with
    | some (m, b) => match asWs (Nm.k A) m with
      | some r => some (Nm.ofL r, b)
      | none => none
    | none => none
  | false => none
theorem conc_snoc {ρ : Rho} {m : List It} {b : Bool} {vs : List Value} (h : conc ρ (m ++ [.v (.bool b)]) = some vs) : ∃ us, conc ρ m = some us ∧ vs = us ++ [Value.bool b] := by
  induction m generalizing vs with
  | nil => cases h; exact ⟨[], rfl, rfl⟩
  | cons i m ih =>
    obtain ⟨a, c, ha, hc, rfl⟩ := conc_cons h
    obtain ⟨us, h1, rfl⟩ := ih hc
    exact ⟨a ++ us, conc_mk ha h1, by rw [List.append_assoc]⟩
theorem asP_ok {A : Type} [Nm A] {x : AV} {a : A × Bool} (h : asP A x = some a) {ρ : Rho} {v : Value} (hv : x.val ρ = some v) : v = wpv a := by
  unfold asP at h
  split at h
  · rename_i hx
    split at h
    · rename_i m b hm
      split at h
      · rename_i r hr
        cases h
        obtain ⟨vs, h1, h2⟩ := AV.cells hv
        rw [popB_ok _ _ _ hm] at h1
        obtain ⟨us, h3, rfl⟩ := conc_snoc h1
        obtain ⟨h4, rfl⟩ := asWs_ok _ _ _ hr h3
        rcases h2 with ⟨_, rfl⟩ | ⟨h5, _⟩
        · unfold wpv; rw [Nm.to_of r h4]
        · rw [hx] at h5; cases h5
      · cases h
    · cases h
  · cases h
def kdP (A : Type) [Nm A] : Cd (A × Bool) := ⟨wP, wpv, asP A, val_wP, fun h => fun hv => asP_ok h hv⟩

/-! ### integers, bools -/
def wI1 (n : Int) : AV := ⟨false, [.v (.int .i64 n)]⟩
theorem val_wI1 (ρ : Rho) (n : Int) : (wI1 n).val ρ = some (.int .i64 n) := AV.val_v (ρ := ρ) (x := .int .i64 n) rfl
def asI1 (x : AV) : Option Int := match x with
  | ⟨false, [.v (.int .i64 n)]⟩ => some n
  | _ => none
theorem asI1_ok {x : AV} {a : Int} (h : asI1 x = some a) {ρ : Rho} {v : Value} (hv : x.val ρ = some v) : v = .int .i64 a := by
  unfold asI1 at h
  split at h
  · cases h
    have e := val_wI1 ρ a
    unfold wI1 at e
    rw [e] at hv
    cases hv; rfl
  · cases h
def kdI : Cd Int := ⟨wI1, Value.int .i64, asI1, val_wI1, fun h => fun hv => asI1_ok h hv⟩
def wB1 (b : Bool) : AV := ⟨false, [.v (.bool b)]⟩
theorem val_wB1 (ρ : Rho) (b : Bool) : (wB1 b).val ρ = some (.bool b) := AV.val_v (ρ := ρ) (x := .bool b) rfl
def asB1 (x : AV) : Option Bool := match x with
  | ⟨false, [.v (.bool b)]⟩ => some b
  | _ => none
theorem asB1_ok {x : AV} {a : Bool} (h : asB1 x = some a) {ρ : Rho} {v : Value} (hv : x.val ρ = some v) : v = .bool a := by
  unfold asB1 at h
  split at h
  · cases h
    have e := val_wB1 ρ a
    unfold wB1 at e
    rw [e] at hv
    cases hv; rfl
  · cases h
def kdB : Cd Bool := ⟨wB1, Value.bool, asB1, val_wB1, fun h => fun hv => asB1_ok h hv⟩

/-! ### results -/
def Cd.rs {A : Type} (c : Cd A) : Rs A := ⟨fun x => .one (c.av x), c.vl, fun ρ x => c.val ρ x⟩
def rs2 {A B : Type} (c : Cd A) (d : Cd B) : Rs (A × B) := ⟨fun x => .tup [c.av x.1, d.av x.2], fun x => .tuple #[c.vl x.1, d.vl x.2], fun ρ x => by
  simp only [SV.val, vals, c.val, d.val]⟩

/-! ### rows -/
def rowC0 {R : Type} (r : Rs R) (f : FuncId) (g : R) : Row where
  f := f
  ans := fun
    | [] => some (r.sv g, [])
    | _ => none
def rowC1 {A R : Type} (c : Cd A) (r : Rs R) (f : FuncId) (g : A → R) : Row where
  f := f
  ans := fun
    | [x] => match c.rd x with
      | some a => some (r.sv (g a), [])
      | none => none
    | _ => none
def rowC2 {A B R : Type} (c : Cd A) (d : Cd B) (r : Rs R) (f : FuncId) (g : A → B → R) : Row where
  f := f
  ans := fun
    | [x, y] => match c.rd x, d.rd y with
      | some a, some b => some (r.sv (g a b), [])
      | _, _ => none
    | _ => none
def rowC3 {A B D R : Type} (c : Cd A) (d : Cd B) (e : Cd D) (r : Rs R) (f : FuncId) (g : A → B → D → R) : Row where
  f := f
  ans := fun
    | [x, y, z] => match c.rd x, d.rd y, e.rd z with
      | some a, some b, some k => some (r.sv (g a b k), [])
      | _, _, _ => none
    | _ => none
theorem rowC0_ok {R : Type} {r : Rs R} {f : FuncId} {g : R} (h : Pure Try.prog f [] (r.vl g)) : RowOk Try.prog (rowC0 r f g) := by
  intro args s ob ha hob ρ vs hv
  unfold rowC0 at ha
  simp only at ha
  split at ha
  · cases ha; cases hv; exact ⟨_, r.val _ _, h⟩
  · cases ha
theorem rowC1_ok {A R : Type} {c : Cd A} {r : Rs R} {f : FuncId} {g : A → R} (h : ∀ a, Pure Try.prog f [c.vl a] (r.vl (g a))) : RowOk Try.prog (rowC1 c r f g) := by
  intro args s ob ha hob ρ vs hv
  unfold rowC1 at ha
  simp only at ha
  split at ha
  · split at ha
    · rename_i a hn
      cases ha
      obtain ⟨v1, us, h1, h2, rfl⟩ := vals_cons hv
      cases h2
      rw [c.ok hn h1]
      exact ⟨_, r.val _ _, h a⟩
    · cases ha
  · cases ha
theorem rowC2_ok {A B R : Type} {c : Cd A} {d : Cd B} {r : Rs R} {f : FuncId} {g : A → B → R} (h : ∀ a b, Pure Try.prog f [c.vl a, d.vl b] (r.vl (g a b))) : RowOk Try.prog (rowC2 c d r f g) := by
  intro args s ob ha hob ρ vs hv
  unfold rowC2 at ha
  simp only at ha
  split at ha
  · split at ha
    · rename_i a b hn hm
      cases ha
      obtain ⟨v1, us, h1, h2, rfl⟩ := vals_cons hv
      obtain ⟨v2, us', h3, h4, rfl⟩ := vals_cons h2
      cases h4
      rw [c.ok hn h1, d.ok hm h3]
      exact ⟨_, r.val _ _, h a b⟩
    · cases ha
  · cases ha
theorem rowC3_ok {A B D R : Type} {c : Cd A} {d : Cd B} {e : Cd D} {r : Rs R} {f : FuncId} {g : A → B → D → R} (h : ∀ a b k, Pure Try.prog f [c.vl a, d.vl b, e.vl k] (r.vl (g a b k))) : RowOk Try.prog (rowC3 c d e r f g) := by
  intro args s ob ha hob ρ vs hv
  unfold rowC3 at ha
  simp only at ha
  split at ha
  · split at ha
    · rename_i a b k hn hm hk
      cases ha
      obtain ⟨v1, us, h1, h2, rfl⟩ := vals_cons hv
      obtain ⟨v2, us', h3, h4, rfl⟩ := vals_cons h2
      obtain ⟨v3, us'', h5, h6, rfl⟩ := vals_cons h4
      cases h6
      rw [c.ok hn h1, d.ok hm h3, e.ok hk h5]
      exact ⟨_, r.val _ _, h a b k⟩
    · cases ha
  · cases ha
/-! ### rows with a condition that is owed -/
def rowK1 {A R : Type} (c : Cd A) (r : Rs R) (f : FuncId) (g : A → R) (k : A → Prop) : Row where
  f := f
  ans := fun
    | [x] => match c.rd x with
      | some a => some (r.sv (g a), [k a])
      | none => none
    | _ => none
def rowK2 {A B R : Type} (c : Cd A) (d : Cd B) (r : Rs R) (f : FuncId) (g : A → B → R) (k : A → B → Prop) : Row where
  f := f
  ans := fun
    | [x, y] => match c.rd x, d.rd y with
      | some a, some b => some (r.sv (g a b), [k a b])
      | _, _ => none
    | _ => none
theorem rowK1_ok {A R : Type} {c : Cd A} {r : Rs R} {f : FuncId} {g : A → R} {k : A → Prop} (h : ∀ a, k a → Pure Try.prog f [c.vl a] (r.vl (g a))) : RowOk Try.prog (rowK1 c r f g k) := by
  intro args s ob ha hob ρ vs hv
  unfold rowK1 at ha
  simp only at ha
  split at ha
  · split at ha
    · rename_i a hn
      cases ha
      obtain ⟨v1, us, h1, h2, rfl⟩ := vals_cons hv
      cases h2
      rw [c.ok hn h1]
      exact ⟨_, r.val _ _, h a (hob _ (List.mem_singleton.2 rfl))⟩
    · cases ha
  · cases ha
theorem rowK2_ok {A B R : Type} {c : Cd A} {d : Cd B} {r : Rs R} {f : FuncId} {g : A → B → R} {k : A → B → Prop} (h : ∀ a b, k a b → Pure Try.prog f [c.vl a, d.vl b] (r.vl (g a b))) : RowOk Try.prog (rowK2 c d r f g k) := by
  intro args s ob ha hob ρ vs hv
  unfold rowK2 at ha
  simp only at ha
  split at ha
  · split at ha
    · rename_i a b hn hm
      cases ha
      obtain ⟨v1, us, h1, h2, rfl⟩ := vals_cons hv
      obtain ⟨v2, us', h3, h4, rfl⟩ := vals_cons h2
      cases h4
      rw [c.ok hn h1, d.ok hm h3]
      exact ⟨_, r.val _ _, h a b (hob _ (List.mem_singleton.2 rfl))⟩
    · cases ha
  · cases ha
/-- A run whose result is read as data. -/
theorem pureX_of_run {T : CallT} (hT : CallOk Try.prog T) {f : FuncId} {args : List AV} {vs : List Value} {hints : List (Nat × Bool)} {A : Type} (c : Cd A) {x : AV} {a y : A} {ob : List Prop} (h : run1 T f args hints = some (.one x, ob)) (hrd : c.rd x = some a) (hob : ∀ p ∈ ob, p)
    (hv : vals rho0 args = some vs) (he : a = y) : Pure Try.prog f vs (c.vl y) :=
  pure_of_run1 hT h hob hv fun ρ u hu => by
    rw [← he]
    exact c.ok hrd hu
/-- A row for a function of a slice of words and a datum. -/
def rowSB {A R : Type} (c : Cd A) (r : Rs R) (f : FuncId) (g : A → Nat → R) : CallT := fun f' args m _ => match f' == f with
  | true => match args with
    | [x, y] => match slArg x m, c.rd y with
      | some (len, n, ob), some a => some { val := r.sv (g a (n % pw len)), wr := [], news := [], ob := ob }
      | _, _ => none
    | _ => none
  | false => none
theorem rowSB_ok {A R : Type} {c : Cd A} {r : Rs R} {f : FuncId} {g : A → Nat → R} (h : ∀ a, PureS Try.prog f (fun s => [s, c.vl a]) (fun len n => r.vl (g a (n % pw len)))) (h0 : ∀ a, Pure Try.prog f [.slice none 0 0, c.vl a] (r.vl (g a 0))) : CallOk Try.prog (rowSB c r f g) := by
  intro f' args m nid out hout hob ρ w vs hv hM hnew
  unfold rowSB at hout
  split at hout
  · rename_i hf
    rw [beq_iff_eq] at hf
    subst hf
    split at hout
    · rename_i x y
      split at hout
      · rename_i len n ob a hs ha
        cases hout
        obtain ⟨v1, us, h1, h2, rfl⟩ := vals_cons hv
        obtain ⟨v2, us', h3, h4, rfl⟩ := vals_cons h2
        cases h4
        rw [c.ok ha h3]
        have fin : ∀ (u : Value) (w' : World), u = r.vl (g a (n % pw len)) ∧ Below w.heap.size w w' → ∃ ρ', Ext ρ w ρ' w' ∧ (r.sv (g a (n % pw len))).val ρ' = some u ∧ Mem ρ' (puts m (blkW ([] ++ []))) w' := by
          rintro u w' ⟨rfl, hb⟩
          exact ⟨ρ, Ext.of_below hb, r.val _ _, hM.of_below hb⟩
        rcases slArg_ok hs hob hM h1 with ⟨rfl, rfl, rfl⟩ | ⟨b, o, cap, rfl, hlen, hsl⟩
        · exact (h0 a w).mono fun u w' hu => fin u w' hu
        · exact (h a b o len cap n hlen w hsl).mono fun u w' hu => fin u w' hu
      · cases hout
    · cases hout
  · cases hout
/-- A run, told as data. -/
theorem pureC_of_run {T : CallT} (hT : CallOk Try.prog T) {f : FuncId} {args : List AV} {vs : List Value} {hints : List (Nat × Bool)} {R : Type} (r : Rs R) {x y : R} {ob : List Prop} (h : run1 T f args hints = some (r.sv x, ob)) (hob : ∀ p ∈ ob, p)
    (hv : vals rho0 args = some vs) (he : x = y) : Pure Try.prog f vs (r.vl y) :=
  pure_of_run1 hT h hob hv fun ρ u hu => by
    rw [r.val] at hu
    cases hu
    rw [he]
theorem pureC_of_run1H {T : CallT} (hT : CallOk Try.prog T) {hf : FuncId → List (Nat × Bool)} {f : FuncId} {args : List AV} {vs : List Value} {R : Type} (r : Rs R) {x y : R} {ob : List Prop} (h : run1H T hf f args = some (r.sv x, ob)) (hob : ∀ p ∈ ob, p)
    (hv : vals rho0 args = some vs) (he : x = y) : Pure Try.prog f vs (r.vl y) :=
  pure_of_run1H hT h hob hv fun ρ u hu => by
    rw [r.val] at hu
    cases hu
    rw [he]
theorem valsC1 {A : Type} (c : Cd A) (a : A) : vals rho0 [c.av a] = some [c.vl a] := by simp only [vals, c.val]
theorem valsC2 {A B : Type} (c : Cd A) (d : Cd B) (a : A) (b : B) : vals rho0 [c.av a, d.av b] = some [c.vl a, d.vl b] := by simp only [vals, c.val, d.val]
theorem valsC3 {A B D : Type} (c : Cd A) (d : Cd B) (e : Cd D) (a : A) (b : B) (k : D) : vals rho0 [c.av a, d.av b, e.av k] = some [c.vl a, d.vl b, e.vl k] := by simp only [vals, c.val, d.val, e.val]

/-! ### what '==' of two such rows owes -/
def eqP' {A : Type} [Nm A] (x y : A × Bool) (b : Bool) : Prop := plainVals ((Nm.toL x.1).map (It.w 6) ++ [.v (.bool x.2)]) = plainVals ((Nm.toL y.1).map (It.w 6) ++ [.v (.bool y.2)]) ↔ b = true
theorem plainVals_wsb (l : List Nat) (b : Bool) : plainVals (l.map (It.w 6) ++ [.v (.bool b)]) = (l.map (words 6)).flatten ++ [Value.bool b] := by
  induction l with
  | nil => rfl
  | cons n l ih => simp [plainVals, ih]
theorem eqP_of {A : Type} [Nm A] {x y : A × Bool} (h : x = y) : eqP' x y true := by subst h; exact ⟨fun _ => rfl, fun _ => rfl⟩
theorem eqP_iff {A : Type} [NmI A] {x y : A × Bool} {b : Bool} (hx : Sm x.1) (hy : Sm y.1) (h : x = y ↔ b = true) : eqP' x y b := by
  unfold eqP'
  rw [plainVals_wsb, plainVals_wsb]
  refine ⟨fun e => h.1 ?_, fun e => by rw [h.2 e]⟩
  have hl : ∀ l : List Nat, ((l.map (words 6)).flatten).length = 6 * l.length := by
    intro l
    induction l with
    | nil => rfl
    | cons n l ih => simp [length_words, ih]; omega
  obtain ⟨e1, e2⟩ := List.append_inj e (by rw [hl, hl, Nm.len, Nm.len])
  have h1 : x.1 = y.1 := NmI.inj _ _ (flat_inj _ _ hx hy (by rw [Nm.len, Nm.len]) e1)
  have h2 : x.2 = y.2 := by
    simp only [List.cons.injEq, Value.bool.injEq, and_true] at e2
    exact e2
  exact Prod.ext h1 h2

/-! ### answers that are known at a place -/
/-- At some calls (told by their numbers) the answer stands in another form, which is owed to be the same. -/
def forceT (T : CallT) (l : List (Nat × SV)) : CallT := fun f args m nid => match T f args m nid with
  | some out => match Eng.look l nid with
    | some s => some { out with val := s, ob := (∀ ρ, out.val.val ρ = s.val ρ) :: out.ob }
    | none => some out
  | none => none
theorem forceT_ok {P : Program} {T : CallT} (h : CallOk P T) (l : List (Nat × SV)) : CallOk P (forceT T l) := by
  intro f args m nid out hout hob ρ w vs hv hM hnew
  unfold forceT at hout
  split at hout
  · rename_i o ho
    split at hout
    · rename_i s hs
      cases hout
      refine (h f args m nid o ho (fun p hp => hob p (List.mem_cons_of_mem _ hp)) ρ w vs hv hM hnew).mono ?_
      rintro u w' ⟨ρ', h1, h2, h3⟩
      refine ⟨ρ', h1, ?_, h3⟩
      rw [← h2]
      exact (hob _ List.mem_cons_self ρ').symm
    · cases hout
      exact h f args m nid _ ho hob ρ w vs hv hM hnew
  · cases hout
end Go.Proofs.Ythceokldlinjlaa
