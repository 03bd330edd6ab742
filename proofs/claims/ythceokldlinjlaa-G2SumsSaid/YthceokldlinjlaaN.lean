/-
  Rows of a table by numbers of six words: any tuple of them.
-/
import Derived.Test.YthceokldlinjlaaFp
import Derived.Test.YthceokldlinjlaaLi
namespace Go.Proofs.Ythceokldlinjlaa
open Go Go.Eng Go.RowKit Go.Wd Go.Alg Go.Pr

/-- Tuples of numbers, each of six words. -/
class Nm (N : Type) where
  k : Nat
  toL : N → List Nat
  ofL : List Nat → N
  len : ∀ x, (toL x).length = k
  to_of : ∀ l, l.length = k → toL (ofL l) = l
instance : Nm Nat where
  k := 1
  toL n := [n]
  ofL l := match l with | [] => 0 | n :: _ => n
  len _ := rfl
  to_of l h := by match l, h with | [n], _ => rfl
instance {A B : Type} [Nm A] [Nm B] : Nm (A × B) where
  k := Nm.k A + Nm.k B
  toL x := Nm.toL x.1 ++ Nm.toL x.2
  ofL l := (Nm.ofL (l.take (Nm.k A)), Nm.ofL (l.drop (Nm.k A)))
  len x := by rw [List.length_append, Nm.len, Nm.len]
  to_of l h := by
    rw [Nm.to_of _ (by rw [List.length_take]; omega), Nm.to_of _ (by rw [List.length_drop]; omega), List.take_append_drop]
/-- As an argument, as an item row, as a value. -/
def wN {A : Type} [Nm A] (x : A) : AV := ⟨true, (Nm.toL x).map (It.w 6)⟩
def wv {A : Type} [Nm A] (x : A) : Value := .agg (((Nm.toL x).map (words 6)).flatten).toArray
theorem conc_ws (ρ : Rho) (l : List Nat) : conc ρ (l.map (It.w 6)) = some ((l.map (words 6)).flatten) := by
  induction l with
  | nil => rfl
  | cons n l ih => simp [conc, It.cs, ih]
theorem val_wN {A : Type} [Nm A] (ρ : Rho) (x : A) : (wN x).val ρ = some (wv x) := by simp [wN, wv, AV.val, conc_ws]
/-- A row's argument read as such a tuple. -/
def asN (A : Type) [Nm A] (x : AV) : Option A := match x.agg with
  | true => match asWs (Nm.k A) x.its with
    | some r => some (Nm.ofL r)
    | none => none
  | false => none
theorem asN_ok {A : Type} [Nm A] {x : AV} {a : A} (h : asN A x = some a) {ρ : Rho} {v : Value} (hv : x.val ρ = some v) : v = wv a := by
  unfold asN at h
  split at h
  · rename_i hx
    split at h
    · rename_i r hr
      cases h
      obtain ⟨vs, h1, h2⟩ := AV.cells hv
      obtain ⟨h3, rfl⟩ := asWs_ok _ _ _ hr h1
      rcases h2 with ⟨_, rfl⟩ | ⟨h4, _⟩
      · unfold wv; rw [Nm.to_of r h3]
      · rw [hx] at h4; cases h4
    · cases h
  · cases h
def rowN0 {A : Type} [Nm A] (f : FuncId) (g : A) : Row where
  f := f
  ans := fun
    | [] => some (.one (wN g), [])
    | _ => none
def rowN1 {A B : Type} [Nm A] [Nm B] (f : FuncId) (g : A → B) : Row where
  f := f
  ans := fun
    | [x] => match asN A x with
      | some a => some (.one (wN (g a)), [])
      | none => none
    | _ => none
def rowN2 {A B C : Type} [Nm A] [Nm B] [Nm C] (f : FuncId) (g : A → B → C) : Row where
  f := f
  ans := fun
    | [x, y] => match asN A x, asN B y with
      | some a, some b => some (.one (wN (g a b)), [])
      | _, _ => none
    | _ => none
theorem rowN0_ok {A : Type} [Nm A] {f : FuncId} {g : A} (h : Pure Try.prog f [] (wv g)) : RowOk Try.prog (rowN0 f g) := by
  intro args s ob ha hob ρ vs hv
  unfold rowN0 at ha
  simp only at ha
  split at ha
  · cases ha; cases hv; exact ⟨_, val_wN _ _, h⟩
  · cases ha
theorem rowN1_ok {A B : Type} [Nm A] [Nm B] {f : FuncId} {g : A → B} (h : ∀ a, Pure Try.prog f [wv a] (wv (g a))) : RowOk Try.prog (rowN1 f g) := by
  intro args s ob ha hob ρ vs hv
  unfold rowN1 at ha
  simp only at ha
  split at ha
  · split at ha
    · rename_i a hn
      cases ha
      obtain ⟨v1, us, h1, h2, rfl⟩ := vals_cons hv
      cases h2
      rw [asN_ok hn h1]
      exact ⟨_, val_wN _ _, h a⟩
    · cases ha
  · cases ha
theorem rowN2_ok {A B C : Type} [Nm A] [Nm B] [Nm C] {f : FuncId} {g : A → B → C} (h : ∀ a b, Pure Try.prog f [wv a, wv b] (wv (g a b))) : RowOk Try.prog (rowN2 f g) := by
  intro args s ob ha hob ρ vs hv
  unfold rowN2 at ha
  simp only at ha
  split at ha
  · split at ha
    · rename_i a b hn hm
      cases ha
      obtain ⟨v1, us, h1, h2, rfl⟩ := vals_cons hv
      obtain ⟨v2, us', h3, h4, rfl⟩ := vals_cons h2
      cases h4
      rw [asN_ok hn h1, asN_ok hm h3]
      exact ⟨_, val_wN _ _, h a b⟩
    · cases ha
  · cases ha
/-- A bool handed back by a call without arguments. -/
def rowB0 (f : FuncId) : Row where
  f := f
  ans := fun
    | [] => some (vB true, [])
    | _ => none
theorem rowB0_ok {f : FuncId} (h : Pure Try.prog f [] (.bool true)) : RowOk Try.prog (rowB0 f) := by
  intro args s ob ha hob ρ vs hv
  unfold rowB0 at ha
  simp only at ha
  split at ha
  · cases ha; cases hv; exact ⟨_, vB_val _ _, h⟩
  · cases ha
theorem pureN_of_run {T : CallT} (hT : CallOk Try.prog T) {f : FuncId} {args : List AV} {vs : List Value} {hints : List (Nat × Bool)} {C : Type} [Nm C] {x y : C} {ob : List Prop} (h : run1 T f args hints = some (.one (wN x), ob)) (hob : ∀ p ∈ ob, p)
    (hv : vals rho0 args = some vs) (he : x = y) : Pure Try.prog f vs (wv y) :=
  pure_of_run1 hT h hob hv fun ρ u hu => by
    have e : (wN x).val ρ = some u := hu
    rw [val_wN] at e
    cases e
    rw [he]
theorem vals0 : vals rho0 [] = some [] := rfl
theorem vals1 {A : Type} [Nm A] (a : A) : vals rho0 [wN a] = some [wv a] := by simp only [vals, val_wN]
theorem vals2 {A B : Type} [Nm A] [Nm B] (a : A) (b : B) : vals rho0 [wN a, wN b] = some [wv a, wv b] := by simp only [vals, val_wN]
theorem vals3 {A B C : Type} [Nm A] [Nm B] [Nm C] (a : A) (b : B) (c : C) : vals rho0 [wN a, wN b, wN c] = some [wv a, wv b, wv c] := by simp only [vals, val_wN]

/-! ### two rows are told from one another -/
/-- What '==' of two such rows owes. -/
def eqW {A : Type} [Nm A] (x y : A) (b : Bool) : Prop := plainVals ((Nm.toL x).map (It.w 6)) = plainVals ((Nm.toL y).map (It.w 6)) ↔ b = true
theorem plainVals_ws (l : List Nat) : plainVals (l.map (It.w 6)) = (l.map (words 6)).flatten := by
  induction l with
  | nil => rfl
  | cons n l ih => simp [plainVals, ih]
theorem eqW_of {A : Type} [Nm A] {x y : A} (h : x = y) : eqW x y true := by subst h; exact ⟨fun _ => rfl, fun _ => rfl⟩
/-- Numbers that six words hold. -/
def Sm {A : Type} [Nm A] (x : A) : Prop := ∀ n ∈ Nm.toL x, n < M6
theorem flat_inj : ∀ (l m : List Nat), (∀ n ∈ l, n < M6) → (∀ n ∈ m, n < M6) → l.length = m.length → (l.map (words 6)).flatten = (m.map (words 6)).flatten → l = m := by
  intro l
  induction l with
  | nil => intro m _ _ hl _; cases m with
    | nil => rfl
    | cons b m => cases hl
  | cons a l ih => intro m h1 h2 hl h; cases m with
    | nil => cases hl
    | cons b m =>
      simp only [List.map_cons, List.flatten_cons] at h
      obtain ⟨e1, e2⟩ := List.append_inj h (by simp [length_words])
      have := words_inj e1
      have ha : a < pw 6 := h1 a List.mem_cons_self
      have hb : b < pw 6 := h2 b List.mem_cons_self
      rw [Nat.mod_eq_of_lt ha, Nat.mod_eq_of_lt hb] at this
      rw [this, ih m (fun n hn => h1 n (List.mem_cons_of_mem _ hn)) (fun n hn => h2 n (List.mem_cons_of_mem _ hn)) (by simpa using hl) e2]
class NmI (A : Type) extends Nm A where
  inj : ∀ x y : A, toL x = toL y → x = y
instance : NmI Nat where
  inj x y h := by cases h; rfl
instance {A B : Type} [NmI A] [NmI B] : NmI (A × B) where
  inj x y h := by
    obtain ⟨e1, e2⟩ := List.append_inj h (by rw [Nm.len, Nm.len])
    exact Prod.ext (NmI.inj _ _ e1) (NmI.inj _ _ e2)
theorem eqW_iff {A : Type} [NmI A] {x y : A} {b : Bool} (hx : Sm x) (hy : Sm y) (h : x = y ↔ b = true) : eqW x y b := by
  unfold eqW
  rw [plainVals_ws, plainVals_ws]
  refine ⟨fun e => h.1 (NmI.inj _ _ (flat_inj _ _ hx hy (by rw [Nm.len, Nm.len]) e)), fun e => by rw [h.2 e]⟩
/-- The hint that all comparisons are true. -/
def allT (n : Nat) : List (Nat × Bool) := (List.range n).map fun i => (i, true)
theorem gives_of_run1 {T : CallT} (hT : CallOk Try.prog T) {f : FuncId} {args : List AV} {hints : List (Nat × Bool)} {s : SV} {ob : List Prop} (h : run1 T f args hints = some (s, ob)) (hob : ∀ p ∈ ob, p) {vs : List Value} (hv : vals rho0 args = some vs)
    {v : Value} (hval : ∀ ρ u, s.val ρ = some u → u = v) (w : World) : Gives Try.prog f vs.toArray v w := by
  unfold run1 at h
  split at h
  · rename_i d hd
    split at h
    · rename_i o ho
      cases h
      exact gives_of_run mixed tyTab_ok (callN_ok mixed tyTab_ok hT fn1_ok 1000 6) (fn1_ok _ _ hd) ho hob hv hval w
    · cases h
  · cases h
theorem val_true : ∀ ρ u, (vB true).val ρ = some u → u = .bool true := by
  intro ρ u hu
  rw [vB_val] at hu
  cases hu; rfl
theorem pureB_of_run {T : CallT} (hT : CallOk Try.prog T) {f : FuncId} {args : List AV} {vs : List Value} {hints : List (Nat × Bool)} {ob : List Prop} (h : run1 T f args hints = some (vB true, ob)) (hob : ∀ p ∈ ob, p)
    (hv : vals rho0 args = some vs) : Pure Try.prog f vs (.bool true) := pure_of_run1 hT h hob hv val_true

/-! ### the field's rows -/
def rdN (n : Nat) : Nat := (φ n).val
def addF (m n : Nat) : Nat := (φ m + φ n).val
def subF (m n : Nat) : Nat := (φ m - φ n).val
def mulF (m n : Nat) : Nat := (φ m * φ n).val
def negF (n : Nat) : Nat := (-φ n).val
noncomputable def invF (n : Nat) : Nat := (inv (φ n)).val
theorem wv_nat (n : Nat) : wv n = .agg (words 6 n).toArray := by simp [wv, Nm.toL]
theorem fp_reduce (a : Nat) : Pure Try.prog 106 [wv a] (wv (rdN a)) := by
  rw [wv_nat, wv_nat, rdN, ← rd_val]; exact rd_pure a
theorem fp_add (a b : Nat) : Pure Try.prog 69 [wv a, wv b] (wv (addF a b)) := by
  rw [wv_nat, wv_nat, wv_nat, addF, ← add_val]; exact add_pure a b
theorem fp_sub (a b : Nat) : Pure Try.prog 93 [wv a, wv b] (wv (subF a b)) := by
  rw [wv_nat, wv_nat, wv_nat, subF, ← sub_val]; exact sub_pure a b
theorem fp_mul (a b : Nat) : Pure Try.prog 68 [wv a, wv b] (wv (mulF a b)) := by
  rw [wv_nat, wv_nat, wv_nat, mulF, ← mul_val]; exact mul_pure a b
theorem fp_neg (a : Nat) : Pure Try.prog 91 [wv a] (wv (negF a)) := by
  rw [wv_nat, wv_nat, negF, ← neg_val]; exact neg_pure a
theorem fp_inv (a : Nat) : Pure Try.prog 94 [wv a] (wv (invF a)) := by
  rw [wv_nat, wv_nat, invF, ← inv_val]; exact inv_pure a (gcd_or a)
theorem fp_p : Pure Try.prog 131 [] (wv pN) := by
  obtain ⟨v, h1, h2⟩ := p_ok [] _ _ rfl (fun p hp => by cases hp) rho0 [] rfl
  have : AV.val rho0 (W6 pN) = some v := h1
  rw [val_W6] at this
  cases this
  rw [wv_nat]; exact h2
noncomputable def rows01 : List Row := [rowN1 106 rdN, rowN2 69 addF, rowN2 93 subF, rowN2 68 mulF, rowN1 91 negF, rowN1 94 invF, rowN0 131 pN]
theorem rows01_ok : ∀ r ∈ rows01, RowOk Try.prog r := by
  simp only [rows01, List.forall_mem_cons, List.not_mem_nil, false_imp_iff, implies_true, and_true]
  exact ⟨rowN1_ok fp_reduce, rowN2_ok fp_add, rowN2_ok fp_sub, rowN2_ok fp_mul, rowN1_ok fp_neg, rowN1_ok fp_inv, rowN0_ok fp_p⟩
end Go.Proofs.Ythceokldlinjlaa
