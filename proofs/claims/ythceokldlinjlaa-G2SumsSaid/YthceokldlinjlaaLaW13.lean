/-
  The law of chapter 13 on sums of multiples: what it computes, whatever the slices.
-/
import Derived.Test.YthceokldlinjlaaLaV13
namespace Go.Proofs.Ythceokldlinjlaa
open Go Go.Eng Go.RowKit Go.Wd Go.Alg Go.Pr

/-! ### the memory -/
theorem mem_rhoM {w : World} : ∀ (l : List (Nat × List It × (Nat × Nat) × List Value)), (∀ x ∈ l, x.1 < 16 ∧ conc (rhoL (l.map fun x => (x.1, x.2.2.1))) x.2.1 = some x.2.2.2 ∧ Stands w x.2.2.1.1 x.2.2.1.2 x.2.2.2) →
    Mem (rhoL (l.map fun x => (x.1, x.2.2.1))) (memL (l.map fun x => (x.1, x.2.1))) w := by
  intro l h
  have key : ∀ (l : List (Nat × List It × (Nat × Nat) × List Value)) (id : Nat), (∃ x ∈ l, x.1 = id ∧ rhoL (l.map fun x => (x.1, x.2.2.1)) id = some x.2.2.1 ∧ Eng.look (l.map fun x => (x.1, x.2.1)) id = some x.2.1) ∨
      (rhoL (l.map fun x => (x.1, x.2.2.1)) id = none ∧ Eng.look (l.map fun x => (x.1, x.2.1)) id = none) := by
    intro l id
    induction l with
    | nil => exact .inr ⟨rfl, rfl⟩
    | cons x l ih =>
      by_cases e : x.1 = id
      · exact .inl ⟨x, List.mem_cons_self, e, by simp [rhoL, e], by simp [Eng.look, e]⟩
      · simp only [List.map_cons, rhoL, Eng.look, e, if_false, beq_iff_eq]
        rcases ih with ⟨y, hy, h⟩ | h
        · exact .inl ⟨y, List.mem_cons_of_mem _ hy, h⟩
        · exact .inr h
  refine ⟨⟨fun id its hl => ?_⟩, ⟨fun id id' b' o1 o2 _ _ ho _ _ _ _ e1 _ => ?_⟩, fun id q hq => ?_⟩
  · rw [blk_memL] at hl
    rcases key l id with ⟨x, hx, he, h1, h2⟩ | ⟨_, h2⟩
    · rw [h2] at hl; cases hl
      obtain ⟨h16, hc, hs⟩ := h x hx
      refine ⟨x.2.2.1.1, x.2.2.1.2, x.2.2.2, h1, hc, hs.1, fun ho => ?_, fun _ _ => hs.2, fun ho => ?_⟩
      · simp only [own, Bool.and_eq_true, decide_eq_true_eq] at ho; omega
      · simp only [app, Bool.and_eq_true, decide_eq_true_eq] at ho; omega
    · rw [h2] at hl; cases hl
  · rcases key l id with ⟨x, hx, he, h1, h2⟩ | ⟨h1, _⟩
    · have := (h x hx).1
      simp only [own, app, Bool.and_eq_true, decide_eq_true_eq] at ho; omega
    · rw [h1] at e1; cases e1
  · rw [blk_memL]
    rcases key l id with ⟨x, hx, he, h1, h2⟩ | ⟨h1, _⟩
    · exact ⟨_, h2⟩
    · rw [h1] at hq; cases hq
theorem no_ownM (l : List (Nat × (Nat × Nat))) (h : ∀ x ∈ l, x.1 < 16) : ∀ c, ¬ Own (rhoL l) c := by
  rintro c ⟨id, _, ho, hq⟩
  simp only [own, app, Bool.and_eq_true, decide_eq_true_eq] at ho
  induction l with
  | nil => cases hq
  | cons x l ih =>
    obtain ⟨k, q⟩ := x
    unfold rhoL at hq
    split at hq
    · rename_i e
      have : k < 16 := h _ List.mem_cons_self
      omega
    · exact ih (fun y hy => h y (List.mem_cons_of_mem _ hy)) hq
/-- What a slice's value is, by its kind and its place. -/
def KdAt (W : World) (x : Value) : Kd → Nat × Nat → Prop
  | .e a c, _ => x = .slice a 0 c
  | .w len cap n, q => x = .slice (some ⟨q.1, q.2, none⟩) len cap ∧ SlHas W q.1 q.2 len n
def AllK (W : World) : List Value → List (Kd × (Nat × Nat)) → Prop
  | [], [] => True
  | x :: xs, (k, q) :: l => KdAt W x k q ∧ AllK W xs l
  | _, _ => False
theorem kinds_ex {W : World} : ∀ l : List Value, (∀ x ∈ l, IsWordsE W x) → ∃ kqs, AllK W l kqs ∧ kqs.length = l.length := by
  intro l
  induction l with
  | nil => intro _; exact ⟨[], trivial, rfl⟩
  | cons x l ih =>
    intro h
    obtain ⟨kqs, h1, h2⟩ := ih fun y hy => h y (List.mem_cons_of_mem _ hy)
    rcases h x List.mem_cons_self with ⟨a, c, rfl⟩ | ⟨b, o, len, cap, n, rfl, _, hs⟩
    · exact ⟨(.e a c, (0, 0)) :: kqs, ⟨rfl, h1⟩, by simp [h2]⟩
    · exact ⟨(.w len cap n, (b, o)) :: kqs, ⟨⟨rfl, hs⟩, h1⟩, by simp [h2]⟩
def entK (id : Nat) : Kd → Nat × Nat → List (Nat × List It × (Nat × Nat) × List Value)
  | .e _ _, _ => []
  | .w len _ n, q => [(id, anyW len n, q, words len n)]
def entKs : Nat → List (Kd × (Nat × Nat)) → List (Nat × List It × (Nat × Nat) × List Value)
  | _, [] => []
  | id, (k, q) :: l => entK id k q ++ entKs (id + 1) l
def isW : Kd → Bool
  | .e _ _ => false
  | .w _ _ _ => true
theorem rho_ent : ∀ (kqs : List (Kd × (Nat × Nat))) (id i : Nat) (k : Kd) (q : Nat × Nat), kqs[i]? = some (k, q) → isW k = true → rhoL ((entKs id kqs).map fun x => (x.1, x.2.2.1)) (id + i) = some q := by
  intro kqs
  induction kqs with
  | nil => intro id i k q h; cases h
  | cons y l ih =>
    obtain ⟨k0, q0⟩ := y
    intro id i k q h hw
    cases k0 with
    | e a c =>
      cases i with
      | zero => simp at h; obtain ⟨rfl, rfl⟩ := h; cases hw
      | succ i =>
        have := ih (id + 1) i k q (by simpa using h) hw
        rw [show id + (i + 1) = id + 1 + i by omega]
        exact this
    | w len cap n =>
      cases i with
      | zero =>
        simp at h
        obtain ⟨rfl, rfl⟩ := h
        show rhoL ((id, q0) :: _) (id + 0) = some q0
        simp [rhoL]
      | succ i =>
        have := ih (id + 1) i k q (by simpa using h) hw
        rw [show id + (i + 1) = id + 1 + i by omega]
        show rhoL ((id, q0) :: _) (id + 1 + i) = some q
        rw [rhoL, if_neg (by omega)]
        exact this
theorem conc_itsK {W : World} {ρ : Rho} : ∀ (kqs : List (Kd × (Nat × Nat))) (xs : List Value) (id : Nat), AllK W xs kqs → (∀ i k q, kqs[i]? = some (k, q) → isW k = true → ρ (id + i) = some q) → conc ρ (itsK id (kqs.map (·.1))) = some xs := by
  intro kqs
  induction kqs with
  | nil => intro xs id h _; cases xs with
    | nil => rfl
    | cons x xs => cases h
  | cons y l ih =>
    obtain ⟨k, q⟩ := y
    intro xs id h hρ
    cases xs with
    | nil => cases h
    | cons x xs =>
      obtain ⟨h1, h2⟩ := h
      have hr := ih xs (id + 1) h2 fun i k' q' hi hw => by
        have := hρ (i + 1) k' q' (by simpa using hi) hw
        rwa [show id + (i + 1) = id + 1 + i by omega] at this
      have hx : (k.it id).cs ρ = some [x] := by
        cases k with
        | e a c => cases h1; rfl
        | w len cap n =>
          obtain ⟨rfl, _⟩ := h1
          have := hρ 0 _ q rfl rfl
          simp only [Nat.add_zero] at this
          simp [Kd.it, It.cs, this]
      exact conc_mk hx hr
theorem ent_lt : ∀ (kqs : List (Kd × (Nat × Nat))) (id : Nat), ∀ x ∈ entKs id kqs, id ≤ x.1 ∧ x.1 < id + kqs.length := by
  intro kqs
  induction kqs with
  | nil => intro id x hx; cases hx
  | cons y l ih =>
    obtain ⟨k, q⟩ := y
    intro id x hx
    rcases List.mem_append.1 hx with hx | hx
    · cases k with
      | e a c => cases hx
      | w len cap n =>
        simp only [entK, List.mem_singleton] at hx
        subst hx
        simp
    · have := ih (id + 1) x hx
      simp only [List.length_cons]
      omega
theorem ent_ok {W : World} : ∀ (kqs : List (Kd × (Nat × Nat))) (xs : List Value) (id : Nat), AllK W xs kqs → ∀ x ∈ entKs id kqs, (∀ ρ, conc ρ x.2.1 = some x.2.2.2) ∧ Stands W x.2.2.1.1 x.2.2.1.2 x.2.2.2 := by
  intro kqs
  induction kqs with
  | nil => intro xs id _ x hx; cases hx
  | cons y l ih =>
    obtain ⟨k, q⟩ := y
    intro xs id h x hx
    cases xs with
    | nil => cases h
    | cons v xs =>
      obtain ⟨h1, h2⟩ := h
      rcases List.mem_append.1 hx with hx | hx
      · cases k with
        | e a c => cases hx
        | w len cap n =>
          simp only [entK, List.mem_singleton] at hx
          subst hx
          exact ⟨fun ρ => by simp [anyW, conc, It.cs, words], ⟨h1.2.1, h1.2.2⟩⟩
      · exact ih xs (id + 1) h2 x hx
theorem ent_mem : ∀ (kqs : List (Kd × (Nat × Nat))) (id : Nat), (entKs id kqs).map (fun x => (x.1, x.2.1)) = memK id (kqs.map (·.1)) := by
  intro kqs
  induction kqs with
  | nil => intro id; rfl
  | cons y l ih =>
    obtain ⟨k, q⟩ := y
    intro id
    simp only [entKs, List.map_append, List.map_cons, memK, ih]
    congr 1
    cases k <;> rfl
/-- All of it: the slice of slices in block 1, what else there is in 'pre' (block 2), each slice's words behind it. -/
theorem mem_V {W : World} {b o : Nat} {xs : List Value} {kqs : List (Kd × (Nat × Nat))} (hk : AllK W xs kqs) (hlen : kqs.length ≤ 3) (hx : Stands W b o xs) (pre : List (Nat × List It × (Nat × Nat) × List Value)) (hp : ∀ x ∈ pre, x.1 = 2 ∧ (∀ ρ, conc ρ x.2.1 = some x.2.2.2) ∧ Stands W x.2.2.1.1 x.2.2.1.2 x.2.2.2) :
    ∃ ρ, Mem ρ (memL ((1, itsK 3 (kqs.map (·.1))) :: (pre.map (fun x => (x.1, x.2.1)) ++ memK 3 (kqs.map (·.1))))) W ∧ (∀ c, ¬ Own ρ c) ∧ ρ 1 = some (b, o) ∧ (∀ x ∈ pre.head?, ρ 2 = some x.2.2.1) := by
  let l : List (Nat × List It × (Nat × Nat) × List Value) := (1, itsK 3 (kqs.map (·.1)), (b, o), xs) :: (pre ++ entKs 3 kqs)
  have hρ : ∀ i k q, kqs[i]? = some (k, q) → isW k = true → rhoL (l.map fun x => (x.1, x.2.2.1)) (3 + i) = some q := by
    intro i k q hi hw
    have h := rho_ent kqs 3 i k q hi hw
    show rhoL ((1, (b, o)) :: (pre ++ entKs 3 kqs).map fun x => (x.1, x.2.2.1)) (3 + i) = some q
    rw [rhoL, if_neg (by omega), List.map_append]
    have : ∀ (p : List (Nat × List It × (Nat × Nat) × List Value)), (∀ x ∈ p, x.1 = 2) → ∀ r, rhoL (p.map (fun x => (x.1, x.2.2.1)) ++ r) (3 + i) = rhoL r (3 + i) := by
      intro p
      induction p with
      | nil => intro _ r; rfl
      | cons y p ih =>
        intro hy r
        have e := hy y List.mem_cons_self
        simp only [List.map_cons, List.cons_append]
        rw [rhoL, if_neg (by omega)]
        exact ih (fun x hx => hy x (List.mem_cons_of_mem _ hx)) r
    rw [this pre (fun x hx => (hp x hx).1)]
    exact h
  have hl : ∀ x ∈ l, x.1 < 16 ∧ conc (rhoL (l.map fun x => (x.1, x.2.2.1))) x.2.1 = some x.2.2.2 ∧ Stands W x.2.2.1.1 x.2.2.1.2 x.2.2.2 := by
    intro x hx'
    rcases List.mem_cons.1 hx' with rfl | hx'
    · exact ⟨by show 1 < 16; decide, conc_itsK kqs xs 3 hk hρ, hx⟩
    · rcases List.mem_append.1 hx' with hx' | hx'
      · obtain ⟨h1, h2, h3⟩ := hp x hx'
        exact ⟨by rw [h1]; decide, h2 _, h3⟩
      · obtain ⟨h1, h2⟩ := ent_ok kqs xs 3 hk x hx'
        have := ent_lt kqs 3 x hx'
        exact ⟨by omega, h1 _, h2⟩
  refine ⟨rhoL (l.map fun x => (x.1, x.2.2.1)), ?_, no_ownM _ (fun x hx' => ?_), rfl, fun x hx' => ?_⟩
  · have := mem_rhoM l hl
    rw [show l.map (fun x => (x.1, x.2.1)) = (1, itsK 3 (kqs.map (·.1))) :: (pre.map (fun x => (x.1, x.2.1)) ++ memK 3 (kqs.map (·.1))) by
      show (1, _) :: List.map _ (pre ++ entKs 3 kqs) = _
      rw [List.map_append, ent_mem]] at this
    exact this
  · rw [List.mem_map] at hx'
    obtain ⟨y, hy, rfl⟩ := hx'
    exact (hl y hy).1
  · cases pre with
    | nil => cases hx'
    | cons y p =>
      simp at hx'
      subst hx'
      have e := (hp _ List.mem_cons_self).1
      show rhoL ((1, (b, o)) :: (y.1, y.2.2.1) :: _) 2 = some y.2.2.1
      rw [rhoL, if_neg (by omega), rhoL, if_pos e]
--CASES
theorem all_appV {l m : List Prop} (h : ∀ q ∈ l, q) (k : ∀ q ∈ m, q) : ∀ q ∈ l ++ m, q := fun q hq => (List.mem_append.1 hq).elim (h q) (k q)
theorem val_slJ {ρ : Rho} {id b o : Nat} (h : ρ id = some (b, o)) (len cap : Nat) : (slJ id len cap).val ρ = some (.slice (some ⟨b, o, none⟩) len cap) := AV.val_mk (by simp [It.cs, h])
theorem fin_V {x y : AV} {mem : List (Nat × List It)} {h : List (Nat × Bool)} {ne : Bool} {l : List Bool} {ob : List Prop} (hr : runV x y mem h ne l = some (vB true, ob)) (hob : ∀ p ∈ ob, p) {ρ : Rho} {W : World} (hM : Mem ρ (memL mem) W) (hno : ∀ c, ¬ Own ρ c) {v v' : Value}
    (hx : x.val ρ = some v) (hy : y.val ρ = some v') : Gives Try.prog 7 #[v, v'] (.bool true) W := by
  have hv : vals ρ [x, y] = some [v, v'] := by simp only [vals, hx, hy]
  exact gives_of_runH T13v_ok hr hob hM hno hv val_true
theorem obMul_ok {k : Kd} (h : lenK k ≤ 1) : ∀ p ∈ obMul k, p := by
  cases k with
  | e a c => intro p hp; cases hp
  | w len cap n =>
    have h : len ≤ 1 := h
    exact all_cons rfl (all_cons rfl (all_cons (by omega) all_nil))
theorem gt_f {n : Nat} (h : n ≤ 3) : gt3 n false := iff_f (by omega)
theorem gt_t {n : Nat} (h : 3 < n) : gt3 n true := iff_t (by omega)
theorem ob_len {k : Kd} (h : lenK k ≤ 1) : obLen false k := iff_f (by omega)
theorem ob_long {len cap n : Nat} (h : ¬ lenK (.w len cap n) ≤ 1) : obLen true (.w len cap n) := iff_t (by omega)
theorem ne_t {n m : Nat} (h : n ≠ m) : neV n m true := iff_t (by omega)
theorem ne_f (n : Nat) : neV n n false := iff_f fun h => h rfl
theorem er_f {k : Kd} {p : P2} (h : errK k p = 0) : errK k p ≠ 0 ↔ false = true := iff_f fun e => e h
theorem er_t {k : Kd} {p : P2} (h : errK k p ≠ 0) : errK k p ≠ 0 ↔ true = true := iff_t h
theorem neFin_ok : ∀ p ∈ neFin, p := all_cons (eqP_of rfl) (all_cons (iff_t rfl) all_nil)
theorem okFin_ok (l : List (Kd × P2)) : ∀ p ∈ okFin l, p := all_cons (eqP_of rfl) (all_cons (iff_t rfl) all_nil)
theorem erFin_ok (k : Kd) (p : P2) : ∀ x ∈ erFin k p, x := all_cons (eqP_of rfl) (all_cons (iff_t rfl) all_nil)
/-- A slice of points: an empty one, or points. -/
def IsP (W : World) (v : Value) : Prop := (∃ a e, v = .slice a 0 e) ∨ ∃ b o m c, ∃ l : List P2, v = .slice (some ⟨b, o, none⟩) m c ∧ 1 ≤ m ∧ l.length = m ∧ Stands W b o (ptsV l)
theorem stands_none {W : World} {b o : Nat} {l : List Value} (h : Stands W b o l) : Stands W b o [] := ⟨h.1, fun i v hi => by cases hi⟩
theorem pre_none {W : World} {b o : Nat} {l : List Value} (h : Stands W b o l) : ∀ x ∈ ([(2, [], (b, o), [])] : List (Nat × List It × (Nat × Nat) × List Value)), x.1 = 2 ∧ (∀ ρ, conc ρ x.2.1 = some x.2.2.2) ∧ Stands W x.2.2.1.1 x.2.2.1.2 x.2.2.2 := by
  intro x hx
  rw [List.mem_singleton] at hx
  subst hx
  exact ⟨rfl, fun ρ => rfl, stands_none h⟩
theorem pre_pts {W : World} {b o : Nat} {l : List P2} (h : Stands W b o (ptsV l)) : ∀ x ∈ ([(2, ptsI l, (b, o), ptsV l)] : List (Nat × List It × (Nat × Nat) × List Value)), x.1 = 2 ∧ (∀ ρ, conc ρ x.2.1 = some x.2.2.2) ∧ Stands W x.2.2.1.1 x.2.2.1.2 x.2.2.2 := by
  intro x hx
  rw [List.mem_singleton] at hx
  subst hx
  exact ⟨rfl, fun ρ => conc_pts ρ l, h⟩
theorem mem_two {W : World} {b o b2 o2 : Nat} {l l' : List Value} (h1 : Stands W b o l) (h2 : Stands W b2 o2 l') : ∃ ρ, Mem ρ (memL [(1, []), (2, [])]) W ∧ (∀ c, ¬ Own ρ c) ∧ ρ 1 = some (b, o) ∧ ρ 2 = some (b2, o2) := by
  have := mem_rhoM (w := W) [(1, [], (b, o), []), (2, [], (b2, o2), [])] (List.forall_mem_cons.2 ⟨⟨(by show 1 < 16; decide), rfl, stands_none h1⟩, List.forall_mem_cons.2 ⟨⟨(by show 2 < 16; decide), rfl, stands_none h2⟩, fun _ h => by cases h⟩⟩)
  exact ⟨_, this, no_ownM _ (List.forall_mem_cons.2 ⟨(by show 1 < 16; decide), List.forall_mem_cons.2 ⟨(by show 2 < 16; decide), fun _ h => by cases h⟩⟩), rfl, rfl⟩
theorem mem_one {W : World} {id b o : Nat} {l : List Value} (hid : id < 16) (h1 : Stands W b o l) : ∃ ρ, Mem ρ (memL [(id, [])]) W ∧ (∀ c, ¬ Own ρ c) ∧ ρ id = some (b, o) := by
  have := mem_rhoM (w := W) [(id, [], (b, o), [])] (List.forall_mem_cons.2 ⟨⟨hid, rfl, stands_none h1⟩, fun _ h => by cases h⟩)
  exact ⟨_, this, no_ownM _ (List.forall_mem_cons.2 ⟨hid, fun _ h => by cases h⟩), by simp [rhoL]⟩
theorem mem_zero (W : World) : Mem (rhoL []) (memL []) W ∧ (∀ c, ¬ Own (rhoL []) c) := ⟨mem_rhoM (w := W) [] (fun _ h => by cases h), no_ownM [] (fun _ h => by cases h)⟩
theorem gv_1 {W : World} {b o cap : Nat} {x0 : Value} {k0 : Kd} {q0 : Nat × Nat} (hx : Stands W b o [x0]) (hk : AllK W [x0] [(k0, q0)]) {v : Value} (hP : IsP W v) : Gives Try.prog 7 #[.slice (some ⟨b, o, none⟩) 1 cap, v] (.bool true) W := by
  rcases hP with ⟨a, e, rfl⟩ | ⟨b2, o2, m, cw, l, rfl, hm1, hl, hs⟩
  · skip
    obtain ⟨ρ, hM, hno, h1, _⟩ := mem_V hk (by simp) hx [] (fun x h => by cases h)
    have hx1 := val_slJ h1 1 cap
    have hy1 := val_slE ρ a e
    by_cases c0 : lenK k0 ≤ 1
    · skip
      exact fin_V (v_ne1e cap a e k0) (all_cons (gt_f (by omega)) (all_cons (gt_f (by omega)) (all_cons (ob_len c0) (all_cons (ne_t (by omega)) (all_cons (ne_t (by omega)) neFin_ok))))) hM hno hx1 hy1
    · cases k0 with
      | e a0 e0 => exact absurd (Nat.zero_le 1) c0
      | w len cp x =>
        obtain ⟨ρ, hM, hno, h1, _⟩ := mem_V hk (by simp) hx [] (fun x h => by cases h)
        have hx1 := val_slJ h1 1 cap
        have hy1 := val_slE ρ a e
        exact fin_V (v_lo1e_0 cap a e len cp x) (all_cons (gt_f (by omega)) (all_cons (gt_f (by omega)) (all_cons (ob_long c0) all_nil))) hM hno hx1 hy1
  · by_cases m3 : 3 < m
    · obtain ⟨ρ, hM, hno, h1, h2⟩ := mem_two hx hs
      exact fin_V (v_big3 cap cw 1 m) (all_cons (gt_f (by omega)) (all_cons (gt_t m3) all_nil)) hM hno (val_slJ h1 1 cap) (val_slJ h2 m cw)
    · skip
      by_cases c0 : lenK k0 ≤ 1
      · skip
        by_cases hmn : m = 1
        · subst hmn
          match l, hl with
          | [p0], _ =>
            obtain ⟨ρ, hM, hno, h1, h2⟩ := mem_V hk (by simp) hx _ (pre_pts hs)
            have hx1 := val_slJ h1 1 cap
            have hy1 := val_slJ (h2 _ rfl) 1 cw
            by_cases e0 : errK k0 p0 = 0
            · skip
              exact fin_V (v_ok1 cap cw p0 k0) (all_appV (all_appV (all_appV (all_cons (gt_f (by omega)) (all_cons (gt_f (by omega)) (all_cons (ob_len c0) all_nil))) (all_cons (ne_f _) (all_appV (obMul_ok c0) (all_cons (er_f e0) all_nil)))) (all_cons (ne_f _) (all_appV (obMul_ok c0) (all_cons (er_f e0) all_nil)))) (okFin_ok _)) hM hno hx1 hy1
            · exact fin_V (v_er1_0 cap cw p0 k0) (all_appV (all_appV (all_appV (all_cons (gt_f (by omega)) (all_cons (gt_f (by omega)) (all_cons (ob_len c0) all_nil))) (all_cons (ne_f _) (all_appV (obMul_ok c0) (all_cons (er_t e0) all_nil)))) (all_cons (ne_f _) (all_appV (obMul_ok c0) (all_cons (er_t e0) all_nil)))) (erFin_ok _ _)) hM hno hx1 hy1
        · obtain ⟨ρ, hM, hno, h1, h2⟩ := mem_V hk (by simp) hx _ (pre_none hs)
          have hx1 := val_slJ h1 1 cap
          have hy1 := val_slJ (h2 _ rfl) m cw
          exact fin_V (v_ne1w cap cw m k0) (all_cons (gt_f (by omega)) (all_cons (gt_f (by omega)) (all_cons (ob_len c0) (all_cons (ne_t (by omega)) (all_cons (ne_t (by omega)) neFin_ok))))) hM hno hx1 hy1
      · cases k0 with
        | e a0 e0 => exact absurd (Nat.zero_le 1) c0
        | w len cp x =>
          obtain ⟨ρ, hM, hno, h1, h2⟩ := mem_V hk (by simp) hx _ (pre_none hs)
          have hx1 := val_slJ h1 1 cap
          have hy1 := val_slJ (h2 _ rfl) m cw
          exact fin_V (v_lo1w_0 cap cw m len cp x) (all_cons (gt_f (by omega)) (all_cons (gt_f (by omega)) (all_cons (ob_long c0) all_nil))) hM hno hx1 hy1
theorem gv_2 {W : World} {b o cap : Nat} {x0 x1 : Value} {k0 k1 : Kd} {q0 q1 : Nat × Nat} (hx : Stands W b o [x0, x1]) (hk : AllK W [x0, x1] [(k0, q0), (k1, q1)]) {v : Value} (hP : IsP W v) : Gives Try.prog 7 #[.slice (some ⟨b, o, none⟩) 2 cap, v] (.bool true) W := by
  rcases hP with ⟨a, e, rfl⟩ | ⟨b2, o2, m, cw, l, rfl, hm1, hl, hs⟩
  · skip
    obtain ⟨ρ, hM, hno, h1, _⟩ := mem_V hk (by simp) hx [] (fun x h => by cases h)
    have hx1 := val_slJ h1 2 cap
    have hy1 := val_slE ρ a e
    by_cases c0 : lenK k0 ≤ 1
    · skip
      by_cases c1 : lenK k1 ≤ 1
      · skip
        exact fin_V (v_ne2e cap a e k0 k1) (all_cons (gt_f (by omega)) (all_cons (gt_f (by omega)) (all_cons (ob_len c0) (all_cons (ob_len c1) (all_cons (ne_t (by omega)) (all_cons (ne_t (by omega)) neFin_ok)))))) hM hno hx1 hy1
      · cases k1 with
        | e a0 e0 => exact absurd (Nat.zero_le 1) c1
        | w len cp x =>
          obtain ⟨ρ, hM, hno, h1, _⟩ := mem_V hk (by simp) hx [] (fun x h => by cases h)
          have hx1 := val_slJ h1 2 cap
          have hy1 := val_slE ρ a e
          exact fin_V (v_lo2e_1 cap a e len cp x k0) (all_cons (gt_f (by omega)) (all_cons (gt_f (by omega)) (all_cons (ob_len c0) (all_cons (ob_long c1) all_nil)))) hM hno hx1 hy1
    · cases k0 with
      | e a0 e0 => exact absurd (Nat.zero_le 1) c0
      | w len cp x =>
        obtain ⟨ρ, hM, hno, h1, _⟩ := mem_V hk (by simp) hx [] (fun x h => by cases h)
        have hx1 := val_slJ h1 2 cap
        have hy1 := val_slE ρ a e
        exact fin_V (v_lo2e_0 cap a e len cp x k1) (all_cons (gt_f (by omega)) (all_cons (gt_f (by omega)) (all_cons (ob_long c0) all_nil))) hM hno hx1 hy1
  · by_cases m3 : 3 < m
    · obtain ⟨ρ, hM, hno, h1, h2⟩ := mem_two hx hs
      exact fin_V (v_big3 cap cw 2 m) (all_cons (gt_f (by omega)) (all_cons (gt_t m3) all_nil)) hM hno (val_slJ h1 2 cap) (val_slJ h2 m cw)
    · skip
      by_cases c0 : lenK k0 ≤ 1
      · skip
        by_cases c1 : lenK k1 ≤ 1
        · skip
          by_cases hmn : m = 2
          · subst hmn
            match l, hl with
            | [p0, p1], _ =>
              obtain ⟨ρ, hM, hno, h1, h2⟩ := mem_V hk (by simp) hx _ (pre_pts hs)
              have hx1 := val_slJ h1 2 cap
              have hy1 := val_slJ (h2 _ rfl) 2 cw
              by_cases e0 : errK k0 p0 = 0
              · skip
                by_cases e1 : errK k1 p1 = 0
                · skip
                  exact fin_V (v_ok2 cap cw p0 p1 k0 k1) (all_appV (all_appV (all_appV (all_cons (gt_f (by omega)) (all_cons (gt_f (by omega)) (all_cons (ob_len c0) (all_cons (ob_len c1) all_nil)))) (all_cons (ne_f _) (all_appV (obMul_ok c0) (all_cons (er_f e0) (all_appV (obMul_ok c1) (all_cons (er_f e1) all_nil)))))) (all_cons (ne_f _) (all_appV (obMul_ok c0) (all_cons (er_f e0) (all_appV (obMul_ok c1) (all_cons (er_f e1) all_nil)))))) (okFin_ok _)) hM hno hx1 hy1
                · exact fin_V (v_er2_1 cap cw p0 p1 k0 k1) (all_appV (all_appV (all_appV (all_cons (gt_f (by omega)) (all_cons (gt_f (by omega)) (all_cons (ob_len c0) (all_cons (ob_len c1) all_nil)))) (all_cons (ne_f _) (all_appV (obMul_ok c0) (all_cons (er_f e0) (all_appV (obMul_ok c1) (all_cons (er_t e1) all_nil)))))) (all_cons (ne_f _) (all_appV (obMul_ok c0) (all_cons (er_f e0) (all_appV (obMul_ok c1) (all_cons (er_t e1) all_nil)))))) (erFin_ok _ _)) hM hno hx1 hy1
              · exact fin_V (v_er2_0 cap cw p0 p1 k0 k1) (all_appV (all_appV (all_appV (all_cons (gt_f (by omega)) (all_cons (gt_f (by omega)) (all_cons (ob_len c0) (all_cons (ob_len c1) all_nil)))) (all_cons (ne_f _) (all_appV (obMul_ok c0) (all_cons (er_t e0) all_nil)))) (all_cons (ne_f _) (all_appV (obMul_ok c0) (all_cons (er_t e0) all_nil)))) (erFin_ok _ _)) hM hno hx1 hy1
          · obtain ⟨ρ, hM, hno, h1, h2⟩ := mem_V hk (by simp) hx _ (pre_none hs)
            have hx1 := val_slJ h1 2 cap
            have hy1 := val_slJ (h2 _ rfl) m cw
            exact fin_V (v_ne2w cap cw m k0 k1) (all_cons (gt_f (by omega)) (all_cons (gt_f (by omega)) (all_cons (ob_len c0) (all_cons (ob_len c1) (all_cons (ne_t (by omega)) (all_cons (ne_t (by omega)) neFin_ok)))))) hM hno hx1 hy1
        · cases k1 with
          | e a0 e0 => exact absurd (Nat.zero_le 1) c1
          | w len cp x =>
            obtain ⟨ρ, hM, hno, h1, h2⟩ := mem_V hk (by simp) hx _ (pre_none hs)
            have hx1 := val_slJ h1 2 cap
            have hy1 := val_slJ (h2 _ rfl) m cw
            exact fin_V (v_lo2w_1 cap cw m len cp x k0) (all_cons (gt_f (by omega)) (all_cons (gt_f (by omega)) (all_cons (ob_len c0) (all_cons (ob_long c1) all_nil)))) hM hno hx1 hy1
      · cases k0 with
        | e a0 e0 => exact absurd (Nat.zero_le 1) c0
        | w len cp x =>
          obtain ⟨ρ, hM, hno, h1, h2⟩ := mem_V hk (by simp) hx _ (pre_none hs)
          have hx1 := val_slJ h1 2 cap
          have hy1 := val_slJ (h2 _ rfl) m cw
          exact fin_V (v_lo2w_0 cap cw m len cp x k1) (all_cons (gt_f (by omega)) (all_cons (gt_f (by omega)) (all_cons (ob_long c0) all_nil))) hM hno hx1 hy1
theorem gv_3 {W : World} {b o cap : Nat} {x0 x1 x2 : Value} {k0 k1 k2 : Kd} {q0 q1 q2 : Nat × Nat} (hx : Stands W b o [x0, x1, x2]) (hk : AllK W [x0, x1, x2] [(k0, q0), (k1, q1), (k2, q2)]) {v : Value} (hP : IsP W v) : Gives Try.prog 7 #[.slice (some ⟨b, o, none⟩) 3 cap, v] (.bool true) W := by
  rcases hP with ⟨a, e, rfl⟩ | ⟨b2, o2, m, cw, l, rfl, hm1, hl, hs⟩
  · skip
    obtain ⟨ρ, hM, hno, h1, _⟩ := mem_V hk (by simp) hx [] (fun x h => by cases h)
    have hx1 := val_slJ h1 3 cap
    have hy1 := val_slE ρ a e
    by_cases c0 : lenK k0 ≤ 1
    · skip
      by_cases c1 : lenK k1 ≤ 1
      · skip
        by_cases c2 : lenK k2 ≤ 1
        · skip
          exact fin_V (v_ne3e cap a e k0 k1 k2) (all_cons (gt_f (by omega)) (all_cons (gt_f (by omega)) (all_cons (ob_len c0) (all_cons (ob_len c1) (all_cons (ob_len c2) (all_cons (ne_t (by omega)) (all_cons (ne_t (by omega)) neFin_ok))))))) hM hno hx1 hy1
        · cases k2 with
          | e a0 e0 => exact absurd (Nat.zero_le 1) c2
          | w len cp x =>
            obtain ⟨ρ, hM, hno, h1, _⟩ := mem_V hk (by simp) hx [] (fun x h => by cases h)
            have hx1 := val_slJ h1 3 cap
            have hy1 := val_slE ρ a e
            exact fin_V (v_lo3e_2 cap a e len cp x k0 k1) (all_cons (gt_f (by omega)) (all_cons (gt_f (by omega)) (all_cons (ob_len c0) (all_cons (ob_len c1) (all_cons (ob_long c2) all_nil))))) hM hno hx1 hy1
      · cases k1 with
        | e a0 e0 => exact absurd (Nat.zero_le 1) c1
        | w len cp x =>
          obtain ⟨ρ, hM, hno, h1, _⟩ := mem_V hk (by simp) hx [] (fun x h => by cases h)
          have hx1 := val_slJ h1 3 cap
          have hy1 := val_slE ρ a e
          exact fin_V (v_lo3e_1 cap a e len cp x k0 k2) (all_cons (gt_f (by omega)) (all_cons (gt_f (by omega)) (all_cons (ob_len c0) (all_cons (ob_long c1) all_nil)))) hM hno hx1 hy1
    · cases k0 with
      | e a0 e0 => exact absurd (Nat.zero_le 1) c0
      | w len cp x =>
        obtain ⟨ρ, hM, hno, h1, _⟩ := mem_V hk (by simp) hx [] (fun x h => by cases h)
        have hx1 := val_slJ h1 3 cap
        have hy1 := val_slE ρ a e
        exact fin_V (v_lo3e_0 cap a e len cp x k1 k2) (all_cons (gt_f (by omega)) (all_cons (gt_f (by omega)) (all_cons (ob_long c0) all_nil))) hM hno hx1 hy1
  · by_cases m3 : 3 < m
    · obtain ⟨ρ, hM, hno, h1, h2⟩ := mem_two hx hs
      exact fin_V (v_big3 cap cw 3 m) (all_cons (gt_f (by omega)) (all_cons (gt_t m3) all_nil)) hM hno (val_slJ h1 3 cap) (val_slJ h2 m cw)
    · skip
      by_cases c0 : lenK k0 ≤ 1
      · skip
        by_cases c1 : lenK k1 ≤ 1
        · skip
          by_cases c2 : lenK k2 ≤ 1
          · skip
            by_cases hmn : m = 3
            · subst hmn
              match l, hl with
              | [p0, p1, p2], _ =>
                obtain ⟨ρ, hM, hno, h1, h2⟩ := mem_V hk (by simp) hx _ (pre_pts hs)
                have hx1 := val_slJ h1 3 cap
                have hy1 := val_slJ (h2 _ rfl) 3 cw
                by_cases e0 : errK k0 p0 = 0
                · skip
                  by_cases e1 : errK k1 p1 = 0
                  · skip
                    by_cases e2 : errK k2 p2 = 0
                    · skip
                      exact fin_V (v_ok3 cap cw p0 p1 p2 k0 k1 k2) (all_appV (all_appV (all_appV (all_cons (gt_f (by omega)) (all_cons (gt_f (by omega)) (all_cons (ob_len c0) (all_cons (ob_len c1) (all_cons (ob_len c2) all_nil))))) (all_cons (ne_f _) (all_appV (obMul_ok c0) (all_cons (er_f e0) (all_appV (obMul_ok c1) (all_cons (er_f e1) (all_appV (obMul_ok c2) (all_cons (er_f e2) all_nil)))))))) (all_cons (ne_f _) (all_appV (obMul_ok c0) (all_cons (er_f e0) (all_appV (obMul_ok c1) (all_cons (er_f e1) (all_appV (obMul_ok c2) (all_cons (er_f e2) all_nil)))))))) (okFin_ok _)) hM hno hx1 hy1
                    · exact fin_V (v_er3_2 cap cw p0 p1 p2 k0 k1 k2) (all_appV (all_appV (all_appV (all_cons (gt_f (by omega)) (all_cons (gt_f (by omega)) (all_cons (ob_len c0) (all_cons (ob_len c1) (all_cons (ob_len c2) all_nil))))) (all_cons (ne_f _) (all_appV (obMul_ok c0) (all_cons (er_f e0) (all_appV (obMul_ok c1) (all_cons (er_f e1) (all_appV (obMul_ok c2) (all_cons (er_t e2) all_nil)))))))) (all_cons (ne_f _) (all_appV (obMul_ok c0) (all_cons (er_f e0) (all_appV (obMul_ok c1) (all_cons (er_f e1) (all_appV (obMul_ok c2) (all_cons (er_t e2) all_nil)))))))) (erFin_ok _ _)) hM hno hx1 hy1
                  · exact fin_V (v_er3_1 cap cw p0 p1 p2 k0 k1 k2) (all_appV (all_appV (all_appV (all_cons (gt_f (by omega)) (all_cons (gt_f (by omega)) (all_cons (ob_len c0) (all_cons (ob_len c1) (all_cons (ob_len c2) all_nil))))) (all_cons (ne_f _) (all_appV (obMul_ok c0) (all_cons (er_f e0) (all_appV (obMul_ok c1) (all_cons (er_t e1) all_nil)))))) (all_cons (ne_f _) (all_appV (obMul_ok c0) (all_cons (er_f e0) (all_appV (obMul_ok c1) (all_cons (er_t e1) all_nil)))))) (erFin_ok _ _)) hM hno hx1 hy1
                · exact fin_V (v_er3_0 cap cw p0 p1 p2 k0 k1 k2) (all_appV (all_appV (all_appV (all_cons (gt_f (by omega)) (all_cons (gt_f (by omega)) (all_cons (ob_len c0) (all_cons (ob_len c1) (all_cons (ob_len c2) all_nil))))) (all_cons (ne_f _) (all_appV (obMul_ok c0) (all_cons (er_t e0) all_nil)))) (all_cons (ne_f _) (all_appV (obMul_ok c0) (all_cons (er_t e0) all_nil)))) (erFin_ok _ _)) hM hno hx1 hy1
            · obtain ⟨ρ, hM, hno, h1, h2⟩ := mem_V hk (by simp) hx _ (pre_none hs)
              have hx1 := val_slJ h1 3 cap
              have hy1 := val_slJ (h2 _ rfl) m cw
              exact fin_V (v_ne3w cap cw m k0 k1 k2) (all_cons (gt_f (by omega)) (all_cons (gt_f (by omega)) (all_cons (ob_len c0) (all_cons (ob_len c1) (all_cons (ob_len c2) (all_cons (ne_t (by omega)) (all_cons (ne_t (by omega)) neFin_ok))))))) hM hno hx1 hy1
          · cases k2 with
            | e a0 e0 => exact absurd (Nat.zero_le 1) c2
            | w len cp x =>
              obtain ⟨ρ, hM, hno, h1, h2⟩ := mem_V hk (by simp) hx _ (pre_none hs)
              have hx1 := val_slJ h1 3 cap
              have hy1 := val_slJ (h2 _ rfl) m cw
              exact fin_V (v_lo3w_2 cap cw m len cp x k0 k1) (all_cons (gt_f (by omega)) (all_cons (gt_f (by omega)) (all_cons (ob_len c0) (all_cons (ob_len c1) (all_cons (ob_long c2) all_nil))))) hM hno hx1 hy1
        · cases k1 with
          | e a0 e0 => exact absurd (Nat.zero_le 1) c1
          | w len cp x =>
            obtain ⟨ρ, hM, hno, h1, h2⟩ := mem_V hk (by simp) hx _ (pre_none hs)
            have hx1 := val_slJ h1 3 cap
            have hy1 := val_slJ (h2 _ rfl) m cw
            exact fin_V (v_lo3w_1 cap cw m len cp x k0 k2) (all_cons (gt_f (by omega)) (all_cons (gt_f (by omega)) (all_cons (ob_len c0) (all_cons (ob_long c1) all_nil)))) hM hno hx1 hy1
      · cases k0 with
        | e a0 e0 => exact absurd (Nat.zero_le 1) c0
        | w len cp x =>
          obtain ⟨ρ, hM, hno, h1, h2⟩ := mem_V hk (by simp) hx _ (pre_none hs)
          have hx1 := val_slJ h1 3 cap
          have hy1 := val_slJ (h2 _ rfl) m cw
          exact fin_V (v_lo3w_0 cap cw m len cp x k1 k2) (all_cons (gt_f (by omega)) (all_cons (gt_f (by omega)) (all_cons (ob_long c0) all_nil))) hM hno hx1 hy1
theorem g2Sums_gives (v : Value) (w : World) (hv : IsSls w v) (v' : Value) (hv' : IsPts A2 w v') : Gives Try.prog 7 #[v, v'] (.bool true) w := by
  have hP : IsP w v' := by
    rcases hv' with rfl | ⟨b, o, len, cap, l, rfl, _, hl, hs⟩
    · exact .inl ⟨none, 0, rfl⟩
    · rcases Nat.eq_zero_or_pos len with h | h
      · subst h; exact .inl ⟨_, _, rfl⟩
      · exact .inr ⟨b, o, len, cap, l, rfl, h, hl, hs⟩
  have none_case : ∀ a e, Gives Try.prog 7 #[.slice a 0 e, v'] (.bool true) w := by
    intro a e
    rcases hP with ⟨a', e', rfl⟩ | ⟨b2, o2, m, cw, l, rfl, hm1, hl, hs⟩
    · obtain ⟨hM, hno⟩ := mem_zero w
      exact fin_V (v_00 a a' e e') (all_cons (gt_f (by omega)) (all_cons (gt_f (by omega)) (all_cons (ne_f _) (all_cons (ne_f _) (all_cons (eqP_of rfl) (all_cons (iff_t rfl) all_nil)))))) hM hno (val_slE _ a e) (val_slE _ a' e')
    · obtain ⟨ρ, hM, hno, h2⟩ := mem_one (id := 2) (by decide) hs
      by_cases m3 : 3 < m
      · exact fin_V (v_big4 cw m a e) (all_cons (gt_f (by omega)) (all_cons (gt_t m3) all_nil)) hM hno (val_slE _ a e) (val_slJ h2 m cw)
      · exact fin_V (v_0m cw a e m) (all_cons (gt_f (by omega)) (all_cons (gt_f (by omega)) (all_cons (ne_t (by omega)) (all_cons (ne_t (by omega)) neFin_ok)))) hM hno (val_slE _ a e) (val_slJ h2 m cw)
  rcases hv with rfl | ⟨b, o, len, cap, xs, rfl, _, hlen, hx, hall⟩
  · exact none_case none 0
  · obtain ⟨kqs, hk, hkl⟩ := kinds_ex xs hall
    by_cases h3 : 3 < len
    · rcases hP with ⟨a', e', rfl⟩ | ⟨b2, o2, m, cw, l, rfl, hm1, hl, hs⟩
      · obtain ⟨ρ, hM, hno, h1⟩ := mem_one (id := 1) (by decide) hx
        exact fin_V (v_big2 cap len a' e') (all_cons (gt_t h3) all_nil) hM hno (val_slJ h1 len cap) (val_slE _ a' e')
      · obtain ⟨ρ, hM, hno, h1, h2⟩ := mem_two hx hs
        exact fin_V (v_big1 cap cw len m) (all_cons (gt_t h3) all_nil) hM hno (val_slJ h1 len cap) (val_slJ h2 m cw)
    · subst hlen
      match xs, kqs, hkl, hk, hx, h3 with
      | [], _, _, _, _, _ => exact none_case _ _
      | [x0], [(k0, q0)], _, hk, hx, _ => exact gv_1 hx hk hP
      | [x0, x1], [(k0, q0), (k1, q1)], _, hk, hx, _ => exact gv_2 hx hk hP
      | [x0, x1, x2], [(k0, q0), (k1, q1), (k2, q2)], _, hk, hx, _ => exact gv_3 hx hk hP
      | _ :: _ :: _ :: _ :: _, _, _, _, _, h3 => exact absurd (by simp only [List.length_cons]; omega) h3
--CASESEND
end Go.Proofs.Ythceokldlinjlaa
