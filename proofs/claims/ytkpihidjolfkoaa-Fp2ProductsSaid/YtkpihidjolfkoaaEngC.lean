/-
  THE ENGINE, part C: types: a table of what the run needs of them; '==' on rows of integers and bools.
-/
import Derived.Test.YtkpihidjolfkoaaEngB
import Derived.ChangeKeysEq
namespace Go.Eng
open Go Go.RowKit

def aggD : TypeDesc → Bool
  | .struct _ | .array _ _ => true
  | _ => false
/-- An integer's kind; none: a bool. -/
abbrev K := Option IntKind
def kOk : Value → K → Bool
  | .int k _, some k' => decide (k = k')
  | .bool _, none => true
  | _, _ => false
def fits : List Value → List K → Bool
  | [], [] => true
  | v :: vs, k :: ks => kOk v k && fits vs ks
  | _, _ => false
def flatFs (P : Program) (g : TypeId → Option (List K)) : Nat → List Field → Option (List K)
  | _, [] => some []
  | off, f :: fs => if f.name ≠ "_" ∧ f.offset = off then
      (match g f.type with
      | some ks => if P.cellsOf f.type = ks.length then (match flatFs P g (off + ks.length) fs with | some r => some (ks ++ r) | none => none) else none
      | none => none) else none
/-- A type's cells, where they are integers and bools, laid side by side. -/
def flat (P : Program) : Nat → TypeId → Option (List K)
  | 0, _ => none
  | d + 1, t => match P.underlying t with
    | some .bool => some [none]
    | some (.int k) => some [some k]
    | some (.array n e) => match flat P d e with
      | some ks => if P.cellsOf e = ks.length ∧ (P.info? e).isSome = true then some (List.replicate n ks).flatten else none
      | none => none
    | some (.struct fs) => if P.stoodInHeld t = true then none else flatFs P (flat P d) 0 fs.toList
    | _ => none
theorem fits_length : ∀ (vs : List Value) (ks : List K), fits vs ks = true → vs.length = ks.length := by
  intro vs
  induction vs with
  | nil => intro ks h; cases ks with
    | nil => rfl
    | cons k ks => cases h
  | cons v vs ih => intro ks h; cases ks with
    | nil => cases h
    | cons k ks => simp only [fits, Bool.and_eq_true] at h; simp [ih ks h.2]
theorem fits_split : ∀ (ks ls : List K) (vs : List Value), fits vs (ks ++ ls) = true → fits (vs.take ks.length) ks = true ∧ fits (vs.drop ks.length) ls = true := by
  intro ks
  induction ks with
  | nil => intro ls vs h; exact ⟨rfl, by simpa using h⟩
  | cons k ks ih =>
    intro ls vs h
    cases vs with
    | nil => cases h
    | cons v vs =>
      simp only [List.cons_append, fits, Bool.and_eq_true] at h
      obtain ⟨h1, h2⟩ := ih ls vs h.2
      simp only [List.length_cons, List.take_succ_cons, List.drop_succ_cons, fits, Bool.and_eq_true]
      exact ⟨⟨h.1, h1⟩, h2⟩
section
variable {P : Program}
/-- A row of cells as a value of a type. -/
def form (P : Program) (t : TypeId) (vs : List Value) : Value := match P.underlying t with
  | some u => if aggD u then .agg vs.toArray else vs.headD undef
  | none => undef
theorem run_isAgg {t : TypeId} {u : TypeDesc} (h : P.underlying t = some u) (w : World) : (isAgg t).run P w = .ok (aggD u) w := by
  unfold isAgg
  rw [Sem.run_bind, run_underlying h w]
  cases u <;> rfl
theorem run_part {t : TypeId} {u : TypeDesc} {i : TypeInfo} (h : P.underlying t = some u) (hi : P.info? t = some i) {cs : Array Value} {off : Nat} (hl : off + P.cellsOf t ≤ cs.size) (h1 : aggD u = false → P.cellsOf t = 1) (w : World) :
    (part t cs off).run P w = .ok (form P t ((cs.toList.drop off).take (P.cellsOf t))) w := by
  unfold part form
  rw [Sem.run_bind, run_isAgg h]
  simp only [Result.andThen_ok, h]
  cases hu : aggD u with
  | true =>
    simp only [if_true, Sem.run_bind, run_sizeOf w hi, Result.andThen_ok, Sem.run_pure]
    congr 2
    apply Array.ext'
    rw [Array.toList_extract]
    simp [List.extract_eq_take_drop]
  | false =>
    have h2 := h1 hu
    rw [h2] at hl
    have hlt : off < cs.size := by omega
    have e : (cs.toList.drop off).take 1 = [cs[off]] := by
      rw [List.drop_eq_getElem_cons (by simpa using hlt)]
      simp
    simp only [Bool.false_eq_true, if_false, h2, e, List.headD_cons]
    simp [hlt]
theorem flat_info : ∀ (d : Nat) (t : TypeId) (ks : List K), flat P d t = some ks → ∃ u i, P.underlying t = some u ∧ P.info? t = some i ∧ (aggD u = false → ks.length = 1) := by
  intro d t ks h
  cases d with
  | zero => cases h
  | succ d =>
    simp only [flat] at h
    cases hu : P.underlying t with
    | none => simp [hu] at h
    | some u =>
      obtain ⟨i, hi⟩ := info_of_underlying hu
      refine ⟨u, i, rfl, hi, fun ha => ?_⟩
      cases u <;> simp [hu, aggD] at h ha
      all_goals (subst h; rfl)
def EqFlat (P : Program) (D : Nat) (t : TypeId) (ks : List K) : Prop := ∀ (w : World) (vs us : List Value), fits vs ks = true → fits us ks = true →
  ∃ r : Bool, (Op.equalIn D t (form P t vs) (form P t us)).run P w = .ok r w ∧ (r = true ↔ vs = us)
theorem take_drop_eq {α : Type} (n : Nat) (xs ys : List α) : (xs.take n = ys.take n ∧ xs.drop n = ys.drop n) ↔ xs = ys := by
  constructor
  · rintro ⟨h1, h2⟩; rw [← List.take_append_drop n xs, ← List.take_append_drop n ys, h1, h2]
  · rintro rfl; exact ⟨rfl, rfl⟩
theorem eq_step {D : Nat} {t : TypeId} {ks : List K} {u : TypeDesc} {i : TypeInfo} (hu : P.underlying t = some u) (hi : P.info? t = some i) (h1 : aggD u = false → ks.length = 1) (hc : P.cellsOf t = ks.length)
    (IH : EqFlat P D t ks) (w : World) {xs ys : Array Value} {off : Nat} {vs us : List Value} (hx : xs.toList.drop off = vs) (hy : ys.toList.drop off = us) (ls : List K)
    (fv : fits vs (ks ++ ls) = true) (fu : fits us (ks ++ ls) = true) :
    ∃ a b r, (part t xs off).run P w = .ok a w ∧ (part t ys off).run P w = .ok b w ∧ (Op.equalIn D t a b).run P w = .ok r w ∧ (r = true ↔ vs.take ks.length = us.take ks.length) := by
  have lv := fits_length _ _ fv
  have lu := fits_length _ _ fu
  rw [List.length_append] at lv lu
  have bound : ∀ {cs : Array Value} {zs : List Value}, cs.toList.drop off = zs → zs.length = ks.length + ls.length → (ks.length = 0 ∨ off + P.cellsOf t ≤ cs.size) := by
    intro cs zs hz hl
    rw [← hz, List.length_drop, Array.length_toList] at hl
    by_cases h0 : ks.length = 0
    · exact .inl h0
    · right; omega
  have part_ok : ∀ {cs : Array Value} {zs : List Value}, cs.toList.drop off = zs → zs.length = ks.length + ls.length → (part t cs off).run P w = .ok (form P t (zs.take ks.length)) w := by
    intro cs zs hz hl
    rcases bound hz hl with h0 | hb
    · -- no cells: an aggregate
      have ha : aggD u = true := by
        cases hh : aggD u with
        | true => rfl
        | false => have := h1 hh; omega
      unfold part form
      rw [Sem.run_bind, run_isAgg hu]
      simp only [Result.andThen_ok, hu, ha, if_true, Sem.run_bind, run_sizeOf w hi, Sem.run_pure, hc, h0, Nat.add_zero, List.take_zero]
      congr 2
      apply Array.ext'
      rw [Array.toList_extract]
      simp [List.extract_eq_take_drop]
    · have := run_part hu hi hb (fun h => by rw [hc]; exact h1 h) w
      rw [hz, hc] at this
      exact this
  obtain ⟨r, hr, hiff⟩ := IH w _ _ (fits_split ks ls vs fv).1 (fits_split ks ls us fu).1
  exact ⟨_, _, r, part_ok hx lv, part_ok hy lu, hr, hiff⟩
theorem eqFields_flat {D : Nat} {g : TypeId → Option (List K)} (IH : ∀ t ks, g t = some ks → EqFlat P D t ks ∧ ∃ u i, P.underlying t = some u ∧ P.info? t = some i ∧ (aggD u = false → ks.length = 1)) (xs ys : Array Value) (w : World) :
    ∀ (fs : List Field) (off : Nat) (ks : List K) (vs us : List Value), flatFs P g off fs = some ks → xs.toList.drop off = vs → ys.toList.drop off = us → fits vs ks = true → fits us ks = true →
      ∃ r : Bool, (Op.eqFields D xs ys fs).run P w = .ok r w ∧ (r = true ↔ vs = us) := by
  intro fs
  induction fs with
  | nil =>
    intro off ks vs us h _ _ fv fu
    simp only [flatFs, Option.some.injEq] at h
    subst h
    have e1 : vs = [] := by cases vs with | nil => rfl | cons _ _ => cases fv
    have e2 : us = [] := by cases us with | nil => rfl | cons _ _ => cases fu
    exact ⟨true, rfl, by simp [e1, e2]⟩
  | cons f fs ih =>
    intro off ks vs us h hx hy fv fu
    simp only [flatFs] at h
    split at h
    · rename_i hf
      obtain ⟨hn, ho⟩ := hf
      cases hg : g f.type with
      | none => simp [hg] at h
      | some kf =>
        simp only [hg] at h
        split at h
        · rename_i hc
          cases hr : flatFs P g (off + kf.length) fs with
          | none => simp [hr] at h
          | some kr =>
            simp only [hr, Option.some.injEq] at h
            subst h
            obtain ⟨E, u, i, hu, hi, h1⟩ := IH _ _ hg
            obtain ⟨a, b, r, p1, p2, p3, hiff⟩ := eq_step hu hi h1 hc E w hx hy kr fv fu
            obtain ⟨r', q, hiff'⟩ := ih (off + kf.length) kr (vs.drop kf.length) (us.drop kf.length) hr (by rw [← hx, List.drop_drop]) (by rw [← hy, List.drop_drop])
              (fits_split kf kr vs fv).2 (fits_split kf kr us fu).2
            simp only [Op.eqFields, hn, ne_eq, not_false_eq_true, if_true, ho, Sem.run_bind, p1, p2, p3, Result.andThen_ok]
            cases r with
            | false => exact ⟨false, by simp, by simp only [Bool.false_eq_true, false_iff]; intro e; exact absurd (hiff.2 (by rw [e])) (by simp)⟩
            | true =>
              refine ⟨r', by simpa using q, ?_⟩
              rw [hiff', ← take_drop_eq kf.length vs us]
              exact ⟨fun h => ⟨hiff.1 rfl, h⟩, fun h => h.2⟩
        · cases h
    · cases h
theorem eqItems_flat {D : Nat} {e : TypeId} {ke : List K} {u : TypeDesc} {i : TypeInfo} (hu : P.underlying e = some u) (hi : P.info? e = some i) (h1 : aggD u = false → ke.length = 1) (hc : P.cellsOf e = ke.length)
    (IH : EqFlat P D e ke) (xs ys : Array Value) (w : World) :
    ∀ (m k : Nat) (vs us : List Value), xs.toList.drop (k * ke.length) = vs → ys.toList.drop (k * ke.length) = us → fits vs (List.replicate m ke).flatten = true → fits us (List.replicate m ke).flatten = true →
      ∃ r : Bool, (Op.eqItems D e (P.cellsOf e) xs ys (List.range' k m)).run P w = .ok r w ∧ (r = true ↔ vs = us) := by
  intro m
  induction m with
  | zero =>
    intro k vs us _ _ fv fu
    have e1 : vs = [] := by cases vs with | nil => rfl | cons _ _ => cases fv
    have e2 : us = [] := by cases us with | nil => rfl | cons _ _ => cases fu
    exact ⟨true, rfl, by simp [e1, e2]⟩
  | succ m ih =>
    intro k vs us hx hy fv fu
    rw [List.replicate_succ, List.flatten_cons] at fv fu
    obtain ⟨a, b, r, p1, p2, p3, hiff⟩ := eq_step hu hi h1 hc IH w hx hy _ fv fu
    obtain ⟨r', q, hiff'⟩ := ih (k + 1) (vs.drop ke.length) (us.drop ke.length) (by rw [← hx, List.drop_drop, Nat.succ_mul]) (by rw [← hy, List.drop_drop, Nat.succ_mul])
      (fits_split ke _ vs fv).2 (fits_split ke _ us fu).2
    rw [← hc] at p1 p2
    simp only [List.range'_succ, Op.eqItems, Sem.run_bind, p1, p2, p3, Result.andThen_ok]
    cases r with
    | false => exact ⟨false, by simp, by simp only [Bool.false_eq_true, false_iff]; intro e; exact absurd (hiff.2 (by rw [e])) (by simp)⟩
    | true =>
      refine ⟨r', by simpa using q, ?_⟩
      rw [hiff', ← take_drop_eq ke.length vs us]
      exact ⟨fun h => ⟨hiff.1 rfl, h⟩, fun h => h.2⟩
theorem kOk_int {v : Value} {k : IntKind} (h : kOk v (some k) = true) : ∃ n, v = .int k n := by
  cases v <;> simp [kOk] at h
  subst h; exact ⟨_, rfl⟩
theorem kOk_bool {v : Value} (h : kOk v none = true) : ∃ n, v = .bool n := by
  cases v <;> simp [kOk] at h
  exact ⟨_, rfl⟩
theorem fits_one {vs : List Value} {k : K} (h : fits vs [k] = true) : ∃ v, vs = [v] ∧ kOk v k = true := by
  cases vs with
  | nil => cases h
  | cons v vs =>
    simp only [fits, Bool.and_eq_true] at h
    cases vs with
    | nil => exact ⟨v, rfl, h.1⟩
    | cons _ _ => exact absurd h.2 (by simp [fits])
theorem run_flat (D : Nat) : ∀ (d : Nat) (t : TypeId) (ks : List K), flat P d t = some ks → EqFlat P (D + d) t ks := by
  intro d
  induction d with
  | zero => intro t ks h; cases h
  | succ d ih =>
    intro t ks h w vs us fv fu
    have h0 := h
    simp only [flat] at h
    cases hu : P.underlying t with
    | none => simp [hu] at h
    | some u =>
      cases u <;> simp only [hu] at h <;> try (cases h; done)
      case bool =>
        cases h
        obtain ⟨a, rfl, ha⟩ := fits_one fv
        obtain ⟨b, rfl, hb⟩ := fits_one fu
        obtain ⟨a, rfl⟩ := kOk_bool ha
        obtain ⟨b, rfl⟩ := kOk_bool hb
        exact ⟨a == b, by rw [show D + (d + 1) = (D + d) + 1 from rfl]; simpa [form, hu, aggD] using run_equalIn_bool w (D + d) t a b hu, by simp⟩
      case int k =>
        cases h
        obtain ⟨a, rfl, ha⟩ := fits_one fv
        obtain ⟨b, rfl, hb⟩ := fits_one fu
        obtain ⟨a, rfl⟩ := kOk_int ha
        obtain ⟨b, rfl⟩ := kOk_int hb
        exact ⟨a == b, by rw [show D + (d + 1) = (D + d) + 1 from rfl]; simpa [form, hu, aggD] using run_equalIn_int w (D + d) t k k a b hu, by simp⟩
      case array n e =>
        cases he : flat P d e with
        | none => simp [he] at h
        | some ke =>
          simp only [he] at h
          split at h
          · rename_i hc
            simp only [Option.some.injEq] at h
            subst h
            obtain ⟨ue, ie, hue, hie, h1⟩ := flat_info d e ke he
            obtain ⟨r, hr, hiff⟩ := eqItems_flat hue hie h1 hc.1 (ih e ke he) vs.toArray us.toArray w n 0 vs us (by simp) (by simp) fv fu
            refine ⟨r, ?_, hiff⟩
            simp only [form, hu, aggD, if_true]
            rw [show D + (d + 1) = (D + d) + 1 from rfl, run_equalIn_array w (D + d) _ _ hu hie, List.range_eq_range']
            exact hr
          · cases h
      case struct fs =>
        split at h
        · cases h
        · rename_i hp
          have hfs : P.fieldsOf t = fs := by simp [Program.fieldsOf, hu]
          obtain ⟨r, hr, hiff⟩ := eqFields_flat (D := D + d) (g := flat P d) (fun t ks hg => ⟨ih t ks hg, flat_info d t ks hg⟩) vs.toArray us.toArray w fs.toList 0 ks vs us h (by simp) (by simp) fv fu
          refine ⟨r, ?_, hiff⟩
          simp only [form, hu, aggD, if_true]
          rw [show D + (d + 1) = (D + d) + 1 from rfl, run_equalIn_struct w (D + d) t _ _ (by rw [hfs]; exact hu) (by simpa using hp), hfs]
          exact hr
end
end Go.Eng
