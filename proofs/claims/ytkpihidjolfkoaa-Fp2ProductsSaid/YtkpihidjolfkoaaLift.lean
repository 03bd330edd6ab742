/-
  From a call's outcome to the statement: arguments whose types are made of integers and bools alone.
-/
import Derived.Test.YtkpihidjolfkoaaEngC
import Derived.Test.YtkpihidjolfkoaaWd
import Derived.WalkKit
import Derived.ProofKit
import Derived.OpenShut
import Derived.JoinedOf
namespace Go.Eng
open Go Go.RowKit Go.ChangeShapes Go.WideShapes Go.Wd

section
variable {H : Type} {enc : TypeId × Value → H} {P : Program}
/-- A cell that is an integer of its kind, or a bool. -/
def wOk (v : Value) (k : K) : Bool := match v, k with
  | .int k n, some k' => decide (k = k') && (Lit.int k n).wf
  | .bool _, none => true
  | _, _ => false
def fitsW : List Value → List K → Bool
  | [], [] => true
  | v :: vs, k :: ks => wOk v k && fitsW vs ks
  | _, _ => false
theorem fitsW_append : ∀ (ks ls : List K) (vs us : List Value), fitsW vs ks = true → fitsW us ls = true → fitsW (vs ++ us) (ks ++ ls) = true := by
  intro ks
  induction ks with
  | nil => intro ls vs us h1 h2; cases vs with
    | nil => exact h2
    | cons v vs => cases h1
  | cons k ks ih => intro ls vs us h1 h2; cases vs with
    | nil => cases h1
    | cons v vs =>
      simp only [fitsW, Bool.and_eq_true] at h1
      simp only [List.cons_append, fitsW, Bool.and_eq_true]
      exact ⟨h1.1, ih ls vs us h1.2 h2⟩
theorem fitsW_split : ∀ (ks ls : List K) (vs : List Value), fitsW vs (ks ++ ls) = true → ∃ a b, vs = a ++ b ∧ fitsW a ks = true ∧ fitsW b ls = true := by
  intro ks
  induction ks with
  | nil => intro ls vs h; exact ⟨[], vs, rfl, rfl, h⟩
  | cons k ks ih => intro ls vs h; cases vs with
    | nil => cases h
    | cons v vs =>
      simp only [List.cons_append, fitsW, Bool.and_eq_true] at h
      obtain ⟨a, b, rfl, h1, h2⟩ := ih ls vs h.2
      exact ⟨v :: a, b, rfl, by simp only [fitsW, Bool.and_eq_true]; exact ⟨h.1, h1⟩, h2⟩
theorem mapM_congr' {α β : Type} {f g : α → Option β} : ∀ (l : List α), (∀ x ∈ l, f x = g x) → l.mapM f = l.mapM g := by
  intro l
  induction l with
  | nil => intro _; rfl
  | cons a l ih =>
    intro h
    rw [List.mapM_cons, List.mapM_cons, h a List.mem_cons_self, ih fun x hx => h x (List.mem_cons_of_mem _ hx)]
theorem flatFs_mem {g : TypeId → Option (List K)} : ∀ (fs : List Field) (off : Nat) (r : List K), flatFs P g off fs = some r → ∀ f ∈ fs, ∃ ks, g f.type = some ks := by
  intro fs
  induction fs with
  | nil => intro off r _ f hf; cases hf
  | cons f fs ih =>
    intro off r h f' hf
    simp only [flatFs] at h
    split at h
    · split at h
      · rename_i ks hk
        split at h
        · split at h
          · rename_i r' hr
            rcases List.mem_cons.1 hf with rfl | hf
            · exact ⟨ks, hk⟩
            · exact ih _ _ hr f' hf
          · cases h
        · cases h
      · cases h
    · cases h
/-- What such a type's cells read as hangs on them alone. -/
theorem trod_still (w w' : World) (base base' : Nat) (sp sp' : Nat → Bool) (hd hd' : Bool) : ∀ d t ks, flat P d t = some ks → ∀ fuel cs, DataW.trod enc P w base sp hd fuel t cs = DataW.trod enc P w' base' sp' hd' fuel t cs := by
  intro d
  induction d with
  | zero => intro t ks h; cases h
  | succ d ih =>
    intro t ks h fuel cs
    cases fuel with
    | zero => rfl
    | succ m =>
      simp only [flat] at h
      unfold DataW.trod
      split at h
      · rename_i hu; rw [hu]; split <;> first | rfl | (simp_all; done) | (split <;> first | rfl | (simp_all; done))
      · rename_i k hu; rw [hu]; split <;> first | rfl | (simp_all; done) | (split <;> first | rfl | (simp_all; done))
      · rename_i n e hu
        split at h
        · rename_i ke he
          simp only [hu]
          split <;> try rfl
          · congr 1
            apply mapM_congr'
            intro i _
            exact ih e ke he _ _
        · cases h
      · rename_i fs hu
        split at h
        · cases h
        · simp only [hu]
          split <;> try rfl
          · congr 1
            apply mapM_congr'
            intro f hf
            obtain ⟨kf, hk⟩ := flatFs_mem _ _ _ h f hf
            exact ih f.type kf hk _ _
      · cases h
theorem fits_rep {ke : List K} : ∀ (n : Nat) (cs : List Value), cs.length = n * ke.length → (∀ i < n, fitsW ((cs.drop (i * ke.length)).take ke.length) ke = true) → fitsW cs (List.replicate n ke).flatten = true := by
  intro n
  induction n with
  | zero => intro cs h _; rw [Nat.zero_mul, List.length_eq_zero_iff] at h; subst h; rfl
  | succ n ih =>
    intro cs h hi
    have h0 := hi 0 (by omega)
    rw [Nat.zero_mul, List.drop_zero] at h0
    rw [List.replicate_succ, List.flatten_cons, ← List.take_append_drop ke.length cs]
    refine fitsW_append _ _ _ _ h0 (ih _ ?_ fun i hlt => ?_)
    · rw [List.length_drop, h, Nat.succ_mul]; omega
    · have := hi (i + 1) (by omega)
      rw [List.drop_drop]
      rw [Nat.succ_mul, Nat.add_comm] at this
      exact this
/-- Such cells fit, and there is nothing behind them. -/
theorem trod_fits {w : World} {base : Nat} {sp : Nat → Bool} {hd : Bool} : ∀ d t ks, flat P d t = some ks → P.cellsOf t = ks.length → ∀ fuel cs x, DataW.trod enc P w base sp hd fuel t cs = some x → x.2 = [] ∧ fitsW cs ks = true := by
  intro d
  induction d with
  | zero => intro t ks h; cases h
  | succ d ih =>
    intro t ks h hc fuel cs x hx
    simp only [flat] at h
    split at h
    · rename_i hu
      cases h
      cases fuel with
      | zero => cases hx
      | succ m =>
        unfold DataW.trod at hx
        rw [hu] at hx
        split at hx <;> simp_all
        · rename_i b; obtain ⟨rfl⟩ := hx; simp [fitsW, wOk]
    · rename_i k hu
      cases h
      cases fuel with
      | zero => cases hx
      | succ m =>
        unfold DataW.trod at hx
        rw [hu] at hx
        split at hx <;> simp_all
        · obtain ⟨⟨rfl, h2⟩, rfl⟩ := hx; simp [fitsW, wOk, h2]
    · rename_i n e hu
      split at h
      · rename_i ke he
        split at h
        · rename_i hce
          cases h
          obtain ⟨xs, m, rfl, rfl, hl, hn, hi⟩ := DataW.trod_array hu hx
          have hlen : cs.length = n * ke.length := by rw [hl, hc]; simp
          have key : ∀ i < n, ∃ y, xs[i]? = some y ∧ y.2 = [] ∧ fitsW ((cs.drop (i * ke.length)).take ke.length) ke = true := by
            intro i hlt
            have h1 := hi i hlt
            rw [hce.1] at h1
            have : i < xs.length := by omega
            rw [List.getElem?_eq_getElem this] at h1
            obtain ⟨h2, h3⟩ := ih e ke he hce.1 _ _ _ h1
            exact ⟨_, List.getElem?_eq_getElem this, h2, h3⟩
          refine ⟨?_, fits_rep n cs hlen fun i hlt => by obtain ⟨y, _, _, h⟩ := key i hlt; exact h⟩
          rw [List.flatMap_eq_nil_iff]
          intro y hy
          obtain ⟨i, hlt, rfl⟩ := List.mem_iff_getElem.1 hy
          obtain ⟨y, h1, h2, _⟩ := key i (by omega)
          rw [List.getElem?_eq_getElem hlt] at h1
          cases h1; exact h2
        · cases h
      · cases h
    · rename_i fs hu
      split at h
      · cases h
      · obtain ⟨xs, m, rfl, rfl, hl, hn, hi⟩ := DataW.trod_struct hu hx
        have key : ∀ f ∈ fs.toList, ∀ kf, flat P d f.type = some kf → P.cellsOf f.type = kf.length → fitsW ((cs.drop f.offset).take kf.length) kf = true := by
          intro f hf kf hk hcf
          obtain ⟨i, hlt, rfl⟩ := List.mem_iff_getElem.1 hf
          have hlt' : i < fs.size := by simpa using hlt
          have h1 := hi i fs[i] (Array.getElem?_eq_getElem hlt')
          have hx' : i < xs.length := by omega
          rw [List.getElem?_eq_getElem hx'] at h1
          rw [Array.getElem_toList] at hk hcf ⊢
          rw [hcf] at h1
          exact (ih _ kf hk hcf _ _ _ h1).2
        refine ⟨?_, ?_⟩
        · rw [List.flatMap_eq_nil_iff]
          intro y hy
          obtain ⟨i, hlt, rfl⟩ := List.mem_iff_getElem.1 hy
          have hlt' : i < fs.size := by omega
          have h1 := hi i fs[i] (Array.getElem?_eq_getElem hlt')
          rw [List.getElem?_eq_getElem hlt] at h1
          obtain ⟨kf, hk⟩ := flatFs_mem _ _ _ h fs[i] (by simp)
          have hcf : P.cellsOf fs[i].type = kf.length := by
            have : ∀ (l : List Field) (off : Nat) (r : List K), flatFs P (flat P d) off l = some r → ∀ f ∈ l, ∀ kf, flat P d f.type = some kf → P.cellsOf f.type = kf.length := by
              intro l
              induction l with
              | nil => intro off r _ f hf; cases hf
              | cons g l ihl =>
                intro off r h f hf kf hk
                simp only [flatFs] at h
                split at h
                · split at h
                  · rename_i ks' hk'
                    split at h
                    · rename_i hc'
                      split at h
                      · rename_i r' hr
                        rcases List.mem_cons.1 hf with rfl | hf
                        · rw [hk] at hk'; cases hk'; exact hc'
                        · exact ihl _ _ hr f hf kf hk
                      · cases h
                    · cases h
                  · cases h
                · cases h
            exact this _ _ _ h fs[i] (by simp) kf hk
          exact (ih _ kf hk hcf _ _ _ h1).1
        · have walk : ∀ (l : List Field) (off : Nat) (r : List K), (∀ f ∈ l, f ∈ fs.toList) → flatFs P (flat P d) off l = some r → (cs.drop off).length = r.length → fitsW (cs.drop off) r = true := by
            intro l
            induction l with
            | nil => intro off r _ h hr; cases h; rw [List.length_nil, List.length_eq_zero_iff] at hr; rw [hr]; rfl
            | cons g l ihl =>
              intro off r hm h hr
              simp only [flatFs] at h
              split at h
              · rename_i hoff
                split at h
                · rename_i ks' hk'
                  split at h
                  · rename_i hc'
                    split at h
                    · rename_i r' hr'
                      cases h
                      have h1 := key g (hm g List.mem_cons_self) ks' hk' hc'
                      rw [hoff.2] at h1
                      rw [← List.take_append_drop ks'.length (cs.drop off)]
                      refine fitsW_append _ _ _ _ h1 ?_
                      rw [List.drop_drop]
                      refine ihl _ _ (fun f hf => hm f (List.mem_cons_of_mem _ hf)) hr' ?_
                      rw [List.length_append, List.length_drop] at hr
                      rw [List.length_drop]; omega
                    · cases h
                  · cases h
                · cases h
              · cases h
          have := walk fs.toList 0 ks (fun f hf => hf) h (by rw [List.drop_zero, hl, hc])
          rwa [List.drop_zero] at this
    · cases h
end
end Go.Eng
