/-
  From a call's outcome to the statement: arguments whose types are made of integers and bools alone.
-/
import Derived.Test.YthceokldlinjlaaEa
import Derived.Test.YthceokldlinjlaaWd
import Derived.WalkKit
import Derived.ProofKit
import Derived.OpenShut
import Derived.JoinedOf
import Derived.Carry
import Derived.WideKeyArgs
import Derived.Test.YthceokldlinjlaaEb
namespace Go.Eng
open Go Go.RowKit Go.ChangeShapes Go.WideShapes Go.Wd

section
variable {H : Type} {enc : TypeId × Value → H} {P : Program}
/-- A cell that is an integer of its kind, or a bool. -/
def wOk (v : Value) (k : K) : Bool := match v, k with
  | .int k n, some k' => decide (k = k') && (Lit.int k n).wf
  | .bool _, none => true
  | _, _ => false
def fitsW : List Value → List K → Bool
  | [], [] => true
  | v :: vs, k :: ks => wOk v k && fitsW vs ks
  | _, _ => false
theorem fitsW_append : ∀ (ks ls : List K) (vs us : List Value), fitsW vs ks = true → fitsW us ls = true → fitsW (vs ++ us) (ks ++ ls) = true := by
  intro ks
  induction ks with
  | nil => intro ls vs us h1 h2; cases vs with
    | nil => exact h2
    | cons v vs => cases h1
  | cons k ks ih => intro ls vs us h1 h2; cases vs with
    | nil => cases h1
    | cons v vs =>
      simp only [fitsW, Bool.and_eq_true] at h1
      simp only [List.cons_append, fitsW, Bool.and_eq_true]
      exact ⟨h1.1, ih ls vs us h1.2 h2⟩
theorem fitsW_split : ∀ (ks ls : List K) (vs : List Value), fitsW vs (ks ++ ls) = true → ∃ a b, vs = a ++ b ∧ fitsW a ks = true ∧ fitsW b ls = true := by
  intro ks
  induction ks with
  | nil => intro ls vs h; exact ⟨[], vs, rfl, rfl, h⟩
  | cons k ks ih => intro ls vs h; cases vs with
    | nil => cases h
    | cons v vs =>
      simp only [List.cons_append, fitsW, Bool.and_eq_true] at h
      obtain ⟨a, b, rfl, h1, h2⟩ := ih ls vs h.2
      exact ⟨v :: a, b, rfl, by simp only [fitsW, Bool.and_eq_true]; exact ⟨h.1, h1⟩, h2⟩
theorem mapM_congr' {α β : Type} {f g : α → Option β} : ∀ (l : List α), (∀ x ∈ l, f x = g x) → l.mapM f = l.mapM g := by
  intro l
  induction l with
  | nil => intro _; rfl
  | cons a l ih =>
    intro h
    rw [List.mapM_cons, List.mapM_cons, h a List.mem_cons_self, ih fun x hx => h x (List.mem_cons_of_mem _ hx)]
theorem flatFs_mem {g : TypeId → Option (List K)} : ∀ (fs : List Field) (off : Nat) (r : List K), flatFs P g off fs = some r → ∀ f ∈ fs, ∃ ks, g f.type = some ks := by
  intro fs
  induction fs with
  | nil => intro off r _ f hf; cases hf
  | cons f fs ih =>
    intro off r h f' hf
    simp only [flatFs] at h
    split at h
    · split at h
      · rename_i ks hk
        split at h
        · split at h
          · rename_i r' hr
            rcases List.mem_cons.1 hf with rfl | hf
            · exact ⟨ks, hk⟩
            · exact ih _ _ hr f' hf
          · cases h
        · cases h
      · cases h
    · cases h
/-- What such a type's cells read as hangs on them alone. -/
theorem trod_still (w w' : World) (base base' : Nat) (sp sp' : Nat → Bool) (hd hd' : Bool) : ∀ d t ks, flat P d t = some ks → ∀ fuel cs, DataW.trod enc P w base sp hd fuel t cs = DataW.trod enc P w' base' sp' hd' fuel t cs := by
  intro d
  induction d with
  | zero => intro t ks h; cases h
  | succ d ih =>
    intro t ks h fuel cs
    cases fuel with
    | zero => rfl
    | succ m =>
      simp only [flat] at h
      unfold DataW.trod
      split at h
      · rename_i hu; rw [hu]; split <;> first | rfl | (simp_all; done) | (split <;> first | rfl | (simp_all; done))
      · rename_i k hu; rw [hu]; split <;> first | rfl | (simp_all; done) | (split <;> first | rfl | (simp_all; done))
      · rename_i n e hu
        split at h
        · rename_i ke he
          simp only [hu]
          split <;> try rfl
          · congr 1
            apply mapM_congr'
            intro i _
            exact ih e ke he _ _
        · cases h
      · rename_i fs hu
        split at h
        · cases h
        · simp only [hu]
          split <;> try rfl
          · congr 1
            apply mapM_congr'
            intro f hf
            obtain ⟨kf, hk⟩ := flatFs_mem _ _ _ h f hf
            exact ih f.type kf hk _ _
      · cases h
theorem fits_rep {ke : List K} : ∀ (n : Nat) (cs : List Value), cs.length = n * ke.length → (∀ i < n, fitsW ((cs.drop (i * ke.length)).take ke.length) ke = true) → fitsW cs (List.replicate n ke).flatten = true := by
  intro n
  induction n with
  | zero => intro cs h _; rw [Nat.zero_mul, List.length_eq_zero_iff] at h; subst h; rfl
  | succ n ih =>
    intro cs h hi
    have h0 := hi 0 (by omega)
    rw [Nat.zero_mul, List.drop_zero] at h0
    rw [List.replicate_succ, List.flatten_cons, ← List.take_append_drop ke.length cs]
    refine fitsW_append _ _ _ _ h0 (ih _ ?_ fun i hlt => ?_)
    · rw [List.length_drop, h, Nat.succ_mul]; omega
    · have := hi (i + 1) (by omega)
      rw [List.drop_drop]
      rw [Nat.succ_mul, Nat.add_comm] at this
      exact this
/-- Such cells fit, and there is nothing behind them. -/
theorem trod_fits {w : World} {base : Nat} {sp : Nat → Bool} {hd : Bool} : ∀ d t ks, flat P d t = some ks → P.cellsOf t = ks.length → ∀ fuel cs x, DataW.trod enc P w base sp hd fuel t cs = some x → x.2 = [] ∧ fitsW cs ks = true := by
  intro d
  induction d with
  | zero => intro t ks h; cases h
  | succ d ih =>
    intro t ks h hc fuel cs x hx
    simp only [flat] at h
    split at h
    · rename_i hu
      cases h
      cases fuel with
      | zero => cases hx
      | succ m =>
        unfold DataW.trod at hx
        rw [hu] at hx
        split at hx <;> simp_all
        · rename_i b; obtain ⟨rfl⟩ := hx; simp [fitsW, wOk]
    · rename_i k hu
      cases h
      cases fuel with
      | zero => cases hx
      | succ m =>
        unfold DataW.trod at hx
        rw [hu] at hx
        split at hx <;> simp_all
        · obtain ⟨⟨rfl, h2⟩, rfl⟩ := hx; simp [fitsW, wOk, h2]
    · rename_i n e hu
      split at h
      · rename_i ke he
        split at h
        · rename_i hce
          cases h
          obtain ⟨xs, m, rfl, rfl, hl, hn, hi⟩ := DataW.trod_array hu hx
          have hlen : cs.length = n * ke.length := by rw [hl, hc]; simp
          have key : ∀ i < n, ∃ y, xs[i]? = some y ∧ y.2 = [] ∧ fitsW ((cs.drop (i * ke.length)).take ke.length) ke = true := by
            intro i hlt
            have h1 := hi i hlt
            rw [hce.1] at h1
            have : i < xs.length := by omega
            rw [List.getElem?_eq_getElem this] at h1
            obtain ⟨h2, h3⟩ := ih e ke he hce.1 _ _ _ h1
            exact ⟨_, List.getElem?_eq_getElem this, h2, h3⟩
          refine ⟨?_, fits_rep n cs hlen fun i hlt => by obtain ⟨y, _, _, h⟩ := key i hlt; exact h⟩
          rw [List.flatMap_eq_nil_iff]
          intro y hy
          obtain ⟨i, hlt, rfl⟩ := List.mem_iff_getElem.1 hy
          obtain ⟨y, h1, h2, _⟩ := key i (by omega)
          rw [List.getElem?_eq_getElem hlt] at h1
          cases h1; exact h2
        · cases h
      · cases h
    · rename_i fs hu
      split at h
      · cases h
      · obtain ⟨xs, m, rfl, rfl, hl, hn, hi⟩ := DataW.trod_struct hu hx
        have key : ∀ f ∈ fs.toList, ∀ kf, flat P d f.type = some kf → P.cellsOf f.type = kf.length → fitsW ((cs.drop f.offset).take kf.length) kf = true := by
          intro f hf kf hk hcf
          obtain ⟨i, hlt, rfl⟩ := List.mem_iff_getElem.1 hf
          have hlt' : i < fs.size := by simpa using hlt
          have h1 := hi i fs[i] (Array.getElem?_eq_getElem hlt')
          have hx' : i < xs.length := by omega
          rw [List.getElem?_eq_getElem hx'] at h1
          rw [Array.getElem_toList] at hk hcf ⊢
          rw [hcf] at h1
          exact (ih _ kf hk hcf _ _ _ h1).2
        refine ⟨?_, ?_⟩
        · rw [List.flatMap_eq_nil_iff]
          intro y hy
          obtain ⟨i, hlt, rfl⟩ := List.mem_iff_getElem.1 hy
          have hlt' : i < fs.size := by omega
          have h1 := hi i fs[i] (Array.getElem?_eq_getElem hlt')
          rw [List.getElem?_eq_getElem hlt] at h1
          obtain ⟨kf, hk⟩ := flatFs_mem _ _ _ h fs[i] (by simp)
          have hcf : P.cellsOf fs[i].type = kf.length := by
            have : ∀ (l : List Field) (off : Nat) (r : List K), flatFs P (flat P d) off l = some r → ∀ f ∈ l, ∀ kf, flat P d f.type = some kf → P.cellsOf f.type = kf.length := by
              intro l
              induction l with
              | nil => intro off r _ f hf; cases hf
              | cons g l ihl =>
                intro off r h f hf kf hk
                simp only [flatFs] at h
                split at h
                · split at h
                  · rename_i ks' hk'
                    split at h
                    · rename_i hc'
                      split at h
                      · rename_i r' hr
                        rcases List.mem_cons.1 hf with rfl | hf
                        · rw [hk] at hk'; cases hk'; exact hc'
                        · exact ihl _ _ hr f hf kf hk
                      · cases h
                    · cases h
                  · cases h
                · cases h
            exact this _ _ _ h fs[i] (by simp) kf hk
          exact (ih _ kf hk hcf _ _ _ h1).1
        · have walk : ∀ (l : List Field) (off : Nat) (r : List K), (∀ f ∈ l, f ∈ fs.toList) → flatFs P (flat P d) off l = some r → (cs.drop off).length = r.length → fitsW (cs.drop off) r = true := by
            intro l
            induction l with
            | nil => intro off r _ h hr; cases h; rw [List.length_nil, List.length_eq_zero_iff] at hr; rw [hr]; rfl
            | cons g l ihl =>
              intro off r hm h hr
              simp only [flatFs] at h
              split at h
              · rename_i hoff
                split at h
                · rename_i ks' hk'
                  split at h
                  · rename_i hc'
                    split at h
                    · rename_i r' hr'
                      cases h
                      have h1 := key g (hm g List.mem_cons_self) ks' hk' hc'
                      rw [hoff.2] at h1
                      rw [← List.take_append_drop ks'.length (cs.drop off)]
                      refine fitsW_append _ _ _ _ h1 ?_
                      rw [List.drop_drop]
                      refine ihl _ _ (fun f hf => hm f (List.mem_cons_of_mem _ hf)) hr' ?_
                      rw [List.length_append, List.length_drop] at hr
                      rw [List.length_drop]; omega
                    · cases h
                  · cases h
                · cases h
              · cases h
          have := walk fs.toList 0 ks (fun f hf => hf) h (by rw [List.drop_zero, hl, hc])
          rwa [List.drop_zero] at this
    · cases h
end
end Go.Eng
/-
  From a call's outcome to the statement, 2: arguments of any types that can be read: behind a call that only makes new blocks they read as before.
-/
namespace Go.Eng
open Go Go.RowKit Go.ChangeShapes Go.WideShapes

section
variable {H : Type} {enc : TypeId × Value → H} {P : Program}
theorem trodAll_below {W W' : World} (hl : laidOutB P = true) (hb : Below W.heap.size W W') (sp : Nat → Bool) : ∀ (ts : List TypeId) (vs : List Value) (ds : List (DataW H)) (ps : List MemPlace), (∀ t ∈ ts, P.readableRec t = true ∧ t < P.types.size) →
    DataW.TrodAll enc P W 0 (fun _ => true) true ts vs ds ps → (∀ p ∈ ps, p.block < W.heap.size) → (∀ p ∈ ps, sp p.block = true) → DataW.TrodAll enc P W' 0 sp true ts vs ds ps := by
  intro ts
  induction ts with
  | nil => intro vs ds ps _ h _ _; obtain ⟨rfl, rfl, rfl⟩ := trodAll_nil h; exact trodAll_mk0
  | cons t ts ih =>
    intro vs ds ps ht h hlt hsp
    obtain ⟨v, vs', d, ds', p, q, rfl, rfl, rfl, h1, h2⟩ := trodAll_cons h
    obtain ⟨hr, hrow⟩ := ht t List.mem_cons_self
    refine ⟨p, q, ?_, ih _ _ _ (fun t ht' => ht t (List.mem_cons_of_mem _ ht')) h2 (fun x hx => hlt x (List.mem_append_right _ hx)) (fun x hx => hsp x (List.mem_append_right _ hx)), rfl⟩
    exact WideElems.Trod_stays hl hr hrow h1 (fun x hx => hb.same (hlt x (List.mem_append_left _ hx))) (fun x hx => hsp x (List.mem_append_left _ hx))
/-- Behind a call that made new blocks alone, and handed back one bool. -/
theorem post_of_below {f : Func} {s : ChangeSpec} {apart fresh handsOn again : Bool} {W W' : World} {args : Array Value} {ds : List (DataW H)} {before : List MemPlace} {b : Bool} {tb : TypeId} (hl : laidOutB P = true)
    (hp : ∀ t ∈ f.params.toList, P.readableRec t = true ∧ t < P.types.size) (hvars : s.vars = []) (hrt : f.resultTypes = #[tb]) (htb : P.underlying tb = some .bool)
    (hsp : (s.fn H ds).results = [.lit (.bool b)] ∧ (s.fn H ds).args = ds ∧ (s.fn H ds).vars = [])
    (hW : DataW.Whole enc P f.params.toList s.vars apart W args.toList ds [] before) (hb : Below W.heap.size W W') : s.post enc P f apart fresh handsOn again W args (.bool b) W' := by
  have hlt := hW.lt
  have hW' := hW
  obtain ⟨p, q, hA, hV, rfl, hz, hn⟩ := hW'
  rw [hvars] at hV
  obtain ⟨_, rfl⟩ := trodVars_none hV
  rw [List.append_nil] at hlt hz hn hW
  have e0 : s.fn H (ds ++ []) = s.fn H ds := by rw [List.append_nil]
  have hres : ∀ (bb : Nat) (sp : Nat → Bool) (hd : Bool), DataW.TrodAll enc P W' bb sp hd f.resultTypes.toList ((Value.bool b).resultList f.resultTypes.size) (s.fn H (ds ++ [])).results [] := by
    intro bb sp hd
    rw [e0, hsp.1, hrt]
    exact trodAll_cons_mk (shut_bool htb b) trodAll_mk0
  have hargs : ∀ sp : Nat → Bool, (∀ x ∈ p, sp x.block = true) → DataW.TrodAll enc P W' 0 sp true f.params.toList args.toList (s.fn H (ds ++ [])).args p := by
    intro sp hs
    rw [e0, hsp.2.1]
    exact trodAll_below hl hb sp _ _ _ _ hp hA hlt hs
  have hvs : ∀ sp : Nat → Bool, DataW.TrodVars enc P W' sp s.vars (s.fn H (ds ++ [])).vars [] := by
    intro sp
    rw [e0, hsp.2.2, hvars]
    rfl
  have hold : ∀ x ∈ p, (fun b => decide (b < W.heap.size)) x.block = true := fun x hx => by simpa using hlt x hx
  refine ⟨ds, [], p, [], p, [], hW, hres _ _ _, hargs _ hold, hvs _, World.keptBut_mono (fun x hx => hx.elim) (hb.frame (fun _ => False)), fun _ => ⟨ok_one hrt rfl (okWide_bool_mk htb b), ds.cons (.lit (.bool b)), [], ([] ++ p) ++ [], ⟨[] ++ p, [], ?_, ?_, rfl, ?_, ?_⟩, ?_⟩⟩
  · have := trodAll_append (hargs (fun _ => true) (fun _ _ => rfl)) (hres 0 (fun _ => true) true)
    rw [e0, hsp.1, hsp.2.1] at this
    exact this
  · have := hvs (fun _ => true)
    rwa [e0, hsp.2.2] at this
  · intro b' off hx
    rw [List.nil_append, List.append_nil] at hx
    rw [hb.frozen (p := ⟨b', off, none⟩) (hlt _ hx)]
    exact hz b' off hx
  · intro ha
    rw [List.nil_append, List.append_nil]
    exact hn ha
  · intro x hx _
    rwa [List.nil_append, List.append_nil] at hx
/-- What the call must do: hand back true, and leave what was there. -/
def Gives (P : Program) (f : FuncId) (args : Array Value) (v : Value) (W : World) : Prop := Calls P f args W fun e W' => e = .returned v ∧ Below W.heap.size W W'
theorem lifted_any {C : Checked} {os : Os} {f : FuncId} {fn : Func} {s : ChangeSpec} {conds : List PathCond} {apart fresh handsOn again : Bool} {tb : TypeId}
    (own : ownKnob C.prog.godebug = none) (started : os.Started) (noInit : C.prog.inits.idxOf? f = none) (hfn : C.prog.funcs[f]? = some fn)
    (witness : ∃ (w : World) (tape : Tape) (i : Input), w.os = os ∧ (w.forCall tape i).Shaped C.prog ∧ i.vars = [] ∧ Input.okWide C.prog (w.forCall tape i) .any w.heap.size f i ∧
      s.pre6 enc C.prog fn conds apart (w.forCall tape i).memory i.args ∧ ({} : Assume).holds C.prog (lone (Frame.enter C.prog f i.args .normal) [] (w.forCall tape i)))
    (hl : laidOutB C.prog = true) (hp : fn.params.toList.all (fun t => C.prog.readableRec t && decide (t < C.prog.types.size)) = true) (hvars : s.vars = []) (hrt : fn.resultTypes = #[tb]) (htb : C.prog.underlying tb = some .bool)
    (hspec : ∀ ds : List (DataW H), ds.length = fn.params.toList.length → (s.fn H ds).results = [.lit (.bool true)] ∧ (s.fn H ds).args = ds ∧ (s.fn H ds).vars = [])
    (hcall : ∀ (W : World) (base : Nat) (args : Array Value) (ds : List (DataW H)) (ps : List MemPlace), (∀ (j : Nat) t v, fn.params[j]? = some t → args[j]? = some v → Value.okWide C.prog W .any base t v) →
      DataW.TrodAll enc C.prog W 0 (fun _ => true) true fn.params.toList args.toList ds ps → (∀ p ∈ ps, p.block < W.heap.size) → Gives C.prog f args (.bool true) W) :
    ReturnsInHanded {} C os f .any (s.pre6 enc C.prog fn conds apart) (s.post enc C.prog fn apart fresh handsOn again) := by
  have hp' : ∀ t ∈ fn.params.toList, C.prog.readableRec t = true ∧ t < C.prog.types.size := by
    intro t ht
    have := List.all_eq_true.1 hp t ht
    simpa using this
  refine returnsInHanded_of_change (C := C) own started noInit hfn witness ?_
  intro W base args ds gs before hval hW _ _
  have hlt := hW.lt
  have hW' := hW
  obtain ⟨p, q, hA, hV, rfl, hz, hn⟩ := hW'
  rw [hvars] at hV
  obtain ⟨rfl, rfl⟩ := trodVars_none hV
  rw [List.append_nil] at hlt
  refine (hcall W base args ds p hval hA hlt).mono fun e W' he => ⟨_, he.1, ?_⟩
  have hlen : ∀ (ts : List TypeId) (vs : List Value) (ds : List (DataW H)) (ps : List MemPlace), DataW.TrodAll enc C.prog W 0 (fun _ => true) true ts vs ds ps → ds.length = ts.length := by
    intro ts
    induction ts with
    | nil => intro vs ds ps h; obtain ⟨_, rfl, _⟩ := trodAll_nil h; rfl
    | cons t ts ih =>
      intro vs ds ps h
      obtain ⟨v, vs', d, ds', p, q, rfl, rfl, rfl, h1, h2⟩ := trodAll_cons h
      simp [ih _ _ _ h2]
  exact post_of_below hl hp' hvars hrt htb (hspec ds (hlen _ _ _ _ hA)) hW he.2
end
end Go.Eng
/-
  From a call's outcome to the statement, 3: arguments of six words a number.
-/
namespace Go.Eng
open Go Go.RowKit Go.ChangeShapes Go.WideShapes Go.Wd

section
variable {H : Type} {enc : TypeId × Value → H} {P : Program}
theorem wOk_u64 {v : Value} (h : wOk v (some .u64) = true) : ∃ n : Nat, n < 18446744073709551616 ∧ v = .int .u64 (n : Int) := by
  unfold wOk at h
  split at h
  · rename_i k n k' e
    cases e
    simp only [Bool.and_eq_true, decide_eq_true_eq] at h
    obtain ⟨rfl, h2⟩ := h
    obtain ⟨h3, h4⟩ := bounds_u64 h2
    exact ⟨n.toNat, by omega, by congr 1; omega⟩
  · rename_i e; cases e
  · cases h
theorem cells_nums : ∀ (n : Nat) (vs : List Value), fitsW vs (List.replicate n (some .u64)) = true → ∃ d : Nat → Nat, (∀ i, d i < 18446744073709551616) ∧ vs = (List.range n).map fun i => Value.int .u64 ((d i : Nat) : Int) := by
  intro n
  induction n with
  | zero => intro vs h; cases vs with
    | nil => exact ⟨fun _ => 0, fun _ => by show 0 < 18446744073709551616; omega, rfl⟩
    | cons v vs => cases h
  | succ n ih =>
    intro vs h
    rw [List.replicate_succ] at h
    cases vs with
    | nil => cases h
    | cons v vs =>
      simp only [fitsW, Bool.and_eq_true] at h
      obtain ⟨x, hx, rfl⟩ := wOk_u64 h.1
      obtain ⟨d, hd, rfl⟩ := ih vs h.2
      refine ⟨fun i => match i with | 0 => x | i + 1 => d i, fun i => by cases i <;> simp_all, ?_⟩
      rw [List.range_succ_eq_map, List.map_cons, List.map_map]
      rfl
theorem cells_words (n : Nat) (vs : List Value) (h : fitsW vs (List.replicate n (some .u64)) = true) : ∃ x, x < pw n ∧ vs = words n x := by
  obtain ⟨d, hd, rfl⟩ := cells_nums n vs h
  exact ⟨num d n, num_lt n fun i _ => hd i, (words_map n fun i _ => hd i).symm⟩
/-- Numbers of six words, one behind another, and a rest. -/
theorem cells_six : ∀ (m : Nat) (ls : List K) (vs : List Value), fitsW vs (List.replicate (6 * m) (some .u64) ++ ls) = true →
    ∃ (l : List Nat) (rest : List Value), l.length = m ∧ (∀ x ∈ l, x < pw 6) ∧ fitsW rest ls = true ∧ ∀ ρ its, conc ρ its = some rest → conc ρ (l.map (It.w 6) ++ its) = some vs := by
  intro m
  induction m with
  | zero => intro ls vs h; exact ⟨[], vs, rfl, by simp, h, fun ρ its h => h⟩
  | succ m ih =>
    intro ls vs h
    rw [show 6 * (m + 1) = 6 + 6 * m by omega, ← List.replicate_append_replicate, List.append_assoc] at h
    obtain ⟨a, b, rfl, h1, h2⟩ := fitsW_split _ _ _ h
    obtain ⟨x, hx, rfl⟩ := cells_words 6 a h1
    obtain ⟨l, rest, e1, e2, e3, e4⟩ := ih ls b h2
    refine ⟨x :: l, rest, by simp [e1], by simpa using ⟨hx, e2⟩, e3, fun ρ its hi => ?_⟩
    simp only [List.map_cons, List.cons_append, conc, It.cs, e4 ρ its hi]
theorem cells_agg {v : Value} {cs : Array Value} (h : v = .agg cs) : v.cells.toList = cs.toList := by subst h; rfl
/-- An argument of such a type. -/
theorem open_six {W : World} {base : Nat} {t : TypeId} {v : Value} {d : DataW H} {ps : List MemPlace} (m : Nat) {u : TypeDesc} (hu : P.underlying t = some u) (ha : aggD u = true)
    (hk : flat P 8 t = some (List.replicate (6 * m) (some .u64))) (hc : P.cellsOf t = 6 * m) (hv : Value.okWide P W .any base t v) (ht : DataW.Trod enc P W 0 (fun _ => true) true t v d ps) :
    ∃ l : List Nat, l.length = m ∧ (∀ x ∈ l, x < pw 6) ∧ ∀ ρ, AV.val ρ ⟨true, l.map (It.w 6)⟩ = some v := by
  obtain ⟨fuel, hx⟩ := ht
  obtain ⟨_, hf⟩ := trod_fits 8 t _ hk (by rw [hc]; simp) fuel _ _ hx
  have : ∃ cs, v = .agg cs := by
    unfold Value.okWide at hv
    rw [hu] at hv
    cases u <;> first | (obtain ⟨cs, rfl, _⟩ := hv; exact ⟨cs, rfl⟩) | (cases ha)
  obtain ⟨cs, rfl⟩ := this
  have hf : fitsW cs.toList (List.replicate (6 * m) (some .u64)) = true := hf
  rw [← List.append_nil (List.replicate _ _)] at hf
  obtain ⟨l, rest, e1, e2, e3, e4⟩ := cells_six m [] _ hf
  cases rest with
  | cons x r => cases e3
  | nil =>
    refine ⟨l, e1, e2, fun ρ => ?_⟩
    have := e4 ρ [] rfl
    rw [List.append_nil] at this
    simp [AV.val, this]
/-- Such an argument with a bool behind its numbers. -/
theorem open_sixb {W : World} {base : Nat} {t : TypeId} {v : Value} {d : DataW H} {ps : List MemPlace} (m : Nat) {u : TypeDesc} (hu : P.underlying t = some u) (ha : aggD u = true)
    (hk : flat P 8 t = some (List.replicate (6 * m) (some .u64) ++ [none])) (hc : P.cellsOf t = 6 * m + 1) (hv : Value.okWide P W .any base t v) (ht : DataW.Trod enc P W 0 (fun _ => true) true t v d ps) :
    ∃ (l : List Nat) (b : Bool), l.length = m ∧ (∀ x ∈ l, x < pw 6) ∧ ∀ ρ, AV.val ρ ⟨true, l.map (It.w 6) ++ [.v (.bool b)]⟩ = some v := by
  obtain ⟨fuel, hx⟩ := ht
  obtain ⟨_, hf⟩ := trod_fits 8 t _ hk (by rw [hc]; simp) fuel _ _ hx
  have : ∃ cs, v = .agg cs := by
    unfold Value.okWide at hv
    rw [hu] at hv
    cases u <;> first | (obtain ⟨cs, rfl, _⟩ := hv; exact ⟨cs, rfl⟩) | (cases ha)
  obtain ⟨cs, rfl⟩ := this
  obtain ⟨l, rest, e1, e2, e3, e4⟩ := cells_six m [none] cs.toList hf
  match rest, e3, e4 with
  | _ :: _ :: _, e3, _ => simp [fitsW] at e3
  | [r], e3, e4 =>
    have : ∃ b, r = .bool b := by
      simp only [fitsW, Bool.and_true] at e3
      unfold wOk at e3
      split at e3
      · rename_i h; cases h
      · exact ⟨_, rfl⟩
      · cases e3
    obtain ⟨b, rfl⟩ := this
    refine ⟨l, b, e1, e2, fun ρ => ?_⟩
    have := e4 ρ [.v (.bool b)] rfl
    simp [AV.val, this]
theorem five_of {α : Type} {l : List α} {n : Nat} (h : l.length = n + 1) : ∃ a l', l = a :: l' ∧ l'.length = n := by
  cases l with
  | nil => cases h
  | cons a l => exact ⟨a, l, rfl, by simpa using h⟩
/-- A run of a law. -/
theorem gives_of_run {P : Program} (hm : P.follows .mixedOrders = true) {tab : TypeId → Option Ty} (htab : ∀ t d, tab t = some d → TyOk P t d) {call : CallT} (hcall : CallOk P call) {fuel : Nat} {f : FuncId} {d : Fn1} (hf : FnOk P f d)
    {args : List AV} {nid : Nat} {hints : List (Nat × Bool)} {out : Out} (h : runFn tab call fuel d args [] nid hints = some out) (hob : ∀ p ∈ out.ob, p) {vs : List Value} (hv : vals rho0 args = some vs) {v : Value} (hval : ∀ ρ u, out.val.val ρ = some u → u = v) (w : World) :
    Gives P f vs.toArray v w := by
  refine (runFn_calls hm htab hcall hf h hob hv (mem_rho0 w)).mono ?_
  rintro e w' ⟨u, rfl, ρ', hE, hu, _⟩
  exact ⟨by rw [hval ρ' u hu], hE.below fun b ⟨id, _, _, hq⟩ => by cases hq⟩
/-- Of what computes only. -/
theorem gives_of_pure {P : Program} {f : FuncId} {args : List Value} {v : Value} (h : Pure P f args v) (hf : ∀ a w, (callFunc f a).run P w = .ok (.enter f a) w) (w : World) : Gives P f args.toArray v w := by
  rcases h w with ⟨u, h1, _⟩ | ⟨_, h2⟩
  · rw [hf] at h1; cases h1
  · refine h2.mono ?_
    rintro e w' ⟨u, rfl, rfl, hb⟩
    exact ⟨rfl, hb⟩
end
end Go.Eng
