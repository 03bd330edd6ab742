/-
  Functions that read slices of words: a word of a place, the order of two numbers.
-/
import Derived.Test.YthceokldlinjlaaOps
import Derived.Test.YthceokldlinjlaaLm
namespace Go.Proofs.Ythceokldlinjlaa
open Go Go.Eng Go.RowKit Go.Wd Go.Alg Go.Pr

/-! ### memories of slices of words -/
def ent (id b o len n : Nat) : Nat × List It × (Nat × Nat) × List Value := (id, anyW len n, (b, o), words len n)
theorem conc_anyW (ρ : Rho) (len n : Nat) : conc ρ (anyW len n) = some (words len n) := by simp [anyW, conc, It.cs, words]
theorem stands_sl {w : World} {b o len n : Nat} (h : SlHas w b o len n) : Stands w b o (words len n) := ⟨h.1, h.2⟩
theorem invoked_of_runS {T : CallT} (hT : CallOk Try.prog T) {f : FuncId} {args : List AV} {m : St} {hints : List (Nat × Bool)} {s : SV} {ob : List Prop} (h : runS T f args m hints = some (s, ob)) (hob : ∀ p ∈ ob, p) {ρ : Rho} {w : World} (hM : Mem ρ m w)
    (hno : ∀ c, ¬ Own ρ c) {vs : List Value} (hv : vals ρ args = some vs) {v : Value} (hval : ∀ ρ u, s.val ρ = some u → u = v) : Invoked Try.prog f vs.toArray w fun u w' => u = v ∧ Below w.heap.size w w' := by
  unfold runS at h
  split at h
  · rename_i d hd
    split at h
    · rename_i o ho
      cases h
      refine .inr ⟨(fn1_ok _ _ hd).enter _ _, (runFn_calls mixed tyTab_ok (callN_ok mixed tyTab_ok hT fn1_ok 1000 6) (fn1_ok _ _ hd) ho hob hv hM).mono ?_⟩
      rintro e w' ⟨u, rfl, ρ', hE, hu, _⟩
      exact ⟨u, rfl, hval ρ' u hu, hE.below hno⟩
    · cases h
  · cases h

/-! ### limb.at -/
def slA (id len cap : Nat) : AV := ⟨false, [.s id 0 len cap]⟩
def iA (i : Int) : AV := ⟨false, [.v (.int .i64 i)]⟩
theorem val_iA (ρ : Rho) (i : Int) : (iA i).val ρ = some (.int .i64 i) := AV.val_v (ρ := ρ) (x := .int .i64 i) rfl
theorem val_slA {ρ : Rho} {id b o : Nat} (h : ρ id = some (b, o)) (len cap : Nat) : (slA id len cap).val ρ = some (.slice (some ⟨b, o, none⟩) len cap) := AV.val_mk (by simp [It.cs, h])
theorem at_runT (len cap n : Nat) (i : Int) : runS none1 98 [slA 1 len cap, iA i] (mem1 len n) [(8, true), (11, false)] = some (.one ⟨false, [.v (word n (0 + i.toNat * 1))]⟩, [i < (len : Int) ↔ true = true, 0 ≤ i ∧ i < (len : Int), 0 + i.toNat * 1 < len]) := by kernel_rfl
theorem at_runF (len cap n : Nat) (i : Int) : runS none1 98 [slA 1 len cap, iA i] (mem1 len n) [(8, false)] = some (.one ⟨false, [.v (.int .u64 0)]⟩, [i < (len : Int) ↔ false = true]) := by kernel_rfl
theorem at_runN (i : Int) : runS none1 98 [⟨false, [.v (.slice none 0 0)]⟩, iA i] [] [(8, false)] = some (.one ⟨false, [.v (.int .u64 0)]⟩, [i < ((0 : Nat) : Int) ↔ false = true]) := by kernel_rfl
theorem pw_pos (k : Nat) : 0 < pw k := Nat.two_pow_pos _
/-- A word of a number cut to so many words. -/
theorem dg_mod {n len i : Nat} : dg (n % pw len) i = if i < len then dg n i else 0 := by
  unfold dg pw
  by_cases h : i < len
  · rw [if_pos h]
    have e : (2 : Nat) ^ (64 * len) = 2 ^ (64 * i) * 2 ^ 64 * 2 ^ (64 * (len - i - 1)) := by
      rw [← Nat.pow_add, ← Nat.pow_add]; congr 1; omega
    rw [e, Nat.mul_assoc, Nat.mod_mul_right_div_self, Nat.mod_mul_right_mod]
  · rw [if_neg h]
    have : n % 2 ^ (64 * len) < 2 ^ (64 * i) := Nat.lt_of_lt_of_le (Nat.mod_lt _ (Nat.two_pow_pos _)) (Nat.pow_le_pow_right (by omega) (by omega))
    rw [Nat.div_eq_of_lt this, Nat.zero_mod]
def atV (len n : Nat) (i : Int) : Value := .int .u64 ((dg (n % pw len) i.toNat : Nat) : Int)
theorem limb_at {i : Int} (hi : 0 ≤ i) (b o len cap n : Nat) (w : World) (h : SlHas w b o len n) : Invoked Try.prog 98 [.slice (some ⟨b, o, none⟩) len cap, .int .i64 i].toArray w fun u w' => u = atV len n i ∧ Below w.heap.size w w' := by
  have hv : vals (rho1 b o) [slA 1 len cap, iA i] = some [.slice (some ⟨b, o, none⟩) len cap, .int .i64 i] := by simp only [vals, val_iA, val_slA (ρ := rho1 b o) (id := 1) (b := b) (o := o) (by simp [rho1])]
  have hz : Nat.cast i.toNat = i := Int.toNat_of_nonneg hi
  by_cases hl : i < (len : Int)
  · refine invoked_of_runS none1_ok (at_runT len cap n i) (all_cons (iff_t hl) (all_cons ⟨hi, hl⟩ (all_cons (by omega) all_nil))) (mem_rho1 h) (no_own1 b o) hv fun ρ u hu => ?_
    have : AV.val ρ ⟨false, [.v (word n (0 + i.toNat * 1))]⟩ = some (word n (0 + i.toNat * 1)) := AV.val_v (ρ := ρ) (x := word n (0 + i.toNat * 1)) rfl
    rw [show SV.val ρ (.one ⟨false, [.v (word n (0 + i.toNat * 1))]⟩) = AV.val ρ ⟨false, [.v (word n (0 + i.toNat * 1))]⟩ from rfl, this] at hu
    cases hu
    unfold atV
    rw [Nat.mul_one, Nat.zero_add, word_dg, dg_mod, if_pos (by omega)]
  · refine invoked_of_runS none1_ok (at_runF len cap n i) (all_cons (iff_f hl) all_nil) (mem_rho1 h) (no_own1 b o) hv fun ρ u hu => ?_
    have : AV.val ρ ⟨false, [.v (.int .u64 0)]⟩ = some (.int .u64 0) := AV.val_v (ρ := ρ) (x := .int .u64 0) rfl
    rw [show SV.val ρ (.one ⟨false, [.v (.int .u64 0)]⟩) = AV.val ρ ⟨false, [.v (.int .u64 0)]⟩ from rfl, this] at hu
    cases hu
    unfold atV
    rw [dg_mod, if_neg (by omega)]; rfl
theorem limb_at_nil {i : Int} (hi : 0 ≤ i) (w : World) : Invoked Try.prog 98 [.slice none 0 0, .int .i64 i].toArray w fun u w' => u = atV 0 0 i ∧ Below w.heap.size w w' := by
  have e0 : AV.val rho0 ⟨false, [.v (.slice none 0 0)]⟩ = some (.slice none 0 0) := AV.val_v (ρ := rho0) (x := .slice none 0 0) rfl
  have hv : vals rho0 [⟨false, [.v (.slice none 0 0)]⟩, iA i] = some [.slice none 0 0, .int .i64 i] := by simp only [vals, val_iA, e0]
  refine invoked_of_runS none1_ok (at_runN i) (all_cons (iff_f (by omega)) all_nil) (ρ := rho0) (mem_rhoL [] (fun x hx => by cases hx)) (fun c ⟨_, _, _, h⟩ => by cases h) hv fun ρ u hu => ?_
  have : AV.val ρ ⟨false, [.v (.int .u64 0)]⟩ = some (.int .u64 0) := AV.val_v (ρ := ρ) (x := .int .u64 0) rfl
  rw [show SV.val ρ (.one ⟨false, [.v (.int .u64 0)]⟩) = AV.val ρ ⟨false, [.v (.int .u64 0)]⟩ from rfl, this] at hu
  cases hu
  unfold atV
  rw [dg_mod, if_neg (by omega)]; rfl
def atSV (len n : Nat) (i : Int) : SV := .one ⟨false, [.v (.int .u64 ((dg (n % pw len) i.toNat : Nat) : Int))]⟩
theorem val_at (ρ : Rho) (len n : Nat) (i : Int) : (atSV len n i).val ρ = some (atV len n i) := AV.val_v (ρ := ρ) (x := atV len n i) rfl
def atT : CallT := fun f args m _ => match f == 98 with
  | true => match args with
    | [y, ⟨false, [.v (.int .i64 i)]⟩] => match slArg y m with
      | some (len, n, ob) => some { val := atSV len n i, wr := [], news := [], ob := (0 ≤ i) :: ob }
      | none => none
    | _ => none
  | false => none
theorem atT_ok : CallOk Try.prog atT := by
  intro f args m nid out hout hob ρ w vs hv hM hnew
  unfold atT at hout
  split at hout
  · rename_i hf
    rw [beq_iff_eq] at hf
    subst hf
    split at hout
    · rename_i y i
      split at hout
      · rename_i len n ob hs
        cases hout
        obtain ⟨v1, us, h1, h2, rfl⟩ := vals_cons hv
        obtain ⟨v2, us', h3, h4, rfl⟩ := vals_cons h2
        cases h4
        rw [show AV.val ρ ⟨false, [.v (.int .i64 i)]⟩ = some (.int .i64 i) from val_iA ρ i] at h3
        cases h3
        have hi : 0 ≤ i := hob _ List.mem_cons_self
        have hob' : ∀ p ∈ ob, p := fun p hp => hob p (List.mem_cons_of_mem _ hp)
        have fin : ∀ (u : Value) (w' : World), u = atV len n i ∧ Below w.heap.size w w' → ∃ ρ', Ext ρ w ρ' w' ∧ (atSV len n i).val ρ' = some u ∧ Mem ρ' (puts m (blkW ([] ++ []))) w' := by
          rintro u w' ⟨rfl, hb⟩
          exact ⟨ρ, Ext.of_below hb, val_at _ _ _ _, hM.of_below hb⟩
        rcases slArg_ok hs hob' hM h1 with ⟨rfl, rfl, rfl⟩ | ⟨b, o, cap, rfl, hlen, hsl⟩
        · exact (limb_at_nil hi w).mono fun u w' hu => fin u w' hu
        · exact (limb_at hi b o len cap n w hsl).mono fun u w' hu => fin u w' hu
      · cases hout
    · cases hout
  · cases hout
end Go.Proofs.Ythceokldlinjlaa
/-
  limb.Cmp of any two slices of words.
-/
namespace Go.Proofs.Ythceokldlinjlaa
open Go Go.Eng Go.RowKit Go.Wd Go.Alg Go.Pr

noncomputable def dCm : Fn1 := match fn1 134 with
  | some d => d
  | none => ⟨.skip, [], 0⟩
theorem dCm_ok : FnOk Try.prog 134 dCm := fn1_ok _ _ (by kernel_rfl)
noncomputable def ECm : Eng := { tab := tyTab, call := callN tyTab atT fn1 1000 6, N := 32 }
theorem callCm : CallOk Try.prog ECm.call := callN_ok mixed tyTab_ok atT_ok fn1_ok 1000 6
def scIn : Code → Code
  | .scope b => b
  | c => c
noncomputable def cCm0 : Code := seqL dCm.body
noncomputable def cCmS : Code := scIn (seqR dCm.body)
noncomputable def cCml : Code := seqL cCmS
noncomputable def cCm1 : Code := seqL (seqL (seqR cCmS))
noncomputable def cCmL : Code := loopIn (blockIn (seqR (seqL (seqR cCmS))))
noncomputable def cCmT : Code := seqR (seqR cCmS)
theorem dCm_body : dCm.body = .seq cCm0 (.scope (.seq cCml (.seq (.seq cCm1 (.block 0 (.loop cCmL))) cCmT))) := by kernel_rfl
theorem dCm_ntmps : dCm.ntmps = 32 := by kernel_rfl
theorem dCm_results : dCm.results = [.tmp 4] := by kernel_rfl
def stCm (la ca x lb cb y : Nat) (i : Int) : St := [(0, sS 1 la ca), (2, sS 2 lb cb), (8, sI 0), (10, sI i), (3, .bl (anyW la x)), (5, .bl (anyW lb y))]
def stCm0 (la ca x lb cb y : Nat) : St := [(0, sS 1 la ca), (2, sS 2 lb cb), (8, sI 0), (3, .bl (anyW la x)), (5, .bl (anyW lb y))]
def stCmE (la ca x lb cb y : Nat) (r : Int) : St := [(8, sI r), (3, .bl (anyW la x)), (5, .bl (anyW lb y))]
noncomputable def inCm (la ca x lb cb y : Nat) : St := initSlots 0 [slA 1 la ca, slA 2 lb cb] (32 - [slA 1 la ca, slA 2 lb cb].length) ++ memL [(1, anyW la x), (2, anyW lb y)]
def iCm (la lb : Nat) : Int := IntKind.i64.wrap ((if (lb : Int) > (la : Int) then (lb : Int) else (la : Int)) - 1)
theorem Cm_start (la ca x lb cb y : Nat) : probe ECm 100 cCm0 (inCm la ca x lb cb y) 16 [] ((stCm0 la ca x lb cb y).map (·.1)) = some (0, [], (stCm0 la ca x lb cb y).map fun p => some p.2) := by kernel_rfl
theorem Cm_label (la ca x lb cb y : Nat) : probe ECm 100 cCml (stCm0 la ca x lb cb y) 16 [] ((stCm0 la ca x lb cb y).map (·.1)) = some (0, [], (stCm0 la ca x lb cb y).map fun p => some p.2) := by kernel_rfl
theorem Cm_head (la ca x lb cb y : Nat) : probe ECm 100 cCm1 (stCm0 la ca x lb cb y) 16 [] ((stCm la ca x lb cb y (iCm la lb)).map (·.1)) = some (0, [], (stCm la ca x lb cb y (iCm la lb)).map fun p => some p.2) := by kernel_rfl
theorem Cm_exit (la ca x lb cb y : Nat) (i : Int) : probe ECm 100 cCmL (stCm la ca x lb cb y i) 16 [(15, false)] ((stCm la ca x lb cb y i).map (·.1)) = some (2, [i ≥ 0 ↔ false = true], (stCm la ca x lb cb y i).map fun p => some p.2) := by kernel_rfl
def wA (len n : Nat) (i : Int) : Int := ((dg (n % pw len) i.toNat : Nat) : Int)
def obCm (la x lb y : Nat) (i : Int) : List Prop := [i ≥ 0 ↔ true = true, 0 ≤ i, 0 = 0, la = la, la < 4294967296, 0 ≤ i, 0 = 0, lb = lb, lb < 4294967296]
theorem Cm_eq (la ca x lb cb y : Nat) (i : Int) : probe ECm 100 cCmL (stCm la ca x lb cb y i) 16 [(15, true), (27, true)] ((stCm la ca x lb cb y (IntKind.i64.wrap (i - 1))).map (·.1)) = some (0, obCm la x lb y i ++ [wA la x i = wA lb y i ↔ true = true], (stCm la ca x lb cb y (IntKind.i64.wrap (i - 1))).map fun p => some p.2) := by kernel_rfl
theorem Cm_lt (la ca x lb cb y : Nat) (i : Int) : probe ECm 100 cCmL (stCm la ca x lb cb y i) 16 [(15, true), (27, false), (31, true)] ((stCmE la ca x lb cb y (-1)).map (·.1)) = some (1, obCm la x lb y i ++ [wA la x i = wA lb y i ↔ false = true, wA la x i < wA lb y i ↔ true = true], (stCmE la ca x lb cb y (-1)).map fun p => some p.2) := by kernel_rfl
theorem Cm_gt (la ca x lb cb y : Nat) (i : Int) : probe ECm 100 cCmL (stCm la ca x lb cb y i) 16 [(15, true), (27, false), (31, false)] ((stCmE la ca x lb cb y 1).map (·.1)) = some (1, obCm la x lb y i ++ [wA la x i = wA lb y i ↔ false = true, wA la x i < wA lb y i ↔ false = true], (stCmE la ca x lb cb y 1).map fun p => some p.2) := by kernel_rfl
theorem Cm_tail (la ca x lb cb y : Nat) (i : Int) : probe ECm 100 cCmT (stCm la ca x lb cb y i) 16 [] ((stCmE la ca x lb cb y 0).map (·.1)) = some (1, [], (stCmE la ca x lb cb y 0).map fun p => some p.2) := by kernel_rfl
theorem keep_Cm (la ca x lb cb y : Nat) (i : Int) : keepsB (stCm la ca x lb cb y i) [1, 2] = true := by kernel_rfl
theorem keep_Cm0 (la ca x lb cb y : Nat) : keepsB (stCm0 la ca x lb cb y) [1, 2] = true := by kernel_rfl
theorem keep_CmE (la ca x lb cb y : Nat) (i : Int) : keepsB (stCmE la ca x lb cb y i) [1, 2] = true := by kernel_rfl
theorem two_cases {P : Nat → Prop} (h1 : P 1) (h2 : P 2) : ∀ id ∈ [1, 2], P id := by
  intro id hid
  simp only [List.mem_cons, List.not_mem_nil, or_false] at hid
  rcases hid with rfl | rfl
  · exact h1
  · exact h2
theorem blk_Cm (la ca x lb cb y : Nat) (i : Int) : ∀ id ∈ [1, 2], ∃ l, (stCm la ca x lb cb y i).blk id = some l := two_cases ⟨_, rfl⟩ ⟨_, rfl⟩
theorem blk_Cm0 (la ca x lb cb y : Nat) : ∀ id ∈ [1, 2], ∃ l, (stCm0 la ca x lb cb y).blk id = some l := two_cases ⟨_, rfl⟩ ⟨_, rfl⟩
theorem blk_CmE (la ca x lb cb y : Nat) (i : Int) : ∀ id ∈ [1, 2], ∃ l, (stCmE la ca x lb cb y i).blk id = some l := two_cases ⟨_, rfl⟩ ⟨_, rfl⟩
def rho12 (b1 o1 b2 o2 : Nat) : Rho := rhoL [(1, (b1, o1)), (2, (b2, o2))]
theorem no_rho12 {b1 o1 b2 o2 : Nat} : ∀ id q, rho12 b1 o1 b2 o2 id = some q → id ∈ [1, 2] := by
  intro id q h
  unfold rho12 rhoL at h
  split at h
  · rename_i e; rw [← e]; simp
  · unfold rhoL at h
    split at h
    · rename_i e; rw [← e]; simp
    · cases h
theorem div_step (n j : Nat) : n / pw j = n / pw (j + 1) * 18446744073709551616 + dg n j := by
  unfold dg
  rw [pw_succ, ← Nat.div_div_eq_div_mul, two64]
  omega
theorem lt_of_div {a b k : Nat} (h : a / k < b / k) : a < b := by
  refine Nat.lt_of_not_le fun hle => ?_
  exact absurd h (Nat.not_lt.2 (Nat.div_le_div_right hle))
theorem obCm_ok {la x lb y : Nat} {i : Int} (hi : 0 ≤ i) (h1 : la < 4294967296) (h2 : lb < 4294967296) : ∀ p ∈ obCm la x lb y i, p :=
  all_cons (iff_t hi) (all_cons hi (all_cons rfl (all_cons rfl (all_cons h1 (all_cons hi (all_cons rfl (all_cons rfl (all_cons h2 all_nil))))))))
theorem Cm_loop {b1 o1 b2 o2 : Nat} {w0 : World} {la ca x lb cb y : Nat} (hla : la < 4294967296) (hlb : lb < 4294967296) {Q : Exit → Act → World → Prop}
    (hE : ∀ a w, At 32 (rho12 b1 o1 b2 o2) w0 (stCmE la ca x lb cb y (cmpI (x % pw la) (y % pw lb))) a w → Q .ret a w)
    (hX : x % pw la = y % pw lb → ∀ a w, At 32 (rho12 b1 o1 b2 o2) w0 (stCm la ca x lb cb y (-1)) a w → Q (.exit 0) a w) {a : Act} {w : World}
    (hA : At 32 (rho12 b1 o1 b2 o2) w0 (stCm la ca x lb cb y (iCm la lb)) a w) : (Code.loop cCmL).wp Try.prog Q a w := by
  obtain ⟨L, hLa, hLb, hL2, hL⟩ : ∃ L, la ≤ L ∧ lb ≤ L ∧ L < 4294967296 ∧ iCm la lb = ((L : Nat) : Int) - 1 := by
    refine ⟨max la lb, Nat.le_max_left _ _, Nat.le_max_right _ _, by omega, ?_⟩
    unfold iCm
    have e : (if (lb : Int) > (la : Int) then (lb : Int) else (la : Int)) = ((max la lb : Nat) : Int) := by
      split <;> omega
    rw [e, wrap_small (by omega) (by omega)]
  refine loop_rule (w0 := w0) (ρ0 := rho12 b1 o1 b2 o2) (N := 32) (ι := Nat) (fun j => j ≤ L ∧ x % pw la / pw j = y % pw lb / pw j) (fun j => stCm la ca x lb cb y ((j : Int) - 1)) (fun j => j) ?_ L ⟨Nat.le_refl _, ?_⟩ a w ?_
  · rintro j ⟨hj, he⟩ a w hA
    rcases Nat.eq_zero_or_pos j with hj0 | hj0
    · subst hj0
      refine At.probe (E := ECm) mixed tyTab_ok callCm (Cm_exit la ca x lb cb y _) (all_cons (iff_f (by omega)) all_nil) hA [1, 2] (blk_Cm _ _ _ _ _ _ _) (keep_Cm _ _ _ _ _ _ _) no_rho12 fun a' w' hA' => hX ?_ a' w' hA'
      simpa [pw] using he
    · obtain ⟨j, rfl⟩ : ∃ k, j = k + 1 := ⟨j - 1, by omega⟩
      have e1 : (((j + 1 : Nat) : Int) - 1) = (j : Int) := by omega
      rw [e1] at hA
      have ew : ∀ len n, wA len n (j : Int) = ((dg (n % pw len) j : Nat) : Int) := fun len n => by unfold wA; rw [Int.toNat_natCast]
      have dx := div_step (x % pw la) j
      have dy := div_step (y % pw lb) j
      have hob := obCm_ok (la := la) (x := x) (lb := lb) (y := y) (i := (j : Int)) (by omega) hla hlb
      rcases Nat.lt_trichotomy (dg (x % pw la) j) (dg (y % pw lb) j) with h | h | h
      · refine At.probe (E := ECm) mixed tyTab_ok callCm (Cm_lt la ca x lb cb y _) (all_appS hob (all_cons (iff_f (by rw [ew, ew]; omega)) (all_cons (iff_t (by rw [ew, ew]; omega)) all_nil))) hA [1, 2] (blk_CmE _ _ _ _ _ _ _) (keep_CmE _ _ _ _ _ _ _) no_rho12 fun a' w' hA' => hE a' w' ?_
        rw [cmpI_lt (lt_of_div (k := pw j) (by rw [dx, dy, he]; omega))]
        exact hA'
      · refine At.probe (E := ECm) mixed tyTab_ok callCm (Cm_eq la ca x lb cb y _) (all_appS hob (all_cons (iff_t (by rw [ew, ew, h])) all_nil)) hA [1, 2] (blk_Cm _ _ _ _ _ _ _) (keep_Cm _ _ _ _ _ _ _) no_rho12 fun a' w' hA' => ⟨j, ⟨by omega, by rw [dx, dy, he, h]⟩, Nat.lt_succ_self j, ?_⟩
        rw [wrap_small (by omega) (by omega)] at hA'
        exact hA'
      · refine At.probe (E := ECm) mixed tyTab_ok callCm (Cm_gt la ca x lb cb y _) (all_appS hob (all_cons (iff_f (by rw [ew, ew]; omega)) (all_cons (iff_f (by rw [ew, ew]; omega)) all_nil))) hA [1, 2] (blk_CmE _ _ _ _ _ _ _) (keep_CmE _ _ _ _ _ _ _) no_rho12 fun a' w' hA' => hE a' w' ?_
        rw [cmpI_gt (lt_of_div (k := pw j) (by rw [dx, dy, he]; omega))]
        exact hA'
  · have hz : ∀ n len, len ≤ L → n % pw len / pw L = 0 := fun n len h => Nat.div_eq_of_lt (Nat.lt_of_lt_of_le (Nat.mod_lt _ (pw_pos len)) (Nat.pow_le_pow_right (by omega) (Nat.mul_le_mul_left 64 h)))
    rw [hz x la hLa, hz y lb hLb]
  · rw [← hL]; exact hA
theorem limb_cmp {b1 o1 la ca x b2 o2 lb cb y : Nat} (hla : la < 4294967296) (hlb : lb < 4294967296) (w : World) (h1 : SlHas w b1 o1 la x) (h2 : SlHas w b2 o2 lb y) :
    Invoked Try.prog 134 [.slice (some ⟨b1, o1, none⟩) la ca, .slice (some ⟨b2, o2, none⟩) lb cb].toArray w fun u w' => u = .int .i64 (cmpI (x % pw la) (y % pw lb)) ∧ Below w.heap.size w w' := by
  refine .inr ⟨dCm_ok.enter _ _, ?_⟩
  have hst : ∀ e ∈ [ent 1 b1 o1 la x, ent 2 b2 o2 lb y], e.1 < 16 ∧ conc rho0 e.2.1 = some e.2.2.2 ∧ Stands w e.2.2.1.1 e.2.2.1.2 e.2.2.2 :=
    List.forall_mem_cons.2 ⟨⟨(by show 1 < 16; decide), conc_anyW _ _ _, stands_sl h1⟩, List.forall_mem_cons.2 ⟨⟨(by show 2 < 16; decide), conc_anyW _ _ _, stands_sl h2⟩, fun _ h => by cases h⟩⟩
  have hM : Mem (rho12 b1 o1 b2 o2) (memL [(1, anyW la x), (2, anyW lb y)]) w := mem_rhoL _ hst
  have hno : ∀ c, ¬ Own (rho12 b1 o1 b2 o2) c := no_ownL (w := w) _ hst
  have hv : vals (rho12 b1 o1 b2 o2) [slA 1 la ca, slA 2 lb cb] = some [.slice (some ⟨b1, o1, none⟩) la ca, .slice (some ⟨b2, o2, none⟩) lb cb] := by
    simp only [vals, val_slA (ρ := rho12 b1 o1 b2 o2) (id := 1) (b := b1) (o := o1) rfl, val_slA (ρ := rho12 b1 o1 b2 o2) (id := 2) (b := b2) (o := o2) rfl]
  refine (calls_of_at (G := fun xs st => xs = [iA (cmpI (x % pw la) (y % pw lb))]) tyTab_ok dCm_ok hM (by kernel_rfl) hv (by rw [dCm_ntmps]; simp) fun a hA0 => ?_).mono ?_
  · rw [dCm_ntmps] at hA0
    have hA0 : At 32 (rho12 b1 o1 b2 o2) w (inCm la ca x lb cb y) a w := hA0
    rw [dCm_ntmps, dCm_results, dCm_body]
    refine wp_seq (At.probe (E := ECm) mixed tyTab_ok callCm (Cm_start la ca x lb cb y) (fun p hp => by cases hp) hA0 [1, 2] (blk_Cm0 _ _ _ _ _ _) (keep_Cm0 _ _ _ _ _ _) no_rho12 fun a1 w1 g1 => ?_)
    show Code.wp _ _ _ _ _
    refine wp_scope_straight ?_
    refine wp_seq (At.probe (E := ECm) mixed tyTab_ok callCm (Cm_label la ca x lb cb y) (fun p hp => by cases hp) g1 [1, 2] (blk_Cm0 _ _ _ _ _ _) (keep_Cm0 _ _ _ _ _ _) no_rho12 fun a2 w2 g2 => ?_)
    show Code.wp _ _ _ _ _
    refine wp_seq (wp_seq (At.probe (E := ECm) mixed tyTab_ok callCm (Cm_head la ca x lb cb y) (fun p hp => by cases hp) g2 [1, 2] (blk_Cm _ _ _ _ _ _ _) (keep_Cm _ _ _ _ _ _ _) no_rho12 fun a3 w3 g3 => ?_))
    show Code.wp _ _ _ _ _
    refine wp_block (Cm_loop hla hlb (fun a4 w4 g4 => ?_) (fun he a4 w4 g4 => ?_) g3)
    · exact ⟨.inr rfl, _, [iA (cmpI (x % pw la) (y % pw lb))], g4, by kernel_rfl, rfl⟩
    · show Code.wp _ _ _ _ _
      refine At.probe (E := ECm) mixed tyTab_ok callCm (Cm_tail la ca x lb cb y _) (fun p hp => by cases hp) g4 [1, 2] (blk_CmE _ _ _ _ _ _ _) (keep_CmE _ _ _ _ _ _ _) no_rho12 fun a5 w5 g5 => ?_
      rw [he, cmpI_eq]
      exact ⟨.inr rfl, _, [iA 0], g5, by kernel_rfl, rfl⟩
  · rintro e w' ⟨v, rfl, xs, st, ρ', hE, hval, hMk, rfl⟩
    refine ⟨v, rfl, ?_, hE.below hno⟩
    have : (iA (cmpI (x % pw la) (y % pw lb))).val ρ' = some v := hval
    rw [val_iA] at this
    cases this; rfl
end Go.Proofs.Ythceokldlinjlaa
