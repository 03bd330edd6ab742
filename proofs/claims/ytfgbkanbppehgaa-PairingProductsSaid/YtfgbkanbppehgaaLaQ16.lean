/-
  The law of products of pairings: what it computes.
-/
import Derived.Test.YtfgbkanbppehgaaLaP16
import Derived.Test.YtfgbkanbppehgaaOps
namespace Go.Proofs.Ytfgbkanbppehgaa
open Go Go.Eng Go.RowKit Go.Wd Go.Alg Go.Pr

/-! ### runs with hints for the functions within -/
noncomputable def runH (T : CallT) (f : FuncId) (args : List AV) (m : St) (hints : List (Nat × Bool)) (hf : FuncId → List (Nat × Bool)) : Option (SV × List Prop) := match fn1 f with
  | some d => match runFn tyTab (callH tyTab T fn1 1000 hf 6) 1000 d args m 16 hints with
    | some o => some (o.val, o.ob)
    | none => none
  | none => none
theorem gives_of_runH {T : CallT} (hT : CallOk Try.prog T) {f : FuncId} {args : List AV} {m : St} {hints : List (Nat × Bool)} {hf : FuncId → List (Nat × Bool)} {s : SV} {ob : List Prop} (h : runH T f args m hints hf = some (s, ob)) (hob : ∀ p ∈ ob, p) {ρ : Rho} {w : World} (hM : Mem ρ m w)
    (hno : ∀ c, ¬ Own ρ c) {vs : List Value} (hv : vals ρ args = some vs) {v : Value} (hval : ∀ ρ u, s.val ρ = some u → u = v) : Gives Try.prog f vs.toArray v w := by
  unfold runH at h
  split at h
  · rename_i d hd
    split at h
    · rename_i o ho
      cases h
      refine (runFn_calls mixed tyTab_ok (callH_ok mixed tyTab_ok hT fn1_ok 1000 hf 6) (fn1_ok _ _ hd) ho hob hv hM).mono ?_
      rintro e w' ⟨u, rfl, ρ', hE, hu, _⟩
      exact ⟨by rw [hval ρ' u hu], hE.below hno⟩
    · cases h
  · cases h
/-- A slice among the arguments: of block 'id'. -/
def slI (id len cap : Nat) : AV := ⟨false, [.s id 0 len cap]⟩
def slZ : AV := ⟨false, [.v (.slice none 0 0)]⟩
def hfP (b c d : Bool) : FuncId → List (Nat × Bool) := fun f => match Nat.beq f 10 with
  | true => [(7, b), (11, c)]
  | false => match Nat.beq f 11 with
    | true => [(15, d)]
    | false => []
noncomputable def rowsPr : List Row := [rowK2 (kdP A1) (kdP A2) rsLoop 13 (fun p q => (pairOk p q, 0)) (fun p q => pairR p q = (pairOk p q, 0)),
  rowK1 (kdP A1) kdB.rs 19 (fun _ => true) (fun x => inB1 x = true), rowK1 (kdP A2) kdB.rs 20 (fun _ => true) (fun x => inB2 x = true)]
theorem rowsPr_ok : ∀ r ∈ rowsPr, RowOk Try.prog r := by
  simp only [rowsPr, List.forall_mem_cons, List.not_mem_nil, false_imp_iff, implies_true, and_true]
  exact ⟨rowK2_ok fun p q h => by rw [← h]; exact pairing_pair p q, rowK1_ok fun x hx => by rw [← hx]; exact sub_in1 x, rowK1_ok fun x hx => by rw [← hx]; exact sub_in2 x⟩
noncomputable def T16p : CallT := orT (tableT rowsPr) T16
theorem T16p_ok : CallOk Try.prog T16p := orT_ok (tableT_ok rowsPr_ok) T16_ok

/-! ### the runs -/
def le2 (l : Nat) (b : Bool) : Prop := (l : Int) ≤ 2 ↔ b = true
def neS (l k : Nat) : Prop := (l : Int) ≠ (k : Int) ↔ true = true
def noneOb : List Prop := [eqW zN12 zN12 true]
noncomputable def runP (T : CallT) (x y : AV) (m : List (Nat × List It)) (h : List (Nat × Bool)) (hf : FuncId → List (Nat × Bool)) := runH T 4 [x, y] (memL m) h hf
def none0 : FuncId → List (Nat × Bool) := fun _ => []
section
variable (l k c d : Nat)
theorem pr_fewA : runP T16 (slI 1 l c) (slI 2 k d) [(1, []), (2, [])] [] (hfP false true true) = some (vB true, [le2 l false]) := by kernel_rfl
theorem pr_fewB : runP T16 (slI 1 l c) slZ [(1, [])] [] (hfP false true true) = some (vB true, [le2 l false]) := by kernel_rfl
theorem pr_fewC : runP T16 (slI 1 l c) (slI 2 k d) [(1, []), (2, [])] [] (hfP true false true) = some (vB true, [le2 l true, le2 k false]) := by kernel_rfl
theorem pr_fewD : runP T16 slZ (slI 2 k d) [(2, [])] [] (hfP true false true) = some (vB true, [le2 0 true, le2 k false]) := by kernel_rfl
theorem pr_neA : runP T16 (slI 1 l c) (slI 2 k d) [(1, []), (2, [])] [(29, true), (38, true)] (hfP true true true) = some (vB true, [le2 l true, le2 k true, neS l k, neS l k] ++ noneOb) := by kernel_rfl
theorem pr_neB : runP T16 (slI 1 l c) slZ [(1, [])] [(29, true), (38, true)] (hfP true true true) = some (vB true, [le2 l true, le2 0 true, neS l 0, neS l 0] ++ noneOb) := by kernel_rfl
theorem pr_neC : runP T16 slZ (slI 2 k d) [(2, [])] [(29, true), (38, true)] (hfP true true true) = some (vB true, [le2 0 true, le2 k true, neS 0 k, neS 0 k] ++ noneOb) := by kernel_rfl
noncomputable def ob0 : List Prop := [eqW (finN oneT) (κ12 1) true]
theorem pr_0A : runP T16 (slI 1 0 c) (slI 2 0 d) [(1, []), (2, [])] [(86, true)] none0 = some (vB true, ob0) := by kernel_rfl
theorem pr_0B : runP T16 (slI 1 0 c) slZ [(1, [])] [(86, true)] none0 = some (vB true, ob0) := by kernel_rfl
theorem pr_0C : runP T16 slZ (slI 2 0 d) [(2, [])] [(86, true)] none0 = some (vB true, ob0) := by kernel_rfl
theorem pr_0D : runP T16 slZ slZ [] [(86, true)] none0 = some (vB true, ob0) := by kernel_rfl
variable (p : P1) (q : P2) (p' : P1) (q' : P2)
noncomputable def lN (p : P1) (q : P2) : N12 := (loopR p q).1
theorem pr_1T : runP T16p (slI 1 1 c) (slI 2 1 d) [(1, ptsI [p]), (2, ptsI [q])] [(86, true)] none0 =
  some (vB true, [inB1 p = true, inB2 q = true, pairR p q = (pairOk p q, 0), eqW (finN (mul12 (mul12 oneT oneT) (lN p q))) (mul12 (κ12 1) (pairOk p q)) true]) := by kernel_rfl
theorem pr_1F : runP (T16r zN12 140 false true) (slI 1 1 c) (slI 2 1 d) [(1, ptsI [p]), (2, ptsI [q])] [(76, true)] none0 = some (vB true, [inB1 p = false, pairR p q = (zN12, 140)] ++ noneOb) := by kernel_rfl
theorem pr_1G : runP (T16r zN12 140 true false) (slI 1 1 c) (slI 2 1 d) [(1, ptsI [p]), (2, ptsI [q])] [(76, true)] none0 = some (vB true, [inB1 p = true, inB2 q = false, pairR p q = (zN12, 140)] ++ noneOb) := by kernel_rfl
noncomputable def bS (b : Bool) : SV := kdB.rs.sv b
noncomputable def pS (r : N12 × Int) : SV := rsLoop.sv r
def bE (x y : Bool) : Prop := ∀ ρ, (bS x).val ρ = (bS y).val ρ
def pE (x y : N12 × Int) : Prop := ∀ ρ, (pS x).val ρ = (pS y).val ρ
noncomputable def run2 (l : List (Nat × SV)) := runP (forceT T16 l) (slI 1 2 c) (slI 2 2 d) [(1, ptsI [p, p']), (2, ptsI [q, q'])] [(76, true)] none0
theorem pr_2F : run2 c d p q p' q' [(26214421, bS false), (54, pS (zN12, 140))] = some (vB true, [bE (inB1 p) false, pE (pairR p q) (zN12, 140)] ++ noneOb) := by kernel_rfl
theorem pr_2G : run2 c d p q p' q' [(26214421, bS true), (26214428, bS false), (54, pS (zN12, 140))] = some (vB true, [bE (inB1 p) true, bE (inB2 q) false, pE (pairR p q) (zN12, 140)] ++ noneOb) := by kernel_rfl
theorem pr_2H : run2 c d p q p' q' [(26214421, bS true), (26214428, bS true), (26214458, bS false), (54, pS (pairOk p q, 0)), (86, pS (zN12, 140))] =
  some (vB true, [bE (inB1 p) true, bE (inB2 q) true, bE (inB1 p') false, pE (pairR p q) (pairOk p q, 0), pE (pairR p' q') (zN12, 140)] ++ noneOb) := by kernel_rfl
theorem pr_2I : run2 c d p q p' q' [(26214421, bS true), (26214428, bS true), (26214458, bS true), (26214465, bS false), (54, pS (pairOk p q, 0)), (86, pS (zN12, 140))] =
  some (vB true, [bE (inB1 p) true, bE (inB2 q) true, bE (inB1 p') true, bE (inB2 q') false, pE (pairR p q) (pairOk p q, 0), pE (pairR p' q') (zN12, 140)] ++ noneOb) := by kernel_rfl
theorem pr_2T : runP T16p (slI 1 2 c) (slI 2 2 d) [(1, ptsI [p, p']), (2, ptsI [q, q'])] [(86, true)] none0 =
  some (vB true, [inB1 p = true, inB2 q = true, inB1 p' = true, inB2 q' = true, pairR p q = (pairOk p q, 0), pairR p' q' = (pairOk p' q', 0),
    eqW (finN (mul12 (mul12 oneT (mul12 (mul12 oneT oneT) (lN p q))) (lN p' q'))) (mul12 (mul12 (κ12 1) (pairOk p q)) (pairOk p' q')) true]) := by kernel_rfl
end

/-! ### what they owe -/
theorem all_nil' {α : Type} {P : α → Prop} : ∀ x ∈ ([] : List α), P x := fun x hx => by cases hx
theorem all_cons' {α : Type} {P : α → Prop} {a : α} {l : List α} (h : P a) (k : ∀ x ∈ l, P x) : ∀ x ∈ a :: l, P x := by
  intro x hx
  rcases List.mem_cons.1 hx with rfl | hx
  · exact h
  · exact k x hx
theorem noneOb_ok : ∀ x ∈ noneOb, x := all_cons (eqW_of rfl) all_nil
theorem le2_t {l : Nat} (h : l ≤ 2) : le2 l true := iff_t (by omega)
theorem le2_f {l : Nat} (h : ¬ l ≤ 2) : le2 l false := iff_f (by omega)
theorem neS_ok {l k : Nat} (h : l ≠ k) : neS l k := iff_t (by omega)
theorem bE_of {x y : Bool} (h : x = y) : bE x y := fun ρ => by rw [h]
theorem pE_of {x y : N12 × Int} (h : x = y) : pE x y := fun ρ => by rw [h]
theorem prod1_eq (p : P1) (q : P2) : eqW (finN (mul12 (mul12 oneT oneT) (lN p q))) (mul12 (κ12 1) (pairOk p q)) true := by
  refine eqW_of ?_
  show pairOk p q = _
  rw [pairOk_eq]
  unfold mul12
  rw [ικ12, ικ12, one_mul]
theorem prod2_eq (p : P1) (q : P2) (p' : P1) (q' : P2) : eqW (finN (mul12 (mul12 oneT (mul12 (mul12 oneT oneT) (lN p q))) (lN p' q'))) (mul12 (mul12 (κ12 1) (pairOk p q)) (pairOk p' q')) true := by
  refine eqW_of ?_
  rw [pairOk_eq, pairOk_eq, finN_eq, mulTT, ι_mulT]
  unfold mul12 lN
  rw [ικ12, ικ12, ικ12, ικ12, ικ12, ικ12, ικ12, one_mul, finF_mul]

/-! ### the law -/
theorem val_slZ (ρ : Rho) : slZ.val ρ = some (.slice none 0 0) := AV.val_v (ρ := ρ) (x := .slice none 0 0) rfl
theorem val_slI {ρ : Rho} {id len cap b o : Nat} (h : ρ id = some (b, o)) : (slI id len cap).val ρ = some (.slice (some ⟨b, o, none⟩) len cap) := AV.val_mk (by simp [It.cs, h])
theorem vals_2 {ρ : Rho} {x y : AV} {u v : Value} (h : x.val ρ = some u) (k : y.val ρ = some v) : vals ρ [x, y] = some [u, v] := by simp only [vals, h, k]
abbrev Blk : Type := Nat × List It × (Nat × Nat) × List Value
def BlkS (w : World) (x : Blk) : Prop := x.1 < 16 ∧ conc rho0 x.2.1 = some x.2.2.2 ∧ Stands w x.2.2.1.1 x.2.2.1.2 x.2.2.2
def rhoB (l : List Blk) : Rho := rhoL (l.map fun x => (x.1, x.2.2.1))
theorem gives_pr {T : CallT} (hT : CallOk Try.prog T) {x y : AV} (l : List Blk) {m : List (Nat × List It)} (hm : m = l.map fun x => (x.1, x.2.1)) {h : List (Nat × Bool)} {hf : FuncId → List (Nat × Bool)} {ob : List Prop} (hr : runP T x y m h hf = some (vB true, ob)) (hob : ∀ p ∈ ob, p)
    {w : World} (hl : ∀ x ∈ l, BlkS w x) {u v : Value} (hx : x.val (rhoB l) = some u) (hy : y.val (rhoB l) = some v) : Gives Try.prog 4 #[u, v] (.bool true) w := by
  subst hm
  exact gives_of_runH hT hr hob (mem_rhoL l hl) (no_ownL l hl) (vals_2 hx hy) val_true
/-- A slice's block, without its cells; with them. -/
def blk0 (id b o : Nat) : Blk := (id, [], (b, o), [])
def blkP {A : Type} [Nm A] (id b o : Nat) (l : List (A × Bool)) : Blk := (id, ptsI l, (b, o), ptsV l)
theorem blk0_ok {w : World} {id b o : Nat} (h : id < 16) (hb : b < w.heap.size) : BlkS w (blk0 id b o) := ⟨h, rfl, stands_nil hb⟩
theorem blkP_ok {A : Type} [Nm A] {w : World} {id b o : Nat} {l : List (A × Bool)} (h : id < 16) (hs : Stands w b o (ptsV l)) : BlkS w (blkP id b o l) := ⟨h, conc_pts _ l, hs⟩
theorem pairingProducts_gives (v : Value) (w : World) (hv : IsPts A1 w v) (u : Value) (hu : IsPts A2 w u) : Gives Try.prog 4 #[v, u] (.bool true) w := by
  have o0 : ∀ x ∈ ob0, x := all_cons (eqW_of finN_oneT) all_nil
  rcases hv with rfl | ⟨b, o, len, cap, ps, rfl, _, hl, hs⟩
  · rcases hu with rfl | ⟨b', o', len', cap', qs, rfl, _, hl', hs'⟩
    · exact gives_pr T16_ok [] rfl pr_0D o0 (fun x hx => by cases hx) (val_slZ _) (val_slZ _)
    · have hB : ∀ x ∈ [blk0 2 b' o'], BlkS w x := all_cons' (blk0_ok (by omega) hs'.1) all_nil'
      by_cases h2 : len' ≤ 2
      · by_cases h0 : len' = 0
        · subst h0
          exact gives_pr T16_ok [blk0 2 b' o'] rfl (pr_0C cap') o0 hB (val_slZ _) (val_slI rfl)
        · exact gives_pr T16_ok [blk0 2 b' o'] rfl (pr_neC len' cap') (all_appS (all_cons (le2_t (by omega)) (all_cons (le2_t h2) (all_cons (neS_ok fun e => h0 e.symm) (all_cons (neS_ok fun e => h0 e.symm) all_nil)))) noneOb_ok) hB (val_slZ _) (val_slI rfl)
      · exact gives_pr T16_ok [blk0 2 b' o'] rfl (pr_fewD len' cap') (all_cons (le2_t (by omega)) (all_cons (le2_f h2) all_nil)) hB (val_slZ _) (val_slI rfl)
  · have hA : BlkS w (blk0 1 b o) := blk0_ok (by omega) hs.1
    rcases hu with rfl | ⟨b', o', len', cap', qs, rfl, _, hl', hs'⟩
    · have hB : ∀ x ∈ [blk0 1 b o], BlkS w x := all_cons' hA all_nil'
      by_cases h2 : len ≤ 2
      · by_cases h0 : len = 0
        · rw [h0] at *
          exact gives_pr T16_ok [blk0 1 b o] rfl (pr_0B cap) o0 hB (val_slI rfl) (val_slZ _)
        · exact gives_pr T16_ok [blk0 1 b o] rfl (pr_neB len cap) (all_appS (all_cons (le2_t h2) (all_cons (le2_t (by omega)) (all_cons (neS_ok h0) (all_cons (neS_ok h0) all_nil)))) noneOb_ok) hB (val_slI rfl) (val_slZ _)
      · exact gives_pr T16_ok [blk0 1 b o] rfl (pr_fewB len cap) (all_cons (le2_f h2) all_nil) hB (val_slI rfl) (val_slZ _)
    · have hB : ∀ x ∈ [blk0 1 b o, blk0 2 b' o'], BlkS w x := all_cons' hA (all_cons' (blk0_ok (by omega) hs'.1) all_nil')
      by_cases h2 : len ≤ 2
      · by_cases h2' : len' ≤ 2
        · by_cases hne : len = len'
          · subst hne
            match ps, qs, hl, hl', hs, hs' with
            | [], _, hl, _, _, _ =>
              have h0 : len = 0 := hl.symm
              rw [h0] at *
              exact gives_pr T16_ok [blk0 1 b o, blk0 2 b' o'] rfl (pr_0A cap cap') o0 hB (val_slI rfl) (val_slI rfl)
            | [p], [q], hl, _, hs, hs' =>
              have h0 : len = 1 := hl.symm
              rw [h0] at *
              have hC : ∀ x ∈ [blkP 1 b o [p], blkP 2 b' o' [q]], BlkS w x := all_cons' (blkP_ok (by omega) hs) (all_cons' (blkP_ok (by omega) hs') all_nil')
              cases h1 : inB1 p with
              | false => exact gives_pr (T16r_ok _ _ _ _) [blkP 1 b o [p], blkP 2 b' o' [q]] rfl (pr_1F cap cap' p q) (all_appS (all_cons h1 (all_cons (pairR_f (by rw [h1]; rfl)) all_nil)) noneOb_ok) hC (val_slI rfl) (val_slI rfl)
              | true =>
                cases h2 : inB2 q with
                | false => exact gives_pr (T16r_ok _ _ _ _) [blkP 1 b o [p], blkP 2 b' o' [q]] rfl (pr_1G cap cap' p q) (all_appS (all_cons h1 (all_cons h2 (all_cons (pairR_f (by rw [h1, h2]; rfl)) all_nil))) noneOb_ok) hC (val_slI rfl) (val_slI rfl)
                | true => exact gives_pr T16p_ok [blkP 1 b o [p], blkP 2 b' o' [q]] rfl (pr_1T cap cap' p q) (all_cons h1 (all_cons h2 (all_cons (pairR_t h1 h2) (all_cons (prod1_eq p q) all_nil)))) hC (val_slI rfl) (val_slI rfl)
            | [p, p'], [q, q'], hl, _, hs, hs' =>
              have h0 : len = 2 := hl.symm
              rw [h0] at *
              have hC : ∀ x ∈ [blkP 1 b o [p, p'], blkP 2 b' o' [q, q']], BlkS w x := all_cons' (blkP_ok (by omega) hs) (all_cons' (blkP_ok (by omega) hs') all_nil')
              cases h1 : inB1 p with
              | false => exact gives_pr (forceT_ok T16_ok _) [blkP 1 b o [p, p'], blkP 2 b' o' [q, q']] rfl (pr_2F cap cap' p q p' q') (all_appS (all_cons (bE_of h1) (all_cons (pE_of (pairR_f (by rw [h1]; rfl))) all_nil)) noneOb_ok) hC (val_slI rfl) (val_slI rfl)
              | true =>
                cases h2 : inB2 q with
                | false => exact gives_pr (forceT_ok T16_ok _) [blkP 1 b o [p, p'], blkP 2 b' o' [q, q']] rfl (pr_2G cap cap' p q p' q') (all_appS (all_cons (bE_of h1) (all_cons (bE_of h2) (all_cons (pE_of (pairR_f (by rw [h1, h2]; rfl))) all_nil))) noneOb_ok) hC (val_slI rfl) (val_slI rfl)
                | true =>
                  have e1 := pairR_t h1 h2
                  cases h3 : inB1 p' with
                  | false => exact gives_pr (forceT_ok T16_ok _) [blkP 1 b o [p, p'], blkP 2 b' o' [q, q']] rfl (pr_2H cap cap' p q p' q') (all_appS (all_cons (bE_of h1) (all_cons (bE_of h2) (all_cons (bE_of h3) (all_cons (pE_of e1) (all_cons (pE_of (pairR_f (by rw [h3]; rfl))) all_nil))))) noneOb_ok) hC (val_slI rfl) (val_slI rfl)
                  | true =>
                    cases h4 : inB2 q' with
                    | false => exact gives_pr (forceT_ok T16_ok _) [blkP 1 b o [p, p'], blkP 2 b' o' [q, q']] rfl (pr_2I cap cap' p q p' q') (all_appS (all_cons (bE_of h1) (all_cons (bE_of h2) (all_cons (bE_of h3) (all_cons (bE_of h4) (all_cons (pE_of e1) (all_cons (pE_of (pairR_f (by rw [h3, h4]; rfl))) all_nil)))))) noneOb_ok) hC (val_slI rfl) (val_slI rfl)
                    | true => exact gives_pr T16p_ok [blkP 1 b o [p, p'], blkP 2 b' o' [q, q']] rfl (pr_2T cap cap' p q p' q') (all_cons h1 (all_cons h2 (all_cons h3 (all_cons h4 (all_cons e1 (all_cons (pairR_t h3 h4) (all_cons (prod2_eq p q p' q') all_nil))))))) hC (val_slI rfl) (val_slI rfl)
            | [_], [], hl, hl', _, _ => rw [← hl] at hl'; cases hl'
            | [_], _ :: _ :: _, hl, hl', _, _ => rw [← hl] at hl'; cases hl'
            | [_, _], [], hl, hl', _, _ => rw [← hl] at hl'; cases hl'
            | [_, _], [_], hl, hl', _, _ => rw [← hl] at hl'; cases hl'
            | [_, _], _ :: _ :: _ :: _, hl, hl', _, _ => rw [← hl] at hl'; cases hl'
            | _ :: _ :: _ :: _, _, hl, _, _, _ => simp only [List.length_cons] at hl; omega
          · exact gives_pr T16_ok [blk0 1 b o, blk0 2 b' o'] rfl (pr_neA len len' cap cap') (all_appS (all_cons (le2_t h2) (all_cons (le2_t h2') (all_cons (neS_ok hne) (all_cons (neS_ok hne) all_nil)))) noneOb_ok) hB (val_slI rfl) (val_slI rfl)
        · exact gives_pr T16_ok [blk0 1 b o, blk0 2 b' o'] rfl (pr_fewC len len' cap cap') (all_cons (le2_t h2) (all_cons (le2_f h2') all_nil)) hB (val_slI rfl) (val_slI rfl)
      · exact gives_pr T16_ok [blk0 1 b o, blk0 2 b' o'] rfl (pr_fewA len len' cap cap') (all_cons (le2_f h2) all_nil) hB (val_slI rfl) (val_slI rfl)
end Go.Proofs.Ytfgbkanbppehgaa
