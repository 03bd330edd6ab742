/-
  Miller's loop: the row of the program's miller.Loop.
-/
import Derived.Test.YtcidhcielgnfdaaGreatMi
namespace Go.Proofs.YtcidhcielgnfdaaGreat
open Go Go.Eng Go.RowKit Go.Wd Go.Alg Go.Pr

abbrev SM := N12 × P2
noncomputable def stepM (p : P1) (s : SM) (q : P2) : SM := (mul12 s.1 (stepN s.2 q p).2, (stepN s.2 q p).1)
noncomputable def dblM (p : P1) (s : SM) : SM := (mul12 (mul12 s.1 s.1) (stepN s.2 s.2 p).2, (stepN s.2 s.2 p).1)
def xM : Nat := 0xd201000000010000
def bitM (i : Nat) : Bool := Nat.beq (xM / 2 ^ i % 2) 1
noncomputable def roundM (p : P1) (q : P2) (i : Nat) (s : SM) : SM := match bitM i with
  | true => stepM p (dblM p s) q
  | false => dblM p s
/-- The loop, from the bit below on. -/
noncomputable def itM (p : P1) (q : P2) : Nat → SM → SM
  | 0, s => s
  | i + 1, s => itM p q i (roundM p q i s)
noncomputable def loopM (p : P1) (q : P2) : SM := itM p q 63 (κ12 1, κP2 (ιP2 q))
def zN12 : N12 := (((0, 0), (0, 0), (0, 0)), ((0, 0), (0, 0), (0, 0)))
/-- What Miller's loop answers. -/
noncomputable def loopR (p : P1) (q : P2) : N12 × Int := match onB1 p && onB2 q with
  | true => match p.2 || q.2 with
    | true => (κ12 1, 0)
    | false => (conj12 (loopM p q).1, 0)
  | false => (zN12, 120)
def rsLoop : Rs (N12 × Int) := rs2 (kdN N12) kdI

noncomputable def dML : Fn1 := match fn1 31 with
  | some d => d
  | none => ⟨.skip, [], 0⟩
theorem dML_ok : FnOk Tryz.prog 31 dML := fn1_ok _ _ (by kernel_rfl)
/-- On's answers, known. -/
noncomputable def rowsOM (b c : Bool) : List Row := [rowK1 (kdP A1) kdB.rs 65 (fun _ => b) (fun x => onB1 x = b), rowK1 (kdP A2) kdB.rs 66 (fun _ => c) (fun x => onB2 x = c)]
theorem rowsOM_ok (b c : Bool) : ∀ r ∈ rowsOM b c, RowOk Tryz.prog r := by
  simp only [rowsOM, List.forall_mem_cons, List.not_mem_nil, false_imp_iff, implies_true, and_true]
  exact ⟨rowK1_ok fun x hx => by rw [← hx]; exact g1_on x, rowK1_ok fun x hx => by rw [← hx]; exact g2_on x⟩
noncomputable def TMo (b c : Bool) : CallT := orT (tableT (rowsOM b c)) TMi2
theorem TMo_ok (b c : Bool) : CallOk Tryz.prog (TMo b c) := orT_ok (tableT_ok (rowsOM_ok b c)) TMi2_ok
noncomputable def EML : Eng := { tab := tyTab, call := callN tyTab (TMo true true) fn1 1000 6, N := 51 }
set_option maxRecDepth 100000 in
theorem callML : CallOk Tryz.prog EML.call := callN_ok mixed tyTab_ok (TMo_ok true true) fn1_ok 1000 6
noncomputable def cML0 : Code := seqL dML.body
noncomputable def cMLX : Code := scopeIn (seqR dML.body)
noncomputable def cML1 : Code := seqL cMLX
noncomputable def cML2 : Code := seqL (seqR cMLX)
noncomputable def cML3 : Code := seqL (seqR (seqR cMLX))
noncomputable def cML4 : Code := seqL (seqR (seqR (seqR cMLX)))
noncomputable def cMLY : Code := seqR (seqR (seqR (seqR cMLX)))
noncomputable def cML7 : Code := seqL (seqL cMLY)
noncomputable def cMLL : Code := loopIn (blockIn (seqR (seqL cMLY)))
noncomputable def cMLT : Code := seqR cMLY
theorem dML_body : dML.body = .seq cML0 (.scope (chain [cML1] (chain [cML2, cML3, cML4] (.seq (.seq cML7 (.block 1 (.loop cMLL))) cMLT)))) := by kernel_rfl
theorem dML_ntmps : dML.ntmps = 51 := by kernel_rfl
theorem dML_results : dML.results = [.cell 4 30, .tmp 5] := by kernel_rfl
noncomputable def inML (p : A1) (q : A2) : St := initSlots 0 [wP (p, false), wP (q, false)] (51 - [wP (p, false), wP (q, false)].length) ++ []
def stMLA (p : A1) (q : A2) : St := [(4, spt 16), (6, spt 17), (8, spt 18), (10, sI 0), (33, bP1 (p, false)), (35, bP2 (q, false)), (37, bN zN12)]
def cloM : Ct := .sl (it1 (.f 69 [(44, 0), (16, 0), (43, 0)]))
def stMLb (p : A1) (q : A2) (f : List It) (t : P2) : St := [(4, spt 16), (6, spt 17), (8, spt 18), (10, sI 0), (12, spt 43), (14, spt 44), (16, cloM), (33, bP1 (p, false)), (35, bP2 (q, false)), (37, bN zN12), (87, .bl f), (89, bP2 t)]
def stML (p : A1) (q : A2) (i : Int) (s : SM) : St := [(4, spt 16), (6, spt 17), (8, spt 18), (10, sI 0), (12, spt 43), (14, spt 44), (16, cloM), (18, sI i), (33, bP1 (p, false)), (35, bP2 (q, false)), (37, bN zN12), (87, bN s.1), (89, bP2 s.2)]
theorem ML_a (p : A1) (q : A2) : probe EML 100 cML0 (inML p q) 16 [] ((stMLA p q).map (·.1)) = some (0, [], (stMLA p q).map fun x => some x.2) := by kernel_rfl
theorem ML_b (p : A1) (q : A2) : probes EML 100 [cML1] (stMLA p q) 30 [] ((stMLA p q).map (·.1)) = some (0, [onB1 (p, false) = true, onB2 (q, false) = true], (stMLA p q).map fun x => some x.2) := by kernel_rfl
theorem ML_c (p : A1) (q : A2) : probes EML 100 [cML2, cML3, cML4] (stMLA p q) 40 [] ((stMLb p q ((Nm.toL (κ12 1)).map (It.w 6)) (κP2 (ιP2 (q, false)))).map (·.1)) = some (0, [], (stMLb p q ((Nm.toL (κ12 1)).map (It.w 6)) (κP2 (ιP2 (q, false)))).map fun x => some x.2) := by kernel_rfl
theorem ML_d (p : A1) (q : A2) (f : N12) (t : P2) : probe EML 100 cML7 (stMLb p q ((Nm.toL f).map (It.w 6)) t) 80 [] ((stML p q 62 (f, t)).map (·.1)) = some (0, [], (stML p q 62 (f, t)).map fun x => some x.2) := by kernel_rfl
theorem ML_exit (p : A1) (q : A2) (i : Int) (s : SM) : probe EML 100 cMLL (stML p q i s) 100 [(33, false)] ((stML p q i s).map (·.1)) = some (3, [i ≥ 0 ↔ false = true], (stML p q i s).map fun x => some x.2) := by kernel_rfl
def bitI (i : Int) : Int := Eng.bits .and .u64 ((15132376222941642752 : Int).fdiv (2 ^ min i.toNat IntKind.u64.bits)) 1
def obML (i : Int) (b : Bool) : List Prop := [i ≥ 0 ↔ true = true, 0 ≤ i, bitI i = 0 ↔ (!b) = true]
theorem ML_zero (p : A1) (q : A2) (i : Int) (s : SM) : probe EML 100 cMLL (stML p q i s) 100 [(33, true), (43, true), (45, true)] ((stML p q (IntKind.i64.wrap (i - 1)) (dblM (p, false) s)).map (·.1)) = some (0, obML i false, (stML p q (IntKind.i64.wrap (i - 1)) (dblM (p, false) s)).map fun x => some x.2) := by kernel_rfl
theorem ML_one (p : A1) (q : A2) (i : Int) (s : SM) : probe EML 100 cMLL (stML p q i s) 100 [(33, true), (43, true), (45, false)] ((stML p q (IntKind.i64.wrap (i - 1)) (stepM (p, false) (dblM (p, false) s) (q, false))).map (·.1)) =
  some (0, obML i true, (stML p q (IntKind.i64.wrap (i - 1)) (stepM (p, false) (dblM (p, false) s) (q, false))).map fun x => some x.2) := by kernel_rfl
noncomputable def endML (f : N12) : St := [(8, spt 18), (10, sI 0), (37, bN f)]
theorem ML_tail (p : A1) (q : A2) (i : Int) (s : SM) : probe EML 100 cMLT (stML p q i s) 100 [] ((endML (conj12 s.1)).map (·.1)) = some (1, [], (endML (conj12 s.1)).map fun x => some x.2) := by kernel_rfl
theorem bitI_ok : ∀ i : Nat, i < 63 → (bitI (i : Int) = 0 ↔ (!(bitM i)) = true) := by decide +kernel
theorem obML_ok {i : Nat} (h : i < 63) {b : Bool} (hb : bitM i = b) : ∀ x ∈ obML (i : Int) b, x :=
  all_cons (iff_t (by omega)) (all_cons (by omega) (all_cons (by rw [← hb]; exact bitI_ok i h) all_nil))
theorem blk_ML (p : A1) (q : A2) (i : Int) (s : SM) : ∀ id ∈ [16, 17, 18, 43, 44], ∃ l, (stML p q i s).blk id = some l := by
  intro id hid
  simp only [List.mem_cons, List.not_mem_nil, or_false] at hid
  rcases hid with rfl | rfl | rfl | rfl | rfl <;> exact ⟨_, rfl⟩
theorem blk_MLb (p : A1) (q : A2) (f : List It) (t : P2) : ∀ id ∈ [16, 17, 18, 43, 44], ∃ l, (stMLb p q f t).blk id = some l := by
  intro id hid
  simp only [List.mem_cons, List.not_mem_nil, or_false] at hid
  rcases hid with rfl | rfl | rfl | rfl | rfl <;> exact ⟨_, rfl⟩
theorem blk_MLA (p : A1) (q : A2) : ∀ id ∈ [16, 17, 18], ∃ l, (stMLA p q).blk id = some l := by
  intro id hid
  simp only [List.mem_cons, List.not_mem_nil, or_false] at hid
  rcases hid with rfl | rfl | rfl <;> exact ⟨_, rfl⟩
theorem keep_ML (p : A1) (q : A2) (i : Int) (s : SM) : keepsB (stML p q i s) [16, 17, 18, 43, 44] = true := by kernel_rfl
theorem keep_MLb (p : A1) (q : A2) (f : N12) (t : P2) : keepsB (stMLb p q ((Nm.toL f).map (It.w 6)) t) [16, 17, 18, 43, 44] = true := by kernel_rfl
theorem keep_MLA (p : A1) (q : A2) : keepsB (stMLA p q) [16, 17, 18] = true := by kernel_rfl
theorem ML_loop {w0 : World} (p : A1) (q : A2) {Q : Exit → Act → World → Prop} {s0 : SM} (hQ : ∀ s a w, s = itM (p, false) (q, false) 63 s0 → At 51 rho0 w0 (stML p q (-1) s) a w → Q (.exit 1) a w) {a : Act} {w : World}
    (hA : At 51 rho0 w0 (stML p q (((63 : Nat) : Int) - 1) s0) a w) : (Code.loop cMLL).wp Tryz.prog Q a w := by
  refine loop_rule (w0 := w0) (ρ0 := rho0) (N := 51) (ι := Nat × SM) (fun x => x.1 ≤ 63 ∧ itM (p, false) (q, false) x.1 x.2 = itM (p, false) (q, false) 63 s0) (fun x => stML p q ((x.1 : Int) - 1) x.2) (fun x => x.1) ?_ (63, s0) ⟨Nat.le_refl _, rfl⟩ a w hA
  rintro ⟨j, s⟩ ⟨hj, hI⟩ a w hA
  have hj : j ≤ 63 := hj
  have hI : itM (p, false) (q, false) j s = itM (p, false) (q, false) 63 s0 := hI
  have hA : At 51 rho0 w0 (stML p q ((j : Int) - 1) s) a w := hA
  cases j with
  | zero =>
    exact At.probe (E := EML) mixed tyTab_ok callML (ML_exit p q _ s) (one_mem (iff_f (by omega))) hA [16, 17, 18, 43, 44] (blk_ML _ _ _ _) (keep_ML _ _ _ _) (no_rho0 _) fun a' w' hA' => hQ s a' w' hI hA'
  | succ k =>
    have ei : ((k + 1 : Nat) : Int) - 1 = (k : Int) := by omega
    rw [ei] at hA
    have hw : IntKind.i64.wrap ((k : Int) - 1) = (k : Int) - 1 := wrap_small (by omega) (by omega)
    cases hb : bitM k with
    | false =>
      refine At.probe (E := EML) mixed tyTab_ok callML (ML_zero p q _ s) (obML_ok (by omega) hb) hA [16, 17, 18, 43, 44] (blk_ML _ _ _ _) (keep_ML _ _ _ _) (no_rho0 _) fun a' w' hA' => ⟨(k, dblM (p, false) s), ⟨by show k ≤ 63; omega, ?_⟩, by show k < k + 1; omega, ?_⟩
      · rw [← hI]
        show _ = itM _ _ k (roundM _ _ k s)
        unfold roundM
        rw [hb]
      · rw [hw] at hA'
        exact hA'
    | true =>
      refine At.probe (E := EML) mixed tyTab_ok callML (ML_one p q _ s) (obML_ok (by omega) hb) hA [16, 17, 18, 43, 44] (blk_ML _ _ _ _) (keep_ML _ _ _ _) (no_rho0 _) fun a' w' hA' => ⟨(k, stepM (p, false) (dblM (p, false) s) (q, false)), ⟨by show k ≤ 63; omega, ?_⟩, by show k < k + 1; omega, ?_⟩
      · rw [← hI]
        show _ = itM _ _ k (roundM _ _ k s)
        unfold roundM
        rw [hb]
      · rw [hw] at hA'
        exact hA'
theorem valsPQ (p : P1) (q : P2) : vals rho0 [wP p, wP q] = some [wpv p, wpv q] := by simp only [vals, val_wP]
theorem keep_endML (f : N12) : keepsB (endML f) [18] = true := by kernel_rfl
theorem no_own0 : ∀ c, ¬ Own rho0 c := by
  rintro c ⟨id, _, _, h⟩
  cases h
theorem loopR_t {p : A1} {q : A2} (hp : onB1 (p, false) = true) (hq : onB2 (q, false) = true) : loopR (p, false) (q, false) = (conj12 (loopM (p, false) (q, false)).1, 0) := by
  unfold loopR
  rw [hp, hq]; rfl
theorem miller_loopF (p : A1) (q : A2) (hp : onB1 (p, false) = true) (hq : onB2 (q, false) = true) : Pure Tryz.prog 31 [wpv (p, false), wpv (q, false)] (rsLoop.vl (loopR (p, false) (q, false))) := by
  intro w
  refine .inr ⟨dML_ok.enter _ _, ?_⟩
  refine (calls_of_at (G := fun xs st => xs = [wN (conj12 (loopM (p, false) (q, false)).1), wI1 0]) tyTab_ok dML_ok (mem_rho0 w) rfl (valsPQ (p, false) (q, false)) (by rw [dML_ntmps]; simp) fun a hA0 => ?_).mono ?_
  · rw [dML_ntmps] at hA0
    have hA0 : At 51 rho0 w (inML p q) a w := hA0
    rw [dML_ntmps, dML_results, dML_body]
    refine wp_seq (At.probe (E := EML) mixed tyTab_ok callML (ML_a p q) (fun x hx => by cases hx) hA0 [16, 17, 18] (blk_MLA _ _) (keep_MLA _ _) (no_rho0 _) fun a1 w1 h1 => ?_)
    refine wp_scope_straight (At.probes (E := EML) mixed tyTab_ok callML (ML_b p q) (all_cons hp (all_cons hq all_nil)) h1 [16, 17, 18] (blk_MLA _ _) (keep_MLA _ _) (no_rho0 _) fun a2 w2 h2 => ?_)
    show Code.wp _ _ _ _ _
    refine At.probes (E := EML) mixed tyTab_ok callML (ML_c p q) (fun x hx => by cases hx) h2 [16, 17, 18, 43, 44] (blk_MLb _ _ _ _) (keep_MLb _ _ _ _) (no_rho0 _) fun a3 w3 h3 => ?_
    show Code.wp _ _ _ _ _
    refine wp_seq (wp_seq (At.probe (E := EML) mixed tyTab_ok callML (ML_d p q (κ12 1) (κP2 (ιP2 (q, false)))) (fun x hx => by cases hx) h3 [16, 17, 18, 43, 44] (blk_ML _ _ _ _) (keep_ML _ _ _ _) (no_rho0 _) fun a4 w4 h4 => ?_))
    show Code.wp _ _ _ _ _
    refine wp_block (ML_loop p q (fun s a5 w5 hs h5 => ?_) h4)
    show Code.wp _ _ _ _ _
    refine At.probe (E := EML) mixed tyTab_ok callML (ML_tail p q _ s) (fun x hx => by cases hx) h5 [18] (fun id hid => by rw [List.mem_singleton] at hid; subst hid; exact ⟨_, rfl⟩) (keep_endML _) (no_rho0 _) fun a6 w6 h6 => ?_
    rw [hs] at h6
    exact ⟨.inr rfl, _, _, h6, by kernel_rfl, rfl⟩
  · rintro e w' ⟨v, rfl, xs, st, ρ', hE, hval, hMk, rfl⟩
    refine ⟨v, rfl, ?_, hE.below no_own0⟩
    rw [loopR_t hp hq]
    have e := rsLoop.val ρ' (conj12 (loopM (p, false) (q, false)).1, 0)
    have : (rsLoop.sv (conj12 (loopM (p, false) (q, false)).1, 0)).val ρ' = some v := hval
    rw [e] at this
    cases this; rfl
theorem miller_loop_runX (p : P1) (q : P2) : run1 (TMo false true) 31 [wP p, wP q] [] = some (rsLoop.sv (zN12, 120), [onB1 p = false]) := by kernel_rfl
theorem miller_loop_runY (p : P1) (q : P2) : run1 (TMo true false) 31 [wP p, wP q] [] = some (rsLoop.sv (zN12, 120), [onB1 p = true, onB2 q = false]) := by kernel_rfl
theorem miller_loop_runP (p : A1) (q : P2) : run1 (TMo true true) 31 [wP (p, true), wP q] [] = some (rsLoop.sv (κ12 1, 0), [onB1 (p, true) = true, onB2 q = true]) := by kernel_rfl
theorem miller_loop_runQ (p : A1) (q : A2) : run1 (TMo true true) 31 [wP (p, false), wP (q, true)] [] = some (rsLoop.sv (κ12 1, 0), [onB1 (p, false) = true, onB2 (q, true) = true]) := by kernel_rfl
theorem loopR_f {p : P1} {q : P2} (h : (onB1 p && onB2 q) = false) : loopR p q = (zN12, 120) := by
  unfold loopR
  rw [h]
theorem loopR_i {p : P1} {q : P2} (h : (onB1 p && onB2 q) = true) (k : (p.2 || q.2) = true) : loopR p q = (κ12 1, 0) := by
  unfold loopR
  rw [h, k]
theorem miller_loop (p : P1) (q : P2) : Pure Tryz.prog 31 [wpv p, wpv q] (rsLoop.vl (loopR p q)) := by
  cases hp : onB1 p with
  | false => exact pureC_of_run (TMo_ok false true) rsLoop (miller_loop_runX p q) (one_mem hp) (valsPQ p q) (loopR_f (by rw [hp]; rfl)).symm
  | true =>
    cases hq : onB2 q with
    | false => exact pureC_of_run (TMo_ok true false) rsLoop (miller_loop_runY p q) (all_cons hp (all_cons hq all_nil)) (valsPQ p q) (loopR_f (by rw [hp, hq]; rfl)).symm
    | true =>
      have hpq : (onB1 p && onB2 q) = true := by rw [hp, hq]; rfl
      obtain ⟨p, pb⟩ := p
      obtain ⟨q, qb⟩ := q
      cases pb with
      | true => exact pureC_of_run (TMo_ok true true) rsLoop (miller_loop_runP p (q, qb)) (all_cons hp (all_cons hq all_nil)) (valsPQ _ _) (loopR_i hpq rfl).symm
      | false =>
        cases qb with
        | true => exact pureC_of_run (TMo_ok true true) rsLoop (miller_loop_runQ p q) (all_cons hp (all_cons hq all_nil)) (valsPQ _ _) (loopR_i hpq rfl).symm
        | false => exact miller_loopF p q hp hq
noncomputable def rowsMl : List Row := rowC2 (kdP A1) (kdP A2) rsLoop 31 loopR :: rowsMs
theorem rowsMl_ok : ∀ r ∈ rowsMl, RowOk Tryz.prog r := by
  simp only [rowsMl, List.forall_mem_cons]
  exact ⟨rowC2_ok miller_loop, rowsMs_ok⟩
noncomputable def TMi : CallT := orT (tableT rowsMl) TMi0
theorem TMi_ok : CallOk Tryz.prog TMi := orT_ok (tableT_ok rowsMl_ok) TMi0_ok
end Go.Proofs.YtcidhcielgnfdaaGreat
