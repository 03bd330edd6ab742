/-
  Multiples of points: the row of g1.Mul.
-/
import Derived.Test.YthceokldlinjlaaM1
import Derived.Test.YthceokldlinjlaaOp
namespace Go.Proofs.Ythceokldlinjlaa
open Go Go.Eng Go.RowKit Go.Wd Go.Alg Go.Pr

/-- The answer: a multiple, or the error of a point that is not on the curve. -/
noncomputable def mulR1 (x : P1) (m : Nat) : P1 × Int := match onB1 x with
  | true => (κP1 (smul m (ιP1 x)), 0)
  | false => (((0, 0), false), 120)
def rsM1 : Rs (P1 × Int) := rs2 (kdP A1) kdI
/-- The table in which On's answer is known. -/
noncomputable def rowsM1 (b : Bool) : List Row := rowK1 (kdP A1) kdB.rs 29 (fun _ => b) (fun x => onB1 x = b) :: rowK2 (kdN J1) (kdP A1) (kdN J1).rs 89 pl1 (fun f _ => RdJ1 f) ::
  rowK1 (kdN J1) (kdP A1).rs 90 (fun f => κP1 (jpt (ιJ1 f))) RdJ1 :: rowsB1
theorem rowsM1_ok (b : Bool) : ∀ r ∈ rowsM1 b, RowOk Try.prog r := by
  simp only [rowsM1, List.forall_mem_cons]
  exact ⟨rowK1_ok fun x hx => by rw [← hx]; exact g1_on x, rowK2_ok fun f q hf => g1_plus f q hf, rowK1_ok g1_point, rowsB1_ok⟩
noncomputable def TM1 (b : Bool) : CallT := tableT (rowsM1 b)
theorem TM1_ok (b : Bool) : CallOk Try.prog (TM1 b) := tableT_ok (rowsM1_ok b)
noncomputable def dM1 : Fn1 := match fn1 40 with
  | some d => d
  | none => ⟨.skip, [], 0⟩
theorem dM1_ok : FnOk Try.prog 40 dM1 := fn1_ok _ _ (by kernel_rfl)
noncomputable def EM1 : Eng := { tab := tyTab, call := callN tyTab (TM1 true) fn1 1000 6, N := 44 }
set_option maxRecDepth 100000 in
theorem callM1 : CallOk Try.prog EM1.call := callN_ok mixed tyTab_ok (TM1_ok true) fn1_ok 1000 6
noncomputable def cM1A : Code := seqL dM1.body
noncomputable def cM1X : Code := scopeIn (seqR dM1.body)
noncomputable def cM11 : Code := seqL cM1X
noncomputable def cM12 : Code := seqL (seqR cM1X)
noncomputable def cM13 : Code := seqL (seqR (seqR cM1X))
noncomputable def cM14 : Code := seqL (seqR (seqR (seqR cM1X)))
noncomputable def cM1Y : Code := seqR (seqR (seqR (seqR cM1X)))
noncomputable def cM17 : Code := seqL (seqL cM1Y)
noncomputable def cM1L : Code := loopIn (blockIn (seqR (seqL cM1Y)))
noncomputable def cM1T : Code := seqR cM1Y
theorem dM1_body : dM1.body = .seq cM1A (.scope (chain [cM11, cM12] (chain [cM13, cM14] (.seq (.seq cM17 (.block 1 (.loop cM1L))) cM1T)))) := by kernel_rfl
theorem dM1_ntmps : dM1.ntmps = 44 := by kernel_rfl
theorem dM1_results : dM1.results = [.cell 4 52, .tmp 5] := by kernel_rfl
def bP1 (x : P1) : Ct := .bl ((Nm.toL x.1).map (It.w 6) ++ [.v (.bool x.2)])
def zP1 : P1 := ((0, 0), false)
def zJ1 : J1 := (0, 0, 0)
theorem zJ_z1 : (ιJ1 zJ1).z = 0 := by
  unfold ιJ1 zJ1
  dsimp only
  exact ι_z1
theorem rd_zJ1 : RdJ1 zJ1 := by unfold RdJ1; decide +kernel
noncomputable def rP1 (x : A1) : P1 := ((rdN x.1, rdN x.2), false)
noncomputable def inM1 (x : A1) (len cap n : Nat) : St := initSlots 0 [⟨false, [.s 1 0 len cap]⟩, wP (x, false)] (44 - [(⟨false, [.s 1 0 len cap]⟩ : AV), wP (x, false)].length) ++ mem1 len n
def stM1A (x : A1) (len cap n : Nat) : St := [(0, sS 1 len cap), (6, spt 16), (8, spt 17), (10, sI 0), (3, .bl (anyW len n)), (33, bP1 (x, false)), (35, bP1 zP1)]
noncomputable def stM1B (x : A1) (len cap n : Nat) : St := [(0, sS 1 len cap), (6, spt 16), (8, spt 17), (10, sI 0), (3, .bl (anyW len n)), (33, bP1 (rP1 x)), (35, bP1 zP1)]
noncomputable def stM1C (x : A1) (len cap n : Nat) : St := [(0, sS 1 len cap), (6, spt 16), (8, spt 17), (10, sI 0), (12, spt 60), (3, .bl (anyW len n)), (33, bP1 (rP1 x)), (35, bP1 zP1), (121, bN zJ1)]
noncomputable def stM1 (x : A1) (len cap n : Nat) (i : Int) (o : J1) : St := [(0, sS 1 len cap), (6, spt 16), (8, spt 17), (10, sI 0), (12, spt 60), (14, sI i), (3, .bl (anyW len n)), (33, bP1 (rP1 x)), (35, bP1 zP1), (121, bN o)]
theorem M1_a (x : A1) (len cap n : Nat) : probe EM1 100 cM1A (inM1 x len cap n) 16 [] ((stM1A x len cap n).map (·.1)) = some (0, [], (stM1A x len cap n).map fun p => some p.2) := by kernel_rfl
theorem M1_b (x : A1) (len cap n : Nat) : probes EM1 100 [cM11, cM12] (stM1A x len cap n) 40 [] ((stM1B x len cap n).map (·.1)) = some (0, [onB1 (rP1 x) = true], (stM1B x len cap n).map fun p => some p.2) := by kernel_rfl
theorem M1_c (x : A1) (len cap n : Nat) : probes EM1 100 [cM13, cM14] (stM1B x len cap n) 60 [] ((stM1C x len cap n).map (·.1)) = some (0, [], (stM1C x len cap n).map fun p => some p.2) := by kernel_rfl
theorem M1_d (x : A1) (len cap n : Nat) : probe EM1 100 cM17 (stM1C x len cap n) 80 [] ((stM1 x len cap n (iT len) zJ1).map (·.1)) = some (0, [], (stM1 x len cap n (iT len) zJ1).map fun p => some p.2) := by kernel_rfl
theorem M1_exit (x : A1) (len cap n : Nat) (i : Int) (o : J1) : probe EM1 100 cM1L (stM1 x len cap n i o) 100 [(24, false)] ((stM1 x len cap n i o).map (·.1)) = some (3, [i ≥ 0 ↔ false = true], (stM1 x len cap n i o).map fun p => some p.2) := by kernel_rfl
def obM1 (len n : Nat) (i : Int) (b : Bool) (o : J1) : List Prop := match b with
  | true => obZ len n i true ++ [RdJ1 (tw1 o)]
  | false => obZ len n i false
theorem M1_zero (x : A1) (len cap n : Nat) (i : Int) (o : J1) : probe EM1 100 cM1L (stM1 x len cap n i o) 100 [(24, true), (32, false), (36, true), (38, true)] ((stM1 x len cap n (IntKind.i64.wrap (i - 1)) (tw1 o)).map (·.1)) =
  some (0, obM1 len n i false o, (stM1 x len cap n (IntKind.i64.wrap (i - 1)) (tw1 o)).map fun p => some p.2) := by kernel_rfl
theorem M1_one (x : A1) (len cap n : Nat) (i : Int) (o : J1) : probe EM1 100 cM1L (stM1 x len cap n i o) 100 [(24, true), (32, false), (36, true), (38, false)] ((stM1 x len cap n (IntKind.i64.wrap (i - 1)) (pl1 (tw1 o) (rP1 x))).map (·.1)) =
  some (0, obM1 len n i true o, (stM1 x len cap n (IntKind.i64.wrap (i - 1)) (pl1 (tw1 o) (rP1 x))).map fun p => some p.2) := by kernel_rfl
noncomputable def endM1 (len n : Nat) (o : J1) : St := [(8, spt 17), (10, sI 0), (3, .bl (anyW len n)), (35, bP1 (κP1 (jpt (ιJ1 o))))]
theorem M1_tail (x : A1) (len cap n : Nat) (i : Int) (o : J1) : probe EM1 100 cM1T (stM1 x len cap n i o) 100 [] ((endM1 len n o).map (·.1)) = some (1, [RdJ1 o], (endM1 len n o).map fun p => some p.2) := by kernel_rfl
theorem keep_M1A (x : A1) (len cap n : Nat) : keepsB (stM1A x len cap n) [1, 16, 17] = true := by kernel_rfl
theorem keep_M1B (x : A1) (len cap n : Nat) : keepsB (stM1B x len cap n) [1, 16, 17] = true := by kernel_rfl
theorem keep_M1C (x : A1) (len cap n : Nat) : keepsB (stM1C x len cap n) [1, 16, 17, 60] = true := by kernel_rfl
theorem keep_M1 (x : A1) (len cap n : Nat) (i : Int) (o : J1) : keepsB (stM1 x len cap n i o) [1, 16, 17, 60] = true := by kernel_rfl
theorem keep_M1E (len n : Nat) (o : J1) : keepsB (endM1 len n o) [1, 17] = true := by kernel_rfl
theorem blk_M1A (x : A1) (len cap n : Nat) : ∀ id ∈ [1, 16, 17], ∃ l, (stM1A x len cap n).blk id = some l := by
  intro id hid
  simp only [List.mem_cons, List.not_mem_nil, or_false] at hid
  rcases hid with rfl | rfl | rfl <;> exact ⟨_, rfl⟩
theorem blk_M1B (x : A1) (len cap n : Nat) : ∀ id ∈ [1, 16, 17], ∃ l, (stM1B x len cap n).blk id = some l := by
  intro id hid
  simp only [List.mem_cons, List.not_mem_nil, or_false] at hid
  rcases hid with rfl | rfl | rfl <;> exact ⟨_, rfl⟩
theorem blk_M1C (x : A1) (len cap n : Nat) : ∀ id ∈ [1, 16, 17, 60], ∃ l, (stM1C x len cap n).blk id = some l := by
  intro id hid
  simp only [List.mem_cons, List.not_mem_nil, or_false] at hid
  rcases hid with rfl | rfl | rfl | rfl <;> exact ⟨_, rfl⟩
theorem blk_M1 (x : A1) (len cap n : Nat) (i : Int) (o : J1) : ∀ id ∈ [1, 16, 17, 60], ∃ l, (stM1 x len cap n i o).blk id = some l := by
  intro id hid
  simp only [List.mem_cons, List.not_mem_nil, or_false] at hid
  rcases hid with rfl | rfl | rfl | rfl <;> exact ⟨_, rfl⟩
theorem blk_M1E (len n : Nat) (o : J1) : ∀ id ∈ [1, 17], ∃ l, (endM1 len n o).blk id = some l := by
  intro id hid
  simp only [List.mem_cons, List.not_mem_nil, or_false] at hid
  rcases hid with rfl | rfl <;> exact ⟨_, rfl⟩
/-- What holds in the rounds. -/
def IM1 (p : Pt F) (m j : Nat) (o : J1) : Prop := RdJ1 o ∧ Rep (ιJ1 o) (smul (m / 2 ^ j) p)
theorem rd_tw1 (o : J1) : RdJ1 (tw1 o) := by
  unfold tw1 RdJ1
  rw [ικJ1]
theorem rd_pl1 (o : J1) (x : A1) : RdJ1 (pl1 o (rP1 x)) := by
  unfold RdJ1
  rw [ι_pl1]
  unfold pl1
  split
  · rename_i h
    unfold jadd
    rw [if_pos (show (ιJ1 o).z = 0 from h)]
    unfold κJ1 rP1
    simp only [rdN, φκ]
    rw [κo1z]
  · rfl
theorem IM1_zero {p : Pt F} (hp : On b1 p) {m j : Nat} {o : J1} (h : IM1 p m (j + 1) o) (e : m / 2 ^ j % 2 = 0) : IM1 p m j (tw1 o) := by
  refine ⟨rd_tw1 o, ?_⟩
  have hh := half_step m j
  rw [e, Nat.add_zero] at hh
  rw [hh, smul_two cv1 hp]
  unfold tw1
  rw [ικJ1]
  exact rep_dbl cv1 (on_smul cv1 hp _) h.2
theorem IM1_one {x : A1} (hp : On b1 (ιP1 (x, false))) {m j : Nat} {o : J1} (h : IM1 (ιP1 (x, false)) m (j + 1) o) (e : m / 2 ^ j % 2 = 1) : IM1 (ιP1 (x, false)) m j (pl1 (tw1 o) (rP1 x)) := by
  refine ⟨rd_pl1 _ _, ?_⟩
  have hh := half_step m j
  rw [e] at hh
  rw [hh]
  show Rep _ (padd (smul (2 * (m / 2 ^ (j + 1))) _) _)
  rw [smul_two cv1 hp, ι_pl1]
  unfold tw1
  rw [ικJ1]
  have e1 : φ (rP1 x).1.1 = φ x.1 := φκ _
  have e2 : φ (rP1 x).1.2 = φ x.2 := φκ _
  rw [e1, e2]
  exact rep_add cv1 (on_add cv1 (on_smul cv1 hp _) (on_smul cv1 hp _)) hp (rep_dbl cv1 (on_smul cv1 hp _) h.2)
theorem ι_rP1 (x : A1) : ιP1 (rP1 x) = ιP1 (x, false) := by
  show Pt.aff (φ (rdN x.1)) (φ (rdN x.2)) = Pt.aff (φ x.1) (φ x.2)
  simp only [rdN, φκ]
theorem vals_sl1 (b o len cap : Nat) (x : P1) : vals (rho1 b o) [⟨false, [.s 1 0 len cap]⟩, wP x] = some [.slice (some ⟨b, o, none⟩) len cap, wpv x] := by simp only [vals, val_wP, val_sl1]
theorem g1_mulF (x : A1) (hp : On b1 (ιP1 (x, false))) : PureS Try.prog 40 (fun s => [s, wpv (x, false)]) (fun len n => rsM1.vl (κP1 (smul (n % pw len) (ιP1 (x, false))), 0)) := by
  intro b o len cap n hlen w hsl
  refine .inr ⟨dM1_ok.enter _ _, ?_⟩
  have hv := vals_sl1 b o len cap (x, false)
  refine (calls_of_at (G := fun xs st => xs = [wP (κP1 (smul (n % pw len) (ιP1 (x, false)))), wI1 0]) tyTab_ok dM1_ok (mem_rho1 hsl) (by kernel_rfl) hv (by rw [dM1_ntmps]; simp) fun a hA0 => ?_).mono ?_
  · rw [dM1_ntmps] at hA0
    have hA0 : At 44 (rho1 b o) w (inM1 x len cap n) a w := hA0
    rw [dM1_ntmps, dM1_results, dM1_body]
    refine wp_seq (At.probe (E := EM1) mixed tyTab_ok callM1 (M1_a x len cap n) (fun p hp => by cases hp) hA0 [1, 16, 17] (blk_M1A _ _ _ _) (keep_M1A _ _ _ _) (no_rho1 (by simp)) fun a1 w1 h1 => ?_)
    refine wp_scope_straight (At.probes (E := EM1) mixed tyTab_ok callM1 (M1_b x len cap n) (one_mem ((onB1_iff _).2 (by rw [ι_rP1]; exact hp))) h1 [1, 16, 17] (blk_M1B _ _ _ _) (keep_M1B _ _ _ _) (no_rho1 (by simp)) fun a2 w2 h2 => ?_)
    show Code.wp _ _ _ _ _
    refine At.probes (E := EM1) mixed tyTab_ok callM1 (M1_c x len cap n) (fun p hp => by cases hp) h2 [1, 16, 17, 60] (blk_M1C _ _ _ _) (keep_M1C _ _ _ _) (no_rho1 (by simp)) fun a3 w3 h3 => ?_
    show Code.wp _ _ _ _ _
    refine wp_seq (wp_seq (At.probe (E := EM1) mixed tyTab_ok callM1 (M1_d x len cap n) (fun p hp => by cases hp) h3 [1, 16, 17, 60] (blk_M1 _ _ _ _ _ _) (keep_M1 _ _ _ _ _ _) (no_rho1 (by simp)) fun a' w' hA' => ?_))
    rw [iT_eq hlen] at hA'
    show Code.wp _ _ _ _ _
    have hm : n % pw len < 2 ^ (64 * len) := Nat.mod_lt _ (Nat.two_pow_pos _)
    refine wp_block (bit_loop (E := EM1) tyTab_ok callM1 (stM1 x len cap n) [1, 16, 17, 60] (by simp) (keep_M1 x len cap n) (blk_M1 x len cap n) hlen tw1 (fun o => pl1 o (rP1 x)) (IM1 (ιP1 (x, false)) (n % pw len))
      (kx := 1) (M1_exit x len cap n) (obM1 len n) (fun j b s hj _ hb => ?_) (M1_zero x len cap n) (M1_one x len cap n) (fun j s _ hI e => IM1_zero hp hI e) (fun j s _ hI e => IM1_one hp hI e) (fun s a2 w2 hI h2 => ?_) ?_ hA')
    · cases b with
      | true =>
        intro p hp
        rcases List.mem_append.1 hp with hp | hp
        · exact obZ_ok hlen hj hb p hp
        · exact one_mem (rd_tw1 s) p hp
      | false => exact obZ_ok hlen hj hb
    · have e3 : jpt (ιJ1 s) = smul (n % pw len) (ιP1 (x, false)) := by
        have := rep_pt hI.2
        rwa [Nat.pow_zero, Nat.div_one] at this
      show Code.wp _ _ _ _ _
      refine At.probe (E := EM1) mixed tyTab_ok callM1 (M1_tail x len cap n _ s) (one_mem hI.1) h2 [1, 17] (blk_M1E _ _ _) (keep_M1E _ _ _) (no_rho1 (by simp)) fun a3 w3 h3 => ?_
      unfold endM1 at h3
      rw [e3] at h3
      exact ⟨.inr rfl, _, _, h3, by kernel_rfl, rfl⟩
    · have e : n % pw len / 2 ^ (64 * len) = 0 := Nat.div_eq_of_lt hm
      refine ⟨?_, ?_⟩
      · exact rd_zJ1
      · rw [e]
        exact zJ_z1
  · rintro e w' ⟨v, rfl, xs, st, ρ', hE, hval, hMk, rfl⟩
    refine ⟨v, rfl, ?_, hE.below (no_own1 b o)⟩
    have e := rsM1.val ρ' (κP1 (smul (n % pw len) (ιP1 (x, false))), 0)
    have : (rsM1.sv (κP1 (smul (n % pw len) (ιP1 (x, false))), 0)).val ρ' = some v := hval
    rw [e] at this
    cases this; rfl

/-! ### what is not on the curve; infinity; no words -/
theorem pureS_of_runS {T : CallT} (hT : CallOk Try.prog T) {f : FuncId} {args : List AV} {m : St} {hints : List (Nat × Bool)} {s : SV} {ob : List Prop} (h : runS T f args m hints = some (s, ob)) (hob : ∀ p ∈ ob, p) {ρ : Rho} {w : World} (hM : Mem ρ m w)
    (hno : ∀ c, ¬ Own ρ c) {vs : List Value} (hv : vals ρ args = some vs) {v : Value} (hval : ∀ ρ u, s.val ρ = some u → u = v) : Invoked Try.prog f vs.toArray w fun u w' => u = v ∧ Below w.heap.size w w' := by
  unfold runS at h
  split at h
  · rename_i d hd
    split at h
    · rename_i o ho
      cases h
      refine .inr ⟨(fn1_ok _ _ hd).enter _ _, (runFn_calls mixed tyTab_ok (callN_ok mixed tyTab_ok hT fn1_ok 1000 6) (fn1_ok _ _ hd) ho hob hv hM).mono ?_⟩
      rintro e w' ⟨u, rfl, ρ', hE, hu, _⟩
      exact ⟨u, rfl, hval ρ' u hu, hE.below hno⟩
    · cases h
  · cases h
theorem g1_mul_runN (x : P1) (len cap n : Nat) : runS (TM1 false) 40 [⟨false, [.s 1 0 len cap]⟩, wP x] (mem1 len n) [] = some (.tup [wP (((0, 0), false) : P1), wI1 120], [onB1 (κP1 (ιP1 x)) = false]) := by kernel_rfl
theorem g1_mul_runI (x : A1) (len cap n : Nat) : runS (TM1 true) 40 [⟨false, [.s 1 0 len cap]⟩, wP (x, true)] (mem1 len n) [] = some (.tup [wP (((0, 0), true) : P1), wI1 0], [onB1 (κP1 (ιP1 (x, true))) = true]) := by kernel_rfl
theorem g1_mul_nilN (x : P1) : run1 (TM1 false) 40 [⟨false, [.v (.slice none 0 0)]⟩, wP x] [] = some (.tup [wP (((0, 0), false) : P1), wI1 120], [onB1 (κP1 (ιP1 x)) = false]) := by kernel_rfl
theorem g1_mul_nilI (x : A1) : run1 (TM1 true) 40 [⟨false, [.v (.slice none 0 0)]⟩, wP (x, true)] [] = some (.tup [wP (((0, 0), true) : P1), wI1 0], [onB1 (κP1 (ιP1 (x, true))) = true]) := by kernel_rfl
theorem g1_mul_nilF (x : A1) : run1 (TM1 true) 40 [⟨false, [.v (.slice none 0 0)]⟩, wP (x, false)] [] = some (.tup [wP (κP1 (jpt (ιJ1 zJ1))), wI1 0], [onB1 (rP1 x) = true, RdJ1 zJ1]) := by kernel_rfl
theorem vals_nil1 (x : P1) : vals rho0 [⟨false, [.v (.slice none 0 0)]⟩, wP x] = some [.slice none 0 0, wpv x] := by
  have e : AV.val rho0 ⟨false, [.v (.slice none 0 0)]⟩ = some (.slice none 0 0) := AV.val_v (ρ := rho0) (x := .slice none 0 0) rfl
  simp only [vals, val_wP, e]
theorem val_tup1 (x : P1) (i : Int) : ∀ ρ u, (SV.tup [wP x, wI1 i]).val ρ = some u → u = rsM1.vl (x, i) := by
  intro ρ u hu
  have e := rsM1.val ρ (x, i)
  have : (rsM1.sv (x, i)).val ρ = some u := hu
  rw [e] at this
  cases this; rfl
theorem onB_red1 (x : P1) : onB1 (κP1 (ιP1 x)) = onB1 x := by unfold onB1; rw [ικP1]
theorem g1_mul (x : P1) : PureS Try.prog 40 (fun s => [s, wpv x]) (fun len n => rsM1.vl (mulR1 x (n % pw len))) := by
  by_cases hon : On b1 (ιP1 x)
  · have hb := (onB1_iff x).2 hon
    unfold mulR1
    rw [hb]
    obtain ⟨x, c⟩ := x
    cases c with
    | false => exact g1_mulF x hon
    | true =>
      intro b o len cap n hlen w hsl
      have h0 : smul (n % pw len) (ιP1 (x, true)) = .inf := smul_inf _
      show Invoked _ _ _ _ fun u w' => u = rsM1.vl (κP1 (smul (n % pw len) (ιP1 (x, true))), 0) ∧ _
      rw [h0]
      exact pureS_of_runS (TM1_ok true) (g1_mul_runI x len cap n) (one_mem (by rw [onB_red1]; exact hb)) (mem_rho1 hsl) (no_own1 b o) (vals_sl1 b o len cap (x, true)) (val_tup1 _ _)
  · have hb := onB1_not hon
    unfold mulR1
    rw [hb]
    intro b o len cap n hlen w hsl
    exact pureS_of_runS (TM1_ok false) (g1_mul_runN x len cap n) (one_mem (by rw [onB_red1]; exact hb)) (mem_rho1 hsl) (no_own1 b o) (vals_sl1 b o len cap x) (val_tup1 _ _)
theorem g1_mul_nil (x : P1) : Pure Try.prog 40 [.slice none 0 0, wpv x] (rsM1.vl (mulR1 x 0)) := by
  by_cases hon : On b1 (ιP1 x)
  · have hb := (onB1_iff x).2 hon
    unfold mulR1
    rw [hb]
    obtain ⟨x, c⟩ := x
    cases c with
    | false =>
      refine pure_of_run1 (TM1_ok true) (g1_mul_nilF x) ?_ (vals_nil1 _) fun ρ u hu => ?_
      · simp only [List.forall_mem_cons, List.not_mem_nil, false_imp_iff, implies_true, and_true]
        exact ⟨(onB1_iff _).2 (by rw [ι_rP1]; exact hon), rd_zJ1⟩
      · rw [val_tup1 _ _ ρ u hu]
        have e : jpt (ιJ1 zJ1) = .inf := rep_pt (p := .inf) zJ_z1
        rw [e]; rfl
    | true =>
      refine pure_of_run1 (TM1_ok true) (g1_mul_nilI x) (one_mem (by rw [onB_red1]; exact hb)) (vals_nil1 _) fun ρ u hu => ?_
      rw [val_tup1 _ _ ρ u hu]; rfl
  · have hb := onB1_not hon
    unfold mulR1
    rw [hb]
    exact pure_of_run1 (TM1_ok false) (g1_mul_nilN x) (one_mem (by rw [onB_red1]; exact hb)) (vals_nil1 _) (val_tup1 _ _)
theorem g1_mul_row : CallOk Try.prog (rowSB (kdP A1) rsM1 40 mulR1) := rowSB_ok g1_mul g1_mul_nil
end Go.Proofs.Ythceokldlinjlaa
