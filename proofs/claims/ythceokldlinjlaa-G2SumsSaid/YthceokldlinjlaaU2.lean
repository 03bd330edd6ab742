/-
  Multiples of points: the row of g2.Mul.
-/
import Derived.Test.YthceokldlinjlaaM2
import Derived.Test.YthceokldlinjlaaOp
namespace Go.Proofs.Ythceokldlinjlaa
open Go Go.Eng Go.RowKit Go.Wd Go.Alg Go.Pr

/-- The answer: a multiple, or the error of a point that is not on the curve. -/
noncomputable def mulR2 (x : P2) (m : Nat) : P2 × Int := match onB2 x with
  | true => (κP2 (smul m (ιP2 x)), 0)
  | false => ((((0, 0), (0, 0)), false), 120)
def rsM2 : Rs (P2 × Int) := rs2 (kdP A2) kdI
/-- The table in which On's answer is known. -/
noncomputable def rowsM2 (b : Bool) : List Row := rowK1 (kdP A2) kdB.rs 23 (fun _ => b) (fun x => onB2 x = b) :: rowK2 (kdN J2) (kdP A2) (kdN J2).rs 59 pl2 (fun f _ => RdJ2 f) ::
  rowK1 (kdN J2) (kdP A2).rs 60 (fun f => κP2 (jpt (ιJ2 f))) RdJ2 :: rowsB2
theorem rowsM2_ok (b : Bool) : ∀ r ∈ rowsM2 b, RowOk Try.prog r := by
  simp only [rowsM2, List.forall_mem_cons]
  exact ⟨rowK1_ok fun x hx => by rw [← hx]; exact g2_on x, rowK2_ok fun f q hf => g2_plus f q hf, rowK1_ok g2_point, rowsB2_ok⟩
noncomputable def TM2 (b : Bool) : CallT := tableT (rowsM2 b)
theorem TM2_ok (b : Bool) : CallOk Try.prog (TM2 b) := tableT_ok (rowsM2_ok b)
noncomputable def dM2 : Fn1 := match fn1 20 with
  | some d => d
  | none => ⟨.skip, [], 0⟩
theorem dM2_ok : FnOk Try.prog 20 dM2 := fn1_ok _ _ (by kernel_rfl)
noncomputable def EM2 : Eng := { tab := tyTab, call := callN tyTab (TM2 true) fn1 1000 6, N := 44 }
set_option maxRecDepth 100000 in
theorem callM2 : CallOk Try.prog EM2.call := callN_ok mixed tyTab_ok (TM2_ok true) fn1_ok 1000 6
noncomputable def cM2A : Code := seqL dM2.body
noncomputable def cM2X : Code := scopeIn (seqR dM2.body)
noncomputable def cM21 : Code := seqL cM2X
noncomputable def cM22 : Code := seqL (seqR cM2X)
noncomputable def cM23 : Code := seqL (seqR (seqR cM2X))
noncomputable def cM24 : Code := seqL (seqR (seqR (seqR cM2X)))
noncomputable def cM2Y : Code := seqR (seqR (seqR (seqR cM2X)))
noncomputable def cM27 : Code := seqL (seqL cM2Y)
noncomputable def cM2L : Code := loopIn (blockIn (seqR (seqL cM2Y)))
noncomputable def cM2T : Code := seqR cM2Y
theorem dM2_body : dM2.body = .seq cM2A (.scope (chain [cM21, cM22] (chain [cM23, cM24] (.seq (.seq cM27 (.block 1 (.loop cM2L))) cM2T)))) := by kernel_rfl
theorem dM2_ntmps : dM2.ntmps = 44 := by kernel_rfl
theorem dM2_results : dM2.results = [.cell 4 41, .tmp 5] := by kernel_rfl
def bP2 (x : P2) : Ct := .bl ((Nm.toL x.1).map (It.w 6) ++ [.v (.bool x.2)])
def zP2 : P2 := (((0, 0), (0, 0)), false)
def zJ2 : J2 := ((0, 0), (0, 0), (0, 0))
theorem zJ_z2 : (ιJ2 zJ2).z = 0 := by
  unfold ιJ2 zJ2
  dsimp only
  exact ι_z2
theorem rd_zJ2 : RdJ2 zJ2 := by unfold RdJ2; decide +kernel
noncomputable def rP2 (x : A2) : P2 := ((red2 x.1, red2 x.2), false)
noncomputable def inM2 (x : A2) (len cap n : Nat) : St := initSlots 0 [⟨false, [.s 1 0 len cap]⟩, wP (x, false)] (44 - [(⟨false, [.s 1 0 len cap]⟩ : AV), wP (x, false)].length) ++ mem1 len n
def stM2A (x : A2) (len cap n : Nat) : St := [(0, sS 1 len cap), (6, spt 16), (8, spt 17), (10, sI 0), (3, .bl (anyW len n)), (33, bP2 (x, false)), (35, bP2 zP2)]
noncomputable def stM2B (x : A2) (len cap n : Nat) : St := [(0, sS 1 len cap), (6, spt 16), (8, spt 17), (10, sI 0), (3, .bl (anyW len n)), (33, bP2 (rP2 x)), (35, bP2 zP2)]
noncomputable def stM2C (x : A2) (len cap n : Nat) : St := [(0, sS 1 len cap), (6, spt 16), (8, spt 17), (10, sI 0), (12, spt 60), (3, .bl (anyW len n)), (33, bP2 (rP2 x)), (35, bP2 zP2), (121, bN zJ2)]
noncomputable def stM2 (x : A2) (len cap n : Nat) (i : Int) (o : J2) : St := [(0, sS 1 len cap), (6, spt 16), (8, spt 17), (10, sI 0), (12, spt 60), (14, sI i), (3, .bl (anyW len n)), (33, bP2 (rP2 x)), (35, bP2 zP2), (121, bN o)]
theorem M2_a (x : A2) (len cap n : Nat) : probe EM2 100 cM2A (inM2 x len cap n) 16 [] ((stM2A x len cap n).map (·.1)) = some (0, [], (stM2A x len cap n).map fun p => some p.2) := by kernel_rfl
theorem M2_b (x : A2) (len cap n : Nat) : probes EM2 100 [cM21, cM22] (stM2A x len cap n) 40 [] ((stM2B x len cap n).map (·.1)) = some (0, [onB2 (rP2 x) = true], (stM2B x len cap n).map fun p => some p.2) := by kernel_rfl
theorem M2_c (x : A2) (len cap n : Nat) : probes EM2 100 [cM23, cM24] (stM2B x len cap n) 60 [] ((stM2C x len cap n).map (·.1)) = some (0, [], (stM2C x len cap n).map fun p => some p.2) := by kernel_rfl
theorem M2_d (x : A2) (len cap n : Nat) : probe EM2 100 cM27 (stM2C x len cap n) 80 [] ((stM2 x len cap n (iT len) zJ2).map (·.1)) = some (0, [], (stM2 x len cap n (iT len) zJ2).map fun p => some p.2) := by kernel_rfl
theorem M2_exit (x : A2) (len cap n : Nat) (i : Int) (o : J2) : probe EM2 100 cM2L (stM2 x len cap n i o) 100 [(24, false)] ((stM2 x len cap n i o).map (·.1)) = some (3, [i ≥ 0 ↔ false = true], (stM2 x len cap n i o).map fun p => some p.2) := by kernel_rfl
def obM2 (len n : Nat) (i : Int) (b : Bool) (o : J2) : List Prop := match b with
  | true => obZ len n i true ++ [RdJ2 (tw2 o)]
  | false => obZ len n i false
theorem M2_zero (x : A2) (len cap n : Nat) (i : Int) (o : J2) : probe EM2 100 cM2L (stM2 x len cap n i o) 100 [(24, true), (32, false), (36, true), (38, true)] ((stM2 x len cap n (IntKind.i64.wrap (i - 1)) (tw2 o)).map (·.1)) =
  some (0, obM2 len n i false o, (stM2 x len cap n (IntKind.i64.wrap (i - 1)) (tw2 o)).map fun p => some p.2) := by kernel_rfl
theorem M2_one (x : A2) (len cap n : Nat) (i : Int) (o : J2) : probe EM2 100 cM2L (stM2 x len cap n i o) 100 [(24, true), (32, false), (36, true), (38, false)] ((stM2 x len cap n (IntKind.i64.wrap (i - 1)) (pl2 (tw2 o) (rP2 x))).map (·.1)) =
  some (0, obM2 len n i true o, (stM2 x len cap n (IntKind.i64.wrap (i - 1)) (pl2 (tw2 o) (rP2 x))).map fun p => some p.2) := by kernel_rfl
noncomputable def endM2 (len n : Nat) (o : J2) : St := [(8, spt 17), (10, sI 0), (3, .bl (anyW len n)), (35, bP2 (κP2 (jpt (ιJ2 o))))]
theorem M2_tail (x : A2) (len cap n : Nat) (i : Int) (o : J2) : probe EM2 100 cM2T (stM2 x len cap n i o) 100 [] ((endM2 len n o).map (·.1)) = some (1, [RdJ2 o], (endM2 len n o).map fun p => some p.2) := by kernel_rfl
theorem keep_M2A (x : A2) (len cap n : Nat) : keepsB (stM2A x len cap n) [1, 16, 17] = true := by kernel_rfl
theorem keep_M2B (x : A2) (len cap n : Nat) : keepsB (stM2B x len cap n) [1, 16, 17] = true := by kernel_rfl
theorem keep_M2C (x : A2) (len cap n : Nat) : keepsB (stM2C x len cap n) [1, 16, 17, 60] = true := by kernel_rfl
theorem keep_M2 (x : A2) (len cap n : Nat) (i : Int) (o : J2) : keepsB (stM2 x len cap n i o) [1, 16, 17, 60] = true := by kernel_rfl
theorem keep_M2E (len n : Nat) (o : J2) : keepsB (endM2 len n o) [1, 17] = true := by kernel_rfl
theorem blk_M2A (x : A2) (len cap n : Nat) : ∀ id ∈ [1, 16, 17], ∃ l, (stM2A x len cap n).blk id = some l := by
  intro id hid
  simp only [List.mem_cons, List.not_mem_nil, or_false] at hid
  rcases hid with rfl | rfl | rfl <;> exact ⟨_, rfl⟩
theorem blk_M2B (x : A2) (len cap n : Nat) : ∀ id ∈ [1, 16, 17], ∃ l, (stM2B x len cap n).blk id = some l := by
  intro id hid
  simp only [List.mem_cons, List.not_mem_nil, or_false] at hid
  rcases hid with rfl | rfl | rfl <;> exact ⟨_, rfl⟩
theorem blk_M2C (x : A2) (len cap n : Nat) : ∀ id ∈ [1, 16, 17, 60], ∃ l, (stM2C x len cap n).blk id = some l := by
  intro id hid
  simp only [List.mem_cons, List.not_mem_nil, or_false] at hid
  rcases hid with rfl | rfl | rfl | rfl <;> exact ⟨_, rfl⟩
theorem blk_M2 (x : A2) (len cap n : Nat) (i : Int) (o : J2) : ∀ id ∈ [1, 16, 17, 60], ∃ l, (stM2 x len cap n i o).blk id = some l := by
  intro id hid
  simp only [List.mem_cons, List.not_mem_nil, or_false] at hid
  rcases hid with rfl | rfl | rfl | rfl <;> exact ⟨_, rfl⟩
theorem blk_M2E (len n : Nat) (o : J2) : ∀ id ∈ [1, 17], ∃ l, (endM2 len n o).blk id = some l := by
  intro id hid
  simp only [List.mem_cons, List.not_mem_nil, or_false] at hid
  rcases hid with rfl | rfl <;> exact ⟨_, rfl⟩
/-- What holds in the rounds. -/
def IM2 (p : Pt F2) (m j : Nat) (o : J2) : Prop := RdJ2 o ∧ Rep (ιJ2 o) (smul (m / 2 ^ j) p)
theorem rd_tw2 (o : J2) : RdJ2 (tw2 o) := by
  unfold tw2 RdJ2
  rw [ικJ2]
theorem rd_pl2 (o : J2) (x : A2) : RdJ2 (pl2 o (rP2 x)) := by
  unfold RdJ2
  rw [ι_pl2]
  unfold pl2
  split
  · rename_i h
    unfold jadd
    rw [if_pos (show (ιJ2 o).z = 0 from h)]
    unfold κJ2 rP2
    simp only [red2, ικ2]
    rw [κo2z]
  · rfl
theorem IM2_zero {p : Pt F2} (hp : On b2 p) {m j : Nat} {o : J2} (h : IM2 p m (j + 1) o) (e : m / 2 ^ j % 2 = 0) : IM2 p m j (tw2 o) := by
  refine ⟨rd_tw2 o, ?_⟩
  have hh := half_step m j
  rw [e, Nat.add_zero] at hh
  rw [hh, smul_two cv2 hp]
  unfold tw2
  rw [ικJ2]
  exact rep_dbl cv2 (on_smul cv2 hp _) h.2
theorem IM2_one {x : A2} (hp : On b2 (ιP2 (x, false))) {m j : Nat} {o : J2} (h : IM2 (ιP2 (x, false)) m (j + 1) o) (e : m / 2 ^ j % 2 = 1) : IM2 (ιP2 (x, false)) m j (pl2 (tw2 o) (rP2 x)) := by
  refine ⟨rd_pl2 _ _, ?_⟩
  have hh := half_step m j
  rw [e] at hh
  rw [hh]
  show Rep _ (padd (smul (2 * (m / 2 ^ (j + 1))) _) _)
  rw [smul_two cv2 hp, ι_pl2]
  unfold tw2
  rw [ικJ2]
  have e1 : ι2 (rP2 x).1.1 = ι2 x.1 := ικ2 _
  have e2 : ι2 (rP2 x).1.2 = ι2 x.2 := ικ2 _
  rw [e1, e2]
  exact rep_add cv2 (on_add cv2 (on_smul cv2 hp _) (on_smul cv2 hp _)) hp (rep_dbl cv2 (on_smul cv2 hp _) h.2)
theorem ι_rP2 (x : A2) : ιP2 (rP2 x) = ιP2 (x, false) := by
  show Pt.aff (ι2 (red2 x.1)) (ι2 (red2 x.2)) = Pt.aff (ι2 x.1) (ι2 x.2)
  simp only [red2, ικ2]
theorem vals_sl2 (b o len cap : Nat) (x : P2) : vals (rho1 b o) [⟨false, [.s 1 0 len cap]⟩, wP x] = some [.slice (some ⟨b, o, none⟩) len cap, wpv x] := by simp only [vals, val_wP, val_sl1]
theorem g2_mulF (x : A2) (hp : On b2 (ιP2 (x, false))) : PureS Try.prog 20 (fun s => [s, wpv (x, false)]) (fun len n => rsM2.vl (κP2 (smul (n % pw len) (ιP2 (x, false))), 0)) := by
  intro b o len cap n hlen w hsl
  refine .inr ⟨dM2_ok.enter _ _, ?_⟩
  have hv := vals_sl2 b o len cap (x, false)
  refine (calls_of_at (G := fun xs st => xs = [wP (κP2 (smul (n % pw len) (ιP2 (x, false)))), wI1 0]) tyTab_ok dM2_ok (mem_rho1 hsl) (by kernel_rfl) hv (by rw [dM2_ntmps]; simp) fun a hA0 => ?_).mono ?_
  · rw [dM2_ntmps] at hA0
    have hA0 : At 44 (rho1 b o) w (inM2 x len cap n) a w := hA0
    rw [dM2_ntmps, dM2_results, dM2_body]
    refine wp_seq (At.probe (E := EM2) mixed tyTab_ok callM2 (M2_a x len cap n) (fun p hp => by cases hp) hA0 [1, 16, 17] (blk_M2A _ _ _ _) (keep_M2A _ _ _ _) (no_rho1 (by simp)) fun a1 w1 h1 => ?_)
    refine wp_scope_straight (At.probes (E := EM2) mixed tyTab_ok callM2 (M2_b x len cap n) (one_mem ((onB2_iff _).2 (by rw [ι_rP2]; exact hp))) h1 [1, 16, 17] (blk_M2B _ _ _ _) (keep_M2B _ _ _ _) (no_rho1 (by simp)) fun a2 w2 h2 => ?_)
    show Code.wp _ _ _ _ _
    refine At.probes (E := EM2) mixed tyTab_ok callM2 (M2_c x len cap n) (fun p hp => by cases hp) h2 [1, 16, 17, 60] (blk_M2C _ _ _ _) (keep_M2C _ _ _ _) (no_rho1 (by simp)) fun a3 w3 h3 => ?_
    show Code.wp _ _ _ _ _
    refine wp_seq (wp_seq (At.probe (E := EM2) mixed tyTab_ok callM2 (M2_d x len cap n) (fun p hp => by cases hp) h3 [1, 16, 17, 60] (blk_M2 _ _ _ _ _ _) (keep_M2 _ _ _ _ _ _) (no_rho1 (by simp)) fun a' w' hA' => ?_))
    rw [iT_eq hlen] at hA'
    show Code.wp _ _ _ _ _
    have hm : n % pw len < 2 ^ (64 * len) := Nat.mod_lt _ (Nat.two_pow_pos _)
    refine wp_block (bit_loop (E := EM2) tyTab_ok callM2 (stM2 x len cap n) [1, 16, 17, 60] (by simp) (keep_M2 x len cap n) (blk_M2 x len cap n) hlen tw2 (fun o => pl2 o (rP2 x)) (IM2 (ιP2 (x, false)) (n % pw len))
      (kx := 1) (M2_exit x len cap n) (obM2 len n) (fun j b s hj _ hb => ?_) (M2_zero x len cap n) (M2_one x len cap n) (fun j s _ hI e => IM2_zero hp hI e) (fun j s _ hI e => IM2_one hp hI e) (fun s a2 w2 hI h2 => ?_) ?_ hA')
    · cases b with
      | true =>
        intro p hp
        rcases List.mem_append.1 hp with hp | hp
        · exact obZ_ok hlen hj hb p hp
        · exact one_mem (rd_tw2 s) p hp
      | false => exact obZ_ok hlen hj hb
    · have e3 : jpt (ιJ2 s) = smul (n % pw len) (ιP2 (x, false)) := by
        have := rep_pt hI.2
        rwa [Nat.pow_zero, Nat.div_one] at this
      show Code.wp _ _ _ _ _
      refine At.probe (E := EM2) mixed tyTab_ok callM2 (M2_tail x len cap n _ s) (one_mem hI.1) h2 [1, 17] (blk_M2E _ _ _) (keep_M2E _ _ _) (no_rho1 (by simp)) fun a3 w3 h3 => ?_
      unfold endM2 at h3
      rw [e3] at h3
      exact ⟨.inr rfl, _, _, h3, by kernel_rfl, rfl⟩
    · have e : n % pw len / 2 ^ (64 * len) = 0 := Nat.div_eq_of_lt hm
      refine ⟨?_, ?_⟩
      · exact rd_zJ2
      · rw [e]
        exact zJ_z2
  · rintro e w' ⟨v, rfl, xs, st, ρ', hE, hval, hMk, rfl⟩
    refine ⟨v, rfl, ?_, hE.below (no_own1 b o)⟩
    have e := rsM2.val ρ' (κP2 (smul (n % pw len) (ιP2 (x, false))), 0)
    have : (rsM2.sv (κP2 (smul (n % pw len) (ιP2 (x, false))), 0)).val ρ' = some v := hval
    rw [e] at this
    cases this; rfl

/-! ### what is not on the curve; infinity; no words -/
theorem pureS_of_runS {T : CallT} (hT : CallOk Try.prog T) {f : FuncId} {args : List AV} {m : St} {hints : List (Nat × Bool)} {s : SV} {ob : List Prop} (h : runS T f args m hints = some (s, ob)) (hob : ∀ p ∈ ob, p) {ρ : Rho} {w : World} (hM : Mem ρ m w)
    (hno : ∀ c, ¬ Own ρ c) {vs : List Value} (hv : vals ρ args = some vs) {v : Value} (hval : ∀ ρ u, s.val ρ = some u → u = v) : Invoked Try.prog f vs.toArray w fun u w' => u = v ∧ Below w.heap.size w w' := by
  unfold runS at h
  split at h
  · rename_i d hd
    split at h
    · rename_i o ho
      cases h
      refine .inr ⟨(fn1_ok _ _ hd).enter _ _, (runFn_calls mixed tyTab_ok (callN_ok mixed tyTab_ok hT fn1_ok 1000 6) (fn1_ok _ _ hd) ho hob hv hM).mono ?_⟩
      rintro e w' ⟨u, rfl, ρ', hE, hu, _⟩
      exact ⟨u, rfl, hval ρ' u hu, hE.below hno⟩
    · cases h
  · cases h
theorem g2_mul_runN (x : P2) (len cap n : Nat) : runS (TM2 false) 20 [⟨false, [.s 1 0 len cap]⟩, wP x] (mem1 len n) [] = some (.tup [wP ((((0, 0), (0, 0)), false) : P2), wI1 120], [onB2 (κP2 (ιP2 x)) = false]) := by kernel_rfl
theorem g2_mul_runI (x : A2) (len cap n : Nat) : runS (TM2 true) 20 [⟨false, [.s 1 0 len cap]⟩, wP (x, true)] (mem1 len n) [] = some (.tup [wP ((((0, 0), (0, 0)), true) : P2), wI1 0], [onB2 (κP2 (ιP2 (x, true))) = true]) := by kernel_rfl
theorem g2_mul_nilN (x : P2) : run1 (TM2 false) 20 [⟨false, [.v (.slice none 0 0)]⟩, wP x] [] = some (.tup [wP ((((0, 0), (0, 0)), false) : P2), wI1 120], [onB2 (κP2 (ιP2 x)) = false]) := by kernel_rfl
theorem g2_mul_nilI (x : A2) : run1 (TM2 true) 20 [⟨false, [.v (.slice none 0 0)]⟩, wP (x, true)] [] = some (.tup [wP ((((0, 0), (0, 0)), true) : P2), wI1 0], [onB2 (κP2 (ιP2 (x, true))) = true]) := by kernel_rfl
theorem g2_mul_nilF (x : A2) : run1 (TM2 true) 20 [⟨false, [.v (.slice none 0 0)]⟩, wP (x, false)] [] = some (.tup [wP (κP2 (jpt (ιJ2 zJ2))), wI1 0], [onB2 (rP2 x) = true, RdJ2 zJ2]) := by kernel_rfl
theorem vals_nil2 (x : P2) : vals rho0 [⟨false, [.v (.slice none 0 0)]⟩, wP x] = some [.slice none 0 0, wpv x] := by
  have e : AV.val rho0 ⟨false, [.v (.slice none 0 0)]⟩ = some (.slice none 0 0) := AV.val_v (ρ := rho0) (x := .slice none 0 0) rfl
  simp only [vals, val_wP, e]
theorem val_tup2 (x : P2) (i : Int) : ∀ ρ u, (SV.tup [wP x, wI1 i]).val ρ = some u → u = rsM2.vl (x, i) := by
  intro ρ u hu
  have e := rsM2.val ρ (x, i)
  have : (rsM2.sv (x, i)).val ρ = some u := hu
  rw [e] at this
  cases this; rfl
theorem onB_red2 (x : P2) : onB2 (κP2 (ιP2 x)) = onB2 x := by unfold onB2; rw [ικP2]
theorem g2_mul (x : P2) : PureS Try.prog 20 (fun s => [s, wpv x]) (fun len n => rsM2.vl (mulR2 x (n % pw len))) := by
  by_cases hon : On b2 (ιP2 x)
  · have hb := (onB2_iff x).2 hon
    unfold mulR2
    rw [hb]
    obtain ⟨x, c⟩ := x
    cases c with
    | false => exact g2_mulF x hon
    | true =>
      intro b o len cap n hlen w hsl
      have h0 : smul (n % pw len) (ιP2 (x, true)) = .inf := smul_inf _
      show Invoked _ _ _ _ fun u w' => u = rsM2.vl (κP2 (smul (n % pw len) (ιP2 (x, true))), 0) ∧ _
      rw [h0]
      exact pureS_of_runS (TM2_ok true) (g2_mul_runI x len cap n) (one_mem (by rw [onB_red2]; exact hb)) (mem_rho1 hsl) (no_own1 b o) (vals_sl2 b o len cap (x, true)) (val_tup2 _ _)
  · have hb := onB2_not hon
    unfold mulR2
    rw [hb]
    intro b o len cap n hlen w hsl
    exact pureS_of_runS (TM2_ok false) (g2_mul_runN x len cap n) (one_mem (by rw [onB_red2]; exact hb)) (mem_rho1 hsl) (no_own1 b o) (vals_sl2 b o len cap x) (val_tup2 _ _)
theorem g2_mul_nil (x : P2) : Pure Try.prog 20 [.slice none 0 0, wpv x] (rsM2.vl (mulR2 x 0)) := by
  by_cases hon : On b2 (ιP2 x)
  · have hb := (onB2_iff x).2 hon
    unfold mulR2
    rw [hb]
    obtain ⟨x, c⟩ := x
    cases c with
    | false =>
      refine pure_of_run1 (TM2_ok true) (g2_mul_nilF x) ?_ (vals_nil2 _) fun ρ u hu => ?_
      · simp only [List.forall_mem_cons, List.not_mem_nil, false_imp_iff, implies_true, and_true]
        exact ⟨(onB2_iff _).2 (by rw [ι_rP2]; exact hon), rd_zJ2⟩
      · rw [val_tup2 _ _ ρ u hu]
        have e : jpt (ιJ2 zJ2) = .inf := rep_pt (p := .inf) zJ_z2
        rw [e]; rfl
    | true =>
      refine pure_of_run1 (TM2_ok true) (g2_mul_nilI x) (one_mem (by rw [onB_red2]; exact hb)) (vals_nil2 _) fun ρ u hu => ?_
      rw [val_tup2 _ _ ρ u hu]; rfl
  · have hb := onB2_not hon
    unfold mulR2
    rw [hb]
    exact pure_of_run1 (TM2_ok false) (g2_mul_nilN x) (one_mem (by rw [onB_red2]; exact hb)) (vals_nil2 _) (val_tup2 _ _)
theorem g2_mul_row : CallOk Try.prog (rowSB (kdP A2) rsM2 20 mulR2) := rowSB_ok g2_mul g2_mul_nil
end Go.Proofs.Ythceokldlinjlaa
