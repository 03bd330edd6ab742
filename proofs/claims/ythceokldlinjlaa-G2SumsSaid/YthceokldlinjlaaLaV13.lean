/-
  The law of chapter 13 on sums of multiples: what it computes.
-/
import Derived.Test.YthceokldlinjlaaAw13
import Derived.Test.YthceokldlinjlaaV2
import Derived.Test.YthceokldlinjlaaOsl
namespace Go.Proofs.Ythceokldlinjlaa
open Go Go.Eng Go.RowKit Go.Wd Go.Alg Go.Pr

/-! ### runs with hints for the functions within -/
noncomputable def runH (T : CallT) (f : FuncId) (args : List AV) (m : St) (hints : List (Nat × Bool)) (hf : FuncId → List (Nat × Bool)) : Option (SV × List Prop) := match fn1 f with
  | some d => match runFn tyTab (callH tyTab T fn1 1000 hf 6) 1000 d args m 16 hints with
    | some o => some (o.val, o.ob)
    | none => none
  | none => none
theorem gives_of_runH {T : CallT} (hT : CallOk Try.prog T) {f : FuncId} {args : List AV} {m : St} {hints : List (Nat × Bool)} {hf : FuncId → List (Nat × Bool)} {s : SV} {ob : List Prop} (h : runH T f args m hints hf = some (s, ob)) (hob : ∀ p ∈ ob, p) {ρ : Rho} {w : World} (hM : Mem ρ m w)
    (hno : ∀ c, ¬ Own ρ c) {vs : List Value} (hv : vals ρ args = some vs) {v : Value} (hval : ∀ ρ u, s.val ρ = some u → u = v) : Gives Try.prog f vs.toArray v w := by
  unfold runH at h
  split at h
  · rename_i d hd
    split at h
    · rename_i o ho
      cases h
      refine (runFn_calls mixed tyTab_ok (callH_ok mixed tyTab_ok hT fn1_ok 1000 hf 6) (fn1_ok _ _ hd) ho hob hv hM).mono ?_
      rintro e w' ⟨u, rfl, ρ', hE, hu, _⟩
      exact ⟨by rw [hval ρ' u hu], hE.below hno⟩
    · cases h
  · cases h

/-! ### multiples by an empty slice, wherever it points to -/
def slE (a : Option Addr) (c : Nat) : AV := ⟨false, [.v (.slice a 0 c)]⟩
theorem val_slE (ρ : Rho) (a : Option Addr) (c : Nat) : (slE a c).val ρ = some (.slice a 0 c) := AV.val_v (ρ := ρ) (x := .slice a 0 c) rfl
theorem vals_slE (a : Option Addr) (c : Nat) (x : P2) : vals rho0 [slE a c, wP x] = some [.slice a 0 c, wpv x] := by simp only [vals, val_wP, val_slE]
theorem g2_mul_eN (a : Option Addr) (c : Nat) (x : P2) : run1 (TM2 false) 20 [slE a c, wP x] [] = some (.tup [wP ((((0, 0), (0, 0)), false) : P2), wI1 120], [onB2 (κP2 (ιP2 x)) = false]) := by kernel_rfl
theorem g2_mul_eI (a : Option Addr) (c : Nat) (x : A2) : run1 (TM2 true) 20 [slE a c, wP (x, true)] [] = some (.tup [wP ((((0, 0), (0, 0)), true) : P2), wI1 0], [onB2 (κP2 (ιP2 (x, true))) = true]) := by kernel_rfl
theorem g2_mul_eF (a : Option Addr) (c : Nat) (x : A2) : run1 (TM2 true) 20 [slE a c, wP (x, false)] [] = some (.tup [wP (κP2 (jpt (ιJ2 zJ2))), wI1 0], [onB2 (rP2 x) = true, RdJ2 zJ2]) := by kernel_rfl
theorem g2_mul_e (a : Option Addr) (c : Nat) (x : P2) : Pure Try.prog 20 [.slice a 0 c, wpv x] (rsM2.vl (mulR2 x 0)) := by
  by_cases hon : On b2 (ιP2 x)
  · have hb := (onB2_iff x).2 hon
    unfold mulR2
    rw [hb]
    obtain ⟨x, d⟩ := x
    cases d with
    | false =>
      refine pure_of_run1 (TM2_ok true) (g2_mul_eF a c x) ?_ (vals_slE a c _) fun ρ u hu => ?_
      · simp only [List.forall_mem_cons, List.not_mem_nil, false_imp_iff, implies_true, and_true]
        exact ⟨(onB2_iff _).2 (by rw [ι_rP2]; exact hon), rd_zJ2⟩
      · rw [val_tup2 _ _ ρ u hu]
        have e : jpt (ιJ2 zJ2) = .inf := rep_pt (p := .inf) zJ_z2
        rw [e]; rfl
    | true =>
      refine pure_of_run1 (TM2_ok true) (g2_mul_eI a c x) (one_mem (by rw [onB_red2]; exact hb)) (vals_slE a c _) fun ρ u hu => ?_
      rw [val_tup2 _ _ ρ u hu]; rfl
  · have hb := onB2_not hon
    unfold mulR2
    rw [hb]
    exact pure_of_run1 (TM2_ok false) (g2_mul_eN a c x) (one_mem (by rw [onB_red2]; exact hb)) (vals_slE a c _) (val_tup2 _ _)
theorem rg2_mul_eN (a : Option Addr) (c : Nat) (x : P2) : run1 (TV2 false) 73 [slE a c, wP x] [] = some (.tup [wP ((((0, 0), (0, 0)), false) : P2), wI1 120], [onB2 x = false]) := by kernel_rfl
theorem rg2_mul_eI (a : Option Addr) (c : Nat) (x : A2) : run1 (TV2 true) 73 [slE a c, wP (x, true)] [] = some (.tup [wP ((((0, 0), (0, 0)), true) : P2), wI1 0], [onB2 (x, true) = true]) := by kernel_rfl
theorem rg2_mul_eF (a : Option Addr) (c : Nat) (x : A2) : run1 (TV2 true) 73 [slE a c, wP (x, false)] [(49, true)] = some (.tup [wP ((((0, 0), (0, 0)), true) : P2), wI1 0], [onB2 (x, false) = true, eqW ((0, 0) : N2) (0, 0) true]) := by kernel_rfl
theorem rg2_mul_e (a : Option Addr) (c : Nat) (x : P2) : Pure Try.prog 73 [.slice a 0 c, wpv x] (rsM2.vl (mulR2 x 0)) := by
  by_cases hon : On b2 (ιP2 x)
  · have hb := (onB2_iff x).2 hon
    unfold mulR2
    rw [hb]
    obtain ⟨x, d⟩ := x
    cases d with
    | false =>
      refine pure_of_run1 (TV2_ok true) (rg2_mul_eF a c x) ?_ (vals_slE a c _) fun ρ u hu => ?_
      · simp only [List.forall_mem_cons, List.not_mem_nil, false_imp_iff, implies_true, and_true]
        exact ⟨hb, eqW_of rfl⟩
      · rw [val_tup2 _ _ ρ u hu]; rfl
    | true =>
      refine pure_of_run1 (TV2_ok true) (rg2_mul_eI a c x) (one_mem hb) (vals_slE a c _) fun ρ u hu => ?_
      rw [val_tup2 _ _ ρ u hu]; rfl
  · have hb := onB2_not hon
    unfold mulR2
    rw [hb]
    exact pure_of_run1 (TV2_ok false) (rg2_mul_eN a c x) (one_mem hb) (vals_slE a c _) (val_tup2 _ _)
noncomputable def rowSE (f : FuncId) : Row where
  f := f
  ans := fun
    | [⟨false, [.v (.slice _ 0 _)]⟩, y] => match asP A2 y with
      | some p => some (rsM2.sv (mulR2 p 0), [])
      | none => none
    | _ => none
theorem rowSE_ok {f : FuncId} (h : ∀ a c x, Pure Try.prog f [.slice a 0 c, wpv x] (rsM2.vl (mulR2 x 0))) : RowOk Try.prog (rowSE f) := by
  intro args s ob ha hob ρ vs hv
  unfold rowSE at ha
  simp only at ha
  split at ha
  · rename_i a c y
    split at ha
    · rename_i p hp
      cases ha
      obtain ⟨v1, us, h1, h2, rfl⟩ := vals_cons hv
      obtain ⟨v2, us', h3, h4, rfl⟩ := vals_cons h2
      cases h4
      rw [show AV.val ρ ⟨false, [.v (.slice a 0 c)]⟩ = some (.slice a 0 c) from val_slE ρ a c] at h1
      cases h1
      rw [(kdP A2).ok hp h3]
      exact ⟨_, rsM2.val _ _, h a c p⟩
    · cases ha
  · cases ha
noncomputable def rowsV13 : List Row := rowSE 20 :: rowSE 73 :: rowC2 (kdP A2) (kdP A2) (kdP A2).rs 74 addP2 :: rowsRA2
theorem rowsV13_ok : ∀ r ∈ rowsV13, RowOk Try.prog r :=
  List.forall_mem_cons.2 ⟨rowSE_ok g2_mul_e, List.forall_mem_cons.2 ⟨rowSE_ok rg2_mul_e, List.forall_mem_cons.2 ⟨rowC2_ok rg2_add, rowsRA2_ok⟩⟩⟩
noncomputable def T13v : CallT := orT (tableT rowsV13) (orT (rowSB (kdP A2) rsM2 73 mulR2) T13)
theorem T13v_ok : CallOk Try.prog T13v := orT_ok (tableT_ok rowsV13_ok) (orT_ok rg2_mul_row T13_ok)

/-! ### the runs -/
/-- A slice of words: an empty one, or a number's words. -/
inductive Kd where
  | e (a : Option Addr) (c : Nat)
  | w (len cap n : Nat)
def Kd.it (id : Nat) : Kd → It
  | .e a c => .v (.slice a 0 c)
  | .w len cap _ => .s id 0 len cap
def Kd.mem (id : Nat) : Kd → List (Nat × List It)
  | .e _ _ => []
  | .w len _ n => [(id, anyW len n)]
def Kd.num : Kd → Nat
  | .e _ _ => 0
  | .w len _ n => n % pw len
def slJ (id len cap : Nat) : AV := ⟨false, [.s id 0 len cap]⟩
def hfV (ne : Bool) (l : List Bool) : FuncId → List (Nat × Bool) := fun f => match Nat.beq f 31 with
  | true => (15, ne) :: l.map fun b => (35, b)
  | false => match Nat.beq f 32 with
    | true => (14, ne) :: l.map fun b => (36, b)
    | false => []
noncomputable def runV (x y : AV) (m : List (Nat × List It)) (h : List (Nat × Bool)) (ne : Bool) (l : List Bool) := runH T13v 7 [x, y] (memL m) h (hfV ne l)
--RUNS
def lenK : Kd → Nat
  | .e _ _ => 0
  | .w len _ _ => len
def obLen (b : Bool) (k : Kd) : Prop := (lenK k : Int) > 1 ↔ b = true
def obMul : Kd → List Prop
  | .e _ _ => []
  | .w len _ _ => [0 = 0, len = len, len < 4294967296]
noncomputable def errK (k : Kd) (p : P2) : Int := (mulR2 p k.num).2
noncomputable def obP : List (Kd × P2) → List Bool → List Prop
  | (k, p) :: l, b :: bs => obMul k ++ ((errK k p ≠ 0 ↔ b = true) :: obP l bs)
  | _, _ => []
noncomputable def sumP : P2 → List (Kd × P2) → P2
  | o, [] => o
  | o, (k, p) :: l => sumP (addP2 o (mulR2 p k.num).1) l
def itsK : Nat → List Kd → List It
  | _, [] => []
  | id, k :: l => k.it id :: itsK (id + 1) l
def memK : Nat → List Kd → List (Nat × List It)
  | _, [] => []
  | id, k :: l => k.mem id ++ memK (id + 1) l
def memV (ks : List Kd) (ps : List P2) : List (Nat × List It) := (1, itsK 3 ks) :: (2, ptsI ps) :: memK 3 ks
def gt3 (n : Nat) (b : Bool) : Prop := (n : Int) > 3 ↔ b = true
def neV (n m : Nat) (b : Bool) : Prop := (n : Int) ≠ (m : Int) ↔ b = true
noncomputable def obG (n : Nat) (l : List (Kd × P2)) (ks : List Kd) (bs : List Bool) (fin : List Prop) : List Prop := gt3 n false :: gt3 n false :: ks.map (obLen false) ++ neV n n false :: obP l bs ++ neV n n false :: obP l bs ++ fin
noncomputable def okFin (l : List (Kd × P2)) : List Prop := [eqP' (sumP noneP2 l) (sumP noneP2 l) true, (0 : Int) = 0 ↔ true = true]
noncomputable def erFin (k : Kd) (p : P2) : List Prop := [eqP' zP2 zP2 true, errK k p = errK k p ↔ true = true]
def neFin : List Prop := [eqP' zP2 zP2 true, (1 : Int) = 1 ↔ true = true]
def hV (n : Nat) : List (Nat × Bool) := (14, false) :: (18, false) :: List.replicate n (32, false) ++ [(50, true), (55, true)]
section
variable (c d : Nat)
theorem v_ok1 (p0 : P2) : ∀ k0 : Kd, runV (slJ 1 1 c) (slJ 2 1 d) (memV [k0] [p0]) (hV 1) false [false] = some (vB true, obG 1 [(k0, p0)] [k0] [false] (okFin [(k0, p0)]))
  | .e _ _ => by kernel_rfl
  | .w _ _ _ => by kernel_rfl
theorem v_er1_0 (p0 : P2) : ∀ k0 : Kd, runV (slJ 1 1 c) (slJ 2 1 d) (memV [k0] [p0]) (hV 1) false [true] = some (vB true, obG 1 [(k0, p0)] [k0] [true] (erFin k0 p0))
  | .e _ _ => by kernel_rfl
  | .w _ _ _ => by kernel_rfl
theorem v_ne1e (a : Option Addr) (e : Nat) : ∀ k0 : Kd, runV (slJ 1 1 c) (slE a e) ((1, itsK 3 [k0]) :: memK 3 [k0]) (hV 1) true [] = some (vB true, gt3 1 false :: gt3 0 false :: [k0].map (obLen false) ++ neV 1 0 true :: neV 1 0 true :: neFin)
  | .e _ _ => by kernel_rfl
  | .w _ _ _ => by kernel_rfl
theorem v_lo1e_0 (a : Option Addr) (e : Nat) (len cap x : Nat) : runV (slJ 1 1 c) (slE a e) ((1, itsK 3 [.w len cap x]) :: memK 3 [.w len cap x]) ((14, false) :: (18, false) :: List.replicate 0 (32, false) ++ [(32, true)]) true [] = some (vB true, gt3 1 false :: gt3 0 false :: ([] : List Kd).map (obLen false) ++ [obLen true (.w len cap x)]) := by kernel_rfl
theorem v_ne1w (m : Nat) : ∀ k0 : Kd, runV (slJ 1 1 c) (slJ 2 m d) ((1, itsK 3 [k0]) :: (2, []) :: memK 3 [k0]) (hV 1) true [] = some (vB true, gt3 1 false :: gt3 m false :: [k0].map (obLen false) ++ neV 1 m true :: neV 1 m true :: neFin)
  | .e _ _ => by kernel_rfl
  | .w _ _ _ => by kernel_rfl
theorem v_lo1w_0 (m : Nat) (len cap x : Nat) : runV (slJ 1 1 c) (slJ 2 m d) ((1, itsK 3 [.w len cap x]) :: (2, []) :: memK 3 [.w len cap x]) ((14, false) :: (18, false) :: List.replicate 0 (32, false) ++ [(32, true)]) true [] = some (vB true, gt3 1 false :: gt3 m false :: ([] : List Kd).map (obLen false) ++ [obLen true (.w len cap x)]) := by kernel_rfl
theorem v_ok2 (p0 p1 : P2) : ∀ k0 k1 : Kd, runV (slJ 1 2 c) (slJ 2 2 d) (memV [k0, k1] [p0, p1]) (hV 2) false [false, false] = some (vB true, obG 2 [(k0, p0), (k1, p1)] [k0, k1] [false, false] (okFin [(k0, p0), (k1, p1)]))
  | .e _ _, .e _ _ => by kernel_rfl
  | .e _ _, .w _ _ _ => by kernel_rfl
  | .w _ _ _, .e _ _ => by kernel_rfl
  | .w _ _ _, .w _ _ _ => by kernel_rfl
theorem v_er2_0 (p0 p1 : P2) : ∀ k0 k1 : Kd, runV (slJ 1 2 c) (slJ 2 2 d) (memV [k0, k1] [p0, p1]) (hV 2) false [true] = some (vB true, obG 2 [(k0, p0), (k1, p1)] [k0, k1] [true] (erFin k0 p0))
  | .e _ _, .e _ _ => by kernel_rfl
  | .e _ _, .w _ _ _ => by kernel_rfl
  | .w _ _ _, .e _ _ => by kernel_rfl
  | .w _ _ _, .w _ _ _ => by kernel_rfl
theorem v_er2_1 (p0 p1 : P2) : ∀ k0 k1 : Kd, runV (slJ 1 2 c) (slJ 2 2 d) (memV [k0, k1] [p0, p1]) (hV 2) false [false, true] = some (vB true, obG 2 [(k0, p0), (k1, p1)] [k0, k1] [false, true] (erFin k1 p1))
  | .e _ _, .e _ _ => by kernel_rfl
  | .e _ _, .w _ _ _ => by kernel_rfl
  | .w _ _ _, .e _ _ => by kernel_rfl
  | .w _ _ _, .w _ _ _ => by kernel_rfl
theorem v_ne2e (a : Option Addr) (e : Nat) : ∀ k0 k1 : Kd, runV (slJ 1 2 c) (slE a e) ((1, itsK 3 [k0, k1]) :: memK 3 [k0, k1]) (hV 2) true [] = some (vB true, gt3 2 false :: gt3 0 false :: [k0, k1].map (obLen false) ++ neV 2 0 true :: neV 2 0 true :: neFin)
  | .e _ _, .e _ _ => by kernel_rfl
  | .e _ _, .w _ _ _ => by kernel_rfl
  | .w _ _ _, .e _ _ => by kernel_rfl
  | .w _ _ _, .w _ _ _ => by kernel_rfl
theorem v_lo2e_0 (a : Option Addr) (e : Nat) (len cap x : Nat) : ∀ k1 : Kd, runV (slJ 1 2 c) (slE a e) ((1, itsK 3 [.w len cap x, k1]) :: memK 3 [.w len cap x, k1]) ((14, false) :: (18, false) :: List.replicate 0 (32, false) ++ [(32, true)]) true [] = some (vB true, gt3 2 false :: gt3 0 false :: ([] : List Kd).map (obLen false) ++ [obLen true (.w len cap x)])
  | .e _ _ => by kernel_rfl
  | .w _ _ _ => by kernel_rfl
theorem v_lo2e_1 (a : Option Addr) (e : Nat) (len cap x : Nat) : ∀ k0 : Kd, runV (slJ 1 2 c) (slE a e) ((1, itsK 3 [k0, .w len cap x]) :: memK 3 [k0, .w len cap x]) ((14, false) :: (18, false) :: List.replicate 1 (32, false) ++ [(32, true)]) true [] = some (vB true, gt3 2 false :: gt3 0 false :: [k0].map (obLen false) ++ [obLen true (.w len cap x)])
  | .e _ _ => by kernel_rfl
  | .w _ _ _ => by kernel_rfl
theorem v_ne2w (m : Nat) : ∀ k0 k1 : Kd, runV (slJ 1 2 c) (slJ 2 m d) ((1, itsK 3 [k0, k1]) :: (2, []) :: memK 3 [k0, k1]) (hV 2) true [] = some (vB true, gt3 2 false :: gt3 m false :: [k0, k1].map (obLen false) ++ neV 2 m true :: neV 2 m true :: neFin)
  | .e _ _, .e _ _ => by kernel_rfl
  | .e _ _, .w _ _ _ => by kernel_rfl
  | .w _ _ _, .e _ _ => by kernel_rfl
  | .w _ _ _, .w _ _ _ => by kernel_rfl
theorem v_lo2w_0 (m : Nat) (len cap x : Nat) : ∀ k1 : Kd, runV (slJ 1 2 c) (slJ 2 m d) ((1, itsK 3 [.w len cap x, k1]) :: (2, []) :: memK 3 [.w len cap x, k1]) ((14, false) :: (18, false) :: List.replicate 0 (32, false) ++ [(32, true)]) true [] = some (vB true, gt3 2 false :: gt3 m false :: ([] : List Kd).map (obLen false) ++ [obLen true (.w len cap x)])
  | .e _ _ => by kernel_rfl
  | .w _ _ _ => by kernel_rfl
theorem v_lo2w_1 (m : Nat) (len cap x : Nat) : ∀ k0 : Kd, runV (slJ 1 2 c) (slJ 2 m d) ((1, itsK 3 [k0, .w len cap x]) :: (2, []) :: memK 3 [k0, .w len cap x]) ((14, false) :: (18, false) :: List.replicate 1 (32, false) ++ [(32, true)]) true [] = some (vB true, gt3 2 false :: gt3 m false :: [k0].map (obLen false) ++ [obLen true (.w len cap x)])
  | .e _ _ => by kernel_rfl
  | .w _ _ _ => by kernel_rfl
theorem v_ok3 (p0 p1 p2 : P2) : ∀ k0 k1 k2 : Kd, runV (slJ 1 3 c) (slJ 2 3 d) (memV [k0, k1, k2] [p0, p1, p2]) (hV 3) false [false, false, false] = some (vB true, obG 3 [(k0, p0), (k1, p1), (k2, p2)] [k0, k1, k2] [false, false, false] (okFin [(k0, p0), (k1, p1), (k2, p2)]))
  | .e _ _, .e _ _, .e _ _ => by kernel_rfl
  | .e _ _, .e _ _, .w _ _ _ => by kernel_rfl
  | .e _ _, .w _ _ _, .e _ _ => by kernel_rfl
  | .e _ _, .w _ _ _, .w _ _ _ => by kernel_rfl
  | .w _ _ _, .e _ _, .e _ _ => by kernel_rfl
  | .w _ _ _, .e _ _, .w _ _ _ => by kernel_rfl
  | .w _ _ _, .w _ _ _, .e _ _ => by kernel_rfl
  | .w _ _ _, .w _ _ _, .w _ _ _ => by kernel_rfl
theorem v_er3_0 (p0 p1 p2 : P2) : ∀ k0 k1 k2 : Kd, runV (slJ 1 3 c) (slJ 2 3 d) (memV [k0, k1, k2] [p0, p1, p2]) (hV 3) false [true] = some (vB true, obG 3 [(k0, p0), (k1, p1), (k2, p2)] [k0, k1, k2] [true] (erFin k0 p0))
  | .e _ _, .e _ _, .e _ _ => by kernel_rfl
  | .e _ _, .e _ _, .w _ _ _ => by kernel_rfl
  | .e _ _, .w _ _ _, .e _ _ => by kernel_rfl
  | .e _ _, .w _ _ _, .w _ _ _ => by kernel_rfl
  | .w _ _ _, .e _ _, .e _ _ => by kernel_rfl
  | .w _ _ _, .e _ _, .w _ _ _ => by kernel_rfl
  | .w _ _ _, .w _ _ _, .e _ _ => by kernel_rfl
  | .w _ _ _, .w _ _ _, .w _ _ _ => by kernel_rfl
theorem v_er3_1 (p0 p1 p2 : P2) : ∀ k0 k1 k2 : Kd, runV (slJ 1 3 c) (slJ 2 3 d) (memV [k0, k1, k2] [p0, p1, p2]) (hV 3) false [false, true] = some (vB true, obG 3 [(k0, p0), (k1, p1), (k2, p2)] [k0, k1, k2] [false, true] (erFin k1 p1))
  | .e _ _, .e _ _, .e _ _ => by kernel_rfl
  | .e _ _, .e _ _, .w _ _ _ => by kernel_rfl
  | .e _ _, .w _ _ _, .e _ _ => by kernel_rfl
  | .e _ _, .w _ _ _, .w _ _ _ => by kernel_rfl
  | .w _ _ _, .e _ _, .e _ _ => by kernel_rfl
  | .w _ _ _, .e _ _, .w _ _ _ => by kernel_rfl
  | .w _ _ _, .w _ _ _, .e _ _ => by kernel_rfl
  | .w _ _ _, .w _ _ _, .w _ _ _ => by kernel_rfl
theorem v_er3_2 (p0 p1 p2 : P2) : ∀ k0 k1 k2 : Kd, runV (slJ 1 3 c) (slJ 2 3 d) (memV [k0, k1, k2] [p0, p1, p2]) (hV 3) false [false, false, true] = some (vB true, obG 3 [(k0, p0), (k1, p1), (k2, p2)] [k0, k1, k2] [false, false, true] (erFin k2 p2))
  | .e _ _, .e _ _, .e _ _ => by kernel_rfl
  | .e _ _, .e _ _, .w _ _ _ => by kernel_rfl
  | .e _ _, .w _ _ _, .e _ _ => by kernel_rfl
  | .e _ _, .w _ _ _, .w _ _ _ => by kernel_rfl
  | .w _ _ _, .e _ _, .e _ _ => by kernel_rfl
  | .w _ _ _, .e _ _, .w _ _ _ => by kernel_rfl
  | .w _ _ _, .w _ _ _, .e _ _ => by kernel_rfl
  | .w _ _ _, .w _ _ _, .w _ _ _ => by kernel_rfl
theorem v_ne3e (a : Option Addr) (e : Nat) : ∀ k0 k1 k2 : Kd, runV (slJ 1 3 c) (slE a e) ((1, itsK 3 [k0, k1, k2]) :: memK 3 [k0, k1, k2]) (hV 3) true [] = some (vB true, gt3 3 false :: gt3 0 false :: [k0, k1, k2].map (obLen false) ++ neV 3 0 true :: neV 3 0 true :: neFin)
  | .e _ _, .e _ _, .e _ _ => by kernel_rfl
  | .e _ _, .e _ _, .w _ _ _ => by kernel_rfl
  | .e _ _, .w _ _ _, .e _ _ => by kernel_rfl
  | .e _ _, .w _ _ _, .w _ _ _ => by kernel_rfl
  | .w _ _ _, .e _ _, .e _ _ => by kernel_rfl
  | .w _ _ _, .e _ _, .w _ _ _ => by kernel_rfl
  | .w _ _ _, .w _ _ _, .e _ _ => by kernel_rfl
  | .w _ _ _, .w _ _ _, .w _ _ _ => by kernel_rfl
theorem v_lo3e_0 (a : Option Addr) (e : Nat) (len cap x : Nat) : ∀ k1 k2 : Kd, runV (slJ 1 3 c) (slE a e) ((1, itsK 3 [.w len cap x, k1, k2]) :: memK 3 [.w len cap x, k1, k2]) ((14, false) :: (18, false) :: List.replicate 0 (32, false) ++ [(32, true)]) true [] = some (vB true, gt3 3 false :: gt3 0 false :: ([] : List Kd).map (obLen false) ++ [obLen true (.w len cap x)])
  | .e _ _, .e _ _ => by kernel_rfl
  | .e _ _, .w _ _ _ => by kernel_rfl
  | .w _ _ _, .e _ _ => by kernel_rfl
  | .w _ _ _, .w _ _ _ => by kernel_rfl
theorem v_lo3e_1 (a : Option Addr) (e : Nat) (len cap x : Nat) : ∀ k0 k2 : Kd, runV (slJ 1 3 c) (slE a e) ((1, itsK 3 [k0, .w len cap x, k2]) :: memK 3 [k0, .w len cap x, k2]) ((14, false) :: (18, false) :: List.replicate 1 (32, false) ++ [(32, true)]) true [] = some (vB true, gt3 3 false :: gt3 0 false :: [k0].map (obLen false) ++ [obLen true (.w len cap x)])
  | .e _ _, .e _ _ => by kernel_rfl
  | .e _ _, .w _ _ _ => by kernel_rfl
  | .w _ _ _, .e _ _ => by kernel_rfl
  | .w _ _ _, .w _ _ _ => by kernel_rfl
theorem v_lo3e_2 (a : Option Addr) (e : Nat) (len cap x : Nat) : ∀ k0 k1 : Kd, runV (slJ 1 3 c) (slE a e) ((1, itsK 3 [k0, k1, .w len cap x]) :: memK 3 [k0, k1, .w len cap x]) ((14, false) :: (18, false) :: List.replicate 2 (32, false) ++ [(32, true)]) true [] = some (vB true, gt3 3 false :: gt3 0 false :: [k0, k1].map (obLen false) ++ [obLen true (.w len cap x)])
  | .e _ _, .e _ _ => by kernel_rfl
  | .e _ _, .w _ _ _ => by kernel_rfl
  | .w _ _ _, .e _ _ => by kernel_rfl
  | .w _ _ _, .w _ _ _ => by kernel_rfl
theorem v_ne3w (m : Nat) : ∀ k0 k1 k2 : Kd, runV (slJ 1 3 c) (slJ 2 m d) ((1, itsK 3 [k0, k1, k2]) :: (2, []) :: memK 3 [k0, k1, k2]) (hV 3) true [] = some (vB true, gt3 3 false :: gt3 m false :: [k0, k1, k2].map (obLen false) ++ neV 3 m true :: neV 3 m true :: neFin)
  | .e _ _, .e _ _, .e _ _ => by kernel_rfl
  | .e _ _, .e _ _, .w _ _ _ => by kernel_rfl
  | .e _ _, .w _ _ _, .e _ _ => by kernel_rfl
  | .e _ _, .w _ _ _, .w _ _ _ => by kernel_rfl
  | .w _ _ _, .e _ _, .e _ _ => by kernel_rfl
  | .w _ _ _, .e _ _, .w _ _ _ => by kernel_rfl
  | .w _ _ _, .w _ _ _, .e _ _ => by kernel_rfl
  | .w _ _ _, .w _ _ _, .w _ _ _ => by kernel_rfl
theorem v_lo3w_0 (m : Nat) (len cap x : Nat) : ∀ k1 k2 : Kd, runV (slJ 1 3 c) (slJ 2 m d) ((1, itsK 3 [.w len cap x, k1, k2]) :: (2, []) :: memK 3 [.w len cap x, k1, k2]) ((14, false) :: (18, false) :: List.replicate 0 (32, false) ++ [(32, true)]) true [] = some (vB true, gt3 3 false :: gt3 m false :: ([] : List Kd).map (obLen false) ++ [obLen true (.w len cap x)])
  | .e _ _, .e _ _ => by kernel_rfl
  | .e _ _, .w _ _ _ => by kernel_rfl
  | .w _ _ _, .e _ _ => by kernel_rfl
  | .w _ _ _, .w _ _ _ => by kernel_rfl
theorem v_lo3w_1 (m : Nat) (len cap x : Nat) : ∀ k0 k2 : Kd, runV (slJ 1 3 c) (slJ 2 m d) ((1, itsK 3 [k0, .w len cap x, k2]) :: (2, []) :: memK 3 [k0, .w len cap x, k2]) ((14, false) :: (18, false) :: List.replicate 1 (32, false) ++ [(32, true)]) true [] = some (vB true, gt3 3 false :: gt3 m false :: [k0].map (obLen false) ++ [obLen true (.w len cap x)])
  | .e _ _, .e _ _ => by kernel_rfl
  | .e _ _, .w _ _ _ => by kernel_rfl
  | .w _ _ _, .e _ _ => by kernel_rfl
  | .w _ _ _, .w _ _ _ => by kernel_rfl
theorem v_lo3w_2 (m : Nat) (len cap x : Nat) : ∀ k0 k1 : Kd, runV (slJ 1 3 c) (slJ 2 m d) ((1, itsK 3 [k0, k1, .w len cap x]) :: (2, []) :: memK 3 [k0, k1, .w len cap x]) ((14, false) :: (18, false) :: List.replicate 2 (32, false) ++ [(32, true)]) true [] = some (vB true, gt3 3 false :: gt3 m false :: [k0, k1].map (obLen false) ++ [obLen true (.w len cap x)])
  | .e _ _, .e _ _ => by kernel_rfl
  | .e _ _, .w _ _ _ => by kernel_rfl
  | .w _ _ _, .e _ _ => by kernel_rfl
  | .w _ _ _, .w _ _ _ => by kernel_rfl
theorem v_00 (a a' : Option Addr) (e e' : Nat) : runV (slE a e) (slE a' e') [] (hV 0) false [] = some (vB true, [gt3 0 false, gt3 0 false, neV 0 0 false, neV 0 0 false, eqP' noneP2 noneP2 true, (0 : Int) = 0 ↔ true = true]) := by kernel_rfl
theorem v_0m (a : Option Addr) (e m : Nat) : runV (slE a e) (slJ 2 m d) [(2, [])] (hV 0) true [] = some (vB true, gt3 0 false :: gt3 m false :: neV 0 m true :: neV 0 m true :: neFin) := by kernel_rfl
theorem v_big1 (n m : Nat) : runV (slJ 1 n c) (slJ 2 m d) [(1, []), (2, [])] [(14, true)] true [] = some (vB true, [gt3 n true]) := by kernel_rfl
theorem v_big2 (n : Nat) (a : Option Addr) (e : Nat) : runV (slJ 1 n c) (slE a e) [(1, [])] [(14, true)] true [] = some (vB true, [gt3 n true]) := by kernel_rfl
theorem v_big3 (n m : Nat) : runV (slJ 1 n c) (slJ 2 m d) [(1, []), (2, [])] [(14, false), (18, true)] true [] = some (vB true, [gt3 n false, gt3 m true]) := by kernel_rfl
theorem v_big4 (m : Nat) (a : Option Addr) (e : Nat) : runV (slE a e) (slJ 2 m d) [(2, [])] [(14, false), (18, true)] true [] = some (vB true, [gt3 0 false, gt3 m true]) := by kernel_rfl
end
--RUNSEND
end Go.Proofs.Ythceokldlinjlaa
