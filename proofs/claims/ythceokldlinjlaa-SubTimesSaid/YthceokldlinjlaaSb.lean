/-
  Points of order r, images, and what is cleared: the rows of the program's sub.
-/
import Derived.Test.YthceokldlinjlaaB1
import Derived.Test.YthceokldlinjlaaB2
namespace Go.Proofs.Ythceokldlinjlaa
open Go Go.Eng Go.RowKit Go.Wd Go.Alg Go.Pr

def numW : List Int → Nat
  | [] => 0
  | w :: l => w.toNat + numW l * 18446744073709551616
def okW (l : List Int) : List Prop := l.map fun w => 0 ≤ w ∧ w < 18446744073709551616
theorem okW_ok {l : List Int} (h : l.all (fun w => decide (0 ≤ w) && decide (w < 18446744073709551616)) = true) : ∀ p ∈ okW l, p := by
  intro p hp
  obtain ⟨w, hw, rfl⟩ := List.mem_map.1 hp
  simpa using List.all_eq_true.1 h w hw
theorem all_appS {l m : List Prop} (h : ∀ q ∈ l, q) (k : ∀ q ∈ m, q) : ∀ q ∈ l ++ m, q := fun q hq => (List.mem_append.1 hq).elim (h q) (k q)
def rWs : List Int := [18446744069414584321, 6034159408538082302, 3691218898639771653, 8353516859464449352]
def rNum : Nat := 0x73eda753299d7d483339d80809a1d80553bda402fffe5bfeffffffff00000001
theorem rWs_num : numW rWs % pw 4 = rNum := by decide +kernel
def c1Ws : List Int := [15132376222941642753]
def c1Num : Nat := 0xd201000000010001
theorem c1Ws_num : numW c1Ws % pw 1 = c1Num := by decide +kernel
def c2Ws : List Int := [0xe8020005aaa95551, 0x59894c0adebbf6b4, 0xe954cbc06689f6a3, 0x2ec0ec69d7477c1a, 0x6d82bf015d1212b0, 0x329c2f178731db95, 0x9986ff031508ffe1, 0x88e2a8e9145ad768, 0x584c6a0ea91b3528, 0xbc69f08f2ee75b3]
def c2Num : Nat := 0xbc69f08f2ee75b3584c6a0ea91b352888e2a8e9145ad7689986ff031508ffe1329c2f178731db956d82bf015d1212b02ec0ec69d7477c1ae954cbc06689f6a359894c0adebbf6b4e8020005aaa95551
theorem c2Ws_num : numW c2Ws % pw 10 = c2Num := by decide +kernel

noncomputable def TS1 : CallT := orT (tableT rowsP1) (orT (rowSB (kdP A1) rsM1 40 mulR1) (orT (tableT rowsP2) (rowSB (kdP A2) rsM2 20 mulR2)))
theorem TS1_ok : CallOk Try.prog TS1 := orT_ok (tableT_ok rowsP1_ok) (orT_ok g1_mul_row (orT_ok (tableT_ok rowsP2_ok) g2_mul_row))

/-! ### In1, In2 -/
def selB (b c : Bool) : Bool := match b with
  | true => c
  | false => false
theorem selB_t (c : Bool) : selB true c = c := rfl
theorem selB_f (c : Bool) : selB false c = false := rfl
/-- Is it a point of the curve, of order r? -/
noncomputable def inB1 (p : P1) : Bool := selB (onB1 p) (κP1 (smul rNum (ιP1 p))).2
noncomputable def inB2 (p : P2) : Bool := selB (onB2 p) (κP2 (smul rNum (ιP2 p))).2
theorem fst2_1 (A : P1) : (A, (0 : Int)).1.2 = A.2 := rfl
theorem snd0_1 (A : P1) : (A, (0 : Int)).2 = 0 := rfl
theorem inB1_on {p : P1} (h : onB1 p = true) : inB1 p = (κP1 (smul rNum (ιP1 p))).2 := by unfold inB1; rw [h, selB_t]
theorem inB1_off {p : P1} (h : onB1 p = false) : inB1 p = false := by unfold inB1; rw [h, selB_f]
theorem mulR1_r {p : P1} (h : onB1 p = true) : (mulR1 p (numW rWs % pw 4)).1.2 = (κP1 (smul rNum (ιP1 p))).2 := by rw [rWs_num, mulR1_on h, fst2_1]
theorem fst2_2 (A : P2) : (A, (0 : Int)).1.2 = A.2 := rfl
theorem snd0_2 (A : P2) : (A, (0 : Int)).2 = 0 := rfl
theorem inB2_on {p : P2} (h : onB2 p = true) : inB2 p = (κP2 (smul rNum (ιP2 p))).2 := by unfold inB2; rw [h, selB_t]
theorem inB2_off {p : P2} (h : onB2 p = false) : inB2 p = false := by unfold inB2; rw [h, selB_f]
theorem mulR2_r {p : P2} (h : onB2 p = true) : (mulR2 p (numW rWs % pw 4)).1.2 = (κP2 (smul rNum (ιP2 p))).2 := by rw [rWs_num, mulR2_on h, fst2_2]
def hIn (b : Bool) (f : FuncId) : List (Nat × Bool) := match Nat.beq f 66 || Nat.beq f 71 with
  | true => [(19, b)]
  | false => []
theorem in1_runT (p : P1) : run1H TS1 (hIn true) 28 [wP p] = some (.one (wB1 (mulR1 p (numW rWs % pw 4)).1.2), (4 < 4294967296) :: okW rWs ++ [(mulR1 p (numW rWs % pw 4)).2 = 0 ↔ true = true]) := by kernel_rfl
theorem in1_runF (p : P1) : run1H TS1 (hIn false) 28 [wP p] = some (.one (wB1 false), (4 < 4294967296) :: okW rWs ++ [(mulR1 p (numW rWs % pw 4)).2 = 0 ↔ false = true]) := by kernel_rfl
theorem in2_runT (p : P2) : run1H TS1 (hIn true) 30 [wP p] = some (.one (wB1 (mulR2 p (numW rWs % pw 4)).1.2), (4 < 4294967296) :: okW rWs ++ [(mulR2 p (numW rWs % pw 4)).2 = 0 ↔ true = true]) := by kernel_rfl
theorem in2_runF (p : P2) : run1H TS1 (hIn false) 30 [wP p] = some (.one (wB1 false), (4 < 4294967296) :: okW rWs ++ [(mulR2 p (numW rWs % pw 4)).2 = 0 ↔ false = true]) := by kernel_rfl
theorem sub_in1 (p : P1) : Pure Try.prog 28 [wpv p] (.bool (inB1 p)) := by
  cases h : onB1 p with
  | true =>
    refine pureC_of_run1H TS1_ok kdB.rs (in1_runT p) (all_appS (all_cons (by omega) (okW_ok (by decide +kernel))) (one_mem (iff_t ?_))) (valsC1 (kdP A1) p) ?_
    · rw [mulR1_on h, snd0_1]
    · rw [mulR1_r h, inB1_on h]
  | false =>
    refine pureC_of_run1H TS1_ok kdB.rs (in1_runF p) (all_appS (all_cons (by omega) (okW_ok (by decide +kernel))) (one_mem (iff_f ?_))) (valsC1 (kdP A1) p) ?_
    · rw [mulR1_off h]; intro e; cases e
    · rw [inB1_off h]
theorem sub_in2 (p : P2) : Pure Try.prog 30 [wpv p] (.bool (inB2 p)) := by
  cases h : onB2 p with
  | true =>
    refine pureC_of_run1H TS1_ok kdB.rs (in2_runT p) (all_appS (all_cons (by omega) (okW_ok (by decide +kernel))) (one_mem (iff_t ?_))) (valsC1 (kdP A2) p) ?_
    · rw [mulR2_on h, snd0_2]
    · rw [mulR2_r h, inB2_on h]
  | false =>
    refine pureC_of_run1H TS1_ok kdB.rs (in2_runF p) (all_appS (all_cons (by omega) (okW_ok (by decide +kernel))) (one_mem (iff_f ?_))) (valsC1 (kdP A2) p) ?_
    · rw [mulR2_off h]; intro e; cases e
    · rw [inB2_off h]
theorem κP1_inf {p : Pt F} : (κP1 p).2 = true ↔ p = .inf := by
  cases p with
  | inf => exact ⟨fun _ => rfl, fun _ => rfl⟩
  | aff x y => exact ⟨fun h => (by cases h), fun h => (by cases h)⟩
theorem κP2_inf {p : Pt F2} : (κP2 p).2 = true ↔ p = .inf := by
  cases p with
  | inf => exact ⟨fun _ => rfl, fun _ => rfl⟩
  | aff x y => exact ⟨fun h => (by cases h), fun h => (by cases h)⟩
theorem inB1_iff (p : P1) : inB1 p = true ↔ On b1 (ιP1 p) ∧ smul rNum (ιP1 p) = .inf := by
  cases h : onB1 p with
  | true => rw [inB1_on h, κP1_inf]; exact ⟨fun e => ⟨(onB1_iff p).1 h, e⟩, fun e => e.2⟩
  | false => rw [inB1_off h]; exact ⟨fun e => (by cases e), fun e => by have := (onB1_iff p).2 e.1; rw [h] at this; cases this⟩
theorem inB2_iff (p : P2) : inB2 p = true ↔ On b2 (ιP2 p) ∧ smul rNum (ιP2 p) = .inf := by
  cases h : onB2 p with
  | true => rw [inB2_on h, κP2_inf]; exact ⟨fun e => ⟨(onB2_iff p).1 h, e⟩, fun e => e.2⟩
  | false => rw [inB2_off h]; exact ⟨fun e => (by cases e), fun e => by have := (onB2_iff p).2 e.1; rw [h] at this; cases this⟩


/-! ### Phi, Psi, Clear1, Clear2 -/
def betaN : Nat := 0x5f19672fdf76ce51ba69c6076a0f77eaddb3a93be6f89688de17d813620a00022e01fffffffefffe
def psX : N2 := (0, 0x1a0111ea397fe699ec02408663d4de85aa0d857d89759ad4897d29650fb85f9b409427eb4f49fffd8bfd00000000aaad)
def psY : N2 := (0x135203e60180a68ee2e9c448d77a2cd91c3dedd930b1cf60ef396489f61eb45e304466cf3e67fa0af1ee7b04121bdea2, 0x6af0e0437ff400b6831e36d6bd17ffe48395dabc2d3435e77f76e17009241c5ee67992f72ec05f4c81084fbede3cc09)
def phiP : Pt F → Pt F
  | .inf => .inf
  | .aff x y => .aff (x * φ betaN) y
def psiP : Pt F2 → Pt F2
  | .inf => .inf
  | .aff x y => .aff (x.conj * ι2 psX) (y.conj * ι2 psY)
def phiN (p : P1) : P1 := κP1 (phiP (ιP1 p))
def psiN (p : P2) : P2 := κP2 (psiP (ιP2 p))
theorem phi_runF (x : A1) : run1 TS1 38 [wP (x, false)] [] = some (.one (wP ((mulF (rdN x.1) betaN, rdN x.2), false)), []) := by kernel_rfl
theorem phi_runT (x : A1) : run1 TS1 38 [wP (x, true)] [] = some (.one (wP ((mulF 0 betaN, 0), true)), []) := by kernel_rfl
theorem sub_phi (p : P1) : Pure Try.prog 38 [wpv p] (wpv (phiN p)) := by
  obtain ⟨x, b⟩ := p
  cases b with
  | true =>
    refine pureC_of_run TS1_ok (kdP A1).rs (phi_runT x) (fun _ h => by cases h) (valsC1 (kdP A1) _) ?_
    have : mulF 0 betaN = 0 := by decide +kernel
    rw [this]; rfl
  | false =>
    refine pureC_of_run TS1_ok (kdP A1).rs (phi_runF x) (fun _ h => by cases h) (valsC1 (kdP A1) _) ?_
    show ((κF1 (φ (κF1 (φ x.1)) * φ betaN), κF1 (φ x.2)), false) = ((κF1 (φ x.1 * φ betaN), κF1 (φ x.2)), false)
    rw [φκ]
theorem psi_runF (x : A2) : run1 TS1 34 [wP (x, false)] [] = some (.one (wP ((mul2 (conj2 (red2 x.1)) psX, mul2 (conj2 (red2 x.2)) psY), false)), []) := by kernel_rfl
theorem psi_runT (x : A2) : run1 TS1 34 [wP (x, true)] [] = some (.one (wP ((mul2 (conj2 (0, 0)) psX, mul2 (conj2 (0, 0)) psY), true)), []) := by kernel_rfl
theorem sub_psi (p : P2) : Pure Try.prog 34 [wpv p] (wpv (psiN p)) := by
  obtain ⟨x, b⟩ := p
  cases b with
  | true =>
    refine pureC_of_run TS1_ok (kdP A2).rs (psi_runT x) (fun _ h => by cases h) (valsC1 (kdP A2) _) ?_
    have e1 : mul2 (conj2 (0, 0)) psX = (0, 0) := by decide +kernel
    have e2 : mul2 (conj2 (0, 0)) psY = (0, 0) := by decide +kernel
    rw [e1, e2]; rfl
  | false =>
    refine pureC_of_run TS1_ok (kdP A2).rs (psi_runF x) (fun _ h => by cases h) (valsC1 (kdP A2) _) ?_
    show ((mul2 (conj2 (red2 x.1)) psX, mul2 (conj2 (red2 x.2)) psY), false) = ((κ2 ((ι2 x.1).conj * ι2 psX), κ2 ((ι2 x.2).conj * ι2 psY)), false)
    simp only [mul2, conj2, red2, ικ2]
noncomputable def clr1 (p : P1) : P1 × Int := mulR1 p c1Num
noncomputable def clr2 (p : P2) : P2 × Int := mulR2 p c2Num
theorem clear1_run (p : P1) : run1 TS1 26 [wP p] [] = some (rsM1.sv (mulR1 p (numW c1Ws % pw 1)), (1 < 4294967296) :: okW c1Ws) := by kernel_rfl
theorem clear2_run (p : P2) : run1 TS1 27 [wP p] [] = some (rsM2.sv (mulR2 p (numW c2Ws % pw 10)), (10 < 4294967296) :: okW c2Ws) := by kernel_rfl
theorem sub_clear1 (p : P1) : Pure Try.prog 26 [wpv p] (rsM1.vl (clr1 p)) :=
  pureC_of_run TS1_ok rsM1 (clear1_run p) (all_cons (by omega) (okW_ok (by decide +kernel))) (valsC1 (kdP A1) p) (by rw [c1Ws_num]; rfl)
theorem sub_clear2 (p : P2) : Pure Try.prog 27 [wpv p] (rsM2.vl (clr2 p)) :=
  pureC_of_run TS1_ok rsM2 (clear2_run p) (all_cons (by omega) (okW_ok (by decide +kernel))) (valsC1 (kdP A2) p) (by rw [c2Ws_num]; rfl)
noncomputable def rowsSb : List Row :=
  rowC1 (kdP A1) (kdP A1).rs 38 phiN ::
  rowC1 (kdP A2) (kdP A2).rs 34 psiN ::
  rowC1 (kdP A1) rsM1 26 clr1 ::
  rowC1 (kdP A2) rsM2 27 clr2 ::
  [rowC1 (kdP A1) kdB.rs 28 inB1, rowC1 (kdP A2) kdB.rs 30 inB2]
theorem rowsSb_ok : ∀ r ∈ rowsSb, RowOk Try.prog r := by
  unfold rowsSb
  refine List.forall_mem_cons.2 ⟨rowC1_ok sub_phi, ?_⟩
  refine List.forall_mem_cons.2 ⟨rowC1_ok sub_psi, ?_⟩
  refine List.forall_mem_cons.2 ⟨rowC1_ok sub_clear1, ?_⟩
  refine List.forall_mem_cons.2 ⟨rowC1_ok sub_clear2, ?_⟩
  simp only [List.forall_mem_cons, List.not_mem_nil, false_imp_iff, implies_true, and_true]
  exact ⟨rowC1_ok sub_in1, rowC1_ok sub_in2⟩
noncomputable def TSb : CallT := orT (tableT rowsSb) TS1
theorem TSb_ok : CallOk Try.prog TSb := orT_ok (tableT_ok rowsSb_ok) TS1_ok
end Go.Proofs.Ythceokldlinjlaa
