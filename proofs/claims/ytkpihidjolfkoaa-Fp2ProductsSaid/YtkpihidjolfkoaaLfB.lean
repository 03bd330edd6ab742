/-
  Leaves, 11: fp.Inv.
-/
import Derived.Test.YtkpihidjolfkoaaLfA
import Derived.Test.YtkpihidjolfkoaaEngN
namespace Go.Proofs.Ytkpihidjolfkoaa
open Go Go.Eng Go.RowKit Go.Wd

/-! ### fp.minusOf -/
theorem minus_run (u v : Nat) : run1 (tableT rowsA) 81 [W6 u, W6 v] [] = some (.one ⟨true, (List.range 6).map fun j => .v (.int .u64 ((bd (dg u) (dg v) j : Nat) : Int))⟩, (List.range 6).map (subOb (dg u) (dg v))) := by kernel_rfl
theorem minus_pure (u v : Nat) (hu : u < M6) (hvu : v ≤ u) : Pure Try.prog 81 [.agg (words 6 u).toArray, .agg (words 6 v).toArray] (.agg (words 6 (u - v)).toArray) := by
  have hs := num_bd (x := dg u) (y := dg v) 6 (fun i _ => dg_lt _ _) (fun i _ => dg_lt _ _)
  rw [num_dg6 hu, num_dg6 (Nat.lt_of_le_of_lt hvu hu)] at hs
  have hl : num (bd (dg u) (dg v)) 6 < M6 := num_lt (d := bd (dg u) (dg v)) 6 fun i _ => bd_lt _ _ i
  have hb := bw_le (dg u) (dg v) 6
  have hc : bw (dg u) (dg v) 6 = 0 := by
    rcases Nat.eq_zero_or_pos (bw (dg u) (dg v) 6) with h | h
    · exact h
    · have h1 : bw (dg u) (dg v) 6 = 1 := by omega
      rw [h1, Nat.one_mul] at hs
      have e : M6 = pw 6 := rfl
      omega
  rw [hc, Nat.zero_mul, Nat.add_zero] at hs
  have hn : num (bd (dg u) (dg v)) 6 = u - v := by omega
  refine pure_of_run1 (tableT_ok rowsA_ok) (minus_run u v) ?_ (by simp only [vals, val_W6]) fun ρ z hz => ?_
  · intro q hq
    obtain ⟨i, _, rfl⟩ := List.mem_map.1 hq
    exact subOb_ok _ _ _
  · have hz : AV.val ρ ⟨true, (List.range 6).map fun j => .v (.int .u64 ((bd (dg u) (dg v) j : Nat) : Int))⟩ = some z := hz
    obtain ⟨ws, h1, rfl⟩ := val_agg hz
    have e3 : ((List.range 6).map fun j => It.v (.int .u64 ((bd (dg u) (dg v) j : Nat) : Int))) = ((List.range 6).map fun j => Value.int .u64 ((bd (dg u) (dg v) j : Nat) : Int)).map It.v := by rw [List.map_map]; rfl
    rw [e3, val_plain ρ _ (fun v hv => by obtain ⟨i, _, rfl⟩ := List.mem_map.1 hv; rfl), ← words_map 6 (fun i _ => bd_lt _ _ i), hn] at h1
    cases h1; rfl
def minusRow : Row where
  f := 81
  ans := fun
    | [⟨true, l⟩, ⟨true, m⟩] => match asW6 l, asW6 m with
      | some (n, ob), some (n', ob') => some (.one (W6 (n - n')), (n < M6 ∧ n' ≤ n) :: (ob ++ ob'))
      | _, _ => none
    | _ => none
theorem minusRow_ok : RowOk Try.prog minusRow := by
  intro args s ob ha hob ρ vs hv
  unfold minusRow at ha
  simp only at ha
  split at ha
  · rename_i l m
    split at ha
    · rename_i n ob1 n' ob2 hn hm
      cases ha
      obtain ⟨h1', h2'⟩ := hob _ (List.mem_cons_self)
      obtain ⟨v1, us, h1, h2, rfl⟩ := vals_cons hv
      obtain ⟨v2, us', h3, h4, rfl⟩ := vals_cons h2
      cases h4
      obtain ⟨ws, hw, rfl⟩ := val_agg h1
      obtain ⟨ws', hw', rfl⟩ := val_agg h3
      have e := asW6_ok hn (fun p hp => hob p (List.mem_cons_of_mem _ (List.mem_append_left _ hp))) hw
      have e' := asW6_ok hm (fun p hp => hob p (List.mem_cons_of_mem _ (List.mem_append_right _ hp))) hw'
      subst e; subst e'
      exact ⟨_, val_W6 rho0 _, minus_pure n n' h1' h2'⟩
    · cases ha
  · cases ha

/-! ### fp.Inv: runs -/
noncomputable def dI0 : Fn1 := match fn1 66 with
  | some d => d
  | none => ⟨.skip, [], 0⟩
theorem dI0_ok : FnOk Try.prog 66 dI0 := fn1_ok _ _ (by kernel_rfl)
noncomputable def TB (q : Nat) : CallT := orT (tableT (pRowQ q :: minusRow :: rowsA)) (orT evenT cmpT)
theorem TB_ok (q : Nat) : CallOk Try.prog (TB q) := orT_ok (tableT_ok (by simp only [List.forall_mem_cons]; exact ⟨pQ_ok q, minusRow_ok, rowsA_ok⟩)) (orT_ok evenT_ok cmpT_ok)
noncomputable def EB (q : Nat) : Eng := { tab := tyTab, call := callN tyTab (TB q) fn1 1000 6, N := 47 }
theorem callB (q : Nat) : CallOk Try.prog (EB q).call := callN_ok mixed tyTab_ok (TB_ok q) fn1_ok 1000 6
theorem tabB (q : Nat) : ∀ t d, (EB q).tab t = some d → TyOk Try.prog t d := tyTab_ok
noncomputable def cB1 : Code := seqL dI0.body
noncomputable def cB2 : Code := seqL (seqR dI0.body)
noncomputable def cB3 : Code := seqL (seqR (seqR dI0.body))
noncomputable def cB4 : Code := seqL (seqR (seqR (seqR dI0.body)))
noncomputable def cB5 : Code := seqL (seqR (seqR (seqR (seqR dI0.body))))
noncomputable def cBL : Code := loopIn (blockIn (seqR (seqR (seqR (seqR (seqR dI0.body))))))
theorem dI0_body : dI0.body = .seq cB1 (.seq cB2 (.seq cB3 (.seq cB4 (.seq cB5 (.block 0 (.loop cBL)))))) := by kernel_rfl
theorem dI0_ntmps : dI0.ntmps = 47 := by kernel_rfl
theorem dI0_results : dI0.results = [.cell 2 24] := by kernel_rfl
def oneL : List It := [.v (.int .u64 1), .v (.int .u64 0), .v (.int .u64 0), .v (.int .u64 0), .v (.int .u64 0), .v (.int .u64 0)]
def stB (r : Nat) (u v : Nat) (x : List It) (y : Nat) (o : List It) : St := [(4, spt 17), (6, spt 21), (8, spt 22), (10, spt 27), (12, spt 28), (14, spt 35), (35, .bl [.w 6 r]), (43, .bl [.w 6 u]), (45, .bl [.w 6 v]), (55, .bl x), (57, .bl [.w 6 y]), (71, .bl o)]
def stI (u v x y : Nat) : St := stB 0 u v [.w 6 x] y [.w 6 1]
def stR (r : Nat) : St := [(4, spt 17), (35, .bl [.w 6 r])]
noncomputable def inB (a : Nat) : St := initSlots 0 [W6 a] (47 - [W6 a].length) ++ []
def zeroO (a : Nat) (b : Bool) : Prop := plainVals [.w 6 (rd a)] = plainVals [.w 6 0] ↔ b = true
def oneO (n : Nat) (b : Bool) : Prop := plainVals [.w 6 n] = plainVals [.w 6 1] ↔ b = true
theorem invZ (a q : Nat) : probes (EB q) 100 [cB1, cB2, cB3, cB4] (inB a) 16 [(15, true)] ((stR (rd a)).map (·.1)) = some (1, [q = pN, zeroO a true], (stR (rd a)).map fun p => some p.2) := by kernel_rfl
theorem invS (a q : Nat) : probes (EB q) 100 [cB1, cB2, cB3, cB4, cB5] (inB a) 16 [(15, false)] ((stB 0 (rd a) q oneL 0 oneL).map (·.1)) = some (0, [q = pN, zeroO a false], (stB 0 (rd a) q oneL 0 oneL).map fun p => some p.2) := by kernel_rfl
def evO (u x v y : Nat) : List Prop := [0 < u ∧ u < M6 ∧ x < M6, 0 < v ∧ v < M6 ∧ y < M6]
theorem inv1 (u v x y : Nat) : probe (EB 0) 100 cBL (stI u v x y) 40 [(29, true)] ((stR (evN u x).2).map (·.1)) = some (1, evO u x v y ++ [oneO (evN u x).1 true], (stR (evN u x).2).map fun p => some p.2) := by kernel_rfl
theorem inv2 (u v x y : Nat) : probe (EB 0) 100 cBL (stI u v x y) 40 [(29, false), (34, true)] ((stR (evN v y).2).map (·.1)) = some (1, evO u x v y ++ [oneO (evN u x).1 false, oneO (evN v y).1 true], (stR (evN v y).2).map fun p => some p.2) := by kernel_rfl
def stI3 (u v x y : Nat) : St := stI ((evN u x).1 - (evN v y).1) (evN v y).1 (subN (evN u x).2 (evN v y).2) (evN v y).2
def stI4 (u v x y : Nat) : St := stI (evN u x).1 ((evN v y).1 - (evN u x).1) (evN u x).2 (subN (evN v y).2 (evN u x).2)
def cmpO (u x v y : Nat) (b : Bool) : List Prop := [(evN u x).1 < M6 ∧ (evN v y).1 < M6, cmpI (evN u x).1 (evN v y).1 ≥ 0 ↔ b = true]
theorem inv3 (u v x y : Nat) : probe (EB 0) 100 cBL (stI u v x y) 40 [(29, false), (34, false), (40, true)] ((stI3 u v x y).map (·.1)) =
  some (0, evO u x v y ++ [oneO (evN u x).1 false, oneO (evN v y).1 false] ++ cmpO u x v y true ++ [(evN u x).1 < M6 ∧ (evN v y).1 ≤ (evN u x).1], (stI3 u v x y).map fun p => some p.2) := by kernel_rfl
theorem inv4 (u v x y : Nat) : probe (EB 0) 100 cBL (stI u v x y) 40 [(29, false), (34, false), (40, false)] ((stI4 u v x y).map (·.1)) =
  some (0, evO u x v y ++ [oneO (evN u x).1 false, oneO (evN v y).1 false] ++ cmpO u x v y false ++ [(evN v y).1 < M6 ∧ (evN u x).1 ≤ (evN v y).1], (stI4 u v x y).map fun p => some p.2) := by kernel_rfl
end Go.Proofs.Ytkpihidjolfkoaa
