/-
  Leaves, 5: the inner step of Montgomery's product: a number of eight words and x times one of six, shifted by a word or not.
-/
import Derived.Test.YtkpihidjolfkoaaLf4
import Derived.Test.YtkpihidjolfkoaaEngM
namespace Go.Proofs.Ytkpihidjolfkoaa
open Go Go.Eng Go.RowKit Go.Wd

noncomputable def E5 : Eng := { tab := tyTab, call := callN tyTab (tableT rows5) fn1 1000 6, N := 70 }
noncomputable def dS : Fn1 := match fn1 82 with
  | some d => d
  | none => ⟨.skip, [], 0⟩
theorem dS_ok : FnOk Try.prog 82 dS := fn1_ok _ _ (by kernel_rfl)
noncomputable def cSa : Code := seqL dS.body
noncomputable def cSb : Code := seqL (seqL (seqR dS.body))
noncomputable def cSL : Code := loopIn (blockIn (seqR (seqL (seqR dS.body))))
noncomputable def cS2 : Code := seqR (seqR dS.body)
theorem dS_body : dS.body = .seq cSa (.seq (.seq cSb (.block 0 (.loop cSL))) cS2) := by kernel_rfl
theorem dS_ntmps : dS.ntmps = 70 := by kernel_rfl
theorem dS_results : dS.results = [] := by kernel_rfl

def su (n : Int) : Ct := .sl (vI .u64 n)
def si (n : Nat) : Ct := .sl (vI .i64 (n : Int))
def spt (id : Nat) : Ct := .sl (it1 (.p id 0))
def row8 (t : Nat → Int) : Ct := .bl ((List.range 8).map fun j => .v (.int .u64 (t j)))
/-- The state at the loop's head. -/
def stS (x s M i : Nat) (t : Nat → Int) (c : Int) : St :=
  [(0, su x), (2, spt 16), (4, si s), (6, spt 17), (14, su c), (28, spt 16), (30, si i), (33, .bl [.w 6 M]), (35, row8 t)]
def lo1 (x m c : Nat) : Nat := (x * m % 18446744073709551616 + c + 0) % 18446744073709551616
def tN (x m c t : Nat) : Nat := (t + lo1 x m c + 0) % 18446744073709551616
def cI (x m c t : Nat) : Int := IntKind.u64.wrap (IntKind.u64.wrap (((x * m / 18446744073709551616 : Nat) : Int) + (((x * m % 18446744073709551616 + c + 0) / 18446744073709551616 : Nat) : Int)) + (((t + lo1 x m c + 0) / 18446744073709551616 : Nat) : Int))
def updI (t : Nat → Nat) (i v : Nat) : Nat → Int := fun j => ((if j = i then v else t j : Nat) : Int)
def obS (x m c t : Nat) : List Prop := [(0 : Int) ≤ (x : Int) ∧ (x : Int) < 18446744073709551616 ∧ (0 : Int) ≤ (m : Int) ∧ (m : Int) < 18446744073709551616,
  (0 : Int) ≤ ((x * m % 18446744073709551616 : Nat) : Int) ∧ (0 : Int) ≤ (c : Int) ∧ (0 : Int) ≤ 0 ∧ (0 : Int) ≤ 1, (0 : Int) ≤ (t : Int) ∧ (0 : Int) ≤ (lo1 x m c : Int) ∧ (0 : Int) ≤ 0 ∧ (0 : Int) ≤ 1]
def StepAt (x s M i : Nat) (t : Nat → Nat) (c : Nat) : Prop := probe E5 100 cSL (stS x s M i (fun j => (t j : Int)) c) 18 [] ((stS x s M (i + 1) (updI t i (tN x (dg M i) c (t i))) (cI x (dg M i) c (t i))).map (·.1)) =
  some (0, obS x (dg M i) c (t i), (stS x s M (i + 1) (updI t i (tN x (dg M i) c (t i))) (cI x (dg M i) c (t i))).map fun p => some p.2)
theorem step0 (x s M : Nat) (t : Nat → Nat) (c : Nat) : probe E5 100 cSL (stS x s M 0 (fun j => (t j : Int)) c) 18 [] ((stS x s M 1 (updI t 0 (tN x (dg M 0) c (t 0))) (cI x (dg M 0) c (t 0))).map (·.1)) =
  some (0, obS x (dg M 0) c (t 0), (stS x s M 1 (updI t 0 (tN x (dg M 0) c (t 0))) (cI x (dg M 0) c (t 0))).map fun p => some p.2) := by kernel_rfl
theorem step1 (x s M : Nat) (t : Nat → Nat) (c : Nat) : probe E5 100 cSL (stS x s M 1 (fun j => (t j : Int)) c) 18 [] ((stS x s M 2 (updI t 1 (tN x (dg M 1) c (t 1))) (cI x (dg M 1) c (t 1))).map (·.1)) =
  some (0, obS x (dg M 1) c (t 1), (stS x s M 2 (updI t 1 (tN x (dg M 1) c (t 1))) (cI x (dg M 1) c (t 1))).map fun p => some p.2) := by kernel_rfl
theorem step2 (x s M : Nat) (t : Nat → Nat) (c : Nat) : probe E5 100 cSL (stS x s M 2 (fun j => (t j : Int)) c) 18 [] ((stS x s M 3 (updI t 2 (tN x (dg M 2) c (t 2))) (cI x (dg M 2) c (t 2))).map (·.1)) =
  some (0, obS x (dg M 2) c (t 2), (stS x s M 3 (updI t 2 (tN x (dg M 2) c (t 2))) (cI x (dg M 2) c (t 2))).map fun p => some p.2) := by kernel_rfl
theorem step3 (x s M : Nat) (t : Nat → Nat) (c : Nat) : probe E5 100 cSL (stS x s M 3 (fun j => (t j : Int)) c) 18 [] ((stS x s M 4 (updI t 3 (tN x (dg M 3) c (t 3))) (cI x (dg M 3) c (t 3))).map (·.1)) =
  some (0, obS x (dg M 3) c (t 3), (stS x s M 4 (updI t 3 (tN x (dg M 3) c (t 3))) (cI x (dg M 3) c (t 3))).map fun p => some p.2) := by kernel_rfl
theorem step4 (x s M : Nat) (t : Nat → Nat) (c : Nat) : probe E5 100 cSL (stS x s M 4 (fun j => (t j : Int)) c) 18 [] ((stS x s M 5 (updI t 4 (tN x (dg M 4) c (t 4))) (cI x (dg M 4) c (t 4))).map (·.1)) =
  some (0, obS x (dg M 4) c (t 4), (stS x s M 5 (updI t 4 (tN x (dg M 4) c (t 4))) (cI x (dg M 4) c (t 4))).map fun p => some p.2) := by kernel_rfl
theorem step5 (x s M : Nat) (t : Nat → Nat) (c : Nat) : probe E5 100 cSL (stS x s M 5 (fun j => (t j : Int)) c) 18 [] ((stS x s M 6 (updI t 5 (tN x (dg M 5) c (t 5))) (cI x (dg M 5) c (t 5))).map (·.1)) =
  some (0, obS x (dg M 5) c (t 5), (stS x s M 6 (updI t 5 (tN x (dg M 5) c (t 5))) (cI x (dg M 5) c (t 5))).map fun p => some p.2) := by kernel_rfl
theorem step6 (x s M : Nat) (t : Nat → Nat) (c : Nat) : probe E5 100 cSL (stS x s M 6 (fun j => (t j : Int)) c) 18 [] ((stS x s M 6 (fun j => (t j : Int)) c).map (·.1)) =
  some (2, [], (stS x s M 6 (fun j => (t j : Int)) c).map fun p => some p.2) := by kernel_rfl
theorem stepAt (x s M i : Nat) (hi : i < 6) (t : Nat → Nat) (c : Nat) : StepAt x s M i t c := by
  have : i = 0 ∨ i = 1 ∨ i = 2 ∨ i = 3 ∨ i = 4 ∨ i = 5 := by omega
  rcases this with rfl | rfl | rfl | rfl | rfl | rfl
  · exact step0 x s M t c
  · exact step1 x s M t c
  · exact step2 x s M t c
  · exact step3 x s M t c
  · exact step4 x s M t c
  · exact step5 x s M t c
/-- The head. -/
def in4 (x s : Nat) : List AV := [uw x, ⟨false, [.p 16 0]⟩, ⟨false, [.v (.int .i64 (s : Int))]⟩, ⟨false, [.p 17 0]⟩]
def stH (x s M T : Nat) : St := [(0, su x), (2, spt 16), (4, si s), (6, spt 17), (14, su 0), (33, .bl [.w 6 M]), (35, .bl [.w 8 T])]
theorem headA (x s M T : Nat) : probe E5 100 cSa (initSlots 0 (in4 x s) 66 ++ mem2 [.w 6 M] [.w 8 T]) 18 [] ((stH x s M T).map (·.1)) = some (0, [], (stH x s M T).map fun p => some p.2) := by kernel_rfl
def stH8 (x s M T : Nat) : St := [(0, su x), (2, spt 16), (4, si s), (6, spt 17), (14, su 0), (28, spt 16), (30, si 0), (33, .bl [.w 6 M]), (35, .bl [.w 8 T])]
theorem headB (x s M T : Nat) : probe E5 100 cSb (stH x s M T) 18 [] ((stH8 x s M T).map (·.1)) = some (0, [], (stH8 x s M T).map fun p => some p.2) := by kernel_rfl
/-- The end: shifted by nothing, by a word. -/
def endT (t : Nat → Nat) (c : Nat) (j : Nat) : Int := if j < 6 then (t j : Int) else if j = 6 then (((t 6 + c + 0) % 18446744073709551616 : Nat) : Int) else IntKind.u64.wrap ((t 7 : Int) + (((t 6 + c + 0) / 18446744073709551616 : Nat) : Int))
def endSt (M : Nat) (t : Nat → Int) : St := [(33, .bl [.w 6 M]), (35, row8 t)]
theorem end0 (x M : Nat) (t : Nat → Nat) (c : Nat) : probe E5 100 cS2 (stS x 0 M 6 (fun j => (t j : Int)) c) 18 [] ((endSt M (endT t c)).map (·.1)) =
  some (0, [(0 : Int) ≤ (t 6 : Int) ∧ (0 : Int) ≤ (c : Int) ∧ (0 : Int) ≤ 0 ∧ (0 : Int) ≤ 1], (endSt M (endT t c)).map fun p => some p.2) := by kernel_rfl
theorem end1 (x M : Nat) (t : Nat → Nat) (c : Nat) : probe E5 100 cS2 (stS x 1 M 6 (fun j => (t j : Int)) c) 18 [] ((endSt M (fun j => if j < 7 then endT t c (j + 1) else 0)).map (·.1)) =
  some (0, [(0 : Int) ≤ (t 6 : Int) ∧ (0 : Int) ≤ (c : Int) ∧ (0 : Int) ≤ 0 ∧ (0 : Int) ≤ 1], (endSt M (fun j => if j < 7 then endT t c (j + 1) else 0)).map fun p => some p.2) := by kernel_rfl

end Go.Proofs.Ytkpihidjolfkoaa
