/-
  No cell of these rows narrows 'for every input' (looked for: loops, veiled, ifaces, maps, wideKeys, modest, calm, conditions, laid).
  DERIVED. THE GIVEN ROWS OF THIS SEAT. 2 by the template 'for every input the law returns true; each argument reads behind the call as it read before'; 0 by the template 'total and deterministic' (their statements: YtcafpgpahbplaaaGreatTotals.lean).
  GIVEN WITH THE SEED: the statements are not yours to turn. If you find one false, say at which input.
  Laid BY PROGRAM, IN A SANDBOX (cutbox-rows.mjs): the forced cells as the released guide's own fill.sh prints them over the translation 232bf694579f30c2… (all of the seat's roots in one cut). By AI agents, Wed Nov 11 2026. No macro, syntax, notation, axiom, sorry.
-/
import Derived.Test.YtcafpgpahbplaaaGreatChecked
import GoSem.Claim
import GoSem.ClaimJoined
import GoSem.ClaimMapViews
import Derived.JoinedTies
import Derived.KernelRfl
namespace Go.Proofs.YtcafpgpahbplaaaGreat
/- THE CELL 'sum', in the pinned program and in every row, IS THE sha256 OF THE DUMP (.gsa) THAT YtcafpgpahbplaaaGreatProg.lean LOADS. Nothing in Lean hashes anything: it is a label: what it is worth is what the hold of that sum in a sandbox is worth. -/
noncomputable def Tryz.pinned : Pinned := { name := "ytcafpgpahbplaaagreat", sum := "232bf694579f30c2738f0849491cb33dae79e660c31431f8ad665d6ab8b4d733", checked := Tryz.checked }
namespace Rows
def none {H : Type} : Left H := { results := [], args := [] }

/-- 'sigiltop.TopAsks': WHATEVER THE INPUT: true; the input reads as it did. -/
def topAsksSpec : ChangeSpec := { name := "topAsks", fn := fun _ => fun
  | [d1, d2, d3] => { results := [.lit (.bool true)], args := [d1, d2, d3] }
  | _ => none }
def topAsksRow : OpenClaim := { program := "ytcafpgpahbplaaagreat", sum := "232bf694579f30c2738f0849491cb33dae79e660c31431f8ad665d6ab8b4d733", func := "sigil/sigiltop.TopAsks", spec := "topAsks", inPlace := ["math/bits.Add64", "math/bits.Sub64"], unfollowed := true, recurses := true, named := ["math/bits.divideError", "math/bits.overflowError"], apart := false }
def TopAsksSaid : Prop := topAsksRow.holds Tryz.pinned (OpenSpec.ofChange topAsksSpec)

/-- ITS FALSE NEIGHBOUR: 'it returns false'. Refute it at one input. -/
def topAsksWrong : ChangeSpec := { name := "topAsks", fn := fun _ => fun
  | [d1, d2, d3] => { results := [.lit (.bool false)], args := [d1, d2, d3] }
  | _ => none }
def TopAsksWrongFalsely : Prop := topAsksRow.holds Tryz.pinned (OpenSpec.ofChange topAsksWrong)

/-- 'sigiltop.TopOne': WHATEVER THE INPUT: true; the input reads as it did. -/
def topOneSpec : ChangeSpec := { name := "topOne", fn := fun _ => fun
  | [d1, d2, d3] => { results := [.lit (.bool true)], args := [d1, d2, d3] }
  | _ => none }
def topOneRow : OpenClaim := { program := "ytcafpgpahbplaaagreat", sum := "232bf694579f30c2738f0849491cb33dae79e660c31431f8ad665d6ab8b4d733", func := "sigil/sigiltop.TopOne", spec := "topOne", inPlace := ["math/bits.Add64", "math/bits.Sub64"], unfollowed := true, recurses := true, named := ["math/bits.divideError", "math/bits.overflowError"], apart := false }
def TopOneSaid : Prop := topOneRow.holds Tryz.pinned (OpenSpec.ofChange topOneSpec)

/-- ITS FALSE NEIGHBOUR: 'it returns false'. Refute it at one input. -/
def topOneWrong : ChangeSpec := { name := "topOne", fn := fun _ => fun
  | [d1, d2, d3] => { results := [.lit (.bool false)], args := [d1, d2, d3] }
  | _ => none }
def TopOneWrongFalsely : Prop := topOneRow.holds Tryz.pinned (OpenSpec.ofChange topOneWrong)

/- THE SECOND FORM. 'bulk': how many values and letters a reading holds, each counted each time it is reached (what is shared counts as often as it is met; a slice's spare places count too). A statement '..UptoSaid' is the law's where the arguments, and the package variables that the reading takes, are together of bulk at most 1048576: NARROWER than '..Said'. Prove '..Said' where nothing that the law and all that it calls make is longer than what came in: it says more and counts as full. Else prove '..UptoSaid'. A law counts once. -/
mutual
def uptoBulk {H : Type} : DataW H → Nat
  | .lit (.string bytes) => bytes.length + 1
  | .lit _ => 1
  | .nil => 1
  | .ptr d => uptoBulk d + 1
  | .slice elems spare => uptoBulkAll elems + uptoBulkAll spare + 1
  | .agg parts => uptoBulkAll parts + 1
  | .iface _ d => uptoBulk d + 1
  | .map entries => uptoBulkEntries entries + 1
  | .held _ => 1
def uptoBulkAll {H : Type} : List (DataW H) → Nat
  | [] => 0
  | d :: r => uptoBulk d + uptoBulkAll r
def uptoBulkEntries {H : Type} : List (Lit × DataW H) → Nat
  | [] => 0
  | x :: r => uptoBulkEntry x + uptoBulkEntries r
def uptoBulkEntry {H : Type} : Lit × DataW H → Nat
  | (.string bytes, d) => bytes.length + uptoBulk d + 1
  | (_, d) => uptoBulk d + 1
 end
def uptoSmall : (H : Type) → List (DataW H) → Bool := fun _ ds => decide (uptoBulkAll ds ≤ 1048576)
def OpenSpec.upto (s : _root_.Go.ChangeSpec) : _root_.Go.OpenSpec := { _root_.Go.OpenSpec.ofChange s with cond := some uptoSmall }

/-- 'sigiltop.TopAsks', WHERE WHAT IT READS IS OF BULK AT MOST 1048576: true; the input reads as it did. -/
def topAsksUptoRow : OpenClaim := { program := "ytcafpgpahbplaaagreat", sum := "232bf694579f30c2738f0849491cb33dae79e660c31431f8ad665d6ab8b4d733", func := "sigil/sigiltop.TopAsks", spec := "topAsks", inPlace := ["math/bits.Add64", "math/bits.Sub64"], unfollowed := true, recurses := true, named := ["math/bits.divideError", "math/bits.overflowError"], apart := false, narrowed := true }
def TopAsksUptoSaid : Prop := topAsksUptoRow.holds Tryz.pinned (OpenSpec.upto topAsksSpec)

/-- 'sigiltop.TopOne', WHERE WHAT IT READS IS OF BULK AT MOST 1048576: true; the input reads as it did. -/
def topOneUptoRow : OpenClaim := { program := "ytcafpgpahbplaaagreat", sum := "232bf694579f30c2738f0849491cb33dae79e660c31431f8ad665d6ab8b4d733", func := "sigil/sigiltop.TopOne", spec := "topOne", inPlace := ["math/bits.Add64", "math/bits.Sub64"], unfollowed := true, recurses := true, named := ["math/bits.divideError", "math/bits.overflowError"], apart := false, narrowed := true }
def TopOneUptoSaid : Prop := topOneUptoRow.holds Tryz.pinned (OpenSpec.upto topOneSpec)

end Rows
end Go.Proofs.YtcafpgpahbplaaaGreat
