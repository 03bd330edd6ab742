/-
  No cell of these rows narrows 'for every input' (looked for: loops, veiled, ifaces, maps, wideKeys, modest, calm, conditions, laid).
  DERIVED. THE GIVEN ROWS OF THIS SEAT. 2 by the template 'for every input the law returns true; each argument reads behind the call as it read before'; 0 by the template 'total and deterministic' (their statements: YtcidhcielgnfdaaGreatTotals.lean).
  GIVEN WITH THE SEED: the statements are not yours to turn. If you find one false, say at which input.
  Laid BY PROGRAM, IN A SANDBOX (cutbox-rows.mjs): the forced cells as the released guide's own fill.sh prints them over the translation 87c48bb2ce987d27… (all of the seat's roots in one cut). By AI agents, Wed Nov 11 2026. No macro, syntax, notation, axiom, sorry.
-/
import Derived.Test.YtcidhcielgnfdaaGreatChecked
import GoSem.Claim
import GoSem.ClaimJoined
import GoSem.ClaimMapViews
import Derived.JoinedTies
import Derived.KernelRfl
namespace Go.Proofs.YtcidhcielgnfdaaGreat
/- THE CELL 'sum', in the pinned program and in every row, IS THE sha256 OF THE DUMP (.gsa) THAT YtcidhcielgnfdaaGreatProg.lean LOADS. Nothing in Lean hashes anything: it is a label: what it is worth is what the hold of that sum in a sandbox is worth. -/
noncomputable def Tryz.pinned : Pinned := { name := "ytcidhcielgnfdaagreat", sum := "87c48bb2ce987d27c74dfdb6504d3d4b05bf54b9f6cf7071998bfd47eb725f32", checked := Tryz.checked }
namespace Rows
def none {H : Type} : Left H := { results := [], args := [] }

/-- 'sigillaw16.PairingFinals': WHATEVER THE INPUT: true; the input reads as it did. -/
def pairingFinalsSpec : ChangeSpec := { name := "pairingFinals", fn := fun _ => fun
  | [d] => { results := [.lit (.bool true)], args := [d] }
  | _ => none }
def pairingFinalsRow : OpenClaim := { program := "ytcidhcielgnfdaagreat", sum := "87c48bb2ce987d27c74dfdb6504d3d4b05bf54b9f6cf7071998bfd47eb725f32", func := "sigil/sigillaw16.PairingFinals", spec := "pairingFinals", inPlace := ["math/bits.Sub64", "math/bits.Add64"], unfollowed := true, recurses := true, named := ["math/bits.divideError", "math/bits.overflowError"], apart := false }
def PairingFinalsSaid : Prop := pairingFinalsRow.holds Tryz.pinned (OpenSpec.ofChange pairingFinalsSpec)

/-- ITS FALSE NEIGHBOUR: 'it returns false'. Refute it at one input. -/
def pairingFinalsWrong : ChangeSpec := { name := "pairingFinals", fn := fun _ => fun
  | [d] => { results := [.lit (.bool false)], args := [d] }
  | _ => none }
def PairingFinalsWrongFalsely : Prop := pairingFinalsRow.holds Tryz.pinned (OpenSpec.ofChange pairingFinalsWrong)

/-- 'sigillaw16.PairingPairs': WHATEVER THE INPUT: true; the input reads as it did. -/
def pairingPairsSpec : ChangeSpec := { name := "pairingPairs", fn := fun _ => fun
  | [d1, d2] => { results := [.lit (.bool true)], args := [d1, d2] }
  | _ => none }
def pairingPairsRow : OpenClaim := { program := "ytcidhcielgnfdaagreat", sum := "87c48bb2ce987d27c74dfdb6504d3d4b05bf54b9f6cf7071998bfd47eb725f32", func := "sigil/sigillaw16.PairingPairs", spec := "pairingPairs", inPlace := ["math/bits.Sub64", "math/bits.Add64"], unfollowed := true, recurses := true, named := ["math/bits.divideError", "math/bits.overflowError"], apart := false }
def PairingPairsSaid : Prop := pairingPairsRow.holds Tryz.pinned (OpenSpec.ofChange pairingPairsSpec)

/-- ITS FALSE NEIGHBOUR: 'it returns false'. Refute it at one input. -/
def pairingPairsWrong : ChangeSpec := { name := "pairingPairs", fn := fun _ => fun
  | [d1, d2] => { results := [.lit (.bool false)], args := [d1, d2] }
  | _ => none }
def PairingPairsWrongFalsely : Prop := pairingPairsRow.holds Tryz.pinned (OpenSpec.ofChange pairingPairsWrong)

/- THE SECOND FORM. 'bulk': how many values and letters a reading holds, each counted each time it is reached (what is shared counts as often as it is met; a slice's spare places count too). A statement '..UptoSaid' is the law's where the arguments, and the package variables that the reading takes, are together of bulk at most 1048576: NARROWER than '..Said'. Prove '..Said' where nothing that the law and all that it calls make is longer than what came in: it says more and counts as full. Else prove '..UptoSaid'. A law counts once. -/
mutual
def uptoBulk {H : Type} : DataW H → Nat
  | .lit (.string bytes) => bytes.length + 1
  | .lit _ => 1
  | .nil => 1
  | .ptr d => uptoBulk d + 1
  | .slice elems spare => uptoBulkAll elems + uptoBulkAll spare + 1
  | .agg parts => uptoBulkAll parts + 1
  | .iface _ d => uptoBulk d + 1
  | .map entries => uptoBulkEntries entries + 1
  | .held _ => 1
def uptoBulkAll {H : Type} : List (DataW H) → Nat
  | [] => 0
  | d :: r => uptoBulk d + uptoBulkAll r
def uptoBulkEntries {H : Type} : List (Lit × DataW H) → Nat
  | [] => 0
  | x :: r => uptoBulkEntry x + uptoBulkEntries r
def uptoBulkEntry {H : Type} : Lit × DataW H → Nat
  | (.string bytes, d) => bytes.length + uptoBulk d + 1
  | (_, d) => uptoBulk d + 1
 end
def uptoSmall : (H : Type) → List (DataW H) → Bool := fun _ ds => decide (uptoBulkAll ds ≤ 1048576)
def OpenSpec.upto (s : _root_.Go.ChangeSpec) : _root_.Go.OpenSpec := { _root_.Go.OpenSpec.ofChange s with cond := some uptoSmall }

/-- 'sigillaw16.PairingFinals', WHERE WHAT IT READS IS OF BULK AT MOST 1048576: true; the input reads as it did. -/
def pairingFinalsUptoRow : OpenClaim := { program := "ytcidhcielgnfdaagreat", sum := "87c48bb2ce987d27c74dfdb6504d3d4b05bf54b9f6cf7071998bfd47eb725f32", func := "sigil/sigillaw16.PairingFinals", spec := "pairingFinals", inPlace := ["math/bits.Sub64", "math/bits.Add64"], unfollowed := true, recurses := true, named := ["math/bits.divideError", "math/bits.overflowError"], apart := false, narrowed := true }
def PairingFinalsUptoSaid : Prop := pairingFinalsUptoRow.holds Tryz.pinned (OpenSpec.upto pairingFinalsSpec)

/-- 'sigillaw16.PairingPairs', WHERE WHAT IT READS IS OF BULK AT MOST 1048576: true; the input reads as it did. -/
def pairingPairsUptoRow : OpenClaim := { program := "ytcidhcielgnfdaagreat", sum := "87c48bb2ce987d27c74dfdb6504d3d4b05bf54b9f6cf7071998bfd47eb725f32", func := "sigil/sigillaw16.PairingPairs", spec := "pairingPairs", inPlace := ["math/bits.Sub64", "math/bits.Add64"], unfollowed := true, recurses := true, named := ["math/bits.divideError", "math/bits.overflowError"], apart := false, narrowed := true }
def PairingPairsUptoSaid : Prop := pairingPairsUptoRow.holds Tryz.pinned (OpenSpec.upto pairingPairsSpec)

end Rows
end Go.Proofs.YtcidhcielgnfdaaGreat
