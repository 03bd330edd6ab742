/-
  No cell of these rows narrows 'for every input' (looked for: loops, veiled, ifaces, maps, wideKeys, modest, calm, conditions, laid).
  DERIVED. THE GIVEN ROWS OF THIS SEAT. 6 by the template 'for every input the law returns true; each argument reads behind the call as it read before'; 0 by the template 'total and deterministic' (their statements: YtfgbkanbppehgaaTotals.lean).
  GIVEN WITH THE SEED: the statements are not yours to turn. If you find one false, say at which input.
  Laid BY PROGRAM, IN A SANDBOX (cutbox-rows.mjs): the forced cells as the released guide's own fill.sh prints them over the translation b575a8ed575cf1e2… (all of the seat's roots in one cut). By AI agents, Wed Nov 11 2026. No macro, syntax, notation, axiom, sorry.
-/
import Derived.Test.YtfgbkanbppehgaaChecked
import GoSem.Claim
import GoSem.ClaimJoined
import GoSem.ClaimMapViews
import Derived.JoinedTies
import Derived.KernelRfl
namespace Go.Proofs.Ytfgbkanbppehgaa
/- THE CELL 'sum', in the pinned program and in every row, IS THE sha256 OF THE DUMP (.gsa) THAT YtfgbkanbppehgaaProg.lean LOADS. Nothing in Lean hashes anything: it is a label: what it is worth is what the hold of that sum in a sandbox is worth. -/
noncomputable def Try.pinned : Pinned := { name := "ytfgbkanbppehgaa", sum := "b575a8ed575cf1e201bd9b0fdea1906305ad25c68da39a367323861199c78f28", checked := Try.checked }
namespace Rows
def none {H : Type} : Left H := { results := [], args := [] }

/-- 'sigillaw16.PairingNames': WHATEVER THE INPUT: true; the input reads as it did. -/
def pairingNamesSpec : ChangeSpec := { name := "pairingNames", fn := fun _ => fun
  | [] => { results := [.lit (.bool true)], args := [] }
  | _ => none }
def pairingNamesRow : OpenClaim := { program := "ytfgbkanbppehgaa", sum := "b575a8ed575cf1e201bd9b0fdea1906305ad25c68da39a367323861199c78f28", func := "sigil/sigillaw16.PairingNames", spec := "pairingNames", inPlace := ["math/bits.Sub64", "math/bits.Add64"], unfollowed := true, recurses := true, apart := false }
def PairingNamesSaid : Prop := pairingNamesRow.holds Try.pinned (OpenSpec.ofChange pairingNamesSpec)

/-- ITS FALSE NEIGHBOUR: 'it returns false'. Refute it at one input. -/
def pairingNamesWrong : ChangeSpec := { name := "pairingNames", fn := fun _ => fun
  | [] => { results := [.lit (.bool false)], args := [] }
  | _ => none }
def PairingNamesWrongFalsely : Prop := pairingNamesRow.holds Try.pinned (OpenSpec.ofChange pairingNamesWrong)

/-- 'sigillaw16.PairingProducts': WHATEVER THE INPUT: true; the input reads as it did. -/
def pairingProductsSpec : ChangeSpec := { name := "pairingProducts", fn := fun _ => fun
  | [d1, d2] => { results := [.lit (.bool true)], args := [d1, d2] }
  | _ => none }
def pairingProductsRow : OpenClaim := { program := "ytfgbkanbppehgaa", sum := "b575a8ed575cf1e201bd9b0fdea1906305ad25c68da39a367323861199c78f28", func := "sigil/sigillaw16.PairingProducts", spec := "pairingProducts", inPlace := ["math/bits.Sub64", "math/bits.Add64"], unfollowed := true, recurses := true, apart := false }
def PairingProductsSaid : Prop := pairingProductsRow.holds Try.pinned (OpenSpec.ofChange pairingProductsSpec)

/-- ITS FALSE NEIGHBOUR: 'it returns false'. Refute it at one input. -/
def pairingProductsWrong : ChangeSpec := { name := "pairingProducts", fn := fun _ => fun
  | [d1, d2] => { results := [.lit (.bool false)], args := [d1, d2] }
  | _ => none }
def PairingProductsWrongFalsely : Prop := pairingProductsRow.holds Try.pinned (OpenSpec.ofChange pairingProductsWrong)

/-- 'sigillaw16.PairingOrders': WHATEVER THE INPUT: true; the input reads as it did. -/
def pairingOrdersSpec : ChangeSpec := { name := "pairingOrders", fn := fun _ => fun
  | [d1, d2, d3] => { results := [.lit (.bool true)], args := [d1, d2, d3] }
  | _ => none }
def pairingOrdersRow : OpenClaim := { program := "ytfgbkanbppehgaa", sum := "b575a8ed575cf1e201bd9b0fdea1906305ad25c68da39a367323861199c78f28", func := "sigil/sigillaw16.PairingOrders", spec := "pairingOrders", inPlace := ["math/bits.Sub64", "math/bits.Add64"], unfollowed := true, recurses := true, apart := false }
def PairingOrdersSaid : Prop := pairingOrdersRow.holds Try.pinned (OpenSpec.ofChange pairingOrdersSpec)

/-- ITS FALSE NEIGHBOUR: 'it returns false'. Refute it at one input. -/
def pairingOrdersWrong : ChangeSpec := { name := "pairingOrders", fn := fun _ => fun
  | [d1, d2, d3] => { results := [.lit (.bool false)], args := [d1, d2, d3] }
  | _ => none }
def PairingOrdersWrongFalsely : Prop := pairingOrdersRow.holds Try.pinned (OpenSpec.ofChange pairingOrdersWrong)

/-- 'sigillaw16.PairingRefuses': WHATEVER THE INPUT: true; the input reads as it did. -/
def pairingRefusesSpec : ChangeSpec := { name := "pairingRefuses", fn := fun _ => fun
  | [d1, d2] => { results := [.lit (.bool true)], args := [d1, d2] }
  | _ => none }
def pairingRefusesRow : OpenClaim := { program := "ytfgbkanbppehgaa", sum := "b575a8ed575cf1e201bd9b0fdea1906305ad25c68da39a367323861199c78f28", func := "sigil/sigillaw16.PairingRefuses", spec := "pairingRefuses", inPlace := ["math/bits.Sub64", "math/bits.Add64"], unfollowed := true, recurses := true, apart := false }
def PairingRefusesSaid : Prop := pairingRefusesRow.holds Try.pinned (OpenSpec.ofChange pairingRefusesSpec)

/-- ITS FALSE NEIGHBOUR: 'it returns false'. Refute it at one input. -/
def pairingRefusesWrong : ChangeSpec := { name := "pairingRefuses", fn := fun _ => fun
  | [d1, d2] => { results := [.lit (.bool false)], args := [d1, d2] }
  | _ => none }
def PairingRefusesWrongFalsely : Prop := pairingRefusesRow.holds Try.pinned (OpenSpec.ofChange pairingRefusesWrong)

/-- 'sigillaw16.PairingLinear': WHATEVER THE INPUT: true; the input reads as it did. -/
def pairingLinearSpec : ChangeSpec := { name := "pairingLinear", fn := fun _ => fun
  | [d1, d2] => { results := [.lit (.bool true)], args := [d1, d2] }
  | _ => none }
def pairingLinearRow : OpenClaim := { program := "ytfgbkanbppehgaa", sum := "b575a8ed575cf1e201bd9b0fdea1906305ad25c68da39a367323861199c78f28", func := "sigil/sigillaw16.PairingLinear", spec := "pairingLinear", inPlace := ["math/bits.Sub64", "math/bits.Add64"], unfollowed := true, recurses := true, apart := false }
def PairingLinearSaid : Prop := pairingLinearRow.holds Try.pinned (OpenSpec.ofChange pairingLinearSpec)

/-- ITS FALSE NEIGHBOUR: 'it returns false'. Refute it at one input. -/
def pairingLinearWrong : ChangeSpec := { name := "pairingLinear", fn := fun _ => fun
  | [d1, d2] => { results := [.lit (.bool false)], args := [d1, d2] }
  | _ => none }
def PairingLinearWrongFalsely : Prop := pairingLinearRow.holds Try.pinned (OpenSpec.ofChange pairingLinearWrong)

/-- 'sigillaw16.PairingSums': WHATEVER THE INPUT: true; the input reads as it did. -/
def pairingSumsSpec : ChangeSpec := { name := "pairingSums", fn := fun _ => fun
  | [d1, d2, d3] => { results := [.lit (.bool true)], args := [d1, d2, d3] }
  | _ => none }
def pairingSumsRow : OpenClaim := { program := "ytfgbkanbppehgaa", sum := "b575a8ed575cf1e201bd9b0fdea1906305ad25c68da39a367323861199c78f28", func := "sigil/sigillaw16.PairingSums", spec := "pairingSums", inPlace := ["math/bits.Sub64", "math/bits.Add64"], unfollowed := true, recurses := true, apart := false }
def PairingSumsSaid : Prop := pairingSumsRow.holds Try.pinned (OpenSpec.ofChange pairingSumsSpec)

/-- ITS FALSE NEIGHBOUR: 'it returns false'. Refute it at one input. -/
def pairingSumsWrong : ChangeSpec := { name := "pairingSums", fn := fun _ => fun
  | [d1, d2, d3] => { results := [.lit (.bool false)], args := [d1, d2, d3] }
  | _ => none }
def PairingSumsWrongFalsely : Prop := pairingSumsRow.holds Try.pinned (OpenSpec.ofChange pairingSumsWrong)

/- THE SECOND FORM. 'bulk': how many values and letters a reading holds, each counted each time it is reached (what is shared counts as often as it is met; a slice's spare places count too). A statement '..UptoSaid' is the law's where the arguments, and the package variables that the reading takes, are together of bulk at most 1048576: NARROWER than '..Said'. Prove '..Said' where nothing that the law and all that it calls make is longer than what came in: it says more and counts as full. Else prove '..UptoSaid'. A law counts once. -/
mutual
def uptoBulk {H : Type} : DataW H → Nat
  | .lit (.string bytes) => bytes.length + 1
  | .lit _ => 1
  | .nil => 1
  | .ptr d => uptoBulk d + 1
  | .slice elems spare => uptoBulkAll elems + uptoBulkAll spare + 1
  | .agg parts => uptoBulkAll parts + 1
  | .iface _ d => uptoBulk d + 1
  | .map entries => uptoBulkEntries entries + 1
  | .held _ => 1
def uptoBulkAll {H : Type} : List (DataW H) → Nat
  | [] => 0
  | d :: r => uptoBulk d + uptoBulkAll r
def uptoBulkEntries {H : Type} : List (Lit × DataW H) → Nat
  | [] => 0
  | x :: r => uptoBulkEntry x + uptoBulkEntries r
def uptoBulkEntry {H : Type} : Lit × DataW H → Nat
  | (.string bytes, d) => bytes.length + uptoBulk d + 1
  | (_, d) => uptoBulk d + 1
 end
def uptoSmall : (H : Type) → List (DataW H) → Bool := fun _ ds => decide (uptoBulkAll ds ≤ 1048576)
def OpenSpec.upto (s : _root_.Go.ChangeSpec) : _root_.Go.OpenSpec := { _root_.Go.OpenSpec.ofChange s with cond := some uptoSmall }

/-- 'sigillaw16.PairingNames', WHERE WHAT IT READS IS OF BULK AT MOST 1048576: true; the input reads as it did. -/
def pairingNamesUptoRow : OpenClaim := { program := "ytfgbkanbppehgaa", sum := "b575a8ed575cf1e201bd9b0fdea1906305ad25c68da39a367323861199c78f28", func := "sigil/sigillaw16.PairingNames", spec := "pairingNames", inPlace := ["math/bits.Sub64", "math/bits.Add64"], unfollowed := true, recurses := true, apart := false, narrowed := true }
def PairingNamesUptoSaid : Prop := pairingNamesUptoRow.holds Try.pinned (OpenSpec.upto pairingNamesSpec)

/-- 'sigillaw16.PairingProducts', WHERE WHAT IT READS IS OF BULK AT MOST 1048576: true; the input reads as it did. -/
def pairingProductsUptoRow : OpenClaim := { program := "ytfgbkanbppehgaa", sum := "b575a8ed575cf1e201bd9b0fdea1906305ad25c68da39a367323861199c78f28", func := "sigil/sigillaw16.PairingProducts", spec := "pairingProducts", inPlace := ["math/bits.Sub64", "math/bits.Add64"], unfollowed := true, recurses := true, apart := false, narrowed := true }
def PairingProductsUptoSaid : Prop := pairingProductsUptoRow.holds Try.pinned (OpenSpec.upto pairingProductsSpec)

/-- 'sigillaw16.PairingOrders', WHERE WHAT IT READS IS OF BULK AT MOST 1048576: true; the input reads as it did. -/
def pairingOrdersUptoRow : OpenClaim := { program := "ytfgbkanbppehgaa", sum := "b575a8ed575cf1e201bd9b0fdea1906305ad25c68da39a367323861199c78f28", func := "sigil/sigillaw16.PairingOrders", spec := "pairingOrders", inPlace := ["math/bits.Sub64", "math/bits.Add64"], unfollowed := true, recurses := true, apart := false, narrowed := true }
def PairingOrdersUptoSaid : Prop := pairingOrdersUptoRow.holds Try.pinned (OpenSpec.upto pairingOrdersSpec)

/-- 'sigillaw16.PairingRefuses', WHERE WHAT IT READS IS OF BULK AT MOST 1048576: true; the input reads as it did. -/
def pairingRefusesUptoRow : OpenClaim := { program := "ytfgbkanbppehgaa", sum := "b575a8ed575cf1e201bd9b0fdea1906305ad25c68da39a367323861199c78f28", func := "sigil/sigillaw16.PairingRefuses", spec := "pairingRefuses", inPlace := ["math/bits.Sub64", "math/bits.Add64"], unfollowed := true, recurses := true, apart := false, narrowed := true }
def PairingRefusesUptoSaid : Prop := pairingRefusesUptoRow.holds Try.pinned (OpenSpec.upto pairingRefusesSpec)

/-- 'sigillaw16.PairingLinear', WHERE WHAT IT READS IS OF BULK AT MOST 1048576: true; the input reads as it did. -/
def pairingLinearUptoRow : OpenClaim := { program := "ytfgbkanbppehgaa", sum := "b575a8ed575cf1e201bd9b0fdea1906305ad25c68da39a367323861199c78f28", func := "sigil/sigillaw16.PairingLinear", spec := "pairingLinear", inPlace := ["math/bits.Sub64", "math/bits.Add64"], unfollowed := true, recurses := true, apart := false, narrowed := true }
def PairingLinearUptoSaid : Prop := pairingLinearUptoRow.holds Try.pinned (OpenSpec.upto pairingLinearSpec)

/-- 'sigillaw16.PairingSums', WHERE WHAT IT READS IS OF BULK AT MOST 1048576: true; the input reads as it did. -/
def pairingSumsUptoRow : OpenClaim := { program := "ytfgbkanbppehgaa", sum := "b575a8ed575cf1e201bd9b0fdea1906305ad25c68da39a367323861199c78f28", func := "sigil/sigillaw16.PairingSums", spec := "pairingSums", inPlace := ["math/bits.Sub64", "math/bits.Add64"], unfollowed := true, recurses := true, apart := false, narrowed := true }
def PairingSumsUptoSaid : Prop := pairingSumsUptoRow.holds Try.pinned (OpenSpec.upto pairingSumsSpec)

end Rows
end Go.Proofs.Ytfgbkanbppehgaa
