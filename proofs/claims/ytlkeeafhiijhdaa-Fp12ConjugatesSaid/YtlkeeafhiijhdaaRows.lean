/-
  No cell of these rows narrows 'for every input' (looked for: loops, veiled, ifaces, maps, wideKeys, modest, calm, conditions, laid).
  DERIVED. THE GIVEN ROWS OF THIS SEAT. 17 by the template 'for every input the law returns true; each argument reads behind the call as it read before'; 0 by the template 'total and deterministic' (their statements: YtlkeeafhiijhdaaTotals.lean).
  GIVEN WITH THE SEED: the statements are not yours to turn. If you find one false, say at which input.
  Laid BY PROGRAM, IN A SANDBOX (cutbox-rows.mjs): the forced cells as the released guide's own fill.sh prints them over the translation 0ddc589cd1bb4857… (all of the seat's roots in one cut). By AI agents, Wed Nov 11 2026. No macro, syntax, notation, axiom, sorry.
-/
import Derived.Test.YtlkeeafhiijhdaaChecked
import GoSem.Claim
import GoSem.ClaimJoined
import GoSem.ClaimMapViews
import Derived.JoinedTies
import Derived.KernelRfl
namespace Go.Proofs.Ytlkeeafhiijhdaa
/- THE CELL 'sum', in the pinned program and in every row, IS THE sha256 OF THE DUMP (.gsa) THAT YtlkeeafhiijhdaaProg.lean LOADS. Nothing in Lean hashes anything: it is a label: what it is worth is what the hold of that sum in a sandbox is worth. -/
noncomputable def Try.pinned : Pinned := { name := "ytlkeeafhiijhdaa", sum := "0ddc589cd1bb4857cb76efa60b6675567699ddaf257686c092e1aad263dfdd43", checked := Try.checked }
namespace Rows
def none {H : Type} : Left H := { results := [], args := [] }

/-- 'sigillaw11.FrobSquares': WHATEVER THE INPUT: true; the input reads as it did. -/
def frobSquaresSpec : ChangeSpec := { name := "frobSquares", fn := fun _ => fun
  | [d] => { results := [.lit (.bool true)], args := [d] }
  | _ => none }
def frobSquaresRow : OpenClaim := { program := "ytlkeeafhiijhdaa", sum := "0ddc589cd1bb4857cb76efa60b6675567699ddaf257686c092e1aad263dfdd43", func := "sigil/sigillaw11.FrobSquares", spec := "frobSquares", inPlace := ["math/bits.Sub64", "math/bits.Add64"], unfollowed := true, recurses := true, named := ["math/bits.divideError", "math/bits.overflowError"], apart := false }
def FrobSquaresSaid : Prop := frobSquaresRow.holds Try.pinned (OpenSpec.ofChange frobSquaresSpec)

/-- ITS FALSE NEIGHBOUR: 'it returns false'. Refute it at one input. -/
def frobSquaresWrong : ChangeSpec := { name := "frobSquares", fn := fun _ => fun
  | [d] => { results := [.lit (.bool false)], args := [d] }
  | _ => none }
def FrobSquaresWrongFalsely : Prop := frobSquaresRow.holds Try.pinned (OpenSpec.ofChange frobSquaresWrong)

/-- 'sigillaw11.FrobTells': WHATEVER THE INPUT: true; the input reads as it did. -/
def frobTellsSpec : ChangeSpec := { name := "frobTells", fn := fun _ => fun
  | [d] => { results := [.lit (.bool true)], args := [d] }
  | _ => none }
def frobTellsRow : OpenClaim := { program := "ytlkeeafhiijhdaa", sum := "0ddc589cd1bb4857cb76efa60b6675567699ddaf257686c092e1aad263dfdd43", func := "sigil/sigillaw11.FrobTells", spec := "frobTells", inPlace := ["math/bits.Sub64", "math/bits.Add64"], unfollowed := true, recurses := true, named := ["math/bits.divideError", "math/bits.overflowError"], apart := false }
def FrobTellsSaid : Prop := frobTellsRow.holds Try.pinned (OpenSpec.ofChange frobTellsSpec)

/-- ITS FALSE NEIGHBOUR: 'it returns false'. Refute it at one input. -/
def frobTellsWrong : ChangeSpec := { name := "frobTells", fn := fun _ => fun
  | [d] => { results := [.lit (.bool false)], args := [d] }
  | _ => none }
def FrobTellsWrongFalsely : Prop := frobTellsRow.holds Try.pinned (OpenSpec.ofChange frobTellsWrong)

/-- 'sigillaw09.Fp6Turns': WHATEVER THE INPUT: true; the input reads as it did. -/
def fp6TurnsSpec : ChangeSpec := { name := "fp6Turns", fn := fun _ => fun
  | [d1, d2] => { results := [.lit (.bool true)], args := [d1, d2] }
  | _ => none }
def fp6TurnsRow : OpenClaim := { program := "ytlkeeafhiijhdaa", sum := "0ddc589cd1bb4857cb76efa60b6675567699ddaf257686c092e1aad263dfdd43", func := "sigil/sigillaw09.Fp6Turns", spec := "fp6Turns", inPlace := ["math/bits.Sub64", "math/bits.Add64"], unfollowed := true, recurses := true, apart := false }
def Fp6TurnsSaid : Prop := fp6TurnsRow.holds Try.pinned (OpenSpec.ofChange fp6TurnsSpec)

/-- ITS FALSE NEIGHBOUR: 'it returns false'. Refute it at one input. -/
def fp6TurnsWrong : ChangeSpec := { name := "fp6Turns", fn := fun _ => fun
  | [d1, d2] => { results := [.lit (.bool false)], args := [d1, d2] }
  | _ => none }
def Fp6TurnsWrongFalsely : Prop := fp6TurnsRow.holds Try.pinned (OpenSpec.ofChange fp6TurnsWrong)

/-- 'sigillaw09.Fp6Inverse': WHATEVER THE INPUT: true; the input reads as it did. -/
def fp6InverseSpec : ChangeSpec := { name := "fp6Inverse", fn := fun _ => fun
  | [d1, d2] => { results := [.lit (.bool true)], args := [d1, d2] }
  | _ => none }
def fp6InverseRow : OpenClaim := { program := "ytlkeeafhiijhdaa", sum := "0ddc589cd1bb4857cb76efa60b6675567699ddaf257686c092e1aad263dfdd43", func := "sigil/sigillaw09.Fp6Inverse", spec := "fp6Inverse", inPlace := ["math/bits.Sub64", "math/bits.Add64"], unfollowed := true, recurses := true, apart := false }
def Fp6InverseSaid : Prop := fp6InverseRow.holds Try.pinned (OpenSpec.ofChange fp6InverseSpec)

/-- ITS FALSE NEIGHBOUR: 'it returns false'. Refute it at one input. -/
def fp6InverseWrong : ChangeSpec := { name := "fp6Inverse", fn := fun _ => fun
  | [d1, d2] => { results := [.lit (.bool false)], args := [d1, d2] }
  | _ => none }
def Fp6InverseWrongFalsely : Prop := fp6InverseRow.holds Try.pinned (OpenSpec.ofChange fp6InverseWrong)

/-- 'sigillaw09.Fp6Within': WHATEVER THE INPUT: true; the input reads as it did. -/
def fp6WithinSpec : ChangeSpec := { name := "fp6Within", fn := fun _ => fun
  | [d1, d2] => { results := [.lit (.bool true)], args := [d1, d2] }
  | _ => none }
def fp6WithinRow : OpenClaim := { program := "ytlkeeafhiijhdaa", sum := "0ddc589cd1bb4857cb76efa60b6675567699ddaf257686c092e1aad263dfdd43", func := "sigil/sigillaw09.Fp6Within", spec := "fp6Within", inPlace := ["math/bits.Sub64", "math/bits.Add64"], unfollowed := true, recurses := true, apart := false }
def Fp6WithinSaid : Prop := fp6WithinRow.holds Try.pinned (OpenSpec.ofChange fp6WithinSpec)

/-- ITS FALSE NEIGHBOUR: 'it returns false'. Refute it at one input. -/
def fp6WithinWrong : ChangeSpec := { name := "fp6Within", fn := fun _ => fun
  | [d1, d2] => { results := [.lit (.bool false)], args := [d1, d2] }
  | _ => none }
def Fp6WithinWrongFalsely : Prop := fp6WithinRow.holds Try.pinned (OpenSpec.ofChange fp6WithinWrong)

/-- 'sigillaw09.Fp6Field': WHATEVER THE INPUT: true; the input reads as it did. -/
def fp6FieldSpec : ChangeSpec := { name := "fp6Field", fn := fun _ => fun
  | [d1, d2, d3] => { results := [.lit (.bool true)], args := [d1, d2, d3] }
  | _ => none }
def fp6FieldRow : OpenClaim := { program := "ytlkeeafhiijhdaa", sum := "0ddc589cd1bb4857cb76efa60b6675567699ddaf257686c092e1aad263dfdd43", func := "sigil/sigillaw09.Fp6Field", spec := "fp6Field", inPlace := ["math/bits.Sub64", "math/bits.Add64"], unfollowed := true, recurses := true, apart := false }
def Fp6FieldSaid : Prop := fp6FieldRow.holds Try.pinned (OpenSpec.ofChange fp6FieldSpec)

/-- ITS FALSE NEIGHBOUR: 'it returns false'. Refute it at one input. -/
def fp6FieldWrong : ChangeSpec := { name := "fp6Field", fn := fun _ => fun
  | [d1, d2, d3] => { results := [.lit (.bool false)], args := [d1, d2, d3] }
  | _ => none }
def Fp6FieldWrongFalsely : Prop := fp6FieldRow.holds Try.pinned (OpenSpec.ofChange fp6FieldWrong)

/-- 'sigillaw10.Fp12Inverse': WHATEVER THE INPUT: true; the input reads as it did. -/
def fp12InverseSpec : ChangeSpec := { name := "fp12Inverse", fn := fun _ => fun
  | [d1, d2] => { results := [.lit (.bool true)], args := [d1, d2] }
  | _ => none }
def fp12InverseRow : OpenClaim := { program := "ytlkeeafhiijhdaa", sum := "0ddc589cd1bb4857cb76efa60b6675567699ddaf257686c092e1aad263dfdd43", func := "sigil/sigillaw10.Fp12Inverse", spec := "fp12Inverse", inPlace := ["math/bits.Sub64", "math/bits.Add64"], unfollowed := true, recurses := true, apart := false }
def Fp12InverseSaid : Prop := fp12InverseRow.holds Try.pinned (OpenSpec.ofChange fp12InverseSpec)

/-- ITS FALSE NEIGHBOUR: 'it returns false'. Refute it at one input. -/
def fp12InverseWrong : ChangeSpec := { name := "fp12Inverse", fn := fun _ => fun
  | [d1, d2] => { results := [.lit (.bool false)], args := [d1, d2] }
  | _ => none }
def Fp12InverseWrongFalsely : Prop := fp12InverseRow.holds Try.pinned (OpenSpec.ofChange fp12InverseWrong)

/-- 'sigillaw10.Fp12Within': WHATEVER THE INPUT: true; the input reads as it did. -/
def fp12WithinSpec : ChangeSpec := { name := "fp12Within", fn := fun _ => fun
  | [d1, d2] => { results := [.lit (.bool true)], args := [d1, d2] }
  | _ => none }
def fp12WithinRow : OpenClaim := { program := "ytlkeeafhiijhdaa", sum := "0ddc589cd1bb4857cb76efa60b6675567699ddaf257686c092e1aad263dfdd43", func := "sigil/sigillaw10.Fp12Within", spec := "fp12Within", inPlace := ["math/bits.Sub64", "math/bits.Add64"], unfollowed := true, recurses := true, apart := false }
def Fp12WithinSaid : Prop := fp12WithinRow.holds Try.pinned (OpenSpec.ofChange fp12WithinSpec)

/-- ITS FALSE NEIGHBOUR: 'it returns false'. Refute it at one input. -/
def fp12WithinWrong : ChangeSpec := { name := "fp12Within", fn := fun _ => fun
  | [d1, d2] => { results := [.lit (.bool false)], args := [d1, d2] }
  | _ => none }
def Fp12WithinWrongFalsely : Prop := fp12WithinRow.holds Try.pinned (OpenSpec.ofChange fp12WithinWrong)

/-- 'sigillaw10.Fp12Field': WHATEVER THE INPUT: true; the input reads as it did. -/
def fp12FieldSpec : ChangeSpec := { name := "fp12Field", fn := fun _ => fun
  | [d1, d2, d3] => { results := [.lit (.bool true)], args := [d1, d2, d3] }
  | _ => none }
def fp12FieldRow : OpenClaim := { program := "ytlkeeafhiijhdaa", sum := "0ddc589cd1bb4857cb76efa60b6675567699ddaf257686c092e1aad263dfdd43", func := "sigil/sigillaw10.Fp12Field", spec := "fp12Field", inPlace := ["math/bits.Sub64", "math/bits.Add64"], unfollowed := true, recurses := true, apart := false }
def Fp12FieldSaid : Prop := fp12FieldRow.holds Try.pinned (OpenSpec.ofChange fp12FieldSpec)

/-- ITS FALSE NEIGHBOUR: 'it returns false'. Refute it at one input. -/
def fp12FieldWrong : ChangeSpec := { name := "fp12Field", fn := fun _ => fun
  | [d1, d2, d3] => { results := [.lit (.bool false)], args := [d1, d2, d3] }
  | _ => none }
def Fp12FieldWrongFalsely : Prop := fp12FieldRow.holds Try.pinned (OpenSpec.ofChange fp12FieldWrong)

/-- 'sigillaw10.Fp12Conjugates': WHATEVER THE INPUT: true; the input reads as it did. -/
def fp12ConjugatesSpec : ChangeSpec := { name := "fp12Conjugates", fn := fun _ => fun
  | [d1, d2] => { results := [.lit (.bool true)], args := [d1, d2] }
  | _ => none }
def fp12ConjugatesRow : OpenClaim := { program := "ytlkeeafhiijhdaa", sum := "0ddc589cd1bb4857cb76efa60b6675567699ddaf257686c092e1aad263dfdd43", func := "sigil/sigillaw10.Fp12Conjugates", spec := "fp12Conjugates", inPlace := ["math/bits.Sub64", "math/bits.Add64"], unfollowed := true, recurses := true, apart := false }
def Fp12ConjugatesSaid : Prop := fp12ConjugatesRow.holds Try.pinned (OpenSpec.ofChange fp12ConjugatesSpec)

/-- ITS FALSE NEIGHBOUR: 'it returns false'. Refute it at one input. -/
def fp12ConjugatesWrong : ChangeSpec := { name := "fp12Conjugates", fn := fun _ => fun
  | [d1, d2] => { results := [.lit (.bool false)], args := [d1, d2] }
  | _ => none }
def Fp12ConjugatesWrongFalsely : Prop := fp12ConjugatesRow.holds Try.pinned (OpenSpec.ofChange fp12ConjugatesWrong)

/-- 'sigillaw10.Fp12Sums': WHATEVER THE INPUT: true; the input reads as it did. -/
def fp12SumsSpec : ChangeSpec := { name := "fp12Sums", fn := fun _ => fun
  | [d1, d2] => { results := [.lit (.bool true)], args := [d1, d2] }
  | _ => none }
def fp12SumsRow : OpenClaim := { program := "ytlkeeafhiijhdaa", sum := "0ddc589cd1bb4857cb76efa60b6675567699ddaf257686c092e1aad263dfdd43", func := "sigil/sigillaw10.Fp12Sums", spec := "fp12Sums", inPlace := ["math/bits.Sub64", "math/bits.Add64"], unfollowed := true, recurses := true, apart := false }
def Fp12SumsSaid : Prop := fp12SumsRow.holds Try.pinned (OpenSpec.ofChange fp12SumsSpec)

/-- ITS FALSE NEIGHBOUR: 'it returns false'. Refute it at one input. -/
def fp12SumsWrong : ChangeSpec := { name := "fp12Sums", fn := fun _ => fun
  | [d1, d2] => { results := [.lit (.bool false)], args := [d1, d2] }
  | _ => none }
def Fp12SumsWrongFalsely : Prop := fp12SumsRow.holds Try.pinned (OpenSpec.ofChange fp12SumsWrong)

/-- 'sigillaw07.Fp2Powers': WHATEVER THE INPUT: true; the input reads as it did. -/
def fp2PowersSpec : ChangeSpec := { name := "fp2Powers", fn := fun _ => fun
  | [d1, d2] => { results := [.lit (.bool true)], args := [d1, d2] }
  | _ => none }
def fp2PowersRow : OpenClaim := { program := "ytlkeeafhiijhdaa", sum := "0ddc589cd1bb4857cb76efa60b6675567699ddaf257686c092e1aad263dfdd43", func := "sigil/sigillaw07.Fp2Powers", spec := "fp2Powers", inPlace := ["math/bits.Sub64", "math/bits.Add64"], unfollowed := true, recurses := true, named := ["math/bits.divideError", "math/bits.overflowError"], apart := false }
def Fp2PowersSaid : Prop := fp2PowersRow.holds Try.pinned (OpenSpec.ofChange fp2PowersSpec)

/-- ITS FALSE NEIGHBOUR: 'it returns false'. Refute it at one input. -/
def fp2PowersWrong : ChangeSpec := { name := "fp2Powers", fn := fun _ => fun
  | [d1, d2] => { results := [.lit (.bool false)], args := [d1, d2] }
  | _ => none }
def Fp2PowersWrongFalsely : Prop := fp2PowersRow.holds Try.pinned (OpenSpec.ofChange fp2PowersWrong)

/-- 'sigillaw10.Fp12Adds': WHATEVER THE INPUT: true; the input reads as it did. -/
def fp12AddsSpec : ChangeSpec := { name := "fp12Adds", fn := fun _ => fun
  | [d1, d2, d3] => { results := [.lit (.bool true)], args := [d1, d2, d3] }
  | _ => none }
def fp12AddsRow : OpenClaim := { program := "ytlkeeafhiijhdaa", sum := "0ddc589cd1bb4857cb76efa60b6675567699ddaf257686c092e1aad263dfdd43", func := "sigil/sigillaw10.Fp12Adds", spec := "fp12Adds", inPlace := ["math/bits.Sub64", "math/bits.Add64"], unfollowed := true, recurses := true, apart := false }
def Fp12AddsSaid : Prop := fp12AddsRow.holds Try.pinned (OpenSpec.ofChange fp12AddsSpec)

/-- ITS FALSE NEIGHBOUR: 'it returns false'. Refute it at one input. -/
def fp12AddsWrong : ChangeSpec := { name := "fp12Adds", fn := fun _ => fun
  | [d1, d2, d3] => { results := [.lit (.bool false)], args := [d1, d2, d3] }
  | _ => none }
def Fp12AddsWrongFalsely : Prop := fp12AddsRow.holds Try.pinned (OpenSpec.ofChange fp12AddsWrong)

/-- 'sigillaw09.Fp6Products': WHATEVER THE INPUT: true; the input reads as it did. -/
def fp6ProductsSpec : ChangeSpec := { name := "fp6Products", fn := fun _ => fun
  | [d1, d2] => { results := [.lit (.bool true)], args := [d1, d2] }
  | _ => none }
def fp6ProductsRow : OpenClaim := { program := "ytlkeeafhiijhdaa", sum := "0ddc589cd1bb4857cb76efa60b6675567699ddaf257686c092e1aad263dfdd43", func := "sigil/sigillaw09.Fp6Products", spec := "fp6Products", inPlace := ["math/bits.Sub64", "math/bits.Add64"], unfollowed := true, recurses := true, named := ["math/bits.divideError", "math/bits.overflowError"], apart := false }
def Fp6ProductsSaid : Prop := fp6ProductsRow.holds Try.pinned (OpenSpec.ofChange fp6ProductsSpec)

/-- ITS FALSE NEIGHBOUR: 'it returns false'. Refute it at one input. -/
def fp6ProductsWrong : ChangeSpec := { name := "fp6Products", fn := fun _ => fun
  | [d1, d2] => { results := [.lit (.bool false)], args := [d1, d2] }
  | _ => none }
def Fp6ProductsWrongFalsely : Prop := fp6ProductsRow.holds Try.pinned (OpenSpec.ofChange fp6ProductsWrong)

/-- 'sigillaw09.Fp6Sums': WHATEVER THE INPUT: true; the input reads as it did. -/
def fp6SumsSpec : ChangeSpec := { name := "fp6Sums", fn := fun _ => fun
  | [d1, d2, d3] => { results := [.lit (.bool true)], args := [d1, d2, d3] }
  | _ => none }
def fp6SumsRow : OpenClaim := { program := "ytlkeeafhiijhdaa", sum := "0ddc589cd1bb4857cb76efa60b6675567699ddaf257686c092e1aad263dfdd43", func := "sigil/sigillaw09.Fp6Sums", spec := "fp6Sums", inPlace := ["math/bits.Sub64", "math/bits.Add64"], unfollowed := true, recurses := true, named := ["math/bits.divideError", "math/bits.overflowError"], apart := false }
def Fp6SumsSaid : Prop := fp6SumsRow.holds Try.pinned (OpenSpec.ofChange fp6SumsSpec)

/-- ITS FALSE NEIGHBOUR: 'it returns false'. Refute it at one input. -/
def fp6SumsWrong : ChangeSpec := { name := "fp6Sums", fn := fun _ => fun
  | [d1, d2, d3] => { results := [.lit (.bool false)], args := [d1, d2, d3] }
  | _ => none }
def Fp6SumsWrongFalsely : Prop := fp6SumsRow.holds Try.pinned (OpenSpec.ofChange fp6SumsWrong)

/-- 'sigillaw10.Fp12Products': WHATEVER THE INPUT: true; the input reads as it did. -/
def fp12ProductsSpec : ChangeSpec := { name := "fp12Products", fn := fun _ => fun
  | [d1, d2] => { results := [.lit (.bool true)], args := [d1, d2] }
  | _ => none }
def fp12ProductsRow : OpenClaim := { program := "ytlkeeafhiijhdaa", sum := "0ddc589cd1bb4857cb76efa60b6675567699ddaf257686c092e1aad263dfdd43", func := "sigil/sigillaw10.Fp12Products", spec := "fp12Products", inPlace := ["math/bits.Sub64", "math/bits.Add64"], unfollowed := true, recurses := true, named := ["math/bits.divideError", "math/bits.overflowError"], apart := false }
def Fp12ProductsSaid : Prop := fp12ProductsRow.holds Try.pinned (OpenSpec.ofChange fp12ProductsSpec)

/-- ITS FALSE NEIGHBOUR: 'it returns false'. Refute it at one input. -/
def fp12ProductsWrong : ChangeSpec := { name := "fp12Products", fn := fun _ => fun
  | [d1, d2] => { results := [.lit (.bool false)], args := [d1, d2] }
  | _ => none }
def Fp12ProductsWrongFalsely : Prop := fp12ProductsRow.holds Try.pinned (OpenSpec.ofChange fp12ProductsWrong)

/-- 'sigillaw10.Fp12Powers': WHATEVER THE INPUT: true; the input reads as it did. -/
def fp12PowersSpec : ChangeSpec := { name := "fp12Powers", fn := fun _ => fun
  | [d1, d2] => { results := [.lit (.bool true)], args := [d1, d2] }
  | _ => none }
def fp12PowersRow : OpenClaim := { program := "ytlkeeafhiijhdaa", sum := "0ddc589cd1bb4857cb76efa60b6675567699ddaf257686c092e1aad263dfdd43", func := "sigil/sigillaw10.Fp12Powers", spec := "fp12Powers", inPlace := ["math/bits.Sub64", "math/bits.Add64"], unfollowed := true, recurses := true, named := ["math/bits.divideError", "math/bits.overflowError"], apart := false }
def Fp12PowersSaid : Prop := fp12PowersRow.holds Try.pinned (OpenSpec.ofChange fp12PowersSpec)

/-- ITS FALSE NEIGHBOUR: 'it returns false'. Refute it at one input. -/
def fp12PowersWrong : ChangeSpec := { name := "fp12Powers", fn := fun _ => fun
  | [d1, d2] => { results := [.lit (.bool false)], args := [d1, d2] }
  | _ => none }
def Fp12PowersWrongFalsely : Prop := fp12PowersRow.holds Try.pinned (OpenSpec.ofChange fp12PowersWrong)

/- THE SECOND FORM. 'bulk': how many values and letters a reading holds, each counted each time it is reached (what is shared counts as often as it is met; a slice's spare places count too). A statement '..UptoSaid' is the law's where the arguments, and the package variables that the reading takes, are together of bulk at most 1048576: NARROWER than '..Said'. Prove '..Said' where nothing that the law and all that it calls make is longer than what came in: it says more and counts as full. Else prove '..UptoSaid'. A law counts once. -/
mutual
def uptoBulk {H : Type} : DataW H → Nat
  | .lit (.string bytes) => bytes.length + 1
  | .lit _ => 1
  | .nil => 1
  | .ptr d => uptoBulk d + 1
  | .slice elems spare => uptoBulkAll elems + uptoBulkAll spare + 1
  | .agg parts => uptoBulkAll parts + 1
  | .iface _ d => uptoBulk d + 1
  | .map entries => uptoBulkEntries entries + 1
  | .held _ => 1
def uptoBulkAll {H : Type} : List (DataW H) → Nat
  | [] => 0
  | d :: r => uptoBulk d + uptoBulkAll r
def uptoBulkEntries {H : Type} : List (Lit × DataW H) → Nat
  | [] => 0
  | x :: r => uptoBulkEntry x + uptoBulkEntries r
def uptoBulkEntry {H : Type} : Lit × DataW H → Nat
  | (.string bytes, d) => bytes.length + uptoBulk d + 1
  | (_, d) => uptoBulk d + 1
 end
def uptoSmall : (H : Type) → List (DataW H) → Bool := fun _ ds => decide (uptoBulkAll ds ≤ 1048576)
def OpenSpec.upto (s : _root_.Go.ChangeSpec) : _root_.Go.OpenSpec := { _root_.Go.OpenSpec.ofChange s with cond := some uptoSmall }

/-- 'sigillaw11.FrobSquares', WHERE WHAT IT READS IS OF BULK AT MOST 1048576: true; the input reads as it did. -/
def frobSquaresUptoRow : OpenClaim := { program := "ytlkeeafhiijhdaa", sum := "0ddc589cd1bb4857cb76efa60b6675567699ddaf257686c092e1aad263dfdd43", func := "sigil/sigillaw11.FrobSquares", spec := "frobSquares", inPlace := ["math/bits.Sub64", "math/bits.Add64"], unfollowed := true, recurses := true, named := ["math/bits.divideError", "math/bits.overflowError"], apart := false, narrowed := true }
def FrobSquaresUptoSaid : Prop := frobSquaresUptoRow.holds Try.pinned (OpenSpec.upto frobSquaresSpec)

/-- 'sigillaw11.FrobTells', WHERE WHAT IT READS IS OF BULK AT MOST 1048576: true; the input reads as it did. -/
def frobTellsUptoRow : OpenClaim := { program := "ytlkeeafhiijhdaa", sum := "0ddc589cd1bb4857cb76efa60b6675567699ddaf257686c092e1aad263dfdd43", func := "sigil/sigillaw11.FrobTells", spec := "frobTells", inPlace := ["math/bits.Sub64", "math/bits.Add64"], unfollowed := true, recurses := true, named := ["math/bits.divideError", "math/bits.overflowError"], apart := false, narrowed := true }
def FrobTellsUptoSaid : Prop := frobTellsUptoRow.holds Try.pinned (OpenSpec.upto frobTellsSpec)

/-- 'sigillaw09.Fp6Turns', WHERE WHAT IT READS IS OF BULK AT MOST 1048576: true; the input reads as it did. -/
def fp6TurnsUptoRow : OpenClaim := { program := "ytlkeeafhiijhdaa", sum := "0ddc589cd1bb4857cb76efa60b6675567699ddaf257686c092e1aad263dfdd43", func := "sigil/sigillaw09.Fp6Turns", spec := "fp6Turns", inPlace := ["math/bits.Sub64", "math/bits.Add64"], unfollowed := true, recurses := true, apart := false, narrowed := true }
def Fp6TurnsUptoSaid : Prop := fp6TurnsUptoRow.holds Try.pinned (OpenSpec.upto fp6TurnsSpec)

/-- 'sigillaw09.Fp6Inverse', WHERE WHAT IT READS IS OF BULK AT MOST 1048576: true; the input reads as it did. -/
def fp6InverseUptoRow : OpenClaim := { program := "ytlkeeafhiijhdaa", sum := "0ddc589cd1bb4857cb76efa60b6675567699ddaf257686c092e1aad263dfdd43", func := "sigil/sigillaw09.Fp6Inverse", spec := "fp6Inverse", inPlace := ["math/bits.Sub64", "math/bits.Add64"], unfollowed := true, recurses := true, apart := false, narrowed := true }
def Fp6InverseUptoSaid : Prop := fp6InverseUptoRow.holds Try.pinned (OpenSpec.upto fp6InverseSpec)

/-- 'sigillaw09.Fp6Within', WHERE WHAT IT READS IS OF BULK AT MOST 1048576: true; the input reads as it did. -/
def fp6WithinUptoRow : OpenClaim := { program := "ytlkeeafhiijhdaa", sum := "0ddc589cd1bb4857cb76efa60b6675567699ddaf257686c092e1aad263dfdd43", func := "sigil/sigillaw09.Fp6Within", spec := "fp6Within", inPlace := ["math/bits.Sub64", "math/bits.Add64"], unfollowed := true, recurses := true, apart := false, narrowed := true }
def Fp6WithinUptoSaid : Prop := fp6WithinUptoRow.holds Try.pinned (OpenSpec.upto fp6WithinSpec)

/-- 'sigillaw09.Fp6Field', WHERE WHAT IT READS IS OF BULK AT MOST 1048576: true; the input reads as it did. -/
def fp6FieldUptoRow : OpenClaim := { program := "ytlkeeafhiijhdaa", sum := "0ddc589cd1bb4857cb76efa60b6675567699ddaf257686c092e1aad263dfdd43", func := "sigil/sigillaw09.Fp6Field", spec := "fp6Field", inPlace := ["math/bits.Sub64", "math/bits.Add64"], unfollowed := true, recurses := true, apart := false, narrowed := true }
def Fp6FieldUptoSaid : Prop := fp6FieldUptoRow.holds Try.pinned (OpenSpec.upto fp6FieldSpec)

/-- 'sigillaw10.Fp12Inverse', WHERE WHAT IT READS IS OF BULK AT MOST 1048576: true; the input reads as it did. -/
def fp12InverseUptoRow : OpenClaim := { program := "ytlkeeafhiijhdaa", sum := "0ddc589cd1bb4857cb76efa60b6675567699ddaf257686c092e1aad263dfdd43", func := "sigil/sigillaw10.Fp12Inverse", spec := "fp12Inverse", inPlace := ["math/bits.Sub64", "math/bits.Add64"], unfollowed := true, recurses := true, apart := false, narrowed := true }
def Fp12InverseUptoSaid : Prop := fp12InverseUptoRow.holds Try.pinned (OpenSpec.upto fp12InverseSpec)

/-- 'sigillaw10.Fp12Within', WHERE WHAT IT READS IS OF BULK AT MOST 1048576: true; the input reads as it did. -/
def fp12WithinUptoRow : OpenClaim := { program := "ytlkeeafhiijhdaa", sum := "0ddc589cd1bb4857cb76efa60b6675567699ddaf257686c092e1aad263dfdd43", func := "sigil/sigillaw10.Fp12Within", spec := "fp12Within", inPlace := ["math/bits.Sub64", "math/bits.Add64"], unfollowed := true, recurses := true, apart := false, narrowed := true }
def Fp12WithinUptoSaid : Prop := fp12WithinUptoRow.holds Try.pinned (OpenSpec.upto fp12WithinSpec)

/-- 'sigillaw10.Fp12Field', WHERE WHAT IT READS IS OF BULK AT MOST 1048576: true; the input reads as it did. -/
def fp12FieldUptoRow : OpenClaim := { program := "ytlkeeafhiijhdaa", sum := "0ddc589cd1bb4857cb76efa60b6675567699ddaf257686c092e1aad263dfdd43", func := "sigil/sigillaw10.Fp12Field", spec := "fp12Field", inPlace := ["math/bits.Sub64", "math/bits.Add64"], unfollowed := true, recurses := true, apart := false, narrowed := true }
def Fp12FieldUptoSaid : Prop := fp12FieldUptoRow.holds Try.pinned (OpenSpec.upto fp12FieldSpec)

/-- 'sigillaw10.Fp12Conjugates', WHERE WHAT IT READS IS OF BULK AT MOST 1048576: true; the input reads as it did. -/
def fp12ConjugatesUptoRow : OpenClaim := { program := "ytlkeeafhiijhdaa", sum := "0ddc589cd1bb4857cb76efa60b6675567699ddaf257686c092e1aad263dfdd43", func := "sigil/sigillaw10.Fp12Conjugates", spec := "fp12Conjugates", inPlace := ["math/bits.Sub64", "math/bits.Add64"], unfollowed := true, recurses := true, apart := false, narrowed := true }
def Fp12ConjugatesUptoSaid : Prop := fp12ConjugatesUptoRow.holds Try.pinned (OpenSpec.upto fp12ConjugatesSpec)

/-- 'sigillaw10.Fp12Sums', WHERE WHAT IT READS IS OF BULK AT MOST 1048576: true; the input reads as it did. -/
def fp12SumsUptoRow : OpenClaim := { program := "ytlkeeafhiijhdaa", sum := "0ddc589cd1bb4857cb76efa60b6675567699ddaf257686c092e1aad263dfdd43", func := "sigil/sigillaw10.Fp12Sums", spec := "fp12Sums", inPlace := ["math/bits.Sub64", "math/bits.Add64"], unfollowed := true, recurses := true, apart := false, narrowed := true }
def Fp12SumsUptoSaid : Prop := fp12SumsUptoRow.holds Try.pinned (OpenSpec.upto fp12SumsSpec)

/-- 'sigillaw07.Fp2Powers', WHERE WHAT IT READS IS OF BULK AT MOST 1048576: true; the input reads as it did. -/
def fp2PowersUptoRow : OpenClaim := { program := "ytlkeeafhiijhdaa", sum := "0ddc589cd1bb4857cb76efa60b6675567699ddaf257686c092e1aad263dfdd43", func := "sigil/sigillaw07.Fp2Powers", spec := "fp2Powers", inPlace := ["math/bits.Sub64", "math/bits.Add64"], unfollowed := true, recurses := true, named := ["math/bits.divideError", "math/bits.overflowError"], apart := false, narrowed := true }
def Fp2PowersUptoSaid : Prop := fp2PowersUptoRow.holds Try.pinned (OpenSpec.upto fp2PowersSpec)

/-- 'sigillaw10.Fp12Adds', WHERE WHAT IT READS IS OF BULK AT MOST 1048576: true; the input reads as it did. -/
def fp12AddsUptoRow : OpenClaim := { program := "ytlkeeafhiijhdaa", sum := "0ddc589cd1bb4857cb76efa60b6675567699ddaf257686c092e1aad263dfdd43", func := "sigil/sigillaw10.Fp12Adds", spec := "fp12Adds", inPlace := ["math/bits.Sub64", "math/bits.Add64"], unfollowed := true, recurses := true, apart := false, narrowed := true }
def Fp12AddsUptoSaid : Prop := fp12AddsUptoRow.holds Try.pinned (OpenSpec.upto fp12AddsSpec)

/-- 'sigillaw09.Fp6Products', WHERE WHAT IT READS IS OF BULK AT MOST 1048576: true; the input reads as it did. -/
def fp6ProductsUptoRow : OpenClaim := { program := "ytlkeeafhiijhdaa", sum := "0ddc589cd1bb4857cb76efa60b6675567699ddaf257686c092e1aad263dfdd43", func := "sigil/sigillaw09.Fp6Products", spec := "fp6Products", inPlace := ["math/bits.Sub64", "math/bits.Add64"], unfollowed := true, recurses := true, named := ["math/bits.divideError", "math/bits.overflowError"], apart := false, narrowed := true }
def Fp6ProductsUptoSaid : Prop := fp6ProductsUptoRow.holds Try.pinned (OpenSpec.upto fp6ProductsSpec)

/-- 'sigillaw09.Fp6Sums', WHERE WHAT IT READS IS OF BULK AT MOST 1048576: true; the input reads as it did. -/
def fp6SumsUptoRow : OpenClaim := { program := "ytlkeeafhiijhdaa", sum := "0ddc589cd1bb4857cb76efa60b6675567699ddaf257686c092e1aad263dfdd43", func := "sigil/sigillaw09.Fp6Sums", spec := "fp6Sums", inPlace := ["math/bits.Sub64", "math/bits.Add64"], unfollowed := true, recurses := true, named := ["math/bits.divideError", "math/bits.overflowError"], apart := false, narrowed := true }
def Fp6SumsUptoSaid : Prop := fp6SumsUptoRow.holds Try.pinned (OpenSpec.upto fp6SumsSpec)

/-- 'sigillaw10.Fp12Products', WHERE WHAT IT READS IS OF BULK AT MOST 1048576: true; the input reads as it did. -/
def fp12ProductsUptoRow : OpenClaim := { program := "ytlkeeafhiijhdaa", sum := "0ddc589cd1bb4857cb76efa60b6675567699ddaf257686c092e1aad263dfdd43", func := "sigil/sigillaw10.Fp12Products", spec := "fp12Products", inPlace := ["math/bits.Sub64", "math/bits.Add64"], unfollowed := true, recurses := true, named := ["math/bits.divideError", "math/bits.overflowError"], apart := false, narrowed := true }
def Fp12ProductsUptoSaid : Prop := fp12ProductsUptoRow.holds Try.pinned (OpenSpec.upto fp12ProductsSpec)

/-- 'sigillaw10.Fp12Powers', WHERE WHAT IT READS IS OF BULK AT MOST 1048576: true; the input reads as it did. -/
def fp12PowersUptoRow : OpenClaim := { program := "ytlkeeafhiijhdaa", sum := "0ddc589cd1bb4857cb76efa60b6675567699ddaf257686c092e1aad263dfdd43", func := "sigil/sigillaw10.Fp12Powers", spec := "fp12Powers", inPlace := ["math/bits.Sub64", "math/bits.Add64"], unfollowed := true, recurses := true, named := ["math/bits.divideError", "math/bits.overflowError"], apart := false, narrowed := true }
def Fp12PowersUptoSaid : Prop := fp12PowersUptoRow.holds Try.pinned (OpenSpec.upto fp12PowersSpec)

end Rows
end Go.Proofs.Ytlkeeafhiijhdaa
