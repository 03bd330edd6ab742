/-
  No cell of these rows narrows 'for every input' (looked for: loops, veiled, ifaces, maps, wideKeys, modest, calm, conditions, laid).
  DERIVED. THE GIVEN ROWS OF THIS SEAT. 17 by the template 'for every input the law returns true; each argument reads behind the call as it read before'; 0 by the template 'total and deterministic' (their statements: YtkbbocpahnlkkaaTotals.lean).
  GIVEN WITH THE SEED: the statements are not yours to turn. If you find one false, say at which input.
  Laid BY PROGRAM, IN A SANDBOX (cutbox-rows.mjs): the forced cells as the released guide's own fill.sh prints them over the translation 97de0cabee5dd8ef… (all of the seat's roots in one cut). By AI agents, Wed Nov 11 2026. No macro, syntax, notation, axiom, sorry.
-/
import Derived.Test.YtkbbocpahnlkkaaChecked
import GoSem.Claim
import GoSem.ClaimJoined
import GoSem.ClaimMapViews
import Derived.JoinedTies
import Derived.KernelRfl
namespace Go.Proofs.Ytkbbocpahnlkkaa
/- THE CELL 'sum', in the pinned program and in every row, IS THE sha256 OF THE DUMP (.gsa) THAT YtkbbocpahnlkkaaProg.lean LOADS. Nothing in Lean hashes anything: it is a label: what it is worth is what the hold of that sum in a sandbox is worth. -/
noncomputable def Try.pinned : Pinned := { name := "ytkbbocpahnlkkaa", sum := "97de0cabee5dd8ef7316c0e3457c7569468ca78f85278b76546b718ad65ce556", checked := Try.checked }
namespace Rows
def none {H : Type} : Left H := { results := [], args := [] }

/-- 'sigillaw11.FrobSquares': WHATEVER THE INPUT: true; the input reads as it did. -/
def frobSquaresSpec : ChangeSpec := { name := "frobSquares", fn := fun _ => fun
  | [d] => { results := [.lit (.bool true)], args := [d] }
  | _ => none }
def frobSquaresRow : OpenClaim := { program := "ytkbbocpahnlkkaa", sum := "97de0cabee5dd8ef7316c0e3457c7569468ca78f85278b76546b718ad65ce556", func := "sigil/sigillaw11.FrobSquares", spec := "frobSquares", inPlace := ["math/bits.Sub64", "math/bits.Add64"], unfollowed := true, recurses := true, named := ["math/bits.divideError", "math/bits.overflowError"], apart := false }
def FrobSquaresSaid : Prop := frobSquaresRow.holds Try.pinned (OpenSpec.ofChange frobSquaresSpec)

/-- ITS FALSE NEIGHBOUR: 'it returns false'. Refute it at one input. -/
def frobSquaresWrong : ChangeSpec := { name := "frobSquares", fn := fun _ => fun
  | [d] => { results := [.lit (.bool false)], args := [d] }
  | _ => none }
def FrobSquaresWrongFalsely : Prop := frobSquaresRow.holds Try.pinned (OpenSpec.ofChange frobSquaresWrong)

/-- 'sigillaw11.FrobTells': WHATEVER THE INPUT: true; the input reads as it did. -/
def frobTellsSpec : ChangeSpec := { name := "frobTells", fn := fun _ => fun
  | [d] => { results := [.lit (.bool true)], args := [d] }
  | _ => none }
def frobTellsRow : OpenClaim := { program := "ytkbbocpahnlkkaa", sum := "97de0cabee5dd8ef7316c0e3457c7569468ca78f85278b76546b718ad65ce556", func := "sigil/sigillaw11.FrobTells", spec := "frobTells", inPlace := ["math/bits.Sub64", "math/bits.Add64"], unfollowed := true, recurses := true, named := ["math/bits.divideError", "math/bits.overflowError"], apart := false }
def FrobTellsSaid : Prop := frobTellsRow.holds Try.pinned (OpenSpec.ofChange frobTellsSpec)

/-- ITS FALSE NEIGHBOUR: 'it returns false'. Refute it at one input. -/
def frobTellsWrong : ChangeSpec := { name := "frobTells", fn := fun _ => fun
  | [d] => { results := [.lit (.bool false)], args := [d] }
  | _ => none }
def FrobTellsWrongFalsely : Prop := frobTellsRow.holds Try.pinned (OpenSpec.ofChange frobTellsWrong)

/-- 'sigillaw10.Fp12Sums': WHATEVER THE INPUT: true; the input reads as it did. -/
def fp12SumsSpec : ChangeSpec := { name := "fp12Sums", fn := fun _ => fun
  | [d1, d2] => { results := [.lit (.bool true)], args := [d1, d2] }
  | _ => none }
def fp12SumsRow : OpenClaim := { program := "ytkbbocpahnlkkaa", sum := "97de0cabee5dd8ef7316c0e3457c7569468ca78f85278b76546b718ad65ce556", func := "sigil/sigillaw10.Fp12Sums", spec := "fp12Sums", inPlace := ["math/bits.Sub64", "math/bits.Add64"], unfollowed := true, recurses := true, apart := false }
def Fp12SumsSaid : Prop := fp12SumsRow.holds Try.pinned (OpenSpec.ofChange fp12SumsSpec)

/-- ITS FALSE NEIGHBOUR: 'it returns false'. Refute it at one input. -/
def fp12SumsWrong : ChangeSpec := { name := "fp12Sums", fn := fun _ => fun
  | [d1, d2] => { results := [.lit (.bool false)], args := [d1, d2] }
  | _ => none }
def Fp12SumsWrongFalsely : Prop := fp12SumsRow.holds Try.pinned (OpenSpec.ofChange fp12SumsWrong)

/-- 'sigillaw07.Fp2Powers': WHATEVER THE INPUT: true; the input reads as it did. -/
def fp2PowersSpec : ChangeSpec := { name := "fp2Powers", fn := fun _ => fun
  | [d1, d2] => { results := [.lit (.bool true)], args := [d1, d2] }
  | _ => none }
def fp2PowersRow : OpenClaim := { program := "ytkbbocpahnlkkaa", sum := "97de0cabee5dd8ef7316c0e3457c7569468ca78f85278b76546b718ad65ce556", func := "sigil/sigillaw07.Fp2Powers", spec := "fp2Powers", inPlace := ["math/bits.Sub64", "math/bits.Add64"], unfollowed := true, recurses := true, named := ["math/bits.divideError", "math/bits.overflowError"], apart := false }
def Fp2PowersSaid : Prop := fp2PowersRow.holds Try.pinned (OpenSpec.ofChange fp2PowersSpec)

/-- ITS FALSE NEIGHBOUR: 'it returns false'. Refute it at one input. -/
def fp2PowersWrong : ChangeSpec := { name := "fp2Powers", fn := fun _ => fun
  | [d1, d2] => { results := [.lit (.bool false)], args := [d1, d2] }
  | _ => none }
def Fp2PowersWrongFalsely : Prop := fp2PowersRow.holds Try.pinned (OpenSpec.ofChange fp2PowersWrong)

/-- 'sigillaw10.Fp12Adds': WHATEVER THE INPUT: true; the input reads as it did. -/
def fp12AddsSpec : ChangeSpec := { name := "fp12Adds", fn := fun _ => fun
  | [d1, d2, d3] => { results := [.lit (.bool true)], args := [d1, d2, d3] }
  | _ => none }
def fp12AddsRow : OpenClaim := { program := "ytkbbocpahnlkkaa", sum := "97de0cabee5dd8ef7316c0e3457c7569468ca78f85278b76546b718ad65ce556", func := "sigil/sigillaw10.Fp12Adds", spec := "fp12Adds", inPlace := ["math/bits.Sub64", "math/bits.Add64"], unfollowed := true, recurses := true, apart := false }
def Fp12AddsSaid : Prop := fp12AddsRow.holds Try.pinned (OpenSpec.ofChange fp12AddsSpec)

/-- ITS FALSE NEIGHBOUR: 'it returns false'. Refute it at one input. -/
def fp12AddsWrong : ChangeSpec := { name := "fp12Adds", fn := fun _ => fun
  | [d1, d2, d3] => { results := [.lit (.bool false)], args := [d1, d2, d3] }
  | _ => none }
def Fp12AddsWrongFalsely : Prop := fp12AddsRow.holds Try.pinned (OpenSpec.ofChange fp12AddsWrong)

/-- 'sigillaw13.G2Names': WHATEVER THE INPUT: true; the input reads as it did. -/
def g2NamesSpec : ChangeSpec := { name := "g2Names", fn := fun _ => fun
  | [] => { results := [.lit (.bool true)], args := [] }
  | _ => none }
def g2NamesRow : OpenClaim := { program := "ytkbbocpahnlkkaa", sum := "97de0cabee5dd8ef7316c0e3457c7569468ca78f85278b76546b718ad65ce556", func := "sigil/sigillaw13.G2Names", spec := "g2Names", inPlace := ["math/bits.Sub64", "math/bits.Add64"], unfollowed := true, recurses := true, apart := false }
def G2NamesSaid : Prop := g2NamesRow.holds Try.pinned (OpenSpec.ofChange g2NamesSpec)

/-- ITS FALSE NEIGHBOUR: 'it returns false'. Refute it at one input. -/
def g2NamesWrong : ChangeSpec := { name := "g2Names", fn := fun _ => fun
  | [] => { results := [.lit (.bool false)], args := [] }
  | _ => none }
def G2NamesWrongFalsely : Prop := g2NamesRow.holds Try.pinned (OpenSpec.ofChange g2NamesWrong)

/-- 'sigillaw13.G2Closed': WHATEVER THE INPUT: true; the input reads as it did. -/
def g2ClosedSpec : ChangeSpec := { name := "g2Closed", fn := fun _ => fun
  | [d1, d2, d3] => { results := [.lit (.bool true)], args := [d1, d2, d3] }
  | _ => none }
def g2ClosedRow : OpenClaim := { program := "ytkbbocpahnlkkaa", sum := "97de0cabee5dd8ef7316c0e3457c7569468ca78f85278b76546b718ad65ce556", func := "sigil/sigillaw13.G2Closed", spec := "g2Closed", inPlace := ["math/bits.Sub64", "math/bits.Add64"], unfollowed := true, recurses := true, apart := false }
def G2ClosedSaid : Prop := g2ClosedRow.holds Try.pinned (OpenSpec.ofChange g2ClosedSpec)

/-- ITS FALSE NEIGHBOUR: 'it returns false'. Refute it at one input. -/
def g2ClosedWrong : ChangeSpec := { name := "g2Closed", fn := fun _ => fun
  | [d1, d2, d3] => { results := [.lit (.bool false)], args := [d1, d2, d3] }
  | _ => none }
def G2ClosedWrongFalsely : Prop := g2ClosedRow.holds Try.pinned (OpenSpec.ofChange g2ClosedWrong)

/-- 'sigillaw13.G2Undoes': WHATEVER THE INPUT: true; the input reads as it did. -/
def g2UndoesSpec : ChangeSpec := { name := "g2Undoes", fn := fun _ => fun
  | [d1, d2] => { results := [.lit (.bool true)], args := [d1, d2] }
  | _ => none }
def g2UndoesRow : OpenClaim := { program := "ytkbbocpahnlkkaa", sum := "97de0cabee5dd8ef7316c0e3457c7569468ca78f85278b76546b718ad65ce556", func := "sigil/sigillaw13.G2Undoes", spec := "g2Undoes", inPlace := ["math/bits.Sub64", "math/bits.Add64"], unfollowed := true, recurses := true, apart := false }
def G2UndoesSaid : Prop := g2UndoesRow.holds Try.pinned (OpenSpec.ofChange g2UndoesSpec)

/-- ITS FALSE NEIGHBOUR: 'it returns false'. Refute it at one input. -/
def g2UndoesWrong : ChangeSpec := { name := "g2Undoes", fn := fun _ => fun
  | [d1, d2] => { results := [.lit (.bool false)], args := [d1, d2] }
  | _ => none }
def G2UndoesWrongFalsely : Prop := g2UndoesRow.holds Try.pinned (OpenSpec.ofChange g2UndoesWrong)

/-- 'sigillaw09.Fp6Products': WHATEVER THE INPUT: true; the input reads as it did. -/
def fp6ProductsSpec : ChangeSpec := { name := "fp6Products", fn := fun _ => fun
  | [d1, d2] => { results := [.lit (.bool true)], args := [d1, d2] }
  | _ => none }
def fp6ProductsRow : OpenClaim := { program := "ytkbbocpahnlkkaa", sum := "97de0cabee5dd8ef7316c0e3457c7569468ca78f85278b76546b718ad65ce556", func := "sigil/sigillaw09.Fp6Products", spec := "fp6Products", inPlace := ["math/bits.Sub64", "math/bits.Add64"], unfollowed := true, recurses := true, named := ["math/bits.divideError", "math/bits.overflowError"], apart := false }
def Fp6ProductsSaid : Prop := fp6ProductsRow.holds Try.pinned (OpenSpec.ofChange fp6ProductsSpec)

/-- ITS FALSE NEIGHBOUR: 'it returns false'. Refute it at one input. -/
def fp6ProductsWrong : ChangeSpec := { name := "fp6Products", fn := fun _ => fun
  | [d1, d2] => { results := [.lit (.bool false)], args := [d1, d2] }
  | _ => none }
def Fp6ProductsWrongFalsely : Prop := fp6ProductsRow.holds Try.pinned (OpenSpec.ofChange fp6ProductsWrong)

/-- 'sigillaw09.Fp6Sums': WHATEVER THE INPUT: true; the input reads as it did. -/
def fp6SumsSpec : ChangeSpec := { name := "fp6Sums", fn := fun _ => fun
  | [d1, d2, d3] => { results := [.lit (.bool true)], args := [d1, d2, d3] }
  | _ => none }
def fp6SumsRow : OpenClaim := { program := "ytkbbocpahnlkkaa", sum := "97de0cabee5dd8ef7316c0e3457c7569468ca78f85278b76546b718ad65ce556", func := "sigil/sigillaw09.Fp6Sums", spec := "fp6Sums", inPlace := ["math/bits.Sub64", "math/bits.Add64"], unfollowed := true, recurses := true, named := ["math/bits.divideError", "math/bits.overflowError"], apart := false }
def Fp6SumsSaid : Prop := fp6SumsRow.holds Try.pinned (OpenSpec.ofChange fp6SumsSpec)

/-- ITS FALSE NEIGHBOUR: 'it returns false'. Refute it at one input. -/
def fp6SumsWrong : ChangeSpec := { name := "fp6Sums", fn := fun _ => fun
  | [d1, d2, d3] => { results := [.lit (.bool false)], args := [d1, d2, d3] }
  | _ => none }
def Fp6SumsWrongFalsely : Prop := fp6SumsRow.holds Try.pinned (OpenSpec.ofChange fp6SumsWrong)

/-- 'sigillaw13.G2Brackets': WHATEVER THE INPUT: true; the input reads as it did. -/
def g2BracketsSpec : ChangeSpec := { name := "g2Brackets", fn := fun _ => fun
  | [d1, d2, d3] => { results := [.lit (.bool true)], args := [d1, d2, d3] }
  | _ => none }
def g2BracketsRow : OpenClaim := { program := "ytkbbocpahnlkkaa", sum := "97de0cabee5dd8ef7316c0e3457c7569468ca78f85278b76546b718ad65ce556", func := "sigil/sigillaw13.G2Brackets", spec := "g2Brackets", inPlace := ["math/bits.Sub64", "math/bits.Add64"], unfollowed := true, recurses := true, apart := false }
def G2BracketsSaid : Prop := g2BracketsRow.holds Try.pinned (OpenSpec.ofChange g2BracketsSpec)

/-- ITS FALSE NEIGHBOUR: 'it returns false'. Refute it at one input. -/
def g2BracketsWrong : ChangeSpec := { name := "g2Brackets", fn := fun _ => fun
  | [d1, d2, d3] => { results := [.lit (.bool false)], args := [d1, d2, d3] }
  | _ => none }
def G2BracketsWrongFalsely : Prop := g2BracketsRow.holds Try.pinned (OpenSpec.ofChange g2BracketsWrong)

/-- 'sigillaw13.G2Steps': WHATEVER THE INPUT: true; the input reads as it did. -/
def g2StepsSpec : ChangeSpec := { name := "g2Steps", fn := fun _ => fun
  | [d1, d2, d3] => { results := [.lit (.bool true)], args := [d1, d2, d3] }
  | _ => none }
def g2StepsRow : OpenClaim := { program := "ytkbbocpahnlkkaa", sum := "97de0cabee5dd8ef7316c0e3457c7569468ca78f85278b76546b718ad65ce556", func := "sigil/sigillaw13.G2Steps", spec := "g2Steps", inPlace := ["math/bits.Sub64", "math/bits.Add64"], unfollowed := true, recurses := true, apart := false }
def G2StepsSaid : Prop := g2StepsRow.holds Try.pinned (OpenSpec.ofChange g2StepsSpec)

/-- ITS FALSE NEIGHBOUR: 'it returns false'. Refute it at one input. -/
def g2StepsWrong : ChangeSpec := { name := "g2Steps", fn := fun _ => fun
  | [d1, d2, d3] => { results := [.lit (.bool false)], args := [d1, d2, d3] }
  | _ => none }
def G2StepsWrongFalsely : Prop := g2StepsRow.holds Try.pinned (OpenSpec.ofChange g2StepsWrong)

/-- 'sigillaw10.Fp12Products': WHATEVER THE INPUT: true; the input reads as it did. -/
def fp12ProductsSpec : ChangeSpec := { name := "fp12Products", fn := fun _ => fun
  | [d1, d2] => { results := [.lit (.bool true)], args := [d1, d2] }
  | _ => none }
def fp12ProductsRow : OpenClaim := { program := "ytkbbocpahnlkkaa", sum := "97de0cabee5dd8ef7316c0e3457c7569468ca78f85278b76546b718ad65ce556", func := "sigil/sigillaw10.Fp12Products", spec := "fp12Products", inPlace := ["math/bits.Sub64", "math/bits.Add64"], unfollowed := true, recurses := true, named := ["math/bits.divideError", "math/bits.overflowError"], apart := false }
def Fp12ProductsSaid : Prop := fp12ProductsRow.holds Try.pinned (OpenSpec.ofChange fp12ProductsSpec)

/-- ITS FALSE NEIGHBOUR: 'it returns false'. Refute it at one input. -/
def fp12ProductsWrong : ChangeSpec := { name := "fp12Products", fn := fun _ => fun
  | [d1, d2] => { results := [.lit (.bool false)], args := [d1, d2] }
  | _ => none }
def Fp12ProductsWrongFalsely : Prop := fp12ProductsRow.holds Try.pinned (OpenSpec.ofChange fp12ProductsWrong)

/-- 'sigillaw10.Fp12Powers': WHATEVER THE INPUT: true; the input reads as it did. -/
def fp12PowersSpec : ChangeSpec := { name := "fp12Powers", fn := fun _ => fun
  | [d1, d2] => { results := [.lit (.bool true)], args := [d1, d2] }
  | _ => none }
def fp12PowersRow : OpenClaim := { program := "ytkbbocpahnlkkaa", sum := "97de0cabee5dd8ef7316c0e3457c7569468ca78f85278b76546b718ad65ce556", func := "sigil/sigillaw10.Fp12Powers", spec := "fp12Powers", inPlace := ["math/bits.Sub64", "math/bits.Add64"], unfollowed := true, recurses := true, named := ["math/bits.divideError", "math/bits.overflowError"], apart := false }
def Fp12PowersSaid : Prop := fp12PowersRow.holds Try.pinned (OpenSpec.ofChange fp12PowersSpec)

/-- ITS FALSE NEIGHBOUR: 'it returns false'. Refute it at one input. -/
def fp12PowersWrong : ChangeSpec := { name := "fp12Powers", fn := fun _ => fun
  | [d1, d2] => { results := [.lit (.bool false)], args := [d1, d2] }
  | _ => none }
def Fp12PowersWrongFalsely : Prop := fp12PowersRow.holds Try.pinned (OpenSpec.ofChange fp12PowersWrong)

/-- 'sigillaw13.G2Adds': WHATEVER THE INPUT: true; the input reads as it did. -/
def g2AddsSpec : ChangeSpec := { name := "g2Adds", fn := fun _ => fun
  | [d1, d2] => { results := [.lit (.bool true)], args := [d1, d2] }
  | _ => none }
def g2AddsRow : OpenClaim := { program := "ytkbbocpahnlkkaa", sum := "97de0cabee5dd8ef7316c0e3457c7569468ca78f85278b76546b718ad65ce556", func := "sigil/sigillaw13.G2Adds", spec := "g2Adds", inPlace := ["math/bits.Sub64", "math/bits.Add64"], unfollowed := true, recurses := true, named := ["math/bits.divideError", "math/bits.overflowError"], apart := false }
def G2AddsSaid : Prop := g2AddsRow.holds Try.pinned (OpenSpec.ofChange g2AddsSpec)

/-- ITS FALSE NEIGHBOUR: 'it returns false'. Refute it at one input. -/
def g2AddsWrong : ChangeSpec := { name := "g2Adds", fn := fun _ => fun
  | [d1, d2] => { results := [.lit (.bool false)], args := [d1, d2] }
  | _ => none }
def G2AddsWrongFalsely : Prop := g2AddsRow.holds Try.pinned (OpenSpec.ofChange g2AddsWrong)

/-- 'sigillaw13.G2Muls': WHATEVER THE INPUT: true; the input reads as it did. -/
def g2MulsSpec : ChangeSpec := { name := "g2Muls", fn := fun _ => fun
  | [d1, d2] => { results := [.lit (.bool true)], args := [d1, d2] }
  | _ => none }
def g2MulsRow : OpenClaim := { program := "ytkbbocpahnlkkaa", sum := "97de0cabee5dd8ef7316c0e3457c7569468ca78f85278b76546b718ad65ce556", func := "sigil/sigillaw13.G2Muls", spec := "g2Muls", inPlace := ["math/bits.Sub64", "math/bits.Add64"], unfollowed := true, recurses := true, named := ["math/bits.divideError", "math/bits.overflowError"], apart := false }
def G2MulsSaid : Prop := g2MulsRow.holds Try.pinned (OpenSpec.ofChange g2MulsSpec)

/-- ITS FALSE NEIGHBOUR: 'it returns false'. Refute it at one input. -/
def g2MulsWrong : ChangeSpec := { name := "g2Muls", fn := fun _ => fun
  | [d1, d2] => { results := [.lit (.bool false)], args := [d1, d2] }
  | _ => none }
def G2MulsWrongFalsely : Prop := g2MulsRow.holds Try.pinned (OpenSpec.ofChange g2MulsWrong)

/-- 'sigillaw13.G2Sums': WHATEVER THE INPUT: true; the input reads as it did. -/
def g2SumsSpec : ChangeSpec := { name := "g2Sums", fn := fun _ => fun
  | [d1, d2] => { results := [.lit (.bool true)], args := [d1, d2] }
  | _ => none }
def g2SumsRow : OpenClaim := { program := "ytkbbocpahnlkkaa", sum := "97de0cabee5dd8ef7316c0e3457c7569468ca78f85278b76546b718ad65ce556", func := "sigil/sigillaw13.G2Sums", spec := "g2Sums", inPlace := ["math/bits.Sub64", "math/bits.Add64"], unfollowed := true, recurses := true, named := ["math/bits.divideError", "math/bits.overflowError"], apart := false }
def G2SumsSaid : Prop := g2SumsRow.holds Try.pinned (OpenSpec.ofChange g2SumsSpec)

/-- ITS FALSE NEIGHBOUR: 'it returns false'. Refute it at one input. -/
def g2SumsWrong : ChangeSpec := { name := "g2Sums", fn := fun _ => fun
  | [d1, d2] => { results := [.lit (.bool false)], args := [d1, d2] }
  | _ => none }
def G2SumsWrongFalsely : Prop := g2SumsRow.holds Try.pinned (OpenSpec.ofChange g2SumsWrong)

/- THE SECOND FORM. 'bulk': how many values and letters a reading holds, each counted each time it is reached (what is shared counts as often as it is met; a slice's spare places count too). A statement '..UptoSaid' is the law's where the arguments, and the package variables that the reading takes, are together of bulk at most 1048576: NARROWER than '..Said'. Prove '..Said' where nothing that the law and all that it calls make is longer than what came in: it says more and counts as full. Else prove '..UptoSaid'. A law counts once. -/
mutual
def uptoBulk {H : Type} : DataW H → Nat
  | .lit (.string bytes) => bytes.length + 1
  | .lit _ => 1
  | .nil => 1
  | .ptr d => uptoBulk d + 1
  | .slice elems spare => uptoBulkAll elems + uptoBulkAll spare + 1
  | .agg parts => uptoBulkAll parts + 1
  | .iface _ d => uptoBulk d + 1
  | .map entries => uptoBulkEntries entries + 1
  | .held _ => 1
def uptoBulkAll {H : Type} : List (DataW H) → Nat
  | [] => 0
  | d :: r => uptoBulk d + uptoBulkAll r
def uptoBulkEntries {H : Type} : List (Lit × DataW H) → Nat
  | [] => 0
  | x :: r => uptoBulkEntry x + uptoBulkEntries r
def uptoBulkEntry {H : Type} : Lit × DataW H → Nat
  | (.string bytes, d) => bytes.length + uptoBulk d + 1
  | (_, d) => uptoBulk d + 1
 end
def uptoSmall : (H : Type) → List (DataW H) → Bool := fun _ ds => decide (uptoBulkAll ds ≤ 1048576)
def OpenSpec.upto (s : _root_.Go.ChangeSpec) : _root_.Go.OpenSpec := { _root_.Go.OpenSpec.ofChange s with cond := some uptoSmall }

/-- 'sigillaw11.FrobSquares', WHERE WHAT IT READS IS OF BULK AT MOST 1048576: true; the input reads as it did. -/
def frobSquaresUptoRow : OpenClaim := { program := "ytkbbocpahnlkkaa", sum := "97de0cabee5dd8ef7316c0e3457c7569468ca78f85278b76546b718ad65ce556", func := "sigil/sigillaw11.FrobSquares", spec := "frobSquares", inPlace := ["math/bits.Sub64", "math/bits.Add64"], unfollowed := true, recurses := true, named := ["math/bits.divideError", "math/bits.overflowError"], apart := false, narrowed := true }
def FrobSquaresUptoSaid : Prop := frobSquaresUptoRow.holds Try.pinned (OpenSpec.upto frobSquaresSpec)

/-- 'sigillaw11.FrobTells', WHERE WHAT IT READS IS OF BULK AT MOST 1048576: true; the input reads as it did. -/
def frobTellsUptoRow : OpenClaim := { program := "ytkbbocpahnlkkaa", sum := "97de0cabee5dd8ef7316c0e3457c7569468ca78f85278b76546b718ad65ce556", func := "sigil/sigillaw11.FrobTells", spec := "frobTells", inPlace := ["math/bits.Sub64", "math/bits.Add64"], unfollowed := true, recurses := true, named := ["math/bits.divideError", "math/bits.overflowError"], apart := false, narrowed := true }
def FrobTellsUptoSaid : Prop := frobTellsUptoRow.holds Try.pinned (OpenSpec.upto frobTellsSpec)

/-- 'sigillaw10.Fp12Sums', WHERE WHAT IT READS IS OF BULK AT MOST 1048576: true; the input reads as it did. -/
def fp12SumsUptoRow : OpenClaim := { program := "ytkbbocpahnlkkaa", sum := "97de0cabee5dd8ef7316c0e3457c7569468ca78f85278b76546b718ad65ce556", func := "sigil/sigillaw10.Fp12Sums", spec := "fp12Sums", inPlace := ["math/bits.Sub64", "math/bits.Add64"], unfollowed := true, recurses := true, apart := false, narrowed := true }
def Fp12SumsUptoSaid : Prop := fp12SumsUptoRow.holds Try.pinned (OpenSpec.upto fp12SumsSpec)

/-- 'sigillaw07.Fp2Powers', WHERE WHAT IT READS IS OF BULK AT MOST 1048576: true; the input reads as it did. -/
def fp2PowersUptoRow : OpenClaim := { program := "ytkbbocpahnlkkaa", sum := "97de0cabee5dd8ef7316c0e3457c7569468ca78f85278b76546b718ad65ce556", func := "sigil/sigillaw07.Fp2Powers", spec := "fp2Powers", inPlace := ["math/bits.Sub64", "math/bits.Add64"], unfollowed := true, recurses := true, named := ["math/bits.divideError", "math/bits.overflowError"], apart := false, narrowed := true }
def Fp2PowersUptoSaid : Prop := fp2PowersUptoRow.holds Try.pinned (OpenSpec.upto fp2PowersSpec)

/-- 'sigillaw10.Fp12Adds', WHERE WHAT IT READS IS OF BULK AT MOST 1048576: true; the input reads as it did. -/
def fp12AddsUptoRow : OpenClaim := { program := "ytkbbocpahnlkkaa", sum := "97de0cabee5dd8ef7316c0e3457c7569468ca78f85278b76546b718ad65ce556", func := "sigil/sigillaw10.Fp12Adds", spec := "fp12Adds", inPlace := ["math/bits.Sub64", "math/bits.Add64"], unfollowed := true, recurses := true, apart := false, narrowed := true }
def Fp12AddsUptoSaid : Prop := fp12AddsUptoRow.holds Try.pinned (OpenSpec.upto fp12AddsSpec)

/-- 'sigillaw13.G2Names', WHERE WHAT IT READS IS OF BULK AT MOST 1048576: true; the input reads as it did. -/
def g2NamesUptoRow : OpenClaim := { program := "ytkbbocpahnlkkaa", sum := "97de0cabee5dd8ef7316c0e3457c7569468ca78f85278b76546b718ad65ce556", func := "sigil/sigillaw13.G2Names", spec := "g2Names", inPlace := ["math/bits.Sub64", "math/bits.Add64"], unfollowed := true, recurses := true, apart := false, narrowed := true }
def G2NamesUptoSaid : Prop := g2NamesUptoRow.holds Try.pinned (OpenSpec.upto g2NamesSpec)

/-- 'sigillaw13.G2Closed', WHERE WHAT IT READS IS OF BULK AT MOST 1048576: true; the input reads as it did. -/
def g2ClosedUptoRow : OpenClaim := { program := "ytkbbocpahnlkkaa", sum := "97de0cabee5dd8ef7316c0e3457c7569468ca78f85278b76546b718ad65ce556", func := "sigil/sigillaw13.G2Closed", spec := "g2Closed", inPlace := ["math/bits.Sub64", "math/bits.Add64"], unfollowed := true, recurses := true, apart := false, narrowed := true }
def G2ClosedUptoSaid : Prop := g2ClosedUptoRow.holds Try.pinned (OpenSpec.upto g2ClosedSpec)

/-- 'sigillaw13.G2Undoes', WHERE WHAT IT READS IS OF BULK AT MOST 1048576: true; the input reads as it did. -/
def g2UndoesUptoRow : OpenClaim := { program := "ytkbbocpahnlkkaa", sum := "97de0cabee5dd8ef7316c0e3457c7569468ca78f85278b76546b718ad65ce556", func := "sigil/sigillaw13.G2Undoes", spec := "g2Undoes", inPlace := ["math/bits.Sub64", "math/bits.Add64"], unfollowed := true, recurses := true, apart := false, narrowed := true }
def G2UndoesUptoSaid : Prop := g2UndoesUptoRow.holds Try.pinned (OpenSpec.upto g2UndoesSpec)

/-- 'sigillaw09.Fp6Products', WHERE WHAT IT READS IS OF BULK AT MOST 1048576: true; the input reads as it did. -/
def fp6ProductsUptoRow : OpenClaim := { program := "ytkbbocpahnlkkaa", sum := "97de0cabee5dd8ef7316c0e3457c7569468ca78f85278b76546b718ad65ce556", func := "sigil/sigillaw09.Fp6Products", spec := "fp6Products", inPlace := ["math/bits.Sub64", "math/bits.Add64"], unfollowed := true, recurses := true, named := ["math/bits.divideError", "math/bits.overflowError"], apart := false, narrowed := true }
def Fp6ProductsUptoSaid : Prop := fp6ProductsUptoRow.holds Try.pinned (OpenSpec.upto fp6ProductsSpec)

/-- 'sigillaw09.Fp6Sums', WHERE WHAT IT READS IS OF BULK AT MOST 1048576: true; the input reads as it did. -/
def fp6SumsUptoRow : OpenClaim := { program := "ytkbbocpahnlkkaa", sum := "97de0cabee5dd8ef7316c0e3457c7569468ca78f85278b76546b718ad65ce556", func := "sigil/sigillaw09.Fp6Sums", spec := "fp6Sums", inPlace := ["math/bits.Sub64", "math/bits.Add64"], unfollowed := true, recurses := true, named := ["math/bits.divideError", "math/bits.overflowError"], apart := false, narrowed := true }
def Fp6SumsUptoSaid : Prop := fp6SumsUptoRow.holds Try.pinned (OpenSpec.upto fp6SumsSpec)

/-- 'sigillaw13.G2Brackets', WHERE WHAT IT READS IS OF BULK AT MOST 1048576: true; the input reads as it did. -/
def g2BracketsUptoRow : OpenClaim := { program := "ytkbbocpahnlkkaa", sum := "97de0cabee5dd8ef7316c0e3457c7569468ca78f85278b76546b718ad65ce556", func := "sigil/sigillaw13.G2Brackets", spec := "g2Brackets", inPlace := ["math/bits.Sub64", "math/bits.Add64"], unfollowed := true, recurses := true, apart := false, narrowed := true }
def G2BracketsUptoSaid : Prop := g2BracketsUptoRow.holds Try.pinned (OpenSpec.upto g2BracketsSpec)

/-- 'sigillaw13.G2Steps', WHERE WHAT IT READS IS OF BULK AT MOST 1048576: true; the input reads as it did. -/
def g2StepsUptoRow : OpenClaim := { program := "ytkbbocpahnlkkaa", sum := "97de0cabee5dd8ef7316c0e3457c7569468ca78f85278b76546b718ad65ce556", func := "sigil/sigillaw13.G2Steps", spec := "g2Steps", inPlace := ["math/bits.Sub64", "math/bits.Add64"], unfollowed := true, recurses := true, apart := false, narrowed := true }
def G2StepsUptoSaid : Prop := g2StepsUptoRow.holds Try.pinned (OpenSpec.upto g2StepsSpec)

/-- 'sigillaw10.Fp12Products', WHERE WHAT IT READS IS OF BULK AT MOST 1048576: true; the input reads as it did. -/
def fp12ProductsUptoRow : OpenClaim := { program := "ytkbbocpahnlkkaa", sum := "97de0cabee5dd8ef7316c0e3457c7569468ca78f85278b76546b718ad65ce556", func := "sigil/sigillaw10.Fp12Products", spec := "fp12Products", inPlace := ["math/bits.Sub64", "math/bits.Add64"], unfollowed := true, recurses := true, named := ["math/bits.divideError", "math/bits.overflowError"], apart := false, narrowed := true }
def Fp12ProductsUptoSaid : Prop := fp12ProductsUptoRow.holds Try.pinned (OpenSpec.upto fp12ProductsSpec)

/-- 'sigillaw10.Fp12Powers', WHERE WHAT IT READS IS OF BULK AT MOST 1048576: true; the input reads as it did. -/
def fp12PowersUptoRow : OpenClaim := { program := "ytkbbocpahnlkkaa", sum := "97de0cabee5dd8ef7316c0e3457c7569468ca78f85278b76546b718ad65ce556", func := "sigil/sigillaw10.Fp12Powers", spec := "fp12Powers", inPlace := ["math/bits.Sub64", "math/bits.Add64"], unfollowed := true, recurses := true, named := ["math/bits.divideError", "math/bits.overflowError"], apart := false, narrowed := true }
def Fp12PowersUptoSaid : Prop := fp12PowersUptoRow.holds Try.pinned (OpenSpec.upto fp12PowersSpec)

/-- 'sigillaw13.G2Adds', WHERE WHAT IT READS IS OF BULK AT MOST 1048576: true; the input reads as it did. -/
def g2AddsUptoRow : OpenClaim := { program := "ytkbbocpahnlkkaa", sum := "97de0cabee5dd8ef7316c0e3457c7569468ca78f85278b76546b718ad65ce556", func := "sigil/sigillaw13.G2Adds", spec := "g2Adds", inPlace := ["math/bits.Sub64", "math/bits.Add64"], unfollowed := true, recurses := true, named := ["math/bits.divideError", "math/bits.overflowError"], apart := false, narrowed := true }
def G2AddsUptoSaid : Prop := g2AddsUptoRow.holds Try.pinned (OpenSpec.upto g2AddsSpec)

/-- 'sigillaw13.G2Muls', WHERE WHAT IT READS IS OF BULK AT MOST 1048576: true; the input reads as it did. -/
def g2MulsUptoRow : OpenClaim := { program := "ytkbbocpahnlkkaa", sum := "97de0cabee5dd8ef7316c0e3457c7569468ca78f85278b76546b718ad65ce556", func := "sigil/sigillaw13.G2Muls", spec := "g2Muls", inPlace := ["math/bits.Sub64", "math/bits.Add64"], unfollowed := true, recurses := true, named := ["math/bits.divideError", "math/bits.overflowError"], apart := false, narrowed := true }
def G2MulsUptoSaid : Prop := g2MulsUptoRow.holds Try.pinned (OpenSpec.upto g2MulsSpec)

/-- 'sigillaw13.G2Sums', WHERE WHAT IT READS IS OF BULK AT MOST 1048576: true; the input reads as it did. -/
def g2SumsUptoRow : OpenClaim := { program := "ytkbbocpahnlkkaa", sum := "97de0cabee5dd8ef7316c0e3457c7569468ca78f85278b76546b718ad65ce556", func := "sigil/sigillaw13.G2Sums", spec := "g2Sums", inPlace := ["math/bits.Sub64", "math/bits.Add64"], unfollowed := true, recurses := true, named := ["math/bits.divideError", "math/bits.overflowError"], apart := false, narrowed := true }
def G2SumsUptoSaid : Prop := g2SumsUptoRow.holds Try.pinned (OpenSpec.upto g2SumsSpec)

end Rows
end Go.Proofs.Ytkbbocpahnlkkaa
