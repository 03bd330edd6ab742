/-
  No cell of these rows narrows 'for every input' (looked for: loops, veiled, ifaces, maps, wideKeys, modest, calm, conditions, laid).
  DERIVED. THE GIVEN ROWS OF THIS SEAT. 12 by the template 'for every input the law returns true; each argument reads behind the call as it read before'; 0 by the template 'total and deterministic' (their statements: YtkpihidjolfkoaaTotals.lean).
  GIVEN WITH THE SEED: the statements are not yours to turn. If you find one false, say at which input.
  Laid BY PROGRAM, IN A SANDBOX (cutbox-rows.mjs): the forced cells as the released guide's own fill.sh prints them over the translation 36d3f616076dd138… (all of the seat's roots in one cut). By AI agents, Wed Nov 11 2026. No macro, syntax, notation, axiom, sorry.
-/
import Derived.Test.YtkpihidjolfkoaaChecked
import GoSem.Claim
import GoSem.ClaimJoined
import GoSem.ClaimMapViews
import Derived.JoinedTies
import Derived.KernelRfl
namespace Go.Proofs.Ytkpihidjolfkoaa
/- THE CELL 'sum', in the pinned program and in every row, IS THE sha256 OF THE DUMP (.gsa) THAT YtkpihidjolfkoaaProg.lean LOADS. Nothing in Lean hashes anything: it is a label: what it is worth is what the hold of that sum in a sandbox is worth. -/
noncomputable def Try.pinned : Pinned := { name := "ytkpihidjolfkoaa", sum := "36d3f616076dd1381b4bd840108dedd3b3bc26d2ad7e0dde6e8c78593c00480f", checked := Try.checked }
namespace Rows
def none {H : Type} : Left H := { results := [], args := [] }

/-- 'sigillaw11.FrobHalf': WHATEVER THE INPUT: true; the input reads as it did. -/
def frobHalfSpec : ChangeSpec := { name := "frobHalf", fn := fun _ => fun
  | [d1, d2, d3, d4] => { results := [.lit (.bool true)], args := [d1, d2, d3, d4] }
  | _ => none }
def frobHalfRow : OpenClaim := { program := "ytkpihidjolfkoaa", sum := "36d3f616076dd1381b4bd840108dedd3b3bc26d2ad7e0dde6e8c78593c00480f", func := "sigil/sigillaw11.FrobHalf", spec := "frobHalf", inPlace := ["math/bits.Sub64", "math/bits.Add64"], unfollowed := true, recurses := true, apart := false }
def FrobHalfSaid : Prop := frobHalfRow.holds Try.pinned (OpenSpec.ofChange frobHalfSpec)

/-- ITS FALSE NEIGHBOUR: 'it returns false'. Refute it at one input. -/
def frobHalfWrong : ChangeSpec := { name := "frobHalf", fn := fun _ => fun
  | [d1, d2, d3, d4] => { results := [.lit (.bool false)], args := [d1, d2, d3, d4] }
  | _ => none }
def FrobHalfWrongFalsely : Prop := frobHalfRow.holds Try.pinned (OpenSpec.ofChange frobHalfWrong)

/-- 'sigillaw11.FrobSteps': WHATEVER THE INPUT: true; the input reads as it did. -/
def frobStepsSpec : ChangeSpec := { name := "frobSteps", fn := fun _ => fun
  | [d1, d2] => { results := [.lit (.bool true)], args := [d1, d2] }
  | _ => none }
def frobStepsRow : OpenClaim := { program := "ytkpihidjolfkoaa", sum := "36d3f616076dd1381b4bd840108dedd3b3bc26d2ad7e0dde6e8c78593c00480f", func := "sigil/sigillaw11.FrobSteps", spec := "frobSteps", inPlace := ["math/bits.Sub64", "math/bits.Add64"], unfollowed := true, recurses := true, apart := false }
def FrobStepsSaid : Prop := frobStepsRow.holds Try.pinned (OpenSpec.ofChange frobStepsSpec)

/-- ITS FALSE NEIGHBOUR: 'it returns false'. Refute it at one input. -/
def frobStepsWrong : ChangeSpec := { name := "frobSteps", fn := fun _ => fun
  | [d1, d2] => { results := [.lit (.bool false)], args := [d1, d2] }
  | _ => none }
def FrobStepsWrongFalsely : Prop := frobStepsRow.holds Try.pinned (OpenSpec.ofChange frobStepsWrong)

/-- 'sigillaw11.FrobPowers': WHATEVER THE INPUT: true; the input reads as it did. -/
def frobPowersSpec : ChangeSpec := { name := "frobPowers", fn := fun _ => fun
  | [d] => { results := [.lit (.bool true)], args := [d] }
  | _ => none }
def frobPowersRow : OpenClaim := { program := "ytkpihidjolfkoaa", sum := "36d3f616076dd1381b4bd840108dedd3b3bc26d2ad7e0dde6e8c78593c00480f", func := "sigil/sigillaw11.FrobPowers", spec := "frobPowers", inPlace := ["math/bits.Sub64", "math/bits.Add64"], unfollowed := true, recurses := true, apart := false }
def FrobPowersSaid : Prop := frobPowersRow.holds Try.pinned (OpenSpec.ofChange frobPowersSpec)

/-- ITS FALSE NEIGHBOUR: 'it returns false'. Refute it at one input. -/
def frobPowersWrong : ChangeSpec := { name := "frobPowers", fn := fun _ => fun
  | [d] => { results := [.lit (.bool false)], args := [d] }
  | _ => none }
def FrobPowersWrongFalsely : Prop := frobPowersRow.holds Try.pinned (OpenSpec.ofChange frobPowersWrong)

/-- 'sigillaw11.FrobWithin': WHATEVER THE INPUT: true; the input reads as it did. -/
def frobWithinSpec : ChangeSpec := { name := "frobWithin", fn := fun _ => fun
  | [d1, d2, d3] => { results := [.lit (.bool true)], args := [d1, d2, d3] }
  | _ => none }
def frobWithinRow : OpenClaim := { program := "ytkpihidjolfkoaa", sum := "36d3f616076dd1381b4bd840108dedd3b3bc26d2ad7e0dde6e8c78593c00480f", func := "sigil/sigillaw11.FrobWithin", spec := "frobWithin", inPlace := ["math/bits.Sub64", "math/bits.Add64"], unfollowed := true, recurses := true, apart := false }
def FrobWithinSaid : Prop := frobWithinRow.holds Try.pinned (OpenSpec.ofChange frobWithinSpec)

/-- ITS FALSE NEIGHBOUR: 'it returns false'. Refute it at one input. -/
def frobWithinWrong : ChangeSpec := { name := "frobWithin", fn := fun _ => fun
  | [d1, d2, d3] => { results := [.lit (.bool false)], args := [d1, d2, d3] }
  | _ => none }
def FrobWithinWrongFalsely : Prop := frobWithinRow.holds Try.pinned (OpenSpec.ofChange frobWithinWrong)

/-- 'sigillaw07.Fp2Parts': WHATEVER THE INPUT: true; the input reads as it did. -/
def fp2PartsSpec : ChangeSpec := { name := "fp2Parts", fn := fun _ => fun
  | [d1, d2] => { results := [.lit (.bool true)], args := [d1, d2] }
  | _ => none }
def fp2PartsRow : OpenClaim := { program := "ytkpihidjolfkoaa", sum := "36d3f616076dd1381b4bd840108dedd3b3bc26d2ad7e0dde6e8c78593c00480f", func := "sigil/sigillaw07.Fp2Parts", spec := "fp2Parts", inPlace := ["math/bits.Sub64", "math/bits.Add64"], unfollowed := true, recurses := true, apart := false }
def Fp2PartsSaid : Prop := fp2PartsRow.holds Try.pinned (OpenSpec.ofChange fp2PartsSpec)

/-- ITS FALSE NEIGHBOUR: 'it returns false'. Refute it at one input. -/
def fp2PartsWrong : ChangeSpec := { name := "fp2Parts", fn := fun _ => fun
  | [d1, d2] => { results := [.lit (.bool false)], args := [d1, d2] }
  | _ => none }
def Fp2PartsWrongFalsely : Prop := fp2PartsRow.holds Try.pinned (OpenSpec.ofChange fp2PartsWrong)

/-- 'sigillaw11.FrobSums': WHATEVER THE INPUT: true; the input reads as it did. -/
def frobSumsSpec : ChangeSpec := { name := "frobSums", fn := fun _ => fun
  | [d1, d2, d3] => { results := [.lit (.bool true)], args := [d1, d2, d3] }
  | _ => none }
def frobSumsRow : OpenClaim := { program := "ytkpihidjolfkoaa", sum := "36d3f616076dd1381b4bd840108dedd3b3bc26d2ad7e0dde6e8c78593c00480f", func := "sigil/sigillaw11.FrobSums", spec := "frobSums", inPlace := ["math/bits.Sub64", "math/bits.Add64"], unfollowed := true, recurses := true, apart := false }
def FrobSumsSaid : Prop := frobSumsRow.holds Try.pinned (OpenSpec.ofChange frobSumsSpec)

/-- ITS FALSE NEIGHBOUR: 'it returns false'. Refute it at one input. -/
def frobSumsWrong : ChangeSpec := { name := "frobSums", fn := fun _ => fun
  | [d1, d2, d3] => { results := [.lit (.bool false)], args := [d1, d2, d3] }
  | _ => none }
def FrobSumsWrongFalsely : Prop := frobSumsRow.holds Try.pinned (OpenSpec.ofChange frobSumsWrong)

/-- 'sigillaw07.Fp2Inverse': WHATEVER THE INPUT: true; the input reads as it did. -/
def fp2InverseSpec : ChangeSpec := { name := "fp2Inverse", fn := fun _ => fun
  | [d1, d2] => { results := [.lit (.bool true)], args := [d1, d2] }
  | _ => none }
def fp2InverseRow : OpenClaim := { program := "ytkpihidjolfkoaa", sum := "36d3f616076dd1381b4bd840108dedd3b3bc26d2ad7e0dde6e8c78593c00480f", func := "sigil/sigillaw07.Fp2Inverse", spec := "fp2Inverse", inPlace := ["math/bits.Sub64", "math/bits.Add64"], unfollowed := true, recurses := true, apart := false }
def Fp2InverseSaid : Prop := fp2InverseRow.holds Try.pinned (OpenSpec.ofChange fp2InverseSpec)

/-- ITS FALSE NEIGHBOUR: 'it returns false'. Refute it at one input. -/
def fp2InverseWrong : ChangeSpec := { name := "fp2Inverse", fn := fun _ => fun
  | [d1, d2] => { results := [.lit (.bool false)], args := [d1, d2] }
  | _ => none }
def Fp2InverseWrongFalsely : Prop := fp2InverseRow.holds Try.pinned (OpenSpec.ofChange fp2InverseWrong)

/-- 'sigillaw07.Fp2Conjugates': WHATEVER THE INPUT: true; the input reads as it did. -/
def fp2ConjugatesSpec : ChangeSpec := { name := "fp2Conjugates", fn := fun _ => fun
  | [d1, d2] => { results := [.lit (.bool true)], args := [d1, d2] }
  | _ => none }
def fp2ConjugatesRow : OpenClaim := { program := "ytkpihidjolfkoaa", sum := "36d3f616076dd1381b4bd840108dedd3b3bc26d2ad7e0dde6e8c78593c00480f", func := "sigil/sigillaw07.Fp2Conjugates", spec := "fp2Conjugates", inPlace := ["math/bits.Sub64", "math/bits.Add64"], unfollowed := true, recurses := true, apart := false }
def Fp2ConjugatesSaid : Prop := fp2ConjugatesRow.holds Try.pinned (OpenSpec.ofChange fp2ConjugatesSpec)

/-- ITS FALSE NEIGHBOUR: 'it returns false'. Refute it at one input. -/
def fp2ConjugatesWrong : ChangeSpec := { name := "fp2Conjugates", fn := fun _ => fun
  | [d1, d2] => { results := [.lit (.bool false)], args := [d1, d2] }
  | _ => none }
def Fp2ConjugatesWrongFalsely : Prop := fp2ConjugatesRow.holds Try.pinned (OpenSpec.ofChange fp2ConjugatesWrong)

/-- 'sigillaw07.Fp2Field': WHATEVER THE INPUT: true; the input reads as it did. -/
def fp2FieldSpec : ChangeSpec := { name := "fp2Field", fn := fun _ => fun
  | [d1, d2, d3] => { results := [.lit (.bool true)], args := [d1, d2, d3] }
  | _ => none }
def fp2FieldRow : OpenClaim := { program := "ytkpihidjolfkoaa", sum := "36d3f616076dd1381b4bd840108dedd3b3bc26d2ad7e0dde6e8c78593c00480f", func := "sigil/sigillaw07.Fp2Field", spec := "fp2Field", inPlace := ["math/bits.Sub64", "math/bits.Add64"], unfollowed := true, recurses := true, apart := false }
def Fp2FieldSaid : Prop := fp2FieldRow.holds Try.pinned (OpenSpec.ofChange fp2FieldSpec)

/-- ITS FALSE NEIGHBOUR: 'it returns false'. Refute it at one input. -/
def fp2FieldWrong : ChangeSpec := { name := "fp2Field", fn := fun _ => fun
  | [d1, d2, d3] => { results := [.lit (.bool false)], args := [d1, d2, d3] }
  | _ => none }
def Fp2FieldWrongFalsely : Prop := fp2FieldRow.holds Try.pinned (OpenSpec.ofChange fp2FieldWrong)

/-- 'sigillaw07.Fp2Frobenius': WHATEVER THE INPUT: true; the input reads as it did. -/
def fp2FrobeniusSpec : ChangeSpec := { name := "fp2Frobenius", fn := fun _ => fun
  | [d] => { results := [.lit (.bool true)], args := [d] }
  | _ => none }
def fp2FrobeniusRow : OpenClaim := { program := "ytkpihidjolfkoaa", sum := "36d3f616076dd1381b4bd840108dedd3b3bc26d2ad7e0dde6e8c78593c00480f", func := "sigil/sigillaw07.Fp2Frobenius", spec := "fp2Frobenius", inPlace := ["math/bits.Sub64", "math/bits.Add64"], unfollowed := true, recurses := true, apart := false }
def Fp2FrobeniusSaid : Prop := fp2FrobeniusRow.holds Try.pinned (OpenSpec.ofChange fp2FrobeniusSpec)

/-- ITS FALSE NEIGHBOUR: 'it returns false'. Refute it at one input. -/
def fp2FrobeniusWrong : ChangeSpec := { name := "fp2Frobenius", fn := fun _ => fun
  | [d] => { results := [.lit (.bool false)], args := [d] }
  | _ => none }
def Fp2FrobeniusWrongFalsely : Prop := fp2FrobeniusRow.holds Try.pinned (OpenSpec.ofChange fp2FrobeniusWrong)

/-- 'sigillaw07.Fp2Products': WHATEVER THE INPUT: true; the input reads as it did. -/
def fp2ProductsSpec : ChangeSpec := { name := "fp2Products", fn := fun _ => fun
  | [d1, d2] => { results := [.lit (.bool true)], args := [d1, d2] }
  | _ => none }
def fp2ProductsRow : OpenClaim := { program := "ytkpihidjolfkoaa", sum := "36d3f616076dd1381b4bd840108dedd3b3bc26d2ad7e0dde6e8c78593c00480f", func := "sigil/sigillaw07.Fp2Products", spec := "fp2Products", inPlace := ["math/bits.Sub64", "math/bits.Add64"], unfollowed := true, recurses := true, named := ["math/bits.divideError", "math/bits.overflowError"], apart := false }
def Fp2ProductsSaid : Prop := fp2ProductsRow.holds Try.pinned (OpenSpec.ofChange fp2ProductsSpec)

/-- ITS FALSE NEIGHBOUR: 'it returns false'. Refute it at one input. -/
def fp2ProductsWrong : ChangeSpec := { name := "fp2Products", fn := fun _ => fun
  | [d1, d2] => { results := [.lit (.bool false)], args := [d1, d2] }
  | _ => none }
def Fp2ProductsWrongFalsely : Prop := fp2ProductsRow.holds Try.pinned (OpenSpec.ofChange fp2ProductsWrong)

/-- 'sigillaw07.Fp2Sums': WHATEVER THE INPUT: true; the input reads as it did. -/
def fp2SumsSpec : ChangeSpec := { name := "fp2Sums", fn := fun _ => fun
  | [d1, d2, d3] => { results := [.lit (.bool true)], args := [d1, d2, d3] }
  | _ => none }
def fp2SumsRow : OpenClaim := { program := "ytkpihidjolfkoaa", sum := "36d3f616076dd1381b4bd840108dedd3b3bc26d2ad7e0dde6e8c78593c00480f", func := "sigil/sigillaw07.Fp2Sums", spec := "fp2Sums", inPlace := ["math/bits.Sub64", "math/bits.Add64"], unfollowed := true, recurses := true, named := ["math/bits.divideError", "math/bits.overflowError"], apart := false }
def Fp2SumsSaid : Prop := fp2SumsRow.holds Try.pinned (OpenSpec.ofChange fp2SumsSpec)

/-- ITS FALSE NEIGHBOUR: 'it returns false'. Refute it at one input. -/
def fp2SumsWrong : ChangeSpec := { name := "fp2Sums", fn := fun _ => fun
  | [d1, d2, d3] => { results := [.lit (.bool false)], args := [d1, d2, d3] }
  | _ => none }
def Fp2SumsWrongFalsely : Prop := fp2SumsRow.holds Try.pinned (OpenSpec.ofChange fp2SumsWrong)

/- THE SECOND FORM. 'bulk': how many values and letters a reading holds, each counted each time it is reached (what is shared counts as often as it is met; a slice's spare places count too). A statement '..UptoSaid' is the law's where the arguments, and the package variables that the reading takes, are together of bulk at most 1048576: NARROWER than '..Said'. Prove '..Said' where nothing that the law and all that it calls make is longer than what came in: it says more and counts as full. Else prove '..UptoSaid'. A law counts once. -/
mutual
def uptoBulk {H : Type} : DataW H → Nat
  | .lit (.string bytes) => bytes.length + 1
  | .lit _ => 1
  | .nil => 1
  | .ptr d => uptoBulk d + 1
  | .slice elems spare => uptoBulkAll elems + uptoBulkAll spare + 1
  | .agg parts => uptoBulkAll parts + 1
  | .iface _ d => uptoBulk d + 1
  | .map entries => uptoBulkEntries entries + 1
  | .held _ => 1
def uptoBulkAll {H : Type} : List (DataW H) → Nat
  | [] => 0
  | d :: r => uptoBulk d + uptoBulkAll r
def uptoBulkEntries {H : Type} : List (Lit × DataW H) → Nat
  | [] => 0
  | x :: r => uptoBulkEntry x + uptoBulkEntries r
def uptoBulkEntry {H : Type} : Lit × DataW H → Nat
  | (.string bytes, d) => bytes.length + uptoBulk d + 1
  | (_, d) => uptoBulk d + 1
 end
def uptoSmall : (H : Type) → List (DataW H) → Bool := fun _ ds => decide (uptoBulkAll ds ≤ 1048576)
def OpenSpec.upto (s : _root_.Go.ChangeSpec) : _root_.Go.OpenSpec := { _root_.Go.OpenSpec.ofChange s with cond := some uptoSmall }

/-- 'sigillaw11.FrobHalf', WHERE WHAT IT READS IS OF BULK AT MOST 1048576: true; the input reads as it did. -/
def frobHalfUptoRow : OpenClaim := { program := "ytkpihidjolfkoaa", sum := "36d3f616076dd1381b4bd840108dedd3b3bc26d2ad7e0dde6e8c78593c00480f", func := "sigil/sigillaw11.FrobHalf", spec := "frobHalf", inPlace := ["math/bits.Sub64", "math/bits.Add64"], unfollowed := true, recurses := true, apart := false, narrowed := true }
def FrobHalfUptoSaid : Prop := frobHalfUptoRow.holds Try.pinned (OpenSpec.upto frobHalfSpec)

/-- 'sigillaw11.FrobSteps', WHERE WHAT IT READS IS OF BULK AT MOST 1048576: true; the input reads as it did. -/
def frobStepsUptoRow : OpenClaim := { program := "ytkpihidjolfkoaa", sum := "36d3f616076dd1381b4bd840108dedd3b3bc26d2ad7e0dde6e8c78593c00480f", func := "sigil/sigillaw11.FrobSteps", spec := "frobSteps", inPlace := ["math/bits.Sub64", "math/bits.Add64"], unfollowed := true, recurses := true, apart := false, narrowed := true }
def FrobStepsUptoSaid : Prop := frobStepsUptoRow.holds Try.pinned (OpenSpec.upto frobStepsSpec)

/-- 'sigillaw11.FrobPowers', WHERE WHAT IT READS IS OF BULK AT MOST 1048576: true; the input reads as it did. -/
def frobPowersUptoRow : OpenClaim := { program := "ytkpihidjolfkoaa", sum := "36d3f616076dd1381b4bd840108dedd3b3bc26d2ad7e0dde6e8c78593c00480f", func := "sigil/sigillaw11.FrobPowers", spec := "frobPowers", inPlace := ["math/bits.Sub64", "math/bits.Add64"], unfollowed := true, recurses := true, apart := false, narrowed := true }
def FrobPowersUptoSaid : Prop := frobPowersUptoRow.holds Try.pinned (OpenSpec.upto frobPowersSpec)

/-- 'sigillaw11.FrobWithin', WHERE WHAT IT READS IS OF BULK AT MOST 1048576: true; the input reads as it did. -/
def frobWithinUptoRow : OpenClaim := { program := "ytkpihidjolfkoaa", sum := "36d3f616076dd1381b4bd840108dedd3b3bc26d2ad7e0dde6e8c78593c00480f", func := "sigil/sigillaw11.FrobWithin", spec := "frobWithin", inPlace := ["math/bits.Sub64", "math/bits.Add64"], unfollowed := true, recurses := true, apart := false, narrowed := true }
def FrobWithinUptoSaid : Prop := frobWithinUptoRow.holds Try.pinned (OpenSpec.upto frobWithinSpec)

/-- 'sigillaw07.Fp2Parts', WHERE WHAT IT READS IS OF BULK AT MOST 1048576: true; the input reads as it did. -/
def fp2PartsUptoRow : OpenClaim := { program := "ytkpihidjolfkoaa", sum := "36d3f616076dd1381b4bd840108dedd3b3bc26d2ad7e0dde6e8c78593c00480f", func := "sigil/sigillaw07.Fp2Parts", spec := "fp2Parts", inPlace := ["math/bits.Sub64", "math/bits.Add64"], unfollowed := true, recurses := true, apart := false, narrowed := true }
def Fp2PartsUptoSaid : Prop := fp2PartsUptoRow.holds Try.pinned (OpenSpec.upto fp2PartsSpec)

/-- 'sigillaw11.FrobSums', WHERE WHAT IT READS IS OF BULK AT MOST 1048576: true; the input reads as it did. -/
def frobSumsUptoRow : OpenClaim := { program := "ytkpihidjolfkoaa", sum := "36d3f616076dd1381b4bd840108dedd3b3bc26d2ad7e0dde6e8c78593c00480f", func := "sigil/sigillaw11.FrobSums", spec := "frobSums", inPlace := ["math/bits.Sub64", "math/bits.Add64"], unfollowed := true, recurses := true, apart := false, narrowed := true }
def FrobSumsUptoSaid : Prop := frobSumsUptoRow.holds Try.pinned (OpenSpec.upto frobSumsSpec)

/-- 'sigillaw07.Fp2Inverse', WHERE WHAT IT READS IS OF BULK AT MOST 1048576: true; the input reads as it did. -/
def fp2InverseUptoRow : OpenClaim := { program := "ytkpihidjolfkoaa", sum := "36d3f616076dd1381b4bd840108dedd3b3bc26d2ad7e0dde6e8c78593c00480f", func := "sigil/sigillaw07.Fp2Inverse", spec := "fp2Inverse", inPlace := ["math/bits.Sub64", "math/bits.Add64"], unfollowed := true, recurses := true, apart := false, narrowed := true }
def Fp2InverseUptoSaid : Prop := fp2InverseUptoRow.holds Try.pinned (OpenSpec.upto fp2InverseSpec)

/-- 'sigillaw07.Fp2Conjugates', WHERE WHAT IT READS IS OF BULK AT MOST 1048576: true; the input reads as it did. -/
def fp2ConjugatesUptoRow : OpenClaim := { program := "ytkpihidjolfkoaa", sum := "36d3f616076dd1381b4bd840108dedd3b3bc26d2ad7e0dde6e8c78593c00480f", func := "sigil/sigillaw07.Fp2Conjugates", spec := "fp2Conjugates", inPlace := ["math/bits.Sub64", "math/bits.Add64"], unfollowed := true, recurses := true, apart := false, narrowed := true }
def Fp2ConjugatesUptoSaid : Prop := fp2ConjugatesUptoRow.holds Try.pinned (OpenSpec.upto fp2ConjugatesSpec)

/-- 'sigillaw07.Fp2Field', WHERE WHAT IT READS IS OF BULK AT MOST 1048576: true; the input reads as it did. -/
def fp2FieldUptoRow : OpenClaim := { program := "ytkpihidjolfkoaa", sum := "36d3f616076dd1381b4bd840108dedd3b3bc26d2ad7e0dde6e8c78593c00480f", func := "sigil/sigillaw07.Fp2Field", spec := "fp2Field", inPlace := ["math/bits.Sub64", "math/bits.Add64"], unfollowed := true, recurses := true, apart := false, narrowed := true }
def Fp2FieldUptoSaid : Prop := fp2FieldUptoRow.holds Try.pinned (OpenSpec.upto fp2FieldSpec)

/-- 'sigillaw07.Fp2Frobenius', WHERE WHAT IT READS IS OF BULK AT MOST 1048576: true; the input reads as it did. -/
def fp2FrobeniusUptoRow : OpenClaim := { program := "ytkpihidjolfkoaa", sum := "36d3f616076dd1381b4bd840108dedd3b3bc26d2ad7e0dde6e8c78593c00480f", func := "sigil/sigillaw07.Fp2Frobenius", spec := "fp2Frobenius", inPlace := ["math/bits.Sub64", "math/bits.Add64"], unfollowed := true, recurses := true, apart := false, narrowed := true }
def Fp2FrobeniusUptoSaid : Prop := fp2FrobeniusUptoRow.holds Try.pinned (OpenSpec.upto fp2FrobeniusSpec)

/-- 'sigillaw07.Fp2Products', WHERE WHAT IT READS IS OF BULK AT MOST 1048576: true; the input reads as it did. -/
def fp2ProductsUptoRow : OpenClaim := { program := "ytkpihidjolfkoaa", sum := "36d3f616076dd1381b4bd840108dedd3b3bc26d2ad7e0dde6e8c78593c00480f", func := "sigil/sigillaw07.Fp2Products", spec := "fp2Products", inPlace := ["math/bits.Sub64", "math/bits.Add64"], unfollowed := true, recurses := true, named := ["math/bits.divideError", "math/bits.overflowError"], apart := false, narrowed := true }
def Fp2ProductsUptoSaid : Prop := fp2ProductsUptoRow.holds Try.pinned (OpenSpec.upto fp2ProductsSpec)

/-- 'sigillaw07.Fp2Sums', WHERE WHAT IT READS IS OF BULK AT MOST 1048576: true; the input reads as it did. -/
def fp2SumsUptoRow : OpenClaim := { program := "ytkpihidjolfkoaa", sum := "36d3f616076dd1381b4bd840108dedd3b3bc26d2ad7e0dde6e8c78593c00480f", func := "sigil/sigillaw07.Fp2Sums", spec := "fp2Sums", inPlace := ["math/bits.Sub64", "math/bits.Add64"], unfollowed := true, recurses := true, named := ["math/bits.divideError", "math/bits.overflowError"], apart := false, narrowed := true }
def Fp2SumsUptoSaid : Prop := fp2SumsUptoRow.holds Try.pinned (OpenSpec.upto fp2SumsSpec)

end Rows
end Go.Proofs.Ytkpihidjolfkoaa
