/-
  No cell of these rows narrows 'for every input' (looked for: loops, veiled, ifaces, maps, wideKeys, modest, calm, conditions, laid).
  DERIVED. THE GIVEN ROWS OF THIS SEAT. 9 by the template 'for every input the law returns true; each argument reads behind the call as it read before'; 0 by the template 'total and deterministic' (their statements: YthceokldlinjlaaTotals.lean).
  GIVEN WITH THE SEED: the statements are not yours to turn. If you find one false, say at which input.
  Laid BY PROGRAM, IN A SANDBOX (cutbox-rows.mjs): the forced cells as the released guide's own fill.sh prints them over the translation 2ac950f79de3fc28… (all of the seat's roots in one cut). By AI agents, Wed Nov 11 2026. No macro, syntax, notation, axiom, sorry.
-/
import Derived.Test.YthceokldlinjlaaChecked
import GoSem.Claim
import GoSem.ClaimJoined
import GoSem.ClaimMapViews
import Derived.JoinedTies
import Derived.KernelRfl
namespace Go.Proofs.Ythceokldlinjlaa
/- THE CELL 'sum', in the pinned program and in every row, IS THE sha256 OF THE DUMP (.gsa) THAT YthceokldlinjlaaProg.lean LOADS. Nothing in Lean hashes anything: it is a label: what it is worth is what the hold of that sum in a sandbox is worth. -/
noncomputable def Try.pinned : Pinned := { name := "ythceokldlinjlaa", sum := "2ac950f79de3fc283d3df10f15a1602bf77d738edd3381f753262732dee015c1", checked := Try.checked }
namespace Rows
def none {H : Type} : Left H := { results := [], args := [] }

/-- 'sigillaw10.Fp12Adds': WHATEVER THE INPUT: true; the input reads as it did. -/
def fp12AddsSpec : ChangeSpec := { name := "fp12Adds", fn := fun _ => fun
  | [d1, d2, d3] => { results := [.lit (.bool true)], args := [d1, d2, d3] }
  | _ => none }
def fp12AddsRow : OpenClaim := { program := "ythceokldlinjlaa", sum := "2ac950f79de3fc283d3df10f15a1602bf77d738edd3381f753262732dee015c1", func := "sigil/sigillaw10.Fp12Adds", spec := "fp12Adds", inPlace := ["math/bits.Sub64", "math/bits.Add64"], unfollowed := true, recurses := true, apart := false }
def Fp12AddsSaid : Prop := fp12AddsRow.holds Try.pinned (OpenSpec.ofChange fp12AddsSpec)

/-- ITS FALSE NEIGHBOUR: 'it returns false'. Refute it at one input. -/
def fp12AddsWrong : ChangeSpec := { name := "fp12Adds", fn := fun _ => fun
  | [d1, d2, d3] => { results := [.lit (.bool false)], args := [d1, d2, d3] }
  | _ => none }
def Fp12AddsWrongFalsely : Prop := fp12AddsRow.holds Try.pinned (OpenSpec.ofChange fp12AddsWrong)

/-- 'sigillaw13.G2Brackets': WHATEVER THE INPUT: true; the input reads as it did. -/
def g2BracketsSpec : ChangeSpec := { name := "g2Brackets", fn := fun _ => fun
  | [d1, d2, d3] => { results := [.lit (.bool true)], args := [d1, d2, d3] }
  | _ => none }
def g2BracketsRow : OpenClaim := { program := "ythceokldlinjlaa", sum := "2ac950f79de3fc283d3df10f15a1602bf77d738edd3381f753262732dee015c1", func := "sigil/sigillaw13.G2Brackets", spec := "g2Brackets", inPlace := ["math/bits.Sub64", "math/bits.Add64"], unfollowed := true, recurses := true, apart := false }
def G2BracketsSaid : Prop := g2BracketsRow.holds Try.pinned (OpenSpec.ofChange g2BracketsSpec)

/-- ITS FALSE NEIGHBOUR: 'it returns false'. Refute it at one input. -/
def g2BracketsWrong : ChangeSpec := { name := "g2Brackets", fn := fun _ => fun
  | [d1, d2, d3] => { results := [.lit (.bool false)], args := [d1, d2, d3] }
  | _ => none }
def G2BracketsWrongFalsely : Prop := g2BracketsRow.holds Try.pinned (OpenSpec.ofChange g2BracketsWrong)

/-- 'sigillaw13.G2Steps': WHATEVER THE INPUT: true; the input reads as it did. -/
def g2StepsSpec : ChangeSpec := { name := "g2Steps", fn := fun _ => fun
  | [d1, d2, d3] => { results := [.lit (.bool true)], args := [d1, d2, d3] }
  | _ => none }
def g2StepsRow : OpenClaim := { program := "ythceokldlinjlaa", sum := "2ac950f79de3fc283d3df10f15a1602bf77d738edd3381f753262732dee015c1", func := "sigil/sigillaw13.G2Steps", spec := "g2Steps", inPlace := ["math/bits.Sub64", "math/bits.Add64"], unfollowed := true, recurses := true, apart := false }
def G2StepsSaid : Prop := g2StepsRow.holds Try.pinned (OpenSpec.ofChange g2StepsSpec)

/-- ITS FALSE NEIGHBOUR: 'it returns false'. Refute it at one input. -/
def g2StepsWrong : ChangeSpec := { name := "g2Steps", fn := fun _ => fun
  | [d1, d2, d3] => { results := [.lit (.bool false)], args := [d1, d2, d3] }
  | _ => none }
def G2StepsWrongFalsely : Prop := g2StepsRow.holds Try.pinned (OpenSpec.ofChange g2StepsWrong)

/-- 'sigillaw14.SubOrders': WHATEVER THE INPUT: true; the input reads as it did. -/
def subOrdersSpec : ChangeSpec := { name := "subOrders", fn := fun _ => fun
  | [d1, d2] => { results := [.lit (.bool true)], args := [d1, d2] }
  | _ => none }
def subOrdersRow : OpenClaim := { program := "ythceokldlinjlaa", sum := "2ac950f79de3fc283d3df10f15a1602bf77d738edd3381f753262732dee015c1", func := "sigil/sigillaw14.SubOrders", spec := "subOrders", inPlace := ["math/bits.Sub64", "math/bits.Add64"], unfollowed := true, recurses := true, apart := false }
def SubOrdersSaid : Prop := subOrdersRow.holds Try.pinned (OpenSpec.ofChange subOrdersSpec)

/-- ITS FALSE NEIGHBOUR: 'it returns false'. Refute it at one input. -/
def subOrdersWrong : ChangeSpec := { name := "subOrders", fn := fun _ => fun
  | [d1, d2] => { results := [.lit (.bool false)], args := [d1, d2] }
  | _ => none }
def SubOrdersWrongFalsely : Prop := subOrdersRow.holds Try.pinned (OpenSpec.ofChange subOrdersWrong)

/-- 'sigillaw13.G2Sums': WHATEVER THE INPUT: true; the input reads as it did. -/
def g2SumsSpec : ChangeSpec := { name := "g2Sums", fn := fun _ => fun
  | [d1, d2] => { results := [.lit (.bool true)], args := [d1, d2] }
  | _ => none }
def g2SumsRow : OpenClaim := { program := "ythceokldlinjlaa", sum := "2ac950f79de3fc283d3df10f15a1602bf77d738edd3381f753262732dee015c1", func := "sigil/sigillaw13.G2Sums", spec := "g2Sums", inPlace := ["math/bits.Sub64", "math/bits.Add64"], unfollowed := true, recurses := true, named := ["math/bits.divideError", "math/bits.overflowError"], apart := false }
def G2SumsSaid : Prop := g2SumsRow.holds Try.pinned (OpenSpec.ofChange g2SumsSpec)

/-- ITS FALSE NEIGHBOUR: 'it returns false'. Refute it at one input. -/
def g2SumsWrong : ChangeSpec := { name := "g2Sums", fn := fun _ => fun
  | [d1, d2] => { results := [.lit (.bool false)], args := [d1, d2] }
  | _ => none }
def G2SumsWrongFalsely : Prop := g2SumsRow.holds Try.pinned (OpenSpec.ofChange g2SumsWrong)

/-- 'sigillaw14.SubTells2': WHATEVER THE INPUT: true; the input reads as it did. -/
def subTells2Spec : ChangeSpec := { name := "subTells2", fn := fun _ => fun
  | [d] => { results := [.lit (.bool true)], args := [d] }
  | _ => none }
def subTells2Row : OpenClaim := { program := "ythceokldlinjlaa", sum := "2ac950f79de3fc283d3df10f15a1602bf77d738edd3381f753262732dee015c1", func := "sigil/sigillaw14.SubTells2", spec := "subTells2", inPlace := ["math/bits.Sub64", "math/bits.Add64"], unfollowed := true, recurses := true, named := ["math/bits.divideError", "math/bits.overflowError"], apart := false }
def SubTells2Said : Prop := subTells2Row.holds Try.pinned (OpenSpec.ofChange subTells2Spec)

/-- ITS FALSE NEIGHBOUR: 'it returns false'. Refute it at one input. -/
def subTells2Wrong : ChangeSpec := { name := "subTells2", fn := fun _ => fun
  | [d] => { results := [.lit (.bool false)], args := [d] }
  | _ => none }
def SubTells2WrongFalsely : Prop := subTells2Row.holds Try.pinned (OpenSpec.ofChange subTells2Wrong)

/-- 'sigillaw14.SubTells1': WHATEVER THE INPUT: true; the input reads as it did. -/
def subTells1Spec : ChangeSpec := { name := "subTells1", fn := fun _ => fun
  | [d] => { results := [.lit (.bool true)], args := [d] }
  | _ => none }
def subTells1Row : OpenClaim := { program := "ythceokldlinjlaa", sum := "2ac950f79de3fc283d3df10f15a1602bf77d738edd3381f753262732dee015c1", func := "sigil/sigillaw14.SubTells1", spec := "subTells1", inPlace := ["math/bits.Sub64", "math/bits.Add64"], unfollowed := true, recurses := true, named := ["math/bits.divideError", "math/bits.overflowError"], apart := false }
def SubTells1Said : Prop := subTells1Row.holds Try.pinned (OpenSpec.ofChange subTells1Spec)

/-- ITS FALSE NEIGHBOUR: 'it returns false'. Refute it at one input. -/
def subTells1Wrong : ChangeSpec := { name := "subTells1", fn := fun _ => fun
  | [d] => { results := [.lit (.bool false)], args := [d] }
  | _ => none }
def SubTells1WrongFalsely : Prop := subTells1Row.holds Try.pinned (OpenSpec.ofChange subTells1Wrong)

/-- 'sigillaw14.SubImages': WHATEVER THE INPUT: true; the input reads as it did. -/
def subImagesSpec : ChangeSpec := { name := "subImages", fn := fun _ => fun
  | [d1, d2] => { results := [.lit (.bool true)], args := [d1, d2] }
  | _ => none }
def subImagesRow : OpenClaim := { program := "ythceokldlinjlaa", sum := "2ac950f79de3fc283d3df10f15a1602bf77d738edd3381f753262732dee015c1", func := "sigil/sigillaw14.SubImages", spec := "subImages", inPlace := ["math/bits.Sub64", "math/bits.Add64"], unfollowed := true, recurses := true, apart := false }
def SubImagesSaid : Prop := subImagesRow.holds Try.pinned (OpenSpec.ofChange subImagesSpec)

/-- ITS FALSE NEIGHBOUR: 'it returns false'. Refute it at one input. -/
def subImagesWrong : ChangeSpec := { name := "subImages", fn := fun _ => fun
  | [d1, d2] => { results := [.lit (.bool false)], args := [d1, d2] }
  | _ => none }
def SubImagesWrongFalsely : Prop := subImagesRow.holds Try.pinned (OpenSpec.ofChange subImagesWrong)

/-- 'sigillaw14.SubTimes': WHATEVER THE INPUT: true; the input reads as it did. -/
def subTimesSpec : ChangeSpec := { name := "subTimes", fn := fun _ => fun
  | [d1, d2] => { results := [.lit (.bool true)], args := [d1, d2] }
  | _ => none }
def subTimesRow : OpenClaim := { program := "ythceokldlinjlaa", sum := "2ac950f79de3fc283d3df10f15a1602bf77d738edd3381f753262732dee015c1", func := "sigil/sigillaw14.SubTimes", spec := "subTimes", inPlace := ["math/bits.Sub64", "math/bits.Add64"], unfollowed := true, recurses := true, named := ["math/bits.divideError", "math/bits.overflowError"], apart := false }
def SubTimesSaid : Prop := subTimesRow.holds Try.pinned (OpenSpec.ofChange subTimesSpec)

/-- ITS FALSE NEIGHBOUR: 'it returns false'. Refute it at one input. -/
def subTimesWrong : ChangeSpec := { name := "subTimes", fn := fun _ => fun
  | [d1, d2] => { results := [.lit (.bool false)], args := [d1, d2] }
  | _ => none }
def SubTimesWrongFalsely : Prop := subTimesRow.holds Try.pinned (OpenSpec.ofChange subTimesWrong)

/- THE SECOND FORM. 'bulk': how many values and letters a reading holds, each counted each time it is reached (what is shared counts as often as it is met; a slice's spare places count too). A statement '..UptoSaid' is the law's where the arguments, and the package variables that the reading takes, are together of bulk at most 1048576: NARROWER than '..Said'. Prove '..Said' where nothing that the law and all that it calls make is longer than what came in: it says more and counts as full. Else prove '..UptoSaid'. A law counts once. -/
mutual
def uptoBulk {H : Type} : DataW H → Nat
  | .lit (.string bytes) => bytes.length + 1
  | .lit _ => 1
  | .nil => 1
  | .ptr d => uptoBulk d + 1
  | .slice elems spare => uptoBulkAll elems + uptoBulkAll spare + 1
  | .agg parts => uptoBulkAll parts + 1
  | .iface _ d => uptoBulk d + 1
  | .map entries => uptoBulkEntries entries + 1
  | .held _ => 1
def uptoBulkAll {H : Type} : List (DataW H) → Nat
  | [] => 0
  | d :: r => uptoBulk d + uptoBulkAll r
def uptoBulkEntries {H : Type} : List (Lit × DataW H) → Nat
  | [] => 0
  | x :: r => uptoBulkEntry x + uptoBulkEntries r
def uptoBulkEntry {H : Type} : Lit × DataW H → Nat
  | (.string bytes, d) => bytes.length + uptoBulk d + 1
  | (_, d) => uptoBulk d + 1
 end
def uptoSmall : (H : Type) → List (DataW H) → Bool := fun _ ds => decide (uptoBulkAll ds ≤ 1048576)
def OpenSpec.upto (s : _root_.Go.ChangeSpec) : _root_.Go.OpenSpec := { _root_.Go.OpenSpec.ofChange s with cond := some uptoSmall }

/-- 'sigillaw10.Fp12Adds', WHERE WHAT IT READS IS OF BULK AT MOST 1048576: true; the input reads as it did. -/
def fp12AddsUptoRow : OpenClaim := { program := "ythceokldlinjlaa", sum := "2ac950f79de3fc283d3df10f15a1602bf77d738edd3381f753262732dee015c1", func := "sigil/sigillaw10.Fp12Adds", spec := "fp12Adds", inPlace := ["math/bits.Sub64", "math/bits.Add64"], unfollowed := true, recurses := true, apart := false, narrowed := true }
def Fp12AddsUptoSaid : Prop := fp12AddsUptoRow.holds Try.pinned (OpenSpec.upto fp12AddsSpec)

/-- 'sigillaw13.G2Brackets', WHERE WHAT IT READS IS OF BULK AT MOST 1048576: true; the input reads as it did. -/
def g2BracketsUptoRow : OpenClaim := { program := "ythceokldlinjlaa", sum := "2ac950f79de3fc283d3df10f15a1602bf77d738edd3381f753262732dee015c1", func := "sigil/sigillaw13.G2Brackets", spec := "g2Brackets", inPlace := ["math/bits.Sub64", "math/bits.Add64"], unfollowed := true, recurses := true, apart := false, narrowed := true }
def G2BracketsUptoSaid : Prop := g2BracketsUptoRow.holds Try.pinned (OpenSpec.upto g2BracketsSpec)

/-- 'sigillaw13.G2Steps', WHERE WHAT IT READS IS OF BULK AT MOST 1048576: true; the input reads as it did. -/
def g2StepsUptoRow : OpenClaim := { program := "ythceokldlinjlaa", sum := "2ac950f79de3fc283d3df10f15a1602bf77d738edd3381f753262732dee015c1", func := "sigil/sigillaw13.G2Steps", spec := "g2Steps", inPlace := ["math/bits.Sub64", "math/bits.Add64"], unfollowed := true, recurses := true, apart := false, narrowed := true }
def G2StepsUptoSaid : Prop := g2StepsUptoRow.holds Try.pinned (OpenSpec.upto g2StepsSpec)

/-- 'sigillaw14.SubOrders', WHERE WHAT IT READS IS OF BULK AT MOST 1048576: true; the input reads as it did. -/
def subOrdersUptoRow : OpenClaim := { program := "ythceokldlinjlaa", sum := "2ac950f79de3fc283d3df10f15a1602bf77d738edd3381f753262732dee015c1", func := "sigil/sigillaw14.SubOrders", spec := "subOrders", inPlace := ["math/bits.Sub64", "math/bits.Add64"], unfollowed := true, recurses := true, apart := false, narrowed := true }
def SubOrdersUptoSaid : Prop := subOrdersUptoRow.holds Try.pinned (OpenSpec.upto subOrdersSpec)

/-- 'sigillaw13.G2Sums', WHERE WHAT IT READS IS OF BULK AT MOST 1048576: true; the input reads as it did. -/
def g2SumsUptoRow : OpenClaim := { program := "ythceokldlinjlaa", sum := "2ac950f79de3fc283d3df10f15a1602bf77d738edd3381f753262732dee015c1", func := "sigil/sigillaw13.G2Sums", spec := "g2Sums", inPlace := ["math/bits.Sub64", "math/bits.Add64"], unfollowed := true, recurses := true, named := ["math/bits.divideError", "math/bits.overflowError"], apart := false, narrowed := true }
def G2SumsUptoSaid : Prop := g2SumsUptoRow.holds Try.pinned (OpenSpec.upto g2SumsSpec)

/-- 'sigillaw14.SubTells2', WHERE WHAT IT READS IS OF BULK AT MOST 1048576: true; the input reads as it did. -/
def subTells2UptoRow : OpenClaim := { program := "ythceokldlinjlaa", sum := "2ac950f79de3fc283d3df10f15a1602bf77d738edd3381f753262732dee015c1", func := "sigil/sigillaw14.SubTells2", spec := "subTells2", inPlace := ["math/bits.Sub64", "math/bits.Add64"], unfollowed := true, recurses := true, named := ["math/bits.divideError", "math/bits.overflowError"], apart := false, narrowed := true }
def SubTells2UptoSaid : Prop := subTells2UptoRow.holds Try.pinned (OpenSpec.upto subTells2Spec)

/-- 'sigillaw14.SubTells1', WHERE WHAT IT READS IS OF BULK AT MOST 1048576: true; the input reads as it did. -/
def subTells1UptoRow : OpenClaim := { program := "ythceokldlinjlaa", sum := "2ac950f79de3fc283d3df10f15a1602bf77d738edd3381f753262732dee015c1", func := "sigil/sigillaw14.SubTells1", spec := "subTells1", inPlace := ["math/bits.Sub64", "math/bits.Add64"], unfollowed := true, recurses := true, named := ["math/bits.divideError", "math/bits.overflowError"], apart := false, narrowed := true }
def SubTells1UptoSaid : Prop := subTells1UptoRow.holds Try.pinned (OpenSpec.upto subTells1Spec)

/-- 'sigillaw14.SubImages', WHERE WHAT IT READS IS OF BULK AT MOST 1048576: true; the input reads as it did. -/
def subImagesUptoRow : OpenClaim := { program := "ythceokldlinjlaa", sum := "2ac950f79de3fc283d3df10f15a1602bf77d738edd3381f753262732dee015c1", func := "sigil/sigillaw14.SubImages", spec := "subImages", inPlace := ["math/bits.Sub64", "math/bits.Add64"], unfollowed := true, recurses := true, apart := false, narrowed := true }
def SubImagesUptoSaid : Prop := subImagesUptoRow.holds Try.pinned (OpenSpec.upto subImagesSpec)

/-- 'sigillaw14.SubTimes', WHERE WHAT IT READS IS OF BULK AT MOST 1048576: true; the input reads as it did. -/
def subTimesUptoRow : OpenClaim := { program := "ythceokldlinjlaa", sum := "2ac950f79de3fc283d3df10f15a1602bf77d738edd3381f753262732dee015c1", func := "sigil/sigillaw14.SubTimes", spec := "subTimes", inPlace := ["math/bits.Sub64", "math/bits.Add64"], unfollowed := true, recurses := true, named := ["math/bits.divideError", "math/bits.overflowError"], apart := false, narrowed := true }
def SubTimesUptoSaid : Prop := subTimesUptoRow.holds Try.pinned (OpenSpec.upto subTimesSpec)

end Rows
end Go.Proofs.Ythceokldlinjlaa
