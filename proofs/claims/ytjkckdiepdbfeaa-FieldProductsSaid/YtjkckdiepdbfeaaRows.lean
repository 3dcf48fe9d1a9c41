/-
  No cell of these rows narrows 'for every input' (looked for: loops, veiled, ifaces, maps, wideKeys, modest, calm, conditions, laid).
  DERIVED. THE GIVEN ROWS OF THIS SEAT. 6 by the template 'for every input the law returns true; each argument reads behind the call as it read before'; 0 by the template 'total and deterministic' (their statements: YtjkckdiepdbfeaaTotals.lean).
  GIVEN WITH THE SEED: the statements are not yours to turn. If you find one false, say at which input.
  Laid BY PROGRAM, IN A SANDBOX (cutbox-rows.mjs): the forced cells as the released guide's own fill.sh prints them over the translation 536c4df8b6bf6596… (all of the seat's roots in one cut). By AI agents, Wed Nov 11 2026. No macro, syntax, notation, axiom, sorry.
-/
import Derived.Test.YtjkckdiepdbfeaaChecked
import GoSem.Claim
import GoSem.ClaimJoined
import GoSem.ClaimMapViews
import Derived.JoinedTies
import Derived.KernelRfl
namespace Go.Proofs.Ytjkckdiepdbfeaa
/- THE CELL 'sum', in the pinned program and in every row, IS THE sha256 OF THE DUMP (.gsa) THAT YtjkckdiepdbfeaaProg.lean LOADS. Nothing in Lean hashes anything: it is a label: what it is worth is what the hold of that sum in a sandbox is worth. -/
noncomputable def Try.pinned : Pinned := { name := "ytjkckdiepdbfeaa", sum := "536c4df8b6bf6596fc69cdf374892dc1623e1ece774d79b9bcdaa68019a70533", checked := Try.checked }
namespace Rows
def none {H : Type} : Left H := { results := [], args := [] }

/-- 'caballaw06.FieldBytes': WHATEVER THE INPUT: true; the input reads as it did. -/
def fieldBytesSpec : ChangeSpec := { name := "fieldBytes", fn := fun _ => fun
  | [d1, d2] => { results := [.lit (.bool true)], args := [d1, d2] }
  | _ => none }
def fieldBytesRow : OpenClaim := { program := "ytjkckdiepdbfeaa", sum := "536c4df8b6bf6596fc69cdf374892dc1623e1ece774d79b9bcdaa68019a70533", func := "cabal/caballaw06.FieldBytes", spec := "fieldBytes", inPlace := ["math/bits.Add64"], apart := false }
def FieldBytesSaid : Prop := fieldBytesRow.holds Try.pinned (OpenSpec.ofChange fieldBytesSpec)

/-- ITS FALSE NEIGHBOUR: 'it returns false'. Refute it at one input. -/
def fieldBytesWrong : ChangeSpec := { name := "fieldBytes", fn := fun _ => fun
  | [d1, d2] => { results := [.lit (.bool false)], args := [d1, d2] }
  | _ => none }
def FieldBytesWrongFalsely : Prop := fieldBytesRow.holds Try.pinned (OpenSpec.ofChange fieldBytesWrong)

/-- 'caballaw06.FieldProducts': WHATEVER THE INPUT: true; the input reads as it did. -/
def fieldProductsSpec : ChangeSpec := { name := "fieldProducts", fn := fun _ => fun
  | [d1, d2] => { results := [.lit (.bool true)], args := [d1, d2] }
  | _ => none }
def fieldProductsRow : OpenClaim := { program := "ytjkckdiepdbfeaa", sum := "536c4df8b6bf6596fc69cdf374892dc1623e1ece774d79b9bcdaa68019a70533", func := "cabal/caballaw06.FieldProducts", spec := "fieldProducts", inPlace := ["math/bits.Add64"], apart := false }
def FieldProductsSaid : Prop := fieldProductsRow.holds Try.pinned (OpenSpec.ofChange fieldProductsSpec)

/-- ITS FALSE NEIGHBOUR: 'it returns false'. Refute it at one input. -/
def fieldProductsWrong : ChangeSpec := { name := "fieldProducts", fn := fun _ => fun
  | [d1, d2] => { results := [.lit (.bool false)], args := [d1, d2] }
  | _ => none }
def FieldProductsWrongFalsely : Prop := fieldProductsRow.holds Try.pinned (OpenSpec.ofChange fieldProductsWrong)

/-- 'caballaw06.FieldInverse': WHATEVER THE INPUT: true; the input reads as it did. -/
def fieldInverseSpec : ChangeSpec := { name := "fieldInverse", fn := fun _ => fun
  | [d] => { results := [.lit (.bool true)], args := [d] }
  | _ => none }
def fieldInverseRow : OpenClaim := { program := "ytjkckdiepdbfeaa", sum := "536c4df8b6bf6596fc69cdf374892dc1623e1ece774d79b9bcdaa68019a70533", func := "cabal/caballaw06.FieldInverse", spec := "fieldInverse", inPlace := ["math/bits.Add64"], apart := false }
def FieldInverseSaid : Prop := fieldInverseRow.holds Try.pinned (OpenSpec.ofChange fieldInverseSpec)

/-- ITS FALSE NEIGHBOUR: 'it returns false'. Refute it at one input. -/
def fieldInverseWrong : ChangeSpec := { name := "fieldInverse", fn := fun _ => fun
  | [d] => { results := [.lit (.bool false)], args := [d] }
  | _ => none }
def FieldInverseWrongFalsely : Prop := fieldInverseRow.holds Try.pinned (OpenSpec.ofChange fieldInverseWrong)

/-- 'caballaw06.FieldSums': WHATEVER THE INPUT: true; the input reads as it did. -/
def fieldSumsSpec : ChangeSpec := { name := "fieldSums", fn := fun _ => fun
  | [d1, d2] => { results := [.lit (.bool true)], args := [d1, d2] }
  | _ => none }
def fieldSumsRow : OpenClaim := { program := "ytjkckdiepdbfeaa", sum := "536c4df8b6bf6596fc69cdf374892dc1623e1ece774d79b9bcdaa68019a70533", func := "cabal/caballaw06.FieldSums", spec := "fieldSums", inPlace := ["math/bits.Add64"], apart := false }
def FieldSumsSaid : Prop := fieldSumsRow.holds Try.pinned (OpenSpec.ofChange fieldSumsSpec)

/-- ITS FALSE NEIGHBOUR: 'it returns false'. Refute it at one input. -/
def fieldSumsWrong : ChangeSpec := { name := "fieldSums", fn := fun _ => fun
  | [d1, d2] => { results := [.lit (.bool false)], args := [d1, d2] }
  | _ => none }
def FieldSumsWrongFalsely : Prop := fieldSumsRow.holds Try.pinned (OpenSpec.ofChange fieldSumsWrong)

/-- 'caballaw06.FieldRing': WHATEVER THE INPUT: true; the input reads as it did. -/
def fieldRingSpec : ChangeSpec := { name := "fieldRing", fn := fun _ => fun
  | [d1, d2, d3] => { results := [.lit (.bool true)], args := [d1, d2, d3] }
  | _ => none }
def fieldRingRow : OpenClaim := { program := "ytjkckdiepdbfeaa", sum := "536c4df8b6bf6596fc69cdf374892dc1623e1ece774d79b9bcdaa68019a70533", func := "cabal/caballaw06.FieldRing", spec := "fieldRing", inPlace := ["math/bits.Add64"], apart := false }
def FieldRingSaid : Prop := fieldRingRow.holds Try.pinned (OpenSpec.ofChange fieldRingSpec)

/-- ITS FALSE NEIGHBOUR: 'it returns false'. Refute it at one input. -/
def fieldRingWrong : ChangeSpec := { name := "fieldRing", fn := fun _ => fun
  | [d1, d2, d3] => { results := [.lit (.bool false)], args := [d1, d2, d3] }
  | _ => none }
def FieldRingWrongFalsely : Prop := fieldRingRow.holds Try.pinned (OpenSpec.ofChange fieldRingWrong)

/-- 'caballaw06.FieldMixed': WHATEVER THE INPUT: true; the input reads as it did. -/
def fieldMixedSpec : ChangeSpec := { name := "fieldMixed", fn := fun _ => fun
  | [d1, d2, d3] => { results := [.lit (.bool true)], args := [d1, d2, d3] }
  | _ => none }
def fieldMixedRow : OpenClaim := { program := "ytjkckdiepdbfeaa", sum := "536c4df8b6bf6596fc69cdf374892dc1623e1ece774d79b9bcdaa68019a70533", func := "cabal/caballaw06.FieldMixed", spec := "fieldMixed", inPlace := ["math/bits.Add64"], apart := false }
def FieldMixedSaid : Prop := fieldMixedRow.holds Try.pinned (OpenSpec.ofChange fieldMixedSpec)

/-- ITS FALSE NEIGHBOUR: 'it returns false'. Refute it at one input. -/
def fieldMixedWrong : ChangeSpec := { name := "fieldMixed", fn := fun _ => fun
  | [d1, d2, d3] => { results := [.lit (.bool false)], args := [d1, d2, d3] }
  | _ => none }
def FieldMixedWrongFalsely : Prop := fieldMixedRow.holds Try.pinned (OpenSpec.ofChange fieldMixedWrong)

/- THE SECOND FORM. 'bulk': how many values and letters a reading holds, each counted each time it is reached (what is shared counts as often as it is met; a slice's spare places count too). A statement '..UptoSaid' is the law's where the arguments, and the package variables that the reading takes, are together of bulk at most 1048576: NARROWER than '..Said'. Prove '..Said' where nothing that the law and all that it calls make is longer than what came in: it says more and counts as full. Else prove '..UptoSaid'. A law counts once. -/
mutual
def uptoBulk {H : Type} : DataW H → Nat
  | .lit (.string bytes) => bytes.length + 1
  | .lit _ => 1
  | .nil => 1
  | .ptr d => uptoBulk d + 1
  | .slice elems spare => uptoBulkAll elems + uptoBulkAll spare + 1
  | .agg parts => uptoBulkAll parts + 1
  | .iface _ d => uptoBulk d + 1
  | .map entries => uptoBulkEntries entries + 1
  | .held _ => 1
def uptoBulkAll {H : Type} : List (DataW H) → Nat
  | [] => 0
  | d :: r => uptoBulk d + uptoBulkAll r
def uptoBulkEntries {H : Type} : List (Lit × DataW H) → Nat
  | [] => 0
  | x :: r => uptoBulkEntry x + uptoBulkEntries r
def uptoBulkEntry {H : Type} : Lit × DataW H → Nat
  | (.string bytes, d) => bytes.length + uptoBulk d + 1
  | (_, d) => uptoBulk d + 1
 end
def uptoSmall : (H : Type) → List (DataW H) → Bool := fun _ ds => decide (uptoBulkAll ds ≤ 1048576)
def OpenSpec.upto (s : _root_.Go.ChangeSpec) : _root_.Go.OpenSpec := { _root_.Go.OpenSpec.ofChange s with cond := some uptoSmall }

/-- 'caballaw06.FieldBytes', WHERE WHAT IT READS IS OF BULK AT MOST 1048576: true; the input reads as it did. -/
def fieldBytesUptoRow : OpenClaim := { program := "ytjkckdiepdbfeaa", sum := "536c4df8b6bf6596fc69cdf374892dc1623e1ece774d79b9bcdaa68019a70533", func := "cabal/caballaw06.FieldBytes", spec := "fieldBytes", inPlace := ["math/bits.Add64"], apart := false, narrowed := true }
def FieldBytesUptoSaid : Prop := fieldBytesUptoRow.holds Try.pinned (OpenSpec.upto fieldBytesSpec)

/-- 'caballaw06.FieldProducts', WHERE WHAT IT READS IS OF BULK AT MOST 1048576: true; the input reads as it did. -/
def fieldProductsUptoRow : OpenClaim := { program := "ytjkckdiepdbfeaa", sum := "536c4df8b6bf6596fc69cdf374892dc1623e1ece774d79b9bcdaa68019a70533", func := "cabal/caballaw06.FieldProducts", spec := "fieldProducts", inPlace := ["math/bits.Add64"], apart := false, narrowed := true }
def FieldProductsUptoSaid : Prop := fieldProductsUptoRow.holds Try.pinned (OpenSpec.upto fieldProductsSpec)

/-- 'caballaw06.FieldInverse', WHERE WHAT IT READS IS OF BULK AT MOST 1048576: true; the input reads as it did. -/
def fieldInverseUptoRow : OpenClaim := { program := "ytjkckdiepdbfeaa", sum := "536c4df8b6bf6596fc69cdf374892dc1623e1ece774d79b9bcdaa68019a70533", func := "cabal/caballaw06.FieldInverse", spec := "fieldInverse", inPlace := ["math/bits.Add64"], apart := false, narrowed := true }
def FieldInverseUptoSaid : Prop := fieldInverseUptoRow.holds Try.pinned (OpenSpec.upto fieldInverseSpec)

/-- 'caballaw06.FieldSums', WHERE WHAT IT READS IS OF BULK AT MOST 1048576: true; the input reads as it did. -/
def fieldSumsUptoRow : OpenClaim := { program := "ytjkckdiepdbfeaa", sum := "536c4df8b6bf6596fc69cdf374892dc1623e1ece774d79b9bcdaa68019a70533", func := "cabal/caballaw06.FieldSums", spec := "fieldSums", inPlace := ["math/bits.Add64"], apart := false, narrowed := true }
def FieldSumsUptoSaid : Prop := fieldSumsUptoRow.holds Try.pinned (OpenSpec.upto fieldSumsSpec)

/-- 'caballaw06.FieldRing', WHERE WHAT IT READS IS OF BULK AT MOST 1048576: true; the input reads as it did. -/
def fieldRingUptoRow : OpenClaim := { program := "ytjkckdiepdbfeaa", sum := "536c4df8b6bf6596fc69cdf374892dc1623e1ece774d79b9bcdaa68019a70533", func := "cabal/caballaw06.FieldRing", spec := "fieldRing", inPlace := ["math/bits.Add64"], apart := false, narrowed := true }
def FieldRingUptoSaid : Prop := fieldRingUptoRow.holds Try.pinned (OpenSpec.upto fieldRingSpec)

/-- 'caballaw06.FieldMixed', WHERE WHAT IT READS IS OF BULK AT MOST 1048576: true; the input reads as it did. -/
def fieldMixedUptoRow : OpenClaim := { program := "ytjkckdiepdbfeaa", sum := "536c4df8b6bf6596fc69cdf374892dc1623e1ece774d79b9bcdaa68019a70533", func := "cabal/caballaw06.FieldMixed", spec := "fieldMixed", inPlace := ["math/bits.Add64"], apart := false, narrowed := true }
def FieldMixedUptoSaid : Prop := fieldMixedUptoRow.holds Try.pinned (OpenSpec.upto fieldMixedSpec)

end Rows
end Go.Proofs.Ytjkckdiepdbfeaa
