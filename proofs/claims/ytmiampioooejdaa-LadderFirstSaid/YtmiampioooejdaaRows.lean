/-
  No cell of these rows narrows 'for every input' (looked for: loops, veiled, ifaces, maps, wideKeys, modest, calm, conditions, laid).
  DERIVED. THE GIVEN ROWS OF THIS SEAT. 6 by the template 'for every input the law returns true; each argument reads behind the call as it read before'; 0 by the template 'total and deterministic' (their statements: YtmiampioooejdaaTotals.lean).
  GIVEN WITH THE SEED: the statements are not yours to turn. If you find one false, say at which input.
  Laid BY PROGRAM, IN A SANDBOX (cutbox-rows.mjs): the forced cells as the released guide's own fill.sh prints them over the translation 3b4f412a9e0b5e8e… (all of the seat's roots in one cut). By AI agents, Wed Nov 11 2026. No macro, syntax, notation, axiom, sorry.
-/
import Derived.Test.YtmiampioooejdaaChecked
import GoSem.Claim
import GoSem.ClaimJoined
import GoSem.ClaimMapViews
import Derived.JoinedTies
import Derived.KernelRfl
namespace Go.Proofs.Ytmiampioooejdaa
/- THE CELL 'sum', in the pinned program and in every row, IS THE sha256 OF THE DUMP (.gsa) THAT YtmiampioooejdaaProg.lean LOADS. Nothing in Lean hashes anything: it is a label: what it is worth is what the hold of that sum in a sandbox is worth. -/
noncomputable def Try.pinned : Pinned := { name := "ytmiampioooejdaa", sum := "3b4f412a9e0b5e8e6a453a69c69da8864bbf3a150cee0845f844f6fe07e07e17", checked := Try.checked }
namespace Rows
def none {H : Type} : Left H := { results := [], args := [] }

/-- 'caballaw06.FieldBytes': WHATEVER THE INPUT: true; the input reads as it did. -/
def fieldBytesSpec : ChangeSpec := { name := "fieldBytes", fn := fun _ => fun
  | [d1, d2] => { results := [.lit (.bool true)], args := [d1, d2] }
  | _ => none }
def fieldBytesRow : OpenClaim := { program := "ytmiampioooejdaa", sum := "3b4f412a9e0b5e8e6a453a69c69da8864bbf3a150cee0845f844f6fe07e07e17", func := "cabal/caballaw06.FieldBytes", spec := "fieldBytes", inPlace := ["math/bits.Add64"], apart := false }
def FieldBytesSaid : Prop := fieldBytesRow.holds Try.pinned (OpenSpec.ofChange fieldBytesSpec)

/-- ITS FALSE NEIGHBOUR: 'it returns false'. Refute it at one input. -/
def fieldBytesWrong : ChangeSpec := { name := "fieldBytes", fn := fun _ => fun
  | [d1, d2] => { results := [.lit (.bool false)], args := [d1, d2] }
  | _ => none }
def FieldBytesWrongFalsely : Prop := fieldBytesRow.holds Try.pinned (OpenSpec.ofChange fieldBytesWrong)

/-- 'caballaw07.LadderPublic': WHATEVER THE INPUT: true; the input reads as it did. -/
def ladderPublicSpec : ChangeSpec := { name := "ladderPublic", fn := fun _ => fun
  | [d] => { results := [.lit (.bool true)], args := [d] }
  | _ => none }
def ladderPublicRow : OpenClaim := { program := "ytmiampioooejdaa", sum := "3b4f412a9e0b5e8e6a453a69c69da8864bbf3a150cee0845f844f6fe07e07e17", func := "cabal/caballaw07.LadderPublic", spec := "ladderPublic", inPlace := ["math/bits.Add64"], apart := false }
def LadderPublicSaid : Prop := ladderPublicRow.holds Try.pinned (OpenSpec.ofChange ladderPublicSpec)

/-- ITS FALSE NEIGHBOUR: 'it returns false'. Refute it at one input. -/
def ladderPublicWrong : ChangeSpec := { name := "ladderPublic", fn := fun _ => fun
  | [d] => { results := [.lit (.bool false)], args := [d] }
  | _ => none }
def LadderPublicWrongFalsely : Prop := ladderPublicRow.holds Try.pinned (OpenSpec.ofChange ladderPublicWrong)

/-- 'caballaw07.LadderAgrees': WHATEVER THE INPUT: true; the input reads as it did. -/
def ladderAgreesSpec : ChangeSpec := { name := "ladderAgrees", fn := fun _ => fun
  | [d1, d2] => { results := [.lit (.bool true)], args := [d1, d2] }
  | _ => none }
def ladderAgreesRow : OpenClaim := { program := "ytmiampioooejdaa", sum := "3b4f412a9e0b5e8e6a453a69c69da8864bbf3a150cee0845f844f6fe07e07e17", func := "cabal/caballaw07.LadderAgrees", spec := "ladderAgrees", inPlace := ["math/bits.Add64"], apart := false }
def LadderAgreesSaid : Prop := ladderAgreesRow.holds Try.pinned (OpenSpec.ofChange ladderAgreesSpec)

/-- ITS FALSE NEIGHBOUR: 'it returns false'. Refute it at one input. -/
def ladderAgreesWrong : ChangeSpec := { name := "ladderAgrees", fn := fun _ => fun
  | [d1, d2] => { results := [.lit (.bool false)], args := [d1, d2] }
  | _ => none }
def LadderAgreesWrongFalsely : Prop := ladderAgreesRow.holds Try.pinned (OpenSpec.ofChange ladderAgreesWrong)

/-- 'caballaw07.LadderBits': WHATEVER THE INPUT: true; the input reads as it did. -/
def ladderBitsSpec : ChangeSpec := { name := "ladderBits", fn := fun _ => fun
  | [d1, d2, d3, d4] => { results := [.lit (.bool true)], args := [d1, d2, d3, d4] }
  | _ => none }
def ladderBitsRow : OpenClaim := { program := "ytmiampioooejdaa", sum := "3b4f412a9e0b5e8e6a453a69c69da8864bbf3a150cee0845f844f6fe07e07e17", func := "cabal/caballaw07.LadderBits", spec := "ladderBits", inPlace := ["math/bits.Add64"], apart := false }
def LadderBitsSaid : Prop := ladderBitsRow.holds Try.pinned (OpenSpec.ofChange ladderBitsSpec)

/-- ITS FALSE NEIGHBOUR: 'it returns false'. Refute it at one input. -/
def ladderBitsWrong : ChangeSpec := { name := "ladderBits", fn := fun _ => fun
  | [d1, d2, d3, d4] => { results := [.lit (.bool false)], args := [d1, d2, d3, d4] }
  | _ => none }
def LadderBitsWrongFalsely : Prop := ladderBitsRow.holds Try.pinned (OpenSpec.ofChange ladderBitsWrong)

/-- 'caballaw07.LadderFirst': WHATEVER THE INPUT: true; the input reads as it did. -/
def ladderFirstSpec : ChangeSpec := { name := "ladderFirst", fn := fun _ => fun
  | [d] => { results := [.lit (.bool true)], args := [d] }
  | _ => none }
def ladderFirstRow : OpenClaim := { program := "ytmiampioooejdaa", sum := "3b4f412a9e0b5e8e6a453a69c69da8864bbf3a150cee0845f844f6fe07e07e17", func := "cabal/caballaw07.LadderFirst", spec := "ladderFirst", inPlace := ["math/bits.Add64"], apart := false }
def LadderFirstSaid : Prop := ladderFirstRow.holds Try.pinned (OpenSpec.ofChange ladderFirstSpec)

/-- ITS FALSE NEIGHBOUR: 'it returns false'. Refute it at one input. -/
def ladderFirstWrong : ChangeSpec := { name := "ladderFirst", fn := fun _ => fun
  | [d] => { results := [.lit (.bool false)], args := [d] }
  | _ => none }
def LadderFirstWrongFalsely : Prop := ladderFirstRow.holds Try.pinned (OpenSpec.ofChange ladderFirstWrong)

/-- 'caballaw07.LadderMeets': WHATEVER THE INPUT: true; the input reads as it did. -/
def ladderMeetsSpec : ChangeSpec := { name := "ladderMeets", fn := fun _ => fun
  | [d1, d2] => { results := [.lit (.bool true)], args := [d1, d2] }
  | _ => none }
def ladderMeetsRow : OpenClaim := { program := "ytmiampioooejdaa", sum := "3b4f412a9e0b5e8e6a453a69c69da8864bbf3a150cee0845f844f6fe07e07e17", func := "cabal/caballaw07.LadderMeets", spec := "ladderMeets", inPlace := ["math/bits.Add64"], apart := false }
def LadderMeetsSaid : Prop := ladderMeetsRow.holds Try.pinned (OpenSpec.ofChange ladderMeetsSpec)

/-- ITS FALSE NEIGHBOUR: 'it returns false'. Refute it at one input. -/
def ladderMeetsWrong : ChangeSpec := { name := "ladderMeets", fn := fun _ => fun
  | [d1, d2] => { results := [.lit (.bool false)], args := [d1, d2] }
  | _ => none }
def LadderMeetsWrongFalsely : Prop := ladderMeetsRow.holds Try.pinned (OpenSpec.ofChange ladderMeetsWrong)

/- THE SECOND FORM. 'bulk': how many values and letters a reading holds, each counted each time it is reached (what is shared counts as often as it is met; a slice's spare places count too). A statement '..UptoSaid' is the law's where the arguments, and the package variables that the reading takes, are together of bulk at most 1048576: NARROWER than '..Said'. Prove '..Said' where nothing that the law and all that it calls make is longer than what came in: it says more and counts as full. Else prove '..UptoSaid'. A law counts once. -/
mutual
def uptoBulk {H : Type} : DataW H → Nat
  | .lit (.string bytes) => bytes.length + 1
  | .lit _ => 1
  | .nil => 1
  | .ptr d => uptoBulk d + 1
  | .slice elems spare => uptoBulkAll elems + uptoBulkAll spare + 1
  | .agg parts => uptoBulkAll parts + 1
  | .iface _ d => uptoBulk d + 1
  | .map entries => uptoBulkEntries entries + 1
  | .held _ => 1
def uptoBulkAll {H : Type} : List (DataW H) → Nat
  | [] => 0
  | d :: r => uptoBulk d + uptoBulkAll r
def uptoBulkEntries {H : Type} : List (Lit × DataW H) → Nat
  | [] => 0
  | x :: r => uptoBulkEntry x + uptoBulkEntries r
def uptoBulkEntry {H : Type} : Lit × DataW H → Nat
  | (.string bytes, d) => bytes.length + uptoBulk d + 1
  | (_, d) => uptoBulk d + 1
 end
def uptoSmall : (H : Type) → List (DataW H) → Bool := fun _ ds => decide (uptoBulkAll ds ≤ 1048576)
def OpenSpec.upto (s : _root_.Go.ChangeSpec) : _root_.Go.OpenSpec := { _root_.Go.OpenSpec.ofChange s with cond := some uptoSmall }

/-- 'caballaw06.FieldBytes', WHERE WHAT IT READS IS OF BULK AT MOST 1048576: true; the input reads as it did. -/
def fieldBytesUptoRow : OpenClaim := { program := "ytmiampioooejdaa", sum := "3b4f412a9e0b5e8e6a453a69c69da8864bbf3a150cee0845f844f6fe07e07e17", func := "cabal/caballaw06.FieldBytes", spec := "fieldBytes", inPlace := ["math/bits.Add64"], apart := false, narrowed := true }
def FieldBytesUptoSaid : Prop := fieldBytesUptoRow.holds Try.pinned (OpenSpec.upto fieldBytesSpec)

/-- 'caballaw07.LadderPublic', WHERE WHAT IT READS IS OF BULK AT MOST 1048576: true; the input reads as it did. -/
def ladderPublicUptoRow : OpenClaim := { program := "ytmiampioooejdaa", sum := "3b4f412a9e0b5e8e6a453a69c69da8864bbf3a150cee0845f844f6fe07e07e17", func := "cabal/caballaw07.LadderPublic", spec := "ladderPublic", inPlace := ["math/bits.Add64"], apart := false, narrowed := true }
def LadderPublicUptoSaid : Prop := ladderPublicUptoRow.holds Try.pinned (OpenSpec.upto ladderPublicSpec)

/-- 'caballaw07.LadderAgrees', WHERE WHAT IT READS IS OF BULK AT MOST 1048576: true; the input reads as it did. -/
def ladderAgreesUptoRow : OpenClaim := { program := "ytmiampioooejdaa", sum := "3b4f412a9e0b5e8e6a453a69c69da8864bbf3a150cee0845f844f6fe07e07e17", func := "cabal/caballaw07.LadderAgrees", spec := "ladderAgrees", inPlace := ["math/bits.Add64"], apart := false, narrowed := true }
def LadderAgreesUptoSaid : Prop := ladderAgreesUptoRow.holds Try.pinned (OpenSpec.upto ladderAgreesSpec)

/-- 'caballaw07.LadderBits', WHERE WHAT IT READS IS OF BULK AT MOST 1048576: true; the input reads as it did. -/
def ladderBitsUptoRow : OpenClaim := { program := "ytmiampioooejdaa", sum := "3b4f412a9e0b5e8e6a453a69c69da8864bbf3a150cee0845f844f6fe07e07e17", func := "cabal/caballaw07.LadderBits", spec := "ladderBits", inPlace := ["math/bits.Add64"], apart := false, narrowed := true }
def LadderBitsUptoSaid : Prop := ladderBitsUptoRow.holds Try.pinned (OpenSpec.upto ladderBitsSpec)

/-- 'caballaw07.LadderFirst', WHERE WHAT IT READS IS OF BULK AT MOST 1048576: true; the input reads as it did. -/
def ladderFirstUptoRow : OpenClaim := { program := "ytmiampioooejdaa", sum := "3b4f412a9e0b5e8e6a453a69c69da8864bbf3a150cee0845f844f6fe07e07e17", func := "cabal/caballaw07.LadderFirst", spec := "ladderFirst", inPlace := ["math/bits.Add64"], apart := false, narrowed := true }
def LadderFirstUptoSaid : Prop := ladderFirstUptoRow.holds Try.pinned (OpenSpec.upto ladderFirstSpec)

/-- 'caballaw07.LadderMeets', WHERE WHAT IT READS IS OF BULK AT MOST 1048576: true; the input reads as it did. -/
def ladderMeetsUptoRow : OpenClaim := { program := "ytmiampioooejdaa", sum := "3b4f412a9e0b5e8e6a453a69c69da8864bbf3a150cee0845f844f6fe07e07e17", func := "cabal/caballaw07.LadderMeets", spec := "ladderMeets", inPlace := ["math/bits.Add64"], apart := false, narrowed := true }
def LadderMeetsUptoSaid : Prop := ladderMeetsUptoRow.holds Try.pinned (OpenSpec.upto ladderMeetsSpec)

end Rows
end Go.Proofs.Ytmiampioooejdaa
