/-
  DERIVED. GIVEN WITH THE SEED: THE CARDS: each row of YtiikindmkllbiaaDoorRows.lean that lists a variable, with what it lists TIED to the program's text (the seventh form; the later family's looks); each row that meets fmt, with fmt's text TOLD by the authors' own Lean function (tested against real Go, not proved from fmt's source: count such statements apart). THE CARD IS WHAT COUNTS. Prove the row's statement (the work); the ties are given (YtiikindmkllbiaaDoorTie.lean); close each card by the builder's one call (the guide's Derived/Test/ToyasCard.lean, 'card_holds'). Laid BY PROGRAM, IN A SANDBOX (cutbox-door.mjs). By AI agents, Wed Nov 11 2026. No macro, syntax, notation, axiom, sorry.
-/
import Derived.Test.YtiikindmkllbiaaDoorRows
import GoSem.ClaimSeven
namespace Go.Proofs.YtiikindmkllbiaaDoor
namespace Rows

/-- THE TIED CARD OF 'caballaw14.RatchetTalks'. -/
def ratchetTalksCard : Claim7 := { stood := { row := ratchetTalksRow, standIns := [], harness := (true, "1806e5bd43aa413fe86ecb6404d850098aae262d8eed28894ea00c0c832950e9"), looks := false }, kinds := [], alts := [], laidByText := true, laidKinds := [.data, .data, .data], laidTests := true, laidLooks := .later }
def RatchetTalksCardSaid : Prop := Claim7.holds Tryd.pinned (.plain (OpenSpec.ofChange ratchetTalksSpec)) ratchetTalksCard

/-- THE TIED CARD OF 'caballaw14.RatchetForgets'. -/
def ratchetForgetsCard : Claim7 := { stood := { row := ratchetForgetsRow, standIns := [], harness := (true, "1806e5bd43aa413fe86ecb6404d850098aae262d8eed28894ea00c0c832950e9"), looks := false }, kinds := [], alts := [], laidByText := true, laidKinds := [.data, .data, .data], laidTests := true, laidLooks := .later }
def RatchetForgetsCardSaid : Prop := Claim7.holds Tryd.pinned (.plain (OpenSpec.ofChange ratchetForgetsSpec)) ratchetForgetsCard

/-- THE SECOND FORM's CARD OF 'caballaw14.RatchetTalks'. -/
def ratchetTalksUptoCard : Claim7 := { stood := { row := ratchetTalksUptoRow, standIns := [], harness := (true, "1806e5bd43aa413fe86ecb6404d850098aae262d8eed28894ea00c0c832950e9"), looks := false }, kinds := [], alts := [], laidByText := true, laidKinds := [.data, .data, .data], laidTests := true, laidLooks := .later }
def RatchetTalksUptoCardSaid : Prop := Claim7.holds Tryd.pinned (.plain (OpenSpec.upto ratchetTalksSpec)) ratchetTalksUptoCard

/-- THE SECOND FORM's CARD OF 'caballaw14.RatchetForgets'. -/
def ratchetForgetsUptoCard : Claim7 := { stood := { row := ratchetForgetsUptoRow, standIns := [], harness := (true, "1806e5bd43aa413fe86ecb6404d850098aae262d8eed28894ea00c0c832950e9"), looks := false }, kinds := [], alts := [], laidByText := true, laidKinds := [.data, .data, .data], laidTests := true, laidLooks := .later }
def RatchetForgetsUptoCardSaid : Prop := Claim7.holds Tryd.pinned (.plain (OpenSpec.upto ratchetForgetsSpec)) ratchetForgetsUptoCard
end Rows
end Go.Proofs.YtiikindmkllbiaaDoor
