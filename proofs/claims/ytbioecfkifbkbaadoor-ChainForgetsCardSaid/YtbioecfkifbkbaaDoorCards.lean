/-
  DERIVED. GIVEN WITH THE SEED: THE CARDS: each row of YtbioecfkifbkbaaDoorRows.lean that lists a variable, with what it lists TIED to the program's text (the seventh form; the later family's looks); each row that meets fmt, with fmt's text TOLD by the authors' own Lean function (tested against real Go, not proved from fmt's source: count such statements apart). THE CARD IS WHAT COUNTS. Prove the row's statement (the work); the ties are given (YtbioecfkifbkbaaDoorTie.lean); close each card by the builder's one call (the guide's Derived/Test/ToyasCard.lean, 'card_holds'). Laid BY PROGRAM, IN A SANDBOX (cutbox-door.mjs). By AI agents, Wed Nov 11 2026. No macro, syntax, notation, axiom, sorry.
-/
import Derived.Test.YtbioecfkifbkbaaDoorRows
import GoSem.ClaimSeven
namespace Go.Proofs.YtbioecfkifbkbaaDoor
namespace Rows

/-- THE TIED CARD OF 'caballaw18.ChainTalks'. -/
def chainTalksCard : Claim7 := { stood := { row := chainTalksRow, standIns := [], harness := (true, "6fc6e0fa3b63172240bbd024113cce5a784a08f3ab8295c2b5bfe6fa1a106d79"), looks := false }, kinds := [], alts := [], laidByText := true, laidKinds := [.data, .data, .data], laidTests := true, laidLooks := .later }
def ChainTalksCardSaid : Prop := Claim7.holds Tryd.pinned (.plain (OpenSpec.ofChange chainTalksSpec)) chainTalksCard

/-- THE TIED CARD OF 'caballaw18.ChainForgets'. -/
def chainForgetsCard : Claim7 := { stood := { row := chainForgetsRow, standIns := [], harness := (true, "6fc6e0fa3b63172240bbd024113cce5a784a08f3ab8295c2b5bfe6fa1a106d79"), looks := false }, kinds := [], alts := [], laidByText := true, laidKinds := [.data, .data, .data], laidTests := true, laidLooks := .later }
def ChainForgetsCardSaid : Prop := Claim7.holds Tryd.pinned (.plain (OpenSpec.ofChange chainForgetsSpec)) chainForgetsCard

/-- THE SECOND FORM's CARD OF 'caballaw18.ChainTalks'. -/
def chainTalksUptoCard : Claim7 := { stood := { row := chainTalksUptoRow, standIns := [], harness := (true, "6fc6e0fa3b63172240bbd024113cce5a784a08f3ab8295c2b5bfe6fa1a106d79"), looks := false }, kinds := [], alts := [], laidByText := true, laidKinds := [.data, .data, .data], laidTests := true, laidLooks := .later }
def ChainTalksUptoCardSaid : Prop := Claim7.holds Tryd.pinned (.plain (OpenSpec.upto chainTalksSpec)) chainTalksUptoCard

/-- THE SECOND FORM's CARD OF 'caballaw18.ChainForgets'. -/
def chainForgetsUptoCard : Claim7 := { stood := { row := chainForgetsUptoRow, standIns := [], harness := (true, "6fc6e0fa3b63172240bbd024113cce5a784a08f3ab8295c2b5bfe6fa1a106d79"), looks := false }, kinds := [], alts := [], laidByText := true, laidKinds := [.data, .data, .data], laidTests := true, laidLooks := .later }
def ChainForgetsUptoCardSaid : Prop := Claim7.holds Tryd.pinned (.plain (OpenSpec.upto chainForgetsSpec)) chainForgetsUptoCard
end Rows
end Go.Proofs.YtbioecfkifbkbaaDoor
