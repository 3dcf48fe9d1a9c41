/-
  DERIVED. GIVEN WITH THE SEED: THE CARDS: each row of YtbioecfkifbkbaaGreatDoorRows.lean that lists a variable, with what it lists TIED to the program's text (the seventh form; the later family's looks); each row that meets fmt, with fmt's text TOLD by the authors' own Lean function (tested against real Go, not proved from fmt's source: count such statements apart). THE CARD IS WHAT COUNTS. Prove the row's statement (the work); the ties are given (YtbioecfkifbkbaaGreatDoorTie.lean); close each card by the builder's one call (the guide's Derived/Test/ToyasCard.lean, 'card_holds'). Laid BY PROGRAM, IN A SANDBOX (cutbox-door.mjs). By AI agents, Wed Nov 11 2026. No macro, syntax, notation, axiom, sorry.
-/
import Derived.Test.YtbioecfkifbkbaaGreatDoorRows
import GoSem.ClaimSeven
namespace Go.Proofs.YtbioecfkifbkbaaGreatDoor
namespace Rows

/-- THE TIED CARD OF 'caballaw18.ChainSeals'. -/
def chainSealsCard : Claim7 := { stood := { row := chainSealsRow, standIns := [], harness := (true, "de0c5dd786abd3c835d675e331b13d4a2b8754ce92da844ee80de80e0a2ea686"), looks := false }, kinds := [], alts := [], laidByText := true, laidKinds := [.data, .data, .data], laidTests := true, laidLooks := .later }
def ChainSealsCardSaid : Prop := Claim7.holds Tryz.pinned (.plain (OpenSpec.ofChange chainSealsSpec)) chainSealsCard

/-- THE TIED CARD OF 'caballaw18.ChainOpens'. -/
def chainOpensCard : Claim7 := { stood := { row := chainOpensRow, standIns := [], harness := (true, "de0c5dd786abd3c835d675e331b13d4a2b8754ce92da844ee80de80e0a2ea686"), looks := false }, kinds := [], alts := [], laidByText := true, laidKinds := [.data, .data, .data], laidTests := true, laidLooks := .later }
def ChainOpensCardSaid : Prop := Claim7.holds Tryz.pinned (.plain (OpenSpec.ofChange chainOpensSpec)) chainOpensCard

/-- THE SECOND FORM's CARD OF 'caballaw18.ChainSeals'. -/
def chainSealsUptoCard : Claim7 := { stood := { row := chainSealsUptoRow, standIns := [], harness := (true, "de0c5dd786abd3c835d675e331b13d4a2b8754ce92da844ee80de80e0a2ea686"), looks := false }, kinds := [], alts := [], laidByText := true, laidKinds := [.data, .data, .data], laidTests := true, laidLooks := .later }
def ChainSealsUptoCardSaid : Prop := Claim7.holds Tryz.pinned (.plain (OpenSpec.upto chainSealsSpec)) chainSealsUptoCard

/-- THE SECOND FORM's CARD OF 'caballaw18.ChainOpens'. -/
def chainOpensUptoCard : Claim7 := { stood := { row := chainOpensUptoRow, standIns := [], harness := (true, "de0c5dd786abd3c835d675e331b13d4a2b8754ce92da844ee80de80e0a2ea686"), looks := false }, kinds := [], alts := [], laidByText := true, laidKinds := [.data, .data, .data], laidTests := true, laidLooks := .later }
def ChainOpensUptoCardSaid : Prop := Claim7.holds Tryz.pinned (.plain (OpenSpec.upto chainOpensSpec)) chainOpensUptoCard
end Rows
end Go.Proofs.YtbioecfkifbkbaaGreatDoor
