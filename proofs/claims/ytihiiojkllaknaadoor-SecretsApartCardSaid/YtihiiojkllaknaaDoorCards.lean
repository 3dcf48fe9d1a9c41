/-
  DERIVED. GIVEN WITH THE SEED: THE CARDS: each row of YtihiiojkllaknaaDoorRows.lean that lists a variable, with what it lists TIED to the program's text (the seventh form; the later family's looks); each row that meets fmt, with fmt's text TOLD by the authors' own Lean function (tested against real Go, not proved from fmt's source: count such statements apart). THE CARD IS WHAT COUNTS. Prove the row's statement (the work); the ties are given (YtihiiojkllaknaaDoorTie.lean); close each card by the builder's one call (the guide's Derived/Test/ToyasCard.lean, 'card_holds'). Laid BY PROGRAM, IN A SANDBOX (cutbox-door.mjs). By AI agents, Wed Nov 11 2026. No macro, syntax, notation, axiom, sorry.
-/
import Derived.Test.YtihiiojkllaknaaDoorRows
import GoSem.ClaimSeven
namespace Go.Proofs.YtihiiojkllaknaaDoor
namespace Rows

/-- THE TIED CARD OF 'caballaw17.SecretsApart'. -/
def secretsApartCard : Claim7 := { stood := { row := secretsApartRow, standIns := [], harness := (true, "4eacd3686f451c01c2856af16af6fe7c0ab3d5c7bdfae2616dbb0c90b0d99ae2"), looks := false }, kinds := [], alts := [], laidByText := true, laidKinds := [.data, .data, .data], laidTests := true, laidLooks := .later }
def SecretsApartCardSaid : Prop := Claim7.holds Tryd.pinned (.plain (OpenSpec.ofChange secretsApartSpec)) secretsApartCard

/-- THE TIED CARD OF 'caballaw17.SecretsForget'. -/
def secretsForgetCard : Claim7 := { stood := { row := secretsForgetRow, standIns := [], harness := (true, "4eacd3686f451c01c2856af16af6fe7c0ab3d5c7bdfae2616dbb0c90b0d99ae2"), looks := false }, kinds := [], alts := [], laidByText := true, laidKinds := [.data, .data, .data], laidTests := true, laidLooks := .later }
def SecretsForgetCardSaid : Prop := Claim7.holds Tryd.pinned (.plain (OpenSpec.ofChange secretsForgetSpec)) secretsForgetCard

/-- THE SECOND FORM's CARD OF 'caballaw17.SecretsApart'. -/
def secretsApartUptoCard : Claim7 := { stood := { row := secretsApartUptoRow, standIns := [], harness := (true, "4eacd3686f451c01c2856af16af6fe7c0ab3d5c7bdfae2616dbb0c90b0d99ae2"), looks := false }, kinds := [], alts := [], laidByText := true, laidKinds := [.data, .data, .data], laidTests := true, laidLooks := .later }
def SecretsApartUptoCardSaid : Prop := Claim7.holds Tryd.pinned (.plain (OpenSpec.upto secretsApartSpec)) secretsApartUptoCard

/-- THE SECOND FORM's CARD OF 'caballaw17.SecretsForget'. -/
def secretsForgetUptoCard : Claim7 := { stood := { row := secretsForgetUptoRow, standIns := [], harness := (true, "4eacd3686f451c01c2856af16af6fe7c0ab3d5c7bdfae2616dbb0c90b0d99ae2"), looks := false }, kinds := [], alts := [], laidByText := true, laidKinds := [.data, .data, .data], laidTests := true, laidLooks := .later }
def SecretsForgetUptoCardSaid : Prop := Claim7.holds Tryd.pinned (.plain (OpenSpec.upto secretsForgetSpec)) secretsForgetUptoCard
end Rows
end Go.Proofs.YtihiiojkllaknaaDoor
