/- SecretsForget: the tied card. -/
import Derived.Test.YtihiiojkllaknaaDoorCab13
import Derived.Test.YtihiiojkllaknaaDoorCards
import Derived.Test.YtihiiojkllaknaaDoorTie
import Derived.SevenTiedAt
set_option linter.unusedSimpArgs false
set_option linter.unnecessarySimpa false
set_option linter.unusedVariables false
set_option linter.unusedSectionVars false
namespace Go.Proofs.YtihiiojkllaknaaDoor
open Go

theorem secretsForget_card_holds : Rows.SecretsForgetCardSaid :=
  Claim7.holds_tied_plain_at .later [] [.data, .data, .data] true (true, "4eacd3686f451c01c2856af16af6fe7c0ab3d5c7bdfae2616dbb0c90b0d99ae2") false
    secretsForget_holds (fun _ h => by cases h) (by kernel_rfl) (fun _ h => by cases h) secretsForget_row_tie rfl ⟨rfl, rfl⟩ (by kernel_rfl) rfl
    (fun f fn hf hfn => by
      obtain rfl : f = 4 := Option.some.inj ((show Tryd.prog.funcNamed "cabal/caballaw17.SecretsForget" = some 4 by kernel_rfl).symm.trans hf) |>.symm
      obtain rfl : fn = Tryd.f4 := (Option.some.inj (Tryd.func4.symm.trans hfn)).symm
      exact ⟨by kernel_rfl, fun j t ht => by
        rw [Tryd.params4] at ht
        have h3 : t = 49 := by
          rcases j with _ | j
          · simp at ht; simp [ht]
          · simp at ht
        rcases h3 with rfl
        · exact (show Tryd.prog.wantsStandIn 49 = false by kernel_rfl)⟩)
    (by kernel_rfl)
end Go.Proofs.YtihiiojkllaknaaDoor
