/- ChainForgets: the tied card. -/
import Derived.Test.YtbioecfkifbkbaaDoorCab12
import Derived.Test.YtbioecfkifbkbaaDoorCards
import Derived.Test.YtbioecfkifbkbaaDoorTie
import Derived.SevenTiedAt
set_option linter.unusedSimpArgs false
set_option linter.unnecessarySimpa false
set_option linter.unusedVariables false
set_option linter.unusedSectionVars false
namespace Go.Proofs.YtbioecfkifbkbaaDoor
open Go

theorem chainForgets_card_holds : Rows.ChainForgetsCardSaid :=
  Claim7.holds_tied_plain_at .later [] [.data, .data, .data] true (true, "6fc6e0fa3b63172240bbd024113cce5a784a08f3ab8295c2b5bfe6fa1a106d79") false
    chainForgets_holds (fun _ h => by cases h) (by kernel_rfl) (fun _ h => by cases h) chainForgets_row_tie rfl ⟨rfl, rfl⟩ (by kernel_rfl) rfl
    (fun f fn hf hfn => by
      obtain rfl : f = 4 := Option.some.inj ((show Tryd.prog.funcNamed "cabal/caballaw18.ChainForgets" = some 4 by kernel_rfl).symm.trans hf) |>.symm
      obtain rfl : fn = Tryd.f4 := (Option.some.inj (Tryd.func4.symm.trans hfn)).symm
      exact ⟨by kernel_rfl, fun j t ht => by
        rw [Tryd.params4] at ht
        have h3 : t = 5 := by
          rcases j with _ | j
          · simp at ht; simp [ht]
          · simp at ht
        rcases h3 with rfl
        · exact (show Tryd.prog.wantsStandIn 5 = false by kernel_rfl)⟩)
    (by kernel_rfl)
end Go.Proofs.YtbioecfkifbkbaaDoor
