/- ChainTalks: the tied card. -/
import Derived.Test.YtbioecfkifbkbaaDoorCab11
import Derived.Test.YtbioecfkifbkbaaDoorCards
import Derived.Test.YtbioecfkifbkbaaDoorTie
import Derived.SevenTiedAt
set_option linter.unusedSimpArgs false
set_option linter.unnecessarySimpa false
set_option linter.unusedVariables false
set_option linter.unusedSectionVars false
namespace Go.Proofs.YtbioecfkifbkbaaDoor
open Go

theorem chainTalks_card_holds : Rows.ChainTalksCardSaid :=
  Claim7.holds_tied_plain_at .later [] [.data, .data, .data] true (true, "6fc6e0fa3b63172240bbd024113cce5a784a08f3ab8295c2b5bfe6fa1a106d79") false
    chainTalks_holds (fun _ h => by cases h) (by kernel_rfl) (fun _ h => by cases h) chainTalks_row_tie rfl ⟨rfl, rfl⟩ (by kernel_rfl) rfl
    (fun f fn hf hfn => by
      obtain rfl : f = 3 := Option.some.inj ((show Tryd.prog.funcNamed "cabal/caballaw18.ChainTalks" = some 3 by kernel_rfl).symm.trans hf) |>.symm
      obtain rfl : fn = Tryd.f3 := (Option.some.inj (Tryd.func3.symm.trans hfn)).symm
      exact ⟨by kernel_rfl, fun j t ht => by
        rw [Tryd.params3] at ht
        have h3 : t = 22 := by
          rcases j with _ | j
          · simpa using ht.symm
          · simp at ht
        subst h3
        exact (show Tryd.prog.wantsStandIn 22 = false by kernel_rfl)⟩)
    (by kernel_rfl)
end Go.Proofs.YtbioecfkifbkbaaDoor
