/- FrameApart: the tied card. -/
import Derived.Test.YtpdafiepagobiaaDoorCab14
import Derived.Test.YtpdafiepagobiaaDoorCards
import Derived.Test.YtpdafiepagobiaaDoorTie
import Derived.SevenTiedAt
set_option linter.unusedSimpArgs false
set_option linter.unnecessarySimpa false
set_option linter.unusedVariables false
set_option linter.unusedSectionVars false
namespace Go.Proofs.YtpdafiepagobiaaDoor
open Go

theorem frameApart_card_holds : Rows.FrameApartCardSaid :=
  Claim7.holds_tied_plain_at .later [] [.data, .data, .data] true (true, "0d9c6d0d7a2c9c2e2b0d0a330308ea7cd8557e60b145274f20ccbaf081dbb620") false
    frameApart_holds (fun _ h => by cases h) (by kernel_rfl) (fun _ h => by cases h) frameApart_row_tie rfl ⟨rfl, rfl⟩ (by kernel_rfl) rfl
    (fun f fn hf hfn => by
      obtain rfl : f = 3 := Option.some.inj ((show Tryd.prog.funcNamed "cabal/caballaw11.FrameApart" = some 3 by kernel_rfl).symm.trans hf) |>.symm
      obtain rfl : fn = Tryd.f3 := (Option.some.inj (Tryd.func3.symm.trans hfn)).symm
      exact ⟨by kernel_rfl, fun j t ht => by
        rw [Tryd.params3] at ht
        have h3 : t = 29 := by
          rcases j with _ | _ | j
          · simp at ht; simp [ht]
          · simp at ht; simp [ht]
          · simp at ht
        rcases h3 with rfl
        · exact (show Tryd.prog.wantsStandIn 29 = false by kernel_rfl)⟩)
    (by kernel_rfl)
end Go.Proofs.YtpdafiepagobiaaDoor
