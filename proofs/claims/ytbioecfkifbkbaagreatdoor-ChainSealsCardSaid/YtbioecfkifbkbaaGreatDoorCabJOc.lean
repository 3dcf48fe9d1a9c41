/- ChainSeals: the tied card. -/
import Derived.Test.YtbioecfkifbkbaaGreatDoorCab16
import Derived.Test.YtbioecfkifbkbaaGreatDoorCards
import Derived.Test.YtbioecfkifbkbaaGreatDoorTie
import Derived.SevenTiedAt
set_option linter.unusedSimpArgs false
set_option linter.unnecessarySimpa false
set_option linter.unusedVariables false
set_option linter.unusedSectionVars false
namespace Go.Proofs.YtbioecfkifbkbaaGreatDoor
open Go

theorem chainSeals_card_holds : Rows.ChainSealsCardSaid :=
  Claim7.holds_tied_plain_at .later [] [.data, .data, .data] true (true, "de0c5dd786abd3c835d675e331b13d4a2b8754ce92da844ee80de80e0a2ea686") false
    chainSeals_holds (fun _ h => by cases h) (by kernel_rfl) (fun _ h => by cases h) chainSeals_row_tie rfl ⟨rfl, rfl⟩ (by kernel_rfl) rfl
    (fun f fn hf hfn => by
      obtain rfl : f = 3 := Option.some.inj ((show Tryz.prog.funcNamed "cabal/caballaw18.ChainSeals" = some 3 by kernel_rfl).symm.trans hf) |>.symm
      obtain rfl : fn = Tryz.f3 := (Option.some.inj (Tryz.func3.symm.trans hfn)).symm
      exact ⟨by kernel_rfl, fun j t ht => by
        rw [Tryz.params3] at ht
        have h3 : t = 29 ∨ t = 35 ∨ t = 9 := by
          rcases j with _ | _ | _ | j
          · simp at ht; simp [ht]
          · simp at ht; simp [ht]
          · simp at ht; simp [ht]
          · simp at ht
        rcases h3 with rfl | rfl | rfl
        · exact (show Tryz.prog.wantsStandIn 29 = false by kernel_rfl)
        · exact (show Tryz.prog.wantsStandIn 35 = false by kernel_rfl)
        · exact (show Tryz.prog.wantsStandIn 9 = false by kernel_rfl)⟩)
    (by kernel_rfl)
end Go.Proofs.YtbioecfkifbkbaaGreatDoor
