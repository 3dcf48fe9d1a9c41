/- RatchetTalks: the tied card. -/
import Derived.Test.YtiikindmkllbiaaDoorCab14
import Derived.Test.YtiikindmkllbiaaDoorCards
import Derived.Test.YtiikindmkllbiaaDoorTie
import Derived.SevenTiedAt
set_option linter.unusedSimpArgs false
set_option linter.unnecessarySimpa false
set_option linter.unusedVariables false
set_option linter.unusedSectionVars false
namespace Go.Proofs.YtiikindmkllbiaaDoor
open Go

theorem ratchetTalks_card_holds : Rows.RatchetTalksCardSaid :=
  Claim7.holds_tied_plain_at .later [] [.data, .data, .data] true (true, "1806e5bd43aa413fe86ecb6404d850098aae262d8eed28894ea00c0c832950e9") false
    ratchetTalks_holds (fun _ h => by cases h) (by kernel_rfl) (fun _ h => by cases h) ratchetTalks_row_tie rfl ⟨rfl, rfl⟩ (by kernel_rfl) rfl
    (fun f fn hf hfn => by
      obtain rfl : f = 3 := Option.some.inj ((show Tryd.prog.funcNamed "cabal/caballaw14.RatchetTalks" = some 3 by kernel_rfl).symm.trans hf) |>.symm
      obtain rfl : fn = Tryd.f3 := (Option.some.inj (Tryd.func3.symm.trans hfn)).symm
      exact ⟨by kernel_rfl, fun j t ht => by
        rw [Tryd.params3] at ht
        have h3 : t = 22 := by
          rcases j with _ | j
          · simp at ht; simp [ht]
          · simp at ht
        rcases h3 with rfl
        · exact (show Tryd.prog.wantsStandIn 22 = false by kernel_rfl)⟩)
    (by kernel_rfl)
end Go.Proofs.YtiikindmkllbiaaDoor
