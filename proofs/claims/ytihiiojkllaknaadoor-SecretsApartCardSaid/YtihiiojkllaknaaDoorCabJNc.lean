/- SecretsApart: the tied card. -/
import Derived.Test.YtihiiojkllaknaaDoorCab13
import Derived.Test.YtihiiojkllaknaaDoorCards
import Derived.Test.YtihiiojkllaknaaDoorTie
import Derived.SevenTiedAt
set_option linter.unusedSimpArgs false
set_option linter.unnecessarySimpa false
set_option linter.unusedVariables false
set_option linter.unusedSectionVars false
namespace Go.Proofs.YtihiiojkllaknaaDoor
open Go

theorem secretsApart_card_holds : Rows.SecretsApartCardSaid :=
  Claim7.holds_tied_plain_at .later [] [.data, .data, .data] true (true, "4eacd3686f451c01c2856af16af6fe7c0ab3d5c7bdfae2616dbb0c90b0d99ae2") false
    secretsApart_holds (fun _ h => by cases h) (by kernel_rfl) (fun _ h => by cases h) secretsApart_row_tie rfl ⟨rfl, rfl⟩ (by kernel_rfl) rfl
    (fun f fn hf hfn => by
      obtain rfl : f = 3 := Option.some.inj ((show Tryd.prog.funcNamed "cabal/caballaw17.SecretsApart" = some 3 by kernel_rfl).symm.trans hf) |>.symm
      obtain rfl : fn = Tryd.f3 := (Option.some.inj (Tryd.func3.symm.trans hfn)).symm
      exact ⟨by kernel_rfl, fun j t ht => by
        rw [Tryd.params3] at ht
        have h3 : t = 29 ∨ t = 3 ∨ t = 23 ∨ t = 35 ∨ t = 31 := by
          rcases j with _ | _ | _ | _ | _ | _ | j
          · simp at ht; simp [ht]
          · simp at ht; simp [ht]
          · simp at ht; simp [ht]
          · simp at ht; simp [ht]
          · simp at ht; simp [ht]
          · simp at ht; simp [ht]
          · simp at ht
        rcases h3 with rfl | rfl | rfl | rfl | rfl
        · exact (show Tryd.prog.wantsStandIn 29 = false by kernel_rfl)
        · exact (show Tryd.prog.wantsStandIn 3 = false by kernel_rfl)
        · exact (show Tryd.prog.wantsStandIn 23 = false by kernel_rfl)
        · exact (show Tryd.prog.wantsStandIn 35 = false by kernel_rfl)
        · exact (show Tryd.prog.wantsStandIn 31 = false by kernel_rfl)⟩)
    (by kernel_rfl)
end Go.Proofs.YtihiiojkllaknaaDoor
