/- BundleHides: for every input the call returns true, and each argument reads afterwards as it read before. No condition beyond the row's own. -/
import Derived.Test.YtjdoefdcdogeiaaRows
import Derived.Test.YtjdoefdcdogeiaaCab11
import Derived.ProofKit
set_option linter.unusedSimpArgs false
set_option linter.unnecessarySimpa false
set_option linter.unusedVariables false
set_option linter.unusedSectionVars false
namespace Go.Proofs.Ytjdoefdcdogeiaa
open Go.ChangeShapes Go.WideShapes Go.ChangeAt Go.RowKit

theorem Try.laidOut : laidOutB Try.prog = true := by kernel_rfl
theorem Try.own : ownKnob Try.prog.godebug = none := by kernel_rfl

set_option maxRecDepth 100000 in
theorem bundleHides_lifted (os : Os) (started : os.Started) (H : Type) (enc : TypeId × Value → H) :
    ReturnsInHanded {} Try.checked os 4 .any (Rows.bundleHidesSpec.pre6 enc Try.prog Try.f4 Rows.bundleHidesRow.domain false) (Rows.bundleHidesSpec.post enc Try.prog Try.f4 false true false false) := by
  refine returnsInHanded_of_change (C := Try.checked) Try.own started (by kernel_rfl) Try.func4
    (ChangeSpec.witness6 (enc := enc) (C := Try.checked) false ⟨#[], #[.int .u8 0], []⟩ 8 (by kernel_rfl) (by kernel_rfl) (by kernel_rfl) (by kernel_rfl)) ?_
  intro W base args ds gs before hval0 hW hcnd _
  have hval : ∀ (j : Nat) t v, Try.f4.params[j]? = some t → args[j]? = some v → Value.okWide Try.prog W .any base t v := hval0
  have hW' := hW
  obtain ⟨p, q, hA0, hV, rfl, hfz, hnd⟩ := hW
  have hA : DataW.TrodAll enc Try.prog W 0 (fun _ => true) true Try.f4.params.toList args.toList ds p := hA0
  rw [Try.params4] at hA hval
  obtain ⟨v0, d0, rfl, rfl, h0⟩ := trodAll_one hA
  obtain ⟨rfl, rfl⟩ := trodVars_none hV
  obtain ⟨b0, rfl, rfl, rfl, wb0⟩ := open_int Try.underlying5 (hval 0 5 v0 rfl rfl) h0
  have wb0' : 0 ≤ b0 ∧ b0 < 256 := by
    simp [Lit.wf, IntKind.min, IntKind.max, IntKind.signed, IntKind.bits] at wb0
    omega
  obtain ⟨n0, rfl⟩ := Int.eq_ofNat_of_zero_le wb0'.1
  have hc := Go.Cab.bundleHides_call n0 (by omega) W (fun _ _ => False) [_] (fun _ _ h => h.elim) ⟨Go.Cab.Rel.mkLit rfl, trivial⟩
  refine Calls.mono hc fun e W' ⟨V, Imm, he, hfr, _, hr⟩ => ?_
  have hV' := (hr.1.lit).1
  subst hV'
  have hb := hfr.below
  have hlt : ∀ x ∈ ([] : List MemPlace), x.block < W.heap.size := fun x hx => hW'.lt x (by simpa using hx)
  refine ⟨_, he, Go.Cab.post_below rfl hW' hb (fun _ _ _ => trodAll_mk1 (shut_bool Try.underlying4 true)) (fun sp hsp => ?_) (fun _ => rfl) (ok_one (by kernel_rfl) rfl (okWide_bool_mk Try.underlying4 true))⟩
  have s0 := shut_int (enc := enc) (w := W') (base := 0) (spare := sp) (held := true) Try.underlying5 wb0
  have s := trodAll_mk1 s0
  simp only [List.append_nil, List.append_assoc] at s ⊢
  exact s

theorem bundleHides_holds : Rows.BundleHidesSaid :=
  OpenClaim.holds_of_wide 4 Try.f4 rfl rfl rfl rfl rfl rfl rfl ⟨rfl, rfl, rfl, rfl, rfl⟩ rfl rfl rfl rfl rfl (by kernel_rfl) Try.func4 (by kernel_rfl)
    (of_decide_eq_true (by kernel_rfl)) (by unfold Func.isWrapper; first | (rw [if_pos (by decide +kernel)]; kernel_rfl) | (rw [if_neg (by decide +kernel)]; exact ⟨rfl, rfl⟩))
    (fun os started H enc _ => bundleHides_lifted os started H enc)
end Go.Proofs.Ytjdoefdcdogeiaa
