/- LadderBits: for every input the call returns true, and each argument reads afterwards as it read before. No condition beyond the row's own. -/
import Derived.Test.YtmiampioooejdaaRows
import Derived.Test.YtmiampioooejdaaCab17
import Derived.Test.YtmiampioooejdaaCab16
import Derived.ProofKit
set_option linter.unusedSimpArgs false
set_option linter.unusedVariables false
set_option linter.unusedSectionVars false
namespace Go.Proofs.Ytmiampioooejdaa
open Go.ChangeShapes Go.WideShapes Go.ChangeAt Go.RowKit

theorem Try.laidOut : laidOutB Try.prog = true := by kernel_rfl
theorem Try.own : ownKnob Try.prog.godebug = none := by kernel_rfl

set_option maxRecDepth 100000 in
theorem ladderBits_lifted (os : Os) (started : os.Started) (H : Type) (enc : TypeId × Value → H) :
    ReturnsInHanded {} Try.checked os 6 .any (Rows.ladderBitsSpec.pre6 enc Try.prog Try.f6 Rows.ladderBitsRow.domain false) (Rows.ladderBitsSpec.post enc Try.prog Try.f6 false true false false) := by
  refine returnsInHanded_of_change (C := Try.checked) Try.own started (by kernel_rfl) Try.func6
    (ChangeSpec.witness6 (enc := enc) (C := Try.checked) false ⟨#[], #[.agg (Array.replicate 32 (.int .u8 0)), .agg (Array.replicate 32 (.int .u8 0)), .int .u8 0, .int .u8 0], []⟩ 8 (by kernel_rfl) (by kernel_rfl) (by kernel_rfl) (by kernel_rfl)) ?_
  intro W base args ds gs before hval0 hW hcnd _
  have hval : ∀ (j : Nat) t v, Try.f6.params[j]? = some t → args[j]? = some v → Value.okWide Try.prog W .any base t v := hval0
  have hW' := hW
  obtain ⟨p, q, hA0, hV, rfl, hfz, hnd⟩ := hW
  have hA : DataW.TrodAll enc Try.prog W 0 (fun _ => true) true Try.f6.params.toList args.toList ds p := hA0
  rw [Try.params6] at hA hval
  obtain ⟨v0, v1, v2, v3, d0, d1, d2, d3, p0, p1, p2, p3, rfl, rfl, rfl, h0, h1, h2, h3⟩ := trodAll_four hA
  obtain ⟨rfl, rfl⟩ := trodVars_none hV
  obtain ⟨f0, hf0, rfl⟩ := Go.Cab.open_key Go.Cab.t23 Go.Cab.t5 Go.Cab.c5 Go.Cab.c23 (hval 0 23 v0 rfl rfl) h0
  obtain ⟨f1, hf1, rfl⟩ := Go.Cab.open_key Go.Cab.t23 Go.Cab.t5 Go.Cab.c5 Go.Cab.c23 (hval 1 23 v1 rfl rfl) h1
  obtain ⟨b2, rfl, rfl, rfl, wb2⟩ := open_int Try.underlying5 (hval 2 5 v2 rfl rfl) h2
  have wb2' : 0 ≤ b2 ∧ b2 < 256 := by
    simp [Lit.wf, IntKind.min, IntKind.max, IntKind.signed, IntKind.bits] at wb2
    omega
  obtain ⟨n2, rfl⟩ := Int.eq_ofNat_of_zero_le wb2'.1
  obtain ⟨b3, rfl, rfl, rfl, wb3⟩ := open_int Try.underlying5 (hval 3 5 v3 rfl rfl) h3
  have wb3' : 0 ≤ b3 ∧ b3 < 256 := by
    simp [Lit.wf, IntKind.min, IntKind.max, IntKind.signed, IntKind.bits] at wb3
    omega
  obtain ⟨n3, rfl⟩ := Int.eq_ofNat_of_zero_le wb3'.1
  have hc := Go.Cab.ladderBits_call (Go.Cab.valL ((List.range 32).map f0)) (Go.Cab.valL ((List.range 32).map f1)) n2 n3 W (fun _ _ => False) [_, _, _, _] (fun _ _ h => h.elim) ⟨Go.Cab.R_key f0 hf0, Go.Cab.R_key f1 hf1, Go.Cab.Rel.mkLit rfl, Go.Cab.Rel.mkLit rfl, trivial⟩
  refine Calls.mono hc fun e W' ⟨V, Imm, he, hfr, _, hr⟩ => ?_
  have hV' := (hr.1.lit).1
  subst hV'
  have hb := hfr.below
  have hlt : ∀ x ∈ p0 ++ p1 ++ ([] : List MemPlace) ++ ([] : List MemPlace), x.block < W.heap.size := fun x hx => hW'.lt x (by simpa using hx)
  refine ⟨_, he, Go.Cab.post_below rfl hW' hb (fun _ _ _ => trodAll_mk1 (shut_bool Try.underlying4 true)) (fun sp hsp => ?_) (fun _ => rfl) (ok_one (by kernel_rfl) rfl (okWide_bool_mk Try.underlying4 true))⟩
  have s0 := WideElems.Trod_stays (sp' := sp) Try.laidOut (by kernel_rfl) (of_decide_eq_true (by kernel_rfl)) h0 (fun x hx => hb.same (hlt x (by simp [hx]))) (fun x hx => hsp x (by simp [hx]))
  have s1 := WideElems.Trod_stays (sp' := sp) Try.laidOut (by kernel_rfl) (of_decide_eq_true (by kernel_rfl)) h1 (fun x hx => hb.same (hlt x (by simp [hx]))) (fun x hx => hsp x (by simp [hx]))
  have s2 := shut_int (enc := enc) (w := W') (base := 0) (spare := sp) (held := true) Try.underlying5 wb2
  have s3 := shut_int (enc := enc) (w := W') (base := 0) (spare := sp) (held := true) Try.underlying5 wb3
  have s := trodAll_mk4 s0 s1 s2 s3
  simp only [List.append_nil, List.append_assoc] at s ⊢
  exact s

theorem ladderBits_holds : Rows.LadderBitsSaid :=
  OpenClaim.holds_of_wide 6 Try.f6 rfl rfl rfl rfl rfl rfl rfl ⟨rfl, rfl, rfl, rfl, rfl⟩ rfl rfl rfl rfl rfl (by kernel_rfl) Try.func6 (by kernel_rfl)
    (of_decide_eq_true (by kernel_rfl)) (by unfold Func.isWrapper; first | (rw [if_pos (by decide +kernel)]; kernel_rfl) | (rw [if_neg (by decide +kernel)]; exact ⟨rfl, rfl⟩))
    (fun os started H enc _ => ladderBits_lifted os started H enc)
end Go.Proofs.Ytmiampioooejdaa
