/- TokenBlanks: for every input the call returns true, and each argument reads afterwards as it read before. No condition beyond the row's own. -/
import Derived.Test.YtjkcebfbhhhkaaaRows
import Derived.Test.YtjkcebfbhhhkaaaCab13
import Derived.Test.YtjkcebfbhhhkaaaCab12
import Derived.ProofKit
set_option linter.unusedSimpArgs false
set_option linter.unnecessarySimpa false
set_option linter.unusedVariables false
set_option linter.unusedSectionVars false
namespace Go.Proofs.Ytjkcebfbhhhkaaa
open Go.ChangeShapes Go.WideShapes Go.ChangeAt Go.RowKit

theorem Try.laidOut : laidOutB Try.prog = true := by kernel_rfl
theorem Try.own : ownKnob Try.prog.godebug = none := by kernel_rfl

theorem Try.sliceBytes : Try.prog.underlying 22 = some (.slice 5) := by kernel_rfl
set_option maxRecDepth 100000 in
theorem tokenBlanks_lifted (os : Os) (started : os.Started) (H : Type) (enc : TypeId × Value → H) :
    ReturnsInHanded {} Try.checked os 3 .any (Rows.tokenBlanksSpec.pre6 enc Try.prog Try.f3 Rows.tokenBlanksRow.domain false) (Rows.tokenBlanksSpec.post enc Try.prog Try.f3 false true false false) := by
  refine returnsInHanded_of_change (C := Try.checked) Try.own started (by kernel_rfl) Try.func3
    (ChangeSpec.witness6 (enc := enc) (C := Try.checked) false ⟨#[], #[.string ⟨#[]⟩, .slice none 0 0, .string ⟨#[]⟩], []⟩ 8 (by kernel_rfl) (by kernel_rfl) (by kernel_rfl) (by kernel_rfl)) ?_
  intro W base args ds gs before hval0 hW hcnd _
  have hval : ∀ (j : Nat) t v, Try.f3.params[j]? = some t → args[j]? = some v → Value.okWide Try.prog W .any base t v := hval0
  have hW' := hW
  obtain ⟨p, q, hA0, hV, rfl, hfz, hnd⟩ := hW
  have hA : DataW.TrodAll enc Try.prog W 0 (fun _ => true) true Try.f3.params.toList args.toList ds p := hA0
  rw [Try.params3] at hA hval
  obtain ⟨v0, v1, v2, d0, d1, d2, p0, p1, p2, rfl, rfl, rfl, h0, h1, h2⟩ := trodAll_three hA
  obtain ⟨rfl, rfl⟩ := trodVars_none hV
  obtain ⟨s0, rfl, rfl, rfl, ws0⟩ := Go.ChangeMaps.open_string Try.underlying9 (hval 0 9 v0 rfl rfl) h0
  obtain ⟨bs1, hb1, hk1⟩ := Go.Cab.open_bytes Try.sliceBytes Go.Cab.t5 Go.Cab.c5 (hval 1 22 v1 rfl rfl) h1
  obtain ⟨s2, rfl, rfl, rfl, ws2⟩ := Go.ChangeMaps.open_string Try.underlying9 (hval 2 9 v2 rfl rfl) h2
  have hc := Go.Cab.tokenBlanks_call s0.data.toList bs1 s2.data.toList hb1 W (Go.Cab.StOf W p1) [_, _, _] (fun _ _ h => h.2) ⟨Go.Cab.Rel.mkLit rfl, hk1, Go.Cab.Rel.mkLit rfl, trivial⟩
  refine Calls.mono hc fun e W' ⟨V, Imm, he, hfr, _, hr⟩ => ?_
  have hV' := (hr.1.lit).1
  subst hV'
  have hb := hfr.below
  have hlt : ∀ x ∈ ([] : List MemPlace) ++ p1 ++ ([] : List MemPlace), x.block < W.heap.size := fun x hx => hW'.lt x (by simpa using hx)
  refine ⟨_, he, Go.Cab.post_below rfl hW' hb (fun _ _ _ => trodAll_mk1 (shut_bool Try.underlying4 true)) (fun sp hsp => ?_) (fun _ => rfl) (ok_one (by kernel_rfl) rfl (okWide_bool_mk Try.underlying4 true))⟩
  have t0 := Go.ChangeMaps.shut_string (H := H) (enc := enc) (P := Try.prog) (w := W') (base := 0) (sp := sp) (held := true) Try.underlying9 ws0
  have s1 := WideElems.Trod_stays (sp' := sp) Try.laidOut (by kernel_rfl) (of_decide_eq_true (by kernel_rfl)) h1 (fun x hx => hb.same (hlt x (by simp [hx]))) (fun x hx => hsp x (by simp [hx]))
  have t2 := Go.ChangeMaps.shut_string (H := H) (enc := enc) (P := Try.prog) (w := W') (base := 0) (sp := sp) (held := true) Try.underlying9 ws2
  have s := trodAll_mk3 t0 s1 t2
  simp only [List.append_nil, List.append_assoc] at s ⊢
  exact s

theorem tokenBlanks_holds : Rows.TokenBlanksSaid :=
  OpenClaim.holds_of_wide 3 Try.f3 rfl rfl rfl rfl rfl rfl rfl ⟨rfl, rfl, rfl, rfl, rfl⟩ rfl rfl rfl rfl rfl (by kernel_rfl) Try.func3 (by kernel_rfl)
    (of_decide_eq_true (by kernel_rfl)) (by unfold Func.isWrapper; first | (rw [if_pos (by decide +kernel)]; kernel_rfl) | (rw [if_neg (by decide +kernel)]; exact ⟨rfl, rfl⟩))
    (fun os started H enc _ => tokenBlanks_lifted os started H enc)
end Go.Proofs.Ytjkcebfbhhhkaaa
