/- Part 14 of what the proof stands on: KA, JS. -/
import Derived.Test.YtiikindmkllbiaaDoorCab13
import Derived.Test.YtiikindmkllbiaaDoorRows
import Derived.ProofKit
import Derived.LaidLaws
import Derived.LaidHandle
import Derived.JoinedOf
set_option linter.unusedSimpArgs false
set_option linter.unnecessarySimpa false
set_option linter.unusedVariables false
set_option linter.unusedSectionVars false
namespace Go.Cab
open Go.ChangeShapes Go.WideShapes Go.RowKit Go.ChangeAt
theorem map_of_G {α : Type} {p : α → Prop} {f : α → AV} : ∀ {vs : List AV}, (∀ u ∈ vs, ∃ a, p a ∧ u = f a) → ∃ l : List α, (∀ a ∈ l, p a) ∧ l.length = vs.length ∧ vs = l.map f
  | [], _ => ⟨[], by simp, rfl, rfl⟩
  | u :: vs, h => by
    obtain ⟨a, ha, rfl⟩ := h u (by simp)
    obtain ⟨l, h1, h2, h3⟩ := map_of_G (vs := vs) (fun x hx => h x (List.mem_cons_of_mem _ hx))
    refine ⟨a :: l, fun x hx => ?_, by simp [h2], by rw [h3]; rfl⟩
    rcases List.mem_cons.1 hx with rfl | hx
    · exact ha
    · exact h1 x hx
theorem FG.cons {l : Nat × (AV → Prop)} {ls : List (Nat × (AV → Prop))} {vs : List AV} (h : FG (l :: ls) vs) : ∃ v vs', vs = v :: vs' ∧ l.2 v ∧ FG ls vs' := by
  cases vs with
  | nil => exact h.elim
  | cons v vs => exact ⟨v, vs, rfl, h.1, h.2⟩
theorem FG.nil {vs : List AV} (h : FG [] vs) : vs = [] := by
  cases vs with
  | nil => rfl
  | cons v vs => exact h.elim
section
variable {H : Type} {enc : TypeId × Value → H} {W : World} {base : Nat} {held : Bool}
theorem ka_int : Opens enc Go.Proofs.Tryd.prog W base held 3 1 fun v => ∃ n : Int, v = .lit (.int .i64 n) :=
  (Opens.int (k := .i64) (by kernel_rfl) (by kernel_rfl)).mono fun v ⟨n, _, e⟩ => ⟨n, e⟩
theorem ka_act : Opens enc Go.Proofs.Tryd.prog W base held 40 2 fun v => ∃ a : Int × Int, v = actA a :=
  (Opens.struct (fs := #[⟨"Kind", 3, 0, false, "", "", 0⟩, ⟨"N", 3, 1, false, "", "", 8⟩]) (ls := [(1, _), (1, _)]) (by kernel_rfl) (by kernel_rfl) rfl ⟨rfl, ka_int, rfl, ka_int, trivial⟩).mono fun v ⟨vs, h, e⟩ => by
    obtain ⟨_, vs, rfl, ⟨a, e1⟩, h⟩ := h.cons
    obtain ⟨_, vs, rfl, ⟨b, e2⟩, h⟩ := h.cons
    obtain rfl := h.nil
    subst e1 e2
    exact ⟨(a, b), e⟩
theorem acts_arg {P : Program} {e t : TypeId} (he : Opens enc P W base held e 2 fun v => ∃ a : Int × Int, v = actA a) (ht : P.underlying t = some (.slice e)) (hc : P.cellsOf t = 1) {r : Reach} {b0 : Nat} {v : Value} (hval : Value.okWide P W r b0 t v)
    {d : DataW H} {ps : List MemPlace} (hd : DataW.Trod enc P W base (fun _ => true) held t v d ps) :
    ∃ as_ : List (Int × Int), as_.length < 9223372036854775808 ∧ Rel (StOf W ps) W (.sl 2 (as_.map actA)) v := by
  obtain ⟨vs, h0, h1, hr⟩ := (Opens.list (c := 2) ht hc (by decide) he).slice ht hval hd
  obtain ⟨l, _, g2, rfl⟩ := map_of_G (p := fun _ => True) (f := actA) fun u hu => by obtain ⟨a, e⟩ := h1 u hu; exact ⟨a, trivial, e⟩
  exact ⟨l, by omega, hr⟩
end
end Go.Cab
namespace Go.Proofs.YtiikindmkllbiaaDoor
open Go.ChangeShapes Go.WideShapes Go.ChangeAt Go.RowKit
theorem Tryd.laidOut : laidOutB Tryd.prog = true := by kernel_rfl
theorem Tryd.own : ownKnob Tryd.prog.godebug = none := by kernel_rfl
theorem Tryd.sliceActs : Tryd.prog.underlying 22 = some (.slice 40) := by kernel_rfl
theorem Tryd.sliceActsC : Tryd.prog.cellsOf 22 = 1 := by kernel_rfl
def tab32 : Array Value := #[0, 1, 28, 2, 29, 14, 24, 3, 30, 22, 20, 15, 25, 17, 4, 8, 31, 27, 13, 23, 21, 19, 16, 7, 26, 12, 18, 6, 11, 5, 10, 9].map fun n => .int .u8 n
def tab64 : Array Value := #[0, 1, 56, 2, 57, 49, 28, 3, 61, 58, 42, 50, 38, 29, 17, 4, 62, 47, 59, 36, 45, 43, 51, 22, 53, 39, 33, 30, 24, 18, 12, 5, 63, 55, 48, 27, 60, 41, 37, 16, 46, 35, 44, 21, 52, 32, 23, 11, 54, 26, 40, 15, 34, 20, 31, 10, 25, 14, 19, 9, 13, 8, 7, 6].map fun n => .int .u8 n
def tab10 : Array Value := #[1, 10, 100, 1000, 10000, 100000, 1000000, 10000000, 100000000, 1000000000, 10000000000, 100000000000, 1000000000000, 10000000000000, 100000000000000, 1000000000000000, 10000000000000000, 100000000000000000, 1000000000000000000, 10000000000000000000].map fun n => .int .u64 n
noncomputable def laidWorld (os : Os) : World :=
  let w0 := World.holding Tryd.prog os ⟨#[], #[], []⟩
  { w0 with heap := ((w0.heap.modify 0 fun
      | .cells _ t frozen => .cells tab10 t frozen
      | o => o).modify 1 fun
      | .cells _ t frozen => .cells tab32 t frozen
      | o => o).modify 2 fun
      | .cells _ t frozen => .cells tab64 t frozen
      | o => o }
theorem laidWorld_met (os : Os) (args : Array Value) : laidMetH Tryd.prog Rows.ratchetForgetsRow.laid ((laidWorld os).forCall (fun _ _ => 0) ⟨#[], args, []⟩).memory :=
  laidMetH_of_parts (laidMet_of_run' 80 (by kernel_rfl) (by kernel_rfl)) (by kernel_rfl)
set_option maxRecDepth 100000 in
theorem ratchetForgets_lifted (os : Os) (started : os.Started) (H : Type) (enc : TypeId × Value → H) :
    ReturnsInHanded {} Tryd.checked os 4 .any (fun w args => (Rows.ratchetForgetsSpec.pre enc Tryd.prog Tryd.f4 Rows.ratchetForgetsRow.domain false w args ∧ laidMetH Tryd.prog Rows.ratchetForgetsRow.laid w) ∧ sizedMet enc Tryd.prog Tryd.f4 (OpenSpec.ofChange Rows.ratchetForgetsSpec) false w args)
      (Rows.ratchetForgetsSpec.post enc Tryd.prog Tryd.f4 false true false false) := by
  refine returnsInHanded_of_change_and (C := Tryd.checked) (X := fun w _ => laidMetH Tryd.prog Rows.ratchetForgetsRow.laid w) (fun _ _ _ hh h => h.of_heap hh) Tryd.own started (by kernel_rfl) Tryd.func4
    (ChangeSpec.witness_at (enc := enc) (C := Tryd.checked) (os := os) (X := fun w _ => laidMetH Tryd.prog Rows.ratchetForgetsRow.laid w) false (laidWorld os) #[.slice none 0 0] 8 rfl (by kernel_rfl) (by kernel_rfl) (by kernel_rfl) (by kernel_rfl) (by kernel_rfl) (laidWorld_met os _)) ?_
  intro W base args ds gs before hval0 hW _ _ hLaid _
  have htab := Go.Cab.tabOk_laid hLaid (by kernel_rfl)
  have hval : ∀ (j : Nat) t v, Tryd.f4.params[j]? = some t → args[j]? = some v → Value.okWide Tryd.prog W .any base t v := hval0
  have hW' := hW
  obtain ⟨p, q, hA0, hV, rfl, hfz, hnd⟩ := hW
  have hA : DataW.TrodAll enc Tryd.prog W 0 (fun _ => true) true Tryd.f4.params.toList args.toList ds p := hA0
  rw [Tryd.params4] at hA hval
  obtain ⟨v0, d0, rfl, rfl, h0⟩ := trodAll_one hA
  obtain ⟨rfl, rfl⟩ := trodVars_none hV
  obtain ⟨as0, hb0, hk0⟩ := Go.Cab.acts_arg Go.Cab.ka_act Tryd.sliceActs Tryd.sliceActsC (hval 0 22 v0 rfl rfl) h0
  have hc := Go.Cab.ratchetForgets_call as0 hb0 W (Go.Cab.StOf W p) [_] ⟨(fun _ _ h => h.2), htab⟩ ⟨hk0, trivial⟩
  refine Calls.mono hc fun e W' ⟨V, Imm, he, hfr, _, hr⟩ => ?_
  have hV' := (hr.1.lit).1
  subst hV'
  have hb := hfr.below
  have hlt : ∀ x ∈ p, x.block < W.heap.size := fun x hx => hW'.lt x (by simpa using hx)
  refine ⟨_, he, Go.Cab.post_below rfl hW' hb (fun _ _ _ => trodAll_mk1 (shut_bool Tryd.underlying4 true)) (fun sp hsp => ?_) (fun _ => rfl) (ok_one (by kernel_rfl) rfl (okWide_bool_mk Tryd.underlying4 true))⟩
  have s0 := WideElems.Trod_stays (sp' := sp) Tryd.laidOut (by kernel_rfl) (of_decide_eq_true (by kernel_rfl)) h0 (fun x hx => hb.same (hlt x (by simp [hx]))) (fun x hx => hsp x (by simp [hx]))
  have s := trodAll_mk1 s0
  simp only [List.append_nil, List.append_assoc] at s ⊢
  exact s
theorem ratchetForgets_holds : Rows.RatchetForgetsSaid :=
  OpenClaim.holds_of_wide 4 Tryd.f4 rfl rfl rfl rfl rfl rfl rfl ⟨rfl, rfl, rfl, rfl, rfl⟩ rfl rfl rfl rfl rfl (by kernel_rfl) Tryd.func4 (by kernel_rfl)
    (of_decide_eq_true (by kernel_rfl)) (by unfold Func.isWrapper; first | (rw [if_pos (by decide +kernel)]; kernel_rfl) | (rw [if_neg (by decide +kernel)]; exact ⟨rfl, rfl⟩))
    (fun os started H enc _ => ratchetForgets_lifted os started H enc)
end Go.Proofs.YtiikindmkllbiaaDoor