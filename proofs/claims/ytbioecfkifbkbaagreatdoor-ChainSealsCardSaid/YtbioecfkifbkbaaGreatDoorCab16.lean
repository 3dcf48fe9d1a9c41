/- Part 16 of what the proof stands on: V22, JO. -/
import Derived.Test.YtbioecfkifbkbaaGreatDoorCab15
import Derived.Test.YtbioecfkifbkbaaGreatDoorRows
import Derived.Test.YtbioecfkifbkbaaGreatDoorCab14
import Derived.ProofKit
import Derived.ChangeMaps5
import Derived.LaidLaws
import Derived.LaidHandle
import Derived.JoinedOf
set_option linter.unusedSimpArgs false
set_option linter.unnecessarySimpa false
set_option linter.unusedVariables false
set_option linter.unusedSectionVars false
namespace Go.Cab
open Go.RowKit
open Classical
def fb502 : AC := (.seq (.reg [⟨some 3, none, .box 529 (.tmp 0), [], none⟩, ⟨some 4, none, .box 71 (.tmp 1), [], none⟩, ⟨some 6, none, .mov (.const (.bool false)), [], none⟩]) (.seq (.seq (.reg [⟨some 15, none, .call 5 [], [], none⟩, ⟨some 16, none, .un .not (.tmp 15), [], none⟩]) (.cond (.tmp 16) (.seq (.reg [⟨some 6, none, .mov (.const (.bool false)), [], none⟩]) .ret) .skip)) (.seq (.seq (.reg [⟨some 17, none, .load true 529 (.tmp 3), [], none⟩, ⟨some 18, none, .load true 71 (.tmp 4), [], none⟩, ⟨some 19, none, .mov (.tmp 2), [], none⟩, ⟨some 20, none, .call 6 [.tmp 17, .tmp 18, .tmp 19], [], none⟩]) (.cond (.tmp 20) (.seq (.reg [⟨some 21, none, .call 5 [], [], none⟩, ⟨some 6, none, .mov (.tmp 21), [], none⟩]) .ret) .skip)) (.seq (.reg [⟨some 22, none, .xc (.dir 7) [] [] [], [], none⟩, ⟨some 23, none, .xc (.dir 8) [] [] [], [], none⟩, ⟨some 7, none, .alloc 1 (.st [1] [(.lit (.pointer .none))]), [], none⟩, ⟨some 8, none, .alloc 1 (.st [1] [(.lit (.pointer .none))]), [], none⟩, ⟨none, none, .store 1 (.tmp 7) (.tmp 22), [], none⟩, ⟨none, none, .store 1 (.tmp 8) (.tmp 23), [], none⟩]) (.seq (.reg [⟨some 25, none, .load true 1 (.tmp 7), [], none⟩, ⟨some 26, none, .rdp (.mkifc 40) [.tmp 25], [], none⟩, ⟨some 27, none, .load true 529 (.tmp 3), [], none⟩, ⟨some 28, none, .load true 71 (.tmp 4), [], none⟩, ⟨some 29, none, .mov (.tmp 2), [], none⟩, ⟨some 30, none, .xc (.dir 9) [.tmp 26, .tmp 27, .tmp 28, .tmp 29] [] [], [], none⟩, ⟨some 24, none, .mov (.tmp 30), [], none⟩, ⟨some 31, none, .ext (.tmp 24) 0, [], none⟩, ⟨some 32, none, .ext (.tmp 24) 1, [], none⟩, ⟨some 33, none, .ext (.tmp 24) 2, [], none⟩, ⟨some 9, none, .alloc 529 (.st [528, 1] [(.arr 66 (List.replicate 8 (.st [1, 1, 32, 32] [(.lit (.bool false)), (.lit (.bool false)), (.arr 1 (List.replicate 32 (.lit (bn 0)))), (.arr 1 (List.replicate 32 (.lit (bn 0))))]))), (.lit (.slice .none 0 0))]), [], none⟩, ⟨none, none, .store 529 (.tmp 9) (.tmp 31), [], none⟩, ⟨some 10, none, .mov (.tmp 32), [], none⟩, ⟨some 11, none, .mov (.tmp 33), [], none⟩]) (.seq (.reg [⟨some 34, none, .load true 1 (.tmp 7), [], none⟩, ⟨some 35, none, .load true 1 (.tmp 8), [], none⟩, ⟨some 36, none, .xc (.dir 10) [.tmp 34, .tmp 35] [] [], [], none⟩]) (.seq (.reg [⟨some 38, none, .load true 1 (.tmp 8), [], none⟩, ⟨some 39, none, .load true 529 (.tmp 3), [], none⟩, ⟨some 40, none, .load true 71 (.tmp 4), [], none⟩, ⟨some 41, none, .mov (.tmp 2), [], none⟩, ⟨some 42, none, .xc (.dir 11) [.tmp 38, .tmp 39, .tmp 40, .tmp 41] [] [], [], none⟩, ⟨some 37, none, .mov (.tmp 42), [], none⟩, ⟨some 43, none, .ext (.tmp 37) 0, [], none⟩, ⟨some 44, none, .ext (.tmp 37) 1, [], none⟩, ⟨some 45, none, .ext (.tmp 37) 2, [], none⟩, ⟨some 12, none, .alloc 529 (.st [528, 1] [(.arr 66 (List.replicate 8 (.st [1, 1, 32, 32] [(.lit (.bool false)), (.lit (.bool false)), (.arr 1 (List.replicate 32 (.lit (bn 0)))), (.arr 1 (List.replicate 32 (.lit (bn 0))))]))), (.lit (.slice .none 0 0))]), [], none⟩, ⟨none, none, .store 529 (.tmp 12) (.tmp 43), [], none⟩, ⟨some 13, none, .mov (.tmp 44), [], none⟩, ⟨some 14, none, .mov (.tmp 45), [], none⟩]) (.seq (.reg [⟨some 46, none, .call 5 [], [], none⟩, ⟨some 47, none, .mov (.tmp 46), [], none⟩, ⟨some 48, some (47, true), .mov (.tmp 10), [], none⟩, ⟨some 49, some (47, true), .mov (.tmp 13), [], none⟩, ⟨some 50, some (47, true), .bin .eql (.tmp 48) (.tmp 49), [], none⟩, ⟨some 51, none, .pick (.tmp 47) (.tmp 50) (.const (.bool false)), [], none⟩, ⟨some 52, none, .mov (.tmp 51), [], none⟩, ⟨some 53, some (52, true), .mov (.tmp 11), [], none⟩, ⟨some 54, some (52, true), .mov (.tmp 14), [], none⟩, ⟨some 55, some (52, true), .bin .eql (.tmp 53) (.tmp 54), [], none⟩, ⟨some 56, none, .pick (.tmp 52) (.tmp 55) (.const (.bool false)), [], none⟩, ⟨some 57, none, .mov (.tmp 56), [], none⟩, ⟨some 58, some (57, true), .load true 529 (.tmp 9), [], none⟩, ⟨some 59, some (57, true), .load true 529 (.tmp 12), [], none⟩, ⟨some 60, some (57, true), .call 12 [.tmp 58, .tmp 59], [], none⟩, ⟨some 61, none, .pick (.tmp 57) (.tmp 60) (.const (.bool false)), [], none⟩, ⟨some 6, none, .mov (.tmp 61), [], none⟩]) .ret))))))))
def fc502 : FC := ⟨3, 62, [(.tmp 6)], fb502⟩
theorem fc502_eq : compF Go.Proofs.Tryz.prog 3 = some fc502 := by kernel_rfl
attribute [local irreducible] AReg
set_option maxRecDepth 20000 in
set_option maxHeartbeats 64000000 in
theorem chainSeals_call {rats : List Rat} {ws : List WaitV} {o : OpV} {s : List UInt8} (hrl : rats.length = 8) (hrk : ∀ r ∈ rats, RatW r) (hw : ∀ w ∈ ws, WaitW w) (ho : OpRaw o) :
    PCall Go.Proofs.Tryz.prog 3 [keysA rats (ws.map waitA), opA o, .lit (tx s)] (.val (.lit (.bool true))) := by
  have h502 := fc502_eq
  have hc7 : callable Go.Proofs.Tryz.prog 7 = true := by kernel_rfl
  have hc8 : callable Go.Proofs.Tryz.prog 8 = true := by kernel_rfl
  have al := calive_call
  have hA : (rats.map ratA).length = 8 := by rw [List.length_map]; exact hrl
  have cg := greatC_call ⟨ho.ofk, ho.check⟩ ho.text (fun b hb => (ho.bok b hb).2) (A := rats.map ratA) (ws := ws.map waitA) hA (s := s)
  rw [show (ws.map waitA).length = ws.length from List.length_map _] at cg
  have o5 := ho.ofk; have o6 := ho.check
  have z1 : (opA o).sz = 71 := by simp [opA, AV.sz]
  have eK : keysA rats (ws.map waitA) = ksA (rats.map ratA) (ws.map waitA) := rfl
  rw [eK]
  unfold ksA at cg ⊢
  refine PCall.of h502 rfl ?_; show AC.wp _ fb502 (AS.init [.st [528, 1] [.arr 66 (rats.map ratA), .sl 65 (ws.map waitA)], opA o, .lit (tx s)] 3 62) (fun x s => match x with | .exit _ => False | _ => Fin [(.tmp 6)] s _); unfold fb502 AS.init
  refine wp_sg (areg_bx rfl (by simp [AS.ev, AV.sz, hA]) fun l3 => areg_bx rfl (by simp only [AS.ev, AS.put]; exact z1) fun l4 => areg_end (by simp [push_cast]; exact rfl) ?_)
  refine wp_seq' (wp_seq' (wp_rg ?_))
  refine areg_ca (by simp [AS.ev, AS.coe, AS.put] <;> exact rfl) al ?_
  refine areg_end (by simp [push_cast]; exact rfl) ?_
  refine wp_cond_f rfl (wp_skip' ?_)
  refine wp_seq' (wp_seq' (wp_rg ?_))
  refine areg_run 3 (by simp [push_cast, hA, opA, o5, o6]; exact rfl) ?_
  refine areg_ca (vs := [.st [528, 1] [.arr 66 (rats.map ratA), .sl 65 (ws.map waitA)], opA o, .lit (tx s)]) (by simp [AS.ev, AS.coe, AS.put, opA, keyA]) cg ?_
  refine areg_end (by simp [push_cast]; exact rfl) ?_
  cases hgr : (decide (60 < ws.length) || (greatO o || decide (300 < s.length))) with
  | true =>
    refine wp_cond_t (by simp [AS.ev]) (wp_sg ?_)
    refine areg_ca (by simp [AS.ev, AS.coe, AS.put] <;> exact rfl) al ?_
    refine areg_end (by simp [push_cast]; exact rfl) (wp_ret' ?_)
    exact fin_tmp (by simp [RVal, AS.ev, AS.coe]) (by simp)
  | false =>
  refine wp_cond_f (by simp [AS.ev]) (wp_skip' ?_)
  obtain ⟨hin, hs⟩ := chIn_of hrl hrk hw ho hgr
  refine wp_sgL ?_
  refine areg_run 0 (by simp [push_cast]; exact rfl) ?_
  refine areg_xq (us := []) rfl (by simp only [tgtA, tgtB, Option.bind_some, hc7, if_true]) (newfree_call _) ⟨_, _, (0, 0), 0, rfl, rfl⟩ (fun r hp' _ t' ht' => by cases ht') ?_
  rintro r H' ⟨l, rr, rfl, rfl⟩
  refine areg_run 0 (by simp [push_cast]; exact rfl) ?_
  refine areg_xq (us := []) rfl (by simp only [tgtA, tgtB, Option.bind_some, hc8, if_true]) (rnew_callN (n := 65) _ rfl) ⟨_, _, (0, 0), rfl, rfl⟩ (fun r hp' _ t' ht' => by cases ht') ?_
  rintro r H' ⟨l2, rfl, rfl⟩
  refine areg_run 0 (by simp [push_cast]; exact rfl) ?_
  refine areg_al' rfl fun l7 => areg_al' rfl fun l8 => areg_end (by simp [push_cast, freeS, kitA]; exact rfl) ?_
  refine wp_kit2 (n := 62) (l := l) (l2 := l2) (r := rr) (Lo := [none, none, none, some (.box l3 529 (.st [528, 1] [.arr 66 (rats.map ratA), .sl 65 (ws.map waitA)])), some (.box l4 71 (opA o)), none, none, some (.box l7 1 (freeS 62 l)), some (.box l8 1 (kitA 65 l2))] ++ List.replicate 53 none)
    (fun N t u => [.any, .any, .lit (tx s), .ptr (N + 3) l3 0 [], .ptr (N + 4) l4 0 [], .any, .lit (.bool false), .ptr (N + 7) l7 0 [], .ptr (N + 8) l8 0 []] ++ List.replicate 53 .any)
    (fun N t u => [none, none, none, some (.box l3 529 (.st [528, 1] [.arr 66 (rats.map ratA), .sl 65 (ws.map waitA)])), some (.box l4 71 (opA o)), none, none, some (.box l7 1 (freeS t.b t.l)), some (.box l8 1 (kitA u.b u.l))] ++ List.replicate 53 none) rfl ?_ ?_ fun N H t V u U1 U2 hh hN => ?_
  · simp [leA, RelLe.refl', RelLe.ptr']
  · simp [leB, tbNew, rtNew, BlkLe.freeS', BlkLe.kitA', BlkLe.refl']
  have G1 : ∀ i x, (pF H t u i x).length = N := fun i x => by rw [pF_len, hN]
  have g1 : ∀ i x L k, (pF H t u i x ++ L)[N + k]? = L[k]? := fun i x L k => cat1 _ _ _ _ (G1 _ _)
  have g2 : ∀ i x L k z, (pF H t u i x ++ L).set (N + k) z = pF H t u i x ++ L.set k z := fun i x L k z => cat2 _ _ _ _ _ (G1 _ _)
  obtain ⟨A, ws', m, e, ts, hout, he, k1, k2⟩ := seals_same hin s (by omega)
  have q1 := GC.ofP hh (us1 := []) (fun H V h => k1 H t V h)
  have q2 := GC.ofR2 hh (ts1 := ts) (fun H V U h => k2 H u V U h)
  have qs := sync_gk hh (ts1 := ts) (us1 := []) hout.ok (by have := hout.tl; omega) (m := 0) (by omega) rfl
  have qS := sameK_call hout.al hout.ar hout.w (by have := hout.wl; omega)
  have hA2 := hout.al
  unfold ksA at q1 q2 qS
  generalize ws'.map waitA = W2 at *
  generalize ws.map waitA = W1 at *
  generalize rats.map ratA = A1 at *
  refine wp_sg ?_
  refine areg_run 1 (by simp [push_cast, g1, freeS_sz, freeS_agg, freeS_tup]; exact rfl) ?_
  refine areg_rdp (us := [freeS t.b t.l]) rfl (mkifc_free _ _) ?_
  refine areg_run 3 (by simp [push_cast, g1, hA, opA, o5, o6]; exact rfl) ?_
  refine areg_gk [freeI t.b t.l, .st [528, 1] [.arr 66 A1, .sl 65 W1], opA o, .lit (tx s)] G1 rfl (tgt_cseal _ _ _ _) q1 (by simp) (by simp) fun x2 => ?_
  refine areg_run 4 (by simp [push_cast]; exact rfl) ?_
  refine areg_al' (z' := ks0) rfl fun l9 => areg_end (by simp [push_cast, g1, g2, ks0, hA2]; exact rfl) ?_
  refine wp_sg ?_
  refine areg_run 2 (by simp [push_cast, g1, freeS, kitA]; exact rfl) ?_
  refine areg_gk [freeS t.b t.l, kitA u.b u.l] G1 rfl (tgt_dir (by kernel_rfl) _) qs (by simp) (by simp) fun x3 => ?_
  refine areg_end (by simp [push_cast]; exact rfl) ?_
  refine wp_sg ?_
  refine areg_run 4 (by simp [push_cast, g1, kitA, hA, opA, o5, o6]; exact rfl) ?_
  refine areg_gk [kitA u.b u.l, .st [528, 1] [.arr 66 A1, .sl 65 W1], opA o, .lit (tx s)] G1 rfl (tgt_dir (by kernel_rfl) _) q2 (by simp) (by simp) fun x4 => ?_
  refine areg_run 4 (by simp [push_cast]; exact rfl) ?_
  refine areg_al' (z' := ks0) rfl fun l12 => areg_end (by simp [push_cast, g1, g2, ks0, hA2]; exact rfl) ?_
  refine wp_sg ?_
  refine areg_ca (by simp [AS.ev, AS.coe, AS.put] <;> exact rfl) al ?_
  refine areg_run 13 (by simp [push_cast, g1, hA2]; exact rfl) ?_
  refine areg_g (by simp [AS.ev, AS.put]) (areg_ca (vs := [.st [528, 1] [.arr 66 A, .sl 65 W2], .st [528, 1] [.arr 66 A, .sl 65 W2]]) (by simp [AS.ev, AS.coe, AS.put]) qS ?_)
  refine areg_end (by simp [push_cast]; exact rfl) (wp_ret' ?_)
  exact fin_tmp (by simp [RVal, AS.ev, AS.coe]) (by simp)
end Go.Cab
namespace Go.Proofs.YtbioecfkifbkbaaGreatDoor
open Go.ChangeShapes Go.WideShapes Go.ChangeAt Go.RowKit
theorem Tryz.laidOut : laidOutB Tryz.prog = true := by kernel_rfl
theorem Tryz.own : ownKnob Tryz.prog.godebug = none := by kernel_rfl
theorem Tryz.textU : Tryz.prog.underlying 9 = some .string := by kernel_rfl
def tab32 : Array Value := #[0, 1, 28, 2, 29, 14, 24, 3, 30, 22, 20, 15, 25, 17, 4, 8, 31, 27, 13, 23, 21, 19, 16, 7, 26, 12, 18, 6, 11, 5, 10, 9].map fun n => .int .u8 n
def tab64 : Array Value := #[0, 1, 56, 2, 57, 49, 28, 3, 61, 58, 42, 50, 38, 29, 17, 4, 62, 47, 59, 36, 45, 43, 51, 22, 53, 39, 33, 30, 24, 18, 12, 5, 63, 55, 48, 27, 60, 41, 37, 16, 46, 35, 44, 21, 52, 32, 23, 11, 54, 26, 40, 15, 34, 20, 31, 10, 25, 14, 19, 9, 13, 8, 7, 6].map fun n => .int .u8 n
def tab10 : Array Value := #[1, 10, 100, 1000, 10000, 100000, 1000000, 10000000, 100000000, 1000000000, 10000000000, 100000000000, 1000000000000, 10000000000000, 100000000000000, 1000000000000000, 10000000000000000, 100000000000000000, 1000000000000000000, 10000000000000000000].map fun n => .int .u64 n
noncomputable def laidWorld (os : Os) : World :=
  let w0 := World.holding Tryz.prog os ⟨#[], #[], []⟩
  { w0 with heap := ((w0.heap.modify 1 fun
      | .cells _ t frozen => .cells tab10 t frozen
      | o => o).modify 2 fun
      | .cells _ t frozen => .cells tab32 t frozen
      | o => o).modify 3 fun
      | .cells _ t frozen => .cells tab64 t frozen
      | o => o }
theorem laidWorld_met (os : Os) (args : Array Value) : laidMetH Tryz.prog Rows.chainSealsRow.laid ((laidWorld os).forCall (fun _ _ => 0) ⟨#[], args, []⟩).memory :=
  laidMetH_of_parts (laidMet_of_run' 80 (by kernel_rfl) (by kernel_rfl)) (by kernel_rfl)
set_option maxRecDepth 100000 in
theorem chainSeals_lifted (os : Os) (started : os.Started) (H : Type) (enc : TypeId × Value → H) :
    ReturnsInHanded {} Tryz.checked os 3 .any (fun w args => (Rows.chainSealsSpec.pre enc Tryz.prog Tryz.f3 Rows.chainSealsRow.domain false w args ∧ laidMetH Tryz.prog Rows.chainSealsRow.laid w) ∧ sizedMet enc Tryz.prog Tryz.f3 (OpenSpec.ofChange Rows.chainSealsSpec) false w args)
      (Rows.chainSealsSpec.post enc Tryz.prog Tryz.f3 false true false false) := by
  refine returnsInHanded_of_change_and (C := Tryz.checked) (X := fun w _ => laidMetH Tryz.prog Rows.chainSealsRow.laid w) (fun _ _ _ hh h => h.of_heap hh) Tryz.own started (by kernel_rfl) Tryz.func3
    (ChangeSpec.witness_at (enc := enc) (C := Tryz.checked) (os := os) (X := fun w _ => laidMetH Tryz.prog Rows.chainSealsRow.laid w) false (laidWorld os) #[Value.agg ((List.replicate 8 ([Value.bool false, Value.bool false] ++ List.replicate 64 (Value.int .u8 0))).flatten ++ [Value.slice none 0 0]).toArray, Value.agg ([Value.int .i64 0, Value.int .u32 0, Value.slice none 0 0, Value.int .i64 0, Value.slice none 0 0] ++ List.replicate 64 (Value.int .u8 0) ++ [Value.string ⟨#[]⟩, Value.slice none 0 0]).toArray, Value.string ⟨#[]⟩] 8 rfl (by kernel_rfl) (by kernel_rfl) (by kernel_rfl) (by kernel_rfl) (by kernel_rfl) (laidWorld_met os _)) ?_
  intro W base args ds gs before hval0 hW _ _ hLaid _
  have htab := Go.Cab.tabOk_laid hLaid (by kernel_rfl)
  have hval : ∀ (j : Nat) t v, Tryz.f3.params[j]? = some t → args[j]? = some v → Value.okWide Tryz.prog W .any base t v := hval0
  have hW' := hW
  obtain ⟨p, q, hA0, hV, rfl, hfz, hnd⟩ := hW
  have hA : DataW.TrodAll enc Tryz.prog W 0 (fun _ => true) true Tryz.f3.params.toList args.toList ds p := hA0
  rw [Tryz.params3] at hA hval
  obtain ⟨v0, v1, v2, d0, d1, d2, p0, p1, p2, rfl, rfl, rfl, h0, h1, h2⟩ := trodAll_three hA
  obtain ⟨rfl, rfl⟩ := trodVars_none hV
  obtain ⟨rs0, ws0, k0, r0⟩ := Go.Cab.keys_arg Go.Cab.ty_try (hval 0 29 v0 rfl rfl) h0
  obtain ⟨y1, k1, r1⟩ := Go.Cab.op_arg Go.Cab.ty_try (hval 1 35 v1 rfl rfl) h1
  obtain ⟨s2, rfl, rfl, rfl, ws2⟩ := Go.ChangeMaps.open_string Tryz.textU (hval 2 9 v2 rfl rfl) h2
  have hc := Go.Cab.chainSeals_call k0.1 k0.2.1 k0.2.2.2 k1 W (Go.Cab.StOf W (p0 ++ p1)) [_, _, _] ⟨(fun _ _ h => h.2), htab⟩ ⟨r0.mono (fun _ _ hb => ⟨by simp [hb.1], hb.2⟩) (fun _ _ _ => rfl), r1.mono (fun _ _ hb => ⟨by simp [hb.1], hb.2⟩) (fun _ _ _ => rfl), Go.Cab.Rel.mkLit (v := Go.Cab.tx s2.data.toList) rfl, trivial⟩
  refine Calls.mono hc fun e W' ⟨V, Imm, he, hfr, _, hr⟩ => ?_
  have hV' := (hr.1.lit).1
  subst hV'
  have hb := hfr.below
  have hlt : ∀ x ∈ p0 ++ p1, x.block < W.heap.size := fun x hx => hW'.lt x (by simpa using hx)
  refine ⟨_, he, Go.Cab.post_below rfl hW' hb (fun _ _ _ => trodAll_mk1 (shut_bool Tryz.underlying4 true)) (fun sp hsp => ?_) (fun _ => rfl) (ok_one (by kernel_rfl) rfl (okWide_bool_mk Tryz.underlying4 true))⟩
  have t0 := WideElems.Trod_stays (sp' := sp) Tryz.laidOut (by kernel_rfl) (of_decide_eq_true (by kernel_rfl)) h0 (fun x hx => hb.same (hlt x (by simp [hx]))) (fun x hx => hsp x (by simp [hx]))
  have t1 := WideElems.Trod_stays (sp' := sp) Tryz.laidOut (by kernel_rfl) (of_decide_eq_true (by kernel_rfl)) h1 (fun x hx => hb.same (hlt x (by simp [hx]))) (fun x hx => hsp x (by simp [hx]))
  have t2 := Go.ChangeMaps.shut_string (enc := enc) (w := W') (base := 0) (sp := sp) (held := true) Tryz.textU ws2
  have s := trodAll_mk3 t0 t1 t2
  simp only [List.nil_append, List.append_nil, List.append_assoc] at s ⊢
  exact s
theorem chainSeals_holds : Rows.ChainSealsSaid :=
  OpenClaim.holds_of_wide 3 Tryz.f3 rfl rfl rfl rfl rfl rfl rfl ⟨rfl, rfl, rfl, rfl, rfl⟩ rfl rfl rfl rfl rfl (by kernel_rfl) Tryz.func3 (by kernel_rfl)
    (of_decide_eq_true (by kernel_rfl)) (by unfold Func.isWrapper; first | (rw [if_pos (by decide +kernel)]; kernel_rfl) | (rw [if_neg (by decide +kernel)]; exact ⟨rfl, rfl⟩))
    (fun os started H enc _ => chainSeals_lifted os started H enc)
end Go.Proofs.YtbioecfkifbkbaaGreatDoor