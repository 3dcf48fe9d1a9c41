/- Part 11 of what the proof stands on: G29, KT. -/
import Derived.Test.YtjdoefdcdogeiaaCab10
import Derived.Test.YtjdoefdcdogeiaaCab05
import Derived.ProofKit
import Derived.Deep.Slices
import Derived.Test.YtjdoefdcdogeiaaProg
set_option linter.unusedSimpArgs false
set_option linter.unnecessarySimpa false
set_option linter.unusedVariables false
set_option linter.unusedSectionVars false
/- Bundle's laws: BundleHides walked. -/
-- TEXTS
-- KIT
namespace Go.Cab
open Classical
def fb401 : AC := (.seq (.reg [⟨(.some 2), .none, (.mov (.const (.bool .false))), [], .none⟩]) (.seq (.seq (.reg [⟨(.some 14), .none, (.call 5 []), [], .none⟩, ⟨(.some 15), .none, (.un .not (.tmp 14)), [], .none⟩]) (.cond (.tmp 15) (.seq (.reg [⟨(.some 2), .none, (.mov (.const (.bool .false))), [], .none⟩]) .ret) .skip)) (.seq (.reg [⟨(.some 16), .none, (.xc (.dir 6) [] [] []), [], .none⟩, ⟨(.some 3), .none, (.alloc 1 (.st [1] [(.lit (.pointer .none))])), [], .none⟩, ⟨.none, .none, (.store 1 (.tmp 3) (.tmp 16)), [], .none⟩]) (.seq (.reg [⟨(.some 17), .none, (.load .true 1 (.tmp 3)), [], .none⟩, ⟨(.some 18), .none, (.rdp (.mkifc 25) [(.tmp 17)]), [], .none⟩, ⟨(.some 19), .none, (.mov (.tmp 0)), [], .none⟩, ⟨(.some 20), .none, (.bin .rem (.tmp 19) (.const (bn 6))), [], .none⟩, ⟨(.some 21), .none, (.cvt .i64 (.tmp 20)), [], .none⟩, ⟨(.some 22), .none, (.xc (.dir 7) [(.tmp 18), (.tmp 21)] [] []), [], .none⟩, ⟨(.some 4), .none, (.alloc 65 (.st [32, 32, 1] [(.arr 1 (List.replicate 32 (.lit (bn 0)))), (.arr 1 (List.replicate 32 (.lit (bn 0)))), (.lit (.slice .none 0 0))])), [], .none⟩, ⟨.none, .none, (.store 65 (.tmp 4) (.tmp 22)), [], .none⟩]) (.seq (.reg [⟨(.some 23), .none, (.load .true 1 (.tmp 3)), [], .none⟩, ⟨(.some 24), .none, (.rdp (.mkifc 25) [(.tmp 23)]), [], .none⟩, ⟨(.some 25), .none, (.load .true 65 (.tmp 4)), [], .none⟩, ⟨(.some 26), .none, (.xc (.dir 8) [(.tmp 24), (.tmp 25)] [] []), [], .none⟩, ⟨(.some 5), .none, (.alloc 65 (.st [32, 32, 1] [(.arr 1 (List.replicate 32 (.lit (bn 0)))), (.arr 1 (List.replicate 32 (.lit (bn 0)))), (.lit (.slice .none 0 0))])), [], .none⟩, ⟨.none, .none, (.store 65 (.tmp 5) (.tmp 26)), [], .none⟩]) (.seq (.reg [⟨(.some 28), .none, (.load .true 1 (.tmp 3)), [6, 7, 8], (.some 3)⟩, ⟨(.some 29), .none, (.rdp (.mkifc 25) [(.tmp 28)]), [], .none⟩, ⟨(.some 30), .none, (.faddr 0 0 (.tmp 3)), [], .none⟩, ⟨(.some 31), .none, (.load .false 1 (.tmp 30)), [6, 7, 8], (.some 3)⟩, ⟨(.some 32), .none, (.xc (.dir 11) [(.tmp 31), (.const (tx [97]))] [3, 3, 5] [6, 7, 8]), [], .none⟩, ⟨(.some 33), .none, (.faddr 0 0 (.tmp 3)), [], .none⟩, ⟨(.some 34), .none, (.load .false 1 (.tmp 33)), [6, 7, 8], (.some 3)⟩, ⟨(.some 35), .none, (.xc (.dir 11) [(.tmp 34), (.const (tx [98]))] [3, 5] [6, 7, 8]), [], .none⟩, ⟨(.some 36), .none, (.load .true 65 (.tmp 5)), [6, 7, 8], (.some 5)⟩, ⟨(.some 37), .none, (.xc (.dir 10) [(.tmp 29), (.tmp 32), (.tmp 35), (.tmp 36)] [] [6, 7, 8]), [], .none⟩, ⟨(.some 27), .none, (.mov (.tmp 37)), [], .none⟩, ⟨(.some 38), .none, (.ext (.tmp 27) 0), [], .none⟩, ⟨(.some 39), .none, (.ext (.tmp 27) 1), [], .none⟩, ⟨(.some 40), .none, (.ext (.tmp 27) 2), [], .none⟩, ⟨(.some 41), .none, (.ext (.tmp 27) 3), [], .none⟩, ⟨(.some 6), .none, (.alloc 96 (.st [32, 32, 32] [(.arr 1 (List.replicate 32 (.lit (bn 0)))), (.arr 1 (List.replicate 32 (.lit (bn 0)))), (.arr 1 (List.replicate 32 (.lit (bn 0))))])), [], .none⟩, ⟨(.some 7), .none, (.alloc 32 (.arr 1 (List.replicate 32 (.lit (bn 0))))), [], .none⟩, ⟨(.some 8), .none, (.alloc 65 (.st [32, 32, 1] [(.arr 1 (List.replicate 32 (.lit (bn 0)))), (.arr 1 (List.replicate 32 (.lit (bn 0)))), (.lit (.slice .none 0 0))])), [], .none⟩, ⟨.none, .none, (.store 96 (.tmp 6) (.tmp 38)), [], .none⟩, ⟨.none, .none, (.store 32 (.tmp 7) (.tmp 39)), [], .none⟩, ⟨.none, .none, (.store 65 (.tmp 8) (.tmp 40)), [], .none⟩, ⟨(.some 9), .none, (.mov (.tmp 41)), [], .none⟩]) (.seq (.reg [⟨(.some 43), .none, (.load .true 1 (.tmp 3)), [], .none⟩, ⟨(.some 44), .none, (.rdp (.mkifc 25) [(.tmp 43)]), [], .none⟩, ⟨(.some 45), .none, (.load .true 65 (.tmp 4)), [], .none⟩, ⟨(.some 46), .none, (.load .true 96 (.tmp 6)), [], .none⟩, ⟨(.some 47), .none, (.xc (.dir 12) [(.tmp 44), (.tmp 45), (.tmp 46)] [] []), [], .none⟩, ⟨(.some 42), .none, (.mov (.tmp 47)), [], .none⟩, ⟨(.some 48), .none, (.ext (.tmp 42) 0), [], .none⟩, ⟨(.some 49), .none, (.ext (.tmp 42) 1), [], .none⟩, ⟨(.some 50), .none, (.ext (.tmp 42) 2), [], .none⟩, ⟨(.some 10), .none, (.alloc 65 (.st [32, 32, 1] [(.arr 1 (List.replicate 32 (.lit (bn 0)))), (.arr 1 (List.replicate 32 (.lit (bn 0)))), (.lit (.slice .none 0 0))])), [], .none⟩, ⟨(.some 11), .none, (.alloc 32 (.arr 1 (List.replicate 32 (.lit (bn 0))))), [], .none⟩, ⟨.none, .none, (.store 65 (.tmp 10) (.tmp 48)), [], .none⟩, ⟨.none, .none, (.store 32 (.tmp 11) (.tmp 49)), [], .none⟩, ⟨(.some 12), .none, (.mov (.tmp 50)), [], .none⟩]) (.seq (.reg [⟨(.some 51), .none, (.faddr 0 0 (.tmp 5)), [], .none⟩, ⟨(.some 52), .none, (.load .true 32 (.tmp 51)), [], .none⟩, ⟨(.some 53), .none, (.faddr 32 1 (.tmp 5)), [], .none⟩, ⟨(.some 54), .none, (.load .true 32 (.tmp 53)), [], .none⟩, ⟨(.some 55), .none, (.faddr 0 0 (.tmp 6)), [], .none⟩, ⟨(.some 56), .none, (.load .true 32 (.tmp 55)), [], .none⟩, ⟨(.some 57), .none, (.faddr 32 1 (.tmp 6)), [], .none⟩, ⟨(.some 58), .none, (.load .true 32 (.tmp 57)), [], .none⟩, ⟨(.some 59), .none, (.faddr 64 2 (.tmp 6)), [], .none⟩, ⟨(.some 60), .none, (.load .true 32 (.tmp 59)), [], .none⟩, ⟨(.some 61), .none, (.ef (.bown 28 32 (.arr 1 (List.replicate 32 (.lit (bn 0)))) 5 [0, 1, 2, 3, 4]) [(.tmp 52), (.tmp 54), (.tmp 56), (.tmp 58), (.tmp 60)]), [], .none⟩, ⟨(.some 13), .none, (.mov (.tmp 61)), [], .none⟩]) (.seq (.reg [⟨(.some 62), .none, (.mov (.tmp 13)), [], .none⟩, ⟨(.some 63), .none, (.faddr 64 2 (.tmp 5)), [], .none⟩, ⟨(.some 64), .none, (.load .false 1 (.tmp 63)), [], .none⟩, ⟨(.some 65), .none, (.append 28 32 32 (.tmp 62) (.tmp 64)), [], .none⟩, ⟨(.some 13), .none, (.mov (.tmp 65)), [], .none⟩]) (.seq (.seq (.reg [⟨(.some 66), .none, (.mov (.tmp 9)), [], .none⟩, ⟨(.some 67), .none, (.bin .neq (.tmp 66) (.const (jn 0))), [], .none⟩, ⟨(.some 68), .none, (.mov (.tmp 67)), [], .none⟩, ⟨(.some 69), (.some (68, .false)), (.mov (.tmp 12)), [], .none⟩, ⟨(.some 70), (.some (68, .false)), (.bin .neq (.tmp 69) (.const (jn 0))), [], .none⟩, ⟨(.some 71), .none, (.pick (.tmp 68) (.const (.bool .true)) (.tmp 70)), [], .none⟩, ⟨(.some 72), .none, (.mov (.tmp 71)), [], .none⟩, ⟨(.some 73), (.some (72, .false)), (.faddr 0 0 (.tmp 3)), [], .none⟩, ⟨(.some 74), (.some (72, .false)), (.load .false 1 (.tmp 73)), [], (.some 3)⟩, ⟨(.some 75), (.some (72, .false)), (.mov (.tmp 13)), [], .none⟩, ⟨(.some 76), (.some (72, .false)), (.xc (.dir 13) [(.tmp 74), (.tmp 75)] [7] []), [], .none⟩, ⟨(.some 77), (.some (72, .false)), (.load .true 32 (.tmp 7)), [], (.some 7)⟩, ⟨(.some 78), (.some (72, .false)), (.xc .val [(.tmp 76), (.tmp 77)] [] []), [], .none⟩, ⟨(.some 79), .none, (.pick (.tmp 72) (.const (.bool .true)) (.tmp 78)), [], .none⟩]) (.cond (.tmp 79) (.seq (.reg [⟨(.some 2), .none, (.mov (.const (.bool .false))), [], .none⟩]) .ret) .skip)) (.seq (.reg [⟨(.some 80), .none, (.mov (.tmp 13)), [], .none⟩, ⟨(.some 81), .none, (.faddr 0 0 (.tmp 10)), [], .none⟩, ⟨(.some 82), .none, (.load .true 32 (.tmp 81)), [], .none⟩, ⟨(.some 83), .none, (.faddr 32 1 (.tmp 10)), [], .none⟩, ⟨(.some 84), .none, (.load .true 32 (.tmp 83)), [], .none⟩, ⟨(.some 85), .none, (.bslice 32 (.arr 1 (List.replicate 32 (.lit (bn 0)))) 2 [(0, (.tmp 82)), (1, (.tmp 84))]), [], .none⟩, ⟨(.some 86), .none, (.append 28 32 32 (.tmp 80) (.tmp 85)), [], .none⟩, ⟨(.some 13), .none, (.mov (.tmp 86)), [], .none⟩]) (.seq (.reg [⟨(.some 87), .none, (.mov (.tmp 13)), [], .none⟩, ⟨(.some 88), .none, (.faddr 64 2 (.tmp 10)), [], .none⟩, ⟨(.some 89), .none, (.load .false 1 (.tmp 88)), [], .none⟩, ⟨(.some 90), .none, (.append 28 32 32 (.tmp 87) (.tmp 89)), [], .none⟩, ⟨(.some 13), .none, (.mov (.tmp 90)), [], .none⟩]) (.seq (.reg [⟨(.some 91), .none, (.callv 5 []), [], (.some 1000000)⟩, ⟨(.some 92), .none, (.mov (.tmp 91)), [], .none⟩, ⟨(.some 93), (.some (92, .true)), (.faddr 0 0 (.tmp 3)), [], .none⟩, ⟨(.some 94), (.some (92, .true)), (.load .false 1 (.tmp 93)), [], (.some 3)⟩, ⟨(.some 95), (.some (92, .true)), (.mov (.tmp 13)), [], .none⟩, ⟨(.some 96), (.some (92, .true)), (.xc (.dir 13) [(.tmp 94), (.tmp 95)] [7, 4, 1000000] []), [], .none⟩, ⟨(.some 97), (.some (92, .true)), (.load .true 32 (.tmp 7)), [], (.some 7)⟩, ⟨(.some 98), (.some (92, .true)), (.xc .val [(.tmp 96), (.tmp 97)] [4, 1000000] []), [], .none⟩, ⟨(.some 99), (.some (92, .true)), (.faddr 64 2 (.tmp 4)), [], .none⟩, ⟨(.some 100), (.some (92, .true)), (.load .false 1 (.tmp 99)), [], (.some 4)⟩, ⟨(.some 101), (.some (92, .true)), (.len .false (.tmp 100)), [], (.some 1000000)⟩, ⟨(.some 102), (.some (92, .true)), (.bin .eql (.tmp 101) (.const (jn 0))), [], .none⟩, ⟨(.some 103), (.some (92, .true)), (.beq .false (.tmp 98) (.tmp 102)), [], .none⟩, ⟨(.some 104), .none, (.pick (.tmp 92) (.tmp 103) (.const (.bool .false))), [], .none⟩, ⟨(.some 2), .none, (.mov (.tmp 104)), [], .none⟩]) .ret)))))))))))))
def fc401 : FC := ⟨1, 105, [(.tmp 2)], fb401⟩
theorem fc401_eq : compF Go.Proofs.Try.prog 4 = some fc401 := by kernel_rfl

theorem bown5 (a b c d e : List UInt8) (ha : a.length = 32) (hb : b.length = 32) (hc : c.length = 32) (hd : d.length = 32) (he : e.length = 32) :
    fillV (.arr 32 (List.replicate 5 (.arr 1 (List.replicate 32 (.lit (bn 0)))))) ([0, 1, 2, 3, 4].zip [keyA a, keyA b, keyA c, keyA d, keyA e]) = some (.arr 32 (klA [a, b, c, d, e])) := by
  rw [← zk_eq]
  simp [fillV, AV.sub, AV.upd, AV.isTup, AV.sz, keyA, bl_len, ha, hb, hc, hd, he, zk_len, klA]
/-- Follow, by a caller with blocks of its own behind the table's. -/
theorem follow_at {H : List (Option Blk)} {t : Tb} {V0 : Value} {ts0 ts : List Term} (hh : TbOk H t V0 ts0) (hts : TsOk ts) (V : Value) {L : List (Option Blk)} {seen : List (List UInt8)} (hsl : seen.length < 100000) (h32 : ∀ k ∈ seen, k.length = 32) {c sl : Nat} {Vc : Value} (hc : (tbOf H t V ts ++ L)[c]? = some (some (.row 28 Vc 32 (klA seen) sl))) :
    XCall Go.Proofs.Try.prog 13 [.ptr t.b t.l 0 [], .own c Vc] (tbOf H t V ts ++ L) (FolK (tbOf H t V ts ++ L) ts seen) :=
  follow_own (hh.at V ts L) hts hsl h32 hc
theorem FolK.ex {H : List (Option Blk)} {ts : List Term} {seen : List (List UInt8)} (h : ∃ K, FolOk ts seen K) (hn : ts.length < 100000) : ∃ r H', FolK H ts seen r H' := by
  obtain ⟨K, hK⟩ := h
  refine ⟨_, _, K, ⟨H.length, (0, 0), H.length + 1, H.length + 2, (0, 0)⟩, .slice none 0 0, [some (fbk ⟨H.length, (0, 0), H.length + 1, H.length + 2, (0, 0)⟩ (.slice none 0 0)), some (frk (.slice none 0 0) K), some (.box (0, 0) 2 (.st [1, 1] [.view 0 (0, 0) 0 [] 3 0 ts.length ts.length, .any]))], hK, rfl, rfl, fun G hG => ?_⟩
  have e := fun k => cat1 H.length G [some (fbk ⟨H.length, (0, 0), H.length + 1, H.length + 2, (0, 0)⟩ (.slice none 0 0)), some (frk (.slice none 0 0) K), some (.box (0, 0) 2 (.st [1, 1] [.view 0 (0, 0) 0 [] 3 0 ts.length ts.length, .any]))] k hG
  refine ⟨?_, ?_, ⟨.view 0 (0, 0) 0 [] 3 0 ts.length ts.length, .any, ?_, .inr (.inl ⟨_, _, _, _, _, _, by rw [hK.len]⟩)⟩, by rw [hK.len]; exact hn⟩
  · have := e 0
    rw [Nat.add_zero] at this
    exact this.trans rfl
  · rw [e]; rfl
  · rw [e]; rfl
/-- There is always an end to it. -/
theorem Fol_ex (ts : List Term) (seen : List (List UInt8)) : ∃ K, FolOk ts seen K := by
  have key : ∀ (n : Nat) (k : List Bool), k.count false ≤ n → Rounds ts (learnS (List.replicate ts.length false) seen) k → ∃ K, FolOk ts seen K := by
    intro n
    induction n with
    | zero =>
      intro k hk hR
      have hm := MoreOk.roundG ts ts 0 k false
      obtain ⟨_, m2, m3⟩ := hm
      cases hb : (roundG ts ts 0 k false).2 with
      | true => rcases m2 hb with h | h
                · cases h
                · omega
      | false => exact ⟨k, hR, Prod.ext (m3 hb).2 hb⟩
    | succ n ih =>
      intro k hk hR
      have hm := MoreOk.roundG ts ts 0 k false
      obtain ⟨_, m2, m3⟩ := hm
      cases hb : (roundG ts ts 0 k false).2 with
      | true => rcases m2 hb with h | h
                · cases h
                · exact ih (roundG ts ts 0 k false).1 (by omega) (.step _ _ hR)
      | false => exact ⟨k, hR, Prod.ext (m3 hb).2 hb⟩
  exact key _ _ (Nat.le_refl _) (.refl _)

theorem FolK.at {T M L' : List (Option Blk)} {N n m : Nat} {f : Fc} {Vk : Value} {K : List Bool} (h : ∀ G : List (Option Blk), G.length = m → FcOk (G ++ L') f Vk K) (hm : m = N + n) (hT : T.length = N) (hn : n ≤ M.length) (hd : M.drop n = L') : FcOk (T ++ M) f Vk K := by
  have := h (T ++ M.take n) (by rw [List.length_append, List.length_take, Nat.min_eq_left hn]; omega)
  rwa [List.append_assoc, ← hd, List.take_append_drop] at this

set_option maxHeartbeats 64000000 in
theorem bundleHides_call (ones : Nat) (ho : ones < 256) : PCall Go.Proofs.Try.prog 4 [.lit (bn ones)] (.val (.lit (.bool true))) := by
  have h401 := fc401_eq
  have hc6 : callable Go.Proofs.Try.prog 6 = true := by kernel_rfl
  have hc7 : callable Go.Proofs.Try.prog 7 = true := by kernel_rfl
  have hc8 : callable Go.Proofs.Try.prog 8 = true := by kernel_rfl
  have hc10 : callable Go.Proofs.Try.prog 10 = true := by kernel_rfl
  have hc12 : callable Go.Proofs.Try.prog 12 = true := by kernel_rfl
  have hc13 : callable Go.Proofs.Try.prog 13 = true := by kernel_rfl
  have al := alive_call
  refine PCall.of h401 rfl ?_; show AC.wp _ fb401 (AS.init [.lit (bn ones)] 1 105) (fun x s => match x with | .exit _ => False | _ => Fin [(.tmp 2)] s _); unfold fb401 AS.init
  refine wp_sr (by simp [push_cast]; exact rfl) ?_
  refine wp_seq' (wp_seq' (wp_rg ?_))
  refine areg_ca (by simp [AS.ev, AS.coe, AS.put] <;> exact rfl) al ?_
  refine areg_end (by simp [push_cast]; exact rfl) ?_
  refine wp_cond_f rfl (wp_skip' ?_)
  refine wp_sgL ?_
  refine areg_run 0 (by simp [push_cast]; exact rfl) ?_
  refine areg_xq (us := []) rfl (by simp only [tgtA, tgtB, Option.bind_some, hc6, if_true]) (newfree_call _) ⟨_, _, (0, 0), 0, rfl, rfl⟩ (fun r hp' _ t' ht' => by cases ht') ?_
  rintro r H' ⟨l, rr, rfl, rfl⟩
  refine areg_run 0 (by simp [push_cast]; exact rfl) ?_
  refine areg_al' rfl fun l3 => areg_end (by simp [push_cast, freeS_sz, freeS_agg, freeS_tup]; exact rfl) ?_
  refine wp_kit (n := 105) (Lo := [none, none, none, some (.box l3 1 (freeS 105 l))] ++ List.replicate 101 none) (fun N t => [.lit (bn ones), .any, .lit (.bool false), .ptr (N + 3) l3 0 []] ++ List.replicate 101 .any) (fun N t => [none, none, none, some (.box l3 1 (freeS t.b t.l))] ++ List.replicate 101 none) rfl ?_ ?_ fun N H t V hh hN => ?_
  · simp [leA, RelLe.refl', RelLe.ptr']
  · simp [leB, tbNew, BlkLe.freeS']
  have G1 : ∀ V' ts', (tbOf H t V' ts').length = N := fun V' ts' => by rw [tbOf_len, hN]
  have g1 : ∀ V' ts' L k, (tbOf H t V' ts' ++ L)[N + k]? = L[k]? := fun V' ts' L k => cat1 _ _ _ _ (G1 _ _)
  have g2 : ∀ V' ts' L k x, (tbOf H t V' ts' ++ L).set (N + k) x = tbOf H t V' ts' ++ L.set k x := fun V' ts' L k x => cat2 _ _ _ _ _ (G1 _ _)
  have hm8 : cvtA .i64 (.lit (bn (ones % 6))) = some (.lit (jn (ones % 6))) := cvt_8x _ (by omega)
  -- what there is
  obtain ⟨r1, r2, r3, r4, r5, r6⟩ := storeT_ok TsOk.nil (n := ones % 6) (by omega) (by simp)
  obtain ⟨nid, npre, nmem⟩ := storeT_nm [] (ones % 6)
  have hsk := store_k hh TsOk.nil (n := ones % 6) (by omega) (by simp)
  generalize storeT [] (ones % 6) = st at *
  obtain ⟨s, ts1⟩ := st
  simp only at r1 r2 r3 r4 r5 r6 hsk nid npre nmem
  obtain ⟨q1, q2, q3, q4⟩ := showT_ok r4 r1 r2 (by simp at r5; omega)
  have hshk := show_k hh r4 r1 (by simp at r5; omega)
  have hsm := fun y (h : y ∈ (showT ts1 s).2) => showT_mem h
  generalize showT ts1 s = sh at *
  obtain ⟨b, ts2⟩ := sh
  simp only at q1 q2 q3 q4 hshk hsm
  have l1' := putT_len ts2 (drawT [97])
  have l2' := putT_len (putT ts2 (drawT [97])) (drawT [98])
  have h1 := q2.draw (s := [97]) (by decide) (by simp at r5; omega)
  have h2 := h1.draw (s := [98]) (by decide) (by simp at r5; omega)
  have hdk1 := draw_k hh (ts := ts2) (s := [97]) (by simp at r5; omega) (by decide)
  have hdk2 := draw_k hh (ts := putT ts2 (drawT [97])) (s := [98]) (by simp at r5; omega) (by decide)
  have p1 := put_pre ts2 (drawT [97])
  have p2 := put_pre (putT ts2 (drawT [97])) (drawT [98])
  have na : Nm _ (drawT [97]) (nameK (putN ts2 (drawT [97]))) := (Nm.put ts2 (drawT [97])).mono p2
  have nb := Nm.put (putT ts2 (drawT [97])) (drawT [98])
  have mem3 : ∀ y ∈ putT (putT ts2 (drawT [97])) (drawT [98]), y.kind = 1 ∨ ∃ k, y = pubT k := fun y hy => by
    rcases mem_put hy with hy | rfl
    · rcases mem_put hy with hy | rfl
      · rcases hsm y hy with h | h
        · rcases nmem y h with h | h
          · cases h
          · exact .inl h
        · exact .inr h
      · exact .inl rfl
    · exact .inl rfl
  generalize nameK (putN (putT ts2 (drawT [97])) (drawT [98])) = kb at *
  generalize nameK (putN ts2 (drawT [97])) = ka at *
  have p23 := p1.trans p2
  generalize putT (putT ts2 (drawT [97])) (drawT [98]) = ts4 at *
  generalize putT ts2 (drawT [97]) = ts3 at *
  have k1 := na.len
  have k2 := nb.len
  have hsh4 := q1.mono p23
  obtain ⟨x, ts5, hm⟩ := meets h2 k1 k2 hsh4 (by simp at r5; omega)
  have hbk := begin_k hh h2 k1 k2 hsh4.okb (by simp at r5; omega)
  rw [hm.beg] at hbk
  have hml := hm.len
  have hak := answer_k hh hm.ok hsh4.ok hm.hok (by simp at r5; omega)
  rw [hm.ans] at hak
  obtain ⟨hs, hl, hsn, hall⟩ := hm.all
  have hBund : Bund ts5 s b ka kb x.h x.secret hs := ⟨hm.ok, hsh4.mono hm.pre, ⟨((nid.mono q4).mono p23).mono hm.pre, by decide⟩, ⟨((npre.mono q4).mono p23).mono hm.pre, by decide⟩, fun o hoo => by
      obtain ⟨j, hj, hn⟩ := r6 o hoo
      exact ⟨j, by omega, ((hn.mono q4).mono p23).mono hm.pre, by rw [List.length_append, dig1 (by omega)]; simp [txOne]⟩, ⟨na.mono hm.pre, by decide⟩, ⟨nb.mono hm.pre, by decide⟩, hm.hid, hm.heph, hm.one, hl, hsn, fun y hy => by
      rcases hall y hy with h | h | h | h | h
      · rcases mem3 y h with h | h
        · exact .inl h
        · exact .inr (.inl h)
      · exact .inr (.inr (.inl h))
      · exact .inr (.inr (.inr h))
      · exact .inr (.inl ⟨_, h⟩)
      · exact .inr (.inl ⟨_, h⟩)⟩
  have hmok := hm.ok
  have hx32 := hm.sec
  have hxr := hm.rest
  have hxo := hm.one
  have hho := hm.hok
  have hlb := hsh4.ones.len.1
  have hb32 := hsh4.okb.ones
  have hbl := hsh4.okb.len
  have hs32 := r1.ones
  have hsl := r1.len
  have z1 := hsh4.okb.id
  have z2 := hsh4.okb.pre
  have s1 := r1.id
  have s2 := r1.pre
  clear hm hall hl hsn mem3 hsm nmem nid npre r6 na nb h1 h2 hsh4
  obtain ⟨sid, spre, sones⟩ := s
  obtain ⟨bid, bpre, bones⟩ := b
  obtain ⟨xh, xk, xr⟩ := x
  obtain ⟨xhi, xhe, xho⟩ := xh
  obtain ⟨m1, m2, m3⟩ := hho
  simp only at hbk hak hBund hx32 hxr hxo m1 m2 m3 hlb hb32 hbl hs32 hsl z1 z2 s1 s2
  subst hxr
  -- the walk
  refine wp_sg ?_
  refine areg_run 1 (by simp [push_cast, g1, freeS_sz, freeS_agg, freeS_tup]; exact rfl) ?_
  refine areg_rdp (us := [freeS t.b t.l]) rfl (mkifc_free _ _) ?_
  refine areg_run 3 (by simp [push_cast, hm8]; exact rfl) ?_
  refine areg_k [freeI t.b t.l, .lit (jn (ones % 6))] hN rfl (by simp only [tgtA, tgtB, Option.bind_some, hc7, if_true]) hsk (by simp) (by simp) fun V1 => ?_
  refine areg_al' (z' := zst) (by rw [zst, zk_eq]) fun l4 => areg_end (by simp [push_cast, g1, g2, storeA, zst, zk_len, s1, s2]; exact rfl) ?_
  refine wp_sg ?_
  refine areg_run 1 (by simp [push_cast, g1, freeS_sz, freeS_agg, freeS_tup]; exact rfl) ?_
  refine areg_rdp (us := [freeS t.b t.l]) rfl (mkifc_free _ _) ?_
  refine areg_run 1 (by simp [push_cast, g1, storeA, s1, s2]; exact rfl) ?_
  refine areg_k [freeI t.b t.l, storeA ⟨sid, spre, sones⟩] hN rfl (by simp only [tgtA, tgtB, Option.bind_some, hc8, if_true]) hshk (by simp) (by simp [AS.ev, AV.place]) fun V2 => ?_
  refine areg_al' (z' := zst) (by rw [zst, zk_eq]) fun l5 => areg_end (by simp [push_cast, g1, g2, storeA, zst, zk_len, z1, z2]; exact rfl) ?_
  refine wp_sg ?_
  refine areg_run 1 (by simp [push_cast, g1, freeS_sz, freeS_agg, freeS_tup]; exact rfl) ?_
  refine areg_rdp (us := [freeS t.b t.l]) rfl (mkifc_free _ _) ?_
  refine areg_run 2 (by simp [push_cast, g1, freeS]; exact rfl) ?_
  refine areg_k [.ptr t.b t.l 0 [], .lit (tx [97])] hN rfl (tgt_drawD _ _ _) hdk1 (by simp) (by simp [AS.ev, AV.place]) fun V3 => ?_
  refine areg_run 2 (by simp [push_cast, g1, freeS]; exact rfl) ?_
  refine areg_k [.ptr t.b t.l 0 [], .lit (tx [98])] hN rfl (tgt_drawD _ _ _) hdk2 (by simp) (by simp [AS.ev, AV.place]) fun V4 => ?_
  refine areg_run 1 (by simp [push_cast, g1, storeA, z1, z2]; exact rfl) ?_
  refine areg_k [freeI t.b t.l, keyA ka, keyA kb, storeA ⟨bid, bpre, bones⟩] hN rfl (by simp only [tgtA, tgtB, Option.bind_some, hc10, if_true]) hbk (by simp) (by simp [AS.ev, AV.place]) fun V5 => ?_
  refine areg_run 5 (by simp [push_cast, begunA]; exact rfl) ?_
  refine areg_al' (z' := helloA zhello) (by rw [helloA, zhello, zk_eq]) fun l6 => areg_al' zk_eq.symm fun l7 => areg_al' (z' := zst) (by rw [zst, zk_eq]) fun l8 => areg_end (by simp [push_cast, g1, g2, helloA, storeA, zhello, zst, zk_len, hx32, z1, z2, m1, m2, m3]; exact rfl) ?_
  refine wp_sg ?_
  refine areg_run 1 (by simp [push_cast, g1, freeS_sz, freeS_agg, freeS_tup]; exact rfl) ?_
  refine areg_rdp (us := [freeS t.b t.l]) rfl (mkifc_free _ _) ?_
  refine areg_run 2 (by simp [push_cast, g1, storeA, helloA, s1, s2, m1, m2, m3]; exact rfl) ?_
  refine areg_k [freeI t.b t.l, storeA ⟨sid, spre, sones⟩, helloA ⟨xhi, xhe, xho⟩] hN rfl (by simp only [tgtA, tgtB, Option.bind_some, hc12, if_true]) hak (by simp) (by simp [AS.ev, AV.place]) fun V6 => ?_
  refine areg_run 4 (by simp [push_cast, answeredA]; exact rfl) ?_
  refine areg_al' (z' := zst) (by rw [zst, zk_eq]) fun l10 => areg_al' zk_eq.symm fun l11 => areg_end (by simp [push_cast, g1, g2, helloA, storeA, zhello, zst, zk_len, hx32, s1, s2]; exact rfl) ?_
  refine wp_sg ?_
  refine areg_run 10 (by simp [push_cast, g1, z1, z2, m1, m2, m3]; exact rfl) ?_
  refine areg_bown (vs := [keyA bid, keyA bpre, keyA xhi, keyA xhe, keyA xho]) (els := klA [bid, bpre, xhi, xhe, xho]) rfl (bown5 _ _ _ _ _ z1 z2 m1 m2 m3) (by intro t ht; cases ht) fun V7 => ?_
  refine areg_end (by simp [push_cast, g2]; exact rfl) ?_
  refine wp_sg ?_
  refine areg_run 3 (by simp [push_cast, g1]; exact rfl) ?_
  refine areg_ap (b := N + 61) (V := V7) (ys := klA bones) rfl (by simp only [AS.blk, g1]; rfl) (by simp [AS.ev, AS.coe]) (by rw [klA_len, klA_len]; simp [maxLen]; omega) (by rw [klA_len, klA_len]; simp; omega) (fun V8 => ?_)
  refine areg_end (by simp [push_cast, g2]; exact rfl) ?_
  have hk1 : klA [bid, bpre, xhi, xhe, xho] ++ klA bones = klA (seen1 ⟨bid, bpre, bones⟩ ⟨xhi, xhe, xho⟩) := by simp [seen1, klA]
  rw [hk1]
  have hs1l : (seen1 ⟨bid, bpre, bones⟩ ⟨xhi, xhe, xho⟩).length = bones.length + 5 := by simp [seen1]
  have hs132 : ∀ k ∈ seen1 ⟨bid, bpre, bones⟩ ⟨xhi, xhe, xho⟩, k.length = 32 := fun k hk => by
    simp only [seen1, List.cons_append, List.nil_append, List.mem_cons] at hk
    rcases hk with rfl | rfl | rfl | rfl | rfl | hk
    · exact z1
    · exact z2
    · exact m1
    · exact m2
    · exact m3
    · exact hb32 k hk
  refine wp_seqL (wp_seq' (wp_rg ?_))
  refine areg_run 10 (by simp [push_cast, g1, freeS]; exact rfl) ?_
  refine areg_g (b := false) (by simp [AS.ev, AS.put]) (areg_xq (us := [.ptr t.b t.l 0 [], .own (N + 65) V8]) rfl (by simp only [tgtA, tgtB, Option.bind_some, hc13, if_true]) (follow_at hh hmok V6 (seen := seen1 ⟨bid, bpre, bones⟩ ⟨xhi, xhe, xho⟩) (by omega) hs132 (c := N + 65) (Vc := V8) (sl := 0) (by rw [g1]; rfl)) (FolK.ex (Fol_ex _ _) (by have := hmok.len; omega)) (fun r hp' hK t' ht' b hb' => ?_) ?_)
  · obtain ⟨_, _, _, L', _, _, rfl, _⟩ := hK
    simp at ht'
    subst ht'
    simp [AS.ev, AV.place] at hb'
    subst hb'
    simp [g1]
  rintro r H' ⟨K, f, Vk, L', hK, rfl, rfl, hFc⟩
  have hno := hBund.hides hK
  have hfc := fun (T M : List (Option Blk)) (hT : T.length = N) (hn : 105 ≤ M.length) (hd : M.drop 105 = L') => FolK.at hFc (by rw [List.length_append, G1]; rfl) hT hn hd
  refine areg_run 1 (by simp [push_cast, g1, hx32]; exact rfl) ?_
  refine areg_g (b := false) (by simp [AS.ev, AS.put]) (areg_xq (us := [cloH f.b f.l, keyA xk]) rfl (tgt_cloH _ _ _) (has_call (hfc _ _ (G1 V6 ts5) (by simp) rfl) hx32) ⟨_, _, rfl, rfl⟩ (fun r hp' hK t' ht' => by cases ht') ?_)
  rintro r H' ⟨rfl, rfl⟩
  rw [hno]
  refine areg_end (by simp [push_cast]; exact rfl) ?_
  refine wp_cond_f rfl (wp_skip' ?_)
  refine ⟨_, Le.trim (A := tbOf H t V6 ts5 ++ ([none, none, none, some (.box l3 1 (freeS t.b t.l)), some (.box l4 65 (storeA ⟨sid, spre, sones⟩)), some (.box l5 65 (storeA ⟨bid, bpre, bones⟩)), some (.box l6 96 (helloA ⟨xhi, xhe, xho⟩)), some (.box l7 32 (keyA xk)), some (.box l8 65 (storeA ⟨bid, bpre, bones.drop 1⟩)), none, some (.box l10 65 (storeA ⟨sid, spre, sones.drop 1⟩)), some (.box l11 32 (keyA xk))] ++ List.replicate 53 none ++ [some (.row 28 V8 32 (klA (seen1 ⟨bid, bpre, bones⟩ ⟨xhi, xhe, xho⟩)) 0)] ++ List.replicate 39 none)) (R := L') (by simp [storeA, helloA, keyA, freeS]), ?_⟩
  clear hno hFc hfc hK
  have hsr : (sones.drop 1).length ≤ sones.length := by rw [List.length_drop]; omega
  have hkr : ∀ k ∈ sones.drop 1, k.length = 32 := fun k hk => hs32 k (List.mem_of_mem_drop hk)
  have hs2 : seen2 ⟨bid, bpre, bones⟩ ⟨xhi, xhe, xho⟩ ⟨sid, spre, sones⟩ = seen1 ⟨bid, bpre, bones⟩ ⟨xhi, xhe, xho⟩ ++ [sid, spre] ++ sones.drop 1 := rfl
  have hBs := fun (K : List Bool) hK => hBund.shows (K := K) hK
  have hBh := fun (K : List Bool) hK => hBund.hides2 (K := K) hK
  rw [hs2] at hBs hBh
  generalize hsr0 : sones.drop 1 = sr at *
  generalize bones.drop 1 = br at *
  generalize seen1 ⟨bid, bpre, bones⟩ ⟨xhi, xhe, xho⟩ = sn1 at *
  refine wp_sg ?_
  refine areg_run 6 (by simp [push_cast, g1, storeA, s1, s2]; exact rfl) ?_
  refine areg_ap (b := N + 65) (V := V8) (ys := klA [sid, spre]) rfl (by simp only [AS.blk, g1]; rfl) (by simp [AS.ev, AS.coe, keyA, klA]) (by rw [klA_len, klA_len, hs1l]; simp [maxLen]; omega) (by rw [klA_len, klA_len, hs1l]; simp; omega) (fun V9 => ?_)
  refine areg_end (by simp [push_cast, g2]; exact rfl) ?_
  have hk2 : klA sn1 ++ klA [sid, spre] = klA (sn1 ++ [sid, spre]) := by simp [klA]
  rw [hk2]
  refine wp_sg ?_
  refine areg_run 3 (by simp [push_cast, g1, storeA]; exact rfl) ?_
  refine areg_ap (b := N + 86) (V := V9) (ys := klA sr) rfl (by simp only [AS.blk, g1]; rfl) (by simp [AS.ev, AS.coe]) (by rw [klA_len, klA_len, List.length_append, hs1l]; simp [maxLen]; omega) (by rw [klA_len, klA_len, List.length_append, hs1l]; simp; omega) (fun V10 => ?_)
  refine areg_end (by simp [push_cast, g2]; exact rfl) ?_
  have hk3 : klA (sn1 ++ [sid, spre]) ++ klA sr = klA (sn1 ++ [sid, spre] ++ sr) := by simp [klA]
  rw [hk3]
  have h232 : ∀ k ∈ sn1 ++ [sid, spre] ++ sr, k.length = 32 := fun k hk => by
    simp only [List.mem_append, List.mem_cons, List.not_mem_nil, or_false] at hk
    rcases hk with (hk | rfl | rfl) | hk
    · exact hs132 k hk
    · exact s1
    · exact s2
    · exact hkr k hk
  have h2l : (sn1 ++ [sid, spre] ++ sr).length < 100000 := by rw [List.length_append, List.length_append, hs1l]; simp; omega
  generalize hsn2 : sn1 ++ [sid, spre] ++ sr = sn2 at *
  refine wp_sg ?_
  refine areg_cv (by simp [AS.ev, AS.coe, AS.put] <;> exact rfl) al ?_ (by intro p hp; simp at hp)
  refine areg_run 4 (by simp [push_cast, g1, freeS]; exact rfl) ?_
  refine areg_g (b := true) (by simp [AS.ev, AS.put]) (areg_xq (us := [.ptr t.b t.l 0 [], .own (N + 90) V10]) rfl (by simp only [tgtA, tgtB, Option.bind_some, hc13, if_true]) (follow_at hh hmok V6 (seen := sn2) h2l h232 (c := N + 90) (Vc := V10) (sl := 0) (by rw [g1]; rfl)) (FolK.ex (Fol_ex _ _) (by have := hmok.len; omega)) (fun r hp' hK t' ht' b hb' => ?_) ?_)
  · obtain ⟨_, _, _, L', _, _, rfl, _⟩ := hK
    simp at ht'
    rcases ht' with rfl | rfl | rfl <;> simp [AS.ev, AV.place] at hb' <;> (subst hb'; simp [g1])
  rintro r H' ⟨K, f, Vk, L', hK, rfl, rfl, hFc⟩
  have hyes := hBs K hK
  have hno := hBh K hK
  have hfc := fun (T M : List (Option Blk)) (hT : T.length = N) (hn : 105 ≤ M.length) (hd : M.drop 105 = L') => FolK.at hFc (by rw [List.length_append, G1]; rfl) hT hn hd
  refine areg_run 1 (by simp [push_cast, g1, hx32]; exact rfl) ?_
  refine areg_g (b := true) (by simp [AS.ev, AS.put]) (areg_xq (us := [cloH f.b f.l, keyA xk]) rfl (tgt_cloH _ _ _) (has_call (hfc _ _ (G1 V6 ts5) (by simp) rfl) hx32) ⟨_, _, rfl, rfl⟩ (fun r hp' hK t' ht' b hb' => by obtain ⟨_, rfl⟩ := hK; rfl) ?_)
  rintro r H' ⟨rfl, rfl⟩
  have hfin : hasV K xk = decide (sones.length = 0) := by
    by_cases h0 : sones = []
    · rw [hyes h0, h0]; rfl
    · rw [hno h0, eq_comm, decide_eq_false_iff_not]
      exact fun h => h0 (List.length_eq_zero_iff.1 h)
  rw [hfin]
  refine areg_end (by simp [push_cast, g1, storeA, klA_len]; exact rfl) (wp_ret' ?_)
  exact fin_tmp (by simp [RVal, AS.ev, AS.coe]) (by simp)
end Go.Cab

/- The row's arguments: lists of bytes, and its close. -/
namespace Go.Cab
open Go.ChangeShapes Go.WideShapes Go.RowKit Go.ChangeAt

section
variable {H : Type} {enc : TypeId × Value → H} {P : Program}

theorem post_below {f : Func} {s : ChangeSpec} {apart fresh handsOn again : Bool} {W W' : World} {args : Array Value} {v : Value} {ds : List (DataW H)} {before : List MemPlace}
    (hvs : s.vars = []) (hW : DataW.Whole enc P f.params.toList s.vars apart W args.toList ds [] before)
    (hb : Below W.heap.size W W')
    (hres : ∀ (b : Nat) (sp : Nat → Bool) (hd : Bool), DataW.TrodAll enc P W' b sp hd f.resultTypes.toList (v.resultList f.resultTypes.size) (s.fn H (ds ++ [])).results [])
    (hargs : ∀ sp : Nat → Bool, (∀ p ∈ before, sp p.block = true) → DataW.TrodAll enc P W' 0 sp true f.params.toList args.toList (s.fn H (ds ++ [])).args before)
    (hvars : ∀ sp : Nat → Bool, DataW.TrodVars enc P W' sp s.vars (s.fn H (ds ++ [])).vars [])
    (hok : ∀ (j : Nat) (t : TypeId) (r : Value), f.resultTypes[j]? = some t → (v.resultList f.resultTypes.size)[j]? = some r → Value.okWide P W' .any 0 t r) :
    s.post enc P f apart fresh handsOn again W args v W' := by
  have hlt : ∀ p ∈ before, p.block < W.heap.size := fun p hp => hW.lt p hp
  refine ⟨ds, [], before, [], before, [], hW, hres _ _ _, hargs _ (fun p hp => by simpa using hlt p hp), hvars _, hb.frame _, fun _ => ?_⟩
  obtain ⟨_, _, _, _, _, hz, hn⟩ := hW
  refine ⟨hok, _, _, ([] ++ before) ++ [], ⟨[] ++ before, [], trodAll_append (hargs _ (fun _ _ => rfl)) (hres _ _ _), hvars _, rfl, fun b o hp => ?_, fun ha => ?_⟩, fun p hp _ => ?_⟩
  · have hp' : MemPlace.cell b o ∈ before := by simpa using hp
    have h1 := hz b o hp'
    rw [hb.frozen (p := ⟨b, o, none⟩) (hlt _ hp')]
    exact h1
  · simpa using hn ha
  · simpa using hp
end
end Go.Cab

namespace Go.Cab
open Go.ChangeShapes Go.WideShapes Go.RowKit

section
variable {H : Type} {enc : TypeId × Value → H} {P : Program} {W : World} {base : Nat} {sp : Nat → Bool} {held : Bool}

theorem At.app {Imm : Nat → Nat → Prop} {w : World} {b o : Nat} {c d : List Value} (h : At Imm w b o c) (k : At Imm w b (o + c.length) d) : At Imm w b o (c ++ d) := by
  intro i v hv
  by_cases hi : i < c.length
  · rw [List.getElem?_append_left hi] at hv; exact h i v hv
  · rw [List.getElem?_append_right (by omega)] at hv
    have := k (i - c.length) v hv
    rwa [show o + c.length + (i - c.length) = o + i by omega] at this

/-- The cells that the row's reading met, and that are there. -/
def StOf (W : World) (ps : List MemPlace) (b o : Nat) : Prop := MemPlace.cell b o ∈ ps ∧ (W.cell? ⟨b, o, none⟩).isSome = true

/-- A list that the row lets in. 'G': what is told of each element. -/
theorem open_sl {t k : TypeId} {c : Nat} (ht : P.underlying t = some (.slice k)) (hc : P.cellsOf k = c) (G : AV → Prop)
    (hel : ∀ (n : Nat) (cs : List Value) (x : DataW H × List MemPlace), DataW.trod enc P W base sp held n k cs = some x → cs.length = c → ∃ v, G v ∧ R (StOf W x.2) W v cs ∧ ∀ y ∈ cs, sc y = true)
    {r : Reach} {b0 : Nat} {v : Value} (hval : Value.okWide P W r b0 t v) {d : DataW H} {ps : List MemPlace} (hd : DataW.Trod enc P W base sp held t v d ps) :
    ∃ vs : List AV, (∀ u ∈ vs, G u) ∧ Rel (StOf W ps) W (.sl c vs) v := by
  obtain ⟨fuel, hf⟩ := hd
  have hv : (∃ a len cap, v = .slice a len cap) := by
    cases v <;> simp [Value.okWide, Cell.okWide, Cell.ok, ht] at hval ⊢
  obtain ⟨a0, len0, cap0, rfl⟩ := hv
  have hcs : (Value.slice a0 len0 cap0).cells.toList = [.slice a0 len0 cap0] := rfl
  rw [hcs] at hf
  rcases Go.Deep.open_slice ht hf with ⟨h1, h2⟩ | ⟨a, len, cap, m, n, D, Pl, h1, _, hle, _, hm, h2, hall⟩
  · cases h1
    exact ⟨[], by simp, .inr ⟨_, .slnil c, rfl⟩⟩
  · cases h1
    have hspot : a.spot = none := by
      simp only [Value.okWide, Cell.okWide, Cell.ok, ht] at hval
      exact hval.2.2.2.1
    have hps : ps = MemPlace.row a (m * P.cellsOf k) ++ (List.range m).flatMap Pl := congrArg Prod.snd h2
    rw [hc] at hps hall
    have hlm : len0 ≤ m := by rw [hm]; split <;> omega
    -- from the tail on
    have key : ∀ q, q ≤ len0 → ∃ (vs : List AV) (cs : List Value), (∀ u ∈ vs, G u) ∧ vs.length = q ∧ cs.length = q * c ∧ R (StOf W ps) W (.arr c vs) cs ∧ At (StOf W ps) W a.block (a.off + (len0 - q) * c) cs := by
      intro q
      induction q with
      | zero => exact fun _ => ⟨[], [], by simp, rfl, by simp, .arr0 c, fun i v hv => by simp at hv⟩
      | succ q ih =>
        intro hq
        obtain ⟨vs, cs, g1, g2, g3, g4, g5⟩ := ih (by omega)
        have hi : len0 - (q + 1) < m := by omega
        obtain ⟨cs', k1, k2⟩ := hall (len0 - (q + 1)) hi
        obtain ⟨_, hl', hget⟩ := World.cells?_some k1
        obtain ⟨u, u1, u2, u3⟩ := hel n cs' _ k2 hl'
        refine ⟨u :: vs, cs' ++ cs, ?_, by simp [g2], by rw [List.length_append, hl', g3, Nat.succ_mul]; omega, .arr1 c u vs cs' cs (u2.mono (fun b o hb => ?_) (fun _ _ _ => rfl)) hl' u3 g4, At.app ?_ ?_⟩
        · intro x hx
          rcases List.mem_cons.1 hx with rfl | hx
          · exact u1
          · exact g1 x hx
        · rw [hps]
          exact ⟨List.mem_append_right _ (List.mem_flatMap.2 ⟨_, List.mem_range.2 hi, hb.1⟩), hb.2⟩
        · intro j y hy
          have hj : j < c := by rw [← hl']; exact (List.getElem?_eq_some_iff.1 hy).1
          have h3 := hget j hj
          rw [Go.Deep.add_add] at h3
          have e1 : a.add ((len0 - (q + 1)) * c + j) = ⟨a.block, a.off + (len0 - (q + 1)) * c + j, none⟩ := by
            unfold Addr.add
            split
            · rename_i h0
              obtain ⟨b, o, s⟩ := a
              simp only at hspot ⊢
              rw [hspot]; congr 1; omega
            · rw [Nat.add_assoc]
          rw [e1] at h3
          refine ⟨by rw [h3]; exact hy, ?_, by rw [h3, hy]; rfl⟩
          rw [hps]
          refine List.mem_append_left _ (MemPlace.mem_row.2 ⟨(len0 - (q + 1)) * c + j, ?_, by rw [Nat.add_assoc]⟩)
          have := Nat.mul_le_mul_right c (show len0 - (q + 1) + 1 ≤ m by omega)
          rw [Nat.succ_mul] at this
          omega
        · rw [hl']
          have e2 : a.off + (len0 - (q + 1)) * c + c = a.off + (len0 - q) * c := by
            have e3 : len0 - q = (len0 - (q + 1)) + 1 := by omega
            rw [e3, Nat.succ_mul]; omega
          rw [e2]
          exact g5
    obtain ⟨vs, cs, g1, g2, g3, g4, g5⟩ := key len0 (Nat.le_refl _)
    rw [Nat.sub_self, Nat.zero_mul, Nat.add_zero] at g5
    have ea : a = ⟨a.block, a.off, none⟩ := by obtain ⟨b, o, s⟩ := a; simp only at hspot; rw [hspot]
    refine ⟨vs, g1, .inr ⟨_, .sl c vs cs a.block a.off cap0 g4 g5 (by omega), ?_⟩⟩
    show Value.slice (some a) len0 cap0 = Value.slice (some ⟨a.block, a.off, none⟩) vs.length cap0
    rw [g2, ← ea]

theorem map_of_each {α β : Type} {f : α → β} : ∀ {l : List β}, (∀ u ∈ l, ∃ n, u = f n) → ∃ ks : List α, l = ks.map f
  | [], _ => ⟨[], rfl⟩
  | u :: l, h => by
    obtain ⟨n, rfl⟩ := h u (by simp)
    obtain ⟨ks, e⟩ := map_of_each (l := l) (fun x hx => h x (List.mem_cons_of_mem _ hx))
    exact ⟨n :: ks, by rw [e]; rfl⟩

/-- A list of bytes. -/
theorem open_bytes {t e : TypeId} (ht : P.underlying t = some (.slice e)) (he : P.underlying e = some (.int .u8)) (h1 : P.cellsOf e = 1)
    {r : Reach} {b0 : Nat} {v : Value} (hval : Value.okWide P W r b0 t v) {d : DataW H} {ps : List MemPlace} (hd : DataW.Trod enc P W base sp held t v d ps) :
    ∃ bs : List Nat, (∀ n ∈ bs, n < 256) ∧ Rel (StOf W ps) W (.sl 1 (bs.map fun n => .lit (bn n))) v := by
  obtain ⟨vs, g1, g2⟩ := open_sl ht h1 (fun u => ∃ n : {n : Nat // n < 256}, u = .lit (bn n.1)) (fun n cs x hx hl => by
    obtain ⟨a, rfl, _, wa⟩ := DataW.trod_int he hx
    simp [Lit.wf, IntKind.min, IntKind.max, IntKind.signed, IntKind.bits] at wa
    refine ⟨_, ⟨⟨a.toNat, by omega⟩, rfl⟩, ?_, fun y hy => by simp at hy; rw [hy]; rfl⟩
    have : Value.int .u8 a = bn a.toNat := by unfold bn; rw [Int.toNat_of_nonneg (by omega)]
    rw [this]
    exact .lit _ rfl) hval hd
  obtain ⟨ks, rfl⟩ := map_of_each (f := fun n : {n : Nat // n < 256} => AV.lit (bn n.1)) g1
  refine ⟨ks.map (·.1), fun n hn => ?_, by rw [List.map_map]; exact g2⟩
  obtain ⟨a, _, rfl⟩ := List.mem_map.1 hn
  exact a.2
end
theorem t5 : Go.Proofs.Try.prog.underlying 5 = some (.int .u8) := by kernel_rfl
theorem c5 : Go.Proofs.Try.prog.cellsOf 5 = 1 := by kernel_rfl
end Go.Cab
