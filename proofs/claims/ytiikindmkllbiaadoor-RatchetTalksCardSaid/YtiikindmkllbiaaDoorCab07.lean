/- Part 7 of what the proof stands on: G8, G9, G10, G11, GD, G12, G13, G14, G15, G16, G17, G18. -/
import Derived.Test.YtiikindmkllbiaaDoorCab06
import Derived.Shelf.RegionOpenPlain
import Derived.WalkKit
import Derived.Deep.LoopGhost
import Derived.Deep.RegionLaw
import Derived.Deep.MidRow
import Derived.Lib.Walk
import Derived.Sort.WalkB12
import Derived.Lib.SliceRun
import Derived.Lib.SlicesDelete
set_option linter.unusedSimpArgs false
set_option linter.unnecessarySimpa false
set_option linter.unusedVariables false
set_option linter.unusedSectionVars false
namespace Go.Cab
open Classical
def fb442 : AC := (.seq (.reg [⟨some 4, none, .mov (.const (jn 0)), [], none⟩]) (.seq (.reg [⟨some 5, none, .mov (.tmp 0), [], none⟩, ⟨some 6, none, .mov (.tmp 1), [], none⟩, ⟨some 7, none, .rd .bcmp [.tmp 5, .tmp 6], [], none⟩, ⟨some 4, none, .mov (.tmp 7), [], none⟩]) .ret))
def fc442 : FC := ⟨2, 8, [(.tmp 4)], fb442⟩
theorem fc442_eq : compF Go.Proofs.Tryd.prog 77 = some fc442 := by kernel_rfl
def fb439 : AC := (.seq (.reg [⟨some 4, none, .box 32 (.tmp 1), [], none⟩, ⟨some 5, none, .box 32 (.tmp 2), [], none⟩, ⟨some 6, none, .alloc 32 (.arr 1 (List.replicate 32 (.lit (bn 0)))), [], none⟩, ⟨some 7, none, .mov (.const (.bool false)), [], none⟩]) (.seq (.seq (.reg [⟨some 10, none, .load true 32 (.tmp 5), [], none⟩, ⟨some 11, none, .build (.arr 1 (List.replicate 32 (.lit (bn 0)))) [], [], none⟩, ⟨some 12, none, .eqv 29 false (.tmp 10) (.tmp 11), [], none⟩]) (.cond (.tmp 12) (.seq (.reg [⟨some 13, none, .build (.arr 1 (List.replicate 32 (.lit (bn 0)))) [], [], none⟩, ⟨none, none, .store 32 (.tmp 6) (.tmp 13), [], none⟩, ⟨some 7, none, .mov (.const (.bool false)), [], none⟩]) .ret) .skip)) (.seq (.reg [⟨some 14, none, .mov (.tmp 0), [], none⟩, ⟨some 15, none, .load true 32 (.tmp 5), [], none⟩, ⟨some 16, none, .icall 36 (.tmp 14) [.tmp 15], [], none⟩, ⟨some 8, none, .mov (.tmp 16), [], none⟩]) (.seq (.seq (.reg [⟨some 17, none, .mov (.tmp 8), [], none⟩, ⟨some 18, none, .bin .lss (.tmp 17) (.const (jn 0)), [], none⟩, ⟨some 19, none, .mov (.tmp 18), [], none⟩, ⟨some 20, some (19, false), .mov (.tmp 0), [], none⟩, ⟨some 21, some (19, false), .nilc (.tmp 20), [], none⟩, ⟨some 22, some (19, false), .faddr 0 0 (.tmp 21), [], none⟩, ⟨some 23, some (19, false), .load false 1 (.tmp 22), [], none⟩, ⟨some 24, some (19, false), .mov (.tmp 8), [], none⟩, ⟨some 25, some (19, false), .iaddrS 3 (.tmp 23) (.tmp 24), [], none⟩, ⟨some 26, some (19, false), .faddr 0 0 (.tmp 25), [], none⟩, ⟨some 27, some (19, false), .load false 1 (.tmp 26), [], none⟩, ⟨some 28, some (19, false), .bin .neq (.tmp 27) (.const (jn 3)), [], none⟩, ⟨some 29, none, .pick (.tmp 19) (.const (.bool true)) (.tmp 28), [], none⟩]) (.cond (.tmp 29) (.seq (.reg [⟨some 30, none, .mov (.tmp 0), [], none⟩, ⟨some 31, none, .load true 32 (.tmp 4), [], none⟩, ⟨some 32, none, .load true 32 (.tmp 5), [], none⟩, ⟨some 33, none, .bslice 32 (.arr 1 (List.replicate 32 (.lit (bn 0)))) 2 [(0, (.tmp 31)), (1, (.tmp 32))], [], none⟩, ⟨some 34, none, .icall 18 (.tmp 30) [(.const (jn 5)), (.const (tx [])), (.tmp 33)], [], none⟩, ⟨none, none, .store 32 (.tmp 6) (.tmp 34), [], none⟩, ⟨some 7, none, .mov (.const (.bool true)), [], none⟩]) .ret) .skip)) (.seq (.reg [⟨some 35, none, .mov (.tmp 0), [], none⟩, ⟨some 36, none, .nilc (.tmp 35), [], none⟩, ⟨some 37, none, .faddr 0 0 (.tmp 36), [], none⟩, ⟨some 38, none, .load false 1 (.tmp 37), [], none⟩, ⟨some 39, none, .mov (.tmp 8), [], none⟩, ⟨some 40, none, .iaddrS 3 (.tmp 38) (.tmp 39), [], none⟩, ⟨some 41, none, .faddr 2 2 (.tmp 40), [], none⟩, ⟨some 42, none, .load false 1 (.tmp 41), [], none⟩, ⟨some 43, none, .iaddrS 32 (.tmp 42) (.const (jn 0)), [], none⟩, ⟨some 44, none, .load true 32 (.tmp 43), [], none⟩, ⟨some 9, none, .alloc 32 (.arr 1 (List.replicate 32 (.lit (bn 0)))), [], none⟩, ⟨none, none, .store 32 (.tmp 9) (.tmp 44), [], none⟩]) (.seq (.seq (.reg [⟨some 45, none, .rdp (.vslice 1 32 false false) [.tmp 4], [], none⟩, ⟨some 46, none, .rdp (.vslice 1 32 false false) [.tmp 9], [], none⟩, ⟨some 47, none, .xc (.dir 77) [.tmp 45, .tmp 46] [] [], [], none⟩, ⟨some 48, none, .bin .gtr (.tmp 47) (.const (jn 0)), [], none⟩]) (.cond (.tmp 48) (.reg [⟨some 49, none, .load true 32 (.tmp 9), [], none⟩, ⟨some 50, none, .load true 32 (.tmp 4), [], none⟩, ⟨none, none, .store 32 (.tmp 4) (.tmp 49), [], none⟩, ⟨none, none, .store 32 (.tmp 9) (.tmp 50), [], none⟩]) .skip)) (.seq (.reg [⟨some 51, none, .mov (.tmp 0), [], none⟩, ⟨some 52, none, .load true 32 (.tmp 4), [], none⟩, ⟨some 53, none, .load true 32 (.tmp 9), [], none⟩, ⟨some 54, none, .bslice 32 (.arr 1 (List.replicate 32 (.lit (bn 0)))) 2 [(0, (.tmp 52)), (1, (.tmp 53))], [], none⟩, ⟨some 55, none, .icall 18 (.tmp 51) [(.const (jn 4)), (.const (tx [])), (.tmp 54)], [], none⟩, ⟨none, none, .store 32 (.tmp 6) (.tmp 55), [], none⟩, ⟨some 7, none, .mov (.const (.bool true)), [], none⟩]) .ret)))))))
def fc439 : FC := ⟨3, 56, [(.cell 6 .true 32), (.tmp 7)], fb439⟩
theorem fc439_eq : compF Go.Proofs.Tryd.prog 72 = some fc439 := by kernel_rfl
theorem rd_bcmp {blk : Nat → Option Blk} {x y : AV} {a b : List UInt8} (hx : listB blk 1 x = some (bl a)) (hy : listB blk 1 y = some (bl b)) (h1 : x.isLit = false) (h2 : y.isLit = false) :
    rdB blk .bcmp [x, y] = some (.lit (.int .i64 (Go.Lib.compareBytes a b))) := by
  have e : ∀ l : List UInt8, Go.Lib.bytesOf (l.map fun b => (b.toNat : Int)) = l := fun l => by simp [Go.Lib.bytesOf, Function.comp_def]
  simp only [rdB, hx, hy, Option.bind_some, bytes_bl, e, h1, h2]
  rfl
theorem areg_bcmp {P : Program} {s : AS} {K : AS → Prop} {xs : List AOp} {d : Option Tmp} {x y : Operand} {u v : AV} {a b : List UInt8} (ex : s.ev x = u) (ey : s.ev y = v) (hx : listB s.blk 1 u = some (bl a)) (hy : listB s.blk 1 v = some (bl b)) (h1 : u.isLit = false) (h2 : v.isLit = false)
    (h : AReg P xs (s.put d (.lit (.int .i64 (Go.Lib.compareBytes a b)))) K) : AReg P (⟨d, none, .rd .bcmp [x, y], [], none⟩ :: xs) s K := by
  refine AOp.ex_go (s' := s.put d (.lit (.int .i64 (Go.Lib.compareBytes a b)))) ?_ h
  have hro : (AOp.ro ⟨d, none, .rd .bcmp [x, y], [], none⟩ s.nr) = tt := by funext b; rfl
  have hb : (fun b => if tt b then s.blk b else none) = s.blk := by funext b; rfl
  simp only [AOp.ex, AOp.ex0, AOp.mineB, if_true, ex_rd, List.map_cons, List.map_nil, ex, ey, hro, hb, rd_bcmp hx hy h1 h2, Option.map_some]
theorem cmp_call {H : List (Option Blk)} {b1 b2 : Nat} {l1 l2 : Nat × Nat} {n1 n2 : Nat} {k1 k2 : List UInt8} (h1 : H[b1]? = some (some (.box l1 n1 (keyA k1)))) (h2 : H[b2]? = some (some (.box l2 n2 (keyA k2)))) (e1 : k1.length = 32) (e2 : k2.length = 32) :
    XCall Go.Proofs.Tryd.prog 77 [.view b1 l1 0 [] 1 0 32 32, .view b2 l2 0 [] 1 0 32 32] H fun r H' => r = .lit (.int .i64 (Go.Lib.compareBytes k1 k2)) ∧ H' = H := by
  have h442 := fc442_eq
  refine XCall.le ?_
  have lb1 := (List.getElem?_eq_some_iff.1 h1).1
  have lb2 := (List.getElem?_eq_some_iff.1 h2).1
  have g1 := listB_key (blk := fun b => ((H ++ List.replicate 8 none)[b]?).join) (b := b1) (lo := 0) (len := 32) (cap := 32) (k := k1) (l := l1) (n := n1) (by rw [List.getElem?_append_left lb1, h1]; rfl) (by omega)
  have g2 := listB_key (blk := fun b => ((H ++ List.replicate 8 none)[b]?).join) (b := b2) (lo := 0) (len := 32) (cap := 32) (k := k2) (l := l2) (n := n2) (by rw [List.getElem?_append_left lb2, h2]; rfl) (by omega)
  rw [List.drop_zero, List.take_of_length_le (by omega)] at g1 g2
  refine XCall.of h442 rfl ?_; show AC.wp _ fb442 ⟨H.length, [.view b1 l1 0 [] 1 0 32 32, .view b2 l2 0 [] 1 0 32 32] ++ List.replicate (8 - 2) .any, H ++ List.replicate 8 none⟩ (fun x s => match x with | .exit _ => False | _ => ∃ s1, Le s s1 ∧ FinX [(.tmp 4)] s1 _); unfold fb442
  refine wp_sr (by simp [push_cast]; exact rfl) (wp_sg ?_)
  refine areg_run 2 (by simp [push_cast]; exact rfl) ?_
  refine areg_bcmp rfl rfl g1 g2 rfl rfl ?_
  refine areg_end (by simp [push_cast]; exact rfl) (wp_ret' ?_)
  exact ⟨_, Le.refl _, finX1 (v := .lit (.int .i64 (Go.Lib.compareBytes k1 k2))) rfl (by simp) ⟨_, H, RelLe.refl _, by simp, HpLe.trim _ _, rfl, rfl⟩⟩
structure TsOk (ts : List Term) : Prop where
  len : ts.length < 90000
  ok : ∀ x ∈ ts, TermOk x
  pub : ∀ x ∈ ts, x.kind = 3 → ∃ k, x.keys = [k]
  two : ∀ x ∈ ts, x.kind = 4 ∨ x.kind = 6 → 2 ≤ x.keys.length
def WfT (x : Term) : Prop := (x.kind = 3 → ∃ k, x.keys = [k]) ∧ (x.kind = 4 ∨ x.kind = 6 → 2 ≤ x.keys.length)
def agreeX (ts : List Term) (a p : List UInt8) : Option Term :=
  if p = zk then none else if ts.length ≤ be32 p ∨ nameK (be32 p) ≠ p then some ⟨5, [], [a, p]⟩ else match ts[be32 p]? with
    | some x => if x.kind = 3 then (if 0 < Go.Lib.compareBytes a (x.keys.getD 0 zk) then some ⟨4, [], [x.keys.getD 0 zk, a]⟩ else some ⟨4, [], [a, x.keys.getD 0 zk]⟩) else some ⟨5, [], [a, p]⟩
    | none => none
def AgreeK (H : List (Option Blk)) (t : Tb) (ts : List Term) (o : Option Term) (r : AV) (H' : List (Option Blk)) : Prop :=
  match o with
  | none => r = .tup [keyA zk, .lit (.bool false)] ∧ H' = H
  | some x => r = .tup [keyA (nameK (putN ts x)), .lit (.bool true)] ∧ ∃ V', H' = tbOf H t V' (putT ts x)
theorem fin_agree {H G L : List (Option Blk)} {t : Tb} {ts : List Term} {x : Term} {V' : Value} {c d : Tmp} {s : AS} (hr : RVal s (.cell c true 32) = some (keyA (nameK (putN ts x)))) (hd : RVal s (.tmp d) = some (.lit (.bool true))) (hg : G = tbOf H t V' (putT ts x)) (hp : s.hp = G ++ L) :
    ∃ s1, Le s s1 ∧ FinX [RV.cell c true 32, RV.tmp d] s1 fun r H' => ∃ r' A, RelLe r r' ∧ r' ≠ .any ∧ HpLe H' A ∧ AgreeK H t ts (some x) r' A :=
  ⟨s, Le.refl _, [], _, ⟨_, rfl, by simp only [AS.seals, RVals, hr, hd], by simp [keyA]⟩, _, G, RelLe.refl _, by simp, by show HpLe s.hp G; rw [hp]; exact HpLe.trim _ _, rfl, V', hg⟩
theorem areg_bz {P : Program} {s : AS} {K : AS → Prop} {xs : List AOp} {d : Option Tmp} {fo : List Tmp} {ow : Option Tmp} (h : AReg P xs (s.put d (keyA zk)) K) : AReg P (⟨d, none, .build (.arr 1 (List.replicate 32 (.lit (bn 0)))) [], fo, ow⟩ :: xs) s K := by
  refine AOp.ex_go (s' := s.put d (keyA zk)) ?_ h
  rw [zk_eq]
  rfl
theorem bin_lssm : binVal .lss (.int .i64 (-1)) (jn 0) = some (.bool true) := by simp [binVal, jn]
theorem bin_gtri (x : Int) : binVal .gtr (.int .i64 x) (jn 0) = some (.bool (decide (0 < x))) := by simp [binVal, jn]
set_option maxHeartbeats 16000000 in
theorem agree_call {H : List (Option Blk)} {t : Tb} {V : Value} {ts : List Term} (hh : TbOk H t V ts) (hts : TsOk ts) {a p : List UInt8} (ha : a.length = 32) (hp : p.length = 32) :
    XCall Go.Proofs.Tryd.prog 72 [.ptr t.b t.l 0 [], keyA a, keyA p] H (AgreeK H t ts (agreeX ts a p)) := by
  have h439 := fc439_eq
  refine XCall.le ?_
  have hn := hts.len
  have hcal : callable Go.Proofs.Tryd.prog 77 = true := by kernel_rfl
  have c1 := fun L => number_call (hh.app L) (by omega) hp
  obtain ⟨n, hv, hX⟩ : ∃ n, numV ts.length p = (if ts.length ≤ n ∨ nameK n ≠ p then .int .i64 (-1) else jn n) ∧ agreeX ts a p = (if p = zk then none else if ts.length ≤ n ∨ nameK n ≠ p then some ⟨5, [], [a, p]⟩ else match ts[n]? with
    | some x => if x.kind = 3 then (if 0 < Go.Lib.compareBytes a (x.keys.getD 0 zk) then some ⟨4, [], [x.keys.getD 0 zk, a]⟩ else some ⟨4, [], [a, x.keys.getD 0 zk]⟩) else some ⟨5, [], [a, p]⟩
    | none => none) := ⟨be32 p, rfl, rfl⟩
  rw [hX]
  simp only [hv] at c1
  clear hv hX
  have e1 := eq_key hp zk_len
  refine XCall.of h439 rfl ?_; show AC.wp _ fb439 ⟨H.length, [.ptr t.b t.l 0 [], keyA a, keyA p] ++ List.replicate (56 - 3) .any, H ++ List.replicate 56 none⟩ (fun x s => match x with | .exit _ => False | _ => ∃ s1, Le s s1 ∧ FinX [(.cell 6 .true 32), (.tmp 7)] s1 _); unfold fb439
  have lb := hh.lb; have lj := hh.lj
  have gb := hh.hb; have gj := hh.hj
  unfold tbk at gb
  unfold trk at gj
  have hput := fun x hx L => put_at hh (by omega) x hx L
  generalize hN : H.length = N at *
  have p1 : ∀ L k, (H ++ L)[N + k]? = L[k]? := fun L k => cat1 N H L k hN
  have p2 : ∀ L k x, (H ++ L).set (N + k) x = H ++ L.set k x := fun L k x => cat2 N H L k x hN
  have pb : ∀ L, (H ++ L)[t.b]? = some (some (.box t.l 2 (.st [1, 1] [.own t.j V, .own t.m (.map (some t.r))]))) := fun L => by rw [cat4 N H L _ hN lb]; exact gb
  have pj : ∀ L, (H ++ L)[t.j]? = some (some (.row 100 V 3 (ts.map termA) 0)) := fun L => by rw [cat4 N H L _ hN lj]; exact gj
  refine wp_sg (areg_bx rfl (by simp [AS.ev, keyA, AV.sz, bl, ha]) fun l1 => areg_bx rfl (by simp [AS.ev, AS.put, keyA, AV.sz, bl, hp]) fun l2 => areg_al' zk_eq.symm fun l3 => areg_end (by simp [push_cast, p1, p2]; exact rfl) ?_)
  refine wp_seq' (wp_seq' (wp_rg ?_))
  refine areg_run 1 (by simp [push_cast, p1]; exact rfl) ?_
  refine areg_bz ?_
  refine areg_eq (by simp [AS.ev, AS.put] <;> exact rfl) (by simp [AS.ev, AS.put] <;> exact rfl) e1 rfl rfl (areg_nil ?_)
  by_cases hz : p = zk
  · rw [if_pos hz]
    refine wp_cond_t (by simp [AS.ev, AS.put, hz]) (wp_seq' (wp_rg ?_))
    refine areg_bz (areg_end (by simp [push_cast, p1, p2]; exact rfl) (wp_ret' ?_))
    exact ⟨_, Le.refl _, [], _, ⟨_, rfl, by simp [AS.seals, RVals, RVal, AS.ev, AS.peek, AS.blk, p1, Blk.loc, Blk.cont, Blk.n, AV.nav, AV.isAgg, AV.isTup, AS.coe]; rfl, by simp [keyA]⟩, .tup [keyA zk, .lit (.bool false)], H, RelLe.refl _, by simp, HpLe.trim _ _, rfl, rfl⟩
  refine wp_cond_f (by simp [AS.ev, AS.put, hz]) (wp_skip' (wp_sg ?_))
  refine areg_run 2 (by simp [push_cast, p1]; exact rfl) ?_
  refine areg_xc rfl (c1 _) ⟨_, _, rfl, rfl⟩ ?_
  rintro r H' ⟨rfl, rfl⟩
  refine areg_end (by simp [push_cast]; exact rfl) ?_
  rw [if_neg hz]
  by_cases hnum : ts.length ≤ n ∨ nameK n ≠ p
  · rw [if_pos hnum, if_pos hnum]
    refine wp_seq' (wp_seq' (wp_r (by simp [push_cast, bin_lssm]; exact rfl) ?_))
    refine wp_cond_t rfl (wp_seq' (wp_rg ?_))
    refine areg_run 4 (by simp [push_cast, p1, ha, hp]; exact rfl) ?_
    refine areg_xc rfl (hput ⟨5, [], [a, p]⟩ ⟨by simp, by simp, by simp, by simp [ha, hp]⟩ _) ⟨_, _, rfl, .slice none 0 0, rfl⟩ ?_
    rintro r H' ⟨rfl, V', rfl⟩
    have hG : (tbOf H t V' (putT ts ⟨5, [], [a, p]⟩)).length = N := by rw [tbOf_len]; exact hN
    generalize hgen : tbOf H t V' (putT ts ⟨5, [], [a, p]⟩) = G at *
    have r1 : ∀ L k, (G ++ L)[N + k]? = L[k]? := fun L k => cat1 N G L k hG
    have r2 : ∀ L k x, (G ++ L).set (N + k) x = G ++ L.set k x := fun L k x => cat2 N G L k x hG
    refine areg_end (by simp [push_cast, r1, r2, nameK_len]; exact rfl) (wp_ret' ?_)
    exact fin_agree (V' := V') (G := G) (by simp [RVal, AS.ev, AS.peek, AS.blk, r1, Blk.loc, Blk.cont, Blk.n, AV.nav, AV.isAgg, AV.isTup]; rfl) rfl hgen.symm rfl
  rw [if_neg hnum, if_neg hnum]
  have hlt : n < ts.length := by omega
  have g1 : ts[n]? = some ts[n] := List.getElem?_eq_getElem hlt
  have hmem : ts[n] ∈ ts := List.getElem_mem hlt
  have hok := hts.ok _ hmem
  have hpub := hts.pub _ hmem
  rw [g1]
  simp only
  generalize ts[n] = x at *
  obtain ⟨kd, tt', ks⟩ := x
  have g2 : (ts.map termA)[n]? = some (.st [1, 1, 1] [.lit (jn kd), .lit (tx tt'), .sl 32 (klA ks)]) := by rw [List.getElem?_map, g1]; rfl
  have g3 : ∀ h, (ts.map termA)[n]'h = .st [1, 1, 1] [.lit (jn kd), .lit (tx tt'), .sl 32 (klA ks)] := fun h => by rw [List.getElem?_eq_getElem h] at g2; exact Option.some.inj g2
  have gl : (ts.map termA).length = ts.length := List.length_map _
  generalize ts.map termA = T at *
  by_cases h3 : kd = 3
  · subst h3
    obtain ⟨o, ho⟩ := hpub rfl
    simp only at ho
    subst ho
    have ho32 : o.length = 32 := hok.k32 o (by simp)
    have k1 : klA [o] = [keyA o] := rfl
    simp only [if_true, List.getD_cons_zero]
    refine wp_seq' (wp_seq' (wp_r (by simp [push_cast, pb, pj, hlt, g2, g3, gl]; exact rfl) (wp_cond_f rfl (wp_skip' ?_))))
    refine wp_sg ?_
    refine areg_run 10 (by simp [push_cast, pb, pj, hlt, g2, g3, gl, klA_len, k1]; exact rfl) ?_
    refine areg_al' zk_eq.symm fun l4 => areg_end (by simp [push_cast, p1, p2, ho32]; exact rfl) ?_
    refine wp_seq' (wp_seq' (wp_rg ?_))
    refine areg_run 2 (by simp [push_cast]; exact rfl) ?_
    refine areg_xq (us := [.view (N + 4) l1 0 [] 1 0 32 32, .view (N + 9) l4 0 [] 1 0 32 32]) rfl (by simp only [tgtA, tgtB, Option.bind_some, hcal, if_true]) (cmp_call (b1 := N + 4) (b2 := N + 9) (l1 := l1) (l2 := l4) (n1 := 32) (n2 := 32) (k1 := a) (k2 := o) (by simp only [p1]; rfl) (by simp only [p1]; rfl) ha ho32) ⟨_, _, rfl, rfl⟩ (fun r hp' _ t' ht' => by cases ht') ?_
    rintro r H' ⟨rfl, rfl⟩
    refine areg_end (by simp [push_cast, bin_gtri]; exact rfl) ?_
    by_cases hgt : 0 < Go.Lib.compareBytes a o
    · rw [if_pos hgt]
      refine wp_cond_t (by simp [AS.ev, hgt]) (wp_r (by simp [push_cast, p1, p2, ha, ho32]; exact rfl) ?_)
      refine wp_sg ?_
      refine areg_run 4 (by simp [push_cast, p1, ha, ho32]; exact rfl) ?_
      refine areg_xc rfl (hput ⟨4, [], [o, a]⟩ ⟨by simp, by simp, by simp, by simp [ha, ho32]⟩ _) ⟨_, _, rfl, .slice none 0 0, rfl⟩ ?_
      rintro r H' ⟨rfl, V', rfl⟩
      have hG : (tbOf H t V' (putT ts ⟨4, [], [o, a]⟩)).length = N := by rw [tbOf_len]; exact hN
      generalize hgen : tbOf H t V' (putT ts ⟨4, [], [o, a]⟩) = G at *
      have r1 : ∀ L k, (G ++ L)[N + k]? = L[k]? := fun L k => cat1 N G L k hG
      have r2 : ∀ L k x, (G ++ L).set (N + k) x = G ++ L.set k x := fun L k x => cat2 N G L k x hG
      refine areg_end (by simp [push_cast, r1, r2, nameK_len]; exact rfl) (wp_ret' ?_)
      exact fin_agree (V' := V') (G := G) (by simp [RVal, AS.ev, AS.peek, AS.blk, r1, Blk.loc, Blk.cont, Blk.n, AV.nav, AV.isAgg, AV.isTup]; rfl) rfl hgen.symm rfl
    · rw [if_neg hgt]
      refine wp_cond_f (by simp [AS.ev, hgt]) (wp_skip' ?_)
      refine wp_sg ?_
      refine areg_run 4 (by simp [push_cast, p1, ha, ho32]; exact rfl) ?_
      refine areg_xc rfl (hput ⟨4, [], [a, o]⟩ ⟨by simp, by simp, by simp, by simp [ha, ho32]⟩ _) ⟨_, _, rfl, .slice none 0 0, rfl⟩ ?_
      rintro r H' ⟨rfl, V', rfl⟩
      have hG : (tbOf H t V' (putT ts ⟨4, [], [a, o]⟩)).length = N := by rw [tbOf_len]; exact hN
      generalize hgen : tbOf H t V' (putT ts ⟨4, [], [a, o]⟩) = G at *
      have r1 : ∀ L k, (G ++ L)[N + k]? = L[k]? := fun L k => cat1 N G L k hG
      have r2 : ∀ L k x, (G ++ L).set (N + k) x = G ++ L.set k x := fun L k x => cat2 N G L k x hG
      refine areg_end (by simp [push_cast, r1, r2, nameK_len]; exact rfl) (wp_ret' ?_)
      exact fin_agree (V' := V') (G := G) (by simp [RVal, AS.ev, AS.peek, AS.blk, r1, Blk.loc, Blk.cont, Blk.n, AV.nav, AV.isAgg, AV.isTup]; rfl) rfl hgen.symm rfl
  · simp only [if_neg h3]
    refine wp_seq' (wp_seq' (wp_r (by simp [push_cast, pb, pj, hlt, g2, g3, gl, h3]; exact rfl) ?_))
    refine wp_cond_t rfl (wp_seq' (wp_rg ?_))
    refine areg_run 4 (by simp [push_cast, p1, ha, hp]; exact rfl) ?_
    refine areg_xc rfl (hput ⟨5, [], [a, p]⟩ ⟨by simp, by simp, by simp, by simp [ha, hp]⟩ _) ⟨_, _, rfl, .slice none 0 0, rfl⟩ ?_
    rintro r H' ⟨rfl, V', rfl⟩
    have hG : (tbOf H t V' (putT ts ⟨5, [], [a, p]⟩)).length = N := by rw [tbOf_len]; exact hN
    generalize hgen : tbOf H t V' (putT ts ⟨5, [], [a, p]⟩) = G at *
    have r1 : ∀ L k, (G ++ L)[N + k]? = L[k]? := fun L k => cat1 N G L k hG
    have r2 : ∀ L k x, (G ++ L).set (N + k) x = G ++ L.set k x := fun L k x => cat2 N G L k x hG
    refine areg_end (by simp [push_cast, r1, r2, nameK_len]; exact rfl) (wp_ret' ?_)
    exact fin_agree (V' := V') (G := G) (by simp [RVal, AS.ev, AS.peek, AS.blk, r1, Blk.loc, Blk.cont, Blk.n, AV.nav, AV.isAgg, AV.isTup]; rfl) rfl hgen.symm rfl
end Go.Cab
namespace Go.Cab
open Classical
def fb419 : AC := (.seq (.reg [⟨some 0, none, .mov (.const (.pointer .none)), [], none⟩]) (.seq (.reg [⟨some 1, none, .ef .mkmap [], [], none⟩, ⟨some 2, none, .build (.st [1, 1] [(.lit (.slice .none 0 0)), (.lit (.map .none))]) [(1, (.tmp 1))], [], none⟩, ⟨some 3, none, .box 2 (.tmp 2), [], none⟩, ⟨some 0, none, .mov (.tmp 3), [], none⟩]) .ret))
def fc419 : FC := ⟨0, 4, [(.tmp 0)], fb419⟩
theorem fc419_eq : compF Go.Proofs.Tryd.prog 16 = some fc419 := by kernel_rfl
def fb411 : AC := (.seq (.reg [⟨some 0, none, .alloc 1 (.st [1] [(.lit (.pointer .none))]), [], none⟩]) (.seq (.reg [⟨some 1, none, .xc (.dir 16) [] [] [], [], none⟩, ⟨some 2, none, .build (.st [1] [(.lit (.pointer .none))]) [(0, (.tmp 1))], [], none⟩, ⟨none, none, .store 1 (.tmp 0) (.tmp 2), [], none⟩]) .ret))
def fc411 : FC := ⟨0, 3, [(.cell 0 .true 1)], fb411⟩
theorem fc411_eq : compF Go.Proofs.Tryd.prog 6 = some fc411 := by kernel_rfl
def tbNew (N : Nat) (l : Nat × Nat) (r : Nat) : Tb := ⟨N, N + 1, N + 2, l, r⟩
def newL (N : Nat) (l : Nat × Nat) (r : Nat) : List (Option Blk) := [some (tbk l (N + 1) (N + 2) r (.slice none 0 0)), some (trk (.slice none 0 0) []), some (tmk r [])]
theorem new_ok (H : List (Option Blk)) (l : Nat × Nat) (r : Nat) : TbOk (H ++ newL H.length l r) (tbNew H.length l r) (.slice none 0 0) [] :=
  ⟨by simp [tbNew], by simp [tbNew], by simp [tbNew], by rw [List.getElem?_append_right (by simp [tbNew])]; simp [tbNew, newL], by rw [List.getElem?_append_right (by simp [tbNew])]; simp [tbNew, newL], by rw [List.getElem?_append_right (by simp [tbNew])]; simp [tbNew, newL]⟩
set_option maxHeartbeats 2000000 in
theorem new_call (H : List (Option Blk)) : XCall Go.Proofs.Tryd.prog 16 [] H fun r H' => ∃ l rr, r = .ptr H.length l 0 [] ∧ H' = H ++ newL H.length l rr := by
  have h419 := fc419_eq
  refine XCall.le ?_
  refine XCall.of h419 rfl ?_; show AC.wp _ fb419 ⟨H.length, [] ++ List.replicate (4 - 0) .any, H ++ List.replicate 4 none⟩ (fun x s => match x with | .exit _ => False | _ => ∃ s1, Le s s1 ∧ FinX [(.tmp 0)] s1 _); unfold fb419
  generalize hN : H.length = N at *
  have p1 : ∀ L k, (H ++ L)[N + k]? = L[k]? := fun L k => cat1 N H L k hN
  have p2 : ∀ L k x, (H ++ L).set (N + k) x = H ++ L.set k x := fun L k x => cat2 N H L k x hN
  refine wp_sr (by simp [push_cast]; exact rfl) (wp_sg ?_)
  refine areg_mkmap fun rr => ?_
  refine areg_run 1 (by simp [push_cast]; exact rfl) ?_
  refine areg_bx rfl rfl fun l => areg_end (by simp [push_cast, p2]; exact rfl) (wp_ret' ?_)
  refine ⟨_, Le.nilField (b := N + 3) (j := N + 0) (l := l) (n := 2) (v := .st [1, 1] [.lit (.slice none 0 0), .own (N + 1) (.map (some rr))]) (v' := .st [1, 1] [.own (N + 0) (.slice none 0 0), .own (N + 1) (.map (some rr))]) (by simp only [AS.blk, p1]; rfl) (AVle.st1 (AVle.nil _) (AVle.st1 (AVle.refl _) AVle.st0)) (by simp only [AS.blk, p1]; rfl) (by simp; omega) (by simp; omega) 100 3, ?_⟩
  simp only [p2]
  refine finX1 (v := .ptr (N + 3) l 0 []) rfl (by simp) ⟨.ptr N l 0 [], H ++ newL N l rr, RelLe.ptr _ _ _ _ _, by simp, ?_, l, rr, rfl, rfl⟩
  refine HpLe.gen (fun k => if k = N then N + 3 else if k = N + 1 then N else if k = N + 2 then N + 1 else k) (fun k k' x y hx hy e => ?_) (fun k x hx => ?_)
  · have hlt : ∀ (k : Nat) (x : Blk), ((H ++ newL N l rr)[k]?).join = some x → k < N + 3 := fun k x hx => by
      by_cases h : k < N + 3
      · exact h
      · rw [List.getElem?_eq_none (by simp [newL]; omega)] at hx; cases hx
    have := hlt k x hx
    have := hlt k' y hy
    try simp only at e
    split at e <;> split at e <;> (try split at e) <;> (try split at e) <;> (try split at e) <;> (try split at e) <;> omega
  · by_cases h1 : k < N
    · rw [cat4 N H _ k hN h1] at hx
      refine ⟨x, ?_, BlkLe.refl _⟩
      simp only [show k ≠ N by omega, show k ≠ N + 1 by omega, show k ≠ N + 2 by omega, if_false]
      rw [cat4 N H _ k hN h1]; exact hx
    · obtain ⟨i, rfl⟩ : ∃ i, k = N + i := ⟨k - N, by omega⟩
      rw [p1] at hx
      match i, hx with
      | 0, hx =>
        simp only [newL, List.getElem?_cons_zero, Option.join_some, Option.some.injEq] at hx
        subst hx
        refine ⟨.box l 2 (.st [1, 1] [.own (N + 0) (.slice none 0 0), .own (N + 1) (.map (some rr))]), ?_, BlkLe.box (AVle.st1 (AVle.own _ _ _) (AVle.st1 (AVle.own _ _ _) AVle.st0))⟩
        simp only [Nat.add_zero, if_true]
        rw [p1]; rfl
      | 1, hx =>
        simp only [newL, List.getElem?_cons_succ, List.getElem?_cons_zero, Option.join_some, Option.some.injEq] at hx
        subst hx
        refine ⟨_, ?_, BlkLe.refl _⟩
        simp only [show N + 1 ≠ N by omega, if_false, if_true]
        have := p1 [some (.row 100 (.slice none 0 0) 3 [] 0), some (.map rr [] 0), none, some (.box l 2 (.st [1, 1] [.own (N + 0) (.slice none 0 0), .own (N + 1) (.map (some rr))]))] 0
        rw [Nat.add_zero] at this
        first | (rw [this]; rfl) | (simp [this]; rfl)
      | 2, hx =>
        simp only [newL, List.getElem?_cons_succ, List.getElem?_cons_zero, Option.join_some, Option.some.injEq] at hx
        subst hx
        refine ⟨_, ?_, BlkLe.refl _⟩
        simp only [show N + 2 ≠ N by omega, show N + 2 ≠ N + 1 by omega, if_false, if_true]
        rw [p1]; rfl
      | i + 3, hx => simp [newL] at hx
def freeS (b : Nat) (l : Nat × Nat) : AV := .st [1] [.ptr b l 0 []]
def freeI (b : Nat) (l : Nat × Nat) : AV := .ifc 26 (freeS b l)
theorem AVle.ptr (b b' : Nat) (l : Nat × Nat) (off : Nat) (p : List Nat) : AVle (.ptr b l off p) (.ptr b' l off p) := fun Imm w cs h => by
  cases h; exact .ptr b' l off p
theorem RelLe.st {ns ns' : List Nat} {fs fs' : List AV} (h : AVle (.st ns fs) (.st ns' fs')) : RelLe (.st ns fs) (.st ns' fs') := fun Imm w V hr => by
  rcases hr with hr | ⟨cs, hr, e⟩
  · cases hr
  · exact .inr ⟨cs, h _ _ _ hr, e⟩
theorem HpLe.new (H A : List (Option Blk)) (l : Nat × Nat) (r : Nat) : HpLe (H ++ A ++ newL (H.length + A.length) l r) (H ++ newL H.length l r) := by
  have hlt : ∀ (k : Nat) (x : Blk), ((H ++ newL H.length l r)[k]?).join = some x → k < H.length + 3 := fun k x hx => by
    by_cases h : k < H.length + 3
    · exact h
    · rw [List.getElem?_eq_none (by simp [newL]; omega)] at hx; cases hx
  refine HpLe.gen (fun k => if k < H.length then k else k + A.length) (fun k k' x y hx hy e => ?_) (fun k x hx => ?_)
  · try simp only at e
    split at e <;> split at e <;> omega
  · have h3 := hlt k x hx
    by_cases h1 : k < H.length
    · refine ⟨x, ?_, BlkLe.refl _⟩
      rw [List.getElem?_append_left h1] at hx
      rw [if_pos h1, List.append_assoc, List.getElem?_append_left h1]; exact hx
    · obtain ⟨i, rfl⟩ : ∃ i, k = H.length + i := ⟨k - H.length, by omega⟩
      rw [cat1 H.length H _ i rfl] at hx
      have e : ((H ++ A ++ newL (H.length + A.length) l r)[if H.length + i < H.length then H.length + i else H.length + i + A.length]?) = (newL (H.length + A.length) l r)[i]? := by
        rw [if_neg (by omega), show H.length + i + A.length = (H.length + A.length) + i by omega, cat1 (H.length + A.length) (H ++ A) _ i (by simp)]
      rw [e]
      match i, hx with
      | 0, hx =>
        simp only [newL, List.getElem?_cons_zero, Option.join_some, Option.some.injEq] at hx
        subst hx
        exact ⟨_, rfl, BlkLe.box (AVle.st1 (AVle.own _ _ _) (AVle.st1 (AVle.own _ _ _) AVle.st0))⟩
      | 1, hx =>
        simp only [newL, List.getElem?_cons_succ, List.getElem?_cons_zero, Option.join_some, Option.some.injEq] at hx
        subst hx
        exact ⟨_, rfl, BlkLe.refl _⟩
      | 2, hx =>
        simp only [newL, List.getElem?_cons_succ, List.getElem?_cons_zero, Option.join_some, Option.some.injEq] at hx
        subst hx
        exact ⟨_, rfl, BlkLe.refl _⟩
      | i + 3, hx => simp [newL] at hx
set_option maxHeartbeats 2000000 in
theorem newfree_call (H : List (Option Blk)) : XCall Go.Proofs.Tryd.prog 6 [] H fun r H' => ∃ l rr, r = freeS H.length l ∧ H' = H ++ newL H.length l rr := by
  have h411 := fc411_eq
  refine XCall.le ?_
  have hcal : callable Go.Proofs.Tryd.prog 16 = true := by kernel_rfl
  refine XCall.of h411 rfl ?_; show AC.wp _ fb411 ⟨H.length, [] ++ List.replicate (3 - 0) .any, H ++ List.replicate 3 none⟩ (fun x s => match x with | .exit _ => False | _ => ∃ s1, Le s s1 ∧ FinX [(.cell 0 .true 1)] s1 _); unfold fb411
  have hle := fun A l rr => HpLe.new H A l rr
  generalize hN : H.length = N at *
  have p2 : ∀ L x, (H ++ L).set N x = H ++ L.set 0 x := fun L x => cat2 N H L 0 x hN
  have p1 : ∀ L, (H ++ L)[N]? = L[0]? := fun L => cat1 N H L 0 hN
  have hl : ∀ L : List (Option Blk), (H ++ L).length = N + L.length := fun L => by rw [List.length_append, hN]
  refine wp_sg (areg_al fun l0 => areg_end (by simp [push_cast, p2]; exact rfl) ?_)
  refine wp_sg ?_
  refine areg_run 0 (by simp [push_cast, p2]; exact rfl) ?_
  refine areg_xq (us := []) rfl (by simp only [tgtA, tgtB, Option.bind_some, hcal, if_true]) (new_call _) ⟨_, _, (0, 0), 0, rfl, rfl⟩ (fun r hp' _ t' ht' => by cases ht') ?_
  rintro r H' ⟨l, rr, rfl, rfl⟩
  refine areg_run 0 (by simp [push_cast, hl]; exact rfl) ?_
  refine areg_end (by simp [push_cast, p1, p2]; exact rfl) (wp_ret' ?_)
  refine ⟨_, Le.refl _, [], freeS (N + 3) l, ⟨by simp [RVal, AS.seals, AS.ev, AS.peek, AS.blk, p1, Blk.loc, Blk.cont, Blk.n, AV.nav, AV.isAgg, AV.isTup]; rfl, by simp [freeS]⟩, freeS N l, H ++ newL N l rr, RelLe.st (AVle.st1 (AVle.ptr _ _ _ _ _) AVle.st0), by simp [freeS], ?_, l, rr, rfl, rfl⟩
  have := hle [some (.box l0 1 (.st [1] [.ptr (N + 3) l 0 []])), none, none] l rr
  rw [List.append_assoc] at this
  exact this
def dig8 (n : Nat) : UInt8 := UInt8.ofNat (48 + n)
def digs (n : Nat) : List UInt8 := if h : n < 10 then [dig8 n] else digs (n / 10) ++ [dig8 (n % 10)]
termination_by n
decreasing_by omega
theorem digs_len (n : Nat) : (digs n).length ≤ n + 1 := by
  induction n using Nat.strongRecOn with
  | ind n ih =>
    rw [digs]
    split
    · simp
    · have := ih (n / 10) (by omega)
      simp only [List.length_append, List.length_cons, List.length_nil]
      omega
end Go.Cab
namespace Go.Cab
open Classical
theorem tgt_agree (b : Nat) (l : Nat × Nat) (x y : AV) : tgtA Go.Proofs.Tryd.prog (.inv "Agree") [freeI b l, x, y] = some (72, [.ptr b l 0 [], x, y]) := by kernel_rfl
theorem tgt_hash (b : Nat) (l : Nat × Nat) (x y : AV) : tgtA Go.Proofs.Tryd.prog (.inv "Hash") [freeI b l, x, y] = some (27, [.ptr b l 0 [], x, y]) := by kernel_rfl
theorem tgt_pub (b : Nat) (l : Nat × Nat) (x : AV) : tgtA Go.Proofs.Tryd.prog (.inv "Pub") [freeI b l, x] = some (75, [.ptr b l 0 [], x]) := by kernel_rfl
theorem tgt_draw (b : Nat) (l : Nat × Nat) (x : AV) : tgtA Go.Proofs.Tryd.prog (.inv "Draw") [freeI b l, x] = some (8, [.ptr b l 0 [], x]) := by kernel_rfl
theorem TsOk.put {ts : List Term} (h : TsOk ts) {x : Term} (hx : TermOk x) (h3 : WfT x) (hl : ts.length + 1 < 90000) : TsOk (putT ts x) := by
  unfold putT
  cases findT (shapeT x) ts 0 with
  | some n => exact h
  | none =>
    refine ⟨by simp; omega, fun y hy => ?_, fun y hy => ?_, fun y hy => ?_⟩
    · rcases List.mem_append.1 hy with hy | hy
      · exact h.ok y hy
      · simp at hy; subst hy; exact hx
    · rcases List.mem_append.1 hy with hy | hy
      · exact h.pub y hy
      · simp at hy; subst hy; exact h3.1
    · rcases List.mem_append.1 hy with hy | hy
      · exact h.two y hy
      · simp at hy; subst hy; exact h3.2
theorem agreeX_ok {ts : List Term} (h : TsOk ts) {a p : List UInt8} (ha : a.length = 32) (hp : p.length = 32) {x : Term} (hx : agreeX ts a p = some x) : TermOk x ∧ WfT x := by
  unfold agreeX at hx
  have mk : ∀ (k : Nat) (u v : List UInt8), k < 256 → u.length = 32 → v.length = 32 → TermOk ⟨k, [], [u, v]⟩ := fun k u v hk hu hv => ⟨hk, by simp, by simp, by simp [hu, hv]⟩
  split at hx
  · cases hx
  · split at hx
    · cases hx; exact ⟨mk 5 a p (by omega) ha hp, ⟨by simp, by simp⟩⟩
    · split at hx
      · rename_i y hy
        have hmem := List.mem_of_getElem? hy
        split at hx
        · rename_i h3
          obtain ⟨k, hk⟩ := h.pub y hmem h3
          have hk32 : k.length = 32 := (h.ok y hmem).k32 k (by rw [hk]; simp)
          rw [hk] at hx
          simp only [List.getD_cons_zero] at hx
          split at hx
          · cases hx; exact ⟨mk 4 k a (by omega) hk32 ha, ⟨by simp, by simp⟩⟩
          · cases hx; exact ⟨mk 4 a k (by omega) ha hk32, ⟨by simp, by simp⟩⟩
        · cases hx; exact ⟨mk 5 a p (by omega) ha hp, ⟨by simp, by simp⟩⟩
      · cases hx
section
variable {H : List (Option Blk)} {t : Tb} {V : Value} {ts : List Term}
theorem TbOk.other (h : TbOk H t V ts) (V' : Value) (ts' : List Term) {c : Nat} (h1 : c ≠ t.b) (h2 : c ≠ t.j) (h3 : c ≠ t.m) : (tbOf H t V' ts')[c]? = H[c]? := by
  unfold tbOf
  rw [List.getElem?_set_ne h3.symm, List.getElem?_set_ne h2.symm, List.getElem?_set_ne h1.symm]
theorem TbOk.at (h : TbOk H t V ts) (V' : Value) (ts' : List Term) (L : List (Option Blk)) : TbOk (tbOf H t V' ts' ++ L) t V' ts' := (h.of V' ts').app L
theorem TbOk.at_of (h : TbOk H t V ts) (V' V2 : Value) (ts' ts2 : List Term) (L : List (Option Blk)) : tbOf (tbOf H t V' ts' ++ L) t V2 ts2 = tbOf H t V2 ts2 ++ L := by
  rw [(h.of V' ts').of_app, h.of_of]
end
def AgAt (H : List (Option Blk)) (t : Tb) (V : Value) (ts : List Term) (L : List (Option Blk)) (o : Option Term) (r : AV) (H' : List (Option Blk)) : Prop :=
  match o with
  | none => r = .tup [keyA zk, .lit (.bool false)] ∧ H' = tbOf H t V ts ++ L
  | some x => r = .tup [keyA (nameK (putN ts x)), .lit (.bool true)] ∧ ∃ V', H' = tbOf H t V' (putT ts x) ++ L
theorem AgAt.ex (H : List (Option Blk)) (t : Tb) (V : Value) (ts : List Term) (L : List (Option Blk)) (o : Option Term) : ∃ r H', AgAt H t V ts L o r H' := by
  cases o with
  | none => exact ⟨_, _, rfl, rfl⟩
  | some x => exact ⟨_, _, rfl, .slice none 0 0, rfl⟩
theorem agree_at {H : List (Option Blk)} {t : Tb} {V0 : Value} {ts0 : List Term} (hh : TbOk H t V0 ts0) {ts : List Term} (hts : TsOk ts) (V : Value) (L : List (Option Blk)) {a p : List UInt8} (ha : a.length = 32) (hp : p.length = 32) :
    XCall Go.Proofs.Tryd.prog 72 [.ptr t.b t.l 0 [], keyA a, keyA p] (tbOf H t V ts ++ L) (AgAt H t V ts L (agreeX ts a p)) := by
  refine XCall.mono (agree_call (hh.at V ts L) hts ha hp) ?_
  intro r H' h
  unfold AgreeK at h
  unfold AgAt
  cases hx : agreeX ts a p with
  | none => rw [hx] at h; exact h
  | some x =>
    rw [hx] at h
    obtain ⟨h1, V', h2⟩ := h
    exact ⟨h1, V', by rw [h2, hh.at_of]⟩
theorem leH_app : ∀ {A A' B B' : List (Option Blk)}, leH A A' → leH B B' → leH (A ++ B) (A' ++ B')
  | [], [], _, _, _, h => h
  | _ :: _, _ :: _, _, _, h, k => ⟨h.1, leH_app h.2 k⟩
theorem leH_none (x : Option Blk) : ∀ (l : List (Option Blk)) (b : Nat), leH (l.set b x) (l.set b none)
  | [], _ => trivial
  | a :: l, 0 => ⟨.inl rfl, leH_refl l⟩
  | a :: l, b + 1 => ⟨.inr rfl, leH_none x l b⟩
theorem leT_refl : ∀ l : List AV, leT l l
  | [] => trivial
  | _ :: l => ⟨.inr rfl, leT_refl l⟩
theorem Le.sealed {s : AS} {t b e esz sl : Nat} {V : Value} {els : List AV} (ht : s.tm[t]? = some (.own b V)) (hb : s.blk b = some (.row e V esz els sl)) : Le s ⟨s.nr, s.tm.set t (.sl esz els), s.hp.set b none⟩ := by
  have hlt : b < s.hp.length := by
    by_cases h : b < s.hp.length
    · exact h
    · unfold AS.blk at hb; rw [List.getElem?_eq_none (by omega)] at hb; cases hb
  have h1 := Le.seals s [b]
  have e1 : s.seals [b] = s.setBlk b (some (.row e V esz els els.length)) := by
    simp only [AS.seals, AS.seal1, hb]
  rw [e1] at h1
  have h2 := Le.unown (s := s.setBlk b (some (.row e V esz els els.length))) (t := t) (b := b) (e := e) (V := V) (esz := esz) (els := els) ht (by simp [AS.setBlk, AS.blk, hlt])
  refine Le.trans h1 (Le.trans h2 (Le.mk rfl (leT_refl _) ?_))
  exact leH_none _ _ _
abbrev KK := List UInt8 × List UInt8
def pairA (x : KK) : AV := .st [32, 32] [keyA x.1, keyA x.2]
def agreedG : List Term → List (List UInt8) → List KK → Option (List (List UInt8)) × List Term
  | ts, acc, [] => (some acc, ts)
  | ts, acc, x :: rest => match agreeX ts x.1 x.2 with
    | none => (none, ts)
    | some y => agreedG (putT ts y) (acc ++ [nameK (putN ts y)]) rest
def hello : List UInt8 := [104, 101, 108, 108, 111]
def agreedT (ts : List Term) (ps : List KK) : Option (List UInt8) × List Term :=
  match agreedG ts [] ps with
  | (none, ts') => (none, ts')
  | (some l, ts') => (some (nameK (putN ts' ⟨2, hello, l⟩)), putT ts' ⟨2, hello, l⟩)
def optK : Option (List UInt8) → AV
  | none => .tup [keyA zk, .lit (.bool false)]
  | some k => .tup [keyA k, .lit (.bool true)]
def AgreedK (H : List (Option Blk)) (t : Tb) (o : Option (List UInt8) × List Term) (r : AV) (H' : List (Option Blk)) : Prop := r = optK o.1 ∧ ∃ V', H' = tbOf H t V' o.2
theorem AgreedK.ex (H : List (Option Blk)) (t : Tb) (o : Option (List UInt8) × List Term) : ∃ r H', AgreedK H t o r H' := ⟨_, _, rfl, .slice none 0 0, rfl⟩
def agS (N : Nat) (H : List (Option Blk)) (t : Tb) (c : Nat) (Vc : Value) (n : Nat) (l4 : Nat × Nat) (x : Nat × List (List UInt8) × List Term × Value × Value) : AS :=
  ⟨N, [freeI t.b t.l, .own c Vc, .any, .any, .ptr (N + 4) l4 0 [], .lit (.bool false), .own (N + 32) x.2.2.2.1, .any, .any, .any, .any, .own c Vc, .lit (jn n), .lit (jn x.1)] ++ List.replicate 23 .any,
    tbOf H t x.2.2.2.2 x.2.2.1 ++ ([none, none, none, none, some (.box l4 32 (keyA zk))] ++ List.replicate 27 none ++ [some (.row 29 x.2.2.2.1 32 (klA x.2.1) 0)] ++ List.replicate 4 none)⟩
end Go.Cab
namespace Go.Cab
open Classical
def fb423 : AC := (.seq (.reg [⟨some 4, none, .mov (.const (jn 0)), [], none⟩]) (.seq (.seq (.reg [⟨some 6, none, .mov (.tmp 0), [], none⟩, ⟨some 7, none, .len false (.tmp 6), [], none⟩, ⟨some 8, none, .mov (.const (jn 0)), [], none⟩]) (.block 0 (.loop (.seq (.reg [⟨some 9, none, .bin .lss (.tmp 8) (.tmp 7), [], none⟩]) (.seq (.cond (.tmp 9) .skip (.exit 0)) (.seq (.block 1 (.seq (.reg [⟨some 10, none, .mov (.tmp 8), [], none⟩, ⟨some 5, none, .mov (.tmp 10), [], none⟩]) (.seq (.reg [⟨some 11, none, .mov (.tmp 1), [], none⟩, ⟨some 12, none, .mov (.tmp 0), [], none⟩, ⟨some 13, none, .mov (.tmp 5), [], none⟩, ⟨some 14, none, .iaddrS 32 (.tmp 12) (.tmp 13), [], none⟩, ⟨some 15, none, .load true 32 (.tmp 14), [], none⟩, ⟨some 16, none, .xc .val [.tmp 11, .tmp 15] [] [], [], none⟩]) (.cond (.tmp 16) (.seq (.reg [⟨some 17, none, .mov (.tmp 5), [], none⟩, ⟨some 4, none, .mov (.tmp 17), [], none⟩]) .ret) .skip)))) (.reg [⟨some 18, none, .bin .add (.tmp 8) (.const (jn 1)), [], none⟩, ⟨some 8, none, .mov (.tmp 18), [], none⟩]))))))) (.seq (.reg [⟨some 4, none, .mov (.const (.int .i64 (-1))), [], none⟩]) .ret)))
def fc423 : FC := ⟨2, 19, [(.tmp 4)], fb423⟩
theorem fc423_eq : compF Go.Proofs.Tryd.prog 54 = some fc423 := by kernel_rfl
def pubT (k : List UInt8) : Term := ⟨3, [], [k]⟩
theorem pubT_ok {k : List UInt8} (h : k.length = 32) : TermOk (pubT k) := ⟨by simp [pubT], by simp [pubT], by simp [pubT], by simp [pubT, h]⟩
theorem TsOk.putPub {ts : List Term} (h : TsOk ts) {k : List UInt8} (hk : k.length = 32) (hl : ts.length + 1 < 90000) : TsOk (putT ts (pubT k)) :=
  TsOk.put h (pubT_ok hk) ⟨fun _ => ⟨k, rfl⟩, fun h => by simp [pubT] at h⟩ hl
theorem pub_at {H : List (Option Blk)} {t : Tb} {V0 : Value} {ts0 : List Term} (hh : TbOk H t V0 ts0) {ts : List Term} (hn : ts.length < 100000) (V : Value) (L : List (Option Blk)) {k : List UInt8} (hk : k.length = 32) :
    XCall Go.Proofs.Tryd.prog 75 [.ptr t.b t.l 0 [], keyA k] (tbOf H t V ts ++ L) fun r H' => r = keyA (nameK (putN ts (pubT k))) ∧ ∃ V', H' = tbOf H t V' (putT ts (pubT k)) ++ L := by
  refine XCall.mono (pub_call (hh.at V ts L) hn hk) ?_
  rintro r H' ⟨h1, V', h2⟩
  exact ⟨h1, V', by rw [h2, hh.at_of]; rfl⟩
structure Hello where
  id : List UInt8
  eph : List UInt8
  one : List UInt8
structure HelloOk (h : Hello) : Prop where
  id : h.id.length = 32
  eph : h.eph.length = 32
  one : h.one.length = 32
def helloA (h : Hello) : AV := .st [32, 32, 32] [keyA h.id, keyA h.eph, keyA h.one]
def idxF (one : List UInt8) : List Term → List (List UInt8) → Nat → Option Nat × List Term
  | ts, [], _ => (none, ts)
  | ts, x :: xs, i => if nameK (putN ts (pubT x)) = one then (some i, putT ts (pubT x)) else idxF one (putT ts (pubT x)) xs (i + 1)
def idxV : Option Nat → Value
  | none => .int .i64 (-1)
  | some n => jn n
end Go.Cab

namespace Go.Cab
open Classical
section
variable {P : Program} {s : AS} {K : AS → Prop} {xs : List AOp}
theorem areg_rdp {d : Option Tmp} {g : RdOp} {ys : List Operand} {fo : List Tmp} {ow : Option Tmp} {us : List AV} {v : AV} (ha : (ys.map fun x => s.ev x) = us) (hv : rdA P (fun _ => none) g us = some v) (h : AReg P xs (s.put d v) K) :
    AReg P (⟨d, none, .rdp g ys, fo, ow⟩ :: xs) s K := by
  subst ha
  unfold AReg AOp.go
  simp only [AI.go, hv]
  exact ⟨by cases ow <;> trivial, h⟩
end
theorem R_setF {Imm : Nat → Nat → Prop} {w : World} {u u' : AV} (hu : ∀ c, R Imm w u c → R Imm w u' c) : ∀ {fs : List AV} {ns : List Nat} {i : Nat} {cs : List Value}, fs[i]? = some u → R Imm w (.st ns fs) cs → R Imm w (.st ns (fs.set i u')) cs
  | [], _, _, _, hf, _ => by simp at hf
  | f :: fs, ns, i, cs, hf, h => by
    cases h with
    | st1 n ns _ _ c d hc hl hs hd =>
      cases i with
      | zero =>
        simp only [List.getElem?_cons_zero, Option.some.injEq] at hf
        subst hf
        exact .st1 n ns u' fs c d (hu c hc) hl hs hd
      | succ i => exact .st1 n ns f _ c d hc hl hs (R_setF hu (by simpa using hf) hd)
theorem Le.sealedF {s : AS} {b j n i e esz sl : Nat} {l : Nat × Nat} {ns : List Nat} {fs els : List AV} {V : Value} (hb : s.blk b = some (.box l n (.st ns fs))) (hf : fs[i]? = some (.own j V)) (hj : s.blk j = some (.row e V esz els sl)) :
    Le s ⟨s.nr, s.tm, (s.hp.set b (some (.box l n (.st ns (fs.set i (.sl esz els)))))).set j none⟩ := by
  have hbj : b ≠ j := fun he => by subst he; rw [hb] at hj; cases hj
  have hlt : ∀ k x, s.blk k = some x → k < s.hp.length := fun k x hk => by
    by_cases h : k < s.hp.length
    · exact h
    · unfold AS.blk at hk; rw [List.getElem?_eq_none (by omega)] at hk; cases hk
  have hlb := hlt b _ hb
  have hlj := hlt j _ hj
  have h1 := Le.seals s [j]
  have e1 : s.seals [j] = s.setBlk j (some (.row e V esz els els.length)) := by
    simp only [AS.seals, AS.seal1, hj]
  rw [e1] at h1
  refine Le.trans h1 ?_
  have hb2 : (s.setBlk j (some (.row e V esz els els.length))).blk b = some (.box l n (.st ns fs)) := by
    simp only [AS.blk, AS.setBlk] at hb ⊢
    rw [List.getElem?_set_ne hbj.symm]; exact hb
  have hj2 : (s.setBlk j (some (.row e V esz els els.length))).blk j = some (.row e V esz els els.length) := by
    simp [AS.blk, AS.setBlk, hlj]
  generalize hs' : s.setBlk j (some (.row e V esz els els.length)) = s' at *
  have e2 : s' = ⟨s.nr, s.tm, s.hp.set j (some (.row e V esz els els.length))⟩ := hs'.symm
  intro w0 wk regs St a w h
  obtain ⟨Imm, h2, h3, h4, hseal⟩ := h.seals
  have hu : ∀ c, R Imm w (.own j V) c → R Imm w (.sl esz els) c := fun c hc => by
    have hrel : Rel Imm w (.own j V) V := by
      cases hc with
      | own _ _ hs => exact .inr ⟨[V], .own j V hs, rfl⟩
    have := coe_sound (ro := tt) h4 hseal hrel
    have hcoe : s'.coe tt (.own j V) = .sl esz els := by simp [AS.coe, tt, hj2]
    rw [hcoe] at this
    rcases this with h | ⟨cs, h, e⟩
    · cases h
    · cases hc
      cases h with
      | slnil _ a0 => rw [e]; exact .slnil esz a0
      | sl _ _ cs b o cap ha hb hc => rw [e]; exact .sl esz els cs b o cap ha hb hc
  have hnew : ∀ (k : Nat) (x : Blk), (((s.hp.set b (some (.box l n (.st ns (fs.set i (.sl esz els)))))).set j none)[k]?).join = some x → ∃ y, (s'.hp[k]?).join = some y ∧ (y.ok Imm w → x.ok Imm w) ∧ ∀ b o, x.foot b o → y.foot b o := fun k x hx => by
    obtain ⟨hkj, hx⟩ := hp_set_none hx
    rcases hp_set hx with ⟨rfl, rfl⟩ | ⟨hkb, hx⟩
    · refine ⟨_, hb2, fun ⟨⟨cs, hc, hr⟩, hn⟩ => ⟨⟨cs, R_setF hu hf hc, hr⟩, hn⟩, fun b o hf => hf⟩
    · refine ⟨x, ?_, id, fun _ _ h => h⟩
      rw [e2]
      show ((s.hp.set j _)[k]?).join = some x
      rw [List.getElem?_set_ne (Ne.symm hkj)]
      exact hx
  have hnr : s'.nr = s.nr := by rw [e2]
  have htm : s'.tm = s.tm := by rw [e2]
  refine ⟨h.defers, by rw [h.tsize, htm], h.tab, h.frame, Imm, h2, by rw [← htm]; exact h3, ⟨fun k x hx => ?_, fun k k' x y hne hx hy b' o hf hf' => ?_⟩⟩
  · obtain ⟨y, hy, g1, g2⟩ := hnew k x hx
    obtain ⟨g3, g4⟩ := h4.ok k y hy
    exact ⟨g1 g3, fun b o hf => g4 b o (g2 b o hf)⟩
  · obtain ⟨u, hu', _, g2⟩ := hnew k x hx
    obtain ⟨v, hv', _, g3⟩ := hnew k' y hy
    exact h4.apart k k' u v hne hu' hv' b' o (g2 b' o hf) (g3 b' o hf')
theorem setE_cat (N : Nat) (G : List (Option Blk)) (hG : G.length = N) : ∀ (E : List (Tmp × Blk)) (L : List (Option Blk)), setE N (G ++ L) E = G ++ setE 0 L E
  | [], _ => rfl
  | (t, x) :: E, L => by
    show setE N ((G ++ L).set (N + t) (some x)) E = G ++ setE 0 (L.set (0 + t) (some x)) E
    rw [cat2 N G L t _ hG, setE_cat N G hG E, Nat.zero_add]
theorem xf_of {P : Program} {f : FuncId} {vs : List AV} {G L : List (Option Blk)} {N : Nat} (hG : G.length = N) {KG : AV → List (Option Blk) → Prop} (h : ∀ L, XCall P f vs (G ++ L) fun r H' => ∃ G', KG r G' ∧ H' = G' ++ L) (hl : ∀ r G', KG r G' → G'.length = N) (E : List (Tmp × Blk)) :
    XCall P f vs (setE N (G ++ L) E) fun r H' => ∃ hp', (∃ G', KG r G' ∧ hp' = G' ++ L) ∧ H' = setE N hp' E := by
  rw [setE_cat N G hG]
  refine XCall.mono (h _) ?_
  rintro r H' ⟨G', hk, rfl⟩
  exact ⟨G' ++ L, ⟨G', hk, rfl⟩, (setE_cat N G' (hl r G' hk) E L).symm⟩
structure Store where
  id : List UInt8
  pre : List UInt8
  ones : List (List UInt8)
def storeA (s : Store) : AV := .st [32, 32, 1] [keyA s.id, keyA s.pre, .sl 32 (klA s.ones)]
structure StoreOk (s : Store) : Prop where
  id : s.id.length = 32
  pre : s.pre.length = 32
  ones : ∀ k ∈ s.ones, k.length = 32
  len : s.ones.length < 900
def drawT (s : List UInt8) : Term := ⟨1, s, []⟩
def txId : List UInt8 := [105, 100]
def txPre : List UInt8 := [112, 114, 101]
def txOne : List UInt8 := [111, 110, 101, 32]
theorem drawT_ok {s : List UInt8} (h : s.length < 1000) : TermOk (drawT s) := ⟨by simp [drawT], by simp [drawT]; omega, by simp [drawT], by simp [drawT]⟩
theorem TsOk.draw {ts : List Term} (h : TsOk ts) {s : List UInt8} (hs : s.length < 1000) (hl : ts.length + 1 < 90000) : TsOk (putT ts (drawT s)) :=
  TsOk.put h (drawT_ok hs) ⟨fun h => by simp [drawT] at h, fun h => by simp [drawT] at h⟩ hl
theorem draw_at {H : List (Option Blk)} {t : Tb} {V0 : Value} {ts0 : List Term} (hh : TbOk H t V0 ts0) {ts : List Term} (hn : ts.length < 100000) (V : Value) (L : List (Option Blk)) {s : List UInt8} (hs : s.length < 1000) :
    XCall Go.Proofs.Tryd.prog 8 [.ptr t.b t.l 0 [], .lit (tx s)] (tbOf H t V ts ++ L) fun r H' => r = keyA (nameK (putN ts (drawT s))) ∧ ∃ V', H' = tbOf H t V' (putT ts (drawT s)) ++ L := by
  refine XCall.mono (draw_call (hh.at V ts L) hn s (by omega)) ?_
  rintro r H' ⟨h1, V', h2⟩
  exact ⟨h1, V', by rw [h2, hh.at_of]; rfl⟩
def onesG : Nat → List Term → List (List UInt8) → Nat → List (List UInt8) × List Term
  | 0, ts, acc, _ => (acc, ts)
  | m + 1, ts, acc, i => onesG m (putT ts (drawT (txOne ++ digs i))) (acc ++ [nameK (putN ts (drawT (txOne ++ digs i)))]) (i + 1)
def storeT (ts : List Term) (n : Nat) : Store × List Term :=
  let ts1 := putT ts (drawT txId)
  let ts2 := putT ts1 (drawT txPre)
  let o := onesG n ts2 [] 0
  (⟨nameK (putN ts (drawT txId)), nameK (putN ts1 (drawT txPre)), o.1⟩, o.2)
theorem nilv_draw (b : Nat) (l : Nat × Nat) : rdA Go.Proofs.Tryd.prog (fun _ => none) .nilv [.fnv (.method "Draw") [freeI b l] []] = some (.fnv (.method "Draw") [freeI b l] []) := by kernel_rfl
theorem mkfn_draw (b : Nat) (l : Nat × Nat) (nm : String) : rdA Go.Proofs.Tryd.prog (fun _ => none) (.mkfn (.method nm) 1) [freeI b l] = some (.fnv (.method nm) [freeI b l] []) := rfl
theorem cvt_64jx (n : Nat) (h : n < 1000000) : cvtA .u64 (.lit (jn n)) = some (.lit (un n)) := by
  simp only [cvtA, jn, wrap_u64]; rw [Nat.mod_eq_of_lt (by omega)]; rfl
end Go.Cab
namespace Go.Cab
open Classical
def mpub (b : Nat) (l : Nat × Nat) : AV := .fnv (.method "Pub") [freeI b l] []
theorem tgt_mpub (b : Nat) (l : Nat × Nat) (x : AV) : tgtA Go.Proofs.Tryd.prog .val [mpub b l, x] = some (75, [.ptr b l 0 [], x]) := by kernel_rfl
theorem nilv_free (b : Nat) (l : Nat × Nat) : rdA Go.Proofs.Tryd.prog (fun _ => none) .nilv [freeI b l] = some (freeI b l) := rfl
theorem mkfn_pub (b : Nat) (l : Nat × Nat) : rdA Go.Proofs.Tryd.prog (fun _ => none) (.mkfn (.method "Pub") 1) [freeI b l] = some (mpub b l) := rfl
def pubsG : List (List UInt8) → List Term → List (List UInt8) → List (List UInt8) × List Term
  | [], ts, acc => (acc, ts)
  | x :: xs, ts, acc => pubsG xs (putT ts (pubT x)) (acc ++ [nameK (putN ts (pubT x))])
def showT (ts : List Term) (s : Store) : Store × List Term :=
  let ts1 := putT ts (pubT s.id)
  let ts2 := putT ts1 (pubT s.pre)
  let o := pubsG s.ones ts2 []
  (⟨nameK (putN ts (pubT s.id)), nameK (putN ts1 (pubT s.pre)), o.1⟩, o.2)
def PubG (H : List (Option Blk)) (t : Tb) (ts : List Term) (k : List UInt8) (r : AV) (G : List (Option Blk)) : Prop := r = keyA (nameK (putN ts (pubT k))) ∧ ∃ V', G = tbOf H t V' (putT ts (pubT k))
theorem pub_xf {H : List (Option Blk)} {t : Tb} {V0 : Value} {ts0 : List Term} (hh : TbOk H t V0 ts0) {ts : List Term} (hn : ts.length < 100000) (V : Value) (L : List (Option Blk)) {k : List UInt8} (hk : k.length = 32) (E : List (Tmp × Blk)) :
    XCall Go.Proofs.Tryd.prog 75 [.ptr t.b t.l 0 [], keyA k] (setE H.length (tbOf H t V ts ++ L) E) fun r H' => ∃ hp', (∃ G', PubG H t ts k r G' ∧ hp' = G' ++ L) ∧ H' = setE H.length hp' E := by
  refine xf_of (tbOf_len _ _ _ _) (fun L => ?_) (fun r G' hG => by obtain ⟨_, V', rfl⟩ := hG; exact tbOf_len _ _ _ _) E
  refine XCall.mono (pub_at hh hn V L hk) ?_
  rintro r H' ⟨h1, V', rfl⟩
  exact ⟨_, ⟨h1, V', rfl⟩, rfl⟩
theorem PubG.ex (H : List (Option Blk)) (t : Tb) (ts : List Term) (k : List UInt8) (L : List (Option Blk)) : ∃ r hp', ∃ G', PubG H t ts k r G' ∧ hp' = G' ++ L := ⟨_, _, _, ⟨rfl, .slice none 0 0, rfl⟩, rfl⟩
def zst : AV := .st [32, 32, 1] [keyA zk, keyA zk, .lit (.slice none 0 0)]
end Go.Cab
namespace Go.Cab
open Classical
theorem agreedG_ok : ∀ (ps : List KK) (ts : List Term) (acc : List (List UInt8)), TsOk ts → ts.length + ps.length + 10 < 90000 → (∀ x ∈ ps, x.1.length = 32 ∧ x.2.length = 32) → (∀ k ∈ acc, k.length = 32) →
    TsOk (agreedG ts acc ps).2 ∧ ts.length ≤ (agreedG ts acc ps).2.length ∧ (agreedG ts acc ps).2.length ≤ ts.length + ps.length ∧ ∀ l, (agreedG ts acc ps).1 = some l → l.length = acc.length + ps.length ∧ ∀ k ∈ l, k.length = 32
  | [], ts, acc, h, hl, _, ha => ⟨h, Nat.le_refl _, by simp [agreedG], fun l hl => by cases hl; exact ⟨by simp, ha⟩⟩
  | x :: ps, ts, acc, h, hl, h32, ha => by
    obtain ⟨x1, x2⟩ := h32 x (by simp)
    have hx := fun y hy => agreeX_ok h x1 x2 (x := y) hy
    rw [agreedG]
    cases hag : agreeX ts x.1 x.2 with
    | none => exact ⟨h, Nat.le_refl _, by simp, fun l hl => by cases hl⟩
    | some y =>
      obtain ⟨y1, y2⟩ := hx y hag
      simp only [List.length_cons] at hl
      have hlen := putT_len ts y
      have hp := TsOk.put h y1 y2 (by omega)
      obtain ⟨r1, r2, r3, r4⟩ := agreedG_ok ps (putT ts y) (acc ++ [nameK (putN ts y)]) hp (by omega) (fun z hz => h32 z (by simp [hz])) (fun k hk => by
        rcases List.mem_append.1 hk with hk | hk
        · exact ha k hk
        · simp at hk; subst hk; exact nameK_len _)
      refine ⟨r1, by simp only; omega, by simp only [List.length_cons]; omega, fun l hl => ?_⟩
      obtain ⟨s1, s2⟩ := r4 l hl
      exact ⟨by simp only [List.length_append, List.length_cons, List.length_nil] at s1 ⊢; omega, s2⟩
theorem agreedT_ok {ts : List Term} {ps : List KK} (h : TsOk ts) (hl : ts.length + ps.length + 10 < 90000) (h32 : ∀ x ∈ ps, x.1.length = 32 ∧ x.2.length = 32) :
    TsOk (agreedT ts ps).2 ∧ ts.length ≤ (agreedT ts ps).2.length ∧ (agreedT ts ps).2.length ≤ ts.length + ps.length + 1 ∧ ∀ k, (agreedT ts ps).1 = some k → k.length = 32 := by
  obtain ⟨r1, r2, r3, r4⟩ := agreedG_ok ps ts [] h hl h32 (by simp)
  unfold agreedT
  generalize agreedG ts [] ps = o at *
  obtain ⟨o1, o2⟩ := o
  simp only at r1 r2 r3 r4
  cases o1 with
  | none => exact ⟨r1, r2, by simp only; omega, fun k hk => by cases hk⟩
  | some l =>
    obtain ⟨s1, s2⟩ := r4 l rfl
    have hlen := putT_len o2 ⟨2, hello, l⟩
    refine ⟨TsOk.put r1 ⟨by simp, by simp [hello], by simp only [s1, List.length_nil]; omega, s2⟩ ⟨by simp, by simp⟩ (by omega), by simp only; omega, by simp only; omega, fun k hk => by cases hk; exact nameK_len _⟩
structure Begun where
  h : Hello
  secret : List UInt8
  rest : Store
def pairs0 (id eph : List UInt8) (b : Store) : List KK := [(id, b.pre), (eph, b.id), (eph, b.pre)]
def beginP (id eph : List UInt8) (b : Store) : List UInt8 × List KK × List (List UInt8) :=
  match b.ones with
  | [] => (zk, pairs0 id eph b, [])
  | o :: r => (o, pairs0 id eph b ++ [(eph, o)], r)
def beginT (ts : List Term) (id eph : List UInt8) (b : Store) : Option Begun × List Term :=
  match agreedT ts (beginP id eph b).2.1 with
  | (none, ts1) => (none, ts1)
  | (some k, ts1) => (some ⟨⟨nameK (putN ts1 (pubT id)), nameK (putN (putT ts1 (pubT id)) (pubT eph)), (beginP id eph b).1⟩, k, ⟨b.id, b.pre, (beginP id eph b).2.2⟩⟩, putT (putT ts1 (pubT id)) (pubT eph))
def zhello : Hello := ⟨zk, zk, zk⟩
def begunA : Option Begun → AV
  | none => .tup [helloA zhello, keyA zk, zst, .lit (jn 12)]
  | some x => .tup [helloA x.h, keyA x.secret, storeA x.rest, .lit (jn 0)]
def begS (N : Nat) (H : List (Option Blk)) (t : Tb) (V : Value) (ts : List Term) (id eph : List UInt8) (b : Store) (l5 l6 l7 l8 l9 l10 l13 : Nat × Nat) (Vp : Value) (one : List UInt8) (ps : List KK) (rest : List (List UInt8)) : AS :=
  ⟨N, [freeI t.b t.l, keyA id, keyA eph, storeA b, .any, .ptr (N + 5) l5 0 [], .ptr (N + 6) l6 0 [], .ptr (N + 7) l7 0 [], .ptr (N + 8) l8 0 [], .ptr (N + 9) l9 0 [], .ptr (N + 10) l10 0 [], .lit (jn 0), .own (N + 29) Vp, .ptr (N + 13) l13 0 [], .sl 32 (klA rest)] ++ List.replicate 61 .any,
    tbOf H t V ts ++ ([none, none, none, none, none, some (.box l5 32 (keyA id)), some (.box l6 32 (keyA eph)), some (.box l7 65 (storeA b)), some (.box l8 96 (helloA zhello)), some (.box l9 32 (keyA zk)), some (.box l10 65 zst), none, none, some (.box l13 96 (.st [32, 32, 32] [keyA zk, keyA zk, keyA one]))] ++ List.replicate 15 none ++ [some (.row 0 Vp 64 (ps.map pairA) 0)] ++ List.replicate 46 none)⟩
theorem wp_seqM {P : Program} {s : AS} {Q : AX → AS → Prop} {a b : AC} {X : Type} (S : X → AS) (F : X → Prop) (k : ∀ y, F y → b.wp P (S y) Q) (h : a.wp P s fun x s' => match x with | .normal => ∃ y, F y ∧ Le s' (S y) | x => Q x s') : (AC.seq a b).wp P s Q :=
  wp_seqL (AC.mono a (fun x s g => by
    cases x with
    | normal => obtain ⟨y, hy, hle⟩ := g; exact ⟨S y, hle, k y hy⟩
    | exit i => exact g
    | ret => exact g) h)
theorem areg_bh {P : Program} {s : AS} {K : AS → Prop} {xs : List AOp} {d : Option Tmp} {fo : List Tmp} {ow : Option Tmp} (h : AReg P xs (s.put d (helloA zhello)) K) : AReg P (⟨d, none, .build (.st [32, 32, 32] [.arr 1 (List.replicate 32 (.lit (bn 0))), .arr 1 (List.replicate 32 (.lit (bn 0))), .arr 1 (List.replicate 32 (.lit (bn 0)))]) [], fo, ow⟩ :: xs) s K := by
  refine AOp.ex_go (s' := s.put d (helloA zhello)) ?_ h
  rw [helloA, zhello, zk_eq]
  rfl
theorem areg_bs {P : Program} {s : AS} {K : AS → Prop} {xs : List AOp} {d : Option Tmp} {fo : List Tmp} {ow : Option Tmp} (h : AReg P xs (s.put d zst) K) : AReg P (⟨d, none, .build (.st [32, 32, 1] [.arr 1 (List.replicate 32 (.lit (bn 0))), .arr 1 (List.replicate 32 (.lit (bn 0))), .lit (.slice none 0 0)]) [], fo, ow⟩ :: xs) s K := by
  refine AOp.ex_go (s' := s.put d zst) ?_ h
  rw [zst, zk_eq]
  rfl
theorem klA_cons (o : List UInt8) (r : List (List UInt8)) : klA (o :: r) = keyA o :: klA r := rfl
end Go.Cab
namespace Go.Cab
open Classical
structure Answered where
  s : Store
  secret : List UInt8
def pairsA (s : Store) (h : Hello) : List KK := [(s.pre, h.id), (s.id, h.eph), (s.pre, h.eph)]
def answerP (ts : List Term) (s : Store) (h : Hello) : Option (List KK × List (List UInt8)) × List Term :=
  if h.one = zk then (some (pairsA s h, s.ones), ts) else match idxF h.one ts s.ones 0 with
    | (none, ts1) => (none, ts1)
    | (some i, ts1) => (some (pairsA s h ++ [(s.ones.getD i zk, h.eph)], s.ones.take i ++ s.ones.drop (i + 1)), ts1)
def answerT (ts : List Term) (s : Store) (h : Hello) : Sum Nat Answered × List Term :=
  match answerP ts s h with
  | (none, ts1) => (.inl 22, ts1)
  | (some x, ts1) => match agreedT ts1 x.1 with
    | (none, ts2) => (.inl 12, ts2)
    | (some k, ts2) => (.inr ⟨⟨s.id, s.pre, x.2⟩, k⟩, ts2)
def answeredA : Sum Nat Answered → AV
  | .inl e => .tup [zst, keyA zk, .lit (jn e)]
  | .inr x => .tup [storeA x.s, keyA x.secret, .lit (jn 0)]
def ansS (N : Nat) (H : List (Option Blk)) (t : Tb) (s : Store) (h : Hello) (l3 l4 l5 l6 l7 : Nat × Nat) (V : Value) (ts : List Term) (Vp : Value) (ps : List KK) (ones : List (List UInt8)) : AS :=
  ⟨N, [freeI t.b t.l, storeA s, helloA h, .ptr (N + 3) l3 0 [], .ptr (N + 4) l4 0 [], .ptr (N + 5) l5 0 [], .ptr (N + 6) l6 0 [], .ptr (N + 7) l7 0 [], .lit (jn 0), .own (N + 29) Vp, .sl 32 (klA ones)] ++ List.replicate 65 .any,
    tbOf H t V ts ++ ([none, none, none, some (.box l3 1 (freeI t.b t.l)), some (.box l4 65 (storeA s)), some (.box l5 96 (helloA h)), some (.box l6 65 zst), some (.box l7 32 (keyA zk))] ++ List.replicate 21 none ++ [some (.row 0 Vp 64 (ps.map pairA) 0)] ++ List.replicate 46 none)⟩
theorem idxF_ok {one : List UInt8} : ∀ {ks : List (List UInt8)} {ts : List Term} {i : Nat}, TsOk ts → (∀ k ∈ ks, k.length = 32) → ts.length + ks.length + 10 < 90000 →
    TsOk (idxF one ts ks i).2 ∧ ts.length ≤ (idxF one ts ks i).2.length ∧ (idxF one ts ks i).2.length ≤ ts.length + ks.length ∧ ∀ n, (idxF one ts ks i).1 = some n → i ≤ n ∧ n < i + ks.length
  | [], ts, i, h, _, hl => ⟨h, by simp [idxF], by simp [idxF], fun n hn => by simp [idxF] at hn⟩
  | k :: ks, ts, i, h, h32, hl => by
    have hk := h32 k (by simp)
    simp only [List.length_cons] at hl ⊢
    have hlen := putT_len ts (pubT k)
    have hp := h.putPub hk (by omega)
    rw [idxF]
    split
    · exact ⟨hp, by simp only; omega, by simp only; omega, fun n hn => by cases hn; omega⟩
    · obtain ⟨r1, r2, r3, r4⟩ := idxF_ok (one := one) (ks := ks) (i := i + 1) hp (fun x hx => h32 x (by simp [hx])) (by omega)
      exact ⟨r1, by omega, by omega, fun n hn => by have := r4 n hn; omega⟩
end Go.Cab
namespace Go.Cab
open Classical
theorem Le.genR {s s' : AS} (hl : s'.tm.length = s.tm.length) (ht : ∀ (t : Nat) (v' : AV), s'.tm[t]? = some v' → v' = .any ∨ ∃ v, s.tm[t]? = some v ∧ RelLe v v') (m : Nat → Nat)
    (hinj : ∀ k k' x y, (s'.hp[k]?).join = some x → (s'.hp[k']?).join = some y → m k = m k' → k = k')
    (hh : ∀ k x', (s'.hp[k]?).join = some x' → ∃ x, (s.hp[m k]?).join = some x ∧ BlkLe x x') : Le s s' := fun w0 wk regs St a w h => by
  obtain ⟨Imm, h1, h2, h3⟩ := h.ex
  refine ⟨h.defers, by rw [hl]; exact h.tsize, h.tab, h.frame, Imm, h1, fun t v hv => ?_, HpLe.gen m hinj hh w0 regs Imm w h3⟩
  rcases ht t v hv with rfl | ⟨u, hu, hle⟩
  · exact .inl rfl
  · exact hle _ _ _ (h2 t u hu)
def leA : List AV → List AV → Prop
  | [], [] => True
  | v :: vs, u :: us => (u = .any ∨ RelLe v u) ∧ leA vs us
  | _, _ => False
def leB : List (Option Blk) → List (Option Blk) → Prop
  | [], [] => True
  | v :: vs, u :: us => (match u with | none => True | some y => match v with | some x => BlkLe x y | none => False) ∧ leB vs us
  | _, _ => False
theorem leA_get : ∀ {x y : List AV}, leA x y → y.length = x.length ∧ ∀ (t : Nat) (u : AV), y[t]? = some u → u = .any ∨ ∃ v, x[t]? = some v ∧ RelLe v u
  | [], [], _ => ⟨rfl, by simp⟩
  | v :: vs, u :: us, h => by
    obtain ⟨h1, h2⟩ := leA_get h.2
    refine ⟨by simp [h1], fun t w hw => ?_⟩
    cases t with
    | zero => simp only [List.getElem?_cons_zero, Option.some.injEq] at hw ⊢; subst hw; exact h.1.imp id fun e => ⟨v, rfl, e⟩
    | succ t => simpa using h2 t w (by simpa using hw)
  | [], _ :: _, h => h.elim
  | _ :: _, [], h => h.elim
theorem leB_get : ∀ {x y : List (Option Blk)}, leB x y → y.length = x.length ∧ ∀ (t : Nat) (u : Blk), (y[t]?).join = some u → ∃ v, (x[t]?).join = some v ∧ BlkLe v u
  | [], [], _ => ⟨rfl, by simp⟩
  | v :: vs, u :: us, h => by
    obtain ⟨h1, h2⟩ := leB_get h.2
    refine ⟨by simp [h1], fun t w hw => ?_⟩
    cases t with
    | zero =>
      simp only [List.getElem?_cons_zero, Option.join_some] at hw ⊢
      subst hw
      have := h.1
      cases v with
      | none => exact this.elim
      | some x => exact ⟨x, rfl, this⟩
    | succ t => simpa using h2 t w (by simpa using hw)
  | [], _ :: _, h => h.elim
  | _ :: _, [], h => h.elim
theorem BlkLe.cell {l : Nat × Nat} {n : Nat} {v v' : AV} (h : AVle v v') : BlkLe (.box l n v) (.box l n v') ↔ True := ⟨fun _ => trivial, fun _ => BlkLe.box h⟩
theorem BlkLe.refl' (x : Blk) : BlkLe x x ↔ True := ⟨fun _ => trivial, fun _ => BlkLe.refl x⟩
theorem RelLe.refl' (x : AV) : RelLe x x ↔ True := ⟨fun _ => trivial, fun _ => RelLe.refl x⟩
theorem RelLe.ptr' (b b' : Nat) (l : Nat × Nat) (off : Nat) (p : List Nat) : RelLe (.ptr b l off p) (.ptr b' l off p) ↔ True := ⟨fun _ => trivial, fun _ => RelLe.ptr _ _ _ _ _⟩
theorem AVle.freeS (b b' : Nat) (l : Nat × Nat) : AVle (freeS b l) (freeS b' l) := AVle.st1 (AVle.ptr _ _ _ _ _) AVle.st0
theorem BlkLe.freeS' (l0 : Nat × Nat) (b b' : Nat) (l : Nat × Nat) : BlkLe (.box l0 1 (freeS b l)) (.box l0 1 (freeS b' l)) ↔ True := ⟨fun _ => trivial, fun _ => BlkLe.box (AVle.freeS _ _ _)⟩
theorem Le.front {N : Nat} {tm tm' : List AV} {Lo Lo' : List (Option Blk)} {l : Nat × Nat} {r : Nat} (hN : Lo.length = N) (ht : leA tm tm') (hb : leB Lo Lo') : Le ⟨0, tm, Lo ++ newL N l r⟩ ⟨3, tm', newL 0 l r ++ Lo'⟩ := by
  obtain ⟨a1, a2⟩ := leA_get ht
  obtain ⟨b1, b2⟩ := leB_get hb
  have hlt : ∀ (k : Nat) (x : Blk), ((newL 0 l r ++ Lo')[k]?).join = some x → k < N + 3 := fun k x hx => by
    by_cases h : k < N + 3
    · exact h
    · rw [List.getElem?_eq_none (by simp [newL]; omega)] at hx; cases hx
  refine Le.genR a1 a2 (fun k => if k < 3 then N + k else k - 3) (fun k k' x y hx hy e => ?_) (fun k x hx => ?_)
  · have h1 := hlt k x hx
    have h2 := hlt k' y hy
    try simp only at e
    split at e <;> split at e <;> omega
  · have h1 := hlt k x hx
    simp only at hx ⊢
    by_cases h : k < 3
    · rw [if_pos h, cat1 N Lo _ k hN]
      rw [List.getElem?_append_left (by simp [newL]; omega)] at hx
      match k, hx with
      | 0, hx =>
        simp only [newL, List.getElem?_cons_zero, Option.join_some, Option.some.injEq] at hx
        subst hx
        exact ⟨_, rfl, BlkLe.box (AVle.st1 (AVle.own _ _ _) (AVle.st1 (AVle.own _ _ _) AVle.st0))⟩
      | 1, hx =>
        simp only [newL, List.getElem?_cons_succ, List.getElem?_cons_zero, Option.join_some, Option.some.injEq] at hx
        subst hx
        exact ⟨_, rfl, BlkLe.refl _⟩
      | 2, hx =>
        simp only [newL, List.getElem?_cons_succ, List.getElem?_cons_zero, Option.join_some, Option.some.injEq] at hx
        subst hx
        exact ⟨_, rfl, BlkLe.refl _⟩
      | k + 3, _ => omega
    · rw [if_neg h]
      obtain ⟨i, rfl⟩ : ∃ i, k = 3 + i := ⟨k - 3, by omega⟩
      rw [cat1 3 (newL 0 l r) _ i rfl] at hx
      obtain ⟨v, hv, hle⟩ := b2 i x hx
      have hi : i < Lo.length := by
        by_cases h : i < Lo.length
        · exact h
        · rw [List.getElem?_eq_none (by omega)] at hv; cases hv
      exact ⟨v, by rw [show 3 + i - 3 = i by omega, List.getElem?_append_left hi]; exact hv, hle⟩
def KC (P : Program) (f : FuncId) (vs : List AV) (H : List (Option Blk)) (t : Tb) (ts : List Term) (r : AV) (ts' : List Term) : Prop :=
  ∀ V L, XCall P f vs (tbOf H t V ts ++ L) fun r' H' => r' = r ∧ ∃ V', H' = tbOf H t V' ts' ++ L
theorem KC.of {P : Program} {f : FuncId} {vs : List AV} {H : List (Option Blk)} {t : Tb} {V0 : Value} {ts0 ts ts' : List Term} {r : AV} (hh : TbOk H t V0 ts0)
    (h : ∀ H V, TbOk H t V ts → XCall P f vs H fun r' H' => r' = r ∧ ∃ V', H' = tbOf H t V' ts') : KC P f vs H t ts r ts' := fun V L => by
  refine XCall.mono (h _ V (hh.at V ts L)) ?_
  rintro r' H' ⟨h1, V', h2⟩
  exact ⟨h1, V', by rw [h2, hh.at_of]⟩
theorem KC.xf {P : Program} {f : FuncId} {vs : List AV} {H : List (Option Blk)} {t : Tb} {ts ts' : List Term} {r : AV} (h : KC P f vs H t ts r ts') (V : Value) (L : List (Option Blk)) (E : List (Tmp × Blk)) :
    XCall P f vs (setE H.length (tbOf H t V ts ++ L) E) fun r' H' => ∃ hp', (r' = r ∧ ∃ V', hp' = tbOf H t V' ts' ++ L) ∧ H' = setE H.length hp' E := by
  refine XCall.mono (xf_of (tbOf_len H t V ts) (KG := fun r' G => r' = r ∧ ∃ V', G = tbOf H t V' ts') (fun L => XCall.mono (h V L) ?_) (fun r' G' hG => ?_) E) ?_
  · rintro r' H' ⟨h1, V', h2⟩
    exact ⟨_, ⟨h1, V', rfl⟩, h2⟩
  · obtain ⟨_, V', rfl⟩ := hG
    exact tbOf_len _ _ _ _
  · rintro r' H' ⟨hp', ⟨G', ⟨h1, V', rfl⟩, rfl⟩, h3⟩
    exact ⟨_, ⟨h1, V', rfl⟩, h3⟩
theorem areg_k {P : Program} {N : Nat} {tm : List AV} {L H : List (Option Blk)} {t : Tb} {V : Value} {ts ts' : List Term} {r : AV} {K : AS → Prop} {xs : List AOp} {d : Option Tmp} {g : XT} {ys : List Operand} {keep fresh : List Tmp} {fo : List Tmp} {ow : Option Tmp} {vs : List AV} {f : FuncId}
    (us : List AV) (hN : H.length = N) (ha : (ys.map fun x => AS.ev ⟨N, tm, tbOf H t V ts ++ L⟩ x) = us) (ht : tgtA P g us = some (f, vs)) (hc : KC P f vs H t ts r ts') (hlt : ∀ t' ∈ fresh, t' < L.length)
    (hk : ∀ t' ∈ keep, ∀ b, (AS.ev ⟨N, tm, tbOf H t V ts ++ L⟩ (.tmp t')).place = some b → N ≤ b)
    (h : ∀ V', AReg P xs { AS.put ⟨N, tm, tbOf H t V ts ++ L⟩ d r with hp := tbOf H t V' ts' ++ L } K) : AReg P (⟨d, none, .xc g ys keep fresh, fo, ow⟩ :: xs) ⟨N, tm, tbOf H t V ts ++ L⟩ K := by
  subst hN
  refine areg_xf (us := us) (K' := fun r' H' => r' = r ∧ ∃ V', H' = tbOf H t V' ts' ++ L) ha ht (fun E _ => hc.xf V L E) ⟨_, _, rfl, .slice none 0 0, rfl⟩ (fun t' ht' => by simp [tbOf_len]; exact hlt t' ht') (fun r' hp' hK => ?_) ?_
  · obtain ⟨_, V', rfl⟩ := hK
    refine ⟨fun t' ht' b hb => ?_, by simp [tbOf_len]⟩
    have hge := hk t' ht' b hb
    simp only
    rw [List.getElem?_append_right (by rw [tbOf_len]; exact hge), List.getElem?_append_right (by rw [tbOf_len]; exact hge), tbOf_len, tbOf_len]
  · rintro r' hp' ⟨rfl, V', rfl⟩
    exact h V'
theorem wp_kit {P : Program} {b : AC} {Q : AX → AS → Prop} {n : Nat} {tm : List AV} {Lo : List (Option Blk)} {l : Nat × Nat} {r : Nat} (tm' : Nat → Tb → List AV) (Lo' : Nat → Tb → List (Option Blk)) (hN : Lo.length = n) (ht : leA tm (tm' 3 (tbNew 0 l r))) (hb : leB Lo (Lo' 3 (tbNew 0 l r)))
    (k : ∀ N H t V, TbOk H t V [] → H.length = N → b.wp P ⟨N, tm' N t, tbOf H t V [] ++ Lo' N t⟩ Q) : ∃ s0, Le ⟨0, tm, Lo ++ newL n l r⟩ s0 ∧ b.wp P s0 Q := by
  have hok : TbOk (newL 0 l r) (tbNew 0 l r) (.slice none 0 0) [] := new_ok [] l r
  refine ⟨_, Le.front hN ht hb, ?_⟩
  have := k 3 (newL 0 l r) (tbNew 0 l r) (.slice none 0 0) hok rfl
  rw [hok.self] at this
  exact this
theorem TsOk.nil : TsOk [] := ⟨by simp, by simp, by simp, by simp⟩
section
variable {H : List (Option Blk)} {t : Tb} {V0 : Value} {ts0 ts : List Term}
theorem draw_k (hh : TbOk H t V0 ts0) (hn : ts.length < 100000) {s : List UInt8} (hs : s.length < 100000) : KC Go.Proofs.Tryd.prog 8 [.ptr t.b t.l 0 [], .lit (tx s)] H t ts (keyA (nameK (putN ts (drawT s)))) (putT ts (drawT s)) :=
  KC.of hh fun H V h => draw_call h hn s hs
end
end Go.Cab
namespace Go.Cab
open Classical
theorem cmp_neg : ∀ (a b : List UInt8), Go.Lib.compareBytes b a = - Go.Lib.compareBytes a b
  | [], [] => rfl
  | [], _ :: _ => rfl
  | _ :: _, [] => rfl
  | a :: xa, b :: bs => by
    unfold Go.Lib.compareBytes
    have h : ¬ (a < b ∧ b < a) := fun ⟨h, k⟩ => by have := UInt8.lt_iff_toNat_lt.1 h; have := UInt8.lt_iff_toNat_lt.1 k; omega
    by_cases h1 : a < b
    · have h2 : ¬ b < a := fun k => h ⟨h1, k⟩
      simp [h1, h2]
    · by_cases h2 : b < a
      · simp [h1, h2]
      · simp only [h1, h2, if_false]; exact cmp_neg xa bs
theorem cmp_zero : ∀ (a b : List UInt8), Go.Lib.compareBytes a b = 0 → a = b
  | [], [], _ => rfl
  | [], _ :: _, h => by simp [Go.Lib.compareBytes] at h
  | _ :: _, [], h => by simp [Go.Lib.compareBytes] at h
  | a :: xa, b :: bs, h => by
    unfold Go.Lib.compareBytes at h
    split at h
    · omega
    · split at h
      · omega
      · rename_i h1 h2
        have : a = b := by
          apply UInt8.toNat_inj.1
          have h1' : ¬ a.toNat < b.toNat := fun k => h1 (UInt8.lt_iff_toNat_lt.2 k)
          have h2' : ¬ b.toNat < a.toNat := fun k => h2 (UInt8.lt_iff_toNat_lt.2 k)
          omega
        rw [this, cmp_zero xa bs h]
def agr (a k : List UInt8) : Term := if 0 < Go.Lib.compareBytes a k then ⟨4, [], [k, a]⟩ else ⟨4, [], [a, k]⟩
theorem agr_comm (a k : List UInt8) : agr a k = agr k a := by
  unfold agr
  have h := cmp_neg a k
  by_cases h1 : 0 < Go.Lib.compareBytes a k
  · rw [if_pos h1, if_neg (by omega)]
  · rw [if_neg h1]
    by_cases h2 : 0 < Go.Lib.compareBytes k a
    · rw [if_pos h2]
    · rw [if_neg h2, cmp_zero a k (by omega)]
theorem agr_kind (a k : List UInt8) : (agr a k).kind = 4 := by unfold agr; split <;> rfl
theorem agr_wf (a k : List UInt8) : WfT (agr a k) := by unfold agr; split <;> exact ⟨by simp, by simp⟩
theorem agr_ok {a k : List UInt8} (ha : a.length = 32) (hk : k.length = 32) : TermOk (agr a k) := by
  unfold agr
  split <;> exact ⟨by simp, by simp, by simp, by simp [ha, hk]⟩
theorem ofNat_mod (n : Nat) : (UInt8.ofNat n).toNat = n % 256 := by simp
theorem be32_name {n : Nat} (h : n < 4294967296) : be32 (nameK n) = n := by
  have e : be32 (nameK n) = (UInt8.ofNat (n / 16777216)).toNat * 16777216 + (UInt8.ofNat (n / 65536)).toNat * 65536 + (UInt8.ofNat (n / 256)).toNat * 256 + (UInt8.ofNat n).toNat := rfl
  rw [e, ofNat_mod, ofNat_mod, ofNat_mod, ofNat_mod]
  omega
theorem name_inj {n m : Nat} (hn : n < 4294967296) (hm : m < 4294967296) (h : nameK n = nameK m) : n = m := by
  rw [← be32_name hn, ← be32_name hm, h]
theorem name_nz (n : Nat) : nameK n ≠ zk := fun h => by
  have := congrArg (fun l => l.getD 0 0) h
  simp [nameK, zk] at this
theorem four_inj {n m : Nat} (hn : n < 4294967296) (hm : m < 4294967296) (h : four n = four m) : n = m := by
  simp only [four, List.cons.injEq, and_true] at h
  obtain ⟨h1, h2, h3, h4⟩ := h
  have k1 := congrArg UInt8.toNat h1; have k2 := congrArg UInt8.toNat h2; have k3 := congrArg UInt8.toNat h3; have k4 := congrArg UInt8.toNat h4
  rw [ofNat_mod, ofNat_mod] at k1 k2 k3 k4
  omega
theorem flat_inj : ∀ {a b : List (List UInt8)}, (∀ k ∈ a, k.length = 32) → (∀ k ∈ b, k.length = 32) → a.flatten = b.flatten → a = b
  | [], [], _, _, _ => rfl
  | [], y :: b, _, hb, h => by
    have := congrArg List.length h
    simp only [List.flatten_nil, List.flatten_cons, List.length_append, hb y (by simp), List.length_nil] at this
    omega
  | x :: a, [], ha, _, h => by
    have := congrArg List.length h
    simp only [List.flatten_nil, List.flatten_cons, List.length_append, ha x (by simp), List.length_nil] at this
    omega
  | x :: a, y :: b, ha, hb, h => by
    simp only [List.flatten_cons] at h
    obtain ⟨h1, h2⟩ := List.append_inj h (by rw [ha x (by simp), hb y (by simp)])
    rw [h1, flat_inj (fun k hk => ha k (by simp [hk])) (fun k hk => hb k (by simp [hk])) h2]
theorem shape_inj {x y : Term} (hx : TermOk x) (hy : TermOk y) (h : shapeT x = shapeT y) : x = y := by
  obtain ⟨kx, tx', ksx⟩ := x
  obtain ⟨ky, ty, ksy⟩ := y
  obtain ⟨x1, x2, x3, x4⟩ := hx
  obtain ⟨y1, y2, y3, y4⟩ := hy
  simp only [shapeT] at h x1 x2 x3 x4 y1 y2 y3 y4
  simp only [List.append_assoc] at h
  obtain ⟨h1, h⟩ := List.append_inj h (by simp)
  obtain ⟨h2, h⟩ := List.append_inj h (by simp [four])
  have e2 := four_inj (by omega) (by omega) h2
  obtain ⟨h3, h4⟩ := List.append_inj h e2
  have e1 : kx = ky := by
    simp only [List.cons.injEq, and_true] at h1
    have := congrArg UInt8.toNat h1
    rw [ofNat_mod, ofNat_mod] at this
    omega
  rw [e1, h3, flat_inj x4 y4 h4]
def In (ts : List Term) (x : Term) (n : Nat) : Prop := findT (shapeT x) ts 0 = some n
theorem findT_app {s : List UInt8} : ∀ {ts : List Term} {i n : Nat} (us : List Term), findT s ts i = some n → findT s (ts ++ us) i = some n
  | [], _, _, _, h => by cases h
  | x :: xs, i, n, us, h => by
    unfold findT at h
    rw [List.cons_append, findT]
    split at h
    · rename_i e; rw [if_pos e]; exact h
    · rename_i e; rw [if_neg e]; exact findT_app us h
theorem findT_get {s : List UInt8} : ∀ {ts : List Term} {i n : Nat}, findT s ts i = some n → ∃ x, ts[n - i]? = some x ∧ s = shapeT x
  | [], _, _, h => by cases h
  | x :: xs, i, n, h => by
    have hl := findT_lt h
    unfold findT at h
    split at h
    · rename_i e; cases h; exact ⟨x, by simp, e⟩
    · have hl2 := findT_lt h
      obtain ⟨y, h1, h2⟩ := findT_get h
      refine ⟨y, ?_, h2⟩
      rw [show n - i = (n - (i + 1)) + 1 by omega]
      simpa using h1
theorem findT_snoc {x : Term} : ∀ {ts : List Term} {i : Nat}, findT (shapeT x) ts i = none → findT (shapeT x) (ts ++ [x]) i = some (i + ts.length)
  | [], i, _ => by simp [findT]
  | y :: ys, i, h => by
    unfold findT at h
    split at h
    · cases h
    · rename_i e
      rw [List.cons_append, findT, if_neg e, findT_snoc h]
      simp only [List.length_cons]; congr 1; omega
theorem In.put (ts : List Term) (x : Term) : In (putT ts x) x (putN ts x) := by
  unfold In putT putN
  cases h : findT (shapeT x) ts 0 with
  | some n => exact h
  | none => rw [findT_snoc h]; simp
theorem put_pre (ts : List Term) (x : Term) : ts <+: putT ts x := by
  unfold putT
  cases findT (shapeT x) ts 0 with
  | some n => exact List.prefix_refl _
  | none => exact List.prefix_append _ _
theorem In.mono {ts us : List Term} {x : Term} {n : Nat} (h : In ts x n) (k : ts <+: us) : In us x n := by
  obtain ⟨vs, rfl⟩ := k
  exact findT_app vs h
theorem In.putT {ts : List Term} {x : Term} {n : Nat} (h : In ts x n) : putT ts x = ts := by
  unfold In at h
  unfold Cab.putT
  rw [h]
theorem In.putN {ts : List Term} {x : Term} {n : Nat} (h : In ts x n) : putN ts x = n := by
  unfold In at h
  unfold Cab.putN
  rw [h]
theorem In.lt {ts : List Term} {x : Term} {n : Nat} (h : In ts x n) : n < ts.length := by have := findT_lt h; omega
theorem In.get {ts : List Term} {x : Term} {n : Nat} (h : In ts x n) (hts : TsOk ts) (hx : TermOk x) : ts[n]? = some x := by
  obtain ⟨y, h1, h2⟩ := findT_get h
  rw [Nat.sub_zero] at h1
  rw [h1, shape_inj (hts.ok y (List.mem_of_getElem? h1)) hx h2.symm]
theorem In.inj {ts : List Term} {x y : Term} {n : Nat} (h : In ts x n) (k : In ts y n) (hts : TsOk ts) (hx : TermOk x) (hy : TermOk y) : x = y := by
  have := h.get hts hx
  rw [k.get hts hy] at this
  exact (Option.some.inj this).symm
def Nm (ts : List Term) (x : Term) (k : List UInt8) : Prop := ∃ n, k = nameK n ∧ In ts x n
theorem Nm.put (ts : List Term) (x : Term) : Nm (putT ts x) x (nameK (putN ts x)) := ⟨_, rfl, In.put ts x⟩
theorem Nm.mono {ts us : List Term} {x : Term} {k : List UInt8} (h : Nm ts x k) (p : ts <+: us) : Nm us x k := by
  obtain ⟨n, h1, h2⟩ := h
  exact ⟨n, h1, h2.mono p⟩
theorem Nm.putT {ts : List Term} {x : Term} {k : List UInt8} (h : Nm ts x k) : putT ts x = ts := by obtain ⟨n, _, h2⟩ := h; exact h2.putT
theorem Nm.putN {ts : List Term} {x : Term} {k : List UInt8} (h : Nm ts x k) : nameK (putN ts x) = k := by obtain ⟨n, h1, h2⟩ := h; rw [h2.putN, h1]
theorem Nm.len {ts : List Term} {x : Term} {k : List UInt8} (h : Nm ts x k) : k.length = 32 := by obtain ⟨n, rfl, _⟩ := h; exact nameK_len n
theorem Nm.nz {ts : List Term} {x : Term} {k : List UInt8} (h : Nm ts x k) : k ≠ zk := by obtain ⟨n, rfl, _⟩ := h; exact name_nz n
theorem Nm.inj {ts : List Term} {x y : Term} {k : List UInt8} (h : Nm ts x k) (g : Nm ts y k) (hts : TsOk ts) (hx : TermOk x) (hy : TermOk y) : x = y := by
  obtain ⟨n, h1, h2⟩ := h
  obtain ⟨m, g1, g2⟩ := g
  have hl := hts.len
  have a1 := h2.lt
  have a2 := g2.lt
  have : n = m := name_inj (by omega) (by omega) (by rw [← h1, g1])
  subst this
  exact h2.inj g2 hts hx hy
theorem Nm.fun {ts : List Term} {x : Term} {k k' : List UInt8} (h : Nm ts x k) (g : Nm ts x k') : k = k' := by rw [← h.putN, g.putN]
theorem agreeX_pub {ts : List Term} (hts : TsOk ts) {a k p : List UInt8} (hk : k.length = 32) (h : Nm ts (pubT k) p) : agreeX ts a p = some (agr a k) := by
  have hnz := h.nz
  obtain ⟨n, rfl, hn⟩ := h
  have hl := hts.len
  have hlt := hn.lt
  unfold agreeX
  rw [if_neg hnz, be32_name (by omega), if_neg (by simp; omega), hn.get hts (pubT_ok hk)]
  simp only [pubT, if_true, List.getD_cons_zero]
  rw [agr]
  split <;> rfl
def goG : List Term → List (List UInt8) → List KK → List (List UInt8) × List Term
  | ts, acc, [] => (acc, ts)
  | ts, acc, q :: qs => goG (putT ts (agr q.1 q.2)) (acc ++ [nameK (putN ts (agr q.1 q.2))]) qs
def PubsOf (ts : List Term) : List KK → List KK → Prop
  | [], [] => True
  | p :: ps, q :: qs => p.1 = q.1 ∧ q.1.length = 32 ∧ q.2.length = 32 ∧ Nm ts (pubT q.2) p.2 ∧ PubsOf ts ps qs
  | _, _ => False
theorem PubsOf.mono {ts us : List Term} (k : ts <+: us) : ∀ {ps qs : List KK}, PubsOf ts ps qs → PubsOf us ps qs
  | [], [], _ => trivial
  | _ :: _, _ :: _, ⟨h1, h2, h3, h4, h5⟩ => ⟨h1, h2, h3, h4.mono k, h5.mono k⟩
  | [], _ :: _, h => h.elim
  | _ :: _, [], h => h.elim
theorem agreedG_go : ∀ (ps qs : List KK) (ts : List Term) (acc : List (List UInt8)), TsOk ts → ts.length + ps.length + 10 < 90000 → PubsOf ts ps qs → agreedG ts acc ps = (some (goG ts acc qs).1, (goG ts acc qs).2)
  | [], [], _, _, _, _, _ => rfl
  | p :: ps, q :: qs, ts, acc, hts, hl, ⟨h1, h2, h3, h4, h5⟩ => by
    simp only [List.length_cons] at hl
    have hlen := putT_len ts (agr q.1 q.2)
    rw [agreedG, agreeX_pub hts h3 h4, h1]
    exact agreedG_go ps qs _ _ (hts.put (agr_ok h2 h3) (agr_wf _ _) (by omega)) (by omega) (h5.mono (put_pre _ _))
  | [], _ :: _, _, _, _, _, h => h.elim
  | _ :: _, [], _, _, _, _, h => h.elim
theorem goG_pre : ∀ (qs : List KK) (ts : List Term) (acc : List (List UInt8)), ts <+: (goG ts acc qs).2
  | [], _, _ => List.prefix_refl _
  | q :: qs, ts, acc => (put_pre ts (agr q.1 q.2)).trans (goG_pre qs _ _)
theorem goG_again : ∀ (qs qs' : List KK) (ts us : List Term) (acc : List (List UInt8)), (qs.map fun q => agr q.1 q.2) = (qs'.map fun q => agr q.1 q.2) → (goG ts acc qs).2 <+: us → goG us acc qs' = ((goG ts acc qs).1, us)
  | [], [], _, _, _, _, _ => rfl
  | q :: qs, q' :: qs', ts, us, acc, h, k => by
    simp only [List.map_cons, List.cons.injEq] at h
    have hn : Nm us (agr q.1 q.2) (nameK (putN ts (agr q.1 q.2))) := (Nm.put ts _).mono ((goG_pre qs _ _).trans k)
    rw [goG, goG, ← h.1, hn.putT, hn.putN]
    exact goG_again qs qs' _ us _ h.2 k
  | [], _ :: _, _, _, _, h, _ => by simp at h
  | _ :: _, [], _, _, _, h, _ => by simp at h
theorem agreedT_go {ts : List Term} (hts : TsOk ts) {ps qs : List KK} (hl : ts.length + ps.length + 10 < 90000) (h : PubsOf ts ps qs) :
    agreedT ts ps = (some (nameK (putN (goG ts [] qs).2 ⟨2, hello, (goG ts [] qs).1⟩)), putT (goG ts [] qs).2 ⟨2, hello, (goG ts [] qs).1⟩) := by
  unfold agreedT
  rw [agreedG_go ps qs ts [] hts hl h]
theorem agreedT_pre {ts : List Term} {ps qs : List KK} (hts : TsOk ts) (hl : ts.length + ps.length + 10 < 90000) (h : PubsOf ts ps qs) : ts <+: (agreedT ts ps).2 := by
  rw [agreedT_go hts hl h]
  exact (goG_pre _ _ _).trans (put_pre _ _)
theorem agreedT_again {ts us : List Term} (hts : TsOk ts) (hus : TsOk us) {ps qs ps' qs' : List KK} (hl : ts.length + ps.length + 10 < 90000) (hl' : us.length + ps'.length + 10 < 90000) (h : PubsOf ts ps qs) (h' : PubsOf us ps' qs')
    (he : (qs.map fun q => agr q.1 q.2) = (qs'.map fun q => agr q.1 q.2)) (hpre : (agreedT ts ps).2 <+: us) : agreedT us ps' = ((agreedT ts ps).1, us) := by
  rw [agreedT_go hts hl h] at hpre ⊢
  have hg := goG_again qs qs' ts us [] he ((put_pre _ _).trans hpre)
  have hn := (Nm.put (goG ts [] qs).2 ⟨2, hello, (goG ts [] qs).1⟩).mono hpre
  rw [agreedT_go hus hl' h', hg]
  simp only
  rw [hn.putT, hn.putN]
end Go.Cab
namespace Go.Cab
open Classical
def ShL (ts : List Term) : List (List UInt8) → List (List UInt8) → Prop
  | [], [] => True
  | x :: xs, y :: ys => x.length = 32 ∧ Nm ts (pubT x) y ∧ ShL ts xs ys
  | _, _ => False
theorem ShL.mono {ts us : List Term} (k : ts <+: us) : ∀ {xs ys : List (List UInt8)}, ShL ts xs ys → ShL us xs ys
  | [], [], _ => trivial
  | _ :: _, _ :: _, ⟨h1, h2, h3⟩ => ⟨h1, h2.mono k, h3.mono k⟩
  | [], _ :: _, h => h.elim
  | _ :: _, [], h => h.elim
theorem ShL.len {ts : List Term} : ∀ {xs ys : List (List UInt8)}, ShL ts xs ys → xs.length = ys.length ∧ (∀ x ∈ xs, x.length = 32) ∧ ∀ y ∈ ys, y.length = 32
  | [], [], _ => ⟨rfl, by simp, by simp⟩
  | x :: xs, y :: ys, ⟨h1, h2, h3⟩ => by
    obtain ⟨r1, r2, r3⟩ := h3.len
    have := h2.len
    refine ⟨by simp [r1], ?_, ?_⟩
    · intro z hz; rcases List.mem_cons.1 hz with rfl | hz
      · exact h1
      · exact r2 z hz
    · intro z hz; rcases List.mem_cons.1 hz with rfl | hz
      · exact this
      · exact r3 z hz
  | [], _ :: _, h => h.elim
  | _ :: _, [], h => h.elim
theorem ShL.app {ts : List Term} : ∀ {xs ys : List (List UInt8)} {x y : List UInt8}, ShL ts xs ys → x.length = 32 → Nm ts (pubT x) y → ShL ts (xs ++ [x]) (ys ++ [y])
  | [], [], _, _, _, h1, h2 => ⟨h1, h2, trivial⟩
  | _ :: _, _ :: _, _, _, ⟨h1, h2, h3⟩, k1, k2 => ⟨h1, h2, h3.app k1 k2⟩
  | [], _ :: _, _, _, h, _, _ => h.elim
  | _ :: _, [], _, _, h, _, _ => h.elim
structure Sh (ts : List Term) (s b : Store) : Prop where
  id : Nm ts (pubT s.id) b.id
  pre : Nm ts (pubT s.pre) b.pre
  ones : ShL ts s.ones b.ones
  ok : StoreOk s
  nd : s.ones.Nodup
theorem Sh.mono {ts us : List Term} {s b : Store} (h : Sh ts s b) (k : ts <+: us) : Sh us s b := ⟨h.id.mono k, h.pre.mono k, h.ones.mono k, h.ok, h.nd⟩
theorem Sh.okb {ts : List Term} {s b : Store} (h : Sh ts s b) : StoreOk b := by
  obtain ⟨r1, r2, r3⟩ := h.ones.len
  exact ⟨h.id.len, h.pre.len, r3, by rw [← r1]; exact h.ok.len⟩
theorem dig_lt {i : Nat} (hi : i < 10) : digs i = [dig8 i] := by rw [digs, dif_pos hi]
theorem dig_inj {i j : Nat} (hi : i < 10) (hj : j < 10) (h : digs i = digs j) : i = j := by
  rw [dig_lt hi, dig_lt hj] at h
  simp only [dig8, List.cons.injEq, and_true] at h
  have := congrArg UInt8.toNat h
  rw [ofNat_mod, ofNat_mod] at this
  omega
theorem dig1 {i : Nat} (hi : i < 10) : (digs i).length = 1 := by rw [digs, dif_pos hi]; rfl
def oneT (i : Nat) : Term := drawT (txOne ++ digs i)
theorem oneT_ok {i : Nat} (hi : i < 10) : TermOk (oneT i) := drawT_ok (by rw [List.length_append, dig1 hi]; simp [txOne])
theorem oneT_inj {i j : Nat} (hi : i < 10) (hj : j < 10) (h : oneT i = oneT j) : i = j := by
  simp only [oneT, drawT, Term.mk.injEq, and_true, true_and] at h
  exact dig_inj hi hj (List.append_cancel_left h)
theorem onesG_ok : ∀ (m : Nat) (ts : List Term) (acc : List (List UInt8)) (i : Nat), TsOk ts → i + m ≤ 10 → ts.length + m + 10 < 90000 → acc.Nodup → (∀ k ∈ acc, ∃ j, j < i ∧ Nm ts (oneT j) k) → acc.length = i →
    (onesG m ts acc i).1.Nodup ∧ (∀ k ∈ (onesG m ts acc i).1, k.length = 32) ∧ (onesG m ts acc i).1.length = i + m ∧ TsOk (onesG m ts acc i).2 ∧ (onesG m ts acc i).2.length ≤ ts.length + m ∧ (∀ k ∈ (onesG m ts acc i).1, ∃ j, j < i + m ∧ Nm (onesG m ts acc i).2 (oneT j) k)
  | 0, ts, acc, i, hts, _, _, hnd, hk, hl => ⟨hnd, fun k h => by obtain ⟨_, _, h⟩ := hk k h; exact h.len, hl, hts, Nat.le_refl _, hk⟩
  | m + 1, ts, acc, i, hts, hi, hlen, hnd, hk, hl => by
    have hok := oneT_ok (i := i) (by omega)
    have hlp := putT_len ts (oneT i)
    have hp : TsOk (putT ts (oneT i)) := hts.put hok ⟨fun h => by simp [oneT, drawT] at h, fun h => by simp [oneT, drawT] at h⟩ (by omega)
    have hnew := Nm.put ts (oneT i)
    have := onesG_ok m (putT ts (oneT i)) (acc ++ [nameK (putN ts (oneT i))]) (i + 1) hp (by omega) (by omega) ?_ ?_ (by simp [hl])
    · rw [onesG]
      obtain ⟨r1, r2, r3, r4, r5, r6⟩ := this
      exact ⟨r1, r2, by rw [show i + (m + 1) = i + 1 + m by omega]; exact r3, r4, Nat.le_trans r5 (by omega), fun k hk => by obtain ⟨j, hj, h⟩ := r6 k hk; exact ⟨j, by omega, h⟩⟩
    · rw [List.nodup_append]
      refine ⟨hnd, by simp, fun a ha b hb he => ?_⟩
      simp only [List.mem_singleton] at hb
      subst hb he
      obtain ⟨j, hj, h⟩ := hk _ ha
      have := (h.mono (put_pre ts (oneT i))).inj hnew hp (oneT_ok (by omega)) hok
      have := oneT_inj (by omega) (by omega) this
      omega
    · intro k hk'
      rcases List.mem_append.1 hk' with h | h
      · obtain ⟨j, hj, h⟩ := hk k h
        exact ⟨j, by omega, h.mono (put_pre _ _)⟩
      · simp only [List.mem_singleton] at h
        subst h
        exact ⟨i, by omega, hnew⟩
theorem storeT_ok {ts : List Term} (hts : TsOk ts) {n : Nat} (hn : n ≤ 10) (hlen : ts.length + 100 < 90000) :
    StoreOk (storeT ts n).1 ∧ (storeT ts n).1.ones.Nodup ∧ (storeT ts n).1.ones.length = n ∧ TsOk (storeT ts n).2 ∧ (storeT ts n).2.length ≤ ts.length + n + 2 ∧ (∀ k ∈ (storeT ts n).1.ones, ∃ j, j < n ∧ Nm (storeT ts n).2 (oneT j) k) := by
  have l1 := putT_len ts (drawT txId)
  have l2 := putT_len (putT ts (drawT txId)) (drawT txPre)
  have h1 := hts.draw (s := txId) (by decide) (by omega)
  have h2 := h1.draw (s := txPre) (by decide) (by omega)
  obtain ⟨r1, r2, r3, r4, r5, r6⟩ := onesG_ok n _ [] 0 h2 (by omega) (by omega) (by simp) (by simp) rfl
  refine ⟨⟨nameK_len _, nameK_len _, r2, by show (onesG _ _ _ _).1.length < 900; omega⟩, r1, by show (onesG _ _ _ _).1.length = n; omega, r4, by show (onesG _ _ _ _).2.length ≤ _; omega, fun k hk => by obtain ⟨j, hj, h⟩ := r6 k hk; exact ⟨j, by omega, h⟩⟩
theorem pubsG_ok : ∀ (xs done : List (List UInt8)) (ts : List Term) (acc : List (List UInt8)), TsOk ts → ts.length + xs.length + 10 < 90000 → (∀ x ∈ xs, x.length = 32) → ShL ts done acc →
    ShL (pubsG xs ts acc).2 (done ++ xs) (pubsG xs ts acc).1 ∧ TsOk (pubsG xs ts acc).2 ∧ (pubsG xs ts acc).2.length ≤ ts.length + xs.length ∧ ts <+: (pubsG xs ts acc).2
  | [], done, ts, acc, hts, _, _, h => ⟨by rw [List.append_nil]; exact h, hts, Nat.le_refl _, List.prefix_refl _⟩
  | x :: xs, done, ts, acc, hts, hl, h32, h => by
    simp only [List.length_cons] at hl ⊢
    have hlp := putT_len ts (pubT x)
    have hx := h32 x (by simp)
    obtain ⟨r1, r2, r3, r4⟩ := pubsG_ok xs (done ++ [x]) (putT ts (pubT x)) (acc ++ [nameK (putN ts (pubT x))]) (hts.putPub hx (by omega)) (by omega) (fun y hy => h32 y (by simp [hy])) ((h.mono (put_pre _ _)).app hx (Nm.put _ _))
    rw [List.append_assoc, List.singleton_append] at r1
    exact ⟨r1, r2, by rw [pubsG]; omega, (put_pre _ _).trans r4⟩
theorem showT_ok {ts : List Term} (hts : TsOk ts) {s : Store} (hs : StoreOk s) (hnd : s.ones.Nodup) (hlen : ts.length + 1000 < 90000) :
    Sh (showT ts s).2 s (showT ts s).1 ∧ TsOk (showT ts s).2 ∧ (showT ts s).2.length ≤ ts.length + s.ones.length + 2 ∧ ts <+: (showT ts s).2 := by
  have l0 := hs.len
  have l1 := putT_len ts (pubT s.id)
  have l2 := putT_len (putT ts (pubT s.id)) (pubT s.pre)
  have h1 := hts.putPub hs.id (by omega)
  have h2 := h1.putPub hs.pre (by omega)
  obtain ⟨r1, r2, r3, r4⟩ := pubsG_ok s.ones [] _ [] h2 (by omega) hs.ones trivial
  refine ⟨⟨((Nm.put ts (pubT s.id)).mono (put_pre _ _)).mono r4, (Nm.put _ (pubT s.pre)).mono r4, r1, hs, hnd⟩, r2, by show (pubsG _ _ _).2.length ≤ _; omega, (put_pre _ _).trans ((put_pre _ _).trans r4)⟩
theorem idxF_none {one : List UInt8} : ∀ {xs ys : List (List UInt8)} {ts : List Term} {i : Nat}, ShL ts xs ys → (∀ y ∈ ys, y ≠ one) → idxF one ts xs i = (none, ts)
  | [], [], _, _, _, _ => rfl
  | x :: xs, y :: ys, ts, i, ⟨_, h2, h3⟩, h => by
    rw [idxF, h2.putN, if_neg (h y (by simp)), h2.putT]
    exact idxF_none h3 (fun z hz => h z (by simp [hz]))
  | [], _ :: _, _, _, h, _ => h.elim
  | _ :: _, [], _, _, h, _ => h.elim
theorem ShL.ne {ts : List Term} (hts : TsOk ts) {x y : List UInt8} (hx : x.length = 32) (hxy : Nm ts (pubT x) y) : ∀ {xs ys : List (List UInt8)}, ShL ts xs ys → x ∉ xs → ∀ z ∈ ys, z ≠ y
  | [], [], _, _ => by simp
  | u :: us, v :: vs, ⟨h1, h2, h3⟩, hn => by
    intro z hz he
    rcases List.mem_cons.1 hz with rfl | hz
    · subst he
      have := h2.inj hxy hts (pubT_ok h1) (pubT_ok hx)
      simp only [pubT, Term.mk.injEq, List.cons.injEq, and_true, true_and] at this
      exact hn (by simp [this])
    · exact h3.ne hts hx hxy (fun h => hn (by simp [h])) z hz he
  | [], _ :: _, h, _ => h.elim
  | _ :: _, [], h, _ => h.elim
def NmL (ts : List Term) : List Term → List (List UInt8) → Prop
  | [], [] => True
  | x :: xs, k :: ks => Nm ts x k ∧ NmL ts xs ks
  | _, _ => False
theorem NmL.mono {ts us : List Term} (p : ts <+: us) : ∀ {xs : List Term} {ks : List (List UInt8)}, NmL ts xs ks → NmL us xs ks
  | [], [], _ => trivial
  | _ :: _, _ :: _, ⟨h, k⟩ => ⟨h.mono p, k.mono p⟩
  | [], _ :: _, h => h.elim
  | _ :: _, [], h => h.elim
theorem NmL.app {ts : List Term} {x : Term} {k : List UInt8} : ∀ {xs : List Term} {ks : List (List UInt8)}, NmL ts xs ks → Nm ts x k → NmL ts (xs ++ [x]) (ks ++ [k])
  | [], [], _, h => ⟨h, trivial⟩
  | _ :: _, _ :: _, ⟨h, g⟩, k => ⟨h, g.app k⟩
  | [], _ :: _, h, _ => h.elim
  | _ :: _, [], h, _ => h.elim
theorem mem_put {ts : List Term} {x y : Term} (h : y ∈ putT ts x) : y ∈ ts ∨ y = x := by
  unfold putT at h
  cases hf : findT (shapeT x) ts 0 with
  | some n => rw [hf] at h; exact .inl h
  | none => rw [hf] at h; simpa using h
theorem goG_nm : ∀ (qs : List KK) (ts : List Term) (acc : List (List UInt8)) (xs : List Term), NmL ts xs acc → NmL (goG ts acc qs).2 (xs ++ qs.map fun q => agr q.1 q.2) (goG ts acc qs).1
  | [], ts, acc, xs, h => by simpa [goG] using h
  | q :: qs, ts, acc, xs, h => by
    have := goG_nm qs (putT ts (agr q.1 q.2)) (acc ++ [nameK (putN ts (agr q.1 q.2))]) (xs ++ [agr q.1 q.2]) ((h.mono (put_pre _ _)).app (Nm.put _ _))
    rw [List.append_assoc] at this
    exact this
theorem goG_mem : ∀ (qs : List KK) (ts : List Term) (acc : List (List UInt8)) (y : Term), y ∈ (goG ts acc qs).2 → y ∈ ts ∨ ∃ q ∈ qs, y = agr q.1 q.2
  | [], ts, acc, y, h => .inl h
  | q :: qs, ts, acc, y, h => by
    rcases goG_mem qs _ _ y h with h | ⟨q', hq, e⟩
    · rcases mem_put h with h | h
      · exact .inl h
      · exact .inr ⟨q, by simp, h⟩
    · exact .inr ⟨q', by simp [hq], e⟩
def qsOf (id eph : List UInt8) (s : Store) : List KK := [(id, s.pre), (eph, s.id), (eph, s.pre)] ++ (s.ones.take 1).map fun o => (eph, o)
structure Meets (ts : List Term) (id eph : List UInt8) (s b : Store) (x : Begun) (ts' : List Term) : Prop where
  beg : beginT ts id eph b = (some x, ts')
  pre : ts <+: ts'
  ok : TsOk ts'
  len : ts'.length ≤ ts.length + 20
  one : x.h.one = b.ones.headD zk
  rest : x.rest = ⟨b.id, b.pre, b.ones.drop 1⟩
  ans : answerT ts' s x.h = (.inr ⟨⟨s.id, s.pre, s.ones.drop 1⟩, x.secret⟩, ts')
  again : answerT ts' ⟨s.id, s.pre, s.ones.drop 1⟩ x.h = (if s.ones = [] then .inr ⟨⟨s.id, s.pre, []⟩, x.secret⟩ else .inl 22, ts')
  sh : Sh ts' ⟨s.id, s.pre, s.ones.drop 1⟩ x.rest
  hok : HelloOk x.h
  sec : x.secret.length = 32
  secnz : x.secret ≠ zk
  hid : Nm ts' (pubT id) x.h.id
  heph : Nm ts' (pubT eph) x.h.eph
  all : ∃ hs, NmL ts' ((qsOf id eph s).map fun q => agr q.1 q.2) hs ∧ Nm ts' ⟨2, hello, hs⟩ x.secret ∧ ∀ y ∈ ts', y ∈ ts ∨ (∃ q ∈ qsOf id eph s, y = agr q.1 q.2) ∨ y = ⟨2, hello, hs⟩ ∨ y = pubT id ∨ y = pubT eph
theorem meets {ts : List Term} (hts : TsOk ts) {id eph : List UInt8} {s b : Store} (hid : id.length = 32) (heph : eph.length = 32) (h : Sh ts s b) (hlen : ts.length + 1000 < 90000) : ∃ x ts', Meets ts id eph s b x ts' := by
  obtain ⟨h1, h2, h3, h4, h5⟩ := h
  obtain ⟨sid, spre, sones⟩ := s
  obtain ⟨bid, bpre, bones⟩ := b
  obtain ⟨s1, s2, s3, s4⟩ := h4
  simp only at h1 h2 h3 h5 s1 s2 s3 s4
  have hP : ∃ one ps rest, beginP id eph ⟨bid, bpre, bones⟩ = (one, ps, rest) := ⟨_, _, _, rfl⟩
  obtain ⟨one, ps, rest, hP⟩ := hP
  obtain ⟨qs, hqs, hpl, hone, hrest⟩ : ∃ qs, PubsOf ts ps qs ∧ ps.length ≤ 4 ∧ one = bones.headD zk ∧ rest = bones.drop 1 ∧ (qs = [(id, spre), (eph, sid), (eph, spre)] ∧ sones = [] ∨ ∃ o os, sones = o :: os ∧ qs = [(id, spre), (eph, sid), (eph, spre), (eph, o)]) := by
    match sones, bones, h3 with
    | [], [], _ =>
      simp only [beginP, Prod.mk.injEq] at hP
      obtain ⟨rfl, rfl, rfl⟩ := hP
      exact ⟨[(id, spre), (eph, sid), (eph, spre)], ⟨rfl, hid, s2, h2, rfl, heph, s1, h1, rfl, heph, s2, h2, trivial⟩, by simp [pairs0], rfl, rfl, .inl ⟨rfl, rfl⟩⟩
    | o :: os, y :: ys, ⟨k1, k2, k3⟩ =>
      simp only [beginP, Prod.mk.injEq] at hP
      obtain ⟨rfl, rfl, rfl⟩ := hP
      exact ⟨[(id, spre), (eph, sid), (eph, spre), (eph, o)], ⟨rfl, hid, s2, h2, rfl, heph, s1, h1, rfl, heph, s2, h2, rfl, heph, k1, k2, trivial⟩, by simp [pairs0], rfl, rfl, .inr ⟨o, os, rfl, rfl⟩⟩
    | [], _ :: _, h => exact h.elim
    | _ :: _, [], h => exact h.elim
  obtain ⟨hrest, hq⟩ := hrest
  have hgo := agreedT_go hts (by omega) hqs
  have hps32 : ∀ x ∈ ps, x.1.length = 32 ∧ x.2.length = 32 := by
    have : ∀ {ps qs : List KK}, PubsOf ts ps qs → ∀ x ∈ ps, x.1.length = 32 ∧ x.2.length = 32 := by
      intro ps
      induction ps with
      | nil => intro qs _ x hx; cases hx
      | cons p ps ih =>
        intro qs hq x hx
        cases qs with
        | nil => exact hq.elim
        | cons q qs =>
          obtain ⟨a1, a2, a3, a4, a5⟩ := hq
          rcases List.mem_cons.1 hx with rfl | hx
          · exact ⟨by rw [a1]; exact a2, a4.len⟩
          · exact ih a5 x hx
    exact this hqs
  obtain ⟨g1, g2, g3, g4⟩ := agreedT_ok hts (ps := ps) (by omega) hps32
  have hpre1 := agreedT_pre hts (by omega) hqs
  obtain ⟨k, hk⟩ : ∃ k, k = nameK (putN (goG ts [] qs).2 ⟨2, hello, (goG ts [] qs).1⟩) := ⟨_, rfl⟩
  obtain ⟨ts1, ht1⟩ : ∃ ts1, ts1 = (agreedT ts ps).2 := ⟨_, rfl⟩
  have hag : agreedT ts ps = (some k, ts1) := by rw [ht1, hgo, ← hk]
  have hsame := fun (us : List Term) (hus : TsOk us) (ps' qs' : List KK) (hl' : us.length + ps'.length + 10 < 90000) (h' : PubsOf us ps' qs') (he : (qs.map fun q => agr q.1 q.2) = (qs'.map fun q => agr q.1 q.2)) (hp : ts1 <+: us) => agreedT_again hts hus (by omega) hl' hqs h' he (by rw [← ht1]; exact hp)
  rw [hag] at hsame
  rw [← ht1] at g1 g2 g3 hpre1
  have l1 := putT_len ts1 (pubT id)
  have l2 := putT_len (putT ts1 (pubT id)) (pubT eph)
  have t1 := g1.putPub hid (by omega)
  have t2 := t1.putPub heph (by omega)
  have p1 := put_pre ts1 (pubT id)
  have p2 := put_pre (putT ts1 (pubT id)) (pubT eph)
  have n1 := (Nm.put ts1 (pubT id)).mono p2
  have n2 := Nm.put (putT ts1 (pubT id)) (pubT eph)
  obtain ⟨ts3, ht3⟩ : ∃ ts3, ts3 = putT (putT ts1 (pubT id)) (pubT eph) := ⟨_, rfl⟩
  have hbeg : beginT ts id eph ⟨bid, bpre, bones⟩ = (some ⟨⟨nameK (putN ts1 (pubT id)), nameK (putN (putT ts1 (pubT id)) (pubT eph)), one⟩, k, ⟨bid, bpre, rest⟩⟩, ts3) := by
    unfold beginT; rw [hP]; simp only; rw [hag, ht3]
  generalize nameK (putN ts1 (pubT id)) = e1 at *
  generalize nameK (putN (putT ts1 (pubT id)) (pubT eph)) = e2 at *
  rw [← ht3] at n1 n2 t2 p2 l2
  have hp13 := p1.trans p2
  have hp3 := hpre1.trans hp13
  have hklen : k.length = 32 := by rw [hk]; exact nameK_len _
  have hknz : k ≠ zk := by rw [hk]; exact name_nz _
  have honelen : one.length = 32 := by
    rw [hone]
    match sones, bones, h3 with
    | [], [], _ => rfl
    | o :: os, y :: ys, ⟨_, k2, _⟩ => exact k2.len
    | [], _ :: _, h => exact h.elim
    | _ :: _, [], h => exact h.elim
  have hhok : HelloOk ⟨e1, e2, one⟩ := ⟨n1.len, n2.len, honelen⟩
  refine ⟨_, ts3, ⟨hbeg, hp3, t2, by omega, hone, by rw [hrest], ?_, ?_, ?_, hhok, hklen, hknz, n1, n2, ?_⟩⟩
  · -- the answer
    rcases hq with ⟨hq, rfl⟩ | ⟨o, os, rfl, hq⟩
    · match bones, h3 with
      | [], _ =>
        have hz : one = zk := hone
        have hP' : answerP ts3 ⟨sid, spre, []⟩ ⟨e1, e2, one⟩ = (some (pairsA ⟨sid, spre, []⟩ ⟨e1, e2, one⟩, []), ts3) := by simp [answerP, hz]
        have := hsame ts3 t2 (pairsA ⟨sid, spre, []⟩ ⟨e1, e2, one⟩) [(spre, id), (sid, eph), (spre, eph)] (by simp [pairsA]; omega) ⟨rfl, s2, hid, n1, rfl, s1, heph, n2, rfl, s2, heph, n2, trivial⟩ (by rw [hq]; simp [agr_comm id spre, agr_comm eph sid, agr_comm eph spre]) hp13
        unfold answerT
        rw [hP']
        simp only
        rw [this]
        rfl
      | _ :: _, h => exact h.elim
    · match bones, h3 with
      | y :: ys, ⟨k1, k2, k3⟩ =>
        have hone' : one = y := hone
        have hnz : one ≠ zk := by rw [hone']; exact k2.nz
        have k2' := k2.mono hp3
        have hidx : idxF one ts3 (o :: os) 0 = (some 0, ts3) := by rw [idxF, k2'.putN, if_pos hone'.symm, k2'.putT]
        have hP' : answerP ts3 ⟨sid, spre, o :: os⟩ ⟨e1, e2, one⟩ = (some (pairsA ⟨sid, spre, o :: os⟩ ⟨e1, e2, one⟩ ++ [(o, e2)], os), ts3) := by simp only [answerP, hnz, if_false, hidx]; rfl
        have := hsame ts3 t2 (pairsA ⟨sid, spre, o :: os⟩ ⟨e1, e2, one⟩ ++ [(o, e2)]) [(spre, id), (sid, eph), (spre, eph), (o, eph)] (by simp [pairsA]; omega) ⟨rfl, s2, hid, n1, rfl, s1, heph, n2, rfl, s2, heph, n2, rfl, k1, heph, n2, trivial⟩ (by rw [hq]; simp [agr_comm id spre, agr_comm eph sid, agr_comm eph spre, agr_comm eph o]) hp13
        unfold answerT
        rw [hP']
        simp only
        rw [this]
        rfl
      | [], h => exact h.elim
  · -- answered once more
    rcases hq with ⟨hq, rfl⟩ | ⟨o, os, rfl, hq⟩
    · match bones, h3 with
      | [], _ =>
        have hz : one = zk := hone
        have hP' : answerP ts3 ⟨sid, spre, []⟩ ⟨e1, e2, one⟩ = (some (pairsA ⟨sid, spre, []⟩ ⟨e1, e2, one⟩, []), ts3) := by simp [answerP, hz]
        have := hsame ts3 t2 (pairsA ⟨sid, spre, []⟩ ⟨e1, e2, one⟩) [(spre, id), (sid, eph), (spre, eph)] (by simp [pairsA]; omega) ⟨rfl, s2, hid, n1, rfl, s1, heph, n2, rfl, s2, heph, n2, trivial⟩ (by rw [hq]; simp [agr_comm id spre, agr_comm eph sid, agr_comm eph spre]) hp13
        simp only [List.drop_nil, if_true]
        unfold answerT
        rw [hP']
        simp only
        rw [this]
      | _ :: _, h => exact h.elim
    · match bones, h3 with
      | y :: ys, ⟨k1, k2, k3⟩ =>
        have hone' : one = y := hone
        have hnz : one ≠ zk := by rw [hone']; exact k2.nz
        have hno : o ∉ os := (List.nodup_cons.1 h5).1
        have hidx : idxF one ts3 os 0 = (none, ts3) := idxF_none (k3.mono hp3) (fun z hz => by rw [hone']; exact (k3.mono hp3).ne t2 k1 (k2.mono hp3) hno z hz)
        simp only [List.drop_succ_cons, List.drop_zero, reduceCtorEq, if_false]
        unfold answerT
        simp only [answerP, hnz, if_false, hidx]
      | [], h => exact h.elim
  · -- what is left
    refine ⟨h1.mono hp3, h2.mono hp3, ?_, ⟨s1, s2, fun z hz => s3 z (List.mem_of_mem_drop hz), by simp only [List.length_drop]; omega⟩, (List.drop_sublist 1 sones).nodup h5⟩
    rw [hrest]
    match sones, bones, h3 with
    | [], [], _ => exact trivial
    | o :: os, y :: ys, ⟨k1, k2, k3⟩ => exact k3.mono hp3
    | [], _ :: _, h => exact h.elim
    | _ :: _, [], h => exact h.elim
  · -- what stands there
    have hqq : qs = qsOf id eph ⟨sid, spre, sones⟩ := by
      rcases hq with ⟨hq, rfl⟩ | ⟨o, os, rfl, hq⟩
      · rw [hq]; rfl
      · rw [hq]; rfl
    rw [← hqq]
    have hnl := goG_nm qs ts [] [] trivial
    rw [List.nil_append] at hnl
    have hgp : (goG ts [] qs).2 <+: ts1 := by rw [ht1, hgo]; exact put_pre _ _
    have hsn : Nm ts1 ⟨2, hello, (goG ts [] qs).1⟩ k := by rw [ht1, hgo, hk]; exact Nm.put _ _
    refine ⟨(goG ts [] qs).1, (hnl.mono hgp).mono hp13, hsn.mono hp13, fun y hy => ?_⟩
    rw [ht3] at hy
    rcases mem_put hy with hy | rfl
    · rcases mem_put hy with hy | rfl
      · rw [ht1, hgo] at hy
        rcases mem_put hy with hy | rfl
        · rcases goG_mem qs ts [] y hy with hy | hy
          · exact .inl hy
          · exact .inr (.inl hy)
        · exact .inr (.inr (.inl rfl))
      · exact .inr (.inr (.inr (.inl rfl)))
    · exact .inr (.inr (.inr (.inr rfl)))
end Go.Cab