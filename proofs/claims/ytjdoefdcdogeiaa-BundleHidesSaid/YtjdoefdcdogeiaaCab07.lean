/- Part 7 of what the proof stands on: G8, G9, G10, G11, GD, G12. -/
import Derived.Test.YtjdoefdcdogeiaaCab06
import Derived.Shelf.RegionOpenPlain
import Derived.WalkKit
import Derived.Deep.LoopGhost
import Derived.Deep.RegionLaw
import Derived.Deep.MidRow
import Derived.Lib.Walk
import Derived.Sort.WalkB12
import Derived.Lib.SliceRun
import Derived.Lib.SlicesDelete
set_option linter.unusedSimpArgs false
set_option linter.unnecessarySimpa false
set_option linter.unusedVariables false
set_option linter.unusedSectionVars false
/- Free kit: Compare, Agree. -/
-- TEXTS
-- KIT
namespace Go.Cab
open Classical
def fb442 : AC := (.seq (.reg [⟨(.some 4), .none, (.mov (.const (jn 0))), [], .none⟩]) (.seq (.reg [⟨(.some 5), .none, (.mov (.tmp 0)), [], .none⟩, ⟨(.some 6), .none, (.mov (.tmp 1)), [], .none⟩, ⟨(.some 7), .none, (.rd .bcmp [(.tmp 5), (.tmp 6)]), [], .none⟩, ⟨(.some 4), .none, (.mov (.tmp 7)), [], .none⟩]) .ret))
def fc442 : FC := ⟨2, 8, [(.tmp 4)], fb442⟩
theorem fc442_eq : compF Go.Proofs.Try.prog 53 = some fc442 := by kernel_rfl
def fb439 : AC := (.seq (.reg [⟨(.some 4), .none, (.box 32 (.tmp 1)), [], .none⟩, ⟨(.some 5), .none, (.box 32 (.tmp 2)), [], .none⟩, ⟨(.some 6), .none, (.alloc 32 (.arr 1 (List.replicate 32 (.lit (bn 0))))), [], .none⟩, ⟨(.some 7), .none, (.mov (.const (.bool .false))), [], .none⟩]) (.seq (.seq (.reg [⟨(.some 10), .none, (.load .true 32 (.tmp 5)), [], .none⟩, ⟨(.some 11), .none, (.build (.arr 1 (List.replicate 32 (.lit (bn 0)))) []), [], .none⟩, ⟨(.some 12), .none, (.eqv 28 .false (.tmp 10) (.tmp 11)), [], .none⟩]) (.cond (.tmp 12) (.seq (.reg [⟨(.some 13), .none, (.build (.arr 1 (List.replicate 32 (.lit (bn 0)))) []), [], .none⟩, ⟨.none, .none, (.store 32 (.tmp 6) (.tmp 13)), [], .none⟩, ⟨(.some 7), .none, (.mov (.const (.bool .false))), [], .none⟩]) .ret) .skip)) (.seq (.reg [⟨(.some 14), .none, (.mov (.tmp 0)), [], .none⟩, ⟨(.some 15), .none, (.load .true 32 (.tmp 5)), [], .none⟩, ⟨(.some 16), .none, (.icall 26 (.tmp 14) [(.tmp 15)]), [], .none⟩, ⟨(.some 8), .none, (.mov (.tmp 16)), [], .none⟩]) (.seq (.seq (.reg [⟨(.some 17), .none, (.mov (.tmp 8)), [], .none⟩, ⟨(.some 18), .none, (.bin .lss (.tmp 17) (.const (jn 0))), [], .none⟩, ⟨(.some 19), .none, (.mov (.tmp 18)), [], .none⟩, ⟨(.some 20), (.some (19, .false)), (.mov (.tmp 0)), [], .none⟩, ⟨(.some 21), (.some (19, .false)), (.nilc (.tmp 20)), [], .none⟩, ⟨(.some 22), (.some (19, .false)), (.faddr 0 0 (.tmp 21)), [], .none⟩, ⟨(.some 23), (.some (19, .false)), (.load .false 1 (.tmp 22)), [], .none⟩, ⟨(.some 24), (.some (19, .false)), (.mov (.tmp 8)), [], .none⟩, ⟨(.some 25), (.some (19, .false)), (.iaddrS 3 (.tmp 23) (.tmp 24)), [], .none⟩, ⟨(.some 26), (.some (19, .false)), (.faddr 0 0 (.tmp 25)), [], .none⟩, ⟨(.some 27), (.some (19, .false)), (.load .false 1 (.tmp 26)), [], .none⟩, ⟨(.some 28), (.some (19, .false)), (.bin .neq (.tmp 27) (.const (jn 3))), [], .none⟩, ⟨(.some 29), .none, (.pick (.tmp 19) (.const (.bool .true)) (.tmp 28)), [], .none⟩]) (.cond (.tmp 29) (.seq (.reg [⟨(.some 30), .none, (.mov (.tmp 0)), [], .none⟩, ⟨(.some 31), .none, (.load .true 32 (.tmp 4)), [], .none⟩, ⟨(.some 32), .none, (.load .true 32 (.tmp 5)), [], .none⟩, ⟨(.some 33), .none, (.bslice 32 (.arr 1 (List.replicate 32 (.lit (bn 0)))) 2 [(0, (.tmp 31)), (1, (.tmp 32))]), [], .none⟩, ⟨(.some 34), .none, (.icall 17 (.tmp 30) [(.const (jn 5)), (.const (tx [])), (.tmp 33)]), [], .none⟩, ⟨.none, .none, (.store 32 (.tmp 6) (.tmp 34)), [], .none⟩, ⟨(.some 7), .none, (.mov (.const (.bool .true))), [], .none⟩]) .ret) .skip)) (.seq (.reg [⟨(.some 35), .none, (.mov (.tmp 0)), [], .none⟩, ⟨(.some 36), .none, (.nilc (.tmp 35)), [], .none⟩, ⟨(.some 37), .none, (.faddr 0 0 (.tmp 36)), [], .none⟩, ⟨(.some 38), .none, (.load .false 1 (.tmp 37)), [], .none⟩, ⟨(.some 39), .none, (.mov (.tmp 8)), [], .none⟩, ⟨(.some 40), .none, (.iaddrS 3 (.tmp 38) (.tmp 39)), [], .none⟩, ⟨(.some 41), .none, (.faddr 2 2 (.tmp 40)), [], .none⟩, ⟨(.some 42), .none, (.load .false 1 (.tmp 41)), [], .none⟩, ⟨(.some 43), .none, (.iaddrS 32 (.tmp 42) (.const (jn 0))), [], .none⟩, ⟨(.some 44), .none, (.load .true 32 (.tmp 43)), [], .none⟩, ⟨(.some 9), .none, (.alloc 32 (.arr 1 (List.replicate 32 (.lit (bn 0))))), [], .none⟩, ⟨.none, .none, (.store 32 (.tmp 9) (.tmp 44)), [], .none⟩]) (.seq (.seq (.reg [⟨(.some 45), .none, (.rdp (.vslice 1 32 .false .false) [(.tmp 4)]), [], .none⟩, ⟨(.some 46), .none, (.rdp (.vslice 1 32 .false .false) [(.tmp 9)]), [], .none⟩, ⟨(.some 47), .none, (.xc (.dir 53) [(.tmp 45), (.tmp 46)] [] []), [], .none⟩, ⟨(.some 48), .none, (.bin .gtr (.tmp 47) (.const (jn 0))), [], .none⟩]) (.cond (.tmp 48) (.reg [⟨(.some 49), .none, (.load .true 32 (.tmp 9)), [], .none⟩, ⟨(.some 50), .none, (.load .true 32 (.tmp 4)), [], .none⟩, ⟨.none, .none, (.store 32 (.tmp 4) (.tmp 49)), [], .none⟩, ⟨.none, .none, (.store 32 (.tmp 9) (.tmp 50)), [], .none⟩]) .skip)) (.seq (.reg [⟨(.some 51), .none, (.mov (.tmp 0)), [], .none⟩, ⟨(.some 52), .none, (.load .true 32 (.tmp 4)), [], .none⟩, ⟨(.some 53), .none, (.load .true 32 (.tmp 9)), [], .none⟩, ⟨(.some 54), .none, (.bslice 32 (.arr 1 (List.replicate 32 (.lit (bn 0)))) 2 [(0, (.tmp 52)), (1, (.tmp 53))]), [], .none⟩, ⟨(.some 55), .none, (.icall 17 (.tmp 51) [(.const (jn 4)), (.const (tx [])), (.tmp 54)]), [], .none⟩, ⟨.none, .none, (.store 32 (.tmp 6) (.tmp 55)), [], .none⟩, ⟨(.some 7), .none, (.mov (.const (.bool .true))), [], .none⟩]) .ret)))))))
def fc439 : FC := ⟨3, 56, [(.cell 6 .true 32), (.tmp 7)], fb439⟩
theorem fc439_eq : compF Go.Proofs.Try.prog 49 = some fc439 := by kernel_rfl

theorem rd_bcmp {blk : Nat → Option Blk} {x y : AV} {a b : List UInt8} (hx : listB blk 1 x = some (bl a)) (hy : listB blk 1 y = some (bl b)) (h1 : x.isLit = false) (h2 : y.isLit = false) :
    rdB blk .bcmp [x, y] = some (.lit (.int .i64 (Go.Lib.compareBytes a b))) := by
  have e : ∀ l : List UInt8, Go.Lib.bytesOf (l.map fun b => (b.toNat : Int)) = l := fun l => by simp [Go.Lib.bytesOf, Function.comp_def]
  simp only [rdB, hx, hy, Option.bind_some, bytes_bl, e, h1, h2]
  rfl
theorem areg_bcmp {P : Program} {s : AS} {K : AS → Prop} {xs : List AOp} {d : Option Tmp} {x y : Operand} {u v : AV} {a b : List UInt8} (ex : s.ev x = u) (ey : s.ev y = v) (hx : listB s.blk 1 u = some (bl a)) (hy : listB s.blk 1 v = some (bl b)) (h1 : u.isLit = false) (h2 : v.isLit = false)
    (h : AReg P xs (s.put d (.lit (.int .i64 (Go.Lib.compareBytes a b)))) K) : AReg P (⟨d, none, .rd .bcmp [x, y], [], none⟩ :: xs) s K := by
  refine AOp.ex_go (s' := s.put d (.lit (.int .i64 (Go.Lib.compareBytes a b)))) ?_ h
  have hro : (AOp.ro ⟨d, none, .rd .bcmp [x, y], [], none⟩ s.nr) = tt := by funext b; rfl
  have hb : (fun b => if tt b then s.blk b else none) = s.blk := by funext b; rfl
  simp only [AOp.ex, AOp.ex0, AOp.mineB, if_true, ex_rd, List.map_cons, List.map_nil, ex, ey, hro, hb, rd_bcmp hx hy h1 h2, Option.map_some]

theorem cmp_call {H : List (Option Blk)} {b1 b2 : Nat} {l1 l2 : Nat × Nat} {n1 n2 : Nat} {k1 k2 : List UInt8} (h1 : H[b1]? = some (some (.box l1 n1 (keyA k1)))) (h2 : H[b2]? = some (some (.box l2 n2 (keyA k2)))) (e1 : k1.length = 32) (e2 : k2.length = 32) :
    XCall Go.Proofs.Try.prog 53 [.view b1 l1 0 [] 1 0 32 32, .view b2 l2 0 [] 1 0 32 32] H fun r H' => r = .lit (.int .i64 (Go.Lib.compareBytes k1 k2)) ∧ H' = H := by
  have h442 := fc442_eq
  refine XCall.le ?_
  have lb1 := (List.getElem?_eq_some_iff.1 h1).1
  have lb2 := (List.getElem?_eq_some_iff.1 h2).1
  have g1 := listB_key (blk := fun b => ((H ++ List.replicate 8 none)[b]?).join) (b := b1) (lo := 0) (len := 32) (cap := 32) (k := k1) (l := l1) (n := n1) (by rw [List.getElem?_append_left lb1, h1]; rfl) (by omega)
  have g2 := listB_key (blk := fun b => ((H ++ List.replicate 8 none)[b]?).join) (b := b2) (lo := 0) (len := 32) (cap := 32) (k := k2) (l := l2) (n := n2) (by rw [List.getElem?_append_left lb2, h2]; rfl) (by omega)
  rw [List.drop_zero, List.take_of_length_le (by omega)] at g1 g2
  refine XCall.of h442 rfl ?_; show AC.wp _ fb442 ⟨H.length, [.view b1 l1 0 [] 1 0 32 32, .view b2 l2 0 [] 1 0 32 32] ++ List.replicate (8 - 2) .any, H ++ List.replicate 8 none⟩ (fun x s => match x with | .exit _ => False | _ => ∃ s1, Le s s1 ∧ FinX [(.tmp 4)] s1 _); unfold fb442
  refine wp_sr (by simp [push_cast]; exact rfl) (wp_sg ?_)
  refine areg_run 2 (by simp [push_cast]; exact rfl) ?_
  refine areg_bcmp rfl rfl g1 g2 rfl rfl ?_
  refine areg_end (by simp [push_cast]; exact rfl) (wp_ret' ?_)
  exact ⟨_, Le.refl _, finX1 (v := .lit (.int .i64 (Go.Lib.compareBytes k1 k2))) rfl (by simp) ⟨_, H, RelLe.refl _, by simp, HpLe.trim _ _, rfl, rfl⟩⟩

/-- Terms that a table may have. -/
structure TsOk (ts : List Term) : Prop where
  len : ts.length < 90000
  ok : ∀ x ∈ ts, TermOk x
  pub : ∀ x ∈ ts, x.kind = 3 → ∃ k, x.keys = [k]
  two : ∀ x ∈ ts, x.kind = 4 ∨ x.kind = 6 → 2 ≤ x.keys.length
/-- Terms of some kinds have keys. -/
def WfT (x : Term) : Prop := (x.kind = 3 → ∃ k, x.keys = [k]) ∧ (x.kind = 4 ∨ x.kind = 6 → 2 ≤ x.keys.length)
/-- What two agree on, as a term. -/
def agreeX (ts : List Term) (a p : List UInt8) : Option Term :=
  if p = zk then none else if ts.length ≤ be32 p ∨ nameK (be32 p) ≠ p then some ⟨5, [], [a, p]⟩ else match ts[be32 p]? with
    | some x => if x.kind = 3 then (if 0 < Go.Lib.compareBytes a (x.keys.getD 0 zk) then some ⟨4, [], [x.keys.getD 0 zk, a]⟩ else some ⟨4, [], [a, x.keys.getD 0 zk]⟩) else some ⟨5, [], [a, p]⟩
    | none => none
def AgreeK (H : List (Option Blk)) (t : Tb) (ts : List Term) (o : Option Term) (r : AV) (H' : List (Option Blk)) : Prop :=
  match o with
  | none => r = .tup [keyA zk, .lit (.bool false)] ∧ H' = H
  | some x => r = .tup [keyA (nameK (putN ts x)), .lit (.bool true)] ∧ ∃ V', H' = tbOf H t V' (putT ts x)

theorem fin_agree {H G L : List (Option Blk)} {t : Tb} {ts : List Term} {x : Term} {V' : Value} {c d : Tmp} {s : AS} (hr : RVal s (.cell c true 32) = some (keyA (nameK (putN ts x)))) (hd : RVal s (.tmp d) = some (.lit (.bool true))) (hg : G = tbOf H t V' (putT ts x)) (hp : s.hp = G ++ L) :
    ∃ s1, Le s s1 ∧ FinX [RV.cell c true 32, RV.tmp d] s1 fun r H' => ∃ r' A, RelLe r r' ∧ r' ≠ .any ∧ HpLe H' A ∧ AgreeK H t ts (some x) r' A :=
  ⟨s, Le.refl _, [], _, ⟨_, rfl, by simp only [AS.seals, RVals, hr, hd], by simp [keyA]⟩, _, G, RelLe.refl _, by simp, by show HpLe s.hp G; rw [hp]; exact HpLe.trim _ _, rfl, V', hg⟩

theorem areg_bz {P : Program} {s : AS} {K : AS → Prop} {xs : List AOp} {d : Option Tmp} {fo : List Tmp} {ow : Option Tmp} (h : AReg P xs (s.put d (keyA zk)) K) : AReg P (⟨d, none, .build (.arr 1 (List.replicate 32 (.lit (bn 0)))) [], fo, ow⟩ :: xs) s K := by
  refine AOp.ex_go (s' := s.put d (keyA zk)) ?_ h
  rw [zk_eq]
  rfl
theorem bin_lssm : binVal .lss (.int .i64 (-1)) (jn 0) = some (.bool true) := by simp [binVal, jn]
theorem bin_gtri (x : Int) : binVal .gtr (.int .i64 x) (jn 0) = some (.bool (decide (0 < x))) := by simp [binVal, jn]

set_option maxHeartbeats 16000000 in
theorem agree_call {H : List (Option Blk)} {t : Tb} {V : Value} {ts : List Term} (hh : TbOk H t V ts) (hts : TsOk ts) {a p : List UInt8} (ha : a.length = 32) (hp : p.length = 32) :
    XCall Go.Proofs.Try.prog 49 [.ptr t.b t.l 0 [], keyA a, keyA p] H (AgreeK H t ts (agreeX ts a p)) := by
  have h439 := fc439_eq
  refine XCall.le ?_
  have hn := hts.len
  have hcal : callable Go.Proofs.Try.prog 53 = true := by kernel_rfl
  have c1 := fun L => number_call (hh.app L) (by omega) hp
  obtain ⟨n, hv, hX⟩ : ∃ n, numV ts.length p = (if ts.length ≤ n ∨ nameK n ≠ p then .int .i64 (-1) else jn n) ∧ agreeX ts a p = (if p = zk then none else if ts.length ≤ n ∨ nameK n ≠ p then some ⟨5, [], [a, p]⟩ else match ts[n]? with
    | some x => if x.kind = 3 then (if 0 < Go.Lib.compareBytes a (x.keys.getD 0 zk) then some ⟨4, [], [x.keys.getD 0 zk, a]⟩ else some ⟨4, [], [a, x.keys.getD 0 zk]⟩) else some ⟨5, [], [a, p]⟩
    | none => none) := ⟨be32 p, rfl, rfl⟩
  rw [hX]
  simp only [hv] at c1
  clear hv hX
  have e1 := eq_key hp zk_len
  refine XCall.of h439 rfl ?_; show AC.wp _ fb439 ⟨H.length, [.ptr t.b t.l 0 [], keyA a, keyA p] ++ List.replicate (56 - 3) .any, H ++ List.replicate 56 none⟩ (fun x s => match x with | .exit _ => False | _ => ∃ s1, Le s s1 ∧ FinX [(.cell 6 .true 32), (.tmp 7)] s1 _); unfold fb439
  have lb := hh.lb; have lj := hh.lj
  have gb := hh.hb; have gj := hh.hj
  unfold tbk at gb
  unfold trk at gj
  have hput := fun x hx L => put_at hh (by omega) x hx L
  generalize hN : H.length = N at *
  have p1 : ∀ L k, (H ++ L)[N + k]? = L[k]? := fun L k => cat1 N H L k hN
  have p2 : ∀ L k x, (H ++ L).set (N + k) x = H ++ L.set k x := fun L k x => cat2 N H L k x hN
  have pb : ∀ L, (H ++ L)[t.b]? = some (some (.box t.l 2 (.st [1, 1] [.own t.j V, .own t.m (.map (some t.r))]))) := fun L => by rw [cat4 N H L _ hN lb]; exact gb
  have pj : ∀ L, (H ++ L)[t.j]? = some (some (.row 74 V 3 (ts.map termA) 0)) := fun L => by rw [cat4 N H L _ hN lj]; exact gj
  refine wp_sg (areg_bx rfl (by simp [AS.ev, keyA, AV.sz, bl, ha]) fun l1 => areg_bx rfl (by simp [AS.ev, AS.put, keyA, AV.sz, bl, hp]) fun l2 => areg_al' zk_eq.symm fun l3 => areg_end (by simp [push_cast, p1, p2]; exact rfl) ?_)
  refine wp_seq' (wp_seq' (wp_rg ?_))
  refine areg_run 1 (by simp [push_cast, p1]; exact rfl) ?_
  refine areg_bz ?_
  refine areg_eq (by simp [AS.ev, AS.put] <;> exact rfl) (by simp [AS.ev, AS.put] <;> exact rfl) e1 rfl rfl (areg_nil ?_)
  by_cases hz : p = zk
  · rw [if_pos hz]
    refine wp_cond_t (by simp [AS.ev, AS.put, hz]) (wp_seq' (wp_rg ?_))
    refine areg_bz (areg_end (by simp [push_cast, p1, p2]; exact rfl) (wp_ret' ?_))
    exact ⟨_, Le.refl _, [], _, ⟨_, rfl, by simp [AS.seals, RVals, RVal, AS.ev, AS.peek, AS.blk, p1, Blk.loc, Blk.cont, Blk.n, AV.nav, AV.isAgg, AV.isTup, AS.coe]; rfl, by simp [keyA]⟩, .tup [keyA zk, .lit (.bool false)], H, RelLe.refl _, by simp, HpLe.trim _ _, rfl, rfl⟩
  refine wp_cond_f (by simp [AS.ev, AS.put, hz]) (wp_skip' (wp_sg ?_))
  refine areg_run 2 (by simp [push_cast, p1]; exact rfl) ?_
  refine areg_xc rfl (c1 _) ⟨_, _, rfl, rfl⟩ ?_
  rintro r H' ⟨rfl, rfl⟩
  refine areg_end (by simp [push_cast]; exact rfl) ?_
  rw [if_neg hz]
  by_cases hnum : ts.length ≤ n ∨ nameK n ≠ p
  · rw [if_pos hnum, if_pos hnum]
    refine wp_seq' (wp_seq' (wp_r (by simp [push_cast, bin_lssm]; exact rfl) ?_))
    refine wp_cond_t rfl (wp_seq' (wp_rg ?_))
    refine areg_run 4 (by simp [push_cast, p1, ha, hp]; exact rfl) ?_
    refine areg_xc rfl (hput ⟨5, [], [a, p]⟩ ⟨by simp, by simp, by simp, by simp [ha, hp]⟩ _) ⟨_, _, rfl, .slice none 0 0, rfl⟩ ?_
    rintro r H' ⟨rfl, V', rfl⟩
    have hG : (tbOf H t V' (putT ts ⟨5, [], [a, p]⟩)).length = N := by rw [tbOf_len]; exact hN
    generalize hgen : tbOf H t V' (putT ts ⟨5, [], [a, p]⟩) = G at *
    have r1 : ∀ L k, (G ++ L)[N + k]? = L[k]? := fun L k => cat1 N G L k hG
    have r2 : ∀ L k x, (G ++ L).set (N + k) x = G ++ L.set k x := fun L k x => cat2 N G L k x hG
    refine areg_end (by simp [push_cast, r1, r2, nameK_len]; exact rfl) (wp_ret' ?_)
    exact fin_agree (V' := V') (G := G) (by simp [RVal, AS.ev, AS.peek, AS.blk, r1, Blk.loc, Blk.cont, Blk.n, AV.nav, AV.isAgg, AV.isTup]; rfl) rfl hgen.symm rfl
  rw [if_neg hnum, if_neg hnum]
  have hlt : n < ts.length := by omega
  have g1 : ts[n]? = some ts[n] := List.getElem?_eq_getElem hlt
  have hmem : ts[n] ∈ ts := List.getElem_mem hlt
  have hok := hts.ok _ hmem
  have hpub := hts.pub _ hmem
  rw [g1]
  simp only
  generalize ts[n] = x at *
  obtain ⟨kd, tt', ks⟩ := x
  have g2 : (ts.map termA)[n]? = some (.st [1, 1, 1] [.lit (jn kd), .lit (tx tt'), .sl 32 (klA ks)]) := by rw [List.getElem?_map, g1]; rfl
  have g3 : ∀ h, (ts.map termA)[n]'h = .st [1, 1, 1] [.lit (jn kd), .lit (tx tt'), .sl 32 (klA ks)] := fun h => by rw [List.getElem?_eq_getElem h] at g2; exact Option.some.inj g2
  have gl : (ts.map termA).length = ts.length := List.length_map _
  generalize ts.map termA = T at *
  by_cases h3 : kd = 3
  · subst h3
    obtain ⟨o, ho⟩ := hpub rfl
    simp only at ho
    subst ho
    have ho32 : o.length = 32 := hok.k32 o (by simp)
    have k1 : klA [o] = [keyA o] := rfl
    simp only [if_true, List.getD_cons_zero]
    refine wp_seq' (wp_seq' (wp_r (by simp [push_cast, pb, pj, hlt, g2, g3, gl]; exact rfl) (wp_cond_f rfl (wp_skip' ?_))))
    refine wp_sg ?_
    refine areg_run 10 (by simp [push_cast, pb, pj, hlt, g2, g3, gl, klA_len, k1]; exact rfl) ?_
    refine areg_al' zk_eq.symm fun l4 => areg_end (by simp [push_cast, p1, p2, ho32]; exact rfl) ?_
    refine wp_seq' (wp_seq' (wp_rg ?_))
    refine areg_run 2 (by simp [push_cast]; exact rfl) ?_
    refine areg_xq (us := [.view (N + 4) l1 0 [] 1 0 32 32, .view (N + 9) l4 0 [] 1 0 32 32]) rfl (by simp only [tgtA, tgtB, Option.bind_some, hcal, if_true]) (cmp_call (b1 := N + 4) (b2 := N + 9) (l1 := l1) (l2 := l4) (n1 := 32) (n2 := 32) (k1 := a) (k2 := o) (by simp only [p1]; rfl) (by simp only [p1]; rfl) ha ho32) ⟨_, _, rfl, rfl⟩ (fun r hp' _ t' ht' => by cases ht') ?_
    rintro r H' ⟨rfl, rfl⟩
    refine areg_end (by simp [push_cast, bin_gtri]; exact rfl) ?_
    by_cases hgt : 0 < Go.Lib.compareBytes a o
    · rw [if_pos hgt]
      refine wp_cond_t (by simp [AS.ev, hgt]) (wp_r (by simp [push_cast, p1, p2, ha, ho32]; exact rfl) ?_)
      refine wp_sg ?_
      refine areg_run 4 (by simp [push_cast, p1, ha, ho32]; exact rfl) ?_
      refine areg_xc rfl (hput ⟨4, [], [o, a]⟩ ⟨by simp, by simp, by simp, by simp [ha, ho32]⟩ _) ⟨_, _, rfl, .slice none 0 0, rfl⟩ ?_
      rintro r H' ⟨rfl, V', rfl⟩
      have hG : (tbOf H t V' (putT ts ⟨4, [], [o, a]⟩)).length = N := by rw [tbOf_len]; exact hN
      generalize hgen : tbOf H t V' (putT ts ⟨4, [], [o, a]⟩) = G at *
      have r1 : ∀ L k, (G ++ L)[N + k]? = L[k]? := fun L k => cat1 N G L k hG
      have r2 : ∀ L k x, (G ++ L).set (N + k) x = G ++ L.set k x := fun L k x => cat2 N G L k x hG
      refine areg_end (by simp [push_cast, r1, r2, nameK_len]; exact rfl) (wp_ret' ?_)
      exact fin_agree (V' := V') (G := G) (by simp [RVal, AS.ev, AS.peek, AS.blk, r1, Blk.loc, Blk.cont, Blk.n, AV.nav, AV.isAgg, AV.isTup]; rfl) rfl hgen.symm rfl
    · rw [if_neg hgt]
      refine wp_cond_f (by simp [AS.ev, hgt]) (wp_skip' ?_)
      refine wp_sg ?_
      refine areg_run 4 (by simp [push_cast, p1, ha, ho32]; exact rfl) ?_
      refine areg_xc rfl (hput ⟨4, [], [a, o]⟩ ⟨by simp, by simp, by simp, by simp [ha, ho32]⟩ _) ⟨_, _, rfl, .slice none 0 0, rfl⟩ ?_
      rintro r H' ⟨rfl, V', rfl⟩
      have hG : (tbOf H t V' (putT ts ⟨4, [], [a, o]⟩)).length = N := by rw [tbOf_len]; exact hN
      generalize hgen : tbOf H t V' (putT ts ⟨4, [], [a, o]⟩) = G at *
      have r1 : ∀ L k, (G ++ L)[N + k]? = L[k]? := fun L k => cat1 N G L k hG
      have r2 : ∀ L k x, (G ++ L).set (N + k) x = G ++ L.set k x := fun L k x => cat2 N G L k x hG
      refine areg_end (by simp [push_cast, r1, r2, nameK_len]; exact rfl) (wp_ret' ?_)
      exact fin_agree (V' := V') (G := G) (by simp [RVal, AS.ev, AS.peek, AS.blk, r1, Blk.loc, Blk.cont, Blk.n, AV.nav, AV.isAgg, AV.isTup]; rfl) rfl hgen.symm rfl
  · simp only [if_neg h3]
    refine wp_seq' (wp_seq' (wp_r (by simp [push_cast, pb, pj, hlt, g2, g3, gl, h3]; exact rfl) ?_))
    refine wp_cond_t rfl (wp_seq' (wp_rg ?_))
    refine areg_run 4 (by simp [push_cast, p1, ha, hp]; exact rfl) ?_
    refine areg_xc rfl (hput ⟨5, [], [a, p]⟩ ⟨by simp, by simp, by simp, by simp [ha, hp]⟩ _) ⟨_, _, rfl, .slice none 0 0, rfl⟩ ?_
    rintro r H' ⟨rfl, V', rfl⟩
    have hG : (tbOf H t V' (putT ts ⟨5, [], [a, p]⟩)).length = N := by rw [tbOf_len]; exact hN
    generalize hgen : tbOf H t V' (putT ts ⟨5, [], [a, p]⟩) = G at *
    have r1 : ∀ L k, (G ++ L)[N + k]? = L[k]? := fun L k => cat1 N G L k hG
    have r2 : ∀ L k x, (G ++ L).set (N + k) x = G ++ L.set k x := fun L k x => cat2 N G L k x hG
    refine areg_end (by simp [push_cast, r1, r2, nameK_len]; exact rfl) (wp_ret' ?_)
    exact fin_agree (V' := V') (G := G) (by simp [RVal, AS.ev, AS.peek, AS.blk, r1, Blk.loc, Blk.cont, Blk.n, AV.nav, AV.isAgg, AV.isTup]; rfl) rfl hgen.symm rfl
end Go.Cab

/- Free kit: a new table, a new kit; digits. -/
-- TEXTS
-- KIT
namespace Go.Cab
open Classical
def fb419 : AC := (.seq (.reg [⟨(.some 0), .none, (.mov (.const (.pointer .none))), [], .none⟩]) (.seq (.reg [⟨(.some 1), .none, (.ef .mkmap []), [], .none⟩, ⟨(.some 2), .none, (.build (.st [1, 1] [(.lit (.slice .none 0 0)), (.lit (.map .none))]) [(1, (.tmp 1))]), [], .none⟩, ⟨(.some 3), .none, (.box 2 (.tmp 2)), [], .none⟩, ⟨(.some 0), .none, (.mov (.tmp 3)), [], .none⟩]) .ret))
def fc419 : FC := ⟨0, 4, [(.tmp 0)], fb419⟩
theorem fc419_eq : compF Go.Proofs.Try.prog 14 = some fc419 := by kernel_rfl
def fb411 : AC := (.seq (.reg [⟨(.some 0), .none, (.alloc 1 (.st [1] [(.lit (.pointer .none))])), [], .none⟩]) (.seq (.reg [⟨(.some 1), .none, (.xc (.dir 14) [] [] []), [], .none⟩, ⟨(.some 2), .none, (.build (.st [1] [(.lit (.pointer .none))]) [(0, (.tmp 1))]), [], .none⟩, ⟨.none, .none, (.store 1 (.tmp 0) (.tmp 2)), [], .none⟩]) .ret))
def fc411 : FC := ⟨0, 3, [(.cell 0 .true 1)], fb411⟩
theorem fc411_eq : compF Go.Proofs.Try.prog 6 = some fc411 := by kernel_rfl
def fb414 : AC := (.seq (.reg [⟨(.some 2), .none, (.mov (.const (tx []))), [], .none⟩]) (.seq (.seq (.reg [⟨(.some 3), .none, (.mov (.tmp 0)), [], .none⟩, ⟨(.some 4), .none, (.bin .lss (.tmp 3) (.const (un 10))), [], .none⟩]) (.cond (.tmp 4) (.seq (.reg [⟨(.some 5), .none, (.mov (.tmp 0)), [], .none⟩, ⟨(.some 6), .none, (.bin .add (.const (un 48)) (.tmp 5)), [], .none⟩, ⟨(.some 7), .none, (.cvt .u8 (.tmp 6)), [], .none⟩, ⟨(.some 8), .none, (.bslice 1 (.lit (bn 0)) 1 [(0, (.tmp 7))]), [], .none⟩, ⟨(.some 9), .none, (.b2s (.tmp 8)), [], .none⟩, ⟨(.some 2), .none, (.mov (.tmp 9)), [], .none⟩]) .ret) .skip)) (.seq (.reg [⟨(.some 10), .none, (.mov (.tmp 0)), [], .none⟩, ⟨(.some 11), .none, (.bin .quo (.tmp 10) (.const (un 10))), [], .none⟩, ⟨(.some 12), .none, (.callv 9 [(.tmp 11)]), [], .none⟩, ⟨(.some 13), .none, (.mov (.tmp 0)), [], .none⟩, ⟨(.some 14), .none, (.bin .rem (.tmp 13) (.const (un 10))), [], .none⟩, ⟨(.some 15), .none, (.bin .add (.const (un 48)) (.tmp 14)), [], .none⟩, ⟨(.some 16), .none, (.cvt .u8 (.tmp 15)), [], .none⟩, ⟨(.some 17), .none, (.bslice 1 (.lit (bn 0)) 1 [(0, (.tmp 16))]), [], .none⟩, ⟨(.some 18), .none, (.b2s (.tmp 17)), [], .none⟩, ⟨(.some 19), .none, (.bin .add (.tmp 12) (.tmp 18)), [], .none⟩, ⟨(.some 2), .none, (.mov (.tmp 19)), [], .none⟩]) .ret)))
def fc414 : FC := ⟨1, 20, [(.tmp 2)], fb414⟩
theorem fc414_eq : compF Go.Proofs.Try.prog 9 = some fc414 := by kernel_rfl

/-- A new table behind the caller's blocks. -/
def tbNew (N : Nat) (l : Nat × Nat) (r : Nat) : Tb := ⟨N, N + 1, N + 2, l, r⟩
def newL (N : Nat) (l : Nat × Nat) (r : Nat) : List (Option Blk) := [some (tbk l (N + 1) (N + 2) r (.slice none 0 0)), some (trk (.slice none 0 0) []), some (tmk r [])]
theorem new_ok (H : List (Option Blk)) (l : Nat × Nat) (r : Nat) : TbOk (H ++ newL H.length l r) (tbNew H.length l r) (.slice none 0 0) [] :=
  ⟨by simp [tbNew], by simp [tbNew], by simp [tbNew], by rw [List.getElem?_append_right (by simp [tbNew])]; simp [tbNew, newL], by rw [List.getElem?_append_right (by simp [tbNew])]; simp [tbNew, newL], by rw [List.getElem?_append_right (by simp [tbNew])]; simp [tbNew, newL]⟩

set_option maxHeartbeats 2000000 in
theorem new_call (H : List (Option Blk)) : XCall Go.Proofs.Try.prog 14 [] H fun r H' => ∃ l rr, r = .ptr H.length l 0 [] ∧ H' = H ++ newL H.length l rr := by
  have h419 := fc419_eq
  refine XCall.le ?_
  refine XCall.of h419 rfl ?_; show AC.wp _ fb419 ⟨H.length, [] ++ List.replicate (4 - 0) .any, H ++ List.replicate 4 none⟩ (fun x s => match x with | .exit _ => False | _ => ∃ s1, Le s s1 ∧ FinX [(.tmp 0)] s1 _); unfold fb419
  generalize hN : H.length = N at *
  have p1 : ∀ L k, (H ++ L)[N + k]? = L[k]? := fun L k => cat1 N H L k hN
  have p2 : ∀ L k x, (H ++ L).set (N + k) x = H ++ L.set k x := fun L k x => cat2 N H L k x hN
  refine wp_sr (by simp [push_cast]; exact rfl) (wp_sg ?_)
  refine areg_mkmap fun rr => ?_
  refine areg_run 1 (by simp [push_cast]; exact rfl) ?_
  refine areg_bx rfl rfl fun l => areg_end (by simp [push_cast, p2]; exact rfl) (wp_ret' ?_)
  refine ⟨_, Le.nilField (b := N + 3) (j := N + 0) (l := l) (n := 2) (v := .st [1, 1] [.lit (.slice none 0 0), .own (N + 1) (.map (some rr))]) (v' := .st [1, 1] [.own (N + 0) (.slice none 0 0), .own (N + 1) (.map (some rr))]) (by simp only [AS.blk, p1]; rfl) (AVle.st1 (AVle.nil _) (AVle.st1 (AVle.refl _) AVle.st0)) (by simp only [AS.blk, p1]; rfl) (by simp; omega) (by simp; omega) 74 3, ?_⟩
  simp only [p2]
  refine finX1 (v := .ptr (N + 3) l 0 []) rfl (by simp) ⟨.ptr N l 0 [], H ++ newL N l rr, RelLe.ptr _ _ _ _ _, by simp, ?_, l, rr, rfl, rfl⟩
  refine HpLe.gen (fun k => if k = N then N + 3 else if k = N + 1 then N else if k = N + 2 then N + 1 else k) (fun k k' x y hx hy e => ?_) (fun k x hx => ?_)
  · have hlt : ∀ (k : Nat) (x : Blk), ((H ++ newL N l rr)[k]?).join = some x → k < N + 3 := fun k x hx => by
      by_cases h : k < N + 3
      · exact h
      · rw [List.getElem?_eq_none (by simp [newL]; omega)] at hx; cases hx
    have := hlt k x hx
    have := hlt k' y hy
    try simp only at e
    split at e <;> split at e <;> (try split at e) <;> (try split at e) <;> (try split at e) <;> (try split at e) <;> omega
  · by_cases h1 : k < N
    · rw [cat4 N H _ k hN h1] at hx
      refine ⟨x, ?_, BlkLe.refl _⟩
      simp only [show k ≠ N by omega, show k ≠ N + 1 by omega, show k ≠ N + 2 by omega, if_false]
      rw [cat4 N H _ k hN h1]; exact hx
    · obtain ⟨i, rfl⟩ : ∃ i, k = N + i := ⟨k - N, by omega⟩
      rw [p1] at hx
      match i, hx with
      | 0, hx =>
        simp only [newL, List.getElem?_cons_zero, Option.join_some, Option.some.injEq] at hx
        subst hx
        refine ⟨.box l 2 (.st [1, 1] [.own (N + 0) (.slice none 0 0), .own (N + 1) (.map (some rr))]), ?_, BlkLe.box (AVle.st1 (AVle.own _ _ _) (AVle.st1 (AVle.own _ _ _) AVle.st0))⟩
        simp only [Nat.add_zero, if_true]
        rw [p1]; rfl
      | 1, hx =>
        simp only [newL, List.getElem?_cons_succ, List.getElem?_cons_zero, Option.join_some, Option.some.injEq] at hx
        subst hx
        refine ⟨_, ?_, BlkLe.refl _⟩
        simp only [show N + 1 ≠ N by omega, if_false, if_true]
        have := p1 [some (.row 74 (.slice none 0 0) 3 [] 0), some (.map rr [] 0), none, some (.box l 2 (.st [1, 1] [.own (N + 0) (.slice none 0 0), .own (N + 1) (.map (some rr))]))] 0
        rw [Nat.add_zero] at this
        first | (rw [this]; rfl) | (simp [this]; rfl)
      | 2, hx =>
        simp only [newL, List.getElem?_cons_succ, List.getElem?_cons_zero, Option.join_some, Option.some.injEq] at hx
        subst hx
        refine ⟨_, ?_, BlkLe.refl _⟩
        simp only [show N + 2 ≠ N by omega, show N + 2 ≠ N + 1 by omega, if_false, if_true]
        rw [p1]; rfl
      | i + 3, hx => simp [newL] at hx

/-- A kit of terms, as a value. -/
def freeS (b : Nat) (l : Nat × Nat) : AV := .st [1] [.ptr b l 0 []]
def freeI (b : Nat) (l : Nat × Nat) : AV := .ifc 25 (freeS b l)


theorem AVle.ptr (b b' : Nat) (l : Nat × Nat) (off : Nat) (p : List Nat) : AVle (.ptr b l off p) (.ptr b' l off p) := fun Imm w cs h => by
  cases h; exact .ptr b' l off p
theorem RelLe.st {ns ns' : List Nat} {fs fs' : List AV} (h : AVle (.st ns fs) (.st ns' fs')) : RelLe (.st ns fs) (.st ns' fs') := fun Imm w V hr => by
  rcases hr with hr | ⟨cs, hr, e⟩
  · cases hr
  · exact .inr ⟨cs, h _ _ _ hr, e⟩
theorem HpLe.new (H A : List (Option Blk)) (l : Nat × Nat) (r : Nat) : HpLe (H ++ A ++ newL (H.length + A.length) l r) (H ++ newL H.length l r) := by
  have hlt : ∀ (k : Nat) (x : Blk), ((H ++ newL H.length l r)[k]?).join = some x → k < H.length + 3 := fun k x hx => by
    by_cases h : k < H.length + 3
    · exact h
    · rw [List.getElem?_eq_none (by simp [newL]; omega)] at hx; cases hx
  refine HpLe.gen (fun k => if k < H.length then k else k + A.length) (fun k k' x y hx hy e => ?_) (fun k x hx => ?_)
  · try simp only at e
    split at e <;> split at e <;> omega
  · have h3 := hlt k x hx
    by_cases h1 : k < H.length
    · refine ⟨x, ?_, BlkLe.refl _⟩
      rw [List.getElem?_append_left h1] at hx
      rw [if_pos h1, List.append_assoc, List.getElem?_append_left h1]; exact hx
    · obtain ⟨i, rfl⟩ : ∃ i, k = H.length + i := ⟨k - H.length, by omega⟩
      rw [cat1 H.length H _ i rfl] at hx
      have e : ((H ++ A ++ newL (H.length + A.length) l r)[if H.length + i < H.length then H.length + i else H.length + i + A.length]?) = (newL (H.length + A.length) l r)[i]? := by
        rw [if_neg (by omega), show H.length + i + A.length = (H.length + A.length) + i by omega, cat1 (H.length + A.length) (H ++ A) _ i (by simp)]
      rw [e]
      match i, hx with
      | 0, hx =>
        simp only [newL, List.getElem?_cons_zero, Option.join_some, Option.some.injEq] at hx
        subst hx
        exact ⟨_, rfl, BlkLe.box (AVle.st1 (AVle.own _ _ _) (AVle.st1 (AVle.own _ _ _) AVle.st0))⟩
      | 1, hx =>
        simp only [newL, List.getElem?_cons_succ, List.getElem?_cons_zero, Option.join_some, Option.some.injEq] at hx
        subst hx
        exact ⟨_, rfl, BlkLe.refl _⟩
      | 2, hx =>
        simp only [newL, List.getElem?_cons_succ, List.getElem?_cons_zero, Option.join_some, Option.some.injEq] at hx
        subst hx
        exact ⟨_, rfl, BlkLe.refl _⟩
      | i + 3, hx => simp [newL] at hx

set_option maxHeartbeats 2000000 in
theorem newfree_call (H : List (Option Blk)) : XCall Go.Proofs.Try.prog 6 [] H fun r H' => ∃ l rr, r = freeS H.length l ∧ H' = H ++ newL H.length l rr := by
  have h411 := fc411_eq
  refine XCall.le ?_
  have hcal : callable Go.Proofs.Try.prog 14 = true := by kernel_rfl
  refine XCall.of h411 rfl ?_; show AC.wp _ fb411 ⟨H.length, [] ++ List.replicate (3 - 0) .any, H ++ List.replicate 3 none⟩ (fun x s => match x with | .exit _ => False | _ => ∃ s1, Le s s1 ∧ FinX [(.cell 0 .true 1)] s1 _); unfold fb411
  have hle := fun A l rr => HpLe.new H A l rr
  generalize hN : H.length = N at *
  have p2 : ∀ L x, (H ++ L).set N x = H ++ L.set 0 x := fun L x => cat2 N H L 0 x hN
  have p1 : ∀ L, (H ++ L)[N]? = L[0]? := fun L => cat1 N H L 0 hN
  have hl : ∀ L : List (Option Blk), (H ++ L).length = N + L.length := fun L => by rw [List.length_append, hN]
  refine wp_sg (areg_al fun l0 => areg_end (by simp [push_cast, p2]; exact rfl) ?_)
  refine wp_sg ?_
  refine areg_run 0 (by simp [push_cast, p2]; exact rfl) ?_
  refine areg_xq (us := []) rfl (by simp only [tgtA, tgtB, Option.bind_some, hcal, if_true]) (new_call _) ⟨_, _, (0, 0), 0, rfl, rfl⟩ (fun r hp' _ t' ht' => by cases ht') ?_
  rintro r H' ⟨l, rr, rfl, rfl⟩
  refine areg_run 0 (by simp [push_cast, hl]; exact rfl) ?_
  refine areg_end (by simp [push_cast, p1, p2]; exact rfl) (wp_ret' ?_)
  refine ⟨_, Le.refl _, [], freeS (N + 3) l, ⟨by simp [RVal, AS.seals, AS.ev, AS.peek, AS.blk, p1, Blk.loc, Blk.cont, Blk.n, AV.nav, AV.isAgg, AV.isTup]; rfl, by simp [freeS]⟩, freeS N l, H ++ newL N l rr, RelLe.st (AVle.st1 (AVle.ptr _ _ _ _ _) AVle.st0), by simp [freeS], ?_, l, rr, rfl, rfl⟩
  have := hle [some (.box l0 1 (.st [1] [.ptr (N + 3) l 0 []])), none, none] l rr
  rw [List.append_assoc] at this
  exact this

/-- A digit. -/
def dig8 (n : Nat) : UInt8 := UInt8.ofNat (48 + n)
/-- A number's digits. -/
def digs (n : Nat) : List UInt8 := if h : n < 10 then [dig8 n] else digs (n / 10) ++ [dig8 (n % 10)]
termination_by n
decreasing_by omega
theorem digs_len (n : Nat) : (digs n).length ≤ n + 1 := by
  induction n using Nat.strongRecOn with
  | ind n ih =>
    rw [digs]
    split
    · simp
    · have := ih (n / 10) (by omega)
      simp only [List.length_append, List.length_cons, List.length_nil]
      omega

set_option maxHeartbeats 2000000 in
theorem digsx_call (n : Nat) : n < 100000 → PCall Go.Proofs.Try.prog 9 [.lit (un n)] (.val (.lit (tx (digs n)))) := by
  induction n using Nat.strongRecOn with
  | ind n ih =>
    intro hn
    have h414 := fc414_eq
    have m1 : (48 + n) % 18446744073709551616 = 48 + n := Nat.mod_eq_of_lt (by omega)
    have m2 : (48 + n % 10) % 18446744073709551616 = 48 + n % 10 := Nat.mod_eq_of_lt (by omega)
    have m3 : (48 + n % 10) % 256 = 48 + n % 10 := Nat.mod_eq_of_lt (by omega)
    have m4 : n / 10 % 18446744073709551616 = n / 10 := Nat.mod_eq_of_lt (by omega)
    have t1 : ∀ x, x < 10 → textA (.sl 1 [.lit (bn (48 + x))]) = some (tx [dig8 x]) := fun x hx => by
      rw [bl_oneA (48 + x) (by omega)]; exact textA_sl [dig8 x]
    rw [digs]
    refine PCall.of h414 rfl ?_; show AC.wp _ fb414 (AS.init [.lit (un n)] 1 20) (fun x s => match x with | .exit _ => False | _ => Fin [(.tmp 2)] s _); unfold fb414 AS.init
    refine wp_sr (by simp [push_cast]; exact rfl) ?_
    by_cases h10 : n < 10
    · have m5 : (48 + n) % 256 = 48 + n := Nat.mod_eq_of_lt (by omega)
      have t2 := t1 n (by omega)
      rw [dif_pos h10]
      refine wp_seq' (wp_seq' (wp_r (by simp [push_cast, h10]; exact rfl) (wp_cond_t rfl ?_)))
      refine wp_sr (by simp [push_cast, m1, m5, t2]; exact rfl) (wp_ret' ?_)
      exact fin_tmp rfl (by simp)
    · rw [dif_neg h10]
      have t2 := t1 (n % 10) (by omega)
      have c := ih (n / 10) (by omega) (by omega)
      have hl := digs_len (n / 10)
      refine wp_seq' (wp_seq' (wp_r (by simp [push_cast, h10]; exact rfl) (wp_cond_f rfl (wp_skip' ?_))))
      refine wp_sg ?_
      refine areg_run 2 (by simp [push_cast, m4]; exact rfl) ?_
      refine areg_cv (by simp [AS.ev, AS.coe, AS.put] <;> exact rfl) c ?_
      have hb : binVal .add (tx (digs (n / 10))) (tx [dig8 (n % 10)]) = some (tx (digs (n / 10) ++ [dig8 (n % 10)])) := bin_adds _ _ (by simp only [List.length_cons, List.length_nil]; omega)
      refine areg_end (by simp [push_cast, m2, m3, t2, hb]; exact rfl) (wp_ret' ?_)
      exact fin_tmp rfl (by simp)
end Go.Cab

/- Free kit: what all pairs agree on. -/
-- TEXTS
-- KIT
namespace Go.Cab
open Classical
def fb421 : AC := (.seq (.reg [⟨(.some 4), .none, (.alloc 32 (.arr 1 (List.replicate 32 (.lit (bn 0))))), [], .none⟩, ⟨(.some 5), .none, (.mov (.const (.bool .false))), [], .none⟩]) (.seq (.reg [⟨(.some 6), .none, (.mov (.const (.slice .none 0 0))), [], .none⟩]) (.seq (.seq (.reg [⟨(.some 11), .none, (.mov (.tmp 1)), [], .none⟩, ⟨(.some 12), .none, (.len .false (.tmp 11)), [], .none⟩, ⟨(.some 13), .none, (.mov (.const (jn 0))), [], .none⟩]) (.block 0 (.loop (.seq (.reg [⟨(.some 14), .none, (.bin .lss (.tmp 13) (.tmp 12)), [], .none⟩]) (.seq (.cond (.tmp 14) .skip (.exit 0)) (.seq (.block 1 (.seq (.reg [⟨(.some 15), .none, (.iaddrS 64 (.tmp 11) (.tmp 13)), [], .none⟩, ⟨(.some 16), .none, (.load .true 64 (.tmp 15)), [], .none⟩, ⟨(.some 8), .none, (.alloc 64 (.st [32, 32] [(.arr 1 (List.replicate 32 (.lit (bn 0)))), (.arr 1 (List.replicate 32 (.lit (bn 0))))])), [], .none⟩, ⟨.none, .none, (.store 64 (.tmp 8) (.tmp 16)), [], .none⟩]) (.seq (.reg [⟨(.some 18), .none, (.mov (.tmp 0)), [], .none⟩, ⟨(.some 19), .none, (.faddr 0 0 (.tmp 8)), [], .none⟩, ⟨(.some 20), .none, (.load .true 32 (.tmp 19)), [], .none⟩, ⟨(.some 21), .none, (.faddr 32 1 (.tmp 8)), [], .none⟩, ⟨(.some 22), .none, (.load .true 32 (.tmp 21)), [], .none⟩, ⟨(.some 23), .none, (.xc (.inv "Agree") [(.tmp 18), (.tmp 20), (.tmp 22)] [] []), [], .none⟩, ⟨(.some 17), .none, (.mov (.tmp 23)), [], .none⟩, ⟨(.some 24), .none, (.ext (.tmp 17) 0), [], .none⟩, ⟨(.some 25), .none, (.ext (.tmp 17) 1), [], .none⟩, ⟨(.some 9), .none, (.alloc 32 (.arr 1 (List.replicate 32 (.lit (bn 0))))), [], .none⟩, ⟨.none, .none, (.store 32 (.tmp 9) (.tmp 24)), [], .none⟩, ⟨(.some 10), .none, (.mov (.tmp 25)), [], .none⟩]) (.seq (.seq (.reg [⟨(.some 26), .none, (.mov (.tmp 10)), [], .none⟩, ⟨(.some 27), .none, (.un .not (.tmp 26)), [], .none⟩]) (.cond (.tmp 27) (.seq (.reg [⟨(.some 28), .none, (.build (.arr 1 (List.replicate 32 (.lit (bn 0)))) []), [], .none⟩, ⟨.none, .none, (.store 32 (.tmp 4) (.tmp 28)), [], .none⟩, ⟨(.some 5), .none, (.mov (.const (.bool .false))), [], .none⟩]) .ret) .skip)) (.reg [⟨(.some 29), .none, (.mov (.tmp 6)), [], .none⟩, ⟨(.some 30), .none, (.load .true 32 (.tmp 9)), [], .none⟩, ⟨(.some 31), .none, (.bslice 32 (.arr 1 (List.replicate 32 (.lit (bn 0)))) 1 [(0, (.tmp 30))]), [], .none⟩, ⟨(.some 32), .none, (.append 28 32 32 (.tmp 29) (.tmp 31)), [], .none⟩, ⟨(.some 6), .none, (.mov (.tmp 32)), [], .none⟩]))))) (.reg [⟨(.some 33), .none, (.bin .add (.tmp 13) (.const (jn 1))), [], .none⟩, ⟨(.some 13), .none, (.mov (.tmp 33)), [], .none⟩]))))))) (.seq (.reg [⟨(.some 34), .none, (.mov (.tmp 0)), [], .none⟩, ⟨(.some 35), .none, (.mov (.tmp 6)), [], .none⟩, ⟨(.some 36), .none, (.xc (.inv "Hash") [(.tmp 34), (.const (tx [104, 101, 108, 108, 111])), (.tmp 35)] [] []), [], .none⟩, ⟨.none, .none, (.store 32 (.tmp 4) (.tmp 36)), [], .none⟩, ⟨(.some 5), .none, (.mov (.const (.bool .true))), [], .none⟩]) .ret))))
def fc421 : FC := ⟨2, 37, [(.cell 4 .true 32), (.tmp 5)], fb421⟩
theorem fc421_eq : compF Go.Proofs.Try.prog 16 = some fc421 := by kernel_rfl

theorem tgt_agree (b : Nat) (l : Nat × Nat) (x y : AV) : tgtA Go.Proofs.Try.prog (.inv "Agree") [freeI b l, x, y] = some (49, [.ptr b l 0 [], x, y]) := by kernel_rfl
theorem tgt_hash (b : Nat) (l : Nat × Nat) (x y : AV) : tgtA Go.Proofs.Try.prog (.inv "Hash") [freeI b l, x, y] = some (50, [.ptr b l 0 [], x, y]) := by kernel_rfl
theorem tgt_pub (b : Nat) (l : Nat × Nat) (x : AV) : tgtA Go.Proofs.Try.prog (.inv "Pub") [freeI b l, x] = some (52, [.ptr b l 0 [], x]) := by kernel_rfl
theorem tgt_draw (b : Nat) (l : Nat × Nat) (x : AV) : tgtA Go.Proofs.Try.prog (.inv "Draw") [freeI b l, x] = some (11, [.ptr b l 0 [], x]) := by kernel_rfl

theorem TsOk.put {ts : List Term} (h : TsOk ts) {x : Term} (hx : TermOk x) (h3 : WfT x) (hl : ts.length + 1 < 90000) : TsOk (putT ts x) := by
  unfold putT
  cases findT (shapeT x) ts 0 with
  | some n => exact h
  | none =>
    refine ⟨by simp; omega, fun y hy => ?_, fun y hy => ?_, fun y hy => ?_⟩
    · rcases List.mem_append.1 hy with hy | hy
      · exact h.ok y hy
      · simp at hy; subst hy; exact hx
    · rcases List.mem_append.1 hy with hy | hy
      · exact h.pub y hy
      · simp at hy; subst hy; exact h3.1
    · rcases List.mem_append.1 hy with hy | hy
      · exact h.two y hy
      · simp at hy; subst hy; exact h3.2
theorem agreeX_ok {ts : List Term} (h : TsOk ts) {a p : List UInt8} (ha : a.length = 32) (hp : p.length = 32) {x : Term} (hx : agreeX ts a p = some x) : TermOk x ∧ WfT x := by
  unfold agreeX at hx
  have mk : ∀ (k : Nat) (u v : List UInt8), k < 256 → u.length = 32 → v.length = 32 → TermOk ⟨k, [], [u, v]⟩ := fun k u v hk hu hv => ⟨hk, by simp, by simp, by simp [hu, hv]⟩
  split at hx
  · cases hx
  · split at hx
    · cases hx; exact ⟨mk 5 a p (by omega) ha hp, ⟨by simp, by simp⟩⟩
    · split at hx
      · rename_i y hy
        have hmem := List.mem_of_getElem? hy
        split at hx
        · rename_i h3
          obtain ⟨k, hk⟩ := h.pub y hmem h3
          have hk32 : k.length = 32 := (h.ok y hmem).k32 k (by rw [hk]; simp)
          rw [hk] at hx
          simp only [List.getD_cons_zero] at hx
          split at hx
          · cases hx; exact ⟨mk 4 k a (by omega) hk32 ha, ⟨by simp, by simp⟩⟩
          · cases hx; exact ⟨mk 4 a k (by omega) ha hk32, ⟨by simp, by simp⟩⟩
        · cases hx; exact ⟨mk 5 a p (by omega) ha hp, ⟨by simp, by simp⟩⟩
      · cases hx

section
variable {H : List (Option Blk)} {t : Tb} {V : Value} {ts : List Term}
theorem TbOk.other (h : TbOk H t V ts) (V' : Value) (ts' : List Term) {c : Nat} (h1 : c ≠ t.b) (h2 : c ≠ t.j) (h3 : c ≠ t.m) : (tbOf H t V' ts')[c]? = H[c]? := by
  unfold tbOf
  rw [List.getElem?_set_ne h3.symm, List.getElem?_set_ne h2.symm, List.getElem?_set_ne h1.symm]
/-- The caller's blocks, with another table, and blocks behind them. -/
theorem TbOk.at (h : TbOk H t V ts) (V' : Value) (ts' : List Term) (L : List (Option Blk)) : TbOk (tbOf H t V' ts' ++ L) t V' ts' := (h.of V' ts').app L
theorem TbOk.at_of (h : TbOk H t V ts) (V' V2 : Value) (ts' ts2 : List Term) (L : List (Option Blk)) : tbOf (tbOf H t V' ts' ++ L) t V2 ts2 = tbOf H t V2 ts2 ++ L := by
  rw [(h.of V' ts').of_app, h.of_of]
end

/-- What agreeing comes to, with blocks behind the caller's. -/
def AgAt (H : List (Option Blk)) (t : Tb) (V : Value) (ts : List Term) (L : List (Option Blk)) (o : Option Term) (r : AV) (H' : List (Option Blk)) : Prop :=
  match o with
  | none => r = .tup [keyA zk, .lit (.bool false)] ∧ H' = tbOf H t V ts ++ L
  | some x => r = .tup [keyA (nameK (putN ts x)), .lit (.bool true)] ∧ ∃ V', H' = tbOf H t V' (putT ts x) ++ L
theorem AgAt.ex (H : List (Option Blk)) (t : Tb) (V : Value) (ts : List Term) (L : List (Option Blk)) (o : Option Term) : ∃ r H', AgAt H t V ts L o r H' := by
  cases o with
  | none => exact ⟨_, _, rfl, rfl⟩
  | some x => exact ⟨_, _, rfl, .slice none 0 0, rfl⟩
theorem agree_at {H : List (Option Blk)} {t : Tb} {V0 : Value} {ts0 : List Term} (hh : TbOk H t V0 ts0) {ts : List Term} (hts : TsOk ts) (V : Value) (L : List (Option Blk)) {a p : List UInt8} (ha : a.length = 32) (hp : p.length = 32) :
    XCall Go.Proofs.Try.prog 49 [.ptr t.b t.l 0 [], keyA a, keyA p] (tbOf H t V ts ++ L) (AgAt H t V ts L (agreeX ts a p)) := by
  refine XCall.mono (agree_call (hh.at V ts L) hts ha hp) ?_
  intro r H' h
  unfold AgreeK at h
  unfold AgAt
  cases hx : agreeX ts a p with
  | none => rw [hx] at h; exact h
  | some x =>
    rw [hx] at h
    obtain ⟨h1, V', h2⟩ := h
    exact ⟨h1, V', by rw [h2, hh.at_of]⟩

theorem leH_app : ∀ {A A' B B' : List (Option Blk)}, leH A A' → leH B B' → leH (A ++ B) (A' ++ B')
  | [], [], _, _, _, h => h
  | _ :: _, _ :: _, _, _, h, k => ⟨h.1, leH_app h.2 k⟩

theorem leH_none (x : Option Blk) : ∀ (l : List (Option Blk)) (b : Nat), leH (l.set b x) (l.set b none)
  | [], _ => trivial
  | a :: l, 0 => ⟨.inl rfl, leH_refl l⟩
  | a :: l, b + 1 => ⟨.inr rfl, leH_none x l b⟩
theorem leT_refl : ∀ l : List AV, leT l l
  | [] => trivial
  | _ :: l => ⟨.inr rfl, leT_refl l⟩
/-- A list of the call's own is taken for a list. -/
theorem Le.sealed {s : AS} {t b e esz sl : Nat} {V : Value} {els : List AV} (ht : s.tm[t]? = some (.own b V)) (hb : s.blk b = some (.row e V esz els sl)) : Le s ⟨s.nr, s.tm.set t (.sl esz els), s.hp.set b none⟩ := by
  have hlt : b < s.hp.length := by
    by_cases h : b < s.hp.length
    · exact h
    · unfold AS.blk at hb; rw [List.getElem?_eq_none (by omega)] at hb; cases hb
  have h1 := Le.seals s [b]
  have e1 : s.seals [b] = s.setBlk b (some (.row e V esz els els.length)) := by
    simp only [AS.seals, AS.seal1, hb]
  rw [e1] at h1
  have h2 := Le.unown (s := s.setBlk b (some (.row e V esz els els.length))) (t := t) (b := b) (e := e) (V := V) (esz := esz) (els := els) ht (by simp [AS.setBlk, AS.blk, hlt])
  refine Le.trans h1 (Le.trans h2 (Le.mk rfl (leT_refl _) ?_))
  exact leH_none _ _ _

/-! ### agreed -/
abbrev KK := List UInt8 × List UInt8
def pairA (x : KK) : AV := .st [32, 32] [keyA x.1, keyA x.2]
def agreedG : List Term → List (List UInt8) → List KK → Option (List (List UInt8)) × List Term
  | ts, acc, [] => (some acc, ts)
  | ts, acc, x :: rest => match agreeX ts x.1 x.2 with
    | none => (none, ts)
    | some y => agreedG (putT ts y) (acc ++ [nameK (putN ts y)]) rest
def hello : List UInt8 := [104, 101, 108, 108, 111]
/-- What all pairs agree on, and the table then. -/
def agreedT (ts : List Term) (ps : List KK) : Option (List UInt8) × List Term :=
  match agreedG ts [] ps with
  | (none, ts') => (none, ts')
  | (some l, ts') => (some (nameK (putN ts' ⟨2, hello, l⟩)), putT ts' ⟨2, hello, l⟩)
def optK : Option (List UInt8) → AV
  | none => .tup [keyA zk, .lit (.bool false)]
  | some k => .tup [keyA k, .lit (.bool true)]
def AgreedK (H : List (Option Blk)) (t : Tb) (o : Option (List UInt8) × List Term) (r : AV) (H' : List (Option Blk)) : Prop := r = optK o.1 ∧ ∃ V', H' = tbOf H t V' o.2
theorem AgreedK.ex (H : List (Option Blk)) (t : Tb) (o : Option (List UInt8) × List Term) : ∃ r H', AgreedK H t o r H' := ⟨_, _, rfl, .slice none 0 0, rfl⟩

def agS (N : Nat) (H : List (Option Blk)) (t : Tb) (c : Nat) (Vc : Value) (n : Nat) (l4 : Nat × Nat) (x : Nat × List (List UInt8) × List Term × Value × Value) : AS :=
  ⟨N, [freeI t.b t.l, .own c Vc, .any, .any, .ptr (N + 4) l4 0 [], .lit (.bool false), .own (N + 32) x.2.2.2.1, .any, .any, .any, .any, .own c Vc, .lit (jn n), .lit (jn x.1)] ++ List.replicate 23 .any,
    tbOf H t x.2.2.2.2 x.2.2.1 ++ ([none, none, none, none, some (.box l4 32 (keyA zk))] ++ List.replicate 27 none ++ [some (.row 28 x.2.2.2.1 32 (klA x.2.1) 0)] ++ List.replicate 4 none)⟩

set_option maxHeartbeats 16000000 in
theorem agreed_call {H : List (Option Blk)} {t : Tb} {V : Value} {ts : List Term} (hh : TbOk H t V ts) (hts : TsOk ts) {c sl : Nat} {Vc : Value} {ps : List KK} (hb : c ≠ t.b) (hj : c ≠ t.j) (hm : c ≠ t.m)
    (hc : H[c]? = some (some (.row 55 Vc 64 (ps.map pairA) sl))) (hps : ps.length < 1000) (h32 : ∀ x ∈ ps, x.1.length = 32 ∧ x.2.length = 32) (hlen : ts.length + 2000 < 90000) :
    XCall Go.Proofs.Try.prog 16 [freeI t.b t.l, .own c Vc] H (AgreedK H t (agreedT ts ps)) := by
  have h421 := fc421_eq
  refine XCall.le ?_
  have hself := hh.self
  have lc := (List.getElem?_eq_some_iff.1 hc).1
  have G1 : ∀ V' ts', (tbOf H t V' ts').length = H.length := fun V' ts' => tbOf_len _ _ _ _
  have g1 : ∀ V' ts' L k, (tbOf H t V' ts' ++ L)[H.length + k]? = L[k]? := fun V' ts' L k => cat1 _ _ _ _ (G1 _ _)
  have g2 : ∀ V' ts' L k x, (tbOf H t V' ts' ++ L).set (H.length + k) x = tbOf H t V' ts' ++ L.set k x := fun V' ts' L k x => cat2 _ _ _ _ _ (G1 _ _)
  have gc : ∀ V' ts' L, (tbOf H t V' ts' ++ L)[c]? = some (some (.row 55 Vc 64 (ps.map pairA) sl)) := fun V' ts' L => by rw [cat4 H.length _ _ _ (G1 _ _) lc, hh.other _ _ hb hj hm]; exact hc
  refine XCall.of h421 rfl ?_; show AC.wp _ fb421 ⟨H.length, [freeI t.b t.l, .own c Vc] ++ List.replicate (37 - 2) .any, H ++ List.replicate 37 none⟩ (fun x s => match x with | .exit _ => False | _ => ∃ s1, Le s s1 ∧ FinX [(.cell 4 .true 32), (.tmp 5)] s1 _); unfold fb421
  rw [← hself]
  have hag := fun ts' (h : TsOk ts') V' L a p ha hp => agree_at hh h V' L (a := a) (p := p) ha hp
  rw [tbOf_len]
  generalize hN : H.length = N at *
  refine wp_sg (areg_al' zk_eq.symm fun l4 => areg_end (by simp [push_cast, g2]; exact rfl) ?_)
  refine wp_sr (by simp [push_cast]; exact rfl) ?_
  refine wp_seqL (wp_seq' (wp_r (by simp [push_cast, gc]; exact rfl) ?_))
  refine wp_block' (wp_loop_m (agS N H t c Vc ps.length l4) (fun x => ps.length - x.1) (fun x => agreedG x.2.2.1 x.2.1 (ps.drop x.1) = agreedG ts [] ps ∧ x.1 ≤ ps.length ∧ TsOk x.2.2.1 ∧ x.2.2.1.length + (ps.length - x.1) + 1000 < 90000 ∧ x.2.1.length = x.1 ∧ ∀ k ∈ x.2.1, k.length = 32) (0, [], ts, .slice none 0 0, V) ?_ ⟨rfl, by simp, hts, by simp; omega, rfl, by simp⟩ ?_)
  · refine Le.trans (Le.nilRow (t := 6) (b := N + 32) rfl (by simp only [AS.blk, g1]; rfl) 28 32) (Le.mk rfl (by simp [agS, leT]) ?_)
    simp only [g2, agS]
    exact leH_app (leH_refl _) (by simp [leH, klA, keyA])
  · rintro ⟨i, acc, ts1, Vr, Vt⟩ ⟨hI, hi, hok, hlen1, hacc, h32a⟩
    simp only at hI hi hok hlen1 hacc h32a ⊢
    unfold agS
    simp only
    by_cases hlt : i < ps.length
    · obtain ⟨⟨a, p⟩, hp⟩ : ∃ x, ps[i]? = some x := ⟨_, List.getElem?_eq_getElem hlt⟩
      have hdrop : ps.drop i = (a, p) :: ps.drop (i + 1) := by
        rw [List.drop_eq_getElem_cons hlt]
        rw [List.getElem?_eq_getElem hlt] at hp
        rw [Option.some.inj hp]
      rw [hdrop, agreedG] at hI
      simp only at hI
      obtain ⟨ha, hp32⟩ := h32 _ (List.mem_of_getElem? hp)
      simp only at ha hp32
      have gp : (ps.map pairA)[i]? = some (.st [32, 32] [keyA a, keyA p]) := by rw [List.getElem?_map, hp]; rfl
      have gp' : ∀ h, (ps.map pairA)[i]'h = .st [32, 32] [keyA a, keyA p] := fun h => by rw [List.getElem?_eq_getElem h] at gp; exact Option.some.inj gp
      have gl : (ps.map pairA).length = ps.length := List.length_map _
      generalize ps.map pairA = T at *
      refine wp_sr (by simp [push_cast, hlt]; exact rfl) (wp_seq' (wp_cond_t (by simp [AS.ev]) (wp_skip' ?_)))
      refine wp_seq' (wp_block' (wp_sg ?_))
      refine areg_run 2 (by simp [push_cast, gc, gp, gp', gl, hlt]; exact rfl) ?_
      refine areg_al' (z' := .st [32, 32] [keyA zk, keyA zk]) (by rw [zk_eq]) fun l8 => areg_end (by simp [push_cast, g1, g2, ha, hp32]; exact rfl) ?_
      refine wp_sg ?_
      refine areg_run 5 (by simp [push_cast, g1, g2, ha, hp32]; exact rfl) ?_
      refine areg_xq (us := [freeI t.b t.l, keyA a, keyA p]) rfl (tgt_agree _ _ _ _) (hag ts1 hok Vt _ a p ha hp32) (AgAt.ex _ _ _ _ _ _) (fun r hp' _ t' ht' => by cases ht') ?_
      intro r H' hK
      have hokx := fun x hx => agreeX_ok hok ha hp32 (x := x) hx
      generalize agreeX ts1 a p = o at *
      cases o with
      | none =>
        obtain ⟨rfl, rfl⟩ := hK
        simp only at hI
        refine areg_run 3 (by simp [push_cast]; exact rfl) ?_
        refine areg_al' zk_eq.symm fun l9 => areg_end (by simp [push_cast, g1, g2]; exact rfl) ?_
        refine wp_seq' (wp_seq' (wp_r (by simp [push_cast]; exact rfl) (wp_cond_t rfl (wp_seq' (wp_rg ?_)))))
        refine areg_bz (areg_end (by simp [push_cast, g1, g2]; exact rfl) (wp_ret' ?_))
        have hat : agreedT ts ps = (none, ts1) := by unfold agreedT; rw [← hI]
        rw [hat]
        exact ⟨_, Le.refl _, [], _, ⟨_, rfl, by simp [AS.seals, RVals, RVal, AS.ev, AS.peek, AS.blk, g1, Blk.loc, Blk.cont, Blk.n, AV.nav, AV.isAgg, AV.isTup, AS.coe]; rfl, by simp [keyA]⟩, optK none, _, RelLe.refl _, by simp [optK], HpLe.trim _ _, rfl, Vt, (hh.of_of _ _ _ _).symm⟩
      | some y =>
        obtain ⟨rfl, Vt', rfl⟩ := hK
        simp only at hI
        obtain ⟨hy1, hy2⟩ := hokx y rfl
        have hlen2 := putT_len ts1 y
        generalize hkk : nameK (putN ts1 y) = kk at *
        have hk32 : kk.length = 32 := by rw [← hkk]; exact nameK_len _
        have q1 : i + 1 < 9223372036854775808 := by omega
        refine areg_run 3 (by simp [push_cast]; exact rfl) ?_
        refine areg_al' zk_eq.symm fun l9 => areg_end (by simp [push_cast, g1, g2, hk32]; exact rfl) ?_
        refine wp_seq' (wp_seq' (wp_r (by simp [push_cast]; exact rfl) (wp_cond_f rfl (wp_skip' ?_))))
        refine wp_rg ?_
        refine areg_run 3 (by simp [push_cast, g1, g2, hk32]; exact rfl) ?_
        refine areg_ap (b := N + 32) (V := Vr) (ys := [keyA kk]) rfl (by simp only [AS.blk, g1]; rfl) (by simp [AS.ev, AS.coe, keyA]) (by rw [klA_len, hacc]; simp [maxLen]; omega) (by rw [klA_len, hacc]; simp; omega) fun V2 => ?_
        refine areg_end (by simp [push_cast, g2]; exact rfl) ?_
        refine wp_r (by simp [push_cast, q1]; exact rfl) ?_
        refine Exists.intro (i + 1, acc ++ [kk], putT ts1 y, V2, Vt') ⟨⟨hI, by omega, TsOk.put hok hy1 hy2 (by omega), by simp only; omega, by simp [hacc], fun k hk => ?_⟩, by simp only; omega, Le.mk rfl (by simp [leT]) ?_⟩
        · rcases List.mem_append.1 hk with hk | hk
          · exact h32a k hk
          · simp at hk; subst hk; exact hk32
        · refine leH_app (leH_refl _) ?_
          simp [leH, klA, keyA]
    · have hin : i = ps.length := by omega
      subst hin
      rw [List.drop_length, agreedG] at hI
      have hat : agreedT ts ps = (some (nameK (putN ts1 ⟨2, hello, acc⟩)), putT ts1 ⟨2, hello, acc⟩) := by unfold agreedT; rw [← hI]
      rw [hat]
      have hash := hash_call (hh.at Vt ts1 ([none, none, none, none, some (.box l4 32 (keyA zk))] ++ List.replicate 32 none)) (by omega) hello (by simp [hello]) acc (by omega) h32a
      refine wp_sr (by simp [push_cast]; exact rfl) (wp_seq' (wp_cond_f (by simp [AS.ev]) (wp_exit' (if_hit rfl ?_))))
      refine ⟨_, Le.sealed (t := 6) (b := N + 32) (e := 28) (esz := 32) (sl := 0) (V := Vr) (els := klA acc) rfl (by simp only [AS.blk, g1]; rfl), ?_⟩
      refine wp_sg ?_
      refine areg_run 2 (by simp [push_cast, g2]; exact rfl) ?_
      refine areg_xq (us := [freeI t.b t.l, .lit (tx hello), .sl 32 (klA acc)]) rfl (tgt_hash _ _ _ _) hash (PutK.ex _ _ _ _) (fun r hp' _ t' ht' => by cases ht') ?_
      rintro r H' ⟨rfl, V', rfl⟩
      rw [hh.at_of]
      refine areg_end (by simp [push_cast, g1, g2, nameK_len]; exact rfl) (wp_ret' ?_)
      exact ⟨_, Le.refl _, [], _, ⟨_, rfl, by simp [AS.seals, RVals, RVal, AS.ev, AS.peek, AS.blk, g1, Blk.loc, Blk.cont, Blk.n, AV.nav, AV.isAgg, AV.isTup, AS.coe]; rfl, by simp [keyA]⟩, optK (some _), _, RelLe.refl _, by simp [optK], HpLe.trim _ _, rfl, V', (hh.of_of _ _ _ _).symm⟩
end Go.Cab

/- Bundle: which one is named; a list searched. -/
-- TEXTS
-- KIT
namespace Go.Cab
open Classical
def fb424 : AC := (.seq (.reg [⟨(.some 3), .none, (.box 32 (.tmp 0)), [], .none⟩, ⟨(.some 4), .none, (.mov (.const (.bool .false))), [], .none⟩]) (.seq (.reg [⟨(.some 5), .none, (.load .false 1 (.tmp 1)), [], .none⟩, ⟨(.some 6), .none, (.load .true 32 (.tmp 3)), [], .none⟩, ⟨(.some 7), .none, (.xc (.inv "Pub") [(.tmp 5), (.tmp 6)] [2] []), [], .none⟩, ⟨(.some 8), .none, (.faddr 64 2 (.tmp 2)), [], .none⟩, ⟨(.some 9), .none, (.load .true 32 (.tmp 8)), [], (.some 2)⟩, ⟨(.some 10), .none, (.eqv 28 .false (.tmp 7) (.tmp 9)), [], .none⟩, ⟨(.some 4), .none, (.mov (.tmp 10)), [], .none⟩]) .ret))
def fc424 : FC := ⟨1, 11, [(.tmp 4)], fb424⟩
theorem fc424_eq : compF Go.Proofs.Try.prog 19 = some fc424 := by kernel_rfl
def fb423 : AC := (.seq (.reg [⟨(.some 4), .none, (.mov (.const (jn 0))), [], .none⟩]) (.seq (.seq (.reg [⟨(.some 6), .none, (.mov (.tmp 0)), [], .none⟩, ⟨(.some 7), .none, (.len .false (.tmp 6)), [], .none⟩, ⟨(.some 8), .none, (.mov (.const (jn 0))), [], .none⟩]) (.block 0 (.loop (.seq (.reg [⟨(.some 9), .none, (.bin .lss (.tmp 8) (.tmp 7)), [], .none⟩]) (.seq (.cond (.tmp 9) .skip (.exit 0)) (.seq (.block 1 (.seq (.reg [⟨(.some 10), .none, (.mov (.tmp 8)), [], .none⟩, ⟨(.some 5), .none, (.mov (.tmp 10)), [], .none⟩]) (.seq (.reg [⟨(.some 11), .none, (.mov (.tmp 1)), [], .none⟩, ⟨(.some 12), .none, (.mov (.tmp 0)), [], .none⟩, ⟨(.some 13), .none, (.mov (.tmp 5)), [], .none⟩, ⟨(.some 14), .none, (.iaddrS 32 (.tmp 12) (.tmp 13)), [], .none⟩, ⟨(.some 15), .none, (.load .true 32 (.tmp 14)), [], .none⟩, ⟨(.some 16), .none, (.xc .val [(.tmp 11), (.tmp 15)] [] []), [], .none⟩]) (.cond (.tmp 16) (.seq (.reg [⟨(.some 17), .none, (.mov (.tmp 5)), [], .none⟩, ⟨(.some 4), .none, (.mov (.tmp 17)), [], .none⟩]) .ret) .skip)))) (.reg [⟨(.some 18), .none, (.bin .add (.tmp 8) (.const (jn 1))), [], .none⟩, ⟨(.some 8), .none, (.mov (.tmp 18)), [], .none⟩]))))))) (.seq (.reg [⟨(.some 4), .none, (.mov (.const (.int .i64 (-1)))), [], .none⟩]) .ret)))
def fc423 : FC := ⟨2, 19, [(.tmp 4)], fb423⟩
theorem fc423_eq : compF Go.Proofs.Try.prog 18 = some fc423 := by kernel_rfl

def pubT (k : List UInt8) : Term := ⟨3, [], [k]⟩
theorem pubT_ok {k : List UInt8} (h : k.length = 32) : TermOk (pubT k) := ⟨by simp [pubT], by simp [pubT], by simp [pubT], by simp [pubT, h]⟩
theorem TsOk.putPub {ts : List Term} (h : TsOk ts) {k : List UInt8} (hk : k.length = 32) (hl : ts.length + 1 < 90000) : TsOk (putT ts (pubT k)) :=
  TsOk.put h (pubT_ok hk) ⟨fun _ => ⟨k, rfl⟩, fun h => by simp [pubT] at h⟩ hl
theorem pub_at {H : List (Option Blk)} {t : Tb} {V0 : Value} {ts0 : List Term} (hh : TbOk H t V0 ts0) {ts : List Term} (hn : ts.length < 100000) (V : Value) (L : List (Option Blk)) {k : List UInt8} (hk : k.length = 32) :
    XCall Go.Proofs.Try.prog 52 [.ptr t.b t.l 0 [], keyA k] (tbOf H t V ts ++ L) fun r H' => r = keyA (nameK (putN ts (pubT k))) ∧ ∃ V', H' = tbOf H t V' (putT ts (pubT k)) ++ L := by
  refine XCall.mono (pub_call (hh.at V ts L) hn hk) ?_
  rintro r H' ⟨h1, V', h2⟩
  exact ⟨h1, V', by rw [h2, hh.at_of]; rfl⟩

/-- A greeting: three keys. -/
structure Hello where
  id : List UInt8
  eph : List UInt8
  one : List UInt8
structure HelloOk (h : Hello) : Prop where
  id : h.id.length = 32
  eph : h.eph.length = 32
  one : h.one.length = 32
def helloA (h : Hello) : AV := .st [32, 32, 32] [keyA h.id, keyA h.eph, keyA h.one]

set_option maxHeartbeats 4000000 in
theorem named_call {H : List (Option Blk)} {t : Tb} {V0 : Value} {ts0 : List Term} (hh : TbOk H t V0 ts0) {kb hb : Nat} {kl hl : Nat × Nat} {h : Hello} (ho : HelloOk h) (k1 : kb ≠ t.b) (k2 : kb ≠ t.j) (k3 : kb ≠ t.m) (h1 : hb ≠ t.b) (h2 : hb ≠ t.j) (h3 : hb ≠ t.m)
    (hkb : H[kb]? = some (some (.box kl 1 (freeI t.b t.l)))) (hhb : H[hb]? = some (some (.box hl 96 (helloA h)))) {ts : List Term} (hn : ts.length < 90000) (V : Value) (L0 : List (Option Blk)) {x : List UInt8} (hx : x.length = 32) :
    XCall Go.Proofs.Try.prog 19 [keyA x, .ptr kb kl 0 [], .ptr hb hl 0 []] (tbOf H t V ts ++ L0) fun r H' => r = .lit (.bool (decide (nameK (putN ts (pubT x)) = h.one))) ∧ ∃ V', H' = tbOf H t V' (putT ts (pubT x)) ++ L0 := by
  have h424 := fc424_eq
  refine XCall.le ?_
  have lk := (List.getElem?_eq_some_iff.1 hkb).1
  have lh := (List.getElem?_eq_some_iff.1 hhb).1
  have G1 : ∀ V' ts', (tbOf H t V' ts').length = H.length := fun V' ts' => tbOf_len _ _ _ _
  obtain ⟨N, hN⟩ : ∃ N, N = (tbOf H t V ts ++ L0).length := ⟨_, rfl⟩
  have hN2 : ∀ V' ts', (tbOf H t V' ts' ++ L0).length = N := fun V' ts' => by rw [hN]; simp [G1]
  have g1 : ∀ V' ts' L k, (tbOf H t V' ts' ++ (L0 ++ L))[N + k]? = L[k]? := fun V' ts' L k => by rw [← List.append_assoc]; exact cat1 _ _ _ _ (hN2 _ _)
  have g2 : ∀ V' ts' L k x, (tbOf H t V' ts' ++ (L0 ++ L)).set (N + k) x = tbOf H t V' ts' ++ (L0 ++ L.set k x) := fun V' ts' L k x => by rw [← List.append_assoc, ← List.append_assoc]; exact cat2 _ _ _ _ _ (hN2 _ _)
  have gk : ∀ V' ts' L, (tbOf H t V' ts' ++ L)[kb]? = some (some (.box kl 1 (freeI t.b t.l))) := fun V' ts' L => by rw [cat4 H.length _ _ _ (G1 _ _) lk, hh.other _ _ k1 k2 k3]; exact hkb
  have gh : ∀ V' ts' L, (tbOf H t V' ts' ++ L)[hb]? = some (some (.box hl 96 (.st [32, 32, 32] [keyA h.id, keyA h.eph, keyA h.one]))) := fun V' ts' L => by rw [cat4 H.length _ _ _ (G1 _ _) lh, hh.other _ _ h1 h2 h3]; exact hhb
  obtain ⟨o1, o2, o3⟩ := ho
  have e1 := eq_key (nameK_len (putN ts (pubT x))) o3
  refine XCall.ofC h424 (by show 3 ≤ 11; omega) ?_; show AC.wp _ fb424 ⟨(tbOf H t V ts ++ L0).length, [keyA x, .ptr kb kl 0 [], .ptr hb hl 0 []] ++ List.replicate (11 - 3) .any, (tbOf H t V ts ++ L0) ++ List.replicate 11 none⟩ (fun x s => match x with | .exit _ => False | _ => ∃ s1, Le s s1 ∧ FinX [(.tmp 4)] s1 _); unfold fb424
  rw [List.append_assoc, ← hN]
  have hpub := fun L => pub_at hh (ts := ts) (by omega) V L hx
  refine wp_sg (areg_bx rfl (by simp [AS.ev, keyA, AV.sz, bl, hx]) fun l => areg_end (by simp [push_cast, g2]; exact rfl) ?_)
  refine wp_sg ?_
  refine areg_run 2 (by simp [push_cast, gk, g1, hx, freeI]; exact rfl) ?_
  refine areg_xq (us := [freeI t.b t.l, keyA x]) rfl (tgt_pub _ _ _) (hpub _) ⟨_, _, rfl, .slice none 0 0, rfl⟩ (fun r hp' hK t' ht' b hb' => ?_) ?_
  · obtain ⟨_, V', rfl⟩ := hK
    simp at ht'
    subst ht'
    simp [AS.ev, AV.place] at hb'
    subst hb'
    simp only [gh]
  rintro r H' ⟨rfl, V', rfl⟩
  generalize hkk : nameK (putN ts (pubT x)) = kk at *
  refine areg_run 2 (by simp [push_cast, gh, o3, o1, o2]; exact rfl) ?_
  refine areg_eq (by simp [AS.ev, AS.put] <;> exact rfl) (by simp [AS.ev, AS.put] <;> exact rfl) e1 rfl rfl ?_
  refine areg_end (by simp [push_cast]; exact rfl) (wp_ret' ?_)
  exact ⟨_, Le.refl _, finX1 (v := .lit (.bool (decide (kk = h.one)))) rfl (by simp) ⟨_, tbOf H t V' (putT ts (pubT x)) ++ L0, RelLe.refl _, by simp, by simp only [← List.append_assoc]; exact HpLe.trim _ _, rfl, V', rfl⟩⟩

/-! ### A list searched -/
def idxF (one : List UInt8) : List Term → List (List UInt8) → Nat → Option Nat × List Term
  | ts, [], _ => (none, ts)
  | ts, x :: xs, i => if nameK (putN ts (pubT x)) = one then (some i, putT ts (pubT x)) else idxF one (putT ts (pubT x)) xs (i + 1)
def idxV : Option Nat → Value
  | none => .int .i64 (-1)
  | some n => jn n
def cloA (kb hb : Nat) (kl hl : Nat × Nat) : AV := .fnv (.func 19) [] [.ptr kb kl 0 [], .ptr hb hl 0 []]
theorem tgt_clo (kb hb : Nat) (kl hl : Nat × Nat) (x : AV) : tgtA Go.Proofs.Try.prog .val [cloA kb hb kl hl, x] = some (19, [x, .ptr kb kl 0 [], .ptr hb hl 0 []]) := by kernel_rfl
def idxS (N : Nat) (H : List (Option Blk)) (t : Tb) (c : Nat) (Vc : Value) (clo : AV) (n : Nat) (x : Nat × List Term × Value) : AS :=
  ⟨N, [.own c Vc, clo, .any, .any, .lit (jn 0), .any, .own c Vc, .lit (jn n), .lit (jn x.1)] ++ List.replicate 10 .any, tbOf H t x.2.2 x.2.1 ++ List.replicate 19 none⟩

set_option maxHeartbeats 8000000 in
theorem index_call {H : List (Option Blk)} {t : Tb} {V : Value} {ts : List Term} (hh : TbOk H t V ts) (hts : TsOk ts) {kb hb c sl : Nat} {kl hl : Nat × Nat} {Vc : Value} {h : Hello} {ks : List (List UInt8)} (ho : HelloOk h)
    (k1 : kb ≠ t.b) (k2 : kb ≠ t.j) (k3 : kb ≠ t.m) (h1 : hb ≠ t.b) (h2 : hb ≠ t.j) (h3 : hb ≠ t.m) (c1 : c ≠ t.b) (c2 : c ≠ t.j) (c3 : c ≠ t.m)
    (hkb : H[kb]? = some (some (.box kl 1 (freeI t.b t.l)))) (hhb : H[hb]? = some (some (.box hl 96 (helloA h)))) (hc : H[c]? = some (some (.row 28 Vc 32 (klA ks) sl))) (hks : ks.length < 1000) (h32 : ∀ k ∈ ks, k.length = 32) (hlen : ts.length + 2000 < 90000) :
    XCall Go.Proofs.Try.prog 18 [.own c Vc, cloA kb hb kl hl] H fun r H' => r = .lit (idxV (idxF h.one ts ks 0).1) ∧ ∃ V', H' = tbOf H t V' (idxF h.one ts ks 0).2 := by
  have h423 := fc423_eq
  refine XCall.le ?_
  have hself := hh.self
  have lc := (List.getElem?_eq_some_iff.1 hc).1
  have G1 : ∀ V' ts', (tbOf H t V' ts').length = H.length := fun V' ts' => tbOf_len _ _ _ _
  have gc : ∀ V' ts' L, (tbOf H t V' ts' ++ L)[c]? = some (some (.row 28 Vc 32 (klA ks) sl)) := fun V' ts' L => by rw [cat4 H.length _ _ _ (G1 _ _) lc, hh.other _ _ c1 c2 c3]; exact hc
  have hone := ho.one
  have hnm := fun ts' (hn : ts'.length < 90000) V' L x hx => named_call hh ho k1 k2 k3 h1 h2 h3 hkb hhb (ts := ts') hn V' L (x := x) hx
  have htg := tgt_clo kb hb kl hl
  generalize cloA kb hb kl hl = clo at *
  refine XCall.of h423 rfl ?_; show AC.wp _ fb423 ⟨H.length, [.own c Vc, clo] ++ List.replicate (19 - 2) .any, H ++ List.replicate 19 none⟩ (fun x s => match x with | .exit _ => False | _ => ∃ s1, Le s s1 ∧ FinX [(.tmp 4)] s1 _); unfold fb423
  rw [← hself]
  rw [tbOf_len]
  generalize hN : H.length = N at *
  refine wp_sr (by simp [push_cast]; exact rfl) ?_
  refine wp_seq' (wp_seq' (wp_r (by simp [push_cast, gc, klA_len]; exact rfl) ?_))
  refine wp_block' (wp_loop_m (idxS N H t c Vc clo ks.length) (fun x => ks.length - x.1) (fun x => idxF h.one x.2.1 (ks.drop x.1) x.1 = idxF h.one ts ks 0 ∧ x.1 ≤ ks.length ∧ TsOk x.2.1 ∧ x.2.1.length + (ks.length - x.1) + 100 < 90000) (0, ts, V) ?_ ⟨rfl, by simp, hts, by simp; omega⟩ ?_)
  · exact Le.mk rfl (by simp [idxS, leT]) (leH_refl _)
  · rintro ⟨i, ts1, Vt⟩ ⟨hI, hi, hok, hl1⟩
    simp only at hI hi hok hl1 ⊢
    unfold idxS
    simp only
    by_cases hlt : i < ks.length
    · obtain ⟨x, hx⟩ : ∃ x, ks[i]? = some x := ⟨_, List.getElem?_eq_getElem hlt⟩
      have hdrop : ks.drop i = x :: ks.drop (i + 1) := by
        rw [List.drop_eq_getElem_cons hlt]
        rw [List.getElem?_eq_getElem hlt] at hx
        rw [Option.some.inj hx]
      rw [hdrop, idxF] at hI
      have hx32 := h32 _ (List.mem_of_getElem? hx)
      have g1 : (klA ks)[i]? = some (keyA x) := by rw [klA_get, hx]; rfl
      have g2 : ∀ h, (klA ks)[i]'h = keyA x := fun h => by rw [List.getElem?_eq_getElem h] at g1; exact Option.some.inj g1
      have q1 : i + 1 < 9223372036854775808 := by omega
      have hlen2 := putT_len ts1 (pubT x)
      have hput := TsOk.putPub hok hx32 (by omega)
      have hnm1 := hnm ts1 hok.len Vt (List.replicate 19 none) x hx32
      generalize putT ts1 (pubT x) = ts2 at *
      generalize nameK (putN ts1 (pubT x)) = kk at *
      refine wp_sr (by simp [push_cast, hlt]; exact rfl) (wp_seq' (wp_cond_t (by simp [AS.ev]) (wp_skip' ?_)))
      refine wp_seq' (wp_block' (wp_sr (by simp [push_cast]; exact rfl) ?_))
      refine wp_seq' (wp_rg ?_)
      refine areg_run 5 (by simp [push_cast, gc, g1, g2, hlt, klA_len, hx32]; exact rfl) ?_
      refine areg_xq (us := [clo, keyA x]) rfl (htg _) hnm1 ⟨_, _, rfl, .slice none 0 0, rfl⟩ (fun r hp' _ t' ht' => by cases ht') ?_
      rintro r H' ⟨rfl, Vt', rfl⟩
      refine areg_end (by simp [push_cast]; exact rfl) ?_
      by_cases hk : kk = h.one
      · rw [if_pos hk] at hI
        refine wp_cond_t (by simp [AS.ev, AS.put, hk]) ?_
        refine wp_sr (by simp [push_cast]; exact rfl) (wp_ret' ?_)
        refine ⟨_, Le.refl _, finX1 (v := .lit (jn i)) rfl (by simp) ⟨_, tbOf H t Vt' ts2, RelLe.refl _, by simp, HpLe.trim _ _, by rw [← hI]; rfl, Vt', by rw [← hI]; exact (hh.of_of _ _ _ _).symm⟩⟩
      · rw [if_neg hk] at hI
        refine wp_cond_f (by simp [AS.ev, AS.put, hk]) (wp_skip' ?_)
        refine wp_r (by simp [push_cast, q1]; exact rfl) ?_
        refine Exists.intro (i + 1, ts2, Vt') ⟨⟨hI, by omega, hput, by simp only; omega⟩, by simp only; omega, Le.mk rfl (by simp [leT]) (leH_refl _)⟩
    · have hin : i = ks.length := by omega
      subst hin
      rw [List.drop_length, idxF] at hI
      refine wp_sr (by simp [push_cast]; exact rfl) (wp_seq' (wp_cond_f (by simp [AS.ev]) (wp_exit' (if_hit rfl ?_))))
      refine wp_sr (by simp [push_cast]; exact rfl) (wp_ret' ?_)
      refine ⟨_, Le.refl _, finX1 (v := .lit (.int .i64 (-1))) rfl (by simp) ⟨_, tbOf H t Vt ts1, RelLe.refl _, by simp, HpLe.trim _ _, by rw [← hI]; rfl, Vt, by rw [← hI]; exact (hh.of_of _ _ _ _).symm⟩⟩
end Go.Cab

/- Bundle: one taken out of a list, in place. -/
-- TEXTS
-- KIT
namespace Go.Cab
open Go.RowKit Go.Lib Go.Sort Go.Proofs

def zb : Value := .int .u8 0
theorem zero_rep (n : Nat) : (Builtin.zeroCells (Array.replicate 32 zb) n).toList = List.replicate (n * 32) zb := by
  simp [Builtin.zeroCells]
  apply List.ext_getElem
  · simp
  · intro i h1 h2
    simp
    rw [getElem!_pos _ _ (by simp; omega)]
    simp
theorem run_clear32 (W : World) (ty : TypeId) (b o n c : Nat) (hn : 0 < n) (hc : ∀ j, j < n * 32 → (W.cell? ⟨b, o + j, none⟩).isSome = true) (hf : ∀ j, j < n * 32 → W.frozen? ⟨b, o + j, none⟩ = false) :
    (Builtin.clear_ #[29] ty #[.slice (some ⟨b, o, none⟩) n c]).run Try.prog W = .ok (.tuple #[]) (W.setCells b o (List.replicate (n * 32) zb)) := by
  have hv : ∀ w, (zeroValue 28).run Try.prog w = .ok (.agg (Array.replicate 32 zb)) w := Try.zeroValue28
  have hst := run_storeCells_cells (P := Try.prog) b o (List.replicate (n * 32) zb) 0 W (by simpa using hc) (by simpa using hf) (by intro v hv'; rw [List.eq_of_mem_replicate hv']; rfl)
  simp only [Nat.add_zero] at hst
  obtain ⟨m, rfl⟩ : ∃ m, n = m + 1 := ⟨n - 1, by omega⟩
  have hz : (Value.agg (Array.replicate 32 zb)).cells = Array.replicate 32 zb := rfl
  simp [Builtin.clear_, run_underlying Try.underlying29, hv, hz, zero_rep, hst]

set_option maxHeartbeats 4000000 in
set_option maxRecDepth 1000000 in
theorem del_raw (g cap i j n : Nat) (cs : List Value) (w : World) (hlen : cs.length = n * 32) (hcell : ∀ k u, cs[k]? = some u → w.cell? ⟨g, 0 + k, none⟩ = some u) (hfz : ∀ k, k < n * 32 → w.frozen? ⟨g, 0 + k, none⟩ = false)
    (h1c : ∀ u ∈ cs, u.oneCell' = true) (hcap : n ≤ cap) (hm : cap ≤ 9223372036854775807) (hij : i < j) (hj : j ≤ n) :
    Calls Try.prog 20 #[.slice (some ⟨g, 0, none⟩) n cap, .int .i64 i, .int .i64 j] w fun e w' => e = .returned (.slice (some ⟨g, 0, none⟩) (i + (n - j)) cap) ∧
      w' = (w.drew.setCells g (i * 32) (cs.drop (j * 32))).setCells g ((i + (n - j)) * 32) (List.replicate ((j - i) * 32) zb) := by
  have mixed : Try.prog.follows .mixedOrders = true := by kernel_rfl
  obtain ⟨i0, hi0, hz0, hz1, hz2⟩ := info_parts (P := Try.prog) (e := 28) (by kernel_rfl : (Try.prog.info? 28).map (fun i => (i.zero, i.size, i.bytes)) = some (some (.agg (Array.replicate 32 zb)), 32, 32))
  have t0 := @Try.underlying0; have t3 := @Try.underlying3; have t4 := @Try.underlying4; have t29 := @Try.underlying29
  have heq : i ≠ j := by omega
  obtain ⟨news, hnews⟩ : ∃ news, news = cs.drop (j * 32) := ⟨_, rfl⟩
  have hnl : news.length = (n - j) * 32 := by rw [hnews, List.length_drop, hlen]; omega
  have hget : ∀ t u, news[t]? = some u → w.cell? ⟨g, 0 + (j * 32 + t), none⟩ = some u := fun t u hu => by
    rw [hnews, List.getElem?_drop] at hu
    exact hcell _ _ hu
  obtain ⟨A, hA, hsrc⟩ : ∃ A : Addr, (if cap = j then some (⟨g, 0, none⟩ : Addr) else some ⟨g, j * 32, none⟩) = some A ∧ Hid (∀ t u, news[t]? = some u → w.drew.cell? (A.add t) = some u) := by
    by_cases h : cap = j
    · refine ⟨⟨g, 0, none⟩, by simp [h], fun t u hu => ?_⟩
      have h0 : news.length = 0 := by rw [hnl]; omega
      rw [List.length_eq_zero_iff.1 h0] at hu
      simp at hu
    · refine ⟨⟨g, j * 32, none⟩, by simp [h], fun t u hu => ?_⟩
      rw [Addr.add_lit]
      have := hget t u hu
      rwa [Nat.zero_add] at this
  have s1 : Hid (news.length = (n - j) * 32) := hnl
  have s2 : Hid (∀ u ∈ news, u.oneCell' = true) := by
    intro u hu
    rw [hnews] at hu
    exact h1c u (List.mem_of_mem_drop hu)
  have s3 : Hid (∀ t, t < news.length → (w.drew.cell? ⟨g, 0 + i * 32 + t, none⟩).isSome = true ∧ w.drew.frozen? ⟨g, 0 + i * 32 + t, none⟩ = false) := by
    intro t ht
    rw [hnl] at ht
    have hlt : i * 32 + t < cs.length := by omega
    refine ⟨?_, ?_⟩
    · rw [Nat.add_assoc]
      show (w.cell? _).isSome = true
      rw [hcell (i * 32 + t) _ (List.getElem?_eq_getElem hlt)]; rfl
    · rw [Nat.add_assoc]; exact hfz _ (by omega)
  obtain ⟨W1, hW1⟩ : ∃ W1, W1 = w.drew.setCells g (0 + i * 32) news := ⟨_, rfl⟩
  have hcl : ∀ ty, (Builtin.clear_ #[29] ty #[.slice (some ⟨g, (i + (n - j)) * 32, none⟩) (n - (i + (n - j))) (cap - (i + (n - j)))]).run Try.prog W1 = .ok (.tuple #[]) (W1.setCells g ((i + (n - j)) * 32) (List.replicate ((n - (i + (n - j))) * 32) zb)) := by
    intro ty
    refine run_clear32 W1 ty g _ _ _ (by omega) (fun t ht => ?_) (fun t ht => ?_)
    · rw [hW1]
      refine World.isSome_setCells g news _ _ _ ?_
      have hlt : (i + (n - j)) * 32 + t < cs.length := by omega
      have := hcell _ _ (List.getElem?_eq_getElem hlt)
      rw [Nat.zero_add] at this
      show (w.cell? _).isSome = true
      rw [this]; rfl
    · rw [hW1, World.frozen?_setCells]
      have := hfz ((i + (n - j)) * 32 + t) (by omega)
      rwa [Nat.zero_add] at this
  have X : Aside (W1 = w.drew.setCells g (0 + i * 32) news) := hW1
  have hW : Hid (W1 = w.drew.setCells g (0 + i * 32) news) := hW1
  have hN : Hid (news = cs.drop (j * 32)) := hnews
  have hic : i ≤ cap := by omega
  have hjc : j ≤ cap := by omega
  clear hW1 hcell hfz h1c hnews hnl hget hlen
  go_enter Try.func20, Try.ntmps20
  go_wp2_with fail
  go_region_law_o (refine step_append_room rfl (.tmp 22) (.tmp 25) 29 rfl 28 i0 32 t29 hi0 hz1 g 0 i cap (by simp [Act.eval, Act.put]) A (n - j) (cap - j) news (by simp [Act.eval, Act.put]) s1.out hsrc.out s2.out (by omega) s3.out ?_; rw [← hW.out])
  go_wp2
  go_ret
  refine ⟨rfl, ?_⟩
  rw [X.out, hN.out, show n - (i + (n - j)) = j - i by omega, Nat.zero_add]

/-- The world with one row's object turned. -/
theorem turnRow {w0 wk w w' : World} {regs : List (Nat × Nat × Nat)} {St Imm : Nat → Nat → Prop} {hp : List (Option Blk)} {c g : Nat} {x x' : Blk} (hfr : Fr regs w0 w) (h1 : ImmOk w0 wk St Imm w) (h3 : HeapOk w0 regs Imm hp w) (hb : (hp[c]?).join = some x)
    (hfx : ∀ b o, x.foot b o ↔ b = g) (hfx' : ∀ b o, x'.foot b o ↔ b = g) (hI : ∀ o, ¬ Imm g o) (hos : w'.os = w.os) (htp : w'.tape = w.tape) (hot : w'.output = w.output) (hsize : w'.heap.size = w.heap.size)
    (hoth : ∀ k, k ≠ g → w'.heap[k]? = w.heap[k]?) (hfro : ∀ k o, w'.frozen? ⟨k, o, none⟩ = w.frozen? ⟨k, o, none⟩) (hx' : x'.ok Imm w') : Fr regs w0 w' ∧ ImmOk w0 wk St Imm w' ∧ HeapOk w0 regs Imm (hp.set c (some x')) w' := by
  obtain ⟨hok, hfoot⟩ := h3.ok _ _ hb
  have hcell : ∀ k o, k ≠ g → w'.cell? ⟨k, o, none⟩ = w.cell? ⟨k, o, none⟩ := fun k o hk => by
    simp only [World.cell?, hoth k hk]
  have hImm : ∀ b o, Imm b o → w'.cell? ⟨b, o, none⟩ = w.cell? ⟨b, o, none⟩ := fun b o hb => hcell b o (fun he => hI o (he ▸ hb))
  have hreg : g < w0.heap.size → ∀ o, inReg regs g o := fun h o => ((hfoot g o ((hfx g o).2 rfl)).2.resolve_left (by omega))
  refine ⟨?_, ⟨h1.sub, h1.old, fun b o hb => by rw [hImm b o hb]; exact h1.there b o hb, fun b o hb => by rw [hImm b o (h1.sub b o hb)]; exact h1.val b o hb⟩, ⟨fun k y hy => ?_, fun k k' y z hne hy hz => ?_⟩⟩
  · refine ⟨hos.trans hfr.os, htp.trans hfr.tape, hot.trans hfr.output, by rw [hsize]; exact hfr.size, fun k hk hr => ?_, fun b o hlb hn => ?_, fun b o hlb => by rw [hfro]; exact hfr.frozen b o hlb⟩
    · rw [hoth k (fun he => ?_)]
      · exact hfr.block k hk hr
      · subst he
        obtain ⟨q, hq, e, _⟩ := hreg hk 0
        exact hr q hq e.symm
    · rw [hcell b o (fun he => ?_)]
      · exact hfr.cell b o hlb hn
      · subst he; exact hn (hreg hlb o)
  · rcases hp_set hy with ⟨rfl, rfl⟩ | ⟨hkb, hy'⟩
    · refine ⟨hx', fun b' o hf => ?_⟩
      obtain rfl := (hfx' b' o).1 hf
      rw [hsize]
      exact hfoot b' o ((hfx b' o).2 rfl)
    · obtain ⟨hyo, hyf⟩ := h3.ok k y hy'
      have hne : ∀ b' o, y.foot b' o → b' ≠ g := fun b' o hf he => by
        subst he
        exact h3.apart k c y x hkb hy' hb b' o hf ((hfx b' o).2 rfl)
      refine ⟨hyo.keep (fun _ _ h => h) hImm (fun _ _ _ h => h) (fun b' o hf => hcell b' o (hne b' o hf)) (fun b' o _ => hfro b' o) (fun b' hw => hoth b' (hne b' 0 (Blk.whole_foot hw 0))), fun b' o hf => by rw [hsize]; exact hyf b' o hf⟩
  · intro b' o hf hf'
    rcases hp_set hy with ⟨rfl, rfl⟩ | ⟨hkb, hy'⟩
    · rcases hp_set hz with ⟨rfl, rfl⟩ | ⟨hkb', hz'⟩
      · exact hne rfl
      · exact h3.apart _ k' x z hne hb hz' b' o ((hfx b' o).2 ((hfx' b' o).1 hf)) hf'
    · rcases hp_set hz with ⟨rfl, rfl⟩ | ⟨hkb', hz'⟩
      · exact h3.apart k _ y x hne hy' hb b' o hf ((hfx b' o).2 ((hfx' b' o).1 hf'))
      · exact h3.apart k k' y z hne hy' hz' b' o hf hf'

theorem wsetCells (b : Nat) : ∀ (vs : List Value) (o : Nat) (w : World), w.setCells b o vs = Cab.setCells b o vs w
  | [], _, _ => rfl
  | v :: vs, o, w => by rw [World.setCells, Cab.setCells, wsetCells b vs]

set_option maxHeartbeats 4000000 in
theorem delete_call {H : List (Option Blk)} {c i j e : Nat} {V : Value} {els : List AV} (hc : H[c]? = some (some (.row e V 32 els 0))) (hij : i < j) (hj : j ≤ els.length) :
    XCall Go.Proofs.Try.prog 20 [.own c V, .lit (jn i), .lit (jn j)] H fun r H' => ∃ V', r = .own c V' ∧ H' = H.set c (some (.row e V' 32 (els.take i ++ els.drop j) 0)) := by
  intro w0 w regs Imm Vs hfr hth hheap hargs
  match Vs, hargs with
  | [V0, V1, V2], ⟨a0, a1, a2, _⟩ =>
    obtain ⟨rfl, _⟩ := a1.lit
    obtain ⟨rfl, _⟩ := a2.lit
    have hV : V0 = V := by
      rcases a0 with h | ⟨cs, h, e⟩
      · cases h
      · cases h; exact e
    subst hV
    have hcj : (H[c]?).join = some (.row e V0 32 els 0) := by rw [hc]; rfl
    obtain ⟨⟨cs, hR, hown, hsV, _, hnI⟩, hfoot⟩ := hheap.ok c _ hcj
    obtain ⟨hlen, hown2⟩ := hown
    rcases hown2 with ⟨_, hn⟩ | ⟨g, cap, cur, rfl, h0, hg, hcapn, hcapm, hcs, htake⟩
    · omega
    have hscs : ∀ u ∈ cs, sc u = true := hR.scs rfl
    have hcellw : ∀ k, w.cell? ⟨g, k, none⟩ = cur[k]? := fun k => cell_of_row w g k cur e (0, 0) hg
    have hcur : ∀ k u, cs[k]? = some u → cur[k]? = some u := fun k u hu => by
      rw [← htake, List.getElem?_take] at hu
      split at hu
      · simpa using hu
      · cases hu
    have hraw := del_raw g cap i j els.length cs w hlen (fun k u hu => by rw [Nat.zero_add, hcellw]; exact hcur k u hu) (fun k hk => frozen_of_row w g _ cur e hg) (fun u hu => oneCell_of_sc (hscs u hu)) hcapn (by simp only [maxLen] at hcapm; omega) hij hj
    refine Calls.mono hraw ?_
    rintro e' w' ⟨rfl, rfl⟩
    rw [wsetCells, wsetCells]
    have hel : (els.take i ++ els.drop j).length = i + (els.length - j) := by rw [List.length_append, List.length_take, List.length_drop]; omega
    have hnl : (cs.drop (j * 32)).length = (els.length - j) * 32 := by rw [List.length_drop, hlen]; omega
    have hdrew : w.drew.heap[g]? = some (.cells cur e (0, 0)) := hg
    obtain ⟨cur1, hg1, hs1⟩ := setCells_heap_same g (cs.drop (j * 32)) (i * 32) w.drew cur e (0, 0) hdrew
    obtain ⟨cur2, hg2, hs2⟩ := setCells_heap_same g (List.replicate ((j - i) * 32) zb) ((i + (els.length - j)) * 32) _ cur1 e (0, 0) hg1
    have hw2 := setCells_os g (List.replicate ((j - i) * 32) zb) ((i + (els.length - j)) * 32) (Cab.setCells g (i * 32) (cs.drop (j * 32)) w.drew)
    have hw1 := setCells_os g (cs.drop (j * 32)) (i * 32) w.drew
    have hz2 := setCells_size g (List.replicate ((j - i) * 32) zb) ((i + (els.length - j)) * 32) (Cab.setCells g (i * 32) (cs.drop (j * 32)) w.drew)
    have hz1 := setCells_size g (cs.drop (j * 32)) (i * 32) w.drew
    have hcell2 : ∀ k, k < (i + (els.length - j)) * 32 → (Cab.setCells g ((i + (els.length - j)) * 32) (List.replicate ((j - i) * 32) zb) (Cab.setCells g (i * 32) (cs.drop (j * 32)) w.drew)).cell? ⟨g, k, none⟩ = (cs.take (i * 32) ++ cs.drop (j * 32))[k]? := fun k hk => by
      rw [setCells_out _ _ _ _ _ _ (.inr (.inl hk))]
      have hlt : (cs.take (i * 32)).length = i * 32 := by rw [List.length_take, hlen]; omega
      by_cases hki : k < i * 32
      · rw [setCells_out _ _ _ _ _ _ (.inr (.inl hki)), List.getElem?_append_left (by omega), List.getElem?_take, if_pos hki]
        have h2 : k < cs.length := by omega
        show w.cell? ⟨g, k, none⟩ = _
        rw [hcellw, List.getElem?_eq_getElem h2]
        exact hcur k _ (List.getElem?_eq_getElem h2)
      · obtain ⟨t, rfl⟩ : ∃ t, k = i * 32 + t := ⟨k - i * 32, by omega⟩
        have h2 : t < (cs.drop (j * 32)).length := by omega
        rw [List.getElem?_append_right (by omega), hlt, Nat.add_sub_cancel_left, List.getElem?_eq_getElem h2]
        refine setCells_in g _ _ _ (fun q hq => ?_) t _ (List.getElem?_eq_getElem h2)
        show (w.cell? _).isSome = true
        have h3 : i * 32 + q < cs.length := by omega
        rw [hcellw, hcur _ _ (List.getElem?_eq_getElem h3)]; rfl
    generalize hW2 : Cab.setCells g ((i + (els.length - j)) * 32) (List.replicate ((j - i) * 32) zb) (Cab.setCells g (i * 32) (cs.drop (j * 32)) w.drew) = W2 at *
    have hoth : ∀ k, k ≠ g → W2.heap[k]? = w.heap[k]? := fun k hk => by
      rw [← hW2, setCells_heap_other _ _ _ _ _ hk, setCells_heap_other _ _ _ _ _ hk]; rfl
    have hfro : ∀ k o, W2.frozen? ⟨k, o, none⟩ = w.frozen? ⟨k, o, none⟩ := fun k o => by
      rw [← hW2, setCells_frozen, setCells_frozen]; rfl
    have hng : ∀ o, ¬ Imm g o := fun o => hnI g o rfl (by omega)
    have hImmW : ∀ b o, Imm b o → W2.cell? ⟨b, o, none⟩ = w.cell? ⟨b, o, none⟩ := fun b o hb => by
      have : b ≠ g := fun he => hng o (he ▸ hb)
      simp only [World.cell?, hoth b this]
    have hR' : R Imm W2 (.arr 32 (els.take i ++ els.drop j)) (cs.take (i * 32) ++ cs.drop (j * 32)) := (R.app (R_arr_drop i hR).2 (R_arr_drop j hR).1).mono (fun _ _ h => h) hImmW
    have hcl : (cs.take (i * 32) ++ cs.drop (j * 32)).length = (i + (els.length - j)) * 32 := by rw [List.length_append, List.length_take, hnl, hlen]; omega
    have hx' : (Blk.row e (.slice (some ⟨g, 0, none⟩) (i + (els.length - j)) cap) 32 (els.take i ++ els.drop j) 0).ok Imm W2 := by
      refine ⟨_, hR', ⟨by rw [hel]; exact hcl, .inr ⟨g, cap, cur2, by rw [hel], Nat.zero_le _, hg2, by rw [hel]; omega, hcapm, by rw [hs2, hs1]; exact hcs, ?_⟩⟩, rfl, Nat.zero_le _, fun b o hb _ => by
        have : g = b := by simpa [Value.ownBlock] using hb
        subst this
        exact hng o⟩
      rw [hel]
      apply List.ext_getElem?
      intro k
      rw [List.getElem?_take]
      by_cases hk : k < (i + (els.length - j)) * 32
      · rw [if_pos hk, ← hcell2 k hk, cell_of_row W2 g k cur2 e (0, 0) hg2]
        simp
      · rw [if_neg hk, List.getElem?_eq_none (by omega)]
    have hf0 : ∀ (n' : Nat) (es : List AV) (b o : Nat), (Blk.row e (.slice (some ⟨g, 0, none⟩) n' cap) 32 es 0).foot b o ↔ b = g := fun n' es b o => by
      simp only [Blk.foot, Value.ownBlock, Option.map_some, Option.some.injEq]
      exact eq_comm
    obtain ⟨f1, f2, f3⟩ := turnRow (wk := w) (St := Imm) hfr ⟨fun _ _ h => h, fun _ _ h _ => h, hth, fun _ _ _ => rfl⟩ hheap hcj (hf0 _ _) (hf0 (i + (els.length - j)) (els.take i ++ els.drop j)) hng (hw2.1.trans hw1.1) (hw2.2.1.trans hw1.2.1) (hw2.2.2.trans hw1.2.2) (hz2.trans hz1) hoth hfro hx'
    exact ⟨_, .own c (.slice (some ⟨g, 0, none⟩) (i + (els.length - j)) cap), _, Imm, rfl, ⟨_, rfl, rfl⟩, f1, f2, .inr ⟨_, .own c _ rfl, rfl⟩, by simp, f3⟩
end Go.Cab

/- Bundle: a store, and what it shows. -/
-- TEXTS
-- KIT
namespace Go.Cab
open Classical
def fb412 : AC := (.seq (.reg [⟨(.some 4), .none, (.alloc 65 (.st [32, 32, 1] [(.arr 1 (List.replicate 32 (.lit (bn 0)))), (.arr 1 (List.replicate 32 (.lit (bn 0)))), (.lit (.slice .none 0 0))])), [], .none⟩]) (.seq (.reg [⟨(.some 7), .none, (.mov (.tmp 0)), [], .none⟩, ⟨(.some 8), .none, (.xc (.inv "Draw") [(.tmp 7), (.const (tx [105, 100]))] [] []), [], .none⟩, ⟨(.some 9), .none, (.mov (.tmp 0)), [], .none⟩, ⟨(.some 10), .none, (.xc (.inv "Draw") [(.tmp 9), (.const (tx [112, 114, 101]))] [] []), [], .none⟩, ⟨(.some 11), .none, (.build (.st [32, 32, 1] [(.arr 1 (List.replicate 32 (.lit (bn 0)))), (.arr 1 (List.replicate 32 (.lit (bn 0)))), (.lit (.slice .none 0 0))]) [(0, (.tmp 8)), (1, (.tmp 10))]), [], .none⟩, ⟨(.some 5), .none, (.alloc 65 (.st [32, 32, 1] [(.arr 1 (List.replicate 32 (.lit (bn 0)))), (.arr 1 (List.replicate 32 (.lit (bn 0)))), (.lit (.slice .none 0 0))])), [], .none⟩, ⟨.none, .none, (.store 65 (.tmp 5) (.tmp 11)), [], .none⟩]) (.seq (.seq (.reg [⟨(.some 6), .none, (.mov (.const (jn 0))), [], .none⟩]) (.block 0 (.loop (.seq (.seq (.reg [⟨(.some 12), .none, (.mov (.tmp 6)), [], .none⟩, ⟨(.some 13), .none, (.mov (.tmp 1)), [], .none⟩, ⟨(.some 14), .none, (.bin .lss (.tmp 12) (.tmp 13)), [], .none⟩]) (.cond (.tmp 14) .skip (.exit 0))) (.seq (.block 1 (.reg [⟨(.some 17), .none, (.faddr 64 2 (.tmp 5)), [], .none⟩, ⟨(.some 18), .none, (.load .false 1 (.tmp 17)), [], (.some 5)⟩, ⟨(.some 19), .none, (.mov (.tmp 0)), [], .none⟩, ⟨(.some 20), .none, (.mov (.tmp 6)), [], .none⟩, ⟨(.some 21), .none, (.cvt .u64 (.tmp 20)), [], .none⟩, ⟨(.some 22), .none, (.callv 9 [(.tmp 21)]), [], (.some 1000000)⟩, ⟨(.some 23), .none, (.bin .add (.const (tx [111, 110, 101, 32])) (.tmp 22)), [], .none⟩, ⟨(.some 24), .none, (.rdp (.mkfn (.method "Draw") 1) [(.tmp 19)]), [], .none⟩, ⟨(.some 25), .none, (.rdp .nilv [(.tmp 24)]), [], .none⟩, ⟨(.some 26), .none, (.mov (.tmp 19)), [], .none⟩, ⟨(.some 27), .none, (.xc (.inv "Draw") [(.tmp 26), (.tmp 23)] [5] []), [], .none⟩, ⟨(.some 28), .none, (.bslice 32 (.arr 1 (List.replicate 32 (.lit (bn 0)))) 1 [(0, (.tmp 27))]), [], .none⟩, ⟨(.some 29), .none, (.append 28 32 32 (.tmp 18) (.tmp 28)), [], .none⟩, ⟨(.some 30), .none, (.faddr 64 2 (.tmp 5)), [], .none⟩, ⟨.none, .none, (.store 1 (.tmp 30) (.tmp 29)), [], .none⟩])) (.reg [⟨(.some 15), .none, (.mov (.tmp 6)), [], .none⟩, ⟨(.some 16), .none, (.bin .add (.tmp 15) (.const (jn 1))), [], .none⟩, ⟨(.some 6), .none, (.mov (.tmp 16)), [], .none⟩])))))) (.seq (.reg [⟨(.some 31), .none, (.load .true 65 (.tmp 5)), [], .none⟩, ⟨.none, .none, (.store 65 (.tmp 4) (.tmp 31)), [], .none⟩]) .ret))))
def fc412 : FC := ⟨2, 32, [(.cell 4 .true 65)], fb412⟩
theorem fc412_eq : compF Go.Proofs.Try.prog 7 = some fc412 := by kernel_rfl

section
variable {P : Program} {s : AS} {K : AS → Prop} {xs : List AOp}
theorem areg_rdp {d : Option Tmp} {g : RdOp} {ys : List Operand} {fo : List Tmp} {ow : Option Tmp} {us : List AV} {v : AV} (ha : (ys.map fun x => s.ev x) = us) (hv : rdA P (fun _ => none) g us = some v) (h : AReg P xs (s.put d v) K) :
    AReg P (⟨d, none, .rdp g ys, fo, ow⟩ :: xs) s K := by
  subst ha
  unfold AReg AOp.go
  simp only [AI.go, hv]
  exact ⟨by cases ow <;> trivial, h⟩
end

theorem R_setF {Imm : Nat → Nat → Prop} {w : World} {u u' : AV} (hu : ∀ c, R Imm w u c → R Imm w u' c) : ∀ {fs : List AV} {ns : List Nat} {i : Nat} {cs : List Value}, fs[i]? = some u → R Imm w (.st ns fs) cs → R Imm w (.st ns (fs.set i u')) cs
  | [], _, _, _, hf, _ => by simp at hf
  | f :: fs, ns, i, cs, hf, h => by
    cases h with
    | st1 n ns _ _ c d hc hl hs hd =>
      cases i with
      | zero =>
        simp only [List.getElem?_cons_zero, Option.some.injEq] at hf
        subst hf
        exact .st1 n ns u' fs c d (hu c hc) hl hs hd
      | succ i => exact .st1 n ns f _ c d hc hl hs (R_setF hu (by simpa using hf) hd)

/-- A list of the call's own, in a variable's field, is taken for a list. -/
theorem Le.sealedF {s : AS} {b j n i e esz sl : Nat} {l : Nat × Nat} {ns : List Nat} {fs els : List AV} {V : Value} (hb : s.blk b = some (.box l n (.st ns fs))) (hf : fs[i]? = some (.own j V)) (hj : s.blk j = some (.row e V esz els sl)) :
    Le s ⟨s.nr, s.tm, (s.hp.set b (some (.box l n (.st ns (fs.set i (.sl esz els)))))).set j none⟩ := by
  have hbj : b ≠ j := fun he => by subst he; rw [hb] at hj; cases hj
  have hlt : ∀ k x, s.blk k = some x → k < s.hp.length := fun k x hk => by
    by_cases h : k < s.hp.length
    · exact h
    · unfold AS.blk at hk; rw [List.getElem?_eq_none (by omega)] at hk; cases hk
  have hlb := hlt b _ hb
  have hlj := hlt j _ hj
  have h1 := Le.seals s [j]
  have e1 : s.seals [j] = s.setBlk j (some (.row e V esz els els.length)) := by
    simp only [AS.seals, AS.seal1, hj]
  rw [e1] at h1
  refine Le.trans h1 ?_
  have hb2 : (s.setBlk j (some (.row e V esz els els.length))).blk b = some (.box l n (.st ns fs)) := by
    simp only [AS.blk, AS.setBlk] at hb ⊢
    rw [List.getElem?_set_ne hbj.symm]; exact hb
  have hj2 : (s.setBlk j (some (.row e V esz els els.length))).blk j = some (.row e V esz els els.length) := by
    simp [AS.blk, AS.setBlk, hlj]
  generalize hs' : s.setBlk j (some (.row e V esz els els.length)) = s' at *
  have e2 : s' = ⟨s.nr, s.tm, s.hp.set j (some (.row e V esz els els.length))⟩ := hs'.symm
  intro w0 wk regs St a w h
  obtain ⟨Imm, h2, h3, h4, hseal⟩ := h.seals
  have hu : ∀ c, R Imm w (.own j V) c → R Imm w (.sl esz els) c := fun c hc => by
    have hrel : Rel Imm w (.own j V) V := by
      cases hc with
      | own _ _ hs => exact .inr ⟨[V], .own j V hs, rfl⟩
    have := coe_sound (ro := tt) h4 hseal hrel
    have hcoe : s'.coe tt (.own j V) = .sl esz els := by simp [AS.coe, tt, hj2]
    rw [hcoe] at this
    rcases this with h | ⟨cs, h, e⟩
    · cases h
    · cases hc
      cases h with
      | slnil => rw [e]; exact .slnil esz
      | sl _ _ cs b o cap ha hb hc => rw [e]; exact .sl esz els cs b o cap ha hb hc
  have hnew : ∀ (k : Nat) (x : Blk), (((s.hp.set b (some (.box l n (.st ns (fs.set i (.sl esz els)))))).set j none)[k]?).join = some x → ∃ y, (s'.hp[k]?).join = some y ∧ (y.ok Imm w → x.ok Imm w) ∧ ∀ b o, x.foot b o → y.foot b o := fun k x hx => by
    obtain ⟨hkj, hx⟩ := hp_set_none hx
    rcases hp_set hx with ⟨rfl, rfl⟩ | ⟨hkb, hx⟩
    · refine ⟨_, hb2, fun ⟨⟨cs, hc, hr⟩, hn⟩ => ⟨⟨cs, R_setF hu hf hc, hr⟩, hn⟩, fun b o hf => hf⟩
    · refine ⟨x, ?_, id, fun _ _ h => h⟩
      rw [e2]
      show ((s.hp.set j _)[k]?).join = some x
      rw [List.getElem?_set_ne (Ne.symm hkj)]
      exact hx
  have hnr : s'.nr = s.nr := by rw [e2]
  have htm : s'.tm = s.tm := by rw [e2]
  refine ⟨h.defers, by rw [h.tsize, htm], h.frame, Imm, h2, by rw [← htm]; exact h3, ⟨fun k x hx => ?_, fun k k' x y hne hx hy b' o hf hf' => ?_⟩⟩
  · obtain ⟨y, hy, g1, g2⟩ := hnew k x hx
    obtain ⟨g3, g4⟩ := h4.ok k y hy
    exact ⟨g1 g3, fun b o hf => g4 b o (g2 b o hf)⟩
  · obtain ⟨u, hu', _, g2⟩ := hnew k x hx
    obtain ⟨v, hv', _, g3⟩ := hnew k' y hy
    exact h4.apart k k' u v hne hu' hv' b' o (g2 b' o hf) (g3 b' o hf')

/-- New variables beside a call. -/
theorem setE_cat (N : Nat) (G : List (Option Blk)) (hG : G.length = N) : ∀ (E : List (Tmp × Blk)) (L : List (Option Blk)), setE N (G ++ L) E = G ++ setE 0 L E
  | [], _ => rfl
  | (t, x) :: E, L => by
    show setE N ((G ++ L).set (N + t) (some x)) E = G ++ setE 0 (L.set (0 + t) (some x)) E
    rw [cat2 N G L t _ hG, setE_cat N G hG E, Nat.zero_add]
theorem xf_of {P : Program} {f : FuncId} {vs : List AV} {G L : List (Option Blk)} {N : Nat} (hG : G.length = N) {KG : AV → List (Option Blk) → Prop} (h : ∀ L, XCall P f vs (G ++ L) fun r H' => ∃ G', KG r G' ∧ H' = G' ++ L) (hl : ∀ r G', KG r G' → G'.length = N) (E : List (Tmp × Blk)) :
    XCall P f vs (setE N (G ++ L) E) fun r H' => ∃ hp', (∃ G', KG r G' ∧ hp' = G' ++ L) ∧ H' = setE N hp' E := by
  rw [setE_cat N G hG]
  refine XCall.mono (h _) ?_
  rintro r H' ⟨G', hk, rfl⟩
  exact ⟨G' ++ L, ⟨G', hk, rfl⟩, (setE_cat N G' (hl r G' hk) E L).symm⟩

/-! ### The store -/
structure Store where
  id : List UInt8
  pre : List UInt8
  ones : List (List UInt8)
def storeA (s : Store) : AV := .st [32, 32, 1] [keyA s.id, keyA s.pre, .sl 32 (klA s.ones)]
structure StoreOk (s : Store) : Prop where
  id : s.id.length = 32
  pre : s.pre.length = 32
  ones : ∀ k ∈ s.ones, k.length = 32
  len : s.ones.length < 900
def drawT (s : List UInt8) : Term := ⟨1, s, []⟩
def txId : List UInt8 := [105, 100]
def txPre : List UInt8 := [112, 114, 101]
def txOne : List UInt8 := [111, 110, 101, 32]
theorem drawT_ok {s : List UInt8} (h : s.length < 1000) : TermOk (drawT s) := ⟨by simp [drawT], by simp [drawT]; omega, by simp [drawT], by simp [drawT]⟩
theorem TsOk.draw {ts : List Term} (h : TsOk ts) {s : List UInt8} (hs : s.length < 1000) (hl : ts.length + 1 < 90000) : TsOk (putT ts (drawT s)) :=
  TsOk.put h (drawT_ok hs) ⟨fun h => by simp [drawT] at h, fun h => by simp [drawT] at h⟩ hl
theorem draw_at {H : List (Option Blk)} {t : Tb} {V0 : Value} {ts0 : List Term} (hh : TbOk H t V0 ts0) {ts : List Term} (hn : ts.length < 100000) (V : Value) (L : List (Option Blk)) {s : List UInt8} (hs : s.length < 1000) :
    XCall Go.Proofs.Try.prog 11 [.ptr t.b t.l 0 [], .lit (tx s)] (tbOf H t V ts ++ L) fun r H' => r = keyA (nameK (putN ts (drawT s))) ∧ ∃ V', H' = tbOf H t V' (putT ts (drawT s)) ++ L := by
  refine XCall.mono (draw_call (hh.at V ts L) hn s (by omega)) ?_
  rintro r H' ⟨h1, V', h2⟩
  exact ⟨h1, V', by rw [h2, hh.at_of]; rfl⟩
def onesG : Nat → List Term → List (List UInt8) → Nat → List (List UInt8) × List Term
  | 0, ts, acc, _ => (acc, ts)
  | m + 1, ts, acc, i => onesG m (putT ts (drawT (txOne ++ digs i))) (acc ++ [nameK (putN ts (drawT (txOne ++ digs i)))]) (i + 1)
def storeT (ts : List Term) (n : Nat) : Store × List Term :=
  let ts1 := putT ts (drawT txId)
  let ts2 := putT ts1 (drawT txPre)
  let o := onesG n ts2 [] 0
  (⟨nameK (putN ts (drawT txId)), nameK (putN ts1 (drawT txPre)), o.1⟩, o.2)
theorem nilv_draw (b : Nat) (l : Nat × Nat) : rdA Go.Proofs.Try.prog (fun _ => none) .nilv [.fnv (.method "Draw") [freeI b l] []] = some (.fnv (.method "Draw") [freeI b l] []) := by kernel_rfl
theorem mkfn_draw (b : Nat) (l : Nat × Nat) (nm : String) : rdA Go.Proofs.Try.prog (fun _ => none) (.mkfn (.method nm) 1) [freeI b l] = some (.fnv (.method nm) [freeI b l] []) := rfl
theorem cvt_64jx (n : Nat) (h : n < 1000000) : cvtA .u64 (.lit (jn n)) = some (.lit (un n)) := by
  simp only [cvtA, jn, wrap_u64]; rw [Nat.mod_eq_of_lt (by omega)]; rfl

def stS (N : Nat) (H : List (Option Blk)) (t : Tb) (n : Nat) (l4 l5 : Nat × Nat) (id pre : List UInt8) (x : Nat × List (List UInt8) × List Term × Value × Value) : AS :=
  ⟨N, [freeI t.b t.l, .lit (jn n), .any, .any, .ptr (N + 4) l4 0 [], .ptr (N + 5) l5 0 [], .lit (jn x.1)] ++ List.replicate 25 .any,
    tbOf H t x.2.2.2.2 x.2.2.1 ++ ([none, none, none, none, some (.box l4 65 (.st [32, 32, 1] [keyA zk, keyA zk, .lit (.slice none 0 0)])), some (.box l5 65 (.st [32, 32, 1] [keyA id, keyA pre, .own (N + 29) x.2.2.2.1]))] ++ List.replicate 23 none ++ [some (.row 28 x.2.2.2.1 32 (klA x.2.1) 0)] ++ List.replicate 2 none)⟩

set_option maxHeartbeats 16000000 in
theorem store_call {H : List (Option Blk)} {t : Tb} {V : Value} {ts : List Term} (hh : TbOk H t V ts) (hts : TsOk ts) {n : Nat} (hn : n < 100) (hlen : ts.length + 2000 < 90000) :
    XCall Go.Proofs.Try.prog 7 [freeI t.b t.l, .lit (jn n)] H fun r H' => r = storeA (storeT ts n).1 ∧ ∃ V', H' = tbOf H t V' (storeT ts n).2 := by
  have h412 := fc412_eq
  refine XCall.le ?_
  have hself := hh.self
  have G1 : ∀ V' ts', (tbOf H t V' ts').length = H.length := fun V' ts' => tbOf_len _ _ _ _
  have g1 : ∀ V' ts' L k, (tbOf H t V' ts' ++ L)[H.length + k]? = L[k]? := fun V' ts' L k => cat1 _ _ _ _ (G1 _ _)
  have g2 : ∀ V' ts' L k x, (tbOf H t V' ts' ++ L).set (H.length + k) x = tbOf H t V' ts' ++ L.set k x := fun V' ts' L k x => cat2 _ _ _ _ _ (G1 _ _)
  have hdr := fun ts' (h : ts'.length < 100000) V' L s hs => draw_at hh (ts := ts') h V' L (s := s) hs
  refine XCall.of h412 rfl ?_; show AC.wp _ fb412 ⟨H.length, [freeI t.b t.l, .lit (jn n)] ++ List.replicate (32 - 2) .any, H ++ List.replicate 32 none⟩ (fun x s => match x with | .exit _ => False | _ => ∃ s1, Le s s1 ∧ FinX [(.cell 4 .true 65)] s1 _); unfold fb412
  rw [← hself]
  rw [tbOf_len]
  generalize hN : H.length = N at *
  refine wp_sg (areg_al' (z' := .st [32, 32, 1] [keyA zk, keyA zk, .lit (.slice none 0 0)]) (by rw [zk_eq]) fun l4 => areg_end (by simp [push_cast, g2]; exact rfl) ?_)
  refine wp_sg ?_
  refine areg_run 1 (by simp [push_cast]; exact rfl) ?_
  refine areg_xq (us := [freeI t.b t.l, .lit (tx txId)]) rfl (tgt_draw _ _ _) (hdr ts (by omega) V _ txId (by decide)) ⟨_, _, rfl, .slice none 0 0, rfl⟩ (fun r hp' _ t' ht' => by cases ht') ?_
  rintro r H' ⟨rfl, V1, rfl⟩
  have hlen1 := putT_len ts (drawT txId)
  have hts1 := hts.draw (s := txId) (by decide) (by omega)
  refine areg_run 1 (by simp [push_cast]; exact rfl) ?_
  refine areg_xq (us := [freeI t.b t.l, .lit (tx txPre)]) rfl (tgt_draw _ _ _) (hdr _ (by omega) V1 _ txPre (by decide)) ⟨_, _, rfl, .slice none 0 0, rfl⟩ (fun r hp' _ t' ht' => by cases ht') ?_
  rintro r H' ⟨rfl, V2, rfl⟩
  have hlen2 := putT_len (putT ts (drawT txId)) (drawT txPre)
  have hts2 := hts1.draw (s := txPre) (by decide) (by omega)
  have hst : storeT ts n = (⟨nameK (putN ts (drawT txId)), nameK (putN (putT ts (drawT txId)) (drawT txPre)), (onesG n (putT (putT ts (drawT txId)) (drawT txPre)) [] 0).1⟩, (onesG n (putT (putT ts (drawT txId)) (drawT txPre)) [] 0).2) := rfl
  rw [hst]
  have k1 := nameK_len (putN ts (drawT txId))
  have k2 := nameK_len (putN (putT ts (drawT txId)) (drawT txPre))
  generalize nameK (putN ts (drawT txId)) = id at *
  generalize nameK (putN (putT ts (drawT txId)) (drawT txPre)) = pre at *
  generalize putT (putT ts (drawT txId)) (drawT txPre) = ts2 at *
  refine areg_run 1 (by simp [push_cast, k1, k2]; exact rfl) ?_
  refine areg_al' (z' := .st [32, 32, 1] [keyA zk, keyA zk, .lit (.slice none 0 0)]) (by rw [zk_eq]) fun l5 => areg_end (by simp [push_cast, g1, g2, k1, k2]; exact rfl) ?_
  refine wp_seqL (wp_seq' (wp_r (by simp [push_cast]; exact rfl) ?_))
  refine wp_block' (wp_loop_m (stS N H t n l4 l5 id pre) (fun x => n - x.1) (fun x => onesG (n - x.1) x.2.2.1 x.2.1 x.1 = onesG n ts2 [] 0 ∧ x.1 ≤ n ∧ TsOk x.2.2.1 ∧ x.2.2.1.length + (n - x.1) + 1000 < 90000 ∧ x.2.1.length = x.1) (0, [], ts2, .slice none 0 0, V2) ?_ ⟨rfl, by simp, hts2, by simp; omega, rfl⟩ ?_)
  · refine Le.trans (Le.nilField (b := N + 5) (j := N + 29) (l := l5) (n := 65) (v := .st [32, 32, 1] [keyA id, keyA pre, .lit (.slice none 0 0)]) (v' := .st [32, 32, 1] [keyA id, keyA pre, .own (N + 29) (.slice none 0 0)]) (by simp only [AS.blk, g1]; rfl) (AVle.st1 (AVle.refl _) (AVle.st1 (AVle.refl _) (AVle.st1 (AVle.nil _) AVle.st0))) (by simp only [AS.blk, g1]; rfl) (by simp [G1]) (by simp [G1]) 28 32) (Le.mk rfl (by simp [stS, leT]) ?_)
    simp only [g2, stS]
    exact leH_app (leH_refl _) (by simp [leH, klA, keyA])
  · rintro ⟨i, acc, ts3, Vr, Vt⟩ ⟨hI, hi, hok, hl3, hacc⟩
    simp only at hI hi hok hl3 hacc ⊢
    unfold stS
    simp only
    by_cases hlt : i < n
    · have c := digsx_call i (by omega)
      have hdl := digs_len i
      have hsub : n - i = (n - (i + 1)) + 1 := by omega
      rw [hsub, onesG] at hI
      have hd1000 : (txOne ++ digs i).length < 1000 := by simp only [List.length_append, txOne, List.length_cons, List.length_nil]; omega
      have hb : binVal .add (tx [111, 110, 101, 32]) (tx (digs i)) = some (tx (txOne ++ digs i)) := bin_adds _ _ (by simp only [List.length_cons, List.length_nil]; omega)
      have hdr3 := hdr ts3 (by omega) Vt
      have hlen4 := putT_len ts3 (drawT (txOne ++ digs i))
      have hts4 := hok.draw hd1000 (by omega)
      have hcv := cvt_64jx i (by omega)
      have q1 : i + 1 < 9223372036854775808 := by omega
      generalize txOne ++ digs i = nm at *
      refine wp_seq' (wp_sr (by simp [push_cast, hlt]; exact rfl) ?_)
      refine wp_cond_t rfl (wp_skip' ?_)
      refine wp_seq' (wp_block' (wp_rg ?_))
      refine areg_run 5 (by simp [push_cast, g1, hcv]; exact rfl) ?_
      refine areg_cv (by simp [AS.ev, AS.coe, AS.put] <;> exact rfl) c ?_ (by intro p hp b V; simp at hp; subst hp; simp [AS.ev, AS.put])
      refine areg_run 1 (by simp [push_cast, hb]; exact rfl) ?_
      refine areg_rdp (us := [freeI t.b t.l]) rfl (mkfn_draw _ _ _) ?_
      refine areg_rdp (us := [.fnv (.method "Draw") [freeI t.b t.l] []]) rfl (nilv_draw _ _) ?_
      refine areg_run 1 (by simp [push_cast]; exact rfl) ?_
      refine areg_xq (us := [freeI t.b t.l, .lit (tx nm)]) rfl (tgt_draw _ _ _) (hdr3 _ nm hd1000) ⟨_, _, rfl, .slice none 0 0, rfl⟩ (fun r hp' hK t' ht' b hb' => ?_) ?_
      · obtain ⟨_, V', rfl⟩ := hK
        simp at ht'
        subst ht'
        simp [AS.ev, AV.place] at hb'
        subst hb'
        simp only [g1]
      rintro r H' ⟨rfl, Vt', rfl⟩
      have hk32 := nameK_len (putN ts3 (drawT nm))
      generalize nameK (putN ts3 (drawT nm)) = kk at *
      generalize putT ts3 (drawT nm) = ts4 at *
      refine areg_run 1 (by simp [push_cast, hk32]; exact rfl) ?_
      refine areg_ap (b := N + 29) (V := Vr) (ys := [keyA kk]) rfl (by simp only [AS.blk, g1]; rfl) (by simp [AS.ev, AS.coe, keyA]) (by rw [klA_len, hacc]; simp [maxLen]; omega) (by rw [klA_len, hacc]; simp; omega) (fun V4 => ?_)
      refine areg_end (by simp [push_cast, g1, g2]; exact rfl) ?_
      refine wp_r (by simp [push_cast, q1]; exact rfl) ?_
      refine Exists.intro (i + 1, acc ++ [kk], ts4, V4, Vt') ⟨⟨hI, by omega, hts4, by simp only; omega, by simp [hacc]⟩, by simp only; omega, Le.mk rfl (by simp [leT]) ?_⟩
      refine leH_app (leH_refl _) ?_
      simp [leH, klA, keyA]
    · have hin : i = n := by omega
      subst hin
      rw [Nat.sub_self, onesG] at hI
      rw [← hI]
      refine wp_seq' (wp_sr (by simp [push_cast]; exact rfl) ?_)
      refine wp_cond_f (by simp [AS.ev]) (wp_exit' (if_hit rfl ?_))
      refine ⟨_, Le.sealedF (b := N + 5) (j := N + 29) (n := 65) (i := 2) (e := 28) (esz := 32) (sl := 0) (l := l5) (ns := [32, 32, 1]) (fs := [keyA id, keyA pre, .own (N + 29) Vr]) (els := klA acc) (V := Vr) (by simp only [AS.blk, g1]; rfl) rfl (by simp only [AS.blk, g1]; rfl), ?_⟩
      refine wp_sr (by simp [push_cast, g1, g2, k1, k2]; exact rfl) (wp_ret' ?_)
      refine ⟨_, Le.refl _, [], storeA ⟨id, pre, acc⟩, ⟨by simp [AS.seals, RVal, AS.ev, AS.peek, AS.blk, g1, Blk.loc, Blk.cont, Blk.n, AV.nav, AV.isAgg, AV.isTup, AS.coe]; rfl, by simp [storeA]⟩, _, _, RelLe.refl _, by simp [storeA], HpLe.trim _ _, rfl, Vt, (hh.of_of _ _ _ _).symm⟩
end Go.Cab
