/- Part 7 of what the proof stands on: G8, G9, G10, G11, GD, G12, H1, G13, G14. -/
import Derived.Test.YtpdafiepagobiaaDoorCab06
import Derived.Shelf.RegionOpenPlain
import Derived.WalkKit
import Derived.Deep.LoopGhost
import Derived.Deep.RegionLaw
import Derived.Deep.MidRow
import Derived.Lib.Walk
import Derived.Sort.WalkB12
import Derived.Lib.SliceRun
import Derived.Lib.SlicesDelete
set_option linter.unusedSimpArgs false
set_option linter.unnecessarySimpa false
set_option linter.unusedVariables false
set_option linter.unusedSectionVars false
namespace Go.Cab
open Classical
def fb442 : AC := (.seq (.reg [⟨some 4, none, .mov (.const (jn 0)), [], none⟩]) (.seq (.reg [⟨some 5, none, .mov (.tmp 0), [], none⟩, ⟨some 6, none, .mov (.tmp 1), [], none⟩, ⟨some 7, none, .rd .bcmp [.tmp 5, .tmp 6], [], none⟩, ⟨some 4, none, .mov (.tmp 7), [], none⟩]) .ret))
def fc442 : FC := ⟨2, 8, [(.tmp 4)], fb442⟩
theorem fc442_eq : compF Go.Proofs.Tryd.prog 37 = some fc442 := by kernel_rfl
theorem rd_bcmp {blk : Nat → Option Blk} {x y : AV} {a b : List UInt8} (hx : listB blk 1 x = some (bl a)) (hy : listB blk 1 y = some (bl b)) (h1 : x.isLit = false) (h2 : y.isLit = false) :
    rdB blk .bcmp [x, y] = some (.lit (.int .i64 (Go.Lib.compareBytes a b))) := by
  have e : ∀ l : List UInt8, Go.Lib.bytesOf (l.map fun b => (b.toNat : Int)) = l := fun l => by simp [Go.Lib.bytesOf, Function.comp_def]
  simp only [rdB, hx, hy, Option.bind_some, bytes_bl, e, h1, h2]
  rfl
theorem areg_bcmp {P : Program} {s : AS} {K : AS → Prop} {xs : List AOp} {d : Option Tmp} {x y : Operand} {u v : AV} {a b : List UInt8} (ex : s.ev x = u) (ey : s.ev y = v) (hx : listB s.blk 1 u = some (bl a)) (hy : listB s.blk 1 v = some (bl b)) (h1 : u.isLit = false) (h2 : v.isLit = false)
    (h : AReg P xs (s.put d (.lit (.int .i64 (Go.Lib.compareBytes a b)))) K) : AReg P (⟨d, none, .rd .bcmp [x, y], [], none⟩ :: xs) s K := by
  refine AOp.ex_go (s' := s.put d (.lit (.int .i64 (Go.Lib.compareBytes a b)))) ?_ h
  have hro : (AOp.ro ⟨d, none, .rd .bcmp [x, y], [], none⟩ s.nr) = tt := by funext b; rfl
  have hb : (fun b => if tt b then s.blk b else none) = s.blk := by funext b; rfl
  simp only [AOp.ex, AOp.ex0, AOp.mineB, if_true, ex_rd, List.map_cons, List.map_nil, ex, ey, hro, hb, rd_bcmp hx hy h1 h2, Option.map_some]
theorem cmp_call {H : List (Option Blk)} {b1 b2 : Nat} {l1 l2 : Nat × Nat} {n1 n2 : Nat} {k1 k2 : List UInt8} (h1 : H[b1]? = some (some (.box l1 n1 (keyA k1)))) (h2 : H[b2]? = some (some (.box l2 n2 (keyA k2)))) (e1 : k1.length = 32) (e2 : k2.length = 32) :
    XCall Go.Proofs.Tryd.prog 37 [.view b1 l1 0 [] 1 0 32 32, .view b2 l2 0 [] 1 0 32 32] H fun r H' => r = .lit (.int .i64 (Go.Lib.compareBytes k1 k2)) ∧ H' = H := by
  have h442 := fc442_eq
  refine XCall.le ?_
  have lb1 := (List.getElem?_eq_some_iff.1 h1).1
  have lb2 := (List.getElem?_eq_some_iff.1 h2).1
  have g1 := listB_key (blk := fun b => ((H ++ List.replicate 8 none)[b]?).join) (b := b1) (lo := 0) (len := 32) (cap := 32) (k := k1) (l := l1) (n := n1) (by rw [List.getElem?_append_left lb1, h1]; rfl) (by omega)
  have g2 := listB_key (blk := fun b => ((H ++ List.replicate 8 none)[b]?).join) (b := b2) (lo := 0) (len := 32) (cap := 32) (k := k2) (l := l2) (n := n2) (by rw [List.getElem?_append_left lb2, h2]; rfl) (by omega)
  rw [List.drop_zero, List.take_of_length_le (by omega)] at g1 g2
  refine XCall.of h442 rfl ?_; show AC.wp _ fb442 ⟨H.length, [.view b1 l1 0 [] 1 0 32 32, .view b2 l2 0 [] 1 0 32 32] ++ List.replicate (8 - 2) .any, H ++ List.replicate 8 none⟩ (fun x s => match x with | .exit _ => False | _ => ∃ s1, Le s s1 ∧ FinX [(.tmp 4)] s1 _); unfold fb442
  refine wp_sr (by simp [push_cast]; exact rfl) (wp_sg ?_)
  refine areg_run 2 (by simp [push_cast]; exact rfl) ?_
  refine areg_bcmp rfl rfl g1 g2 rfl rfl ?_
  refine areg_end (by simp [push_cast]; exact rfl) (wp_ret' ?_)
  exact ⟨_, Le.refl _, finX1 (v := .lit (.int .i64 (Go.Lib.compareBytes k1 k2))) rfl (by simp) ⟨_, H, RelLe.refl _, by simp, HpLe.trim _ _, rfl, rfl⟩⟩
structure TsOk (ts : List Term) : Prop where
  len : ts.length < 90000
  ok : ∀ x ∈ ts, TermOk x
  pub : ∀ x ∈ ts, x.kind = 3 → ∃ k, x.keys = [k]
  two : ∀ x ∈ ts, x.kind = 4 ∨ x.kind = 6 → 2 ≤ x.keys.length
def WfT (x : Term) : Prop := (x.kind = 3 → ∃ k, x.keys = [k]) ∧ (x.kind = 4 ∨ x.kind = 6 → 2 ≤ x.keys.length)
def agreeX (ts : List Term) (a p : List UInt8) : Option Term :=
  if p = zk then none else if ts.length ≤ be32 p ∨ nameK (be32 p) ≠ p then some ⟨5, [], [a, p]⟩ else match ts[be32 p]? with
    | some x => if x.kind = 3 then (if 0 < Go.Lib.compareBytes a (x.keys.getD 0 zk) then some ⟨4, [], [x.keys.getD 0 zk, a]⟩ else some ⟨4, [], [a, x.keys.getD 0 zk]⟩) else some ⟨5, [], [a, p]⟩
    | none => none
def AgreeK (H : List (Option Blk)) (t : Tb) (ts : List Term) (o : Option Term) (r : AV) (H' : List (Option Blk)) : Prop :=
  match o with
  | none => r = .tup [keyA zk, .lit (.bool false)] ∧ H' = H
  | some x => r = .tup [keyA (nameK (putN ts x)), .lit (.bool true)] ∧ ∃ V', H' = tbOf H t V' (putT ts x)
theorem fin_agree {H G L : List (Option Blk)} {t : Tb} {ts : List Term} {x : Term} {V' : Value} {c d : Tmp} {s : AS} (hr : RVal s (.cell c true 32) = some (keyA (nameK (putN ts x)))) (hd : RVal s (.tmp d) = some (.lit (.bool true))) (hg : G = tbOf H t V' (putT ts x)) (hp : s.hp = G ++ L) :
    ∃ s1, Le s s1 ∧ FinX [RV.cell c true 32, RV.tmp d] s1 fun r H' => ∃ r' A, RelLe r r' ∧ r' ≠ .any ∧ HpLe H' A ∧ AgreeK H t ts (some x) r' A :=
  ⟨s, Le.refl _, [], _, ⟨_, rfl, by simp only [AS.seals, RVals, hr, hd], by simp [keyA]⟩, _, G, RelLe.refl _, by simp, by show HpLe s.hp G; rw [hp]; exact HpLe.trim _ _, rfl, V', hg⟩
theorem areg_bz {P : Program} {s : AS} {K : AS → Prop} {xs : List AOp} {d : Option Tmp} {fo : List Tmp} {ow : Option Tmp} (h : AReg P xs (s.put d (keyA zk)) K) : AReg P (⟨d, none, .build (.arr 1 (List.replicate 32 (.lit (bn 0)))) [], fo, ow⟩ :: xs) s K := by
  refine AOp.ex_go (s' := s.put d (keyA zk)) ?_ h
  rw [zk_eq]
  rfl
theorem bin_lssm : binVal .lss (.int .i64 (-1)) (jn 0) = some (.bool true) := by simp [binVal, jn]
theorem bin_gtri (x : Int) : binVal .gtr (.int .i64 x) (jn 0) = some (.bool (decide (0 < x))) := by simp [binVal, jn]
end Go.Cab
namespace Go.Cab
open Classical
def fb419 : AC := (.seq (.reg [⟨some 0, none, .mov (.const (.pointer .none)), [], none⟩]) (.seq (.reg [⟨some 1, none, .ef .mkmap [], [], none⟩, ⟨some 2, none, .build (.st [1, 1] [(.lit (.slice .none 0 0)), (.lit (.map .none))]) [(1, (.tmp 1))], [], none⟩, ⟨some 3, none, .box 2 (.tmp 2), [], none⟩, ⟨some 0, none, .mov (.tmp 3), [], none⟩]) .ret))
def fc419 : FC := ⟨0, 4, [(.tmp 0)], fb419⟩
theorem fc419_eq : compF Go.Proofs.Tryd.prog 21 = some fc419 := by kernel_rfl
def fb411 : AC := (.seq (.reg [⟨some 0, none, .alloc 1 (.st [1] [(.lit (.pointer .none))]), [], none⟩]) (.seq (.reg [⟨some 1, none, .xc (.dir 21) [] [] [], [], none⟩, ⟨some 2, none, .build (.st [1] [(.lit (.pointer .none))]) [(0, (.tmp 1))], [], none⟩, ⟨none, none, .store 1 (.tmp 0) (.tmp 2), [], none⟩]) .ret))
def fc411 : FC := ⟨0, 3, [(.cell 0 .true 1)], fb411⟩
theorem fc411_eq : compF Go.Proofs.Tryd.prog 8 = some fc411 := by kernel_rfl
def tbNew (N : Nat) (l : Nat × Nat) (r : Nat) : Tb := ⟨N, N + 1, N + 2, l, r⟩
def newL (N : Nat) (l : Nat × Nat) (r : Nat) : List (Option Blk) := [some (tbk l (N + 1) (N + 2) r (.slice none 0 0)), some (trk (.slice none 0 0) []), some (tmk r [])]
theorem new_ok (H : List (Option Blk)) (l : Nat × Nat) (r : Nat) : TbOk (H ++ newL H.length l r) (tbNew H.length l r) (.slice none 0 0) [] :=
  ⟨by simp [tbNew], by simp [tbNew], by simp [tbNew], by rw [List.getElem?_append_right (by simp [tbNew])]; simp [tbNew, newL], by rw [List.getElem?_append_right (by simp [tbNew])]; simp [tbNew, newL], by rw [List.getElem?_append_right (by simp [tbNew])]; simp [tbNew, newL]⟩
set_option maxHeartbeats 2000000 in
theorem new_call (H : List (Option Blk)) : XCall Go.Proofs.Tryd.prog 21 [] H fun r H' => ∃ l rr, r = .ptr H.length l 0 [] ∧ H' = H ++ newL H.length l rr := by
  have h419 := fc419_eq
  refine XCall.le ?_
  refine XCall.of h419 rfl ?_; show AC.wp _ fb419 ⟨H.length, [] ++ List.replicate (4 - 0) .any, H ++ List.replicate 4 none⟩ (fun x s => match x with | .exit _ => False | _ => ∃ s1, Le s s1 ∧ FinX [(.tmp 0)] s1 _); unfold fb419
  generalize hN : H.length = N at *
  have p1 : ∀ L k, (H ++ L)[N + k]? = L[k]? := fun L k => cat1 N H L k hN
  have p2 : ∀ L k x, (H ++ L).set (N + k) x = H ++ L.set k x := fun L k x => cat2 N H L k x hN
  refine wp_sr (by simp [push_cast]; exact rfl) (wp_sg ?_)
  refine areg_mkmap fun rr => ?_
  refine areg_run 1 (by simp [push_cast]; exact rfl) ?_
  refine areg_bx rfl rfl fun l => areg_end (by simp [push_cast, p2]; exact rfl) (wp_ret' ?_)
  refine ⟨_, Le.nilField (b := N + 3) (j := N + 0) (l := l) (n := 2) (v := .st [1, 1] [.lit (.slice none 0 0), .own (N + 1) (.map (some rr))]) (v' := .st [1, 1] [.own (N + 0) (.slice none 0 0), .own (N + 1) (.map (some rr))]) (by simp only [AS.blk, p1]; rfl) (AVle.st1 (AVle.nil _) (AVle.st1 (AVle.refl _) AVle.st0)) (by simp only [AS.blk, p1]; rfl) (by simp; omega) (by simp; omega) 149 3, ?_⟩
  simp only [p2]
  refine finX1 (v := .ptr (N + 3) l 0 []) rfl (by simp) ⟨.ptr N l 0 [], H ++ newL N l rr, RelLe.ptr _ _ _ _ _, by simp, ?_, l, rr, rfl, rfl⟩
  refine HpLe.gen (fun k => if k = N then N + 3 else if k = N + 1 then N else if k = N + 2 then N + 1 else k) (fun k k' x y hx hy e => ?_) (fun k x hx => ?_)
  · have hlt : ∀ (k : Nat) (x : Blk), ((H ++ newL N l rr)[k]?).join = some x → k < N + 3 := fun k x hx => by
      by_cases h : k < N + 3
      · exact h
      · rw [List.getElem?_eq_none (by simp [newL]; omega)] at hx; cases hx
    have := hlt k x hx
    have := hlt k' y hy
    try simp only at e
    split at e <;> split at e <;> (try split at e) <;> (try split at e) <;> (try split at e) <;> (try split at e) <;> omega
  · by_cases h1 : k < N
    · rw [cat4 N H _ k hN h1] at hx
      refine ⟨x, ?_, BlkLe.refl _⟩
      simp only [show k ≠ N by omega, show k ≠ N + 1 by omega, show k ≠ N + 2 by omega, if_false]
      rw [cat4 N H _ k hN h1]; exact hx
    · obtain ⟨i, rfl⟩ : ∃ i, k = N + i := ⟨k - N, by omega⟩
      rw [p1] at hx
      match i, hx with
      | 0, hx =>
        simp only [newL, List.getElem?_cons_zero, Option.join_some, Option.some.injEq] at hx
        subst hx
        refine ⟨.box l 2 (.st [1, 1] [.own (N + 0) (.slice none 0 0), .own (N + 1) (.map (some rr))]), ?_, BlkLe.box (AVle.st1 (AVle.own _ _ _) (AVle.st1 (AVle.own _ _ _) AVle.st0))⟩
        simp only [Nat.add_zero, if_true]
        rw [p1]; rfl
      | 1, hx =>
        simp only [newL, List.getElem?_cons_succ, List.getElem?_cons_zero, Option.join_some, Option.some.injEq] at hx
        subst hx
        refine ⟨_, ?_, BlkLe.refl _⟩
        simp only [show N + 1 ≠ N by omega, if_false, if_true]
        have := p1 [some (.row 149 (.slice none 0 0) 3 [] 0), some (.map rr [] 0), none, some (.box l 2 (.st [1, 1] [.own (N + 0) (.slice none 0 0), .own (N + 1) (.map (some rr))]))] 0
        rw [Nat.add_zero] at this
        first | (rw [this]; rfl) | (simp [this]; rfl)
      | 2, hx =>
        simp only [newL, List.getElem?_cons_succ, List.getElem?_cons_zero, Option.join_some, Option.some.injEq] at hx
        subst hx
        refine ⟨_, ?_, BlkLe.refl _⟩
        simp only [show N + 2 ≠ N by omega, show N + 2 ≠ N + 1 by omega, if_false, if_true]
        rw [p1]; rfl
      | i + 3, hx => simp [newL] at hx
def freeS (b : Nat) (l : Nat × Nat) : AV := .st [1] [.ptr b l 0 []]
def freeI (b : Nat) (l : Nat × Nat) : AV := .ifc 34 (freeS b l)
theorem AVle.ptr (b b' : Nat) (l : Nat × Nat) (off : Nat) (p : List Nat) : AVle (.ptr b l off p) (.ptr b' l off p) := fun Imm w cs h => by
  cases h; exact .ptr b' l off p
theorem RelLe.st {ns ns' : List Nat} {fs fs' : List AV} (h : AVle (.st ns fs) (.st ns' fs')) : RelLe (.st ns fs) (.st ns' fs') := fun Imm w V hr => by
  rcases hr with hr | ⟨cs, hr, e⟩
  · cases hr
  · exact .inr ⟨cs, h _ _ _ hr, e⟩
theorem HpLe.new (H A : List (Option Blk)) (l : Nat × Nat) (r : Nat) : HpLe (H ++ A ++ newL (H.length + A.length) l r) (H ++ newL H.length l r) := by
  have hlt : ∀ (k : Nat) (x : Blk), ((H ++ newL H.length l r)[k]?).join = some x → k < H.length + 3 := fun k x hx => by
    by_cases h : k < H.length + 3
    · exact h
    · rw [List.getElem?_eq_none (by simp [newL]; omega)] at hx; cases hx
  refine HpLe.gen (fun k => if k < H.length then k else k + A.length) (fun k k' x y hx hy e => ?_) (fun k x hx => ?_)
  · try simp only at e
    split at e <;> split at e <;> omega
  · have h3 := hlt k x hx
    by_cases h1 : k < H.length
    · refine ⟨x, ?_, BlkLe.refl _⟩
      rw [List.getElem?_append_left h1] at hx
      rw [if_pos h1, List.append_assoc, List.getElem?_append_left h1]; exact hx
    · obtain ⟨i, rfl⟩ : ∃ i, k = H.length + i := ⟨k - H.length, by omega⟩
      rw [cat1 H.length H _ i rfl] at hx
      have e : ((H ++ A ++ newL (H.length + A.length) l r)[if H.length + i < H.length then H.length + i else H.length + i + A.length]?) = (newL (H.length + A.length) l r)[i]? := by
        rw [if_neg (by omega), show H.length + i + A.length = (H.length + A.length) + i by omega, cat1 (H.length + A.length) (H ++ A) _ i (by simp)]
      rw [e]
      match i, hx with
      | 0, hx =>
        simp only [newL, List.getElem?_cons_zero, Option.join_some, Option.some.injEq] at hx
        subst hx
        exact ⟨_, rfl, BlkLe.box (AVle.st1 (AVle.own _ _ _) (AVle.st1 (AVle.own _ _ _) AVle.st0))⟩
      | 1, hx =>
        simp only [newL, List.getElem?_cons_succ, List.getElem?_cons_zero, Option.join_some, Option.some.injEq] at hx
        subst hx
        exact ⟨_, rfl, BlkLe.refl _⟩
      | 2, hx =>
        simp only [newL, List.getElem?_cons_succ, List.getElem?_cons_zero, Option.join_some, Option.some.injEq] at hx
        subst hx
        exact ⟨_, rfl, BlkLe.refl _⟩
      | i + 3, hx => simp [newL] at hx
set_option maxHeartbeats 2000000 in
theorem newfree_call (H : List (Option Blk)) : XCall Go.Proofs.Tryd.prog 8 [] H fun r H' => ∃ l rr, r = freeS H.length l ∧ H' = H ++ newL H.length l rr := by
  have h411 := fc411_eq
  refine XCall.le ?_
  have hcal : callable Go.Proofs.Tryd.prog 21 = true := by kernel_rfl
  refine XCall.of h411 rfl ?_; show AC.wp _ fb411 ⟨H.length, [] ++ List.replicate (3 - 0) .any, H ++ List.replicate 3 none⟩ (fun x s => match x with | .exit _ => False | _ => ∃ s1, Le s s1 ∧ FinX [(.cell 0 .true 1)] s1 _); unfold fb411
  have hle := fun A l rr => HpLe.new H A l rr
  generalize hN : H.length = N at *
  have p2 : ∀ L x, (H ++ L).set N x = H ++ L.set 0 x := fun L x => cat2 N H L 0 x hN
  have p1 : ∀ L, (H ++ L)[N]? = L[0]? := fun L => cat1 N H L 0 hN
  have hl : ∀ L : List (Option Blk), (H ++ L).length = N + L.length := fun L => by rw [List.length_append, hN]
  refine wp_sg (areg_al fun l0 => areg_end (by simp [push_cast, p2]; exact rfl) ?_)
  refine wp_sg ?_
  refine areg_run 0 (by simp [push_cast, p2]; exact rfl) ?_
  refine areg_xq (us := []) rfl (by simp only [tgtA, tgtB, Option.bind_some, hcal, if_true]) (new_call _) ⟨_, _, (0, 0), 0, rfl, rfl⟩ (fun r hp' _ t' ht' => by cases ht') ?_
  rintro r H' ⟨l, rr, rfl, rfl⟩
  refine areg_run 0 (by simp [push_cast, hl]; exact rfl) ?_
  refine areg_end (by simp [push_cast, p1, p2]; exact rfl) (wp_ret' ?_)
  refine ⟨_, Le.refl _, [], freeS (N + 3) l, ⟨by simp [RVal, AS.seals, AS.ev, AS.peek, AS.blk, p1, Blk.loc, Blk.cont, Blk.n, AV.nav, AV.isAgg, AV.isTup]; rfl, by simp [freeS]⟩, freeS N l, H ++ newL N l rr, RelLe.st (AVle.st1 (AVle.ptr _ _ _ _ _) AVle.st0), by simp [freeS], ?_, l, rr, rfl, rfl⟩
  have := hle [some (.box l0 1 (.st [1] [.ptr (N + 3) l 0 []])), none, none] l rr
  rw [List.append_assoc] at this
  exact this
def dig8 (n : Nat) : UInt8 := UInt8.ofNat (48 + n)
def digs (n : Nat) : List UInt8 := if h : n < 10 then [dig8 n] else digs (n / 10) ++ [dig8 (n % 10)]
termination_by n
decreasing_by omega
theorem digs_len (n : Nat) : (digs n).length ≤ n + 1 := by
  induction n using Nat.strongRecOn with
  | ind n ih =>
    rw [digs]
    split
    · simp
    · have := ih (n / 10) (by omega)
      simp only [List.length_append, List.length_cons, List.length_nil]
      omega
end Go.Cab
namespace Go.Cab
open Classical
theorem tgt_hash (b : Nat) (l : Nat × Nat) (x y : AV) : tgtA Go.Proofs.Tryd.prog (.inv "Hash") [freeI b l, x, y] = some (95, [.ptr b l 0 [], x, y]) := by kernel_rfl
theorem TsOk.put {ts : List Term} (h : TsOk ts) {x : Term} (hx : TermOk x) (h3 : WfT x) (hl : ts.length + 1 < 90000) : TsOk (putT ts x) := by
  unfold putT
  cases findT (shapeT x) ts 0 with
  | some n => exact h
  | none =>
    refine ⟨by simp; omega, fun y hy => ?_, fun y hy => ?_, fun y hy => ?_⟩
    · rcases List.mem_append.1 hy with hy | hy
      · exact h.ok y hy
      · simp at hy; subst hy; exact hx
    · rcases List.mem_append.1 hy with hy | hy
      · exact h.pub y hy
      · simp at hy; subst hy; exact h3.1
    · rcases List.mem_append.1 hy with hy | hy
      · exact h.two y hy
      · simp at hy; subst hy; exact h3.2
theorem agreeX_ok {ts : List Term} (h : TsOk ts) {a p : List UInt8} (ha : a.length = 32) (hp : p.length = 32) {x : Term} (hx : agreeX ts a p = some x) : TermOk x ∧ WfT x := by
  unfold agreeX at hx
  have mk : ∀ (k : Nat) (u v : List UInt8), k < 256 → u.length = 32 → v.length = 32 → TermOk ⟨k, [], [u, v]⟩ := fun k u v hk hu hv => ⟨hk, by simp, by simp, by simp [hu, hv]⟩
  split at hx
  · cases hx
  · split at hx
    · cases hx; exact ⟨mk 5 a p (by omega) ha hp, ⟨by simp, by simp⟩⟩
    · split at hx
      · rename_i y hy
        have hmem := List.mem_of_getElem? hy
        split at hx
        · rename_i h3
          obtain ⟨k, hk⟩ := h.pub y hmem h3
          have hk32 : k.length = 32 := (h.ok y hmem).k32 k (by rw [hk]; simp)
          rw [hk] at hx
          simp only [List.getD_cons_zero] at hx
          split at hx
          · cases hx; exact ⟨mk 4 k a (by omega) hk32 ha, ⟨by simp, by simp⟩⟩
          · cases hx; exact ⟨mk 4 a k (by omega) ha hk32, ⟨by simp, by simp⟩⟩
        · cases hx; exact ⟨mk 5 a p (by omega) ha hp, ⟨by simp, by simp⟩⟩
      · cases hx
section
variable {H : List (Option Blk)} {t : Tb} {V : Value} {ts : List Term}
theorem TbOk.other (h : TbOk H t V ts) (V' : Value) (ts' : List Term) {c : Nat} (h1 : c ≠ t.b) (h2 : c ≠ t.j) (h3 : c ≠ t.m) : (tbOf H t V' ts')[c]? = H[c]? := by
  unfold tbOf
  rw [List.getElem?_set_ne h3.symm, List.getElem?_set_ne h2.symm, List.getElem?_set_ne h1.symm]
theorem TbOk.at (h : TbOk H t V ts) (V' : Value) (ts' : List Term) (L : List (Option Blk)) : TbOk (tbOf H t V' ts' ++ L) t V' ts' := (h.of V' ts').app L
theorem TbOk.at_of (h : TbOk H t V ts) (V' V2 : Value) (ts' ts2 : List Term) (L : List (Option Blk)) : tbOf (tbOf H t V' ts' ++ L) t V2 ts2 = tbOf H t V2 ts2 ++ L := by
  rw [(h.of V' ts').of_app, h.of_of]
end
def AgAt (H : List (Option Blk)) (t : Tb) (V : Value) (ts : List Term) (L : List (Option Blk)) (o : Option Term) (r : AV) (H' : List (Option Blk)) : Prop :=
  match o with
  | none => r = .tup [keyA zk, .lit (.bool false)] ∧ H' = tbOf H t V ts ++ L
  | some x => r = .tup [keyA (nameK (putN ts x)), .lit (.bool true)] ∧ ∃ V', H' = tbOf H t V' (putT ts x) ++ L
theorem AgAt.ex (H : List (Option Blk)) (t : Tb) (V : Value) (ts : List Term) (L : List (Option Blk)) (o : Option Term) : ∃ r H', AgAt H t V ts L o r H' := by
  cases o with
  | none => exact ⟨_, _, rfl, rfl⟩
  | some x => exact ⟨_, _, rfl, .slice none 0 0, rfl⟩
theorem leH_app : ∀ {A A' B B' : List (Option Blk)}, leH A A' → leH B B' → leH (A ++ B) (A' ++ B')
  | [], [], _, _, _, h => h
  | _ :: _, _ :: _, _, _, h, k => ⟨h.1, leH_app h.2 k⟩
theorem leH_none (x : Option Blk) : ∀ (l : List (Option Blk)) (b : Nat), leH (l.set b x) (l.set b none)
  | [], _ => trivial
  | a :: l, 0 => ⟨.inl rfl, leH_refl l⟩
  | a :: l, b + 1 => ⟨.inr rfl, leH_none x l b⟩
theorem leT_refl : ∀ l : List AV, leT l l
  | [] => trivial
  | _ :: l => ⟨.inr rfl, leT_refl l⟩
theorem Le.sealed {s : AS} {t b e esz sl : Nat} {V : Value} {els : List AV} (ht : s.tm[t]? = some (.own b V)) (hb : s.blk b = some (.row e V esz els sl)) : Le s ⟨s.nr, s.tm.set t (.sl esz els), s.hp.set b none⟩ := by
  have hlt : b < s.hp.length := by
    by_cases h : b < s.hp.length
    · exact h
    · unfold AS.blk at hb; rw [List.getElem?_eq_none (by omega)] at hb; cases hb
  have h1 := Le.seals s [b]
  have e1 : s.seals [b] = s.setBlk b (some (.row e V esz els els.length)) := by
    simp only [AS.seals, AS.seal1, hb]
  rw [e1] at h1
  have h2 := Le.unown (s := s.setBlk b (some (.row e V esz els els.length))) (t := t) (b := b) (e := e) (V := V) (esz := esz) (els := els) ht (by simp [AS.setBlk, AS.blk, hlt])
  refine Le.trans h1 (Le.trans h2 (Le.mk rfl (leT_refl _) ?_))
  exact leH_none _ _ _
abbrev KK := List UInt8 × List UInt8
def pairA (x : KK) : AV := .st [32, 32] [keyA x.1, keyA x.2]
def agreedG : List Term → List (List UInt8) → List KK → Option (List (List UInt8)) × List Term
  | ts, acc, [] => (some acc, ts)
  | ts, acc, x :: rest => match agreeX ts x.1 x.2 with
    | none => (none, ts)
    | some y => agreedG (putT ts y) (acc ++ [nameK (putN ts y)]) rest
def hello : List UInt8 := [104, 101, 108, 108, 111]
def agreedT (ts : List Term) (ps : List KK) : Option (List UInt8) × List Term :=
  match agreedG ts [] ps with
  | (none, ts') => (none, ts')
  | (some l, ts') => (some (nameK (putN ts' ⟨2, hello, l⟩)), putT ts' ⟨2, hello, l⟩)
def optK : Option (List UInt8) → AV
  | none => .tup [keyA zk, .lit (.bool false)]
  | some k => .tup [keyA k, .lit (.bool true)]
def AgreedK (H : List (Option Blk)) (t : Tb) (o : Option (List UInt8) × List Term) (r : AV) (H' : List (Option Blk)) : Prop := r = optK o.1 ∧ ∃ V', H' = tbOf H t V' o.2
theorem AgreedK.ex (H : List (Option Blk)) (t : Tb) (o : Option (List UInt8) × List Term) : ∃ r H', AgreedK H t o r H' := ⟨_, _, rfl, .slice none 0 0, rfl⟩
def agS (N : Nat) (H : List (Option Blk)) (t : Tb) (c : Nat) (Vc : Value) (n : Nat) (l4 : Nat × Nat) (x : Nat × List (List UInt8) × List Term × Value × Value) : AS :=
  ⟨N, [freeI t.b t.l, .own c Vc, .any, .any, .ptr (N + 4) l4 0 [], .lit (.bool false), .own (N + 32) x.2.2.2.1, .any, .any, .any, .any, .own c Vc, .lit (jn n), .lit (jn x.1)] ++ List.replicate 23 .any,
    tbOf H t x.2.2.2.2 x.2.2.1 ++ ([none, none, none, none, some (.box l4 32 (keyA zk))] ++ List.replicate 27 none ++ [some (.row 26 x.2.2.2.1 32 (klA x.2.1) 0)] ++ List.replicate 4 none)⟩
end Go.Cab
namespace Go.Cab
open Classical
def pubT (k : List UInt8) : Term := ⟨3, [], [k]⟩
theorem pubT_ok {k : List UInt8} (h : k.length = 32) : TermOk (pubT k) := ⟨by simp [pubT], by simp [pubT], by simp [pubT], by simp [pubT, h]⟩
theorem TsOk.putPub {ts : List Term} (h : TsOk ts) {k : List UInt8} (hk : k.length = 32) (hl : ts.length + 1 < 90000) : TsOk (putT ts (pubT k)) :=
  TsOk.put h (pubT_ok hk) ⟨fun _ => ⟨k, rfl⟩, fun h => by simp [pubT] at h⟩ hl
structure Hello where
  id : List UInt8
  eph : List UInt8
  one : List UInt8
structure HelloOk (h : Hello) : Prop where
  id : h.id.length = 32
  eph : h.eph.length = 32
  one : h.one.length = 32
def helloA (h : Hello) : AV := .st [32, 32, 32] [keyA h.id, keyA h.eph, keyA h.one]
def idxF (one : List UInt8) : List Term → List (List UInt8) → Nat → Option Nat × List Term
  | ts, [], _ => (none, ts)
  | ts, x :: xs, i => if nameK (putN ts (pubT x)) = one then (some i, putT ts (pubT x)) else idxF one (putT ts (pubT x)) xs (i + 1)
def idxV : Option Nat → Value
  | none => .int .i64 (-1)
  | some n => jn n
end Go.Cab

namespace Go.Cab
open Classical
section
variable {P : Program} {s : AS} {K : AS → Prop} {xs : List AOp}
theorem areg_rdp {d : Option Tmp} {g : RdOp} {ys : List Operand} {fo : List Tmp} {ow : Option Tmp} {us : List AV} {v : AV} (ha : (ys.map fun x => s.ev x) = us) (hv : rdA P (fun _ => none) g us = some v) (h : AReg P xs (s.put d v) K) :
    AReg P (⟨d, none, .rdp g ys, fo, ow⟩ :: xs) s K := by
  subst ha
  unfold AReg AOp.go
  simp only [AI.go, hv]
  exact ⟨by cases ow <;> trivial, h⟩
end
theorem R_setF {Imm : Nat → Nat → Prop} {w : World} {u u' : AV} (hu : ∀ c, R Imm w u c → R Imm w u' c) : ∀ {fs : List AV} {ns : List Nat} {i : Nat} {cs : List Value}, fs[i]? = some u → R Imm w (.st ns fs) cs → R Imm w (.st ns (fs.set i u')) cs
  | [], _, _, _, hf, _ => by simp at hf
  | f :: fs, ns, i, cs, hf, h => by
    cases h with
    | st1 n ns _ _ c d hc hl hs hd =>
      cases i with
      | zero =>
        simp only [List.getElem?_cons_zero, Option.some.injEq] at hf
        subst hf
        exact .st1 n ns u' fs c d (hu c hc) hl hs hd
      | succ i => exact .st1 n ns f _ c d hc hl hs (R_setF hu (by simpa using hf) hd)
theorem Le.sealedF {s : AS} {b j n i e esz sl : Nat} {l : Nat × Nat} {ns : List Nat} {fs els : List AV} {V : Value} (hb : s.blk b = some (.box l n (.st ns fs))) (hf : fs[i]? = some (.own j V)) (hj : s.blk j = some (.row e V esz els sl)) :
    Le s ⟨s.nr, s.tm, (s.hp.set b (some (.box l n (.st ns (fs.set i (.sl esz els)))))).set j none⟩ := by
  have hbj : b ≠ j := fun he => by subst he; rw [hb] at hj; cases hj
  have hlt : ∀ k x, s.blk k = some x → k < s.hp.length := fun k x hk => by
    by_cases h : k < s.hp.length
    · exact h
    · unfold AS.blk at hk; rw [List.getElem?_eq_none (by omega)] at hk; cases hk
  have hlb := hlt b _ hb
  have hlj := hlt j _ hj
  have h1 := Le.seals s [j]
  have e1 : s.seals [j] = s.setBlk j (some (.row e V esz els els.length)) := by
    simp only [AS.seals, AS.seal1, hj]
  rw [e1] at h1
  refine Le.trans h1 ?_
  have hb2 : (s.setBlk j (some (.row e V esz els els.length))).blk b = some (.box l n (.st ns fs)) := by
    simp only [AS.blk, AS.setBlk] at hb ⊢
    rw [List.getElem?_set_ne hbj.symm]; exact hb
  have hj2 : (s.setBlk j (some (.row e V esz els els.length))).blk j = some (.row e V esz els els.length) := by
    simp [AS.blk, AS.setBlk, hlj]
  generalize hs' : s.setBlk j (some (.row e V esz els els.length)) = s' at *
  have e2 : s' = ⟨s.nr, s.tm, s.hp.set j (some (.row e V esz els els.length))⟩ := hs'.symm
  intro w0 wk regs St a w h
  obtain ⟨Imm, h2, h3, h4, hseal⟩ := h.seals
  have hu : ∀ c, R Imm w (.own j V) c → R Imm w (.sl esz els) c := fun c hc => by
    have hrel : Rel Imm w (.own j V) V := by
      cases hc with
      | own _ _ hs => exact .inr ⟨[V], .own j V hs, rfl⟩
    have := coe_sound (ro := tt) h4 hseal hrel
    have hcoe : s'.coe tt (.own j V) = .sl esz els := by simp [AS.coe, tt, hj2]
    rw [hcoe] at this
    rcases this with h | ⟨cs, h, e⟩
    · cases h
    · cases hc
      cases h with
      | slnil _ a0 => rw [e]; exact .slnil esz a0
      | sl _ _ cs b o cap ha hb hc => rw [e]; exact .sl esz els cs b o cap ha hb hc
  have hnew : ∀ (k : Nat) (x : Blk), (((s.hp.set b (some (.box l n (.st ns (fs.set i (.sl esz els)))))).set j none)[k]?).join = some x → ∃ y, (s'.hp[k]?).join = some y ∧ (y.ok Imm w → x.ok Imm w) ∧ ∀ b o, x.foot b o → y.foot b o := fun k x hx => by
    obtain ⟨hkj, hx⟩ := hp_set_none hx
    rcases hp_set hx with ⟨rfl, rfl⟩ | ⟨hkb, hx⟩
    · refine ⟨_, hb2, fun ⟨⟨cs, hc, hr⟩, hn⟩ => ⟨⟨cs, R_setF hu hf hc, hr⟩, hn⟩, fun b o hf => hf⟩
    · refine ⟨x, ?_, id, fun _ _ h => h⟩
      rw [e2]
      show ((s.hp.set j _)[k]?).join = some x
      rw [List.getElem?_set_ne (Ne.symm hkj)]
      exact hx
  have hnr : s'.nr = s.nr := by rw [e2]
  have htm : s'.tm = s.tm := by rw [e2]
  refine ⟨h.defers, by rw [h.tsize, htm], h.tab, h.frame, Imm, h2, by rw [← htm]; exact h3, ⟨fun k x hx => ?_, fun k k' x y hne hx hy b' o hf hf' => ?_⟩⟩
  · obtain ⟨y, hy, g1, g2⟩ := hnew k x hx
    obtain ⟨g3, g4⟩ := h4.ok k y hy
    exact ⟨g1 g3, fun b o hf => g4 b o (g2 b o hf)⟩
  · obtain ⟨u, hu', _, g2⟩ := hnew k x hx
    obtain ⟨v, hv', _, g3⟩ := hnew k' y hy
    exact h4.apart k k' u v hne hu' hv' b' o (g2 b' o hf) (g3 b' o hf')
theorem setE_cat (N : Nat) (G : List (Option Blk)) (hG : G.length = N) : ∀ (E : List (Tmp × Blk)) (L : List (Option Blk)), setE N (G ++ L) E = G ++ setE 0 L E
  | [], _ => rfl
  | (t, x) :: E, L => by
    show setE N ((G ++ L).set (N + t) (some x)) E = G ++ setE 0 (L.set (0 + t) (some x)) E
    rw [cat2 N G L t _ hG, setE_cat N G hG E, Nat.zero_add]
theorem xf_of {P : Program} {f : FuncId} {vs : List AV} {G L : List (Option Blk)} {N : Nat} (hG : G.length = N) {KG : AV → List (Option Blk) → Prop} (h : ∀ L, XCall P f vs (G ++ L) fun r H' => ∃ G', KG r G' ∧ H' = G' ++ L) (hl : ∀ r G', KG r G' → G'.length = N) (E : List (Tmp × Blk)) :
    XCall P f vs (setE N (G ++ L) E) fun r H' => ∃ hp', (∃ G', KG r G' ∧ hp' = G' ++ L) ∧ H' = setE N hp' E := by
  rw [setE_cat N G hG]
  refine XCall.mono (h _) ?_
  rintro r H' ⟨G', hk, rfl⟩
  exact ⟨G' ++ L, ⟨G', hk, rfl⟩, (setE_cat N G' (hl r G' hk) E L).symm⟩
structure Store where
  id : List UInt8
  pre : List UInt8
  ones : List (List UInt8)
def storeA (s : Store) : AV := .st [32, 32, 1] [keyA s.id, keyA s.pre, .sl 32 (klA s.ones)]
structure StoreOk (s : Store) : Prop where
  id : s.id.length = 32
  pre : s.pre.length = 32
  ones : ∀ k ∈ s.ones, k.length = 32
  len : s.ones.length < 900
def drawT (s : List UInt8) : Term := ⟨1, s, []⟩
def txId : List UInt8 := [105, 100]
def txPre : List UInt8 := [112, 114, 101]
def txOne : List UInt8 := [111, 110, 101, 32]
theorem drawT_ok {s : List UInt8} (h : s.length < 1000) : TermOk (drawT s) := ⟨by simp [drawT], by simp [drawT]; omega, by simp [drawT], by simp [drawT]⟩
theorem TsOk.draw {ts : List Term} (h : TsOk ts) {s : List UInt8} (hs : s.length < 1000) (hl : ts.length + 1 < 90000) : TsOk (putT ts (drawT s)) :=
  TsOk.put h (drawT_ok hs) ⟨fun h => by simp [drawT] at h, fun h => by simp [drawT] at h⟩ hl
def onesG : Nat → List Term → List (List UInt8) → Nat → List (List UInt8) × List Term
  | 0, ts, acc, _ => (acc, ts)
  | m + 1, ts, acc, i => onesG m (putT ts (drawT (txOne ++ digs i))) (acc ++ [nameK (putN ts (drawT (txOne ++ digs i)))]) (i + 1)
def storeT (ts : List Term) (n : Nat) : Store × List Term :=
  let ts1 := putT ts (drawT txId)
  let ts2 := putT ts1 (drawT txPre)
  let o := onesG n ts2 [] 0
  (⟨nameK (putN ts (drawT txId)), nameK (putN ts1 (drawT txPre)), o.1⟩, o.2)
theorem nilv_draw (b : Nat) (l : Nat × Nat) : rdA Go.Proofs.Tryd.prog (fun _ => none) .nilv [.fnv (.method "Draw") [freeI b l] []] = some (.fnv (.method "Draw") [freeI b l] []) := by kernel_rfl
theorem mkfn_draw (b : Nat) (l : Nat × Nat) (nm : String) : rdA Go.Proofs.Tryd.prog (fun _ => none) (.mkfn (.method nm) 1) [freeI b l] = some (.fnv (.method nm) [freeI b l] []) := rfl
theorem cvt_64jx (n : Nat) (h : n < 1000000) : cvtA .u64 (.lit (jn n)) = some (.lit (un n)) := by
  simp only [cvtA, jn, wrap_u64]; rw [Nat.mod_eq_of_lt (by omega)]; rfl
end Go.Cab
namespace Go.Cab
open Classical
def fb523 : AC := (.seq (.reg [⟨some 2, none, .mov (.const (.bool false)), [], none⟩]) (.seq (.reg [⟨some 3, none, .mov (.tmp 0), [], none⟩, ⟨some 4, none, .bin .geq (.tmp 3) (.const (jn 0)), [], none⟩, ⟨some 5, none, .mov (.tmp 4), [], none⟩, ⟨some 6, some (5, true), .mov (.tmp 0), [], none⟩, ⟨some 7, some (5, true), .bin .lss (.tmp 6) (.const (jn 8)), [], none⟩, ⟨some 8, none, .pick (.tmp 5) (.tmp 7) (.const (.bool false)), [], none⟩, ⟨some 2, none, .mov (.tmp 8), [], none⟩]) .ret))
def fc523 : FC := ⟨1, 9, [(.tmp 2)], fb523⟩
theorem fc523_eq : compF Go.Proofs.Tryd.prog 16 = some fc523 := by kernel_rfl
def fb524 : AC := (.seq (.reg [⟨some 2, none, .box 32 (.tmp 0), [], none⟩, ⟨some 3, none, .box 32 (.tmp 1), [], none⟩, ⟨some 4, none, .mov (.const (jn 0)), [], none⟩]) (.seq (.reg [⟨some 5, none, .rdp (.vslice 1 32 false false) [.tmp 2], [], none⟩, ⟨some 6, none, .rdp (.vslice 1 32 false false) [.tmp 3], [], none⟩, ⟨some 7, none, .xc (.dir 37) [.tmp 5, .tmp 6] [] [], [], none⟩, ⟨some 4, none, .mov (.tmp 7), [], none⟩]) .ret))
def fc524 : FC := ⟨2, 8, [(.tmp 4)], fb524⟩
theorem fc524_eq : compF Go.Proofs.Tryd.prog 17 = some fc524 := by kernel_rfl
def fb529 : AC := (.seq (.reg [⟨some 4, none, .mov (.const (jn 0)), [], none⟩]) (.seq (.block 0 (.seq (.reg [⟨some 6, none, .mov (.tmp 0), [], none⟩, ⟨some 7, none, .mov (.tmp 1), [], none⟩, ⟨some 8, none, .bin .lss (.tmp 6) (.tmp 7), [], none⟩, ⟨some 5, none, .mov (.tmp 8), [], none⟩]) (.cond (.tmp 5) (.seq (.reg [⟨some 4, none, .mov (.const (.int .i64 (-1))), [], none⟩]) .ret) (.seq (.reg [⟨some 10, none, .mov (.tmp 0), [], none⟩, ⟨some 11, none, .mov (.tmp 1), [], none⟩, ⟨some 12, none, .bin .gtr (.tmp 10) (.tmp 11), [], none⟩, ⟨some 9, none, .mov (.tmp 12), [], none⟩]) (.cond (.tmp 9) (.seq (.reg [⟨some 4, none, .mov (.const (jn 1)), [], none⟩]) .ret) .skip))))) (.seq (.reg [⟨some 4, none, .mov (.const (jn 0)), [], none⟩]) .ret)))
def fc529 : FC := ⟨2, 13, [(.tmp 4)], fb529⟩
theorem fc529_eq : compF Go.Proofs.Tryd.prog 38 = some fc529 := by kernel_rfl
def fb525 : AC := (.seq (.reg [⟨some 1, none, .box 2 (.tmp 0), [], none⟩, ⟨some 2, none, .mov (.const (.bool false)), [], none⟩]) (.seq (.seq (.reg [⟨some 3, none, .mov (.const (jn 1)), [], none⟩]) (.block 0 (.loop (.seq (.seq (.reg [⟨some 4, none, .mov (.tmp 3), [], none⟩, ⟨some 5, none, .faddr 0 0 (.tmp 1), [], none⟩, ⟨some 6, none, .load false 1 (.tmp 5), [], none⟩, ⟨some 7, none, .len false (.tmp 6), [], none⟩, ⟨some 8, none, .bin .lss (.tmp 4) (.tmp 7), [], none⟩]) (.cond (.tmp 8) .skip (.exit 0))) (.seq (.block 1 (.seq (.reg [⟨some 11, none, .faddr 1 1 (.tmp 1), [], none⟩, ⟨some 12, none, .load false 1 (.tmp 11), [], none⟩, ⟨some 13, none, .faddr 0 0 (.tmp 1), [], none⟩, ⟨some 14, none, .load false 1 (.tmp 13), [], (.some 1)⟩, ⟨some 15, none, .mov (.tmp 3), [], none⟩, ⟨some 16, none, .bin .sub (.tmp 15) (.const (jn 1)), [], none⟩, ⟨some 17, none, .iaddrS 32 (.tmp 14) (.tmp 16), [], (.some 1000000)⟩, ⟨some 18, none, .load true 32 (.tmp 17), [], none⟩, ⟨some 19, none, .faddr 0 0 (.tmp 1), [], none⟩, ⟨some 20, none, .load false 1 (.tmp 19), [], (.some 1)⟩, ⟨some 21, none, .mov (.tmp 3), [], none⟩, ⟨some 22, none, .iaddrS 32 (.tmp 20) (.tmp 21), [], (.some 1000000)⟩, ⟨some 23, none, .load true 32 (.tmp 22), [], none⟩, ⟨some 24, none, .xc .val [.tmp 12, .tmp 18, .tmp 23] [] [], [], none⟩, ⟨some 25, none, .bin .geq (.tmp 24) (.const (jn 0)), [], none⟩]) (.cond (.tmp 25) (.seq (.reg [⟨some 2, none, .mov (.const (.bool false)), [], none⟩]) .ret) .skip))) (.reg [⟨some 9, none, .mov (.tmp 3), [], none⟩, ⟨some 10, none, .bin .add (.tmp 9) (.const (jn 1)), [], none⟩, ⟨some 3, none, .mov (.tmp 10), [], none⟩])))))) (.seq (.reg [⟨some 2, none, .mov (.const (.bool true)), [], none⟩]) .ret)))
def fc525 : FC := ⟨1, 26, [(.tmp 2)], fb525⟩
theorem fc525_eq : compF Go.Proofs.Tryd.prog 18 = some fc525 := by kernel_rfl
def fb530 : AC := (.seq (.reg [⟨some 1, none, .box 2 (.tmp 0), [], none⟩, ⟨some 2, none, .mov (.const (.bool false)), [], none⟩]) (.seq (.seq (.reg [⟨some 3, none, .mov (.const (jn 1)), [], none⟩]) (.block 0 (.loop (.seq (.seq (.reg [⟨some 4, none, .mov (.tmp 3), [], none⟩, ⟨some 5, none, .faddr 0 0 (.tmp 1), [], none⟩, ⟨some 6, none, .load false 1 (.tmp 5), [], none⟩, ⟨some 7, none, .len false (.tmp 6), [], none⟩, ⟨some 8, none, .bin .lss (.tmp 4) (.tmp 7), [], none⟩]) (.cond (.tmp 8) .skip (.exit 0))) (.seq (.block 1 (.seq (.reg [⟨some 11, none, .faddr 1 1 (.tmp 1), [], none⟩, ⟨some 12, none, .load false 1 (.tmp 11), [], none⟩, ⟨some 13, none, .faddr 0 0 (.tmp 1), [], none⟩, ⟨some 14, none, .load false 1 (.tmp 13), [], (.some 1)⟩, ⟨some 15, none, .mov (.tmp 3), [], none⟩, ⟨some 16, none, .bin .sub (.tmp 15) (.const (jn 1)), [], none⟩, ⟨some 17, none, .iaddrS 1 (.tmp 14) (.tmp 16), [], (.some 1000000)⟩, ⟨some 18, none, .load false 1 (.tmp 17), [], none⟩, ⟨some 19, none, .faddr 0 0 (.tmp 1), [], none⟩, ⟨some 20, none, .load false 1 (.tmp 19), [], (.some 1)⟩, ⟨some 21, none, .mov (.tmp 3), [], none⟩, ⟨some 22, none, .iaddrS 1 (.tmp 20) (.tmp 21), [], (.some 1000000)⟩, ⟨some 23, none, .load false 1 (.tmp 22), [], none⟩, ⟨some 24, none, .xc .val [.tmp 12, .tmp 18, .tmp 23] [] [], [], none⟩, ⟨some 25, none, .bin .geq (.tmp 24) (.const (jn 0)), [], none⟩]) (.cond (.tmp 25) (.seq (.reg [⟨some 2, none, .mov (.const (.bool false)), [], none⟩]) .ret) .skip))) (.reg [⟨some 9, none, .mov (.tmp 3), [], none⟩, ⟨some 10, none, .bin .add (.tmp 9) (.const (jn 1)), [], none⟩, ⟨some 3, none, .mov (.tmp 10), [], none⟩])))))) (.seq (.reg [⟨some 2, none, .mov (.const (.bool true)), [], none⟩]) .ret)))
def fc530 : FC := ⟨1, 26, [(.tmp 2)], fb530⟩
theorem fc530_eq : compF Go.Proofs.Tryd.prog 39 = some fc530 := by kernel_rfl
def fb535 : AC := (.seq (.reg [⟨some 1, none, .box 2 (.tmp 0), [], none⟩, ⟨some 2, none, .mov (.const (.bool false)), [], none⟩]) (.seq (.seq (.reg [⟨some 3, none, .mov (.const (jn 1)), [], none⟩]) (.block 0 (.loop (.seq (.seq (.reg [⟨some 4, none, .mov (.tmp 3), [], none⟩, ⟨some 5, none, .faddr 0 0 (.tmp 1), [], none⟩, ⟨some 6, none, .load false 1 (.tmp 5), [], none⟩, ⟨some 7, none, .len false (.tmp 6), [], none⟩, ⟨some 8, none, .bin .lss (.tmp 4) (.tmp 7), [], none⟩]) (.cond (.tmp 8) .skip (.exit 0))) (.seq (.block 1 (.seq (.reg [⟨some 11, none, .faddr 1 1 (.tmp 1), [], none⟩, ⟨some 12, none, .load false 1 (.tmp 11), [], none⟩, ⟨some 13, none, .faddr 0 0 (.tmp 1), [], none⟩, ⟨some 14, none, .load false 1 (.tmp 13), [], (.some 1)⟩, ⟨some 15, none, .mov (.tmp 3), [], none⟩, ⟨some 16, none, .bin .sub (.tmp 15) (.const (jn 1)), [], none⟩, ⟨some 17, none, .iaddrS 36 (.tmp 14) (.tmp 16), [], (.some 1000000)⟩, ⟨some 18, none, .load true 36 (.tmp 17), [], none⟩, ⟨some 19, none, .faddr 0 0 (.tmp 1), [], none⟩, ⟨some 20, none, .load false 1 (.tmp 19), [], (.some 1)⟩, ⟨some 21, none, .mov (.tmp 3), [], none⟩, ⟨some 22, none, .iaddrS 36 (.tmp 20) (.tmp 21), [], (.some 1000000)⟩, ⟨some 23, none, .load true 36 (.tmp 22), [], none⟩, ⟨some 24, none, .xc .val [.tmp 12, .tmp 18, .tmp 23] [] [], [], none⟩, ⟨some 25, none, .bin .geq (.tmp 24) (.const (jn 0)), [], none⟩]) (.cond (.tmp 25) (.seq (.reg [⟨some 2, none, .mov (.const (.bool false)), [], none⟩]) .ret) .skip))) (.reg [⟨some 9, none, .mov (.tmp 3), [], none⟩, ⟨some 10, none, .bin .add (.tmp 9) (.const (jn 1)), [], none⟩, ⟨some 3, none, .mov (.tmp 10), [], none⟩])))))) (.seq (.reg [⟨some 2, none, .mov (.const (.bool true)), [], none⟩]) .ret)))
def fc535 : FC := ⟨1, 26, [(.tmp 2)], fb535⟩
theorem fc535_eq : compF Go.Proofs.Tryd.prog 44 = some fc535 := by kernel_rfl
def fb531 : AC := (.seq (.reg [⟨some 4, none, .mov (.const (.bool false)), [], none⟩]) (.seq (.reg [⟨some 5, none, .mov (.tmp 0), [], none⟩, ⟨some 6, none, .mov (.tmp 1), [], none⟩, ⟨some 7, none, .xc (.dir 60) [.tmp 5, .tmp 6] [] [], [], none⟩, ⟨some 8, none, .bin .geq (.tmp 7) (.const (jn 0)), [], none⟩, ⟨some 4, none, .mov (.tmp 8), [], none⟩]) .ret))
def fc531 : FC := ⟨2, 9, [(.tmp 4)], fb531⟩
theorem fc531_eq : compF Go.Proofs.Tryd.prog 40 = some fc531 := by kernel_rfl
def fb539 : AC := (.seq (.reg [⟨some 4, none, .mov (.const (jn 0)), [], none⟩]) (.seq (.seq (.reg [⟨some 6, none, .mov (.tmp 0), [], none⟩, ⟨some 7, none, .len false (.tmp 6), [], none⟩, ⟨some 8, none, .mov (.const (jn 0)), [], none⟩]) (.block 0 (.loop (.seq (.reg [⟨some 9, none, .bin .lss (.tmp 8) (.tmp 7), [], none⟩]) (.seq (.cond (.tmp 9) .skip (.exit 0)) (.seq (.block 1 (.seq (.reg [⟨some 10, none, .mov (.tmp 8), [], none⟩, ⟨some 5, none, .mov (.tmp 10), [], none⟩]) (.seq (.reg [⟨some 11, none, .mov (.tmp 1), [], none⟩, ⟨some 12, none, .mov (.tmp 0), [], none⟩, ⟨some 13, none, .mov (.tmp 5), [], none⟩, ⟨some 14, none, .iaddrS 1 (.tmp 12) (.tmp 13), [], none⟩, ⟨some 15, none, .load false 1 (.tmp 14), [], none⟩, ⟨some 16, none, .xc .val [.tmp 11, .tmp 15] [] [], [], none⟩]) (.cond (.tmp 16) (.seq (.reg [⟨some 17, none, .mov (.tmp 5), [], none⟩, ⟨some 4, none, .mov (.tmp 17), [], none⟩]) .ret) .skip)))) (.reg [⟨some 18, none, .bin .add (.tmp 8) (.const (jn 1)), [], none⟩, ⟨some 8, none, .mov (.tmp 18), [], none⟩]))))))) (.seq (.reg [⟨some 4, none, .mov (.const (.int .i64 (-1))), [], none⟩]) .ret)))
def fc539 : FC := ⟨2, 19, [(.tmp 4)], fb539⟩
theorem fc539_eq : compF Go.Proofs.Tryd.prog 60 = some fc539 := by kernel_rfl
def fb532 : AC := (.seq (.reg [⟨some 2, none, .mov (.const (.bool false)), [], none⟩]) (.seq (.reg [⟨some 3, none, .mov (.tmp 0), [], none⟩, ⟨some 4, none, .call 16 [.tmp 3], [], none⟩, ⟨some 5, none, .un .not (.tmp 4), [], none⟩, ⟨some 2, none, .mov (.tmp 5), [], none⟩]) .ret))
def fc532 : FC := ⟨1, 6, [(.tmp 2)], fb532⟩
theorem fc532_eq : compF Go.Proofs.Tryd.prog 41 = some fc532 := by kernel_rfl
def fb533 : AC := (.seq (.reg [⟨some 4, none, .mov (.const (.bool false)), [], none⟩]) (.seq (.reg [⟨some 5, none, .mov (.tmp 0), [], none⟩, ⟨some 6, none, .mov (.tmp 1), [], none⟩, ⟨some 7, none, .lcall 61 [.tmp 5, .tmp 6], [], none⟩, ⟨some 8, none, .bin .geq (.tmp 7) (.const (jn 0)), [], none⟩, ⟨some 4, none, .mov (.tmp 8), [], none⟩]) .ret))
def fc533 : FC := ⟨2, 9, [(.tmp 4)], fb533⟩
theorem fc533_eq : compF Go.Proofs.Tryd.prog 42 = some fc533 := by kernel_rfl
def fb540 : AC := (.seq (.reg [⟨some 4, none, .mov (.const (jn 0)), [], none⟩]) (.seq (.seq (.reg [⟨some 6, none, .mov (.tmp 0), [], none⟩, ⟨some 7, none, .len false (.tmp 6), [], none⟩, ⟨some 8, none, .mov (.const (jn 0)), [], none⟩]) (.block 0 (.loop (.seq (.reg [⟨some 9, none, .bin .lss (.tmp 8) (.tmp 7), [], none⟩]) (.seq (.cond (.tmp 9) .skip (.exit 0)) (.seq (.block 1 (.seq (.reg [⟨some 10, none, .mov (.tmp 8), [], none⟩, ⟨some 5, none, .mov (.tmp 10), [], none⟩]) (.seq (.reg [⟨some 11, none, .mov (.tmp 1), [], none⟩, ⟨some 12, none, .mov (.tmp 0), [], none⟩, ⟨some 13, none, .mov (.tmp 5), [], none⟩, ⟨some 14, none, .iaddrS 1 (.tmp 12) (.tmp 13), [], none⟩, ⟨some 15, none, .load false 1 (.tmp 14), [], none⟩, ⟨some 16, none, .bin .eql (.tmp 11) (.tmp 15), [], none⟩]) (.cond (.tmp 16) (.seq (.reg [⟨some 17, none, .mov (.tmp 5), [], none⟩, ⟨some 4, none, .mov (.tmp 17), [], none⟩]) .ret) .skip)))) (.reg [⟨some 18, none, .bin .add (.tmp 8) (.const (jn 1)), [], none⟩, ⟨some 8, none, .mov (.tmp 18), [], none⟩]))))))) (.seq (.reg [⟨some 4, none, .mov (.const (.int .i64 (-1))), [], none⟩]) .ret)))
def fc540 : FC := ⟨2, 19, [(.tmp 4)], fb540⟩
theorem fc540_eq : compF Go.Proofs.Tryd.prog 61 = some fc540 := by kernel_rfl
def fb534 : AC := (.seq (.reg [⟨some 2, none, .box 36 (.tmp 0), [], none⟩, ⟨some 3, none, .box 36 (.tmp 1), [], none⟩, ⟨some 4, none, .mov (.const (jn 0)), [], none⟩]) (.seq (.reg [⟨some 5, none, .faddr 0 0 (.tmp 2), [], none⟩, ⟨some 6, none, .load false 1 (.tmp 5), [], none⟩, ⟨some 7, none, .faddr 0 0 (.tmp 3), [], none⟩, ⟨some 8, none, .load false 1 (.tmp 7), [], none⟩, ⟨some 9, none, .call 38 [.tmp 6, .tmp 8], [], none⟩, ⟨some 4, none, .mov (.tmp 9), [], none⟩]) .ret))
def fc534 : FC := ⟨2, 10, [(.tmp 4)], fb534⟩
theorem fc534_eq : compF Go.Proofs.Tryd.prog 43 = some fc534 := by kernel_rfl
def fb536 : AC := (.seq (.reg [⟨some 4, none, .mov (.const (.bool false)), [], none⟩]) (.seq (.reg [⟨some 5, none, .mov (.tmp 0), [], none⟩, ⟨some 6, none, .mov (.tmp 1), [], none⟩, ⟨some 7, none, .xc (.dir 62) [.tmp 5, .tmp 6] [] [], [], none⟩, ⟨some 8, none, .bin .geq (.tmp 7) (.const (jn 0)), [], none⟩, ⟨some 4, none, .mov (.tmp 8), [], none⟩]) .ret))
def fc536 : FC := ⟨2, 9, [(.tmp 4)], fb536⟩
theorem fc536_eq : compF Go.Proofs.Tryd.prog 45 = some fc536 := by kernel_rfl
def fb541 : AC := (.seq (.reg [⟨some 4, none, .mov (.const (jn 0)), [], none⟩]) (.seq (.seq (.reg [⟨some 6, none, .mov (.tmp 0), [], none⟩, ⟨some 7, none, .len false (.tmp 6), [], none⟩, ⟨some 8, none, .mov (.const (jn 0)), [], none⟩]) (.block 0 (.loop (.seq (.reg [⟨some 9, none, .bin .lss (.tmp 8) (.tmp 7), [], none⟩]) (.seq (.cond (.tmp 9) .skip (.exit 0)) (.seq (.block 1 (.seq (.reg [⟨some 10, none, .mov (.tmp 8), [], none⟩, ⟨some 5, none, .mov (.tmp 10), [], none⟩]) (.seq (.reg [⟨some 11, none, .mov (.tmp 1), [], none⟩, ⟨some 12, none, .mov (.tmp 0), [], none⟩, ⟨some 13, none, .mov (.tmp 5), [], none⟩, ⟨some 14, none, .iaddrS 36 (.tmp 12) (.tmp 13), [], none⟩, ⟨some 15, none, .load true 36 (.tmp 14), [], none⟩, ⟨some 16, none, .xc .val [.tmp 11, .tmp 15] [] [], [], none⟩]) (.cond (.tmp 16) (.seq (.reg [⟨some 17, none, .mov (.tmp 5), [], none⟩, ⟨some 4, none, .mov (.tmp 17), [], none⟩]) .ret) .skip)))) (.reg [⟨some 18, none, .bin .add (.tmp 8) (.const (jn 1)), [], none⟩, ⟨some 8, none, .mov (.tmp 18), [], none⟩]))))))) (.seq (.reg [⟨some 4, none, .mov (.const (.int .i64 (-1))), [], none⟩]) .ret)))
def fc541 : FC := ⟨2, 19, [(.tmp 4)], fb541⟩
theorem fc541_eq : compF Go.Proofs.Tryd.prog 62 = some fc541 := by kernel_rfl
def ji (x : Int) : Value := .int .i64 x
theorem jn_ji (n : Nat) : jn n = ji n := rfl
theorem ji_nat (n : Nat) : ji (n : Int) = jn n := rfl
theorem bin_lssi (a b : Int) : binVal .lss (ji a) (ji b) = some (.bool (decide (a < b))) := by simp [binVal, ji]
theorem bin_gtri' (a b : Int) : binVal .gtr (ji a) (ji b) = some (.bool (decide (b < a))) := by simp [binVal, ji]
theorem bin_eqli (a b : Int) : binVal .eql (ji a) (ji b) = some (.bool (decide (a = b))) := by
  simp only [binVal, ji, ne_eq, not_true_eq_false, if_false, Option.some.injEq, Value.bool.injEq]; rw [Bool.eq_iff_iff]; simp
theorem bin_neqi (a b : Int) : binVal .neq (ji a) (ji b) = some (.bool (decide (a ≠ b))) := by
  simp only [binVal, ji, ne_eq, not_true_eq_false, if_false, Option.some.injEq, Value.bool.injEq]; rw [Bool.eq_iff_iff]; simp
theorem bin_lssij (a : Int) (n : Nat) : binVal .lss (ji a) (jn n) = some (.bool (decide (a < n))) := bin_lssi a n
theorem bin_gtrij (a : Int) (n : Nat) : binVal .gtr (ji a) (jn n) = some (.bool (decide ((n : Int) < a))) := bin_gtri' a n
theorem bin_eqlij (a : Int) (n : Nat) : binVal .eql (ji a) (jn n) = some (.bool (decide (a = n))) := bin_eqli a n
theorem bin_geqij (a : Int) (n : Nat) : binVal .geq (ji a) (jn n) = some (.bool (decide ((n : Int) ≤ a))) := by simp [binVal, ji, jn]
attribute [push_cast] bin_lssi bin_gtri' bin_eqli bin_neqi bin_lssij bin_gtrij bin_eqlij bin_geqij
theorem member_call (a : Int) : PCall Go.Proofs.Tryd.prog 16 [.lit (ji a)] (.val (.lit (.bool (decide (0 ≤ a ∧ a < 8))))) := by
  have h523 := fc523_eq
  refine PCall.of h523 rfl ?_; show AC.wp _ fb523 (AS.init [.lit (ji a)] 1 9) (fun x s => match x with | .exit _ => False | _ => Fin [(.tmp 2)] s _); unfold fb523 AS.init
  by_cases h : 0 ≤ a
  · refine wp_sr (by simp [push_cast]; exact rfl) (wp_sr (by simp [push_cast, h]; exact rfl) (wp_ret' ?_))
    exact fin_tmp (by simp [RVal, AS.ev, AS.coe, h]) (by simp)
  · refine wp_sr (by simp [push_cast]; exact rfl) (wp_sr (by simp [push_cast, h]; exact rfl) (wp_ret' ?_))
    exact fin_tmp (by simp [RVal, AS.ev, AS.coe, h]) (by simp)
theorem notmember_call (a : Int) : PCall Go.Proofs.Tryd.prog 41 [.lit (ji a)] (.val (.lit (.bool (!decide (0 ≤ a ∧ a < 8))))) := by
  have h532 := fc532_eq
  have c := member_call a
  generalize decide (0 ≤ a ∧ a < 8) = b at *
  refine PCall.of h532 rfl ?_; show AC.wp _ fb532 (AS.init [.lit (ji a)] 1 6) (fun x s => match x with | .exit _ => False | _ => Fin [(.tmp 2)] s _); unfold fb532 AS.init
  refine wp_sr (by simp [push_cast]; exact rfl) (wp_sg ?_)
  refine areg_run 1 (by simp [push_cast]; exact rfl) ?_
  refine areg_ca (by simp [AS.ev, AS.coe, AS.put] <;> exact rfl) c ?_
  refine areg_end (by simp [push_cast]; exact rfl) (wp_ret' ?_)
  exact fin_tmp (by simp [RVal, AS.ev, AS.coe]) (by simp)
def cmpN (a b : Int) : Int := if a < b then -1 else if b < a then 1 else 0
theorem byNumber_call (a b : Int) : PCall Go.Proofs.Tryd.prog 38 [.lit (ji a), .lit (ji b)] (.val (.lit (ji (cmpN a b)))) := by
  have h529 := fc529_eq
  unfold cmpN
  refine PCall.of h529 rfl ?_; show AC.wp _ fb529 (AS.init [.lit (ji a), .lit (ji b)] 2 13) (fun x s => match x with | .exit _ => False | _ => Fin [(.tmp 4)] s _); unfold fb529 AS.init
  refine wp_sr (by simp [push_cast]; exact rfl) (wp_seq' (wp_block' ?_))
  by_cases h : a < b
  · refine wp_sr (by simp [push_cast, h]; exact rfl) (wp_cond_t (by simp [AS.ev]) ?_)
    refine wp_sr (by simp [push_cast]; exact rfl) (wp_ret' ?_)
    exact fin_tmp (by simp [RVal, AS.ev, AS.coe, h]; rfl) (by simp)
  · refine wp_sr (by simp [push_cast, h]; exact rfl) (wp_cond_f (by simp [AS.ev]) ?_)
    by_cases h2 : b < a
    · refine wp_sr (by simp [push_cast, h2]; exact rfl) (wp_cond_t (by simp [AS.ev]) ?_)
      refine wp_sr (by simp [push_cast]; exact rfl) (wp_ret' ?_)
      exact fin_tmp (by simp [RVal, AS.ev, AS.coe, h, h2]; rfl) (by simp)
    · refine wp_sr (by simp [push_cast, h2]; exact rfl) (wp_cond_f (by simp [AS.ev]) (wp_skip' ?_))
      refine wp_sr (by simp [push_cast]; exact rfl) (wp_ret' ?_)
      exact fin_tmp (by simp [RVal, AS.ev, AS.coe, h, h2]; rfl) (by simp)
theorem byKey_call {a b : List UInt8} (ha : a.length = 32) (hb : b.length = 32) : PCall Go.Proofs.Tryd.prog 17 [keyA a, keyA b] (.val (.lit (ji (Go.Lib.compareBytes a b)))) := by
  have h524 := fc524_eq
  have hcal : callable Go.Proofs.Tryd.prog 37 = true := by kernel_rfl
  refine PCall.of h524 rfl ?_; show AC.wp _ fb524 (AS.init [keyA a, keyA b] 2 8) (fun x s => match x with | .exit _ => False | _ => Fin [(.tmp 4)] s _); unfold fb524 AS.init
  refine wp_sg (areg_bx rfl (by simp [AS.ev, keyA, AV.sz, bl, ha]) fun l1 => areg_bx rfl (by simp [AS.ev, AS.put, keyA, AV.sz, bl, hb]) fun l2 => areg_end (by simp [push_cast]; exact rfl) ?_)
  refine wp_sg ?_
  refine areg_run 2 (by simp [push_cast]; exact rfl) ?_
  refine areg_xq (us := [.view 2 l1 0 [] 1 0 32 32, .view 3 l2 0 [] 1 0 32 32]) rfl (by simp only [tgtA, tgtB, Option.bind_some, hcal, if_true]) (cmp_call (b1 := 2) (b2 := 3) (l1 := l1) (l2 := l2) (n1 := 32) (n2 := 32) (k1 := a) (k2 := b) rfl rfl ha hb) ⟨_, _, rfl, rfl⟩ (fun r hp' _ t' ht' => by cases ht') ?_
  rintro r H' ⟨rfl, rfl⟩
  refine areg_end (by simp [push_cast]; exact rfl) (wp_ret' ?_)
  exact fin_tmp (by simp [RVal, AS.ev, AS.coe]; rfl) (by simp)
structure BoxV where
  to : Int
  pub : List UInt8
  n : Nat
  prev : Nat
  body : List UInt8
def boxA (b : BoxV) : AV := .st [1, 34, 1] [.lit (ji b.to), .st [32, 1, 1] [keyA b.pub, .lit (wn b.n), .lit (wn b.prev)], .lit (tx b.body)]
structure BoxOk (b : BoxV) : Prop where
  pub : b.pub.length = 32
  n : b.n < 4294967296
  prev : b.prev < 4294967296
theorem boxA_sz {b : BoxV} : (boxA b).sz = 36 := rfl
theorem boxCmp_call (a b : BoxV) : PCall Go.Proofs.Tryd.prog 43 [boxA a, boxA b] (.val (.lit (ji (cmpN a.to b.to)))) := by
  have h534 := fc534_eq
  have c := byNumber_call a.to b.to
  unfold boxA
  generalize a.to = x at *
  generalize b.to = y at *
  refine PCall.of h534 rfl ?_; show AC.wp _ fb534 (AS.init [.st [1, 34, 1] [.lit (ji x), .st [32, 1, 1] [keyA a.pub, .lit (wn a.n), .lit (wn a.prev)], .lit (tx a.body)], .st [1, 34, 1] [.lit (ji y), .st [32, 1, 1] [keyA b.pub, .lit (wn b.n), .lit (wn b.prev)], .lit (tx b.body)]] 2 10) (fun x s => match x with | .exit _ => False | _ => Fin [(.tmp 4)] s _); unfold fb534 AS.init
  refine wp_sg (areg_bx rfl rfl fun l1 => areg_bx rfl rfl fun l2 => areg_end (by simp [push_cast]; exact rfl) ?_)
  refine wp_sg ?_
  refine areg_run 4 (by simp [push_cast]; exact rfl) ?_
  refine areg_ca (by simp [AS.ev, AS.coe, AS.put] <;> exact rfl) c ?_
  refine areg_end (by simp [push_cast]; exact rfl) (wp_ret' ?_)
  exact fin_tmp (by simp [RVal, AS.ev, AS.coe]) (by simp)
def fnL (g : FuncId) : AV := .lit (.func (.func g) #[] #[])
theorem AVle.fn (g : FuncId) : AVle (fnL g) (.fnv (.func g) [] []) := fun Imm w cs h => by
  cases h with
  | lit _ hs => exact .fnv (.func g) [] [] [] [] .tup0 .tup0
theorem RelLe.fn (g : FuncId) : RelLe (fnL g) (.fnv (.func g) [] []) := fun Imm w V h => by
  rcases h with h | ⟨cs, h, e⟩
  · cases h
  · exact .inr ⟨cs, AVle.fn g _ _ _ h, by rw [e]; cases h; rfl⟩
theorem RelLe.rowF (z : Nat) (T : List AV) (g : FuncId) : RelLe (.st [1, 1] [.sl z T, fnL g]) (.st [1, 1] [.sl z T, .fnv (.func g) [] []]) := RelLe.st (AVle.st1 (AVle.refl _) (AVle.st1 (AVle.fn g) AVle.st0))
def risV {α : Type} (cmp : α → α → Int) : List α → Bool
  | a :: b :: r => decide (cmp a b < 0) && risV cmp (b :: r)
  | _ => true
theorem risV_short {α : Type} (cmp : α → α → Int) : ∀ {l : List α}, l.length ≤ 1 → risV cmp l = true
  | [], _ => rfl
  | [_], _ => rfl
  | _ :: _ :: _, h => by simp at h
set_option maxHeartbeats 4000000 in
theorem risN_call {fn : AV} {g : FuncId} {cmp : Int → Int → Int} {l : List (Int)} (htg : ∀ x y, tgtA Go.Proofs.Tryd.prog .val [fn, x, y] = some (g, [x, y])) (hfn : fn = .fnv (.func g) [] [])
    (hc : ∀ a ∈ l, ∀ b ∈ l, PCall Go.Proofs.Tryd.prog g [AV.lit (ji a), AV.lit (ji b)] (.val (.lit (ji (cmp a b))))) (hl : l.length < 100000) : PCall Go.Proofs.Tryd.prog 39 [.st [1, 1] [.sl 1 (l.map fun x => AV.lit (ji x)), fn]] (.val (.lit (.bool (risV cmp l)))) := by
  have h530 := fc530_eq
  have hml : (l.map fun x => AV.lit (ji x)).length = l.length := List.length_map _
  have hget : ∀ i a, l[i]? = some a → (l.map fun x => AV.lit (ji x))[i]? = some (AV.lit (ji a)) := fun i a h => by rw [List.getElem?_map, h]; rfl
  generalize hT : (l.map fun x => AV.lit (ji x)) = T at *
  subst hfn
  refine PCall.of h530 rfl ?_; show AC.wp _ fb530 (AS.init [.st [1, 1] [.sl 1 T, .fnv (.func g) [] []]] 1 26) (fun x s => match x with | .exit _ => False | _ => Fin [(.tmp 2)] s _); unfold fb530 AS.init
  refine wp_sg (areg_bx rfl rfl fun lo => areg_end (by simp [push_cast]; exact rfl) ?_)
  refine wp_seq' (wp_sr (by simp [push_cast]; exact rfl) ?_)
  refine wp_block' (wp_loop_m (fun i : Nat => (⟨0, [.st [1, 1] [.sl 1 T, .fnv (.func g) [] []], .ptr 1 lo 0 [], .lit (.bool false), .lit (jn (i + 1))] ++ List.replicate 22 .any, [none, some (.box lo 2 (.st [1, 1] [.sl 1 T, .fnv (.func g) [] []]))] ++ List.replicate 24 none⟩ : AS)) (fun i => l.length - i) (fun i => risV cmp (l.drop i) = risV cmp l ∧ i ≤ l.length) 0 (Le.mk rfl (by simp [leT]) (by simp [leH])) ⟨rfl, by simp⟩ ?_)
  rintro i ⟨hI, hi⟩
  simp only at hI hi ⊢
  by_cases hlt : i + 1 < l.length
  · obtain ⟨a, ha⟩ : ∃ a, l[i]? = some a := ⟨_, List.getElem?_eq_getElem (by omega)⟩
    obtain ⟨b, hb⟩ : ∃ b, l[i + 1]? = some b := ⟨_, List.getElem?_eq_getElem hlt⟩
    have hd : l.drop i = a :: b :: l.drop (i + 2) := by
      rw [List.drop_eq_getElem_cons (by omega : i < l.length), List.drop_eq_getElem_cons hlt]
      rw [List.getElem?_eq_getElem (by omega : i < l.length)] at ha
      rw [List.getElem?_eq_getElem hlt] at hb
      rw [Option.some.inj ha, Option.some.inj hb]
    have hd1 : l.drop (i + 1) = b :: l.drop (i + 2) := by
      rw [List.drop_eq_getElem_cons hlt]
      rw [List.getElem?_eq_getElem hlt] at hb
      rw [Option.some.inj hb]
    rw [hd, risV, ← hd1] at hI
    have c := hc a (List.mem_of_getElem? ha) b (List.mem_of_getElem? hb)
    have ga := hget i a ha
    have gb := hget (i + 1) b hb
    have ga' : ∀ h, T[i]'h = AV.lit (ji a) := fun h => by rw [List.getElem?_eq_getElem h] at ga; exact Option.some.inj ga
    have gb' : ∀ h, T[i + 1]'h = AV.lit (ji b) := fun h => by rw [List.getElem?_eq_getElem h] at gb; exact Option.some.inj gb
    have q1 : i + 1 + 1 < 9223372036854775808 := by omega
    have q2 : i < l.length := by omega
    have q3 : binVal .sub (jn (i + 1)) (jn 1) = some (jn i) := by rw [bin_subj _ _ (by omega) (by omega)]; rfl
    refine wp_seq' (wp_sr (by simp [push_cast, hml, hlt]; exact rfl) ?_)
    refine wp_cond_t (by simp [AS.ev]) (wp_skip' ?_)
    refine wp_seq' (wp_block' (wp_seq' (wp_rg ?_)))
    refine areg_run 13 (by simp [push_cast, hml, hlt, ga, gb, ga', gb', q2, q3]; exact rfl) ?_
    refine areg_xq (us := [.fnv (.func g) [] [], AV.lit (ji a), AV.lit (ji b)]) rfl (htg _ _) (PCall.x _ c) ⟨_, _, rfl, rfl⟩ (fun r hp' _ t' ht' => by cases ht') ?_
    rintro r H' ⟨rfl, rfl⟩
    by_cases hz : cmp a b < 0
    · have hz' : ¬ 0 ≤ cmp a b := by omega
      refine areg_end (by simp [push_cast, hz']; exact rfl) ?_
      refine wp_cond_f (by simp [AS.ev]) (wp_skip' ?_)
      rw [decide_eq_true hz, Bool.true_and] at hI
      refine wp_r (by simp [push_cast, q1]; exact rfl) ?_
      exact Exists.intro (i + 1) ⟨⟨hI, by omega⟩, by omega, Le.mk rfl (by simp [leT]) (by simp [leH])⟩
    · have hz' : 0 ≤ cmp a b := by omega
      rw [decide_eq_false hz, Bool.false_and] at hI
      refine areg_end (by simp [push_cast, hz']; exact rfl) ?_
      refine wp_cond_t (by simp [AS.ev]) ?_
      refine wp_sr (by simp [push_cast]; exact rfl) (wp_ret' ?_)
      rw [← hI]
      exact fin_tmp (by simp [RVal, AS.ev, AS.coe]) (by simp)
  · have hs := risV_short cmp (l := l.drop i) (by rw [List.length_drop]; omega)
    rw [hs] at hI
    refine wp_seq' (wp_sr (by simp [push_cast, hml, hlt]; exact rfl) ?_)
    refine wp_cond_f (by simp [AS.ev]) (wp_exit' (if_hit rfl ?_))
    refine wp_sr (by simp [push_cast]; exact rfl) (wp_ret' ?_)
    rw [← hI]
    exact fin_tmp (by simp [RVal, AS.ev, AS.coe]) (by simp)
set_option maxHeartbeats 4000000 in
theorem risK_call {fn : AV} {g : FuncId} {cmp : List UInt8 → List UInt8 → Int} {l : List (List UInt8)} (htg : ∀ x y, tgtA Go.Proofs.Tryd.prog .val [fn, x, y] = some (g, [x, y])) (hfn : fn = .fnv (.func g) [] [])
    (hc : ∀ a ∈ l, ∀ b ∈ l, PCall Go.Proofs.Tryd.prog g [keyA a, keyA b] (.val (.lit (ji (cmp a b))))) (hl : l.length < 100000) (h32 : ∀ k ∈ l, k.length = 32) : PCall Go.Proofs.Tryd.prog 18 [.st [1, 1] [.sl 32 (l.map fun x => keyA x), fn]] (.val (.lit (.bool (risV cmp l)))) := by
  have h525 := fc525_eq
  have hml : (l.map fun x => keyA x).length = l.length := List.length_map _
  have hget : ∀ i a, l[i]? = some a → (l.map fun x => keyA x)[i]? = some (keyA a) := fun i a h => by rw [List.getElem?_map, h]; rfl
  generalize hT : (l.map fun x => keyA x) = T at *
  subst hfn
  refine PCall.of h525 rfl ?_; show AC.wp _ fb525 (AS.init [.st [1, 1] [.sl 32 T, .fnv (.func g) [] []]] 1 26) (fun x s => match x with | .exit _ => False | _ => Fin [(.tmp 2)] s _); unfold fb525 AS.init
  refine wp_sg (areg_bx rfl rfl fun lo => areg_end (by simp [push_cast]; exact rfl) ?_)
  refine wp_seq' (wp_sr (by simp [push_cast]; exact rfl) ?_)
  refine wp_block' (wp_loop_m (fun i : Nat => (⟨0, [.st [1, 1] [.sl 32 T, .fnv (.func g) [] []], .ptr 1 lo 0 [], .lit (.bool false), .lit (jn (i + 1))] ++ List.replicate 22 .any, [none, some (.box lo 2 (.st [1, 1] [.sl 32 T, .fnv (.func g) [] []]))] ++ List.replicate 24 none⟩ : AS)) (fun i => l.length - i) (fun i => risV cmp (l.drop i) = risV cmp l ∧ i ≤ l.length) 0 (Le.mk rfl (by simp [leT]) (by simp [leH])) ⟨rfl, by simp⟩ ?_)
  rintro i ⟨hI, hi⟩
  simp only at hI hi ⊢
  by_cases hlt : i + 1 < l.length
  · obtain ⟨a, ha⟩ : ∃ a, l[i]? = some a := ⟨_, List.getElem?_eq_getElem (by omega)⟩
    obtain ⟨b, hb⟩ : ∃ b, l[i + 1]? = some b := ⟨_, List.getElem?_eq_getElem hlt⟩
    have hd : l.drop i = a :: b :: l.drop (i + 2) := by
      rw [List.drop_eq_getElem_cons (by omega : i < l.length), List.drop_eq_getElem_cons hlt]
      rw [List.getElem?_eq_getElem (by omega : i < l.length)] at ha
      rw [List.getElem?_eq_getElem hlt] at hb
      rw [Option.some.inj ha, Option.some.inj hb]
    have hd1 : l.drop (i + 1) = b :: l.drop (i + 2) := by
      rw [List.drop_eq_getElem_cons hlt]
      rw [List.getElem?_eq_getElem hlt] at hb
      rw [Option.some.inj hb]
    rw [hd, risV, ← hd1] at hI
    have c := hc a (List.mem_of_getElem? ha) b (List.mem_of_getElem? hb)
    have ga := hget i a ha
    have gb := hget (i + 1) b hb
    have ga' : ∀ h, T[i]'h = keyA a := fun h => by rw [List.getElem?_eq_getElem h] at ga; exact Option.some.inj ga
    have gb' : ∀ h, T[i + 1]'h = keyA b := fun h => by rw [List.getElem?_eq_getElem h] at gb; exact Option.some.inj gb
    have q1 : i + 1 + 1 < 9223372036854775808 := by omega
    have q2 : i < l.length := by omega
    have q3 : binVal .sub (jn (i + 1)) (jn 1) = some (jn i) := by rw [bin_subj _ _ (by omega) (by omega)]; rfl
    have a32 := h32 a (List.mem_of_getElem? ha)
    have b32 := h32 b (List.mem_of_getElem? hb)
    refine wp_seq' (wp_sr (by simp [push_cast, hml, hlt]; exact rfl) ?_)
    refine wp_cond_t (by simp [AS.ev]) (wp_skip' ?_)
    refine wp_seq' (wp_block' (wp_seq' (wp_rg ?_)))
    refine areg_run 13 (by simp [push_cast, hml, hlt, ga, gb, ga', gb', q2, q3, a32, b32]; exact rfl) ?_
    refine areg_xq (us := [.fnv (.func g) [] [], keyA a, keyA b]) rfl (htg _ _) (PCall.x _ c) ⟨_, _, rfl, rfl⟩ (fun r hp' _ t' ht' => by cases ht') ?_
    rintro r H' ⟨rfl, rfl⟩
    by_cases hz : cmp a b < 0
    · have hz' : ¬ 0 ≤ cmp a b := by omega
      refine areg_end (by simp [push_cast, hz']; exact rfl) ?_
      refine wp_cond_f (by simp [AS.ev]) (wp_skip' ?_)
      rw [decide_eq_true hz, Bool.true_and] at hI
      refine wp_r (by simp [push_cast, q1]; exact rfl) ?_
      exact Exists.intro (i + 1) ⟨⟨hI, by omega⟩, by omega, Le.mk rfl (by simp [leT]) (by simp [leH])⟩
    · have hz' : 0 ≤ cmp a b := by omega
      rw [decide_eq_false hz, Bool.false_and] at hI
      refine areg_end (by simp [push_cast, hz']; exact rfl) ?_
      refine wp_cond_t (by simp [AS.ev]) ?_
      refine wp_sr (by simp [push_cast]; exact rfl) (wp_ret' ?_)
      rw [← hI]
      exact fin_tmp (by simp [RVal, AS.ev, AS.coe]) (by simp)
  · have hs := risV_short cmp (l := l.drop i) (by rw [List.length_drop]; omega)
    rw [hs] at hI
    refine wp_seq' (wp_sr (by simp [push_cast, hml, hlt]; exact rfl) ?_)
    refine wp_cond_f (by simp [AS.ev]) (wp_exit' (if_hit rfl ?_))
    refine wp_sr (by simp [push_cast]; exact rfl) (wp_ret' ?_)
    rw [← hI]
    exact fin_tmp (by simp [RVal, AS.ev, AS.coe]) (by simp)
set_option maxHeartbeats 4000000 in
theorem risB_call {fn : AV} {g : FuncId} {cmp : BoxV → BoxV → Int} {l : List (BoxV)} (htg : ∀ x y, tgtA Go.Proofs.Tryd.prog .val [fn, x, y] = some (g, [x, y])) (hfn : fn = .fnv (.func g) [] [])
    (hc : ∀ a ∈ l, ∀ b ∈ l, PCall Go.Proofs.Tryd.prog g [boxA a, boxA b] (.val (.lit (ji (cmp a b))))) (hl : l.length < 100000) : PCall Go.Proofs.Tryd.prog 44 [.st [1, 1] [.sl 36 (l.map fun x => boxA x), fn]] (.val (.lit (.bool (risV cmp l)))) := by
  have h535 := fc535_eq
  have hml : (l.map fun x => boxA x).length = l.length := List.length_map _
  have hget : ∀ i a, l[i]? = some a → (l.map fun x => boxA x)[i]? = some (boxA a) := fun i a h => by rw [List.getElem?_map, h]; rfl
  generalize hT : (l.map fun x => boxA x) = T at *
  subst hfn
  refine PCall.of h535 rfl ?_; show AC.wp _ fb535 (AS.init [.st [1, 1] [.sl 36 T, .fnv (.func g) [] []]] 1 26) (fun x s => match x with | .exit _ => False | _ => Fin [(.tmp 2)] s _); unfold fb535 AS.init
  refine wp_sg (areg_bx rfl rfl fun lo => areg_end (by simp [push_cast]; exact rfl) ?_)
  refine wp_seq' (wp_sr (by simp [push_cast]; exact rfl) ?_)
  refine wp_block' (wp_loop_m (fun i : Nat => (⟨0, [.st [1, 1] [.sl 36 T, .fnv (.func g) [] []], .ptr 1 lo 0 [], .lit (.bool false), .lit (jn (i + 1))] ++ List.replicate 22 .any, [none, some (.box lo 2 (.st [1, 1] [.sl 36 T, .fnv (.func g) [] []]))] ++ List.replicate 24 none⟩ : AS)) (fun i => l.length - i) (fun i => risV cmp (l.drop i) = risV cmp l ∧ i ≤ l.length) 0 (Le.mk rfl (by simp [leT]) (by simp [leH])) ⟨rfl, by simp⟩ ?_)
  rintro i ⟨hI, hi⟩
  simp only at hI hi ⊢
  by_cases hlt : i + 1 < l.length
  · obtain ⟨a, ha⟩ : ∃ a, l[i]? = some a := ⟨_, List.getElem?_eq_getElem (by omega)⟩
    obtain ⟨b, hb⟩ : ∃ b, l[i + 1]? = some b := ⟨_, List.getElem?_eq_getElem hlt⟩
    have hd : l.drop i = a :: b :: l.drop (i + 2) := by
      rw [List.drop_eq_getElem_cons (by omega : i < l.length), List.drop_eq_getElem_cons hlt]
      rw [List.getElem?_eq_getElem (by omega : i < l.length)] at ha
      rw [List.getElem?_eq_getElem hlt] at hb
      rw [Option.some.inj ha, Option.some.inj hb]
    have hd1 : l.drop (i + 1) = b :: l.drop (i + 2) := by
      rw [List.drop_eq_getElem_cons hlt]
      rw [List.getElem?_eq_getElem hlt] at hb
      rw [Option.some.inj hb]
    rw [hd, risV, ← hd1] at hI
    have c := hc a (List.mem_of_getElem? ha) b (List.mem_of_getElem? hb)
    have ga := hget i a ha
    have gb := hget (i + 1) b hb
    have ga' : ∀ h, T[i]'h = boxA a := fun h => by rw [List.getElem?_eq_getElem h] at ga; exact Option.some.inj ga
    have gb' : ∀ h, T[i + 1]'h = boxA b := fun h => by rw [List.getElem?_eq_getElem h] at gb; exact Option.some.inj gb
    have q1 : i + 1 + 1 < 9223372036854775808 := by omega
    have q2 : i < l.length := by omega
    have q3 : binVal .sub (jn (i + 1)) (jn 1) = some (jn i) := by rw [bin_subj _ _ (by omega) (by omega)]; rfl
    have asz : (boxA a).sz = 36 := rfl
    have bsz : (boxA b).sz = 36 := rfl
    have aag : (boxA a).isAgg = true := rfl
    have bag : (boxA b).isAgg = true := rfl
    have atp : (boxA a).isTup = false := rfl
    have btp : (boxA b).isTup = false := rfl
    refine wp_seq' (wp_sr (by simp [push_cast, hml, hlt]; exact rfl) ?_)
    refine wp_cond_t (by simp [AS.ev]) (wp_skip' ?_)
    refine wp_seq' (wp_block' (wp_seq' (wp_rg ?_)))
    refine areg_run 13 (by simp [push_cast, hml, hlt, ga, gb, ga', gb', q2, q3, boxA]; exact rfl) ?_
    refine areg_xq (us := [.fnv (.func g) [] [], boxA a, boxA b]) rfl (htg _ _) (PCall.x _ c) ⟨_, _, rfl, rfl⟩ (fun r hp' _ t' ht' => by cases ht') ?_
    rintro r H' ⟨rfl, rfl⟩
    by_cases hz : cmp a b < 0
    · have hz' : ¬ 0 ≤ cmp a b := by omega
      refine areg_end (by simp [push_cast, hz']; exact rfl) ?_
      refine wp_cond_f (by simp [AS.ev]) (wp_skip' ?_)
      rw [decide_eq_true hz, Bool.true_and] at hI
      refine wp_r (by simp [push_cast, q1]; exact rfl) ?_
      exact Exists.intro (i + 1) ⟨⟨hI, by omega⟩, by omega, Le.mk rfl (by simp [leT]) (by simp [leH])⟩
    · have hz' : 0 ≤ cmp a b := by omega
      rw [decide_eq_false hz, Bool.false_and] at hI
      refine areg_end (by simp [push_cast, hz']; exact rfl) ?_
      refine wp_cond_t (by simp [AS.ev]) ?_
      refine wp_sr (by simp [push_cast]; exact rfl) (wp_ret' ?_)
      rw [← hI]
      exact fin_tmp (by simp [RVal, AS.ev, AS.coe]) (by simp)
  · have hs := risV_short cmp (l := l.drop i) (by rw [List.length_drop]; omega)
    rw [hs] at hI
    refine wp_seq' (wp_sr (by simp [push_cast, hml, hlt]; exact rfl) ?_)
    refine wp_cond_f (by simp [AS.ev]) (wp_exit' (if_hit rfl ?_))
    refine wp_sr (by simp [push_cast]; exact rfl) (wp_ret' ?_)
    rw [← hI]
    exact fin_tmp (by simp [RVal, AS.ev, AS.coe]) (by simp)
def idxQ {α : Type} (p : α → Bool) : List α → Nat → Option Nat
  | [], _ => none
  | k :: ks, i => if p k then some i else idxQ p ks (i + 1)
theorem idxQ_any {α : Type} (p : α → Bool) : ∀ (ks : List α) (i : Nat), (idxQ p ks i).isSome = ks.any p
  | [], _ => rfl
  | k :: ks, i => by
    rw [idxQ, List.any_cons]
    split
    · rename_i h; rw [h]; rfl
    · rename_i h; rw [idxQ_any p ks (i + 1)]; simp [h]
theorem idxV_geq' (o : Option Nat) : binVal .geq (idxV o) (jn 0) = some (.bool o.isSome) := by
  cases o with
  | none => simp [idxV, binVal, jn]
  | some n => show binVal .geq (jn n) (jn 0) = _; rw [bin_geqj]; simp
set_option maxHeartbeats 8000000 in
theorem idxN_call {H : List (Option Blk)} {clo : AV} {g : FuncId} {as' : Int → List AV} {p : Int → Bool} {l : List (Int)} (htg : ∀ x, tgtA Go.Proofs.Tryd.prog .val [clo, AV.lit (ji x)] = some (g, as' x)) (hcl : clo.isTup = false)
    (hc : ∀ L, ∀ x ∈ l, XCall Go.Proofs.Tryd.prog g (as' x) (H ++ L) fun r H' => r = .lit (.bool (p x)) ∧ H' = H ++ L) (hks : l.length < 100000) :
    XCall Go.Proofs.Tryd.prog 60 [.sl 1 (l.map fun x => AV.lit (ji x)), clo] H fun r H' => r = .lit (idxV (idxQ p l 0)) ∧ H' = H := by
  have h539 := fc539_eq
  refine XCall.le ?_
  have hml : (l.map fun x => AV.lit (ji x)).length = l.length := List.length_map _
  have hget : ∀ i a, l[i]? = some a → (l.map fun x => AV.lit (ji x))[i]? = some (AV.lit (ji a)) := fun i a h => by rw [List.getElem?_map, h]; rfl
  generalize hT : (l.map fun x => AV.lit (ji x)) = T at *
  refine XCall.of h539 rfl ?_; show AC.wp _ fb539 ⟨H.length, [.sl 1 T, clo] ++ List.replicate (19 - 2) .any, H ++ List.replicate 19 none⟩ (fun x s => match x with | .exit _ => False | _ => ∃ s1, Le s s1 ∧ FinX [(.tmp 4)] s1 _); unfold fb539
  generalize hN : H.length = N at *
  refine wp_sr (by simp [push_cast]; exact rfl) ?_
  refine wp_seq' (wp_seq' (wp_r (by simp [push_cast, hml]; exact rfl) ?_))
  refine wp_block' (wp_loop_m (fun i => ⟨N, [.sl 1 T, clo, .any, .any, .lit (jn 0), .any, .sl 1 T, .lit (jn l.length), .lit (jn i)] ++ List.replicate 10 .any, H ++ List.replicate 19 none⟩) (fun i => l.length - i) (fun i => idxQ p (l.drop i) i = idxQ p l 0 ∧ i ≤ l.length) 0 ?_ ⟨rfl, by simp⟩ ?_)
  · exact Le.mk rfl (by simp [leT]) (leH_refl _)
  · rintro i ⟨hI, hi⟩
    simp only at hI hi ⊢
    by_cases hlt : i < l.length
    · obtain ⟨x, hx⟩ : ∃ x, l[i]? = some x := ⟨_, List.getElem?_eq_getElem hlt⟩
      have hdrop : l.drop i = x :: l.drop (i + 1) := by
        rw [List.drop_eq_getElem_cons hlt]
        rw [List.getElem?_eq_getElem hlt] at hx
        rw [Option.some.inj hx]
      rw [hdrop, idxQ] at hI
      have c := fun L => hc L x (List.mem_of_getElem? hx)
      have g1 := hget i x hx
      have g2 : ∀ h, T[i]'h = AV.lit (ji x) := fun h => by rw [List.getElem?_eq_getElem h] at g1; exact Option.some.inj g1
      have q1 : i + 1 < 9223372036854775808 := by omega
      refine wp_sr (by simp [push_cast, hlt]; exact rfl) (wp_seq' (wp_cond_t (by simp [AS.ev]) (wp_skip' ?_)))
      refine wp_seq' (wp_block' (wp_sr (by simp [push_cast]; exact rfl) ?_))
      refine wp_seq' (wp_rg ?_)
      refine areg_run 5 (by simp [push_cast, g1, g2, hlt, hml]; exact rfl) ?_
      refine areg_xq (us := [clo, AV.lit (ji x)]) rfl (htg _) (c _) ⟨_, _, rfl, rfl⟩ (fun r hp' _ t' ht' => by cases ht') ?_
      rintro r H' ⟨rfl, rfl⟩
      refine areg_end (by simp [push_cast]; exact rfl) ?_
      by_cases hk : p x = true
      · rw [if_pos hk] at hI
        refine wp_cond_t (by simp [AS.ev, AS.put, hk]) ?_
        refine wp_sr (by simp [push_cast]; exact rfl) (wp_ret' ?_)
        exact ⟨_, Le.refl _, finX1 (v := .lit (jn i)) rfl (by simp) ⟨_, H, RelLe.refl _, by simp, HpLe.trim _ _, by rw [← hI]; rfl, rfl⟩⟩
      · rw [if_neg hk] at hI
        refine wp_cond_f (by simp [AS.ev, AS.put, hk]) (wp_skip' ?_)
        refine wp_r (by simp [push_cast, q1]; exact rfl) ?_
        exact Exists.intro (i + 1) ⟨⟨hI, by omega⟩, by omega, Le.mk rfl (by simp [leT]) (leH_refl _)⟩
    · have hin : i = l.length := by omega
      subst hin
      rw [List.drop_length, idxQ] at hI
      refine wp_sr (by simp [push_cast]; exact rfl) (wp_seq' (wp_cond_f (by simp [AS.ev]) (wp_exit' (if_hit rfl ?_))))
      refine wp_sr (by simp [push_cast]; exact rfl) (wp_ret' ?_)
      exact ⟨_, Le.refl _, finX1 (v := .lit (.int .i64 (-1))) rfl (by simp) ⟨_, H, RelLe.refl _, by simp, HpLe.trim _ _, by rw [← hI]; rfl, rfl⟩⟩
set_option maxHeartbeats 4000000 in
theorem conN_call {H : List (Option Blk)} {clo : AV} {g : FuncId} {as' : Int → List AV} {p : Int → Bool} {l : List (Int)} (htg : ∀ x, tgtA Go.Proofs.Tryd.prog .val [clo, AV.lit (ji x)] = some (g, as' x)) (hcl : clo.isTup = false)
    (hc : ∀ L, ∀ x ∈ l, XCall Go.Proofs.Tryd.prog g (as' x) (H ++ L) fun r H' => r = .lit (.bool (p x)) ∧ H' = H ++ L) (hks : l.length < 100000) :
    XCall Go.Proofs.Tryd.prog 40 [.sl 1 (l.map fun x => AV.lit (ji x)), clo] H fun r H' => r = .lit (.bool (l.any p)) ∧ H' = H := by
  have h531 := fc531_eq
  refine XCall.le ?_
  have hcI : callable Go.Proofs.Tryd.prog 60 = true := by kernel_rfl
  have ci := fun L => idxN_call (H := H ++ L) htg hcl (fun L' x hx => by rw [List.append_assoc]; exact hc _ x hx) hks
  have hge := idxV_geq' (idxQ p l 0)
  rw [idxQ_any] at hge
  generalize (l.map fun x => AV.lit (ji x)) = T at *
  refine XCall.of h531 rfl ?_; show AC.wp _ fb531 ⟨H.length, [.sl 1 T, clo] ++ List.replicate (9 - 2) .any, H ++ List.replicate 9 none⟩ (fun x s => match x with | .exit _ => False | _ => ∃ s1, Le s s1 ∧ FinX [(.tmp 4)] s1 _); unfold fb531
  generalize hN : H.length = N at *
  refine wp_sr (by simp [push_cast]; exact rfl) ?_
  refine wp_sg ?_
  refine areg_run 2 (by simp [push_cast]; exact rfl) ?_
  refine areg_xq (us := [.sl 1 T, clo]) rfl (by simp only [tgtA, tgtB, Option.bind_some, hcI, if_true]) (ci _) ⟨_, _, rfl, rfl⟩ (fun r hp' _ t' ht' => by cases ht') ?_
  rintro r H' ⟨rfl, rfl⟩
  refine areg_end (by simp [push_cast, hge]; exact rfl) (wp_ret' ?_)
  exact ⟨_, Le.refl _, finX1 (v := .lit (.bool (l.any p))) rfl (by simp) ⟨_, H, RelLe.refl _, by simp, HpLe.trim _ _, rfl, rfl⟩⟩
set_option maxHeartbeats 8000000 in
theorem idxB_call {H : List (Option Blk)} {clo : AV} {g : FuncId} {as' : BoxV → List AV} {p : BoxV → Bool} {l : List (BoxV)} (htg : ∀ x, tgtA Go.Proofs.Tryd.prog .val [clo, boxA x] = some (g, as' x)) (hcl : clo.isTup = false)
    (hc : ∀ L, ∀ x ∈ l, XCall Go.Proofs.Tryd.prog g (as' x) (H ++ L) fun r H' => r = .lit (.bool (p x)) ∧ H' = H ++ L) (hks : l.length < 100000) :
    XCall Go.Proofs.Tryd.prog 62 [.sl 36 (l.map fun x => boxA x), clo] H fun r H' => r = .lit (idxV (idxQ p l 0)) ∧ H' = H := by
  have h541 := fc541_eq
  refine XCall.le ?_
  have hml : (l.map fun x => boxA x).length = l.length := List.length_map _
  have hget : ∀ i a, l[i]? = some a → (l.map fun x => boxA x)[i]? = some (boxA a) := fun i a h => by rw [List.getElem?_map, h]; rfl
  generalize hT : (l.map fun x => boxA x) = T at *
  refine XCall.of h541 rfl ?_; show AC.wp _ fb541 ⟨H.length, [.sl 36 T, clo] ++ List.replicate (19 - 2) .any, H ++ List.replicate 19 none⟩ (fun x s => match x with | .exit _ => False | _ => ∃ s1, Le s s1 ∧ FinX [(.tmp 4)] s1 _); unfold fb541
  generalize hN : H.length = N at *
  refine wp_sr (by simp [push_cast]; exact rfl) ?_
  refine wp_seq' (wp_seq' (wp_r (by simp [push_cast, hml]; exact rfl) ?_))
  refine wp_block' (wp_loop_m (fun i => ⟨N, [.sl 36 T, clo, .any, .any, .lit (jn 0), .any, .sl 36 T, .lit (jn l.length), .lit (jn i)] ++ List.replicate 10 .any, H ++ List.replicate 19 none⟩) (fun i => l.length - i) (fun i => idxQ p (l.drop i) i = idxQ p l 0 ∧ i ≤ l.length) 0 ?_ ⟨rfl, by simp⟩ ?_)
  · exact Le.mk rfl (by simp [leT]) (leH_refl _)
  · rintro i ⟨hI, hi⟩
    simp only at hI hi ⊢
    by_cases hlt : i < l.length
    · obtain ⟨x, hx⟩ : ∃ x, l[i]? = some x := ⟨_, List.getElem?_eq_getElem hlt⟩
      have hdrop : l.drop i = x :: l.drop (i + 1) := by
        rw [List.drop_eq_getElem_cons hlt]
        rw [List.getElem?_eq_getElem hlt] at hx
        rw [Option.some.inj hx]
      rw [hdrop, idxQ] at hI
      have c := fun L => hc L x (List.mem_of_getElem? hx)
      have g1 := hget i x hx
      have g2 : ∀ h, T[i]'h = boxA x := fun h => by rw [List.getElem?_eq_getElem h] at g1; exact Option.some.inj g1
      have q1 : i + 1 < 9223372036854775808 := by omega
      have xsz : (boxA x).sz = 36 := rfl
      have xag : (boxA x).isAgg = true := rfl
      have xtp : (boxA x).isTup = false := rfl
      refine wp_sr (by simp [push_cast, hlt]; exact rfl) (wp_seq' (wp_cond_t (by simp [AS.ev]) (wp_skip' ?_)))
      refine wp_seq' (wp_block' (wp_sr (by simp [push_cast]; exact rfl) ?_))
      refine wp_seq' (wp_rg ?_)
      refine areg_run 5 (by simp [push_cast, g1, g2, hlt, hml, boxA]; exact rfl) ?_
      refine areg_xq (us := [clo, boxA x]) rfl (htg _) (c _) ⟨_, _, rfl, rfl⟩ (fun r hp' _ t' ht' => by cases ht') ?_
      rintro r H' ⟨rfl, rfl⟩
      refine areg_end (by simp [push_cast]; exact rfl) ?_
      by_cases hk : p x = true
      · rw [if_pos hk] at hI
        refine wp_cond_t (by simp [AS.ev, AS.put, hk]) ?_
        refine wp_sr (by simp [push_cast]; exact rfl) (wp_ret' ?_)
        exact ⟨_, Le.refl _, finX1 (v := .lit (jn i)) rfl (by simp) ⟨_, H, RelLe.refl _, by simp, HpLe.trim _ _, by rw [← hI]; rfl, rfl⟩⟩
      · rw [if_neg hk] at hI
        refine wp_cond_f (by simp [AS.ev, AS.put, hk]) (wp_skip' ?_)
        refine wp_r (by simp [push_cast, q1]; exact rfl) ?_
        exact Exists.intro (i + 1) ⟨⟨hI, by omega⟩, by omega, Le.mk rfl (by simp [leT]) (leH_refl _)⟩
    · have hin : i = l.length := by omega
      subst hin
      rw [List.drop_length, idxQ] at hI
      refine wp_sr (by simp [push_cast]; exact rfl) (wp_seq' (wp_cond_f (by simp [AS.ev]) (wp_exit' (if_hit rfl ?_))))
      refine wp_sr (by simp [push_cast]; exact rfl) (wp_ret' ?_)
      exact ⟨_, Le.refl _, finX1 (v := .lit (.int .i64 (-1))) rfl (by simp) ⟨_, H, RelLe.refl _, by simp, HpLe.trim _ _, by rw [← hI]; rfl, rfl⟩⟩
set_option maxHeartbeats 4000000 in
theorem conB_call {H : List (Option Blk)} {clo : AV} {g : FuncId} {as' : BoxV → List AV} {p : BoxV → Bool} {l : List (BoxV)} (htg : ∀ x, tgtA Go.Proofs.Tryd.prog .val [clo, boxA x] = some (g, as' x)) (hcl : clo.isTup = false)
    (hc : ∀ L, ∀ x ∈ l, XCall Go.Proofs.Tryd.prog g (as' x) (H ++ L) fun r H' => r = .lit (.bool (p x)) ∧ H' = H ++ L) (hks : l.length < 100000) :
    XCall Go.Proofs.Tryd.prog 45 [.sl 36 (l.map fun x => boxA x), clo] H fun r H' => r = .lit (.bool (l.any p)) ∧ H' = H := by
  have h536 := fc536_eq
  refine XCall.le ?_
  have hcI : callable Go.Proofs.Tryd.prog 62 = true := by kernel_rfl
  have ci := fun L => idxB_call (H := H ++ L) htg hcl (fun L' x hx => by rw [List.append_assoc]; exact hc _ x hx) hks
  have hge := idxV_geq' (idxQ p l 0)
  rw [idxQ_any] at hge
  generalize (l.map fun x => boxA x) = T at *
  refine XCall.of h536 rfl ?_; show AC.wp _ fb536 ⟨H.length, [.sl 36 T, clo] ++ List.replicate (9 - 2) .any, H ++ List.replicate 9 none⟩ (fun x s => match x with | .exit _ => False | _ => ∃ s1, Le s s1 ∧ FinX [(.tmp 4)] s1 _); unfold fb536
  generalize hN : H.length = N at *
  refine wp_sr (by simp [push_cast]; exact rfl) ?_
  refine wp_sg ?_
  refine areg_run 2 (by simp [push_cast]; exact rfl) ?_
  refine areg_xq (us := [.sl 36 T, clo]) rfl (by simp only [tgtA, tgtB, Option.bind_some, hcI, if_true]) (ci _) ⟨_, _, rfl, rfl⟩ (fun r hp' _ t' ht' => by cases ht') ?_
  rintro r H' ⟨rfl, rfl⟩
  refine areg_end (by simp [push_cast, hge]; exact rfl) (wp_ret' ?_)
  exact ⟨_, Le.refl _, finX1 (v := .lit (.bool (l.any p))) rfl (by simp) ⟨_, H, RelLe.refl _, by simp, HpLe.trim _ _, rfl, rfl⟩⟩
set_option maxHeartbeats 4000000 in
theorem indexN_call {v : Int} {l : List Int} (hks : l.length < 100000) : PCall Go.Proofs.Tryd.prog 61 [.sl 1 (l.map fun x => AV.lit (ji x)), .lit (ji v)] (.val (.lit (idxV (idxQ (fun x => decide (v = x)) l 0)))) := by
  have h540 := fc540_eq
  have hml : (l.map fun x => AV.lit (ji x)).length = l.length := List.length_map _
  have hget : ∀ i a, l[i]? = some a → (l.map fun x => AV.lit (ji x))[i]? = some (AV.lit (ji a)) := fun i a h => by rw [List.getElem?_map, h]; rfl
  generalize hT : (l.map fun x => AV.lit (ji x)) = T at *
  refine PCall.of h540 rfl ?_; show AC.wp _ fb540 (AS.init [.sl 1 T, .lit (ji v)] 2 19) (fun x s => match x with | .exit _ => False | _ => Fin [(.tmp 4)] s _); unfold fb540 AS.init
  refine wp_sr (by simp [push_cast]; exact rfl) ?_
  refine wp_seq' (wp_seq' (wp_r (by simp [push_cast, hml]; exact rfl) ?_))
  refine wp_block' (wp_loop_m (fun i => ⟨0, [.sl 1 T, .lit (ji v), .any, .any, .lit (jn 0), .any, .sl 1 T, .lit (jn l.length), .lit (jn i)] ++ List.replicate 10 .any, List.replicate 19 none⟩) (fun i => l.length - i) (fun i => idxQ (fun x => decide (v = x)) (l.drop i) i = idxQ (fun x => decide (v = x)) l 0 ∧ i ≤ l.length) 0 ?_ ⟨rfl, by simp⟩ ?_)
  · exact Le.mk rfl (by simp [leT]) (leH_refl _)
  · rintro i ⟨hI, hi⟩
    simp only at hI hi ⊢
    by_cases hlt : i < l.length
    · obtain ⟨x, hx⟩ : ∃ x, l[i]? = some x := ⟨_, List.getElem?_eq_getElem hlt⟩
      have hdrop : l.drop i = x :: l.drop (i + 1) := by
        rw [List.drop_eq_getElem_cons hlt]
        rw [List.getElem?_eq_getElem hlt] at hx
        rw [Option.some.inj hx]
      rw [hdrop, idxQ] at hI
      have g1 := hget i x hx
      have g2 : ∀ h, T[i]'h = AV.lit (ji x) := fun h => by rw [List.getElem?_eq_getElem h] at g1; exact Option.some.inj g1
      have q1 : i + 1 < 9223372036854775808 := by omega
      refine wp_sr (by simp [push_cast, hlt]; exact rfl) (wp_seq' (wp_cond_t (by simp [AS.ev]) (wp_skip' ?_)))
      refine wp_seq' (wp_block' (wp_sr (by simp [push_cast]; exact rfl) ?_))
      by_cases hk : v = x
      · rw [if_pos (by simpa using hk)] at hI
        refine wp_seq' (wp_r (by simp [push_cast, g1, g2, hlt, hml, hk]; exact rfl) ?_)
        refine wp_cond_t (by simp [AS.ev, AS.put]) ?_
        refine wp_sr (by simp [push_cast]; exact rfl) (wp_ret' ?_)
        rw [← hI]
        exact fin_tmp (by simp [RVal, AS.ev, AS.coe, idxV]) (by simp)
      · rw [if_neg (by simpa using hk)] at hI
        refine wp_seq' (wp_r (by simp [push_cast, g1, g2, hlt, hml, hk]; exact rfl) ?_)
        refine wp_cond_f (by simp [AS.ev, AS.put]) (wp_skip' ?_)
        refine wp_r (by simp [push_cast, q1]; exact rfl) ?_
        exact Exists.intro (i + 1) ⟨⟨hI, by omega⟩, by omega, Le.mk rfl (by simp [leT]) (leH_refl _)⟩
    · have hin : i = l.length := by omega
      subst hin
      rw [List.drop_length, idxQ] at hI
      refine wp_sr (by simp [push_cast]; exact rfl) (wp_seq' (wp_cond_f (by simp [AS.ev]) (wp_exit' (if_hit rfl ?_))))
      refine wp_sr (by simp [push_cast]; exact rfl) (wp_ret' ?_)
      rw [← hI]
      exact fin_tmp (by simp [RVal, AS.ev, AS.coe, idxV]) (by simp)
theorem containsN_call {v : Int} {l : List Int} (hks : l.length < 100000) : PCall Go.Proofs.Tryd.prog 42 [.sl 1 (l.map fun x => AV.lit (ji x)), .lit (ji v)] (.val (.lit (.bool (l.any fun x => decide (v = x))))) := by
  have h533 := fc533_eq
  have ci := indexN_call (v := v) hks
  have hge := idxV_geq' (idxQ (fun x => decide (v = x)) l 0)
  rw [idxQ_any] at hge
  generalize (l.map fun x => AV.lit (ji x)) = T at *
  refine PCall.of h533 rfl ?_; show AC.wp _ fb533 (AS.init [.sl 1 T, .lit (ji v)] 2 9) (fun x s => match x with | .exit _ => False | _ => Fin [(.tmp 4)] s _); unfold fb533 AS.init
  refine wp_sr (by simp [push_cast]; exact rfl) (wp_sg ?_)
  refine areg_run 2 (by simp [push_cast]; exact rfl) ?_
  refine areg_lc (by simp [AS.ev, AS.lend, AS.lendF, AS.put, AOp.ro, AS.blk] <;> exact rfl) rfl ci ?_
  refine areg_end (by simp [push_cast, hge]; exact rfl) (wp_ret' ?_)
  exact fin_tmp (by simp [RVal, AS.ev, AS.coe]) (by simp)
end Go.Cab
namespace Go.Cab
open Classical
def mpub (b : Nat) (l : Nat × Nat) : AV := .fnv (.method "Pub") [freeI b l] []
theorem nilv_free (b : Nat) (l : Nat × Nat) : rdA Go.Proofs.Tryd.prog (fun _ => none) .nilv [freeI b l] = some (freeI b l) := rfl
theorem mkfn_pub (b : Nat) (l : Nat × Nat) : rdA Go.Proofs.Tryd.prog (fun _ => none) (.mkfn (.method "Pub") 1) [freeI b l] = some (mpub b l) := rfl
def pubsG : List (List UInt8) → List Term → List (List UInt8) → List (List UInt8) × List Term
  | [], ts, acc => (acc, ts)
  | x :: xs, ts, acc => pubsG xs (putT ts (pubT x)) (acc ++ [nameK (putN ts (pubT x))])
def showT (ts : List Term) (s : Store) : Store × List Term :=
  let ts1 := putT ts (pubT s.id)
  let ts2 := putT ts1 (pubT s.pre)
  let o := pubsG s.ones ts2 []
  (⟨nameK (putN ts (pubT s.id)), nameK (putN ts1 (pubT s.pre)), o.1⟩, o.2)
def PubG (H : List (Option Blk)) (t : Tb) (ts : List Term) (k : List UInt8) (r : AV) (G : List (Option Blk)) : Prop := r = keyA (nameK (putN ts (pubT k))) ∧ ∃ V', G = tbOf H t V' (putT ts (pubT k))
theorem PubG.ex (H : List (Option Blk)) (t : Tb) (ts : List Term) (k : List UInt8) (L : List (Option Blk)) : ∃ r hp', ∃ G', PubG H t ts k r G' ∧ hp' = G' ++ L := ⟨_, _, _, ⟨rfl, .slice none 0 0, rfl⟩, rfl⟩
def zst : AV := .st [32, 32, 1] [keyA zk, keyA zk, .lit (.slice none 0 0)]
end Go.Cab
namespace Go.Cab
open Classical
theorem agreedG_ok : ∀ (ps : List KK) (ts : List Term) (acc : List (List UInt8)), TsOk ts → ts.length + ps.length + 10 < 90000 → (∀ x ∈ ps, x.1.length = 32 ∧ x.2.length = 32) → (∀ k ∈ acc, k.length = 32) →
    TsOk (agreedG ts acc ps).2 ∧ ts.length ≤ (agreedG ts acc ps).2.length ∧ (agreedG ts acc ps).2.length ≤ ts.length + ps.length ∧ ∀ l, (agreedG ts acc ps).1 = some l → l.length = acc.length + ps.length ∧ ∀ k ∈ l, k.length = 32
  | [], ts, acc, h, hl, _, ha => ⟨h, Nat.le_refl _, by simp [agreedG], fun l hl => by cases hl; exact ⟨by simp, ha⟩⟩
  | x :: ps, ts, acc, h, hl, h32, ha => by
    obtain ⟨x1, x2⟩ := h32 x (by simp)
    have hx := fun y hy => agreeX_ok h x1 x2 (x := y) hy
    rw [agreedG]
    cases hag : agreeX ts x.1 x.2 with
    | none => exact ⟨h, Nat.le_refl _, by simp, fun l hl => by cases hl⟩
    | some y =>
      obtain ⟨y1, y2⟩ := hx y hag
      simp only [List.length_cons] at hl
      have hlen := putT_len ts y
      have hp := TsOk.put h y1 y2 (by omega)
      obtain ⟨r1, r2, r3, r4⟩ := agreedG_ok ps (putT ts y) (acc ++ [nameK (putN ts y)]) hp (by omega) (fun z hz => h32 z (by simp [hz])) (fun k hk => by
        rcases List.mem_append.1 hk with hk | hk
        · exact ha k hk
        · simp at hk; subst hk; exact nameK_len _)
      refine ⟨r1, by simp only; omega, by simp only [List.length_cons]; omega, fun l hl => ?_⟩
      obtain ⟨s1, s2⟩ := r4 l hl
      exact ⟨by simp only [List.length_append, List.length_cons, List.length_nil] at s1 ⊢; omega, s2⟩
theorem agreedT_ok {ts : List Term} {ps : List KK} (h : TsOk ts) (hl : ts.length + ps.length + 10 < 90000) (h32 : ∀ x ∈ ps, x.1.length = 32 ∧ x.2.length = 32) :
    TsOk (agreedT ts ps).2 ∧ ts.length ≤ (agreedT ts ps).2.length ∧ (agreedT ts ps).2.length ≤ ts.length + ps.length + 1 ∧ ∀ k, (agreedT ts ps).1 = some k → k.length = 32 := by
  obtain ⟨r1, r2, r3, r4⟩ := agreedG_ok ps ts [] h hl h32 (by simp)
  unfold agreedT
  generalize agreedG ts [] ps = o at *
  obtain ⟨o1, o2⟩ := o
  simp only at r1 r2 r3 r4
  cases o1 with
  | none => exact ⟨r1, r2, by simp only; omega, fun k hk => by cases hk⟩
  | some l =>
    obtain ⟨s1, s2⟩ := r4 l rfl
    have hlen := putT_len o2 ⟨2, hello, l⟩
    refine ⟨TsOk.put r1 ⟨by simp, by simp [hello], by simp only [s1, List.length_nil]; omega, s2⟩ ⟨by simp, by simp⟩ (by omega), by simp only; omega, by simp only; omega, fun k hk => by cases hk; exact nameK_len _⟩
structure Begun where
  h : Hello
  secret : List UInt8
  rest : Store
def pairs0 (id eph : List UInt8) (b : Store) : List KK := [(id, b.pre), (eph, b.id), (eph, b.pre)]
def beginP (id eph : List UInt8) (b : Store) : List UInt8 × List KK × List (List UInt8) :=
  match b.ones with
  | [] => (zk, pairs0 id eph b, [])
  | o :: r => (o, pairs0 id eph b ++ [(eph, o)], r)
def beginT (ts : List Term) (id eph : List UInt8) (b : Store) : Option Begun × List Term :=
  match agreedT ts (beginP id eph b).2.1 with
  | (none, ts1) => (none, ts1)
  | (some k, ts1) => (some ⟨⟨nameK (putN ts1 (pubT id)), nameK (putN (putT ts1 (pubT id)) (pubT eph)), (beginP id eph b).1⟩, k, ⟨b.id, b.pre, (beginP id eph b).2.2⟩⟩, putT (putT ts1 (pubT id)) (pubT eph))
def zhello : Hello := ⟨zk, zk, zk⟩
def begunA : Option Begun → AV
  | none => .tup [helloA zhello, keyA zk, zst, .lit (jn 12)]
  | some x => .tup [helloA x.h, keyA x.secret, storeA x.rest, .lit (jn 0)]
def begS (N : Nat) (H : List (Option Blk)) (t : Tb) (V : Value) (ts : List Term) (id eph : List UInt8) (b : Store) (l5 l6 l7 l8 l9 l10 l13 : Nat × Nat) (Vp : Value) (one : List UInt8) (ps : List KK) (rest : List (List UInt8)) : AS :=
  ⟨N, [freeI t.b t.l, keyA id, keyA eph, storeA b, .any, .ptr (N + 5) l5 0 [], .ptr (N + 6) l6 0 [], .ptr (N + 7) l7 0 [], .ptr (N + 8) l8 0 [], .ptr (N + 9) l9 0 [], .ptr (N + 10) l10 0 [], .lit (jn 0), .own (N + 29) Vp, .ptr (N + 13) l13 0 [], .sl 32 (klA rest)] ++ List.replicate 61 .any,
    tbOf H t V ts ++ ([none, none, none, none, none, some (.box l5 32 (keyA id)), some (.box l6 32 (keyA eph)), some (.box l7 65 (storeA b)), some (.box l8 96 (helloA zhello)), some (.box l9 32 (keyA zk)), some (.box l10 65 zst), none, none, some (.box l13 96 (.st [32, 32, 32] [keyA zk, keyA zk, keyA one]))] ++ List.replicate 15 none ++ [some (.row 0 Vp 64 (ps.map pairA) 0)] ++ List.replicate 46 none)⟩
theorem wp_seqM {P : Program} {s : AS} {Q : AX → AS → Prop} {a b : AC} {X : Type} (S : X → AS) (F : X → Prop) (k : ∀ y, F y → b.wp P (S y) Q) (h : a.wp P s fun x s' => match x with | .normal => ∃ y, F y ∧ Le s' (S y) | x => Q x s') : (AC.seq a b).wp P s Q :=
  wp_seqL (AC.mono a (fun x s g => by
    cases x with
    | normal => obtain ⟨y, hy, hle⟩ := g; exact ⟨S y, hle, k y hy⟩
    | exit i => exact g
    | ret => exact g) h)
theorem areg_bh {P : Program} {s : AS} {K : AS → Prop} {xs : List AOp} {d : Option Tmp} {fo : List Tmp} {ow : Option Tmp} (h : AReg P xs (s.put d (helloA zhello)) K) : AReg P (⟨d, none, .build (.st [32, 32, 32] [.arr 1 (List.replicate 32 (.lit (bn 0))), .arr 1 (List.replicate 32 (.lit (bn 0))), .arr 1 (List.replicate 32 (.lit (bn 0)))]) [], fo, ow⟩ :: xs) s K := by
  refine AOp.ex_go (s' := s.put d (helloA zhello)) ?_ h
  rw [helloA, zhello, zk_eq]
  rfl
theorem areg_bs {P : Program} {s : AS} {K : AS → Prop} {xs : List AOp} {d : Option Tmp} {fo : List Tmp} {ow : Option Tmp} (h : AReg P xs (s.put d zst) K) : AReg P (⟨d, none, .build (.st [32, 32, 1] [.arr 1 (List.replicate 32 (.lit (bn 0))), .arr 1 (List.replicate 32 (.lit (bn 0))), .lit (.slice none 0 0)]) [], fo, ow⟩ :: xs) s K := by
  refine AOp.ex_go (s' := s.put d zst) ?_ h
  rw [zst, zk_eq]
  rfl
theorem klA_cons (o : List UInt8) (r : List (List UInt8)) : klA (o :: r) = keyA o :: klA r := rfl
end Go.Cab