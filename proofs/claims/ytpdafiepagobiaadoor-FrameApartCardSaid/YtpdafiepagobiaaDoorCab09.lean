/- Part 9 of what the proof stands on: Q5, Q13, H4, Q14. -/
import Derived.Test.YtpdafiepagobiaaDoorCab06
import Derived.Test.YtpdafiepagobiaaDoorCab08
set_option linter.unusedSimpArgs false
set_option linter.unnecessarySimpa false
set_option linter.unusedVariables false
set_option linter.unusedSectionVars false
namespace Go.Cab
open Go.RowKit
open Classical
def fb830 : AC := (.seq (.reg [⟨some 7, none, .mov (.tmp 1), [], none⟩, ⟨some 8, none, .len false (.tmp 7), [], none⟩, ⟨some 9, none, .mov (.const (jn 0)), [], none⟩]) (.block 0 (.loop (.seq (.reg [⟨some 10, none, .bin .lss (.tmp 9) (.tmp 8), [], none⟩]) (.seq (.cond (.tmp 10) .skip (.exit 0)) (.seq (.block 1 (.seq (.reg [⟨some 11, none, .iaddrS 1 (.tmp 7) (.tmp 9), [], none⟩, ⟨some 12, none, .load false 1 (.tmp 11), [], none⟩, ⟨some 5, none, .mov (.tmp 12), [], none⟩]) (.seq (.seq (.reg [⟨some 6, none, .mov (.const (jn 28)), [], none⟩]) (.block 2 (.loop (.seq (.seq (.reg [⟨some 13, none, .mov (.tmp 6), [], none⟩, ⟨some 14, none, .bin .gtr (.tmp 13) (.const (jn 0)), [], none⟩]) (.cond (.tmp 14) .skip (.exit 2))) (.seq (.block 3 (.seq (.reg [⟨some 17, none, .mov (.tmp 5), [], none⟩, ⟨some 18, none, .mov (.tmp 6), [], none⟩, ⟨some 19, none, .bin .shr (.tmp 17) (.tmp 18), [], none⟩, ⟨some 20, none, .bin .gtr (.tmp 19) (.const (wn 0)), [], none⟩]) (.cond (.tmp 20) (.reg [⟨some 21, none, .mov (.tmp 0), [], none⟩, ⟨some 22, none, .mov (.tmp 0), [], none⟩, ⟨some 23, none, .nilc (.tmp 22), [], none⟩, ⟨some 24, none, .faddr 0 0 (.tmp 23), [], none⟩, ⟨some 25, none, .load false 1 (.tmp 24), [], none⟩, ⟨some 26, none, .mov (.tmp 5), [], none⟩, ⟨some 27, none, .mov (.tmp 6), [], none⟩, ⟨some 28, none, .bin .shr (.tmp 26) (.tmp 27), [], none⟩, ⟨some 29, none, .cvt .u8 (.tmp 28), [], none⟩, ⟨some 30, none, .bin .or (.tmp 29) (.const (bn 128)), [], none⟩, ⟨some 31, none, .bslice 1 (.lit (bn 0)) 1 [(0, (.tmp 30))], [], none⟩, ⟨some 32, none, .append 5 1 1 (.tmp 25) (.tmp 31), [], none⟩, ⟨some 33, none, .nilc (.tmp 21), [], none⟩, ⟨some 34, none, .faddr 0 0 (.tmp 33), [], none⟩, ⟨none, none, .store 1 (.tmp 34) (.tmp 32), [], none⟩]) .skip))) (.reg [⟨some 15, none, .mov (.tmp 6), [], none⟩, ⟨some 16, none, .bin .sub (.tmp 15) (.const (jn 7)), [], none⟩, ⟨some 6, none, .mov (.tmp 16), [], none⟩])))))) (.reg [⟨some 35, none, .mov (.tmp 0), [], none⟩, ⟨some 36, none, .mov (.tmp 0), [], none⟩, ⟨some 37, none, .nilc (.tmp 36), [], none⟩, ⟨some 38, none, .faddr 0 0 (.tmp 37), [], none⟩, ⟨some 39, none, .load false 1 (.tmp 38), [], none⟩, ⟨some 40, none, .mov (.tmp 5), [], none⟩, ⟨some 41, none, .cvt .u8 (.tmp 40), [], none⟩, ⟨some 42, none, .bin .andNot (.tmp 41) (.const (bn 128)), [], none⟩, ⟨some 43, none, .bslice 1 (.lit (bn 0)) 1 [(0, (.tmp 42))], [], none⟩, ⟨some 44, none, .append 5 1 1 (.tmp 39) (.tmp 43), [], none⟩, ⟨some 45, none, .nilc (.tmp 35), [], none⟩, ⟨some 46, none, .faddr 0 0 (.tmp 45), [], none⟩, ⟨none, none, .store 1 (.tmp 46) (.tmp 44), [], none⟩])))) (.reg [⟨some 47, none, .bin .add (.tmp 9) (.const (jn 1)), [], none⟩, ⟨some 9, none, .mov (.tmp 47), [], none⟩])))))))
def fc830 : FC := ⟨2, 48, [], fb830⟩
theorem fc830_eq : compF Go.Proofs.Tryd.prog 25 = some fc830 := by kernel_rfl
structure Wr where
  b : Nat
  j : Nat
  l : Nat × Nat
def wbk (w : Wr) (V : Value) : Blk := .box w.l 1 (.st [1] [.st [1] [.own w.j V]])
def wrw (V : Value) (bs : List UInt8) : Blk := .row 5 V 1 (bl bs) 0
structure WrOk (H : List (Option Blk)) (w : Wr) (V : Value) (bs : List UInt8) : Prop where
  bj : w.b ≠ w.j
  hb : H[w.b]? = some (some (wbk w V))
  hj : H[w.j]? = some (some (wrw V bs))
def wF (H : List (Option Blk)) (w : Wr) (bs : List UInt8) (V : Value) : List (Option Blk) := (H.set w.b (some (wbk w V))).set w.j (some (wrw V bs))
section
variable {H : List (Option Blk)} {w : Wr} {V0 : Value} {bs0 : List UInt8}
theorem WrOk.lb (h : WrOk H w V0 bs0) : w.b < H.length := (List.getElem?_eq_some_iff.1 h.hb).1
theorem WrOk.lj (h : WrOk H w V0 bs0) : w.j < H.length := (List.getElem?_eq_some_iff.1 h.hj).1
theorem wF_len (bs : List UInt8) (V : Value) : (wF H w bs V).length = H.length := by simp [wF]
theorem WrOk.of (h : WrOk H w V0 bs0) (bs : List UInt8) (V : Value) : WrOk (wF H w bs V) w V bs := by
  have h1 := h.lb; have h2 := h.lj; have h3 := h.bj
  exact ⟨h3, by simp [wF, h1, h3.symm], by simp [wF, h2]⟩
theorem WrOk.of_of (h : WrOk H w V0 bs0) (bs bs' : List UInt8) (V V' : Value) : wF (wF H w bs V) w bs' V' = wF H w bs' V' := by
  unfold wF
  rw [List.set_comm _ _ h.bj.symm, List.set_set, List.set_set]
theorem WrOk.self (h : WrOk H w V0 bs0) : wF H w bs0 V0 = H := by unfold wF; rw [set_same h.hb, set_same h.hj]
theorem WrOk.app (h : WrOk H w V0 bs0) (R : List (Option Blk)) : WrOk (H ++ R) w V0 bs0 :=
  ⟨h.bj, by rw [List.getElem?_append_left h.lb]; exact h.hb, by rw [List.getElem?_append_left h.lj]; exact h.hj⟩
theorem WrOk.of_app (h : WrOk H w V0 bs0) (R : List (Option Blk)) (bs : List UInt8) (V : Value) : wF (H ++ R) w bs V = wF H w bs V ++ R := by
  unfold wF
  rw [List.set_append_left _ _ h.lb, List.set_append_left _ _ (by simpa using h.lj)]
theorem GC.ofW {P : Program} {f : FuncId} {vs : List AV} {bs bs' : List UInt8} {r : AV} (hh : WrOk H w V0 bs0)
    (h : ∀ H V, WrOk H w V bs → XCall P f vs H fun r' H' => r' = r ∧ ∃ V', H' = wF H w bs' V') : GC P f vs (wF H w) bs r bs' := fun x L => by
  refine XCall.mono (h _ x ((hh.of bs x).app L)) ?_
  rintro r' H' ⟨h1, V', h2⟩
  exact ⟨h1, V', by rw [h2, (hh.of bs x).of_app, hh.of_of]⟩
theorem W_b (hh : WrOk H w V0 bs0) (bs : List UInt8) (V : Value) (L : List (Option Blk)) : (wF H w bs V ++ L)[w.b]? = some (some (.box w.l 1 (.st [1] [.st [1] [.own w.j V]]))) := ((hh.of bs V).app L).hb
theorem W_j (hh : WrOk H w V0 bs0) (bs : List UInt8) (V : Value) (L : List (Option Blk)) : (wF H w bs V ++ L)[w.j]? = some (some (.row 5 V 1 (bl bs) 0)) := ((hh.of bs V).app L).hj
theorem W_sj (hh : WrOk H w V0 bs0) (bs : List UInt8) (V : Value) (L : List (Option Blk)) (x : Option Blk) : (wF H w bs V ++ L).set w.j x = (wF H w bs V).set w.j x ++ L := List.set_append_left _ _ (by rw [wF_len]; exact hh.lj)
theorem W_b2 (hh : WrOk H w V0 bs0) (bs : List UInt8) (V : Value) (x : Option Blk) (L : List (Option Blk)) : ((wF H w bs V).set w.j x ++ L)[w.b]? = some (some (.box w.l 1 (.st [1] [.st [1] [.own w.j V]]))) := by
  rw [List.getElem?_append_left (by simp [wF_len, hh.lb]), List.getElem?_set_ne hh.bj.symm]
  exact (hh.of bs V).hb
theorem W_sb (hh : WrOk H w V0 bs0) (bs : List UInt8) (V : Value) (x : Option Blk) (L : List (Option Blk)) (y : Option Blk) : ((wF H w bs V).set w.j x ++ L).set w.b y = ((wF H w bs V).set w.j x).set w.b y ++ L := List.set_append_left _ _ (by simp [wF_len, hh.lb])
theorem W_n2 {N : Nat} (hN : H.length = N) (bs : List UInt8) (V : Value) (x : Option Blk) (L : List (Option Blk)) (k : Nat) (y : Option Blk) : ((wF H w bs V).set w.j x ++ L).set (N + k) y = (wF H w bs V).set w.j x ++ L.set k y := cat2 N _ L k y (by simp [wF_len, hN])
theorem W_back (hh : WrOk H w V0 bs0) {N d : Nat} {tm tm' : List AV} {Lo : List (Option Blk)} {V V' : Value} {bs bs' : List UInt8} (hN : H.length = N) (hd : Lo[d]? = some (some (wrw V' bs'))) (ht : leT tm tm') :
    Le ⟨N, tm, ((wF H w bs V).set w.j none).set w.b (some (.box w.l 1 (.st [1] [.st [1] [.own (N + d) V']]))) ++ Lo⟩ ⟨N, tm', wF H w bs' V' ++ Lo.set d none⟩ := by
  have h1 := hh.lb; have h2 := hh.lj; have h3 := hh.bj
  have hb := HpLe.back (N := N) (G := ((wF H w bs V).set w.j none).set w.b (some (.box w.l 1 (.st [1] [.st [1] [.own (N + d) V']])))) (b := w.b) (j := w.j) (d := d) (X := .box w.l 1 (.st [1] [.st [1] [.own (N + d) V']])) (X' := wbk w V') (Y := wrw V' bs') (Lo := Lo)
    (by simp [wF_len, hN]) h3 (by omega) (by omega) (by rw [List.getElem?_set_self (by simp [wF_len, h1])]) (BlkLe.box (AVle.st1 (AVle.st1 (AVle.own _ _ _) AVle.st0) AVle.st0)) hd
  have e : ((((wF H w bs V).set w.j none).set w.b (some (.box w.l 1 (.st [1] [.st [1] [.own (N + d) V']])))).set w.b (some (wbk w V'))).set w.j (some (wrw V' bs')) = wF H w bs' V' := by
    unfold wF
    rw [List.set_set, List.set_set, List.set_comm _ _ h3.symm, List.set_set, List.set_set]
  rw [e] at hb
  exact Le.hp hb ht
end
theorem bin_shrwj (a b : Nat) : binVal .shr (wn a) (jn b) = some (wn (a / 2 ^ min b 32)) := by
  simp only [binVal, wn, jn]
  rw [if_neg (by omega)]
  simp only [Int.toNat_natCast, IntKind.bits, Option.some.injEq, Value.int.injEq, true_and]
  rw [Int.fdiv_eq_ediv_of_nonneg _ (by exact_mod_cast Nat.zero_le _)]
  exact_mod_cast rfl
theorem bin_gtrw (a b : Nat) : binVal .gtr (wn a) (wn b) = some (.bool (decide (b < a))) := by simp [binVal, wn]
theorem or128 : ∀ a, a < 256 → (a ||| 128) % 256 = a % 128 + 128 := by decide +kernel
theorem bin_or128 {a : Nat} (ha : a < 256) : binVal .or (bn a) (bn 128) = some (bn (a % 128 + 128)) := by rw [bin_or8, or128 a ha]
theorem and128 : ∀ a : Nat, a < 256 → IntKind.u8.wrap ((BitVec.ofInt IntKind.u8.bits (a : Int) &&& ~~~ (BitVec.ofInt IntKind.u8.bits ((128 : Nat) : Int))).toNat : Int) = ((a % 128 : Nat) : Int) := by decide +kernel
theorem bin_and128 {a : Nat} (ha : a < 256) : binVal .andNot (bn a) (bn 128) = some (bn (a % 128)) := by
  simp only [binVal, bn, ne_eq, not_true_eq_false, if_false]
  rw [and128 a ha]
def preB (n k : Nat) : List UInt8 := (List.range k).flatMap fun i => hiB n (2 ^ (28 - 7 * i))
theorem preB_succ (n k : Nat) : preB n (k + 1) = preB n k ++ hiB n (2 ^ (28 - 7 * k)) := by simp [preB, List.range_succ]
theorem numB_pre (n : Nat) : numB n = preB n 4 ++ [UInt8.ofNat (n % 128)] := by
  rw [preB_succ, preB_succ, preB_succ, preB_succ]
  simp only [preB, List.range_zero, List.flatMap_nil, List.nil_append]
  unfold numB
  simp only [List.append_assoc]
def nuS (N : Nat) (H : List (Option Blk)) (w : Wr) (ns : List Nat) (bs : List UInt8) (V : Value) (k i n a : AV) : AS :=
  ⟨N, [.ptr w.b w.l 0 [0], .any, .any, .any, .any, n, a, .sl 1 (ns.map fun n => .lit (wn n)), k, i] ++ List.replicate 38 .any, wF H w bs V ++ List.replicate 48 none⟩
set_option maxRecDepth 20000 in
set_option maxHeartbeats 8000000 in
theorem numbers_call {H : List (Option Blk)} {w : Wr} {V : Value} {bs : List UInt8} (hh : WrOk H w V bs) (ns : List Nat) (hns : ∀ n ∈ ns, n < 4294967296) (hl : bs.length + 5 * ns.length < 1000000) :
    XCall Go.Proofs.Tryd.prog 25 [.ptr w.b w.l 0 [0], .sl 1 (ns.map fun n => .lit (wn n))] H fun r H' => r = .tup [] ∧ ∃ V', H' = wF H w (bs ++ ns.flatMap numB) V' := by
  have h830 := fc830_eq
  refine XCall.le ?_
  have hself := hh.self
  have hml : (ns.map fun n => AV.lit (wn n)).length = ns.length := List.length_map _
  have G1 : ∀ i x, (wF H w i x).length = H.length := fun i x => wF_len i x
  refine XCall.of h830 rfl ?_; show AC.wp _ fb830 ⟨H.length, [.ptr w.b w.l 0 [0], .sl 1 (ns.map fun n => .lit (wn n))] ++ List.replicate (48 - 2) .any, H ++ List.replicate 48 none⟩ (fun x s => match x with | .exit _ => False | _ => ∃ s1, Le s s1 ∧ FinX [] s1 _); unfold fb830
  have hst : ∀ L, H ++ L = wF H w bs V ++ L := fun L => by rw [hself]
  rw [hst]
  generalize hN : H.length = N at *
  have g1 : ∀ i y L k, (wF H w i y ++ L)[N + k]? = L[k]? := fun i y L k => cat1 N _ L k (G1 i y)
  have g2 : ∀ i y L k z, (wF H w i y ++ L).set (N + k) z = wF H w i y ++ L.set k z := fun i y L k z => cat2 N _ L k z (G1 i y)
  have wb := fun bs V L => W_b hh bs V L
  have wj := fun bs V L => W_j hh bs V L
  have wsj := fun bs V L x => W_sj hh bs V L x
  have wb2 := fun bs V x L => W_b2 hh bs V x L
  have wsb := fun bs V x L y => W_sb hh bs V x L y
  have wn2 := fun bs V x L k y => W_n2 (w := w) hN bs V x L k y
  refine wp_seq' (wp_r (by simp [push_cast, hml]; exact rfl) ?_)
  refine wp_block' (wp_loop_m (fun x : Nat × Value => nuS N H w ns (bs ++ (ns.take x.1).flatMap numB) x.2 (.lit (jn ns.length)) (.lit (jn x.1)) .any .any) (fun x => ns.length - x.1) (fun x => x.1 ≤ ns.length) (0, V) (by simp [nuS]; exact Le.cat (by simp [leT]) (by simp [leH])) (by simp) ?_)
  rintro ⟨i, V1⟩ hi
  simp only at hi ⊢
  unfold nuS
  by_cases hlt : i < ns.length
  · obtain ⟨n, hn⟩ : ∃ n, ns[i]? = some n := ⟨_, List.getElem?_eq_getElem hlt⟩
    have hn32 := hns n (List.mem_of_getElem? hn)
    have e1 : (ns.map fun n => AV.lit (wn n))[i]? = some (.lit (wn n)) := by rw [List.getElem?_map, hn]; rfl
    have e2 : ∀ h, (ns.map fun n => AV.lit (wn n))[i]'h = .lit (wn n) := fun h => by rw [List.getElem?_eq_getElem h] at e1; exact Option.some.inj e1
    have q1 : i + 1 < 9223372036854775808 := by omega
    have htk : (ns.take (i + 1)).flatMap numB = (ns.take i).flatMap numB ++ numB n := by rw [List.take_add_one, hn]; simp
    have hfl : ∀ l : List Nat, (l.flatMap numB).length ≤ 5 * l.length := fun l => by
      induction l with
      | nil => simp
      | cons a l ih => have := (numB_len (n := a)).2; simp only [List.flatMap_cons, List.length_append, List.length_cons]; omega
    have hb1 : (bs ++ (ns.take i).flatMap numB).length < 999995 := by
      have := hfl (ns.take i)
      rw [List.length_take] at this
      simp only [List.length_append]
      omega
    generalize hB : bs ++ (ns.take i).flatMap numB = B at *
    refine wp_seq' (wp_r (by simp [push_cast, hlt]; exact rfl) ?_)
    refine wp_seq' (wp_cond_t (by simp [AS.ev]) (wp_skip' ?_))
    have hpl : (preB n 4).length ≤ 4 := by
      have := (numB_len (n := n)).2
      rw [numB_pre, List.length_append, List.length_singleton] at this
      omega
    refine wp_seqM (fun V3 : Value => nuS N H w ns (B ++ numB n) V3 (.lit (jn ns.length)) (.lit (jn i)) .any .any) (fun _ => True) (fun V3 _ => ?_) (wp_block' (wp_seq' (wp_r (by simp [push_cast, hml, hlt, e1, e2]; exact rfl) ?_)))
    · unfold nuS
      refine wp_r (by simp [push_cast, q1]; exact rfl) ?_
      exact ⟨(i + 1, V3), by simp only; omega, by simp only; omega, by simp only [htk, ← List.append_assoc, hB]; exact Le.cat (by simp [leT]) (by simp [leH])⟩
    refine wp_seqM (fun V2 : Value => nuS N H w ns (B ++ preB n 4) V2 (.lit (jn ns.length)) (.lit (jn i)) (.lit (wn n)) .any) (fun _ => True) (fun V2 _ => ?_) ?_
    · unfold nuS
      have h8 : n % 256 < 256 := by omega
      have h88 : n % 256 % 128 = n % 128 := by omega
      have eb : bl (B ++ preB n 4) ++ [.lit (bn (n % 128))] = bl (B ++ numB n) := by
        rw [numB_pre, ← List.append_assoc, ← bl_app]
        simp [bl, u8_ofNat (show n % 128 < 256 by omega)]
      refine wp_rg ?_
      refine areg_run 9 (by simp [push_cast, g1, wb, bin_and128 h8, h88]; exact rfl) ?_
      refine areg_ap (b := w.j) (V := V2) (ys := [.lit (bn (n % 128))]) rfl (by simp only [AS.blk, wj]; rfl) (by simp [AS.ev, AS.coe]) (by simp [bl_len, maxLen]; omega) (by simp [bl_len]; omega) (fun V3 => ?_) (by intro t' ht' b hb; cases ht')
      rw [eb]
      refine areg_end (by simp [push_cast, wsj, wn2, wb2, wsb]; exact rfl) ?_
      exact ⟨V3, trivial, Le.trans (W_back hh (d := 44) (bs' := B ++ numB n) hN rfl (leT_refl _)) (Le.cat (by simp [leT]) (by simp [leH]))⟩
    · refine wp_seq' (wp_r (by simp [push_cast]; exact rfl) ?_)
      refine wp_block' (wp_loop_m (fun x : Nat × Value => nuS N H w ns (B ++ preB n x.1) x.2 (.lit (jn ns.length)) (.lit (jn i)) (.lit (wn n)) (.lit (jn (28 - 7 * x.1)))) (fun x => 4 - x.1) (fun x => x.1 ≤ 4) (0, V1) (by simp [nuS, preB]; exact Le.cat (by simp [leT]) (by simp [leH])) (by simp) ?_)
      rintro ⟨k, V2⟩ hk
      simp only at hk ⊢
      unfold nuS
      by_cases hk4 : k < 4
      · have a0 : 0 < 28 - 7 * k := by omega
        have a1 : min (28 - 7 * k) 32 = 28 - 7 * k := by omega
        have a7 : 7 ≤ 28 - 7 * k := by omega
        have a9 : 28 - 7 * k < 9223372036854775808 := by omega
        have a8 : 28 - 7 * k - 7 = 28 - 7 * (k + 1) := by omega
        have hps := preB_succ n k
        have hpk : (preB n k).length ≤ 4 := by
          unfold preB
          have : ∀ l : List Nat, (l.flatMap fun i => hiB n (2 ^ (28 - 7 * i))).length ≤ l.length := fun l => by
            induction l with
            | nil => simp
            | cons a l ih =>
              have h1 : (hiB n (2 ^ (28 - 7 * a))).length ≤ 1 := by unfold hiB; split <;> simp
              simp only [List.flatMap_cons, List.length_append, List.length_cons]
              omega
          have := this (List.range k)
          rw [List.length_range] at this
          omega
        unfold hiB at hps
        generalize hpn : preB n (k + 1) = PN at *
        generalize hpo : preB n k = PO at *
        generalize hq : n / 2 ^ (28 - 7 * k) = q at *
        refine wp_seq' (wp_sr (by simp [push_cast, a0]; exact rfl) (wp_cond_t (by simp [AS.ev]) (wp_skip' ?_)))
        have fin : ∀ V3 : Value, PN = PO → True := fun _ _ => trivial
        refine wp_seqM (fun V3 : Value => nuS N H w ns (B ++ PN) V3 (.lit (jn ns.length)) (.lit (jn i)) (.lit (wn n)) (.lit (jn (28 - 7 * k)))) (fun _ => True) (fun V3 _ => ?_) (wp_block' (wp_sr (by simp [push_cast, bin_shrwj, a1, hq, bin_gtrw]; exact rfl) ?_))
        · unfold nuS
          refine wp_r (by simp [push_cast, bin_subj (28 - 7 * k) 7 a7 a9, a8]; exact rfl) ?_
          exact ⟨(k + 1, V3), by simp only; omega, by simp only; omega, by simp only [hpn]; exact Le.cat (by simp [leT]) (by simp [leH])⟩
        by_cases hq0 : 0 < q
        · rw [if_pos hq0] at hps
          have h8 : q % 256 < 256 := by omega
          have h88 : q % 256 % 128 = q % 128 := by omega
          have h89 : (q % 128 + 128) % 256 = q % 128 + 128 := by omega
          have eb : bl (B ++ PO) ++ [.lit (bn (q % 128 + 128))] = bl (B ++ PN) := by
            rw [hps, ← List.append_assoc, ← bl_app]
            simp [bl, h89]
          refine wp_cond_t (by simp [AS.ev, hq0]) (wp_rg ?_)
          refine areg_run 11 (by simp [push_cast, g1, wb, bin_shrwj, a1, hq, bin_or128 h8, h88, h89]; exact rfl) ?_
          refine areg_ap (b := w.j) (V := V2) (ys := [.lit (bn (q % 128 + 128))]) rfl (by simp only [AS.blk, wj]; rfl) (by simp [AS.ev, AS.coe]) (by simp [bl_len, maxLen]; omega) (by simp [bl_len]; omega) (fun V3 => ?_) (by intro t' ht' b hb; cases ht')
          rw [eb]
          refine areg_end (by simp [push_cast, wsj, wn2, wb2, wsb]; exact rfl) ?_
          exact ⟨V3, trivial, Le.trans (W_back hh (d := 32) (bs' := B ++ PN) hN rfl (leT_refl _)) (Le.cat (by simp [leT]) (by simp [leH]))⟩
        · rw [if_neg hq0, List.append_nil] at hps
          refine wp_cond_f (by simp [AS.ev, hq0]) (wp_skip' ?_)
          exact ⟨V2, trivial, by rw [hps]; exact Le.cat (by simp [leT]) (by simp [leH])⟩
      · have : k = 4 := by omega
        subst this
        refine wp_seq' (wp_sr (by simp [push_cast]; exact rfl) (wp_cond_f (by simp [AS.ev]) (wp_exit' (if_hit rfl ?_))))
        exact ⟨V2, trivial, Le.cat (by simp [leT]) (by simp [leH])⟩
  · have : i = ns.length := by omega
    subst this
    refine wp_seq' (wp_r (by simp [push_cast]; exact rfl) ?_)
    refine wp_seq' (wp_cond_f (by simp [AS.ev]) (wp_exit' (if_hit rfl ?_)))
    exact ⟨_, Le.refl _, [], .tup [], ⟨[], rfl, rfl, by simp⟩, .tup [], _, RelLe.refl _, by simp, HpLe.trim _ _, rfl, V1, rfl⟩
end Go.Cab
namespace Go.Cab
open Go.RowKit
open Classical
def fb840 : AC := (.seq (.reg [⟨some 2, none, .mov (.const (.pointer .none)), [], none⟩]) (.seq (.reg [⟨some 3, none, .mov (.tmp 0), [], none⟩, ⟨some 4, none, .build (.st [1, 1] [(.lit (tx [])), (.lit (jn 0))]) [(0, (.tmp 3))], [], none⟩, ⟨some 5, none, .box 2 (.tmp 4), [], none⟩, ⟨some 2, none, .mov (.tmp 5), [], none⟩]) .ret))
def fc840 : FC := ⟨1, 6, [(.tmp 2)], fb840⟩
theorem fc840_eq : compF Go.Proofs.Tryd.prog 30 = some fc840 := by kernel_rfl
def fb841 : AC := (.seq (.reg [⟨some 2, none, .mov (.const (jn 0)), [], none⟩]) (.seq (.seq (.reg [⟨some 3, none, .mov (.tmp 0), [], none⟩, ⟨some 4, none, .nilc (.tmp 3), [], none⟩, ⟨some 5, none, .faddr 1 1 (.tmp 4), [], none⟩, ⟨some 6, none, .load false 1 (.tmp 5), [], none⟩, ⟨some 7, none, .bin .eql (.tmp 6) (.const (jn 0)), [], none⟩, ⟨some 8, none, .mov (.tmp 7), [], none⟩, ⟨some 9, some (8, true), .mov (.tmp 0), [], none⟩, ⟨some 10, some (8, true), .nilc (.tmp 9), [], none⟩, ⟨some 11, some (8, true), .faddr 0 0 (.tmp 10), [], none⟩, ⟨some 12, some (8, true), .load false 1 (.tmp 11), [], none⟩, ⟨some 13, some (8, true), .len true (.tmp 12), [], none⟩, ⟨some 14, some (8, true), .bin .gtr (.tmp 13) (.const (jn 0)), [], none⟩, ⟨some 15, none, .pick (.tmp 8) (.tmp 14) (.const (.bool false)), [], none⟩]) (.cond (.tmp 15) (.seq (.reg [⟨some 2, none, .mov (.const (jn 6)), [], none⟩]) .ret) .skip)) (.seq (.reg [⟨some 16, none, .mov (.tmp 0), [], none⟩, ⟨some 17, none, .nilc (.tmp 16), [], none⟩, ⟨some 18, none, .faddr 1 1 (.tmp 17), [], none⟩, ⟨some 19, none, .load false 1 (.tmp 18), [], none⟩, ⟨some 2, none, .mov (.tmp 19), [], none⟩]) .ret)))
def fc841 : FC := ⟨1, 20, [(.tmp 2)], fb841⟩
theorem fc841_eq : compF Go.Proofs.Tryd.prog 34 = some fc841 := by kernel_rfl
def fb842 : AC := (.seq (.reg [⟨some 2, none, .mov (.const (wn 0)), [], none⟩, ⟨some 3, none, .mov (.const (jn 0)), [], none⟩, ⟨some 4, none, .mov (.const (jn 0)), [], none⟩]) (.seq (.reg [⟨some 5, none, .mov (.const (un 0)), [], none⟩]) (.seq (.reg [⟨some 6, none, .mov (.const (jn 3)), [], none⟩]) (.seq .skip (.seq (.seq (.reg [⟨some 9, none, .mov (.tmp 0), [], none⟩, ⟨some 10, none, .nilc (.tmp 9), [], none⟩, ⟨some 11, none, .faddr 0 0 (.tmp 10), [], none⟩, ⟨some 12, none, .load false 1 (.tmp 11), [], none⟩, ⟨some 13, none, .len true (.tmp 12), [], none⟩, ⟨some 14, none, .mov (.const (jn 0)), [], none⟩]) (.block 0 (.loop (.seq (.reg [⟨some 15, none, .bin .lss (.tmp 14) (.tmp 13), [], none⟩]) (.seq (.cond (.tmp 15) .skip (.exit 0)) (.seq (.block 1 (.seq (.reg [⟨some 16, none, .mov (.tmp 14), [], none⟩, ⟨some 7, none, .mov (.tmp 16), [], none⟩]) (.seq (.reg [⟨some 17, none, .mov (.tmp 0), [], none⟩, ⟨some 18, none, .nilc (.tmp 17), [], none⟩, ⟨some 19, none, .faddr 0 0 (.tmp 18), [], none⟩, ⟨some 20, none, .load false 1 (.tmp 19), [], none⟩, ⟨some 21, none, .mov (.tmp 7), [], none⟩, ⟨some 22, none, .prim .sidx [.tmp 20, .tmp 21], [], none⟩, ⟨some 8, none, .mov (.tmp 22), [], none⟩]) (.seq (.reg [⟨some 23, none, .mov (.tmp 5), [], none⟩, ⟨some 24, none, .bin .shl (.tmp 23) (.const (un 7)), [], none⟩, ⟨some 25, none, .mov (.tmp 8), [], none⟩, ⟨some 26, none, .bin .andNot (.tmp 25) (.const (bn 128)), [], none⟩, ⟨some 27, none, .cvt .u64 (.tmp 26), [], none⟩, ⟨some 28, none, .bin .or (.tmp 24) (.tmp 27), [], none⟩, ⟨some 5, none, .mov (.tmp 28), [], none⟩]) (.block 2 (.seq (.seq (.reg [⟨some 30, none, .mov (.tmp 8), [], none⟩, ⟨some 31, none, .bin .eql (.tmp 30) (.const (bn 128)), [], none⟩, ⟨some 32, none, .mov (.tmp 31), [], none⟩, ⟨some 33, some (32, true), .mov (.tmp 7), [], none⟩, ⟨some 34, some (32, true), .bin .eql (.tmp 33) (.const (jn 0)), [], none⟩, ⟨some 35, none, .pick (.tmp 32) (.tmp 34) (.const (.bool false)), [], none⟩, ⟨some 29, none, .mov (.tmp 35), [], none⟩]) (.cond (.tmp 29) .skip (.seq (.reg [⟨some 36, none, .mov (.tmp 5), [], none⟩, ⟨some 37, none, .bin .geq (.tmp 36) (.const (un 4294967296)), [], none⟩, ⟨some 29, none, .mov (.tmp 37), [], none⟩]) (.cond (.tmp 29) .skip (.reg [⟨some 38, none, .mov (.tmp 7), [], none⟩, ⟨some 39, none, .bin .eql (.tmp 38) (.const (jn 4)), [], none⟩, ⟨some 40, none, .mov (.tmp 39), [], none⟩, ⟨some 41, some (40, true), .mov (.tmp 8), [], none⟩, ⟨some 42, some (40, true), .bin .geq (.tmp 41) (.const (bn 128)), [], none⟩, ⟨some 43, none, .pick (.tmp 40) (.tmp 42) (.const (.bool false)), [], none⟩, ⟨some 29, none, .mov (.tmp 43), [], none⟩]))))) (.cond (.tmp 29) (.seq (.reg [⟨some 6, none, .mov (.const (jn 4)), [], none⟩]) (.exit 0)) (.seq (.reg [⟨some 45, none, .mov (.tmp 8), [], none⟩, ⟨some 46, none, .bin .lss (.tmp 45) (.const (bn 128)), [], none⟩, ⟨some 44, none, .mov (.tmp 46), [], none⟩]) (.cond (.tmp 44) (.seq (.reg [⟨some 47, none, .mov (.tmp 5), [], none⟩, ⟨some 48, none, .cvt .u32 (.tmp 47), [], none⟩, ⟨some 49, none, .mov (.tmp 7), [], none⟩, ⟨some 50, none, .bin .add (.tmp 49) (.const (jn 1)), [], none⟩, ⟨some 2, none, .mov (.tmp 48), [], none⟩, ⟨some 3, none, .mov (.tmp 50), [], none⟩, ⟨some 4, none, .mov (.const (jn 0)), [], none⟩]) .ret) .skip))))))))) (.reg [⟨some 51, none, .bin .add (.tmp 14) (.const (jn 1)), [], none⟩, ⟨some 14, none, .mov (.tmp 51), [], none⟩]))))))) (.seq (.reg [⟨some 52, none, .mov (.tmp 6), [], none⟩, ⟨some 2, none, .mov (.const (wn 0)), [], none⟩, ⟨some 3, none, .mov (.const (jn 0)), [], none⟩, ⟨some 4, none, .mov (.tmp 52), [], none⟩]) .ret))))))
def fc842 : FC := ⟨1, 53, [(.tmp 2), (.tmp 3), (.tmp 4)], fb842⟩
theorem fc842_eq : compF Go.Proofs.Tryd.prog 64 = some fc842 := by kernel_rfl
def fb843 : AC := (.seq (.reg [⟨some 2, none, .mov (.const (wn 0)), [], none⟩]) (.seq (.seq (.reg [⟨some 6, none, .mov (.tmp 0), [], none⟩, ⟨some 7, none, .nilc (.tmp 6), [], none⟩, ⟨some 8, none, .faddr 1 1 (.tmp 7), [], none⟩, ⟨some 9, none, .load false 1 (.tmp 8), [], none⟩, ⟨some 10, none, .bin .neq (.tmp 9) (.const (jn 0)), [], none⟩]) (.cond (.tmp 10) (.seq (.reg [⟨some 2, none, .mov (.const (wn 0)), [], none⟩]) .ret) .skip)) (.seq (.reg [⟨some 12, none, .mov (.tmp 0), [], none⟩, ⟨some 13, none, .icall 64 (.tmp 12) [], [], none⟩, ⟨some 11, none, .mov (.tmp 13), [], none⟩, ⟨some 14, none, .ext (.tmp 11) 0, [], none⟩, ⟨some 15, none, .ext (.tmp 11) 1, [], none⟩, ⟨some 16, none, .ext (.tmp 11) 2, [], none⟩, ⟨some 3, none, .mov (.tmp 14), [], none⟩, ⟨some 4, none, .mov (.tmp 15), [], none⟩, ⟨some 5, none, .mov (.tmp 16), [], none⟩]) (.seq (.reg [⟨some 17, none, .mov (.tmp 0), [], none⟩, ⟨some 18, none, .mov (.tmp 0), [], none⟩, ⟨some 19, none, .mov (.tmp 0), [], none⟩, ⟨some 20, none, .nilc (.tmp 19), [], none⟩, ⟨some 21, none, .faddr 0 0 (.tmp 20), [], none⟩, ⟨some 22, none, .load false 1 (.tmp 21), [], none⟩, ⟨some 23, none, .mov (.tmp 4), [], none⟩, ⟨some 24, none, .prim (.ssub true false) [.tmp 22, .tmp 23], [], none⟩, ⟨some 25, none, .mov (.tmp 5), [], none⟩, ⟨some 26, none, .nilc (.tmp 17), [], none⟩, ⟨some 27, none, .faddr 0 0 (.tmp 26), [], none⟩, ⟨none, none, .store 1 (.tmp 27) (.tmp 24), [], none⟩, ⟨some 28, none, .nilc (.tmp 18), [], none⟩, ⟨some 29, none, .faddr 1 1 (.tmp 28), [], none⟩, ⟨none, none, .store 1 (.tmp 29) (.tmp 25), [], none⟩]) (.seq (.reg [⟨some 30, none, .mov (.tmp 3), [], none⟩, ⟨some 2, none, .mov (.tmp 30), [], none⟩]) .ret)))))
def fc843 : FC := ⟨1, 31, [(.tmp 2)], fb843⟩
theorem fc843_eq : compF Go.Proofs.Tryd.prog 52 = some fc843 := by kernel_rfl
attribute [local irreducible] AReg
structure Rr where
  b : Nat
  l : Nat × Nat
def rdk (R : Rr) (s : RS) : Blk := .box R.l 2 (.st [1, 1] [.lit (tx s.1), .lit (jn s.2)])
def rdF (H : List (Option Blk)) (R : Rr) (s : RS) (_ : Unit) : List (Option Blk) := H.set R.b (some (rdk R s))
def RdOk (H : List (Option Blk)) (R : Rr) (s : RS) : Prop := H[R.b]? = some (some (rdk R s))
section
variable {H : List (Option Blk)} {R : Rr} {s0 : RS}
theorem RdOk.lb (h : RdOk H R s0) : R.b < H.length := (List.getElem?_eq_some_iff.1 h).1
theorem rdF_len (s : RS) (u : Unit) : (rdF H R s u).length = H.length := by simp [rdF]
theorem RdOk.of (h : RdOk H R s0) (s : RS) (u : Unit) : RdOk (rdF H R s u) R s := by unfold RdOk rdF; rw [List.getElem?_set_self h.lb]
theorem RdOk.of_of (s s' : RS) (u v : Unit) : rdF (rdF H R s u) R s' v = rdF H R s' v := by unfold rdF; rw [List.set_set]
theorem RdOk.self (h : RdOk H R s0) (u : Unit) : rdF H R s0 u = H := set_same h
theorem RdOk.app (h : RdOk H R s0) (L : List (Option Blk)) : RdOk (H ++ L) R s0 := by unfold RdOk; rw [List.getElem?_append_left h.lb]; exact h
theorem RdOk.of_app (h : RdOk H R s0) (L : List (Option Blk)) (s : RS) (u : Unit) : rdF (H ++ L) R s u = rdF H R s u ++ L := List.set_append_left _ _ h.lb
theorem GC.ofD {P : Program} {f : FuncId} {vs : List AV} {s s' : RS} {r : AV} (hh : RdOk H R s0)
    (h : ∀ H, RdOk H R s → XCall P f vs H fun r' H' => r' = r ∧ H' = rdF H R s' ()) : GC P f vs (rdF H R) s r s' := fun x L => by
  refine XCall.mono (h _ ((hh.of s x).app L)) ?_
  rintro r' H' ⟨h1, h2⟩
  exact ⟨h1, (), by rw [h2, (hh.of s x).of_app, RdOk.of_of]⟩
theorem D_b (hh : RdOk H R s0) (s : RS) (u : Unit) (L : List (Option Blk)) : (rdF H R s u ++ L)[R.b]? = some (some (.box R.l 2 (.st [1, 1] [.lit (tx s.1), .lit (jn s.2)]))) := (hh.of s u).app L
theorem D_sb (hh : RdOk H R s0) (s s' : RS) (u : Unit) (L : List (Option Blk)) : (rdF H R s u ++ L).set R.b (some (.box R.l 2 (.st [1, 1] [.lit (tx s'.1), .lit (jn s'.2)]))) = rdF H R s' () ++ L := by
  show rdF (rdF H R s u ++ L) R s' () = _
  rw [(hh.of s u).of_app, RdOk.of_of]
end
theorem bin_geq64 (a b : Nat) : binVal .geq (un a) (un b) = some (.bool (decide (b ≤ a))) := by simp [binVal, un]
theorem or_low {n d : Nat} (hn : n < 4294967296) (hd : d < 128) : (n * 128 % 18446744073709551616 ||| d % 18446744073709551616) % 18446744073709551616 = n * 128 + d := by
  have e1 : n * 128 % 18446744073709551616 = 2 ^ 7 * n := by omega
  have e2 : d % 18446744073709551616 = d := by omega
  rw [e1, e2, ← Nat.two_pow_add_eq_or_of_lt (i := 7) hd n]
  omega
theorem and128b (b : UInt8) : binVal .andNot (bn b.toNat) (bn 128) = some (bn (b.toNat % 128)) := bin_and128 b.toNat_lt
theorem drop_cons {α : Type} {l : List α} {i : Nat} {x : α} (h : l[i]? = some x) : l.drop i = x :: l.drop (i + 1) := by
  obtain ⟨h1, h2⟩ := List.getElem?_eq_some_iff.1 h
  rw [List.drop_eq_getElem_cons h1, h2]
def nmS (p : AV) (n i : Nat) (s : List UInt8) : List AV :=
  [p, .any, .lit (wn 0), .lit (jn 0), .lit (jn 0), .lit (un n), .lit (jn 3), .any, .any, .any, .any, .any, .any, .lit (jn s.length), .lit (jn i)] ++ List.replicate 38 .any
set_option maxRecDepth 20000 in
set_option maxHeartbeats 8000000 in
theorem numR_call {H : List (Option Blk)} {R : Rr} {s : RS} (hh : RdOk H R s) (hs : s.1.length < 1000000) :
    XCall Go.Proofs.Tryd.prog 64 [.ptr R.b R.l 0 []] H fun r H' => r = .tup [.lit (wn (getN 0 0 s.1).1), .lit (jn (getN 0 0 s.1).2.1), .lit (jn (getN 0 0 s.1).2.2)] ∧ H' = H := by
  have h842 := fc842_eq
  refine XCall.le ?_
  obtain ⟨s, e⟩ := s
  simp only at hs ⊢
  have lb := hh.lb
  refine XCall.of h842 rfl ?_; show AC.wp _ fb842 ⟨H.length, [.ptr R.b R.l 0 []] ++ List.replicate (53 - 1) .any, H ++ List.replicate 53 none⟩ (fun x s => match x with | .exit _ => False | _ => ∃ s1, Le s s1 ∧ FinX [(.tmp 2), (.tmp 3), (.tmp 4)] s1 _); unfold fb842
  generalize hN : H.length = N at *
  have wb : ∀ L, (H ++ L)[R.b]? = some (some (.box R.l 2 (.st [1, 1] [.lit (tx s), .lit (jn e)]))) := fun L => hh.app L
  have fin : ∀ (n k e : Nat) (st : AS), getN 0 0 s = (n, k, e) → st.ev (.tmp 2) = .lit (wn n) → st.ev (.tmp 3) = .lit (jn k) → st.ev (.tmp 4) = .lit (jn e) → (∃ L, st.hp = H ++ L) → ∃ s1, Le st s1 ∧ FinX [RV.tmp 2, RV.tmp 3, RV.tmp 4] s1 fun r H' => ∃ r' A, RelLe r r' ∧ r' ≠ .any ∧ HpLe H' A ∧ r' = .tup [.lit (wn (getN 0 0 s).1), .lit (jn (getN 0 0 s).2.1), .lit (jn (getN 0 0 s).2.2)] ∧ A = H := by
    rintro n k e st h1 h2 h3 h4 ⟨L, h5⟩
    refine ⟨st, Le.refl _, [], .tup [.lit (wn n), .lit (jn k), .lit (jn e)], ⟨[.lit (wn n), .lit (jn k), .lit (jn e)], rfl, by simp [AS.seals, RVals, RVal, h2, h3, h4, AS.coe], by simp⟩, _, _, RelLe.refl _, by simp, by rw [show (st.seals []).hp = st.hp from rfl, h5]; exact HpLe.trim _ _, by rw [h1], rfl⟩
  refine wp_sr (by simp [push_cast]; exact rfl) ?_
  refine wp_sr (by simp [push_cast]; exact rfl) ?_
  refine wp_sr (by simp [push_cast]; exact rfl) ?_
  refine wp_seq' (wp_skip' ?_)
  refine wp_seq' (wp_seq' (wp_r (by simp [push_cast, wb]; exact rfl) ?_))
  refine wp_block' (wp_loop_m (fun x : Nat × Nat => ⟨N, nmS (.ptr R.b R.l 0 []) x.2 x.1 s, H ++ List.replicate 53 none⟩) (fun x => s.length - x.1) (fun x => x.1 ≤ s.length ∧ x.2 < 4294967296 ∧ getN x.1 x.2 (s.drop x.1) = getN 0 0 s) (0, 0) (by simp only [nmS]; exact Le.cat (by simp [leT]) (by simp [leH])) (by simp) ?_)
  rintro ⟨i, n⟩ ⟨hi, hn, hI⟩
  simp only at hi hn hI ⊢
  unfold nmS
  by_cases hlt : i < s.length
  · obtain ⟨b, hb⟩ : ∃ b, s[i]? = some b := ⟨_, List.getElem?_eq_getElem hlt⟩
    have bl := b.toNat_lt
    have q1 : i + 1 < 9223372036854775808 := by omega
    rw [drop_cons hb, getN] at hI
    have hor := or_low hn (show b.toNat % 128 < 128 by omega)
    have han := and128b b
    have hg : binVal .geq (un (n * 128 + b.toNat % 128)) (un 4294967296) = some (.bool (decide (4294967296 ≤ n * 128 + b.toNat % 128))) := bin_geq64 _ _
    obtain ⟨m, hm⟩ : ∃ m, m = n * 128 + b.toNat % 128 := ⟨_, rfl⟩
    rw [← hm] at hg hI hor
    refine wp_seq' (wp_r (by simp [push_cast, hlt]; exact rfl) ?_)
    refine wp_seq' (wp_cond_t (by simp [AS.ev]) (wp_skip' ?_))
    refine wp_seq' (wp_block' (wp_seq' (wp_r (by simp [push_cast]; exact rfl) ?_)))
    refine wp_sr (by simp [push_cast, wb, hb]; exact rfl) ?_
    refine wp_sr (by simp [push_cast, hor, han]; exact rfl) ?_
    have k8 : binVal .eql (bn b.toNat) (bn 128) = some (.bool (decide (b.toNat = 128))) := bin_eql8 _ _
    have k9 : binVal .geq (bn b.toNat) (bn 128) = some (.bool (decide (128 ≤ b.toNat))) := bin_geq8 _ _
    have k10 : binVal .lss (bn b.toNat) (bn 128) = some (.bool (decide (b.toNat < 128))) := bin_lss8 _ _
    refine wp_block' (wp_seqM (fun _ : Unit => ⟨N, [.ptr R.b R.l 0 [], .any, .lit (wn 0), .lit (jn 0), .lit (jn 0), .lit (un m), .lit (jn 3), .lit (jn i), .lit (bn b.toNat), .any, .any, .any, .any, .lit (jn s.length), .lit (jn i)] ++ List.replicate 14 .any ++ [.lit (.bool (decide ((b.toNat = 128 ∧ i = 0) ∨ 4294967296 ≤ m ∨ (i = 4 ∧ 128 ≤ b.toNat))))] ++ List.replicate 23 .any, H ++ List.replicate 53 none⟩) (fun _ => True) (fun _ _ => ?_) ?_)
    · by_cases hbad : (b.toNat = 128 ∧ i = 0) ∨ 4294967296 ≤ m ∨ (i = 4 ∧ 128 ≤ b.toNat)
      · rw [if_pos hbad] at hI
        refine wp_cond_t (by simp [AS.ev, hbad]) ?_
        refine wp_sr (by simp [push_cast]; exact rfl) (wp_exit' (if_miss (by decide) (if_miss (by decide) (if_hit rfl ?_))))
        refine wp_sr (by simp [push_cast]; exact rfl) (wp_ret' ?_)
        exact fin 0 0 4 _ hI.symm rfl rfl rfl ⟨_, rfl⟩
      · rw [if_neg hbad] at hI
        have hm2 : m < 4294967296 := by omega
        refine wp_cond_f (by simp [AS.ev, hbad]) ?_
        by_cases hlo : b.toNat < 128
        · rw [if_pos hlo] at hI
          have cm : cvtA .u32 (.lit (un m)) = some (.lit (wn m)) := by
            have : cvtA .u32 (.lit (un m)) = some (.lit (wn (m % 4294967296))) := by simp only [cvtA, un]; rfl
            rw [this, Nat.mod_eq_of_lt hm2]
          refine wp_sr (by simp [push_cast, k10, hlo]; exact rfl) (wp_cond_t (by simp [AS.ev, hlo]) ?_)
          refine wp_sr (by simp [push_cast, cm, q1]; exact rfl) (wp_ret' ?_)
          exact fin m (i + 1) 0 _ hI.symm rfl rfl rfl ⟨_, rfl⟩
        · rw [if_neg hlo] at hI
          refine wp_sr (by simp [push_cast, k10, hlo]; exact rfl) (wp_cond_f (by simp [AS.ev, hlo]) (wp_skip' ?_))
          refine wp_r (by simp [push_cast, q1]; exact rfl) ?_
          exact ⟨(i + 1, m), ⟨by simp only; omega, hm2, hI⟩, by simp only; omega, by simp only [nmS]; exact Le.cat (by simp [leT]) (by simp [leH])⟩
    · refine wp_seq' ?_
      by_cases c1 : b.toNat = 128 ∧ i = 0
      · obtain ⟨d1, d2⟩ := c1
        subst d2
        rw [d1] at k8
        refine wp_r (by simp [push_cast, k8, d1]; exact rfl) ?_
        refine wp_cond_t (by simp [AS.ev]) (wp_skip' ?_)
        exact ⟨(), trivial, Le.cat (by simp [leT, d1]) (by simp [leH])⟩
      · by_cases d1 : b.toNat = 128
        · have d2 : i ≠ 0 := fun h => c1 ⟨d1, h⟩
          refine wp_r (by simp [push_cast, k8, d1, d2]; exact rfl) ?_
          refine wp_cond_f (by simp [AS.ev]) ?_
          by_cases c2 : 4294967296 ≤ m
          · refine wp_sr (by simp [push_cast, hg, c2]; exact rfl) (wp_cond_t (by simp [AS.ev, c2]) (wp_skip' ?_))
            exact ⟨(), trivial, Le.cat (by simp [leT, c2, d1, d2]) (by simp [leH])⟩
          · refine wp_sr (by simp [push_cast, hg, c2]; exact rfl) (wp_cond_f (by simp [AS.ev, c2]) ?_)
            rw [d1] at k9
            by_cases c3 : i = 4
            · refine wp_r (by simp [push_cast, k9, c3, d1]; exact rfl) ?_
              exact ⟨(), trivial, Le.cat (by simp [leT, c3, d1, c2]) (by simp [leH])⟩
            · refine wp_r (by simp [push_cast, k9, c3, d1]; exact rfl) ?_
              exact ⟨(), trivial, Le.cat (by simp [leT, d1, d2, c2, c3]) (by simp [leH])⟩
        · refine wp_r (by simp [push_cast, k8, d1]; exact rfl) ?_
          refine wp_cond_f (by simp [AS.ev]) ?_
          by_cases c2 : 4294967296 ≤ m
          · refine wp_sr (by simp [push_cast, hg, c2]; exact rfl) (wp_cond_t (by simp [AS.ev, c2]) (wp_skip' ?_))
            exact ⟨(), trivial, Le.cat (by simp [leT, c2]) (by simp [leH])⟩
          · refine wp_sr (by simp [push_cast, hg, c2]; exact rfl) (wp_cond_f (by simp [AS.ev, c2]) ?_)
            by_cases c3 : i = 4
            · by_cases c4 : 128 ≤ b.toNat
              · refine wp_r (by simp [push_cast, k9, c3, c4]; exact rfl) ?_
                exact ⟨(), trivial, Le.cat (by simp [leT, c3, c4]) (by simp [leH])⟩
              · refine wp_r (by simp [push_cast, k9, c3, c4]; exact rfl) ?_
                exact ⟨(), trivial, Le.cat (by simp [leT, d1, c2, c3, c4]) (by simp [leH])⟩
            · refine wp_r (by simp [push_cast, k9, c3]; exact rfl) ?_
              exact ⟨(), trivial, Le.cat (by simp [leT, d1, c2, c3]) (by simp [leH])⟩
  · have : i = s.length := by omega
    subst this
    rw [List.drop_length, getN] at hI
    refine wp_seq' (wp_r (by simp [push_cast]; exact rfl) ?_)
    refine wp_seq' (wp_cond_f (by simp [AS.ev]) (wp_exit' (if_hit rfl ?_)))
    refine wp_sr (by simp [push_cast]; exact rfl) (wp_ret' ?_)
    exact fin 0 0 3 _ hI.symm rfl rfl rfl ⟨_, rfl⟩
end Go.Cab
namespace Go.Cab
open Go.RowKit
open Classical
def fb543 : AC := (.seq (.reg [⟨some 2, none, .mov (.const (tx [])), [], none⟩]) (.seq (.seq (.reg [⟨some 3, none, .mov (.tmp 0), [], none⟩, ⟨some 4, none, .bin .lss (.tmp 3) (.const (jn 10)), [], none⟩]) (.cond (.tmp 4) (.seq (.reg [⟨some 5, none, .mov (.tmp 0), [], none⟩, ⟨some 6, none, .mov (.tmp 0), [], none⟩, ⟨some 7, none, .bin .add (.tmp 6) (.const (jn 1)), [], none⟩, ⟨some 8, none, .prim (.ssub true true) [(.const (tx [48, 49, 50, 51, 52, 53, 54, 55, 56, 57, 97, 98, 99, 100, 101, 102, 103, 104, 105, 106, 107, 108, 109, 110, 111, 112, 113, 114, 115, 116, 117, 118, 119, 120, 121, 122])), (.tmp 5), (.tmp 7)], [], none⟩, ⟨some 2, none, .mov (.tmp 8), [], none⟩]) .ret) .skip)) (.seq (.reg [⟨some 9, none, .mov (.tmp 0), [], none⟩, ⟨some 10, none, .bin .mul (.tmp 9) (.const (jn 2)), [], none⟩, ⟨some 11, none, .mov (.tmp 0), [], none⟩, ⟨some 12, none, .bin .mul (.tmp 11) (.const (jn 2)), [], none⟩, ⟨some 13, none, .bin .add (.tmp 12) (.const (jn 2)), [], none⟩, ⟨some 14, none, .prim (.ssub true true) [(.const (tx [48, 48, 48, 49, 48, 50, 48, 51, 48, 52, 48, 53, 48, 54, 48, 55, 48, 56, 48, 57, 49, 48, 49, 49, 49, 50, 49, 51, 49, 52, 49, 53, 49, 54, 49, 55, 49, 56, 49, 57, 50, 48, 50, 49, 50, 50, 50, 51, 50, 52, 50, 53, 50, 54, 50, 55, 50, 56, 50, 57, 51, 48, 51, 49, 51, 50, 51, 51, 51, 52, 51, 53, 51, 54, 51, 55, 51, 56, 51, 57, 52, 48, 52, 49, 52, 50, 52, 51, 52, 52, 52, 53, 52, 54, 52, 55, 52, 56, 52, 57, 53, 48, 53, 49, 53, 50, 53, 51, 53, 52, 53, 53, 53, 54, 53, 55, 53, 56, 53, 57, 54, 48, 54, 49, 54, 50, 54, 51, 54, 52, 54, 53, 54, 54, 54, 55, 54, 56, 54, 57, 55, 48, 55, 49, 55, 50, 55, 51, 55, 52, 55, 53, 55, 54, 55, 55, 55, 56, 55, 57, 56, 48, 56, 49, 56, 50, 56, 51, 56, 52, 56, 53, 56, 54, 56, 55, 56, 56, 56, 57, 57, 48, 57, 49, 57, 50, 57, 51, 57, 52, 57, 53, 57, 54, 57, 55, 57, 56, 57, 57])), (.tmp 10), (.tmp 13)], [], none⟩, ⟨some 2, none, .mov (.tmp 14), [], none⟩]) .ret)))
def fc543 : FC := ⟨1, 15, [(.tmp 2)], fb543⟩
theorem fc543_eq : compF Go.Proofs.Tryd.prog 69 = some fc543 := by kernel_rfl
def fb542 : AC := (.seq (.reg [⟨some 4, none, .mov (.const (tx [])), [], none⟩]) (.seq (.seq (.reg [⟨some 10, none, .mov (.tmp 1), [], none⟩, ⟨some 11, none, .bin .eql (.tmp 10) (.const (jn 10)), [], none⟩]) (.cond (.tmp 11) (.seq (.seq (.reg [⟨some 12, none, .mov (.tmp 0), [], none⟩, ⟨some 13, none, .bin .leq (.const (jn 0)) (.tmp 12), [], none⟩, ⟨some 14, none, .mov (.tmp 13), [], none⟩, ⟨some 15, some (14, true), .mov (.tmp 0), [], none⟩, ⟨some 16, some (14, true), .bin .lss (.tmp 15) (.const (jn 100)), [], none⟩, ⟨some 17, none, .pick (.tmp 14) (.tmp 16) (.const (.bool false)), [], none⟩]) (.cond (.tmp 17) (.seq (.reg [⟨some 18, none, .mov (.tmp 0), [], none⟩, ⟨some 19, none, .call 69 [.tmp 18], [], none⟩, ⟨some 4, none, .mov (.tmp 19), [], none⟩]) .ret) .skip)) (.seq (.reg [⟨some 5, none, .alloc 24 (.arr 1 (List.replicate 24 (.lit (bn 0)))), [], none⟩]) (.seq (.reg [⟨some 20, none, .mov (.tmp 0), [], none⟩, ⟨some 21, none, .cvt .u64 (.tmp 20), [], none⟩, ⟨some 6, none, .mov (.tmp 21), [], none⟩]) (.seq (.seq (.reg [⟨some 22, none, .mov (.tmp 0), [], none⟩, ⟨some 23, none, .bin .lss (.tmp 22) (.const (jn 0)), [], none⟩]) (.cond (.tmp 23) (.reg [⟨some 24, none, .mov (.tmp 6), [], none⟩, ⟨some 25, none, .un .neg (.tmp 24), [], none⟩, ⟨some 6, none, .mov (.tmp 25), [], none⟩]) .skip)) (.seq (.reg [⟨some 26, none, .mov (.tmp 6), [], none⟩, ⟨some 27, none, .call 70 [.tmp 26], [], none⟩, ⟨some 7, none, .mov (.tmp 27), [], none⟩]) (.seq (.reg [⟨some 28, none, .mov (.tmp 7), [], none⟩, ⟨some 29, none, .bin .add (.const (jn 1)) (.tmp 28), [], none⟩, ⟨some 30, none, .rdp (.vslice 1 24 true true) [(.tmp 5), (.const (jn 1)), (.tmp 29)], [], none⟩, ⟨some 31, none, .mov (.tmp 6), [], none⟩, ⟨some 32, none, .xc (.dir 71) [.tmp 30, .tmp 31] [] [], [], none⟩]) (.seq (.seq (.reg [⟨some 33, none, .mov (.tmp 0), [], none⟩, ⟨some 34, none, .bin .lss (.tmp 33) (.const (jn 0)), [], none⟩]) (.cond (.tmp 34) (.seq (.reg [⟨some 35, none, .iaddrA 24 1 (.tmp 5) (.const (jn 0)), [], none⟩, ⟨none, none, .store 1 (.tmp 35) (.const (bn 45)), [], none⟩]) (.seq (.reg [⟨some 36, none, .mov (.tmp 7), [], none⟩, ⟨some 37, none, .bin .add (.const (jn 1)) (.tmp 36), [], none⟩, ⟨some 38, none, .rdp (.vslice 1 24 false true) [.tmp 5, .tmp 37], [], none⟩, ⟨some 39, none, .rd .b2sv [.tmp 38], [], none⟩, ⟨some 4, none, .mov (.tmp 39), [], none⟩]) .ret)) .skip)) (.seq (.reg [⟨some 40, none, .mov (.tmp 7), [], none⟩, ⟨some 41, none, .bin .add (.const (jn 1)) (.tmp 40), [], none⟩, ⟨some 42, none, .rdp (.vslice 1 24 true true) [(.tmp 5), (.const (jn 1)), (.tmp 41)], [], none⟩, ⟨some 43, none, .rd .b2sv [.tmp 42], [], none⟩, ⟨some 4, none, .mov (.tmp 43), [], none⟩]) .ret)))))))) .skip)) (.seq (.reg [⟨some 45, none, .mov (.tmp 0), [], none⟩, ⟨some 46, none, .cvt .u64 (.tmp 45), [], none⟩, ⟨some 47, none, .mov (.tmp 1), [], none⟩, ⟨some 48, none, .mov (.tmp 0), [], none⟩, ⟨some 49, none, .bin .lss (.tmp 48) (.const (jn 0)), [], none⟩, ⟨some 50, none, .call 72 [(.const (.slice .none 0 0)), (.tmp 46), (.tmp 47), (.tmp 49), (.const (.bool false))], [], none⟩, ⟨some 44, none, .mov (.tmp 50), [], none⟩, ⟨some 51, none, .ext (.tmp 44) 0, [], none⟩, ⟨some 52, none, .ext (.tmp 44) 1, [], none⟩, ⟨some 8, none, .mov (.tmp 51), [], none⟩, ⟨some 9, none, .mov (.tmp 52), [], none⟩]) (.seq (.reg [⟨some 53, none, .mov (.tmp 9), [], none⟩, ⟨some 4, none, .mov (.tmp 53), [], none⟩]) .ret))))
def fc542 : FC := ⟨2, 54, [(.tmp 4)], fb542⟩
theorem fc542_eq : compF Go.Proofs.Tryd.prog 68 = some fc542 := by kernel_rfl
def fb538 : AC := (.seq (.reg [⟨some 2, none, .mov (.const (tx [])), [], none⟩]) (.seq (.reg [⟨some 3, none, .mov (.tmp 0), [], none⟩, ⟨some 4, none, .call 68 [(.tmp 3), (.const (jn 10))], [], none⟩, ⟨some 2, none, .mov (.tmp 4), [], none⟩]) .ret))
def fc538 : FC := ⟨1, 5, [(.tmp 2)], fb538⟩
theorem fc538_eq : compF Go.Proofs.Tryd.prog 63 = some fc538 := by kernel_rfl
def fb528 : AC := (.seq (.reg [⟨some 2, none, .mov (.const (tx [])), [], none⟩]) (.seq (.reg [⟨some 3, none, .mov (.tmp 0), [], none⟩, ⟨some 4, none, .call 63 [.tmp 3], [], none⟩, ⟨some 2, none, .mov (.tmp 4), [], none⟩]) .ret))
def fc528 : FC := ⟨1, 5, [(.tmp 2)], fb528⟩
theorem fc528_eq : compF Go.Proofs.Tryd.prog 47 = some fc528 := by kernel_rfl
def fb522 : AC := (.seq (.reg [⟨some 1, none, .box 71 (.tmp 0), [], none⟩, ⟨some 2, none, .mov (.const (tx [])), [], none⟩]) (.seq (.reg [⟨some 3, none, .mov (.const (tx [111, 112])), [], none⟩]) (.seq (.seq (.reg [⟨some 6, none, .faddr 3 3 (.tmp 1), [], none⟩, ⟨some 7, none, .load false 1 (.tmp 6), [], none⟩, ⟨some 8, none, .faddr 0 0 (.tmp 1), [], none⟩, ⟨some 9, none, .load false 1 (.tmp 8), [], none⟩, ⟨some 10, none, .faddr 1 1 (.tmp 1), [], none⟩, ⟨some 11, none, .load false 1 (.tmp 10), [], none⟩, ⟨some 12, none, .cvt .i64 (.tmp 11), [], none⟩, ⟨some 13, none, .ef (.bown 3 1 (.lit (jn 0)) 3 [0, 1, 2]) [.tmp 7, .tmp 9, .tmp 12], [], none⟩, ⟨some 14, none, .faddr 4 4 (.tmp 1), [], none⟩, ⟨some 15, none, .load false 1 (.tmp 14), [], none⟩, ⟨some 16, none, .append 3 1 8 (.tmp 13) (.tmp 15), [], none⟩, ⟨some 17, none, .len false (.tmp 16), [], none⟩, ⟨some 18, none, .mov (.const (jn 0)), [], none⟩]) (.block 0 (.loop (.seq (.reg [⟨some 19, none, .bin .lss (.tmp 18) (.tmp 17), [], none⟩]) (.seq (.cond (.tmp 19) .skip (.exit 0)) (.seq (.block 1 (.seq (.reg [⟨some 20, none, .iaddrS 1 (.tmp 16) (.tmp 18), [], none⟩, ⟨some 21, none, .load false 1 (.tmp 20), [], none⟩, ⟨some 5, none, .mov (.tmp 21), [], none⟩]) (.reg [⟨some 22, none, .mov (.tmp 3), [], none⟩, ⟨some 23, none, .mov (.tmp 5), [], none⟩, ⟨some 24, none, .call 47 [.tmp 23], [], none⟩, ⟨some 25, none, .bin .add (.const (tx [32])) (.tmp 24), [], none⟩, ⟨some 26, none, .bin .add (.tmp 22) (.tmp 25), [], none⟩, ⟨some 3, none, .mov (.tmp 26), [], none⟩]))) (.reg [⟨some 27, none, .bin .add (.tmp 18) (.const (jn 1)), [], none⟩, ⟨some 18, none, .mov (.tmp 27), [], none⟩]))))))) (.seq (.reg [⟨some 28, none, .mov (.tmp 3), [], none⟩, ⟨some 2, none, .mov (.tmp 28), [], none⟩]) .ret))))
def fc522 : FC := ⟨1, 29, [(.tmp 2)], fb522⟩
theorem fc522_eq : compF Go.Proofs.Tryd.prog 23 = some fc522 := by kernel_rfl
def fb519 : AC := (.seq (.reg [⟨some 3, none, .box 71 (.tmp 1), [], none⟩, ⟨some 4, none, .alloc 32 (.arr 1 (List.replicate 32 (.lit (bn 0)))), [], none⟩]) (.seq (.seq (.reg [⟨some 5, none, .load true 71 (.tmp 3), [], none⟩, ⟨some 6, none, .call 7 [.tmp 5], [], none⟩, ⟨some 7, none, .un .not (.tmp 6), [], none⟩]) (.cond (.tmp 7) (.seq (.reg [⟨some 8, none, .build (.arr 1 (List.replicate 32 (.lit (bn 0)))) [], [], none⟩, ⟨none, none, .store 32 (.tmp 4) (.tmp 8), [], none⟩]) .ret) .skip)) (.seq (.reg [⟨some 9, none, .mov (.tmp 0), [], none⟩, ⟨some 10, none, .load true 71 (.tmp 3), [], (.some 3)⟩, ⟨some 11, none, .callv 23 [.tmp 10], [], (.some 1000000)⟩, ⟨some 12, none, .faddr 2 2 (.tmp 3), [], none⟩, ⟨some 13, none, .load false 1 (.tmp 12), [], (.some 3)⟩, ⟨some 14, none, .xc (.dir 22) [.tmp 13] [3] [], [], none⟩, ⟨some 15, none, .faddr 5 5 (.tmp 3), [], none⟩, ⟨some 16, none, .load true 32 (.tmp 15), [], (.some 3)⟩, ⟨some 17, none, .build (.arr 1 (List.replicate 32 (.lit (bn 0)))) [], [], none⟩, ⟨some 18, none, .bslice 32 (.arr 1 (List.replicate 32 (.lit (bn 0)))) 2 [(0, (.tmp 16)), (1, (.tmp 17))], [], none⟩, ⟨some 19, none, .append 26 32 32 (.tmp 14) (.tmp 18), [], none⟩, ⟨some 20, none, .rdp (.mkfn (.method "Hash") 1) [.tmp 9], [], none⟩, ⟨some 21, none, .rdp .nilv [.tmp 20], [], none⟩, ⟨some 22, none, .mov (.tmp 9), [], none⟩, ⟨some 23, none, .xc (.inv "Hash") [.tmp 22, .tmp 11, .tmp 19] [] [], [], none⟩, ⟨none, none, .store 32 (.tmp 4) (.tmp 23), [], none⟩]) .ret)))
def fc519 : FC := ⟨2, 24, [(.cell 4 .true 32)], fb519⟩
theorem fc519_eq : compF Go.Proofs.Tryd.prog 15 = some fc519 := by kernel_rfl
theorem PCall.xrow {P : Program} {f : FuncId} {args : List AV} {e esz : Nat} {els : List AV} (H : List (Option Blk)) (h : PCall P f args (.row e esz els)) : XCall P f args H fun r H' => ∃ V, r = .own H.length V ∧ H' = H ++ [some (.row e V esz els 0)] := by
  intro w0 w regs Imm0 Vs hfr hth hheap hargs
  refine Calls.mono (h w Imm0 Vs ⟨hth.there, (hth.tab.go hfr).none⟩ hargs) ?_
  rintro e' w' ⟨V, Imm, he, hfr', hI, hsc, cs, hR, hown, hm⟩
  have hg : ∀ g, V.ownBlock = some g → w.heap.size ≤ g ∧ g < w'.heap.size := fun g hg => hown.lt g hg
  have hH := hheap.grow hfr' hI.sub hI.old hth.there
  have hget : ∀ (k : Nat) (x : Blk), ((H ++ [none])[k]?).join = some x → (H[k]?).join = some x := fun k x hx => by
    by_cases hk : k < H.length
    · rwa [List.getElem?_append_left hk] at hx
    · rw [List.getElem?_append_right (by omega)] at hx
      cases hk' : k - H.length with
      | zero => rw [hk'] at hx; simp at hx
      | succ n => rw [hk'] at hx; simp at hx
  have hH' : HeapOk w0 regs Imm (H ++ [none]) w' := ⟨fun k x hx => hH.ok k x (hget k x hx), fun k k' x y hne hx hy => hH.apart k k' x y hne (hget k x hx) (hget k' y hy)⟩
  refine ⟨V, .own H.length V, H ++ [some (.row e V esz els 0)], Imm, he, ⟨V, rfl, rfl⟩, hfr.trans (hfr'.any _), ⟨hI.sub, fun b o hb hlt => hI.old b o hb (Nat.lt_of_lt_of_le hlt hfr.size), hI.there, hI.val⟩, .inr ⟨_, .own _ V hsc, rfl⟩, by simp, ?_⟩
  have e1 : H ++ [some (Blk.row e V esz els 0)] = (H ++ [none]).set H.length (some (.row e V esz els 0)) := by simp
  rw [e1]
  refine hH'.lay (Blk.rowOk hR (ownsRow_base hown (fun _ _ => Nat.zero_le _)) hsc (Nat.zero_le _) fun g hg' o _ => hm g hg' o) (fun b o hf => ⟨(hg b hf).2, Nat.le_trans hfr.size (hg b hf).1⟩) fun k y _ hy b o hf hfy => ?_
  have := ((hheap.ok k y (hget k y hy)).2 b o hfy).1
  have := (hg b hf).1
  omega
theorem argsOk_of {Imm : Nat → Nat → Prop} {w : World} : ∀ {vs : List AV} {Vs : List Value}, vs.length = Vs.length → (∀ (t : Nat) (v : AV), vs[t]? = some v → Rel Imm w v (Vs.toArray.getD t undef)) → ArgsOk Imm w vs Vs
  | [], [], _, _ => trivial
  | v :: vs, V :: Vs, h, k => ⟨by simpa using k 0 v rfl, argsOk_of (by simpa using h) fun t u hu => by simpa using k (t + 1) u (by simpa using hu)⟩
  | [], _ :: _, h, _ => by simp at h
  | _ :: _, [], h, _ => by simp at h
theorem XCall.ofLe {P : Program} {f : FuncId} {vs vs' : List AV} {H H2 : List (Option Blk)} {K : AV → List (Option Blk) → Prop} (hle : Le ⟨0, vs, H⟩ ⟨0, vs', H2⟩) (hl : vs'.length = vs.length) (h : XCall P f vs' H2 K) : XCall P f vs H K := by
  intro w0 w regs Imm0 Vs hfr hth hheap hargs
  obtain ⟨hlen, hget⟩ := argsOk_len hargs
  have hS : SRel w0 w regs Imm0 ⟨0, vs, H⟩ { tmps := Vs.toArray, defers := [] } w := by
    refine ⟨rfl, by simp [hlen], hth.tab, hfr, Imm0, ⟨fun _ _ h => h, fun _ _ h _ => h, hth.there, fun _ _ _ => rfl⟩, fun t v hv => ?_, hheap⟩
    obtain ⟨V, hV, hr⟩ := hget t v hv
    have : Vs.toArray.getD t undef = V := by
      obtain ⟨h1, h2⟩ := List.getElem?_eq_some_iff.1 hV
      simp [Array.getD, h1, h2]
    rw [this]; exact hr
  obtain ⟨Imm, i1, i2, i3⟩ := (hle _ _ _ _ _ _ hS).ex
  have hargs' : ArgsOk Imm w vs' Vs := argsOk_of (by rw [hl, hlen]) fun t v hv => i2 t v hv
  refine Calls.mono (h w0 w regs Imm Vs hfr ⟨i1.there, hth.tab⟩ i3 hargs') ?_
  rintro e w' ⟨V, r, hp', Imm', he, hk, g1, g2, g3, g4, g5⟩
  exact ⟨V, r, hp', Imm', he, hk, g1, ⟨fun b o hb => g2.sub b o (i1.sub b o hb), fun b o hb hlt => i1.old b o (g2.old b o hb hlt) hlt, g2.there, fun b o hb => g2.val b o (i1.sub b o hb)⟩, g3, g4, g5⟩
def dec2 (n : Nat) : List UInt8 := if n < 10 then [dig8 n] else [dig8 (n / 10), dig8 (n % 10)]
theorem dec2_len (n : Nat) : (dec2 n).length ≤ 2 := by unfold dec2; split <;> simp
set_option maxRecDepth 20000 in
theorem small_call (n : Nat) (hn : n < 100) : PCall Go.Proofs.Tryd.prog 69 [.lit (jn n)] (.val (.lit (tx (dec2 n)))) := by
  have h543 := fc543_eq
  refine PCall.of h543 rfl ?_; show AC.wp _ fb543 (AS.init [.lit (jn n)] 1 15) (fun x s => match x with | .exit _ => False | _ => Fin [(.tmp 2)] s _); unfold fb543 AS.init
  refine wp_sr (by simp [push_cast]; exact rfl) ?_
  by_cases h10 : n < 10
  · refine wp_seq' (wp_seq' (wp_r (by simp [push_cast, h10]; exact rfl) (wp_cond_t rfl ?_)))
    have q1 : n + 1 < 9223372036854775808 := by omega
    have hd : ∀ n, n < 10 → (([48, 49, 50, 51, 52, 53, 54, 55, 56, 57, 97, 98, 99, 100, 101, 102, 103, 104, 105, 106, 107, 108, 109, 110, 111, 112, 113, 114, 115, 116, 117, 118, 119, 120, 121, 122] : List UInt8).take (n + 1)).drop n = dec2 n := by decide
    have hp := hd n h10
    have hsub : primVal (.ssub true true) [tx [48, 49, 50, 51, 52, 53, 54, 55, 56, 57, 97, 98, 99, 100, 101, 102, 103, 104, 105, 106, 107, 108, 109, 110, 111, 112, 113, 114, 115, 116, 117, 118, 119, 120, 121, 122], jn n, jn (n + 1)] = some (tx (dec2 n)) := by
      rw [prim_sub2, if_pos ⟨by simp only [List.length_cons, List.length_nil]; omega, by omega⟩, hp]
    generalize ([48, 49, 50, 51, 52, 53, 54, 55, 56, 57, 97, 98, 99, 100, 101, 102, 103, 104, 105, 106, 107, 108, 109, 110, 111, 112, 113, 114, 115, 116, 117, 118, 119, 120, 121, 122] : List UInt8) = dl at *
    refine wp_sg ?_
    refine areg_run 3 (by simp [push_cast, q1]; exact rfl) ?_
    refine AOp.ex_go (s' := _) (by simp only [AOp.ex, AOp.ex0, AOp.mineB, ex_prim, AS.lits, List.map_cons, List.map_nil, AS.ev, AS.put]; simp [primA_some, hsub]; exact rfl) ?_
    refine areg_end (by simp [push_cast]; exact rfl) (wp_ret' ?_)
    exact fin_tmp (by simp [RVal, AS.ev, AS.coe]) (by simp)
  · refine wp_seq' (wp_seq' (wp_r (by simp [push_cast, h10]; exact rfl) (wp_cond_f rfl (wp_skip' ?_))))
    have q1 : n * 2 < 9223372036854775808 := by omega
    have q2 : n * 2 + 2 < 9223372036854775808 := by omega
    have hd : ∀ n, n < 100 → ¬ n < 10 → (([48, 48, 48, 49, 48, 50, 48, 51, 48, 52, 48, 53, 48, 54, 48, 55, 48, 56, 48, 57, 49, 48, 49, 49, 49, 50, 49, 51, 49, 52, 49, 53, 49, 54, 49, 55, 49, 56, 49, 57, 50, 48, 50, 49, 50, 50, 50, 51, 50, 52, 50, 53, 50, 54, 50, 55, 50, 56, 50, 57, 51, 48, 51, 49, 51, 50, 51, 51, 51, 52, 51, 53, 51, 54, 51, 55, 51, 56, 51, 57, 52, 48, 52, 49, 52, 50, 52, 51, 52, 52, 52, 53, 52, 54, 52, 55, 52, 56, 52, 57, 53, 48, 53, 49, 53, 50, 53, 51, 53, 52, 53, 53, 53, 54, 53, 55, 53, 56, 53, 57, 54, 48, 54, 49, 54, 50, 54, 51, 54, 52, 54, 53, 54, 54, 54, 55, 54, 56, 54, 57, 55, 48, 55, 49, 55, 50, 55, 51, 55, 52, 55, 53, 55, 54, 55, 55, 55, 56, 55, 57, 56, 48, 56, 49, 56, 50, 56, 51, 56, 52, 56, 53, 56, 54, 56, 55, 56, 56, 56, 57, 57, 48, 57, 49, 57, 50, 57, 51, 57, 52, 57, 53, 57, 54, 57, 55, 57, 56, 57, 57] : List UInt8).take (n * 2 + 2)).drop (n * 2) = dec2 n := by decide
    have hp := hd n hn h10
    have hsub : primVal (.ssub true true) [tx [48, 48, 48, 49, 48, 50, 48, 51, 48, 52, 48, 53, 48, 54, 48, 55, 48, 56, 48, 57, 49, 48, 49, 49, 49, 50, 49, 51, 49, 52, 49, 53, 49, 54, 49, 55, 49, 56, 49, 57, 50, 48, 50, 49, 50, 50, 50, 51, 50, 52, 50, 53, 50, 54, 50, 55, 50, 56, 50, 57, 51, 48, 51, 49, 51, 50, 51, 51, 51, 52, 51, 53, 51, 54, 51, 55, 51, 56, 51, 57, 52, 48, 52, 49, 52, 50, 52, 51, 52, 52, 52, 53, 52, 54, 52, 55, 52, 56, 52, 57, 53, 48, 53, 49, 53, 50, 53, 51, 53, 52, 53, 53, 53, 54, 53, 55, 53, 56, 53, 57, 54, 48, 54, 49, 54, 50, 54, 51, 54, 52, 54, 53, 54, 54, 54, 55, 54, 56, 54, 57, 55, 48, 55, 49, 55, 50, 55, 51, 55, 52, 55, 53, 55, 54, 55, 55, 55, 56, 55, 57, 56, 48, 56, 49, 56, 50, 56, 51, 56, 52, 56, 53, 56, 54, 56, 55, 56, 56, 56, 57, 57, 48, 57, 49, 57, 50, 57, 51, 57, 52, 57, 53, 57, 54, 57, 55, 57, 56, 57, 57], jn (n * 2), jn (n * 2 + 2)] = some (tx (dec2 n)) := by
      rw [prim_sub2, if_pos ⟨by simp only [List.length_cons, List.length_nil]; omega, by omega⟩, hp]
    generalize ([48, 48, 48, 49, 48, 50, 48, 51, 48, 52, 48, 53, 48, 54, 48, 55, 48, 56, 48, 57, 49, 48, 49, 49, 49, 50, 49, 51, 49, 52, 49, 53, 49, 54, 49, 55, 49, 56, 49, 57, 50, 48, 50, 49, 50, 50, 50, 51, 50, 52, 50, 53, 50, 54, 50, 55, 50, 56, 50, 57, 51, 48, 51, 49, 51, 50, 51, 51, 51, 52, 51, 53, 51, 54, 51, 55, 51, 56, 51, 57, 52, 48, 52, 49, 52, 50, 52, 51, 52, 52, 52, 53, 52, 54, 52, 55, 52, 56, 52, 57, 53, 48, 53, 49, 53, 50, 53, 51, 53, 52, 53, 53, 53, 54, 53, 55, 53, 56, 53, 57, 54, 48, 54, 49, 54, 50, 54, 51, 54, 52, 54, 53, 54, 54, 54, 55, 54, 56, 54, 57, 55, 48, 55, 49, 55, 50, 55, 51, 55, 52, 55, 53, 55, 54, 55, 55, 55, 56, 55, 57, 56, 48, 56, 49, 56, 50, 56, 51, 56, 52, 56, 53, 56, 54, 56, 55, 56, 56, 56, 57, 57, 48, 57, 49, 57, 50, 57, 51, 57, 52, 57, 53, 57, 54, 57, 55, 57, 56, 57, 57] : List UInt8) = dl at *
    refine wp_sg ?_
    refine areg_run 5 (by simp [push_cast, q1, q2]; exact rfl) ?_
    refine AOp.ex_go (s' := _) (by simp only [AOp.ex, AOp.ex0, AOp.mineB, ex_prim, AS.lits, List.map_cons, List.map_nil, AS.ev, AS.put]; simp [primA_some, hsub]; exact rfl) ?_
    refine areg_end (by simp [push_cast]; exact rfl) (wp_ret' ?_)
    exact fin_tmp (by simp [RVal, AS.ev, AS.coe]) (by simp)
theorem bin_leqji (a : Nat) (b : Nat) : binVal .leq (jn a) (jn b) = some (.bool (decide (a ≤ b))) := bin_leqj a b
theorem format_call (n : Nat) (hn : n < 100) : PCall Go.Proofs.Tryd.prog 68 [.lit (jn n), .lit (jn 10)] (.val (.lit (tx (dec2 n)))) := by
  have h542 := fc542_eq
  have c := small_call n hn
  refine PCall.of h542 rfl ?_; show AC.wp _ fb542 (AS.init [.lit (jn n), .lit (jn 10)] 2 54) (fun x s => match x with | .exit _ => False | _ => Fin [(.tmp 4)] s _); unfold fb542 AS.init
  refine wp_sr (by simp [push_cast]; exact rfl) ?_
  refine wp_seq' (wp_seq' (wp_r (by simp [push_cast]; exact rfl) (wp_cond_t rfl ?_)))
  refine wp_seq' (wp_seq' (wp_r (by simp [push_cast, hn]; exact rfl) (wp_cond_t (by simp [AS.ev]) ?_)))
  refine wp_sg ?_
  refine areg_run 1 (by simp [push_cast]; exact rfl) ?_
  refine areg_ca (by simp [AS.ev, AS.coe, AS.put] <;> exact rfl) c ?_
  refine areg_end (by simp [push_cast]; exact rfl) (wp_ret' ?_)
  exact fin_tmp (by simp [RVal, AS.ev, AS.coe]) (by simp)
theorem itoa0_call (n : Nat) (hn : n < 100) : PCall Go.Proofs.Tryd.prog 63 [.lit (jn n)] (.val (.lit (tx (dec2 n)))) := by
  have h538 := fc538_eq
  have c := format_call n hn
  refine PCall.of h538 rfl ?_; show AC.wp _ fb538 (AS.init [.lit (jn n)] 1 5) (fun x s => match x with | .exit _ => False | _ => Fin [(.tmp 2)] s _); unfold fb538 AS.init
  refine wp_sr (by simp [push_cast]; exact rfl) (wp_sg ?_)
  refine areg_run 1 (by simp [push_cast]; exact rfl) ?_
  refine areg_ca (by simp [AS.ev, AS.coe, AS.put] <;> exact rfl) c ?_
  refine areg_end (by simp [push_cast]; exact rfl) (wp_ret' ?_)
  exact fin_tmp (by simp [RVal, AS.ev, AS.coe]) (by simp)
theorem itoa_call (n : Nat) (hn : n < 100) : PCall Go.Proofs.Tryd.prog 47 [.lit (jn n)] (.val (.lit (tx (dec2 n)))) := by
  have h528 := fc528_eq
  have c := itoa0_call n hn
  refine PCall.of h528 rfl ?_; show AC.wp _ fb528 (AS.init [.lit (jn n)] 1 5) (fun x s => match x with | .exit _ => False | _ => Fin [(.tmp 2)] s _); unfold fb528 AS.init
  refine wp_sr (by simp [push_cast]; exact rfl) (wp_sg ?_)
  refine areg_run 1 (by simp [push_cast]; exact rfl) ?_
  refine areg_ca (by simp [AS.ev, AS.coe, AS.put] <;> exact rfl) c ?_
  refine areg_end (by simp [push_cast]; exact rfl) (wp_ret' ?_)
  exact fin_tmp (by simp [RVal, AS.ev, AS.coe]) (by simp)
def numsV (o : OpV) : List Int := o.kind :: o.author :: (o.seq : Int) :: o.who
def labelG (it : Int → List UInt8) (ns : List Int) : List UInt8 := (ns.map fun n => 32 :: it n).flatten
def labT (it : Int → List UInt8) (ns : List Int) : List UInt8 := [111, 112] ++ labelG it ns
def labelT (it : Int → List UInt8) (o : OpV) : List UInt8 := labT it (numsV o)
theorem cvt_wj (n : Nat) (h : n < 4294967296) : cvtA .i64 (.lit (wn n)) = some (.lit (jn n)) := by
  simp only [cvtA, wn, wrap_i64 (Int.le_trans (by decide) (Int.natCast_nonneg n)) (by omega)]
  rfl
theorem labelG_len {it : Int → List UInt8} : ∀ {ns : List Int}, (∀ n ∈ ns, (it n).length ≤ 30) → (labelG it ns).length ≤ 31 * ns.length
  | [], _ => by simp [labelG]
  | n :: ns, h => by
    have := labelG_len (ns := ns) fun m hm => h m (by simp [hm])
    have := h n (by simp)
    simp only [labelG, List.map_cons, List.flatten_cons, List.length_append, List.length_cons] at *
    omega
set_option maxHeartbeats 8000000 in
theorem label_call {o : OpV} (ho : OpOk o) {it : Int → List UInt8} (hit : ∀ n ∈ numsV o, PCall Go.Proofs.Tryd.prog 47 [.lit (ji n)] (.val (.lit (tx (it n))))) (hil : ∀ n ∈ numsV o, (it n).length ≤ 30) :
    PCall Go.Proofs.Tryd.prog 23 [opA o] (.val (.lit (tx (labelT it o)))) := by
  have h522 := fc522_eq
  have o5 := ho.ofk
  have o6 := ho.check
  have hsq := cvt_wj o.seq ho.seq
  have hwl := ho.who
  have hA : opA o = opB o.author o.seq o.parents o.kind (o.who.map fun x => AV.lit (ji x)) o.ofk o.check o.text (o.boxes.map fun x => boxA x) := rfl
  have hml : (o.who.map fun x => AV.lit (ji x)).length = o.who.length := List.length_map _
  have hns : [AV.lit (ji o.kind), .lit (ji o.author), .lit (jn o.seq)] ++ (o.who.map fun x => AV.lit (ji x)) = (numsV o).map fun x => AV.lit (ji x) := rfl
  have hnl : (numsV o).length = o.who.length + 3 := rfl
  rw [hA]
  unfold opB labelT
  generalize (o.who.map fun x => AV.lit (ji x)) = W at *
  generalize numsV o = ns at *
  have hTl : (ns.map fun x => AV.lit (ji x)).length = ns.length := List.length_map _
  have hTg : ∀ i a, ns[i]? = some a → (ns.map fun x => AV.lit (ji x))[i]? = some (AV.lit (ji a)) := fun i a h => by rw [List.getElem?_map, h]; rfl
  generalize (ns.map fun x => AV.lit (ji x)) = T at *
  refine PCall.of h522 rfl ?_; show AC.wp _ fb522 (AS.init [.st [1, 1, 1, 1, 1, 32, 32, 1, 1] [.lit (ji o.author), .lit (wn o.seq), .sl 32 (klA o.parents), .lit (ji o.kind), .sl 1 W, keyA o.ofk, keyA o.check, .lit (tx o.text), .sl 36 (o.boxes.map fun x => boxA x)]] 1 29) (fun x s => match x with | .exit _ => False | _ => Fin [(.tmp 2)] s _); unfold fb522 AS.init
  refine wp_sg (areg_bx rfl (by simp [AS.ev, AV.sz, keyA, o5, o6]) fun l1 => areg_end (by simp [push_cast]; exact rfl) ?_)
  refine wp_sr (by simp [push_cast]; exact rfl) ?_
  refine wp_seq' (wp_sg ?_)
  refine areg_run 7 (by simp [push_cast, o5, o6, hsq]; exact rfl) ?_
  refine areg_bown (vs := [.lit (ji o.kind), .lit (ji o.author), .lit (jn o.seq)]) (els := [.lit (ji o.kind), .lit (ji o.author), .lit (jn o.seq)]) rfl (by simp [fillV, AV.sub, AV.upd, AV.isTup, AV.sz]; rfl) (by intro t ht; cases ht) fun V1 => ?_
  refine areg_run 2 (by simp [push_cast, o5, o6]; exact rfl) ?_
  refine areg_ap (b := 13) (V := V1) (ys := W) rfl rfl (by simp [AS.ev, AS.coe]) (by rw [hml]; simp [maxLen]; omega) (by rw [hml]; simp; omega) (fun V2 => ?_)
  rw [hns]
  refine areg_end (by simp [push_cast, hTl]; exact rfl) ?_
  refine wp_block' (wp_loop_m (fun i : Nat => (⟨0, [.st [1, 1, 1, 1, 1, 32, 32, 1, 1] [.lit (ji o.author), .lit (wn o.seq), .sl 32 (klA o.parents), .lit (ji o.kind), .sl 1 W, keyA o.ofk, keyA o.check, .lit (tx o.text), .sl 36 (o.boxes.map fun x => boxA x)], .ptr 1 l1 0 [], .lit (tx []), .lit (tx (labT it (ns.take i)))] ++ List.replicate 12 .any ++ [.own 16 V2, .lit (jn ns.length), .lit (jn i)] ++ List.replicate 10 .any, List.replicate 16 none ++ [some (.row 3 V2 1 T 0)] ++ List.replicate 12 none⟩ : AS)) (fun i => ns.length - i) (fun i => i ≤ ns.length) 0 ?_ (by simp) ?_)
  · exact Le.mk rfl (by simp [leT, labT, labelG, keyA]) (by simp [leH])
  intro i hi
  simp only at hi ⊢
  by_cases hlt : i < ns.length
  · obtain ⟨n, hn⟩ : ∃ n, ns[i]? = some n := ⟨_, List.getElem?_eq_getElem hlt⟩
    have hmem := List.mem_of_getElem? hn
    have c := hit n hmem
    have hl1 := hil n hmem
    have hl2 : (labelG it (ns.take i)).length ≤ 31 * ns.length := Nat.le_trans (labelG_len fun m hm => hil m (List.mem_of_mem_take hm)) (by rw [List.length_take]; exact Nat.mul_le_mul_left _ (Nat.min_le_right _ _))
    have g1 := hTg i n hn
    have g2 : ∀ h, T[i]'h = AV.lit (ji n) := fun h => by rw [List.getElem?_eq_getElem h] at g1; exact Option.some.inj g1
    have q1 : i + 1 < 9223372036854775808 := by omega
    have hb1 : binVal .add (tx [32]) (tx (it n)) = some (tx (32 :: it n)) := bin_adds _ _ (by simp only [List.length_cons, List.length_nil]; omega)
    have hb2 : binVal .add (tx (labT it (ns.take i))) (tx (32 :: it n)) = some (tx (labT it (ns.take (i + 1)))) := by
      have e : labelG it (ns.take (i + 1)) = labelG it (ns.take i) ++ (32 :: it n) := by unfold labelG; rw [List.take_add_one, hn]; simp
      unfold labT
      rw [bin_adds _ _ (by simp only [List.length_append, List.length_cons, List.length_nil]; omega), e, List.append_assoc]
    generalize labT it (ns.take i) = acc at *
    obtain ⟨acc2, hacc2⟩ : ∃ acc2, acc2 = labT it (ns.take (i + 1)) := ⟨_, rfl⟩
    rw [← hacc2] at hb2
    refine wp_sr (by simp [push_cast, hlt]; exact rfl) (wp_seq' (wp_cond_t (by simp [AS.ev]) (wp_skip' ?_)))
    refine wp_seq' (wp_block' (wp_sr (by simp [push_cast, hTl, g1, g2, hlt]; exact rfl) ?_))
    refine wp_rg ?_
    refine areg_run 2 (by simp [push_cast]; exact rfl) ?_
    refine areg_ca (by simp [AS.ev, AS.coe, AS.put] <;> exact rfl) c ?_
    refine areg_end (by simp [push_cast, hb1, hb2]; exact rfl) ?_
    refine wp_r (by simp [push_cast, q1]; exact rfl) ?_
    exact Exists.intro (i + 1) ⟨by omega, by omega, Le.mk rfl (by simp [leT, keyA, hacc2]) (by simp [leH])⟩
  · have hin : i = ns.length := by omega
    subst hin
    rw [List.take_length]
    refine wp_sr (by simp [push_cast]; exact rfl) (wp_seq' (wp_cond_f (by simp [AS.ev]) (wp_exit' (if_hit rfl ?_))))
    refine wp_sr (by simp [push_cast]; exact rfl) (wp_ret' ?_)
    exact fin_tmp (by simp [RVal, AS.ev, AS.coe]) (by simp)
theorem KC.seal {P : Program} {f : FuncId} {vs : List AV} {H : List (Option Blk)} {t : Tb} {ts ts' : List Term} {r : AV} {c i e esz sl : Nat} {els : List AV} {V : Value} (h : KC P f (vs.set i (.sl esz els)) H t ts r ts') {V0 : Value} {L : List (Option Blk)} (hi : vs[i]? = some (.own (H.length + c) V)) (hc : L[c]? = some (some (.row e V esz els sl))) :
    XCall P f vs (tbOf H t V0 ts ++ L) fun r' H' => r' = r ∧ ∃ V', H' = tbOf H t V' ts' ++ L.set c none := by
  have g1 := cat1 H.length (tbOf H t V0 ts) L c (tbOf_len _ _ _ _)
  have g2 := cat2 H.length (tbOf H t V0 ts) L c (none : Option Blk) (tbOf_len _ _ _ _)
  have hle := Le.sealed (s := ⟨0, vs, tbOf H t V0 ts ++ L⟩) (t := i) (b := H.length + c) (e := e) (V := V) (esz := esz) (els := els) (sl := sl) hi (by simp only [AS.blk, g1, hc]; rfl)
  simp only [g2] at hle
  exact XCall.ofLe hle (by simp) (h V0 (L.set c none))
def byT (it : Int → List UInt8) (o : OpV) : Term := ⟨2, labelT it o, o.parents ++ [o.ofk, zk]⟩
def byV (it : Int → List UInt8) (ts : List Term) (o : OpV) : List UInt8 × List Term := if rightV o then (nameK (putN ts (byT it o)), putT ts (byT it o)) else (zk, ts)
theorem labelT_len {it : Int → List UInt8} {o : OpV} (ho : OpOk o) (hil : ∀ n ∈ numsV o, (it n).length ≤ 30) (hw : o.who.length < 1000) : (labelT it o).length < 100000 := by
  have := labelG_len hil
  have e : (numsV o).length = o.who.length + 3 := rfl
  unfold labelT labT
  simp only [List.length_append, List.length_cons, List.length_nil]
  omega
theorem tgt_hashI (b : Nat) (l : Nat × Nat) (x y : AV) : tgtA Go.Proofs.Tryd.prog (.inv "Hash") [freeI b l, x, y] = some (95, [.ptr b l 0 [], x, y]) := by kernel_rfl
theorem nilv_hash (b : Nat) (l : Nat × Nat) : rdA Go.Proofs.Tryd.prog (fun _ => none) .nilv [.fnv (.method "Hash") [freeI b l] []] = some (.fnv (.method "Hash") [freeI b l] []) := by kernel_rfl
theorem hash_k {H : List (Option Blk)} {t : Tb} {V0 : Value} {ts0 ts : List Term} (hh : TbOk H t V0 ts0) (hn : ts.length < 100000) {s : List UInt8} (hs : s.length < 100000) {ks : List (List UInt8)} (hk : ks.length < 100000) (h32 : ∀ k ∈ ks, k.length = 32) : KC Go.Proofs.Tryd.prog 95 [.ptr t.b t.l 0 [], .lit (tx s), .sl 32 (klA ks)] H t ts (keyA (nameK (putN ts ⟨2, s, ks⟩))) (putT ts ⟨2, s, ks⟩) :=
  KC.of hh fun H V h => hash_call h hn s hs ks hk h32
set_option maxHeartbeats 16000000 in
theorem by_call {H : List (Option Blk)} {t : Tb} {V : Value} {ts : List Term} (hh : TbOk H t V ts) (hn : ts.length < 100000) {o : OpV} (ho : OpOk o) (hbl : ∀ b ∈ o.boxes, b.body.length < 9223372036854775808) (hw : o.who.length < 1000) (hp : o.parents.length < 1000) {it : Int → List UInt8} (hit : ∀ n ∈ numsV o, PCall Go.Proofs.Tryd.prog 47 [.lit (ji n)] (.val (.lit (tx (it n))))) (hil : ∀ n ∈ numsV o, (it n).length ≤ 30) :
    XCall Go.Proofs.Tryd.prog 15 [freeI t.b t.l, opA o] H fun r H' => r = keyA (byV it ts o).1 ∧ ∃ V', H' = tbOf H t V' (byV it ts o).2 := by
  have h519 := fc519_eq
  refine XCall.le ?_
  have hc24 : callable Go.Proofs.Tryd.prog 22 = true := by kernel_rfl
  have cR := right_call ho hbl
  have cL := label_call ho hit hil
  have hll := labelT_len ho hil hw
  have cC := fun H => PCall.xrow H (clone_row (klA o.parents) (by rw [klA_len]; omega))
  have o5 := ho.ofk
  have o6 := ho.check
  have h32 : ∀ k ∈ o.parents ++ [o.ofk, zk], k.length = 32 := fun k hk => by
    simp only [List.mem_append, List.mem_cons, List.not_mem_nil, or_false] at hk
    rcases hk with hk | rfl | rfl
    · exact ho.p32 k hk
    · exact o5
    · exact zk_len
  have hkl : klA o.parents ++ klA [o.ofk, zk] = klA (o.parents ++ [o.ofk, zk]) := by simp [klA]
  have hpl : (o.parents ++ [o.ofk, zk]).length = o.parents.length + 2 := by simp
  have hpl0 := klA_len o.parents
  have hhash := fun V L => hash_k hh hn hll (ks := o.parents ++ [o.ofk, zk]) (by omega) h32 V L
  have hself := hh.self
  have G1 : ∀ V' ts', (tbOf H t V' ts').length = H.length := fun V' ts' => tbOf_len _ _ _ _
  have g1 : ∀ V' ts' L k, (tbOf H t V' ts' ++ L)[H.length + k]? = L[k]? := fun V' ts' L k => cat1 _ _ _ _ (G1 _ _)
  have g2 : ∀ V' ts' L k x, (tbOf H t V' ts' ++ L).set (H.length + k) x = tbOf H t V' ts' ++ L.set k x := fun V' ts' L k x => cat2 _ _ _ _ _ (G1 _ _)
  have hA : opA o = opB o.author o.seq o.parents o.kind (o.who.map fun x => AV.lit (ji x)) o.ofk o.check o.text (o.boxes.map fun x => boxA x) := rfl
  rw [hA] at cR cL ⊢
  have hby : byV it ts o = if rightV o then (nameK (putN ts ⟨2, labelT it o, o.parents ++ [o.ofk, zk]⟩), putT ts ⟨2, labelT it o, o.parents ++ [o.ofk, zk]⟩) else (zk, ts) := rfl
  have bsz : ∀ W B, (opB o.author o.seq o.parents o.kind W o.ofk o.check o.text B).sz = 71 := fun W B => by simp [opB, AV.sz, keyA, o5, o6]
  rw [hby]
  generalize labelT it o = lb at *
  generalize (o.who.map fun x => AV.lit (ji x)) = W at *
  generalize (o.boxes.map fun x => boxA x) = B at *
  generalize rightV o = rv at *
  refine XCall.of h519 rfl ?_; show AC.wp _ fb519 ⟨H.length, [freeI t.b t.l, opB o.author o.seq o.parents o.kind W o.ofk o.check o.text B] ++ List.replicate (24 - 2) .any, H ++ List.replicate 24 none⟩ (fun x s => match x with | .exit _ => False | _ => ∃ s1, Le s s1 ∧ FinX [(.cell 4 .true 32)] s1 _); unfold fb519
  rw [← hself]
  rw [tbOf_len]
  generalize hN : H.length = N at *
  refine wp_sg (areg_bx rfl (by simp [AS.ev, bsz]) fun l3 => areg_al' zk_eq.symm fun l4 => areg_end (by simp [push_cast, g2]; exact rfl) ?_)
  unfold opB at cR cL ⊢
  have cR' := cR
  have cL' := cL
  unfold keyA at cR' cL'
  refine wp_seq' (wp_seq' (wp_rg ?_))
  refine areg_run 1 (by simp [push_cast, g1, o5, o6]; exact rfl) ?_
  refine areg_ca (by simp [AS.ev, AS.coe, AS.put] <;> exact rfl) cR' ?_
  cases rv with
  | false =>
    refine areg_end (by simp [push_cast]; exact rfl) ?_
    refine wp_cond_t (by simp [AS.ev]) (wp_sg (areg_bz (areg_end (by simp [push_cast, g1, g2, zk_len]; exact rfl) (wp_ret' ?_))))
    exact ⟨_, Le.refl _, [], _, ⟨by simp [AS.seals, RVals, RVal, AS.ev, AS.peek, AS.blk, g1, Blk.loc, Blk.cont, Blk.n, AV.nav, AV.isAgg, AV.isTup, AS.coe]; rfl, by simp [keyA]⟩, keyA zk, _, RelLe.refl _, by simp [keyA], HpLe.trim _ _, rfl, V, (hh.of_of _ _ _ _).symm⟩
  | true =>
    refine areg_end (by simp [push_cast]; exact rfl) ?_
    refine wp_cond_f (by simp [AS.ev]) (wp_skip' ?_)
    refine wp_sg ?_
    refine areg_run 2 (by simp [push_cast, g1, o5, o6]; exact rfl) ?_
    refine areg_cv (by simp [AS.ev, AS.coe, AS.put] <;> exact rfl) cL' ?_ (by intro p hp b V; simp at hp; subst hp; simp [AS.ev, AS.put])
    refine areg_run 2 (by simp [push_cast, g1, o5, o6]; exact rfl) ?_
    refine areg_xq (us := [.sl 32 (klA o.parents)]) rfl (by simp only [tgtA, tgtB, Option.bind_some, hc24, if_true]) (cC _) ⟨_, _, .slice none 0 0, rfl, rfl⟩ (fun r hp' hK t' ht' b hb' => ?_) ?_
    · obtain ⟨V', rfl, rfl⟩ := hK
      simp at ht'
      subst ht'
      simp [AS.ev, AV.place] at hb'
      subst hb'
      simp [g1]
    rintro r H' ⟨V2, rfl, rfl⟩
    refine areg_run 2 (by simp [push_cast, g1, G1, o5, o6]; exact rfl) ?_
    refine areg_bz ?_
    refine areg_run 1 (by simp [push_cast, o5, zk_len]; exact rfl) ?_
    refine areg_ap (b := N + 24) (V := V2) (ys := klA [o.ofk, zk]) rfl (by simp only [AS.blk, g1]; rfl) (by simp [AS.ev, AS.coe, klA, keyA]) (by rw [klA_len, klA_len]; simp [maxLen]; omega) (by rw [klA_len, klA_len]; simp; omega) (fun V3 => ?_) (by
      intro t' ht' b hb'
      simp at ht')
    rw [hkl]
    refine areg_run 0 (by simp [push_cast, g2]; exact rfl) ?_
    refine areg_rdp (us := [freeI t.b t.l]) rfl (mkfn_draw _ _ _) ?_
    refine areg_rdp (us := [.fnv (.method "Hash") [freeI t.b t.l] []]) rfl (nilv_hash _ _) ?_
    refine areg_run 1 (by simp [push_cast]; exact rfl) ?_
    refine areg_xq (us := [freeI t.b t.l, .lit (tx lb), .own (N + 19) V3]) rfl (tgt_hashI _ _ _ _) (KC.seal (vs := [.ptr t.b t.l 0 [], .lit (tx lb), .own (N + 19) V3]) (i := 2) (c := 19) (e := 26) (esz := 32) (els := klA (o.parents ++ [o.ofk, zk])) (sl := 0) hhash (by rw [← hN]; rfl) rfl) ⟨_, _, rfl, .slice none 0 0, rfl⟩ (fun r hp' hK t' ht' => by cases ht') ?_
    rintro r H' ⟨rfl, V4, rfl⟩
    refine areg_end (by simp [push_cast, g1, g2, nameK_len]; exact rfl) (wp_ret' ?_)
    exact ⟨_, Le.refl _, [], _, ⟨by simp [AS.seals, RVals, RVal, AS.ev, AS.peek, AS.blk, g1, Blk.loc, Blk.cont, Blk.n, AV.nav, AV.isAgg, AV.isTup, AS.coe]; rfl, by simp [keyA]⟩, keyA _, _, RelLe.refl _, by simp [keyA], HpLe.trim _ _, rfl, V4, (hh.of_of _ _ _ _).symm⟩
def twoV (ts : List Term) (s : List UInt8) (ks : List (List UInt8)) : (List UInt8 × List UInt8) × List Term :=
  ((nameK (putN ts ⟨2, s ++ [47, 49], ks⟩), nameK (putN (putT ts ⟨2, s ++ [47, 49], ks⟩) ⟨2, s ++ [47, 50], ks⟩)), putT (putT ts ⟨2, s ++ [47, 49], ks⟩) ⟨2, s ++ [47, 50], ks⟩)
end Go.Cab
namespace Go.Cab
open Go.RowKit
open Classical
def fb844 : AC := (.seq (.reg [⟨some 4, none, .mov (.const (tx [])), [], none⟩]) (.seq (.seq (.reg [⟨some 6, none, .mov (.tmp 0), [], none⟩, ⟨some 7, none, .nilc (.tmp 6), [], none⟩, ⟨some 8, none, .faddr 1 1 (.tmp 7), [], none⟩, ⟨some 9, none, .load false 1 (.tmp 8), [], none⟩, ⟨some 10, none, .bin .eql (.tmp 9) (.const (jn 0)), [], none⟩, ⟨some 11, none, .mov (.tmp 10), [], none⟩, ⟨some 12, some (11, true), .mov (.tmp 1), [], none⟩, ⟨some 13, some (11, true), .mov (.tmp 0), [], none⟩, ⟨some 14, some (11, true), .nilc (.tmp 13), [], none⟩, ⟨some 15, some (11, true), .faddr 0 0 (.tmp 14), [], none⟩, ⟨some 16, some (11, true), .load false 1 (.tmp 15), [], none⟩, ⟨some 17, some (11, true), .len true (.tmp 16), [], none⟩, ⟨some 18, some (11, true), .bin .gtr (.tmp 12) (.tmp 17), [], none⟩, ⟨some 19, none, .pick (.tmp 11) (.tmp 18) (.const (.bool false)), [], none⟩]) (.cond (.tmp 19) (.reg [⟨some 20, none, .mov (.tmp 0), [], none⟩, ⟨some 21, none, .nilc (.tmp 20), [], none⟩, ⟨some 22, none, .faddr 1 1 (.tmp 21), [], none⟩, ⟨none, none, .store 1 (.tmp 22) (.const (jn 3)), [], none⟩]) .skip)) (.seq (.seq (.reg [⟨some 23, none, .mov (.tmp 0), [], none⟩, ⟨some 24, none, .nilc (.tmp 23), [], none⟩, ⟨some 25, none, .faddr 1 1 (.tmp 24), [], none⟩, ⟨some 26, none, .load false 1 (.tmp 25), [], none⟩, ⟨some 27, none, .bin .neq (.tmp 26) (.const (jn 0)), [], none⟩]) (.cond (.tmp 27) (.seq (.reg [⟨some 4, none, .mov (.const (tx [])), [], none⟩]) .ret) .skip)) (.seq (.reg [⟨some 28, none, .mov (.tmp 0), [], none⟩, ⟨some 29, none, .nilc (.tmp 28), [], none⟩, ⟨some 30, none, .faddr 0 0 (.tmp 29), [], none⟩, ⟨some 31, none, .load false 1 (.tmp 30), [], none⟩, ⟨some 32, none, .mov (.tmp 1), [], none⟩, ⟨some 33, none, .prim (.ssub false true) [.tmp 31, .tmp 32], [], none⟩, ⟨some 5, none, .mov (.tmp 33), [], none⟩]) (.seq (.reg [⟨some 34, none, .mov (.tmp 0), [], none⟩, ⟨some 35, none, .mov (.tmp 0), [], none⟩, ⟨some 36, none, .nilc (.tmp 35), [], none⟩, ⟨some 37, none, .faddr 0 0 (.tmp 36), [], none⟩, ⟨some 38, none, .load false 1 (.tmp 37), [], none⟩, ⟨some 39, none, .mov (.tmp 1), [], none⟩, ⟨some 40, none, .prim (.ssub true false) [.tmp 38, .tmp 39], [], none⟩, ⟨some 41, none, .nilc (.tmp 34), [], none⟩, ⟨some 42, none, .faddr 0 0 (.tmp 41), [], none⟩, ⟨none, none, .store 1 (.tmp 42) (.tmp 40), [], none⟩]) (.seq (.reg [⟨some 43, none, .mov (.tmp 5), [], none⟩, ⟨some 4, none, .mov (.tmp 43), [], none⟩]) .ret))))))
def fc844 : FC := ⟨2, 44, [(.tmp 4)], fb844⟩
theorem fc844_eq : compF Go.Proofs.Tryd.prog 66 = some fc844 := by kernel_rfl
def fb845 : AC := (.seq (.reg [⟨some 4, none, .mov (.const (jn 0)), [], none⟩]) (.seq (.reg [⟨some 7, none, .mov (.tmp 0), [], none⟩, ⟨some 8, none, .nilc (.tmp 7), [], none⟩, ⟨some 9, none, .faddr 0 0 (.tmp 8), [], none⟩, ⟨some 10, none, .load false 1 (.tmp 9), [], none⟩, ⟨some 5, none, .mov (.tmp 10), [], none⟩]) (.seq (.reg [⟨some 11, none, .mov (.tmp 0), [], none⟩, ⟨some 12, none, .icall 52 (.tmp 11) [], [], none⟩, ⟨some 6, none, .mov (.tmp 12), [], none⟩]) (.seq (.seq (.reg [⟨some 13, none, .mov (.tmp 0), [], none⟩, ⟨some 14, none, .nilc (.tmp 13), [], none⟩, ⟨some 15, none, .faddr 1 1 (.tmp 14), [], none⟩, ⟨some 16, none, .load false 1 (.tmp 15), [], none⟩, ⟨some 17, none, .bin .eql (.tmp 16) (.const (jn 0)), [], none⟩, ⟨some 18, none, .mov (.tmp 17), [], none⟩, ⟨some 19, some (18, true), .mov (.tmp 6), [], none⟩, ⟨some 20, some (18, true), .cvt .i64 (.tmp 19), [], none⟩, ⟨some 21, some (18, true), .mov (.tmp 1), [], none⟩, ⟨some 22, some (18, true), .prim .imax [(.tmp 21), (.const (jn 0))], [], none⟩, ⟨some 23, some (18, true), .bin .gtr (.tmp 20) (.tmp 22), [], none⟩, ⟨some 24, none, .pick (.tmp 18) (.tmp 23) (.const (.bool false)), [], none⟩]) (.cond (.tmp 24) (.seq (.reg [⟨some 25, none, .mov (.tmp 0), [], none⟩, ⟨some 26, none, .mov (.tmp 0), [], none⟩, ⟨some 27, none, .mov (.tmp 5), [], none⟩, ⟨some 28, none, .nilc (.tmp 25), [], none⟩, ⟨some 29, none, .faddr 0 0 (.tmp 28), [], none⟩, ⟨none, none, .store 1 (.tmp 29) (.tmp 27), [], none⟩, ⟨some 30, none, .nilc (.tmp 26), [], none⟩, ⟨some 31, none, .faddr 1 1 (.tmp 30), [], none⟩, ⟨none, none, .store 1 (.tmp 31) (.const (jn 5)), [], none⟩]) (.seq (.reg [⟨some 4, none, .mov (.const (jn 0)), [], none⟩]) .ret)) .skip)) (.seq (.reg [⟨some 32, none, .mov (.tmp 6), [], none⟩, ⟨some 33, none, .cvt .i64 (.tmp 32), [], none⟩, ⟨some 4, none, .mov (.tmp 33), [], none⟩]) .ret)))))
def fc845 : FC := ⟨2, 34, [(.tmp 4)], fb845⟩
theorem fc845_eq : compF Go.Proofs.Tryd.prog 67 = some fc845 := by kernel_rfl
def fb846 : AC := (.seq (.reg [⟨some 4, none, .mov (.const (tx [])), [], none⟩]) (.seq (.reg [⟨some 7, none, .mov (.tmp 0), [], none⟩, ⟨some 8, none, .nilc (.tmp 7), [], none⟩, ⟨some 9, none, .faddr 0 0 (.tmp 8), [], none⟩, ⟨some 10, none, .load false 1 (.tmp 9), [], none⟩, ⟨some 5, none, .mov (.tmp 10), [], none⟩]) (.seq (.reg [⟨some 11, none, .mov (.tmp 0), [], none⟩, ⟨some 12, none, .mov (.tmp 0), [], none⟩, ⟨some 13, none, .mov (.tmp 1), [], none⟩, ⟨some 14, none, .icall 67 (.tmp 12) [.tmp 13], [], none⟩, ⟨some 15, none, .icall 66 (.tmp 11) [.tmp 14], [], none⟩, ⟨some 6, none, .mov (.tmp 15), [], none⟩]) (.seq (.seq (.reg [⟨some 16, none, .mov (.tmp 0), [], none⟩, ⟨some 17, none, .nilc (.tmp 16), [], none⟩, ⟨some 18, none, .faddr 1 1 (.tmp 17), [], none⟩, ⟨some 19, none, .load false 1 (.tmp 18), [], none⟩, ⟨some 20, none, .bin .neq (.tmp 19) (.const (jn 0)), [], none⟩]) (.cond (.tmp 20) (.reg [⟨some 21, none, .mov (.tmp 0), [], none⟩, ⟨some 22, none, .mov (.tmp 5), [], none⟩, ⟨some 23, none, .nilc (.tmp 21), [], none⟩, ⟨some 24, none, .faddr 0 0 (.tmp 23), [], none⟩, ⟨none, none, .store 1 (.tmp 24) (.tmp 22), [], none⟩]) .skip)) (.seq (.reg [⟨some 25, none, .mov (.tmp 6), [], none⟩, ⟨some 4, none, .mov (.tmp 25), [], none⟩]) .ret)))))
def fc846 : FC := ⟨2, 26, [(.tmp 4)], fb846⟩
theorem fc846_eq : compF Go.Proofs.Tryd.prog 55 = some fc846 := by kernel_rfl
def fb847 : AC := (.seq (.reg [⟨some 2, none, .alloc 32 (.arr 1 (List.replicate 32 (.lit (bn 0)))), [], none⟩]) (.seq (.reg [⟨some 5, none, .mov (.tmp 0), [], none⟩, ⟨some 6, none, .icall 66 (.tmp 5) [(.const (jn 32))], [], none⟩, ⟨some 3, none, .mov (.tmp 6), [], none⟩]) (.seq (.reg [⟨some 4, none, .alloc 32 (.arr 1 (List.replicate 32 (.lit (bn 0)))), [], none⟩]) (.seq (.reg [⟨some 7, none, .rdp (.vslice 1 32 false false) [.tmp 4], [], none⟩, ⟨some 8, none, .mov (.tmp 3), [], none⟩, ⟨some 9, none, .ef (.copy 1) [.tmp 7, .tmp 8], [], none⟩]) (.seq (.reg [⟨some 10, none, .load true 32 (.tmp 4), [], none⟩, ⟨none, none, .store 32 (.tmp 2) (.tmp 10), [], none⟩]) .ret)))))
def fc847 : FC := ⟨1, 11, [(.cell 2 .true 32)], fb847⟩
theorem fc847_eq : compF Go.Proofs.Tryd.prog 54 = some fc847 := by kernel_rfl
attribute [local irreducible] AReg
theorem prim_subH (l : List UInt8) (k : Nat) : primVal (.ssub false true) [tx l, jn k] = if k ≤ l.length then some (tx (l.take k)) else none := by
  simp only [primVal, tx, bound_jn]
  show Option.map _ (if k ≤ l.length then _ else _) = _
  by_cases h : k ≤ l.length
  · rw [if_pos h, if_pos h, Option.map_some, extract_tx]
    rfl
  · rw [if_neg h, if_neg h]; rfl
section
variable {H : List (Option Blk)} {R : Rr} {s0 s : RS}
theorem numR_gk (hh : RdOk H R s0) (hs : s.1.length < 1000000) : GC Go.Proofs.Tryd.prog 64 [.ptr R.b R.l 0 []] (rdF H R) s (.tup [.lit (wn (getN 0 0 s.1).1), .lit (jn (getN 0 0 s.1).2.1), .lit (jn (getN 0 0 s.1).2.2)]) s :=
  GC.ofD hh fun H h => by
    refine XCall.mono (numR_call h hs) ?_
    rintro r H' ⟨h1, h2⟩
    exact ⟨h1, by rw [h2, h.self]⟩
theorem D_sb' (hh : RdOk H R s0) (t : RS) (u : Unit) (L : List (Option Blk)) (a : List UInt8) (e : Nat) : (rdF H R t u ++ L).set R.b (some (.box R.l 2 (.st [1, 1] [.lit (tx a), .lit (jn e)]))) = rdF H R (a, e) () ++ L := D_sb hh t (a, e) u L
theorem rdNum_le : (rdNum s).2.1.length ≤ s.1.length := by
  unfold rdNum
  split
  · simp
  · exact Nat.le_refl _
set_option maxHeartbeats 4000000 in
theorem Num_call (hh : RdOk H R s) (hs : s.1.length < 1000000) : XCall Go.Proofs.Tryd.prog 52 [.ptr R.b R.l 0 []] H fun r H' => r = .lit (wn (rdNum s).1) ∧ H' = rdF H R (rdNum s).2 () := by
  have h843 := fc843_eq
  refine XCall.le ?_
  have hself := hh.self
  have cN := numR_gk (s := s) hh hs
  have hgl := getN_le (m := (getN 0 0 s.1).1) (k := (getN 0 0 s.1).2.1) (e := (getN 0 0 s.1).2.2) (s := s.1) (i := 0) (n := 0) rfl
  refine XCall.of h843 rfl ?_; show AC.wp _ fb843 ⟨H.length, [.ptr R.b R.l 0 []] ++ List.replicate (31 - 1) .any, H ++ List.replicate 31 none⟩ (fun x s => match x with | .exit _ => False | _ => ∃ s1, Le s s1 ∧ FinX [(.tmp 2)] s1 _); unfold fb843
  have hst : ∀ L, H ++ L = rdF H R s () ++ L := fun L => by rw [hself]
  rw [hst]
  generalize hN : H.length = N at *
  have db := fun t L => D_b hh t () L
  have ds := fun t L a e => D_sb' hh t () L a e
  obtain ⟨s, e⟩ := s
  simp only at cN hgl hs
  have hk : (getN 0 0 s).2.1 ≤ s.length := by omega
  unfold rdNum
  simp only
  generalize getN 0 0 s = g at *
  obtain ⟨n, k, e'⟩ := g
  simp only at cN hk ⊢
  have fin : ∀ (v : Nat) (st : RS) (a : AS) (L : List (Option Blk)), (if e = 0 then (n, (s.drop k, e')) else (0, (s, e))) = (v, st) → a.ev (.tmp 2) = .lit (wn v) → a.hp = rdF H R st () ++ L → ∃ s1, Le a s1 ∧ FinX [RV.tmp 2] s1 fun r H' => ∃ r' A, RelLe r r' ∧ r' ≠ .any ∧ HpLe H' A ∧ r' = .lit (wn (if e = 0 then (n, (s.drop k, e')) else (0, (s, e))).1) ∧ A = rdF H R (if e = 0 then (n, (s.drop k, e')) else (0, (s, e))).2 () := fun v st a L h1 h2 h3 =>
    ⟨a, Le.refl _, finX1 (v := .lit (wn v)) (by simp [RVal, AS.coe, h2]) (by simp) ⟨_, _, RelLe.refl _, by simp, by rw [h3]; exact HpLe.trim _ _, by rw [h1], by rw [h1]⟩⟩
  refine wp_sr (by simp [push_cast]; exact rfl) ?_
  by_cases he : e = 0
  · refine wp_seq' (wp_sr (by simp [push_cast, db, he]; exact rfl) (wp_cond_f (by simp [AS.ev]) (wp_skip' ?_)))
    subst he
    refine wp_sg ?_
    refine areg_run 1 (by simp [push_cast]; exact rfl) ?_
    refine areg_gi cN (by simp [AS.ev, AS.put]) fun _ => ?_
    refine areg_end (by simp [push_cast]; exact rfl) ?_
    refine wp_sr (by simp [push_cast, db, ds, hk]; exact rfl) ?_
    refine wp_sr (by simp [push_cast]; exact rfl) (wp_ret' ?_)
    exact fin n (s.drop k, e') _ _ rfl rfl rfl
  · refine wp_seq' (wp_sr (by simp [push_cast, db, he]; exact rfl) (wp_cond_t (by simp [AS.ev]) ?_))
    refine wp_sr (by simp [push_cast]; exact rfl) (wp_ret' ?_)
    exact fin 0 (s, e) _ _ (by rw [if_neg he]) rfl rfl
theorem Num_gk (hh : RdOk H R s0) (hs : s.1.length < 1000000) : GC Go.Proofs.Tryd.prog 52 [.ptr R.b R.l 0 []] (rdF H R) s (.lit (wn (rdNum s).1)) (rdNum s).2 := GC.ofD hh fun H h => Num_call h hs
set_option maxHeartbeats 4000000 in
theorem take_call (hh : RdOk H R s) (n : Nat) : XCall Go.Proofs.Tryd.prog 66 [.ptr R.b R.l 0 [], .lit (jn n)] H fun r H' => r = .lit (tx (rdTake n s).1) ∧ H' = rdF H R (rdTake n s).2 () := by
  have h844 := fc844_eq
  refine XCall.le ?_
  have hself := hh.self
  refine XCall.of h844 rfl ?_; show AC.wp _ fb844 ⟨H.length, [.ptr R.b R.l 0 [], .lit (jn n)] ++ List.replicate (44 - 2) .any, H ++ List.replicate 44 none⟩ (fun x s => match x with | .exit _ => False | _ => ∃ s1, Le s s1 ∧ FinX [(.tmp 4)] s1 _); unfold fb844
  have hst : ∀ L, H ++ L = rdF H R s () ++ L := fun L => by rw [hself]
  rw [hst]
  generalize hN : H.length = N at *
  have db := fun t L => D_b hh t () L
  have ds := fun t L a e => D_sb' hh t () L a e
  have fin : ∀ (v : List UInt8) (st : RS) (a : AS) (L : List (Option Blk)), rdTake n s = (v, st) → a.ev (.tmp 4) = .lit (tx v) → a.hp = rdF H R st () ++ L → ∃ s1, Le a s1 ∧ FinX [RV.tmp 4] s1 fun r H' => ∃ r' A, RelLe r r' ∧ r' ≠ .any ∧ HpLe H' A ∧ r' = .lit (tx (rdTake n s).1) ∧ A = rdF H R (rdTake n s).2 () := fun v st a L h1 h2 h3 =>
    ⟨a, Le.refl _, finX1 (v := .lit (tx v)) (by simp [RVal, AS.coe, h2]) (by simp) ⟨_, _, RelLe.refl _, by simp, by rw [h3]; exact HpLe.trim _ _, by rw [h1], by rw [h1]⟩⟩
  obtain ⟨s, e⟩ := s
  refine wp_sr (by simp [push_cast]; exact rfl) ?_
  by_cases he : e = 0
  · subst he
    by_cases hl : s.length < n
    · refine wp_seq' (wp_seq' (wp_r (by simp [push_cast, db, hl]; exact rfl) (wp_cond_t (by simp [AS.ev, hl]) ?_)))
      refine wp_r (by simp [push_cast, db, ds]; exact rfl) ?_
      refine wp_seq' (wp_sr (by simp [push_cast, db]; exact rfl) (wp_cond_t (by simp [AS.ev]) ?_))
      refine wp_sr (by simp [push_cast]; exact rfl) (wp_ret' ?_)
      exact fin [] (s, 3) _ _ (by simp [rdTake, hl]) rfl rfl
    · have hl2 : n ≤ s.length := by omega
      refine wp_seq' (wp_seq' (wp_r (by simp [push_cast, db, hl]; exact rfl) (wp_cond_f (by simp [AS.ev, hl]) (wp_skip' ?_))))
      refine wp_seq' (wp_sr (by simp [push_cast, db]; exact rfl) (wp_cond_f (by simp [AS.ev]) (wp_skip' ?_)))
      refine wp_sr (by simp [push_cast, db, hl2, prim_subH]; exact rfl) ?_
      refine wp_sr (by simp [push_cast, db, ds, hl2]; exact rfl) ?_
      refine wp_sr (by simp [push_cast]; exact rfl) (wp_ret' ?_)
      exact fin (s.take n) (s.drop n, 0) _ _ (by simp [rdTake, hl]) rfl rfl
  · refine wp_seq' (wp_seq' (wp_r (by simp [push_cast, db, he]; exact rfl) (wp_cond_f (by simp [AS.ev]) (wp_skip' ?_))))
    refine wp_seq' (wp_sr (by simp [push_cast, db, he]; exact rfl) (wp_cond_t (by simp [AS.ev]) ?_))
    refine wp_sr (by simp [push_cast]; exact rfl) (wp_ret' ?_)
    exact fin [] (s, e) _ _ (by simp [rdTake, he]) rfl rfl
theorem take_gk (hh : RdOk H R s0) (n : Nat) : GC Go.Proofs.Tryd.prog 66 [.ptr R.b R.l 0 [], .lit (jn n)] (rdF H R) s (.lit (tx (rdTake n s).1)) (rdTake n s).2 := GC.ofD hh fun H h => take_call h n
theorem rdCount_lt {most : Nat} (s : RS) : (rdCount most s).1 < 4294967296 := by
  unfold rdCount
  split
  · simp
  · exact rdNum_lt s
set_option maxHeartbeats 4000000 in
theorem count_call (hh : RdOk H R s) (hs : s.1.length < 1000000) (most : Nat) (hm : most < 1000000) : XCall Go.Proofs.Tryd.prog 67 [.ptr R.b R.l 0 [], .lit (jn most)] H fun r H' => r = .lit (jn (rdCount most s).1) ∧ H' = rdF H R (rdCount most s).2 () := by
  have h845 := fc845_eq
  refine XCall.le ?_
  have hself := hh.self
  have cN := Num_gk (s := s) hh hs
  have hlt := rdNum_lt s
  refine XCall.of h845 rfl ?_; show AC.wp _ fb845 ⟨H.length, [.ptr R.b R.l 0 [], .lit (jn most)] ++ List.replicate (34 - 2) .any, H ++ List.replicate 34 none⟩ (fun x s => match x with | .exit _ => False | _ => ∃ s1, Le s s1 ∧ FinX [(.tmp 4)] s1 _); unfold fb845
  have hst : ∀ L, H ++ L = rdF H R s () ++ L := fun L => by rw [hself]
  rw [hst]
  generalize hN : H.length = N at *
  have db := fun t L => D_b hh t () L
  have ds := fun t L a e => D_sb' hh t () L a e
  have fin : ∀ (v : Nat) (st : RS) (a : AS) (L : List (Option Blk)), rdCount most s = (v, st) → a.ev (.tmp 4) = .lit (jn v) → a.hp = rdF H R st () ++ L → ∃ s1, Le a s1 ∧ FinX [RV.tmp 4] s1 fun r H' => ∃ r' A, RelLe r r' ∧ r' ≠ .any ∧ HpLe H' A ∧ r' = .lit (jn (rdCount most s).1) ∧ A = rdF H R (rdCount most s).2 () := fun v st a L h1 h2 h3 =>
    ⟨a, Le.refl _, finX1 (v := .lit (jn v)) (by simp [RVal, AS.coe, h2]) (by simp) ⟨_, _, RelLe.refl _, by simp, by rw [h3]; exact HpLe.trim _ _, by rw [h1], by rw [h1]⟩⟩
  obtain ⟨g, hg⟩ : ∃ g, g = rdNum s := ⟨_, rfl⟩
  rw [← hg] at cN hlt
  obtain ⟨n, s2, e2⟩ := g
  obtain ⟨s, e⟩ := s
  have hc : rdCount most (s, e) = if e2 = 0 ∧ most < n then (0, (s, 5)) else (n, (s2, e2)) := by unfold rdCount; rw [← hg]
  simp only at cN hlt
  have cj := cvt_wj n hlt
  have pm : primVal .imax [jn most, jn 0] = some (jn most) := by rw [prim_max, Nat.max_zero]
  refine wp_sr (by simp [push_cast]; exact rfl) ?_
  refine wp_sr (by simp [push_cast, db]; exact rfl) ?_
  refine wp_sg ?_
  refine areg_run 1 (by simp [push_cast]; exact rfl) ?_
  refine areg_gi cN (by simp [AS.ev, AS.put]) fun _ => ?_
  refine areg_end (by simp [push_cast]; exact rfl) ?_
  by_cases he : e2 = 0
  · subst he
    by_cases hl : most < n
    · refine wp_seq' (wp_seq' (wp_r (by simp [push_cast, db, cj, pm, hl]; exact rfl) (wp_cond_t (by simp [AS.ev, hl]) ?_)))
      refine wp_sr (by simp [push_cast, db, ds]; exact rfl) ?_
      refine wp_sr (by simp [push_cast]; exact rfl) (wp_ret' ?_)
      exact fin 0 (s, 5) _ _ (by rw [hc]; simp [hl]) rfl rfl
    · refine wp_seq' (wp_seq' (wp_r (by simp [push_cast, db, cj, pm, hl]; exact rfl) (wp_cond_f (by simp [AS.ev, hl]) (wp_skip' ?_))))
      refine wp_sr (by simp [push_cast, cj]; exact rfl) (wp_ret' ?_)
      exact fin n (s2, 0) _ _ (by rw [hc]; simp [hl]) rfl rfl
  · refine wp_seq' (wp_seq' (wp_r (by simp [push_cast, db, he]; exact rfl) (wp_cond_f (by simp [AS.ev, he]) (wp_skip' ?_))))
    refine wp_sr (by simp [push_cast, cj]; exact rfl) (wp_ret' ?_)
    exact fin n (s2, e2) _ _ (by rw [hc]; simp [he]) rfl rfl
theorem count_gk (hh : RdOk H R s0) (hs : s.1.length < 1000000) (most : Nat) (hm : most < 1000000) : GC Go.Proofs.Tryd.prog 67 [.ptr R.b R.l 0 [], .lit (jn most)] (rdF H R) s (.lit (jn (rdCount most s).1)) (rdCount most s).2 := GC.ofD hh fun H h => count_call h hs most hm
set_option maxHeartbeats 4000000 in
theorem TextR_call (hh : RdOk H R s) (hs : s.1.length < 1000000) (most : Nat) (hm : most < 1000000) : XCall Go.Proofs.Tryd.prog 55 [.ptr R.b R.l 0 [], .lit (jn most)] H fun r H' => r = .lit (tx (rdText most s).1) ∧ H' = rdF H R (rdText most s).2 () := by
  have h846 := fc846_eq
  refine XCall.le ?_
  have hself := hh.self
  have cC := count_gk (s := s) hh hs most hm
  have cT := take_gk (s := (rdCount most s).2) hh (rdCount most s).1
  refine XCall.of h846 rfl ?_; show AC.wp _ fb846 ⟨H.length, [.ptr R.b R.l 0 [], .lit (jn most)] ++ List.replicate (26 - 2) .any, H ++ List.replicate 26 none⟩ (fun x s => match x with | .exit _ => False | _ => ∃ s1, Le s s1 ∧ FinX [(.tmp 4)] s1 _); unfold fb846
  have hst : ∀ L, H ++ L = rdF H R s () ++ L := fun L => by rw [hself]
  rw [hst]
  generalize hN : H.length = N at *
  have db := fun t L => D_b hh t () L
  have ds := fun t L a e => D_sb' hh t () L a e
  have fin : ∀ (v : List UInt8) (st : RS) (a : AS) (L : List (Option Blk)), rdText most s = (v, st) → a.ev (.tmp 4) = .lit (tx v) → a.hp = rdF H R st () ++ L → ∃ s1, Le a s1 ∧ FinX [RV.tmp 4] s1 fun r H' => ∃ r' A, RelLe r r' ∧ r' ≠ .any ∧ HpLe H' A ∧ r' = .lit (tx (rdText most s).1) ∧ A = rdF H R (rdText most s).2 () := fun v st a L h1 h2 h3 =>
    ⟨a, Le.refl _, finX1 (v := .lit (tx v)) (by simp [RVal, AS.coe, h2]) (by simp) ⟨_, _, RelLe.refl _, by simp, by rw [h3]; exact HpLe.trim _ _, by rw [h1], by rw [h1]⟩⟩
  obtain ⟨g, hg⟩ : ∃ g, g = rdTake (rdCount most s).1 (rdCount most s).2 := ⟨_, rfl⟩
  rw [← hg] at cT
  obtain ⟨t, s2, e2⟩ := g
  obtain ⟨s, e⟩ := s
  have hc : rdText most (s, e) = (t, (if e2 = 0 then s2 else s, e2)) := by unfold rdText; simp only; rw [← hg]
  generalize rdCount most (s, e) = c at cC cT
  simp only at cT
  refine wp_sr (by simp [push_cast]; exact rfl) ?_
  refine wp_sr (by simp [push_cast, db]; exact rfl) ?_
  refine wp_sg ?_
  refine areg_run 3 (by simp [push_cast]; exact rfl) ?_
  refine areg_gi cC (by simp [AS.ev, AS.put]) fun _ => ?_
  refine areg_gi cT (by simp [AS.ev, AS.put]) fun _ => ?_
  refine areg_end (by simp [push_cast]; exact rfl) ?_
  by_cases he : e2 = 0
  · subst he
    refine wp_seq' (wp_seq' (wp_r (by simp [push_cast, db]; exact rfl) (wp_cond_f (by simp [AS.ev]) (wp_skip' ?_))))
    refine wp_sr (by simp [push_cast]; exact rfl) (wp_ret' ?_)
    exact fin t (s2, 0) _ _ (by rw [hc]; simp) rfl rfl
  · refine wp_seq' (wp_seq' (wp_r (by simp [push_cast, db, he]; exact rfl) (wp_cond_t (by simp [AS.ev, he]) ?_)))
    refine wp_r (by simp [push_cast, db, ds]; exact rfl) ?_
    refine wp_sr (by simp [push_cast]; exact rfl) (wp_ret' ?_)
    exact fin t (s, e2) _ _ (by rw [hc]; simp [he]) rfl rfl
theorem TextR_gk (hh : RdOk H R s0) (hs : s.1.length < 1000000) (most : Nat) (hm : most < 1000000) : GC Go.Proofs.Tryd.prog 55 [.ptr R.b R.l 0 [], .lit (jn most)] (rdF H R) s (.lit (tx (rdText most s).1)) (rdText most s).2 := GC.ofD hh fun H h => TextR_call h hs most hm
set_option maxHeartbeats 4000000 in
theorem KeyR_call (hh : RdOk H R s) : XCall Go.Proofs.Tryd.prog 54 [.ptr R.b R.l 0 []] H fun r H' => r = keyA (rdKey s).1 ∧ H' = rdF H R (rdKey s).2 () := by
  have h847 := fc847_eq
  refine XCall.le ?_
  have hself := hh.self
  have cT := take_gk (s := s) hh 32
  have hl := rdTake_len (n := 32) s
  refine XCall.of h847 rfl ?_; show AC.wp _ fb847 ⟨H.length, [.ptr R.b R.l 0 []] ++ List.replicate (11 - 1) .any, H ++ List.replicate 11 none⟩ (fun x s => match x with | .exit _ => False | _ => ∃ s1, Le s s1 ∧ FinX [(.cell 2 .true 32)] s1 _); unfold fb847
  have hst : ∀ L, H ++ L = rdF H R s () ++ L := fun L => by rw [hself]
  rw [hst]
  generalize hN : H.length = N at *
  have G1 : ∀ i x, (rdF H R i x).length = N := fun i x => by rw [rdF_len, hN]
  have g1 : ∀ i x L k, (rdF H R i x ++ L)[N + k]? = L[k]? := fun i x L k => cat1 _ _ _ _ (G1 _ _)
  have g2 : ∀ i x L k z, (rdF H R i x ++ L).set (N + k) z = rdF H R i x ++ L.set k z := fun i x L k z => cat2 _ _ _ _ _ (G1 _ _)
  unfold rdKey
  simp only
  generalize rdTake 32 s = g at *
  obtain ⟨t, st⟩ := g
  simp only at cT hl ⊢
  have kl : (keyOf t).length = 32 := by unfold keyOf; simp [zk]; omega
  refine wp_sg (areg_al' zk_eq.symm fun l2 => areg_end (by simp [push_cast, g2]; exact rfl) ?_)
  refine wp_sg ?_
  refine areg_run 1 (by simp [push_cast]; exact rfl) ?_
  refine areg_gi cT (by simp [AS.ev, AS.put]) fun _ => ?_
  refine areg_end (by simp [push_cast]; exact rfl) ?_
  refine wp_sg (areg_al' zk_eq.symm fun l4 => areg_end (by simp [push_cast, g2]; exact rfl) ?_)
  refine wp_sg ?_
  refine areg_run 2 (by simp [push_cast, g1, zk_len]; exact rfl) ?_
  refine areg_cpk (b := N + 4) (lo := 0) (len := 32) (cap := 32) (n := 32) (k := zk) (src := t) (k' := keyOf t) rfl (by simp only [AS.blk, g1]; rfl) (listB_tx _ _) (by simp [zk]) hl (by simp [keyOf]) ?_
  refine areg_end (by simp [push_cast, g2]; exact rfl) ?_
  refine wp_sr (by simp [push_cast, g1, g2, kl, zk_len]; exact rfl) (wp_ret' ?_)
  exact ⟨_, Le.refl _, [], keyA (keyOf t), ⟨by simp [AS.seals, RVal, AS.ev, AS.peek, AS.blk, g1, Blk.loc, Blk.cont, Blk.n, AV.nav, AV.isAgg, AV.isTup, AS.coe]; rfl, by simp [keyA]⟩, _, _, RelLe.refl _, by simp [keyA], HpLe.trim _ _, rfl, rfl⟩
theorem KeyR_gk (hh : RdOk H R s0) : GC Go.Proofs.Tryd.prog 54 [.ptr R.b R.l 0 []] (rdF H R) s (keyA (rdKey s).1) (rdKey s).2 := GC.ofD hh fun H h => KeyR_call h
end
end Go.Cab