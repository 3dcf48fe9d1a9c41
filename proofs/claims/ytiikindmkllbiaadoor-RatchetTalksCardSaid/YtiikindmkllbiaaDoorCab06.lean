/- Part 6 of what the proof stands on: T1, G1, G2, G3, G4, G5, G6, G7. -/
import Derived.Test.YtiikindmkllbiaaDoorCab05
import Derived.Laws.Strings
import Derived.Test.YtiikindmkllbiaaDoorProg
set_option linter.unusedSimpArgs false
set_option linter.unnecessarySimpa false
set_option linter.unusedVariables false
set_option linter.unusedSectionVars false
namespace Go.Cab
open Classical
theorem if_miss {p : Prop} [Decidable p] {A B : Prop} (h : ¬ p) (k : B) : if p then A else B := by rw [if_neg h]; exact k
theorem part_box {s : AS} {b n : Nat} {l : Nat × Nat} {v : AV} (h : s.blk b = some (.box l n v)) (hn : n ≠ 0) : s.part (.ptr b l 0 []) = some (b, .box l n v, [], n, v) := by
  simp [AS.part, h, AV.nav, hn]
theorem areg_ib {P : Program} {s : AS} {K : AS → Prop} {xs : List AOp} {d : Option Tmp} {f : FuncId} {x : Operand} {aa : List Operand} {ow : Option Tmp} {b n : Nat} {l : Nat × Nat} {u r u' : AV} {fo : List Tmp} {vs : List AV} (hx : s.ev x = .ptr b l 0 []) (hb : s.blk b = some (.box l n u)) (hn : n ≠ 0)
    (ha : (aa.map fun x => s.coe (AOp.ro ⟨d, none, .icall f x aa, fo, ow⟩ s.nr) (s.ev x)) = vs) (hc : ICall P f n u vs r u') (hu : u'.isTup = false) (h : AReg P xs ((s.setBlk b (some (.box l n u'))).put d r) K) : AReg P (⟨d, none, .icall f x aa, fo, ow⟩ :: xs) s K :=
  areg_ic (by rw [hx]; exact part_box hb hn) ha hc hu (by simpa [Blk.upd, AV.upd] using h)
def tx (l : List UInt8) : Value := .string ⟨⟨l⟩⟩
theorem sc_tx (l : List UInt8) : sc (tx l) = true := rfl
theorem tx_inj {a b : List UInt8} : tx a = tx b ↔ a = b := by simp [tx]
theorem tx_of (b : ByteArray) : Value.string b = tx b.data.toList := rfl
theorem lenA_tx (s : AS) (ro : Nat → Bool) (l : List UInt8) : lenA s ro true (.lit (tx l)) = some (.lit (jn l.length)) := rfl
def primA (p : PrimOp) : Option (List Value) → Option AV
  | some vs => (primVal p vs).map .lit
  | none => none
theorem primA_some (p : PrimOp) (vs : List Value) : primA p (some vs) = (primVal p vs).map .lit := rfl
section
variable {ro : Nat → Bool} {s : AS}
theorem ex_prim (p : PrimOp) (xs : List Operand) : (AI.prim p xs).ex ro s = primA p (s.lits xs) := by
  simp only [AI.ex]; cases s.lits xs <;> rfl
theorem ex_b2s (x : Operand) : (AI.b2s x).ex ro s = (s.textOf ro (s.ev x)).map .lit := rfl
end
theorem get_tx (l : List UInt8) (i : Nat) : (ByteArray.mk ⟨l⟩)[i]? = l[i]? := by
  by_cases h : i < l.length
  · rw [getElem?_pos (ByteArray.mk ⟨l⟩) i h, List.getElem?_eq_getElem h]; rfl
  · rw [getElem?_neg (ByteArray.mk ⟨l⟩) i h, List.getElem?_eq_none (by omega)]
theorem prim_ix (l : List UInt8) (i : Nat) : primVal .sidx [tx l, jn i] = (l[i]?).map fun b => bn b.toNat := by
  simp only [primVal, tx, jn, Int.toNat_natCast]
  rw [if_pos (by omega), get_tx]
  cases l[i]? <;> rfl
theorem bound_jn (n y : Nat) : bound (jn n) y = if n ≤ y then some n else none := by
  simp only [bound, jn, Int.toNat_natCast]
  by_cases h : n ≤ y
  · rw [if_pos h, if_pos (by omega)]
  · rw [if_neg h, if_neg (by omega)]
theorem extract_tx (l : List UInt8) (i k : Nat) : (ByteArray.mk ⟨l⟩).extract i k = ⟨⟨(l.take k).drop i⟩⟩ := by
  apply ByteArray.ext
  apply Array.toList_inj.1
  simp [List.drop_take]
theorem prim_sub (l : List UInt8) (i : Nat) : primVal (.ssub true false) [tx l, jn i] = if i ≤ l.length then some (tx (l.drop i)) else none := by
  simp only [primVal, tx, bound_jn]
  show Option.map _ (if i ≤ l.length then _ else _) = _
  by_cases h : i ≤ l.length
  · rw [if_pos h, if_pos h, Option.map_some, extract_tx]
    show some (Value.string ⟨⟨(l.take l.length).drop i⟩⟩) = _
    rw [List.take_length]
  · rw [if_neg h, if_neg h]; rfl
theorem prim_sub2 (l : List UInt8) (i k : Nat) : primVal (.ssub true true) [tx l, jn i, jn k] = if k ≤ l.length ∧ i ≤ k then some (tx ((l.take k).drop i)) else none := by
  simp only [primVal, tx, bound_jn]
  show Option.bind (if k ≤ l.length then _ else _) _ = _
  by_cases h : k ≤ l.length
  · rw [if_pos h]
    simp only [Option.bind_some, h, true_and]
    by_cases h2 : i ≤ k
    · rw [if_pos h2, if_pos h2, Option.map_some, extract_tx]
    · rw [if_neg h2, if_neg h2]; rfl
  · rw [if_neg h, if_neg (by omega)]; rfl
theorem prim_max (a b : Nat) : primVal .imax [jn a, jn b] = some (jn (max a b)) := by
  simp only [primVal, jn, Option.some.injEq, Value.int.injEq, true_and]
  split <;> omega
theorem prim_minw (a b : Nat) : primVal .imin [wn a, wn b] = some (wn (min a b)) := by
  simp only [primVal, wn, Option.some.injEq, Value.int.injEq, true_and]
  split <;> omega
theorem prim_min (a b : Nat) : primVal .imin [jn a, jn b] = some (jn (min a b)) := by
  simp only [primVal, jn, Option.some.injEq, Value.int.injEq, true_and]
  by_cases h : b < a
  · rw [if_pos (by omega), Nat.min_eq_right (by omega)]
  · rw [if_neg (by omega), Nat.min_eq_left (by omega)]
def findB (l : List UInt8) (c : UInt8) : Int := match (List.range l.length).find? fun (i : Nat) => l[i]! == c with | some i => (i : Int) | none => -1
theorem prim_ib (l : List UInt8) (c : UInt8) : primVal .ibyte [tx l, bn c.toNat] = some (.int .i64 (findB l c)) := by
  simp only [primVal, tx, bn, findB, Int.toNat_natCast]
  have e : (fun (i : Nat) => (ByteArray.mk ⟨l⟩)[i]! == c.toNat.toUInt8) = fun (i : Nat) => l[i]! == c := by
    funext i
    have e1 : c.toNat.toUInt8 = c := by simp
    have e2 : (ByteArray.mk ⟨l⟩)[i]! = l[i]! := by
      rw [getElem!_def, getElem!_def, get_tx]
    rw [e1, e2]
  rw [e]
  rfl
def bl (l : List UInt8) : List AV := l.map fun b => .lit (bn b.toNat)
theorem bl_len (l : List UInt8) : (bl l).length = l.length := by simp [bl]
theorem bl_app (l m : List UInt8) : bl l ++ bl m = bl (l ++ m) := by simp [bl]
theorem bl_one (b : UInt8) : [AV.lit (bn b.toNat)] = bl [b] := rfl
theorem bytes_bl : ∀ l : List UInt8, bytesAV (bl l) = some (l.map fun b => (b.toNat : Int))
  | [] => rfl
  | b :: l => by
    show bytesAV (.lit (.int .u8 (b.toNat : Int)) :: bl l) = _
    simp only [bytesAV]
    rw [bytes_bl l]
    rfl
theorem push_all : ∀ (l : List UInt8) (a : ByteArray), (l.map fun b => (b.toNat : Int)).foldl (fun r n => r.push (UInt8.ofNat n.toNat)) a = ⟨⟨a.data.toList ++ l⟩⟩
  | [], a => by simp
  | b :: l, a => by
    rw [List.map_cons, List.foldl_cons, push_all l]
    simp [ByteArray.push, UInt8.ofNat_toNat]
theorem strOf_bl (l : List UInt8) : strOf (l.map fun b => (b.toNat : Int)) = tx l := by
  unfold strOf tx
  rw [push_all]
  rfl
def textA : AV → Option Value
  | .sl 1 els => (bytesAV els).map strOf
  | .lit (.slice none 0 0) => some (strOf [])
  | _ => none
theorem textOf_eq (s : AS) (ro : Nat → Bool) (v : AV) : s.textOf ro v = textA (s.lend ro v) := rfl
theorem textA_sl (l : List UInt8) : textA (.sl 1 (bl l)) = some (tx l) := by
  simp only [textA, bytes_bl, Option.map_some, strOf_bl]
theorem textA_nil : textA (.lit (.slice none 0 0)) = some (tx []) := rfl
noncomputable def lendRow (V : Value) : Option Blk → AV
  | some (.row _ V' esz els _) => if V' = V then .sl esz els else .any
  | _ => .any
theorem lend_own (s : AS) (ro : Nat → Bool) (b : Nat) (V : Value) : s.lend ro (.own b V) = if ro b then lendRow V (s.blk b) else .any := by
  simp only [AS.lend]
  cases ro b
  · rfl
  · simp only [if_true]
    generalize s.blk b = x
    cases x with
    | none => rfl
    | some x => cases x <;> rfl
theorem lendRow_row (e : TypeId) (V : Value) (esz : Nat) (els : List AV) (k : Nat) : lendRow V (some (.row e V esz els k)) = .sl esz els := by simp [lendRow]
theorem lend_sl (s : AS) (ro : Nat → Bool) (esz : Nat) (els : List AV) : s.lend ro (.sl esz els) = .sl esz els := rfl
theorem lend_lit (s : AS) (ro : Nat → Bool) (v : Value) : s.lend ro (.lit v) = .lit v := rfl
theorem bin_adds (a b : List UInt8) (h : a.length + b.length < 9223372036854775808) : binVal .add (tx a) (tx b) = some (tx (a ++ b)) := by
  simp only [binVal, tx]
  rw [if_neg]
  · congr 2
  · show ¬ (((a.length + b.length : Nat) : Int) > 9223372036854775807)
    omega
theorem list_tx (a : List UInt8) : (ByteArray.mk ⟨a⟩).toList = a := by
  rw [ByteArray.toList_eq]
theorem bin_eqls (a b : List UInt8) : binVal .eql (tx a) (tx b) = some (.bool (decide (a = b))) := by
  simp only [binVal, tx, list_tx, Option.some.injEq, Value.bool.injEq]
  rw [Bool.eq_iff_iff]; simp
theorem bin_neqs (a b : List UInt8) : binVal .neq (tx a) (tx b) = some (.bool (decide (a ≠ b))) := by
  simp only [binVal, tx, list_tx, Option.some.injEq, Value.bool.injEq]
  rw [Bool.eq_iff_iff]; simp
theorem bin_geq8 (a b : Nat) : binVal .geq (bn a) (bn b) = some (.bool (decide (b ≤ a))) := by simp [binVal, bn]
theorem bin_leq8 (a b : Nat) : binVal .leq (bn a) (bn b) = some (.bool (decide (a ≤ b))) := by simp [binVal, bn]
theorem bin_lss8 (a b : Nat) : binVal .lss (bn a) (bn b) = some (.bool (decide (a < b))) := by simp [binVal, bn]
theorem bin_gtr8 (a b : Nat) : binVal .gtr (bn a) (bn b) = some (.bool (decide (b < a))) := by simp [binVal, bn]
theorem bin_neq8 (a b : Nat) : binVal .neq (bn a) (bn b) = some (.bool (decide (a ≠ b))) := by
  simp only [binVal, bn, ne_eq, not_true_eq_false, if_false, Option.some.injEq, Value.bool.injEq]; rw [Bool.eq_iff_iff]; simp; try omega
theorem bin_sub8 (a b : Nat) (h : b ≤ a) (h2 : a < 256) : binVal .sub (bn a) (bn b) = some (bn (a - b)) := by
  simp only [binVal, bn, ne_eq, not_true_eq_false, if_false]
  rw [← Int.ofNat_sub h, wrap_u8, Nat.mod_eq_of_lt (by omega)]
theorem bin_quo8 (a b : Nat) (h : b ≠ 0) (h2 : a < 256) : binVal .quo (bn a) (bn b) = some (bn (a / b)) := by
  simp only [binVal, bn, ne_eq, not_true_eq_false, if_false]
  have := Nat.div_le_self a b
  rw [if_neg (by omega), ← Int.ofNat_tdiv, wrap_u8, Nat.mod_eq_of_lt (by omega)]
theorem bin_add8 (a b : Nat) (h : a + b < 256) : binVal .add (bn a) (bn b) = some (bn (a + b)) := by
  simp only [binVal, bn, ne_eq, not_true_eq_false, if_false]
  rw [← Int.natCast_add, wrap_u8, Nat.mod_eq_of_lt h]
theorem bin_mulj (a b : Nat) (h : a * b < 9223372036854775808) : binVal .mul (jn a) (jn b) = some (jn (a * b)) := by
  simp only [binVal, jn, ne_eq, not_true_eq_false, if_false]
  rw [← Int.natCast_mul, wrap_i64 (by have : (0 : Int) ≤ ((a * b : Nat) : Int) := Int.natCast_nonneg _; omega) (by have : ((a * b : Nat) : Int) < (9223372036854775808 : Nat) := Int.ofNat_lt.2 h; exact this)]
theorem cvt_j8 (n : Nat) (h : n < 256) : cvtA .i64 (.lit (bn n)) = some (.lit (jn n)) := by
  simp only [cvtA, bn]; rw [wrap_i64 (by omega) (by omega)]; rfl
theorem cvt_8j (n : Nat) : cvtA .u8 (.lit (jn n)) = some (.lit (bn (n % 256))) := by simp only [cvtA, jn, wrap_u8]; rfl
def hx (b : UInt8) : Option Nat := if 48 ≤ b.toNat ∧ b.toNat ≤ 57 then some (b.toNat - 48) else if 97 ≤ b.toNat ∧ b.toNat ≤ 102 then some (b.toNat - 87) else none
def hv (o : Option Nat) : Value := .int .i64 (match o with | some n => (n : Int) | none => -1)
theorem hv_some (n : Nat) : hv (some n) = jn n := rfl
theorem hx_lt {b : UInt8} {n : Nat} (h : hx b = some n) : n < 16 := by
  unfold hx at h; split at h
  · cases h; omega
  · split at h
    · cases h; omega
    · cases h
theorem u8_all {p : UInt8 → Prop} [DecidablePred p] (h : ∀ n : _root_.Fin 256, p (UInt8.ofNat n.val)) (b : UInt8) : p b := by
  have := h ⟨b.toNat, b.toNat_lt⟩
  simpa using this
theorem half_eq (b : UInt8) : Value.int .i64 (findB [48, 49, 50, 51, 52, 53, 54, 55, 56, 57, 97, 98, 99, 100, 101, 102] b) = hv (hx b) := by
  unfold hv
  congr 1
  revert b
  refine u8_all ?_
  decide +kernel
def signB (b : UInt8) : Bool := [40, 41, 123, 125, 44, 59, 61, 60, 62, 43, 45, 42, 47, 37, 38, 124, 33].contains b
theorem sign_eq (b : UInt8) : decide (0 ≤ findB [40, 41, 123, 125, 44, 59, 61, 60, 62, 43, 45, 42, 47, 37, 38, 124, 33] b) = signB b := by
  revert b
  refine u8_all ?_
  decide +kernel
theorem geq_hv (x : Int) : binVal .geq (.int .i64 x) (jn 0) = some (.bool (decide (0 ≤ x))) := by simp [binVal, jn]
theorem lss_hv (o : Option Nat) : binVal .lss (hv o) (jn 0) = some (.bool o.isNone) := by
  cases o with
  | none => simp [binVal, jn, hv]
  | some n => simp [binVal, jn, hv]
theorem bin_shlj4 (a : Nat) (h : a < 16) : binVal .shl (jn a) (un 4) = some (jn (a * 16)) := by
  simp only [jn, un]
  rw [shl_any, wrap_i64 (by have : (0:Int) ≤ ((a * 2 ^ min 4 IntKind.i64.bits : Nat) : Int) := Int.natCast_nonneg _; omega) (by simp [IntKind.bits]; try omega)]
  simp [IntKind.bits]
theorem bin_orj (a b : Nat) (ha : a < 16) (hb : b < 16) : binVal .or (jn (a * 16)) (jn b) = some (jn (a * 16 + b)) := by
  have h : ∀ a b : _root_.Fin 16, (BitVec.ofInt 64 ((a.val * 16 : Nat) : Int) ||| BitVec.ofInt 64 (b.val : Int)).toNat = a.val * 16 + b.val := by decide +kernel
  have h2 := h ⟨a, ha⟩ ⟨b, hb⟩
  simp only at h2
  show some (Value.int .i64 (IntKind.i64.wrap (((BitVec.ofInt 64 ((a * 16 : Nat) : Int) ||| BitVec.ofInt 64 (b : Int)).toNat : Nat) : Int))) = _
  rw [h2, wrap_i64 (by omega) (by omega)]
  rfl
end Go.Cab
namespace Go.Cab
open Classical
section
variable {P : Program} {s : AS} {K : AS → Prop} {xs : List AOp} {ro : Nat → Bool}
theorem ex_rdp (g : RdOp) (ys : List Operand) : (AI.rdp g ys).ex ro s = rdB (fun _ => none) g (ys.map fun x => s.ev x) := rfl
theorem ex_rd (g : RdOp) (ys : List Operand) : (AI.rd g ys).ex ro s = rdB (fun b => if ro b then s.blk b else none) g (ys.map fun x => s.ev x) := rfl
theorem areg_mkmap {d : Tmp} {fo : List Tmp} {ow : Option Tmp}
    (h : ∀ r, AReg P xs ⟨s.nr, s.tm.set d (.own (s.nr + d) (.map (some r))), s.hp.set (s.nr + d) (some (.map r [] 0))⟩ K) : AReg P (⟨some d, none, .ef .mkmap [], fo, ow⟩ :: xs) s K := by
  unfold AReg AOp.go
  simp only [AI.go]
  refine ⟨by cases ow <;> trivial, fun V => ⟨_, _, rfl, h _⟩⟩
theorem areg_bown {d e esz n : Nat} {z : AV} {idx : List Nat} {ys : List Operand} {fo : List Tmp} {ow : Option Tmp} {vs els : List AV} {k : Nat} (ha : (ys.map fun x => s.ev x) = vs)
    (hf : fillV (.arr esz (List.replicate n z)) (idx.zip vs) = some (.arr k els)) (hl : AOp.leaves ⟨some d, none, .ef (.bown e esz z n idx) ys, fo, ow⟩ s .any)
    (h : ∀ V, AReg P xs ⟨s.nr, s.tm.set d (.own (s.nr + d) V), s.hp.set (s.nr + d) (some (.row e V esz els 0))⟩ K) : AReg P (⟨some d, none, .ef (.bown e esz z n idx) ys, fo, ow⟩ :: xs) s K := by
  subst ha
  unfold AReg AOp.go
  simp only [AI.go]
  refine ⟨by cases ow <;> exact hl, fun V => ⟨.own (s.nr + d) V, s.hp.set (s.nr + d) (some (.row e V esz els 0)), ?_, h V⟩⟩
  simp only [efA, hf, AS.slot, Option.getD_some]
theorem areg_app {d e esz bytes : Nat} {str : Bool} {x y : Operand} {fo : List Tmp} {ow : Option Tmp} {b sl : Nat} {V : Value} {els ys : List AV} (hx : s.ev x = .own b V) (hb : s.blk b = some (.row e V esz els sl))
    (hy : listB (fun b => (s.hp[b]?).join) esz (s.ev y) = some ys) (hs : (s.ev y).isText = str) (h1 : els.length + ys.length ≤ maxLen) (h2 : (els.length + ys.length) * bytes ≤ 140737488355328)
    (hl : AOp.leaves ⟨some d, none, .ef (.app e esz bytes str) [x, y], fo, ow⟩ s (.own b V))
    (h : ∀ V', AReg P xs ⟨s.nr, s.tm.set d (.own (s.nr + d) V'), (s.hp.set b none).set (s.nr + d) (some (.row e V' esz (els ++ ys) sl))⟩ K) : AReg P (⟨some d, none, .ef (.app e esz bytes str) [x, y], fo, ow⟩ :: xs) s K := by
  unfold AReg AOp.go
  simp only [AI.go]
  refine ⟨by rw [← hx] at hl; cases ow <;> exact hl, fun V' => ⟨.own (s.nr + d) V', (s.hp.set b none).set (s.nr + d) (some (.row e V' esz (els ++ ys) sl)), ?_, h V'⟩⟩
  unfold AS.blk at hb
  simp only [efA, List.map_cons, List.map_nil, hx, rowB, hb, hy, and_self, if_true, hs, h1, h2, hpDrop, AS.slot, Option.getD_some]
theorem areg_nil0 {d : Option Tmp} {neg : Bool} {x : Operand} {fo : List Tmp} {ow : Option Tmp} (hx : s.ev x = .lit (.slice none 0 0)) (h : AReg P xs (s.put d (.lit (.bool (!neg)))) K) : AReg P (⟨d, none, .ef (.isnil neg) [x], fo, ow⟩ :: xs) s K := by
  unfold AReg AOp.go
  simp only [AI.go]
  refine ⟨by cases ow <;> trivial, fun V => ⟨.lit (.bool (!neg)), s.hp, ?_, ?_⟩⟩
  · simp only [efA, List.map_cons, List.map_nil, hx, nilA, Option.map_some]
    cases neg <;> rfl
  · have e : ({ s.put d (.lit (.bool (!neg))) with hp := s.hp } : AS) = s.put d (.lit (.bool (!neg))) := by cases d <;> rfl
    rw [e]; exact h
theorem areg_nils {d : Option Tmp} {neg : Bool} {x : Operand} {fo : List Tmp} {ow : Option Tmp} {esz : Nat} {els : List AV} (hx : s.ev x = .sl esz els)
    (h : ∀ b, (b = true → els = []) → AReg P xs (s.put d (.lit (.bool (if neg then !b else b)))) K) : AReg P (⟨d, none, .ef (.isnil neg) [x], fo, ow⟩ :: xs) s K := by
  unfold AReg AOp.go
  simp only [AI.go]
  refine ⟨by cases ow <;> trivial, fun V => ?_⟩
  obtain ⟨b, hb, hbe⟩ : ∃ b, nilA V (.sl esz els) = some b ∧ (b = true → els = []) := by
    cases els with
    | nil => exact ⟨_, rfl, fun _ => rfl⟩
    | cons a l => exact ⟨false, rfl, fun h => by cases h⟩
  refine ⟨.lit (.bool (if neg then !b else b)), s.hp, ?_, ?_⟩
  · simp only [efA, List.map_cons, List.map_nil, hx, hb, Option.map_some]
  · have e : ∀ v, ({ s.put d v with hp := s.hp } : AS) = s.put d v := fun v => by cases d <;> rfl
    rw [e]; exact h b hbe
theorem areg_ef0 {d : Option Tmp} {g : EfOp} {ys : List Operand} {fo : List Tmp} {ow : Option Tmp} {us : List AV} {r : AV} {hp' : List (Option Blk)} (ha : (ys.map fun x => s.ev x) = us) (hu : efF s.hp g us = some (r, hp'))
    (h : AReg P xs { s.put d r with hp := hp' } K) : AReg P (⟨d, none, .ef g ys, fo, ow⟩ :: xs) s K := by
  subst ha
  have hm : AOp.mine ⟨d, none, .ef g ys, fo, ow⟩ s := by
    unfold AOp.mine
    cases ow <;> cases g <;> first | trivial | (simp [efF] at hu; done)
  unfold AReg AOp.go
  simp only [AI.go]
  exact ⟨hm, fun V => ⟨r, hp', efA_of hu _ V, h⟩⟩
theorem areg_xfH {d : Option Tmp} {g : XT} {ys : List Operand} {keep fresh : List Tmp} {fo : List Tmp} {ow : Option Tmp} {us vs : List AV} {f : FuncId} {K' : AV → List (Option Blk) → Prop} (ha : (ys.map fun x => s.ev x) = us) (ht : ∀ E, (∀ e ∈ E, e.1 ∈ fresh) → tgtH P (setE s.nr s.hp E) g us = some (f, vs))
    (hc : ∀ E, (∀ e ∈ E, e.1 ∈ fresh) → XCall P f vs (setE s.nr s.hp E) fun r H' => ∃ hp', K' r hp' ∧ H' = setE s.nr hp' E) (hn : ∃ r hp', K' r hp') (hlt : ∀ t ∈ fresh, s.nr + t < s.hp.length)
    (hk : ∀ r hp', K' r hp' → keepOk s keep hp' ∧ s.hp.length ≤ hp'.length) (h : ∀ r hp', K' r hp' → AReg P xs { s.put d r with hp := hp' } K) : AReg P (⟨d, none, .xc g ys keep fresh, fo, ow⟩ :: xs) s K := by
  subst ha
  unfold AReg AOp.go
  simp only [AI.go]
  exact ⟨by cases ow <;> trivial, f, vs, ht, K', hc, hn, fun r hp' hK => ⟨(hk r hp' hK).1, .inr (hk r hp' hK).2⟩, hlt, h⟩
theorem areg_xqH {d : Option Tmp} {g : XT} {ys : List Operand} {keep : List Tmp} {fo : List Tmp} {ow : Option Tmp} {us vs : List AV} {f : FuncId} {K' : AV → List (Option Blk) → Prop} (ha : (ys.map fun x => s.ev x) = us) (ht : tgtH P s.hp g us = some (f, vs)) (hc : XCall P f vs s.hp K') (hn : ∃ r hp', K' r hp')
    (hk : ∀ r hp', K' r hp' → keepOk s keep hp') (h : ∀ r hp', K' r hp' → AReg P xs { s.put d r with hp := hp' } K) : AReg P (⟨d, none, .xc g ys keep [], fo, ow⟩ :: xs) s K := by
  subst ha
  unfold AReg AOp.go
  simp only [AI.go]
  refine ⟨by cases ow <;> trivial, f, vs, fun E hE => ?_, K', fun E hE => ?_, hn, fun r hp' hK => ⟨hk r hp' hK, .inl trivial⟩, by simp, h⟩
  · cases E with
    | nil => exact ht
    | cons e E => exact absurd (hE e (by simp)) (by simp)
  cases E with
  | nil =>
    intro w0 w regs Imm0 Vs a1 a2 a3 a4
    exact Calls.mono (hc w0 w regs Imm0 Vs a1 a2 a3 a4) fun e w' ⟨V, r, hp', Imm', he, hk, rest⟩ => ⟨V, r, hp', Imm', he, ⟨hp', hk, rfl⟩, rest⟩
  | cons e E => exact absurd (hE e (by simp)) (by simp)
theorem areg_xq {d : Option Tmp} {g : XT} {ys : List Operand} {keep : List Tmp} {fo : List Tmp} {ow : Option Tmp} {us vs : List AV} {f : FuncId} {K' : AV → List (Option Blk) → Prop} (ha : (ys.map fun x => s.ev x) = us) (ht : tgtA P g us = some (f, vs)) (hc : XCall P f vs s.hp K') (hn : ∃ r hp', K' r hp')
    (hk : ∀ r hp', K' r hp' → keepOk s keep hp') (h : ∀ r hp', K' r hp' → AReg P xs { s.put d r with hp := hp' } K) : AReg P (⟨d, none, .xc g ys keep [], fo, ow⟩ :: xs) s K :=
  areg_xqH ha (tgtH_of ht) hc hn hk h
theorem areg_xf {d : Option Tmp} {g : XT} {ys : List Operand} {keep fresh : List Tmp} {fo : List Tmp} {ow : Option Tmp} {us vs : List AV} {f : FuncId} {K' : AV → List (Option Blk) → Prop} (ha : (ys.map fun x => s.ev x) = us) (ht : tgtA P g us = some (f, vs))
    (hc : ∀ E, (∀ e ∈ E, e.1 ∈ fresh) → XCall P f vs (setE s.nr s.hp E) fun r H' => ∃ hp', K' r hp' ∧ H' = setE s.nr hp' E) (hn : ∃ r hp', K' r hp') (hlt : ∀ t ∈ fresh, s.nr + t < s.hp.length)
    (hk : ∀ r hp', K' r hp' → keepOk s keep hp' ∧ s.hp.length ≤ hp'.length) (h : ∀ r hp', K' r hp' → AReg P xs { s.put d r with hp := hp' } K) : AReg P (⟨d, none, .xc g ys keep fresh, fo, ow⟩ :: xs) s K :=
  areg_xfH ha (fun E _ => tgtH_of ht) hc hn hlt hk h
theorem PCall.x {f : FuncId} {args : List AV} {v : AV} (hp : List (Option Blk)) (h : PCall P f args (.val v)) : XCall P f args hp fun r H => r = v ∧ H = hp := by
  intro w0 w regs Imm0 Vs hfr hth hheap hargs
  refine Calls.mono (h w Imm0 Vs ⟨hth.there, (hth.tab.go hfr).none⟩ hargs) ?_
  rintro e w' ⟨V, Imm, he, hfr', hI, hR⟩
  exact ⟨V, v, hp, Imm, he, ⟨rfl, rfl⟩, hfr.trans (hfr'.any _), ⟨hI.sub, fun b o hb hlt => hI.old b o hb (Nat.lt_of_lt_of_le hlt hfr.size), hI.there, hI.val⟩, hR.1, hR.2, hheap.grow hfr' hI.sub hI.old hth.there⟩
end
theorem Le.trim {s : AS} {A R : List (Option Blk)} (h : s.hp = A ++ R) : Le s ⟨s.nr, s.tm, A⟩ := by
  refine Le.gen rfl (fun t v' hv => .inr (.inl hv)) (fun k => k) (fun k k' x y _ _ e => e) (fun k x hx => ⟨x, ?_, BlkLe.refl _⟩)
  rw [h]
  by_cases hk : k < A.length
  · rw [List.getElem?_append_left hk]; exact hx
  · simp only at hx; rw [List.getElem?_eq_none (by omega)] at hx; cases hx
theorem finX1 {t : Tmp} {s : AS} {v : AV} {K : AV → List (Option Blk) → Prop} (h : RVal s (.tmp t) = some v) (hv : v ≠ .any) (hk : K v s.hp) : FinX [.tmp t] s K := ⟨[], v, ⟨h, hv⟩, hk⟩
theorem leH_refl : ∀ l : List (Option Blk), leH l l
  | [] => trivial
  | _ :: l => ⟨.inr rfl, leH_refl l⟩
theorem Le.tmp {s s' : AS} (hn : s'.nr = s.nr) (ht : leT s.tm s'.tm) (hh : s'.hp = s.hp) : Le s s' := Le.mk hn ht (by rw [hh]; exact leH_refl _)
def leO : List AV → List AV → Prop
  | [], [] => True
  | v :: vs, u :: us => (u = .any ∨ u = v ∨ ∃ i j V, v = .own i V ∧ u = .own j V) ∧ leO vs us
  | _, _ => False
theorem leO_get : ∀ {x y : List AV}, leO x y → y.length = x.length ∧ ∀ (t : Nat) (u : AV), y[t]? = some u → u = .any ∨ x[t]? = some u ∨ ∃ i j V, x[t]? = some (.own i V) ∧ u = .own j V
  | [], [], _ => ⟨rfl, fun t u h => by simp at h⟩
  | v :: vs, w :: us, h => by
    obtain ⟨h1, h2⟩ := leO_get h.2
    refine ⟨by simp [h1], fun t u hu => ?_⟩
    cases t with
    | zero =>
      simp only [List.getElem?_cons_zero, Option.some.injEq] at hu ⊢
      subst hu
      rcases h.1 with e | e | ⟨i, j, V, e1, e2⟩
      · exact .inl e
      · exact .inr (.inl e.symm)
      · exact .inr (.inr ⟨i, j, V, e1, e2⟩)
    | succ t => exact h2 t u (by simpa using hu)
  | [], _ :: _, h => h.elim
  | _ :: _, [], h => h.elim
theorem Le.mvR {s s' : AS} {A R : List (Option Blk)} {d d' m : Nat} {Y : Blk} (hs : s.hp = A ++ R) (hs' : s'.hp = A ++ (List.replicate m none).set d' (some Y)) (hd : R[d]? = some (some Y)) (ht : leO s.tm s'.tm) : Le s s' := by
  obtain ⟨hl, hg⟩ := leO_get ht
  have key : ∀ (k : Nat) (x : Blk), ((s'.hp[k]?).join = some x) → (k < A.length ∧ (s.hp[k]?).join = some x) ∨ (k = A.length + d' ∧ x = Y) := fun k x hx => by
    rw [hs'] at hx
    by_cases hk : k < A.length
    · rw [List.getElem?_append_left hk] at hx
      exact .inl ⟨hk, by rw [hs, List.getElem?_append_left hk]; exact hx⟩
    · rw [List.getElem?_append_right (by omega)] at hx
      by_cases hkd : d' = k - A.length
      · rw [← hkd, List.getElem?_set] at hx
        simp only [if_true] at hx
        split at hx
        · simp only [Option.join_some, Option.some.injEq] at hx
          exact .inr ⟨by omega, hx.symm⟩
        · cases hx
      · rw [List.getElem?_set_ne hkd, List.getElem?_replicate] at hx
        split at hx <;> simp at hx
  refine Le.gen hl hg (fun k => if k = A.length + d' then A.length + d else k) (fun k k' x y hx hy e => ?_) (fun k x hx => ?_)
  · have e1 : ∀ k, k < A.length → (if k = A.length + d' then A.length + d else k) = k := fun k h => if_neg (by omega)
    have e2 : (if A.length + d' = A.length + d' then A.length + d else A.length + d') = A.length + d := if_pos rfl
    rcases key k x hx with ⟨h1, _⟩ | ⟨h1, _⟩ <;> rcases key k' y hy with ⟨h2, _⟩ | ⟨h2, _⟩
    · rwa [e1 k h1, e1 k' h2] at e
    · subst h2; rw [e1 k h1, e2] at e; omega
    · subst h1; rw [e1 k' h2, e2] at e; omega
    · rw [h1, h2]
  · rcases key k x hx with ⟨h1, h2⟩ | ⟨rfl, rfl⟩
    · rw [if_neg (by omega)]
      exact ⟨x, h2, BlkLe.refl _⟩
    · rw [if_pos rfl]
      refine ⟨_, ?_, BlkLe.refl _⟩
      rw [hs, List.getElem?_append_right (by omega), Nat.add_sub_cancel_left, hd]
      rfl
end Go.Cab
namespace Go.Cab
def fb420 : AC := (.seq (.reg [⟨some 2, none, .mov (.const (.slice .none 0 0)), [], none⟩]) (.seq (.seq (.reg [⟨some 3, none, .mov (.tmp 0), [], none⟩, ⟨some 4, none, .ef (.isnil false) [.tmp 3], [], none⟩]) (.cond (.tmp 4) (.seq (.reg [⟨some 2, none, .mov (.const (.slice .none 0 0)), [], none⟩]) .ret) .skip)) (.seq (.reg [⟨some 5, none, .ef (.bown 29 32 (.arr 1 (List.replicate 32 (.lit (bn 0)))) 0 []) [], [], none⟩, ⟨some 6, none, .mov (.tmp 0), [], none⟩, ⟨some 7, none, .append 29 32 32 (.tmp 5) (.tmp 6), [], none⟩, ⟨some 2, none, .mov (.tmp 7), [], none⟩]) .ret)))
def fc420 : FC := ⟨1, 8, [(.tmp 2)], fb420⟩
theorem fc420_eq : compF Go.Proofs.Tryd.prog 31 = some fc420 := by kernel_rfl
def fb434 : AC := (.seq (.reg [⟨some 2, none, .mov (.const (.slice .none 0 0)), [], none⟩]) (.seq (.reg [⟨some 3, none, .mov (.tmp 0), [], none⟩, ⟨some 4, none, .bin .shr (.tmp 3) (.const (un 24)), [], none⟩, ⟨some 5, none, .cvt .u8 (.tmp 4), [], none⟩, ⟨some 6, none, .mov (.tmp 0), [], none⟩, ⟨some 7, none, .bin .shr (.tmp 6) (.const (un 16)), [], none⟩, ⟨some 8, none, .cvt .u8 (.tmp 7), [], none⟩, ⟨some 9, none, .mov (.tmp 0), [], none⟩, ⟨some 10, none, .bin .shr (.tmp 9) (.const (un 8)), [], none⟩, ⟨some 11, none, .cvt .u8 (.tmp 10), [], none⟩, ⟨some 12, none, .mov (.tmp 0), [], none⟩, ⟨some 13, none, .cvt .u8 (.tmp 12), [], none⟩, ⟨some 14, none, .bslice 1 (.lit (bn 0)) 4 [(0, (.tmp 5)), (1, (.tmp 8)), (2, (.tmp 11)), (3, (.tmp 13))], [], none⟩, ⟨some 2, none, .mov (.tmp 14), [], none⟩]) .ret))
def fc434 : FC := ⟨1, 15, [(.tmp 2)], fb434⟩
theorem fc434_eq : compF Go.Proofs.Tryd.prog 39 = some fc434 := by kernel_rfl
def fb430 : AC := (.seq (.reg [⟨some 2, none, .alloc 32 (.arr 1 (List.replicate 32 (.lit (bn 0)))), [], none⟩]) (.seq (.reg [⟨some 3, none, .alloc 32 (.arr 1 (List.replicate 32 (.lit (bn 0)))), [], none⟩]) (.seq (.reg [⟨some 4, none, .rdp (.vslice 1 32 false false) [.tmp 3], [], none⟩, ⟨some 5, none, .ef (.copy 1) [(.tmp 4), (.const (tx [116, 101, 114, 109]))], [], none⟩, ⟨some 6, none, .rdp (.vslice 1 32 true false) [.tmp 3, .tmp 5], [], none⟩, ⟨some 7, none, .mov (.tmp 0), [], none⟩, ⟨some 8, none, .callv 39 [.tmp 7], [], none⟩, ⟨some 9, none, .ef (.copy 1) [.tmp 6, .tmp 8], [], none⟩]) (.seq (.reg [⟨some 10, none, .load true 32 (.tmp 3), [], none⟩, ⟨none, none, .store 32 (.tmp 2) (.tmp 10), [], none⟩]) .ret))))
def fc430 : FC := ⟨1, 11, [(.cell 2 .true 32)], fb430⟩
theorem fc430_eq : compF Go.Proofs.Tryd.prog 33 = some fc430 := by kernel_rfl
def keyA (k : List UInt8) : AV := .arr 1 (bl k)
theorem keyA_arr (k : List UInt8) : keyA k = .arr 1 (bl k) := rfl
theorem keyA_agg (k : List UInt8) : (keyA k).isAgg = true := rfl
theorem keyA_tup (k : List UInt8) : (keyA k).isTup = false := rfl
theorem keyA_sz (k : List UInt8) : (keyA k).sz = k.length := by simp [keyA, AV.sz, bl]
def zk : List UInt8 := List.replicate 32 0
theorem zk_len : zk.length = 32 := rfl
theorem zk_eq : keyA zk = .arr 1 (List.replicate 32 (.lit (bn 0))) := by simp [keyA, bl, zk]
theorem bl_rep (n : Nat) : List.replicate n (AV.lit (bn 0)) = bl (List.replicate n 0) := by simp [bl]
theorem bin_shrju (a b : Nat) : binVal .shr (jn a) (un b) = some (jn (a / 2 ^ min b 64)) := by
  simp only [jn, un]; rw [shr_any]; rfl
theorem bin_shlju (a b : Nat) (h : a * 2 ^ min b 64 < 9223372036854775808) : binVal .shl (jn a) (un b) = some (jn (a * 2 ^ min b 64)) := by
  simp only [jn, un]; rw [shl_any, wrap_i64 (by have : (0:Int) ≤ ((a * 2 ^ min b IntKind.i64.bits : Nat) : Int) := Int.natCast_nonneg _; omega) (by show ((a * 2 ^ min b 64 : Nat) : Int) < _; omega)]
  rfl
theorem listB_tx (blk : Nat → Option Blk) (l : List UInt8) : listB blk 1 (.lit (tx l)) = some (bl l) := rfl
theorem listB_sl (blk : Nat → Option Blk) (k : Nat) (els : List AV) : listB blk k (.sl k els) = some els := by simp [listB]
theorem listB_nil (blk : Nat → Option Blk) (k : Nat) : listB blk k (.lit (.slice none 0 0)) = some [] := rfl
theorem ex_tups (vs : List AV) (i : Nat) : (match AV.tup vs with | .tup vs => vs[i]? | _ => none) = vs[i]? := rfl
theorem take_bl (n : Nat) (l : List UInt8) : (bl l).take n = bl (l.take n) := by simp [bl]
theorem drop_bl (n : Nat) (l : List UInt8) : (bl l).drop n = bl (l.drop n) := by simp [bl]
theorem copy_key {hp : List (Option Blk)} {b lo len cap n : Nat} {l : Nat × Nat} {k src : List UInt8} {y : AV} (hb : (hp[b]?).join = some (.box l n (keyA k))) (hy : listB (fun b => (hp[b]?).join) 1 y = some (bl src)) (h1 : lo + len ≤ k.length) (h2 : src.length ≤ len) :
    copyA hp 1 (.view b l lo [] 1 lo len cap) y = some (.lit (jn src.length), hp.set b (some (.box l n (keyA (k.take lo ++ src ++ k.drop (lo + src.length)))))) := by
  simp only [copyA, hy, hb, and_self, if_true, keyA, AV.nav]
  rw [if_pos ⟨trivial, by omega, by rw [bl_len]; exact h1⟩]
  have e1 : min len (bl src).length = src.length := by rw [bl_len]; omega
  rw [e1, take_bl, take_bl, drop_bl, bl_app, bl_app, List.take_of_length_le h2]
  simp only [AV.upd]
  rfl
theorem areg_cpk {P : Program} {s : AS} {K : AS → Prop} {xs : List AOp} {d : Option Tmp} {x y : Operand} {fo : List Tmp} {ow : Option Tmp} {b lo len cap n : Nat} {l : Nat × Nat} {k src k' : List UInt8} (hx : s.ev x = .view b l lo [] 1 lo len cap) (hb : s.blk b = some (.box l n (keyA k))) (hy : listB (fun b => (s.hp[b]?).join) 1 (s.ev y) = some (bl src))
    (h1 : lo + len ≤ k.length) (h2 : src.length ≤ len) (hk : k.take lo ++ src ++ k.drop (lo + src.length) = k') (h : AReg P xs { s.put d (.lit (jn src.length)) with hp := s.hp.set b (some (.box l n (keyA k'))) } K) : AReg P (⟨d, none, .ef (.copy 1) [x, y], fo, ow⟩ :: xs) s K :=
  by subst hk; exact areg_ef0 (us := [.view b l lo [] 1 lo len cap, s.ev y]) (by simp [hx]) (copy_key (cap := cap) hb hy h1 h2) h
theorem listB_key {blk : Nat → Option Blk} {b lo len cap n : Nat} {l : Nat × Nat} {k : List UInt8} (hb : blk b = some (.box l n (keyA k))) (h1 : lo + len ≤ k.length) : listB blk 1 (.view b l lo [] 1 lo len cap) = some (bl ((k.drop lo).take len)) := by
  unfold listB keyA at *
  simp only [hb, Blk.loc, Blk.cont, AV.nav, if_true]
  rw [if_pos ⟨trivial, by omega, by rw [bl_len]; exact h1⟩, drop_bl, take_bl]
def four (n : Nat) : List UInt8 := [UInt8.ofNat (n / 16777216), UInt8.ofNat (n / 65536), UInt8.ofNat (n / 256), UInt8.ofNat n]
theorem four_len (n : Nat) : (four n).length = 4 := rfl
def nameK (n : Nat) : List UInt8 := [116, 101, 114, 109] ++ four n ++ List.replicate 24 0
theorem nameK_len (n : Nat) : (nameK n).length = 32 := by simp [nameK, four]
theorem bn_of (x : Nat) : AV.lit (bn (x % 256)) = .lit (bn (UInt8.ofNat x).toNat) := by simp
attribute [push_cast] runPre AOp.ex AOp.ex0 ex_mov ex_bin binA_lit ex_cvt ex_iaddrA ex_iaddrS ex_faddr ex_load ldA ex_ext ex_add64 add64A_un ex_pick ex_beq ex_un ex_len lenA_sl lenA_nil lenA_str lenA_own lenRow_row elA_own elA_sl elRow_row ex_nilc ex_build ex_bslice ex_fieldv AOp.ro AS.ev AS.put AS.fieldAddr idxA_ptr idxA_cptr AS.peek AS.poke AS.blk AS.setBlk AV.nav AV.upd Blk.loc Blk.cont Blk.n Blk.may Blk.upd AV.isAgg AV.isTup AV.sz unVal ownOk fillAV AV.sub cvt_64j cvt_64b cvt_64w cvt_8u cvt_8w bin_add64 bin_mul64 bin_sub64 bin_and51 bin_and32 bin_and1 bin_and8_1 bin_or64 bin_xor64 bin_or8 bin_shl64 bin_shl64j bin_shr64 bin_shr64j bin_shl8j bin_shr8j bin_quo64 bin_rem64 bin_quo32 bin_rem32 bin_addj bin_subj bin_quoj bin_remj bin_eqlj bin_neqj bin_lssj bin_leqj bin_gtrj bin_geqj bin_eql64 bin_lss64 bin_gtr64 bin_eql8 bin_rem8 lenA_tx ex_prim primA_some AS.lits prim_ix prim_sub prim_sub2 prim_min prim_max prim_minw prim_ib ex_b2s textOf_eq textA_sl textA_nil lend_own lendRow_row lend_sl lend_lit bin_adds bin_eqls bin_neqs bin_geq8 bin_leq8 bin_lss8 bin_gtr8 bin_neq8 bin_sub8 bin_quo8 bin_add8 bin_mulj cvt_j8 cvt_8j AOp.mineB AV.place ex_rdp ex_rd rdB bnds efF bin_shrju bin_shlju listB_tx listB_sl listB_nil ex_tups bound_jn AV.isText keyA_arr bl_len zk_len nameK_len
set_option maxHeartbeats 1000000 in
theorem four_call (n : Nat) (hn : n < 9223372036854775808) : PCall Go.Proofs.Tryd.prog 39 [.lit (jn n)] (.val (.sl 1 (bl (four n)))) := by
  have h434 := fc434_eq
  refine PCall.of h434 rfl ?_; show AC.wp _ fb434 (AS.init [.lit (jn n)] 1 15) (fun x s => match x with | .exit _ => False | _ => Fin [(.tmp 2)] s _); unfold fb434 AS.init
  refine wp_sr (by simp [push_cast]; exact rfl) (wp_sr (by simp [push_cast]; exact rfl) (wp_ret' ?_))
  refine fin_tmp ?_ (by simp)
  simp [RVal, AS.ev, AS.coe, bl, four]
set_option maxHeartbeats 2000000 in
theorem name_call (n : Nat) (hn : n < 9223372036854775808) : PCall Go.Proofs.Tryd.prog 33 [.lit (jn n)] (.val (keyA (nameK n))) := by
  have h430 := fc430_eq
  have c1 := four_call n hn
  refine PCall.of h430 rfl ?_; show AC.wp _ fb430 (AS.init [.lit (jn n)] 1 11) (fun x s => match x with | .exit _ => False | _ => Fin [(.cell 2 .true 32)] s _); unfold fb430 AS.init
  refine wp_sg (areg_al' zk_eq.symm fun l => areg_nil ?_)
  refine wp_sg (areg_al' zk_eq.symm fun l' => areg_nil ?_)
  refine wp_sg (areg_run 1 (by simp [push_cast]; exact rfl) ?_)
  refine areg_cpk (src := [116, 101, 114, 109]) (k' := [116, 101, 114, 109] ++ List.replicate 28 0) rfl rfl rfl (by decide) (by decide) rfl ?_
  refine areg_run 2 (by simp [push_cast]; exact rfl) ?_
  refine areg_cv (by simp [AS.ev, AS.coe, AS.put] <;> exact rfl) c1 ?_
  refine areg_cpk (src := four n) (k' := nameK n) rfl rfl (listB_sl _ _ _) (by decide) (by simp [four]) (by simp [four, nameK]) (areg_nil ?_)
  refine wp_sr (by simp [push_cast]; exact rfl) (wp_ret' ?_)
  exact fin_cell (by simp [RVal, AS.coe, tt, push_cast] <;> exact rfl) (by simp [keyA])
theorem PCall.nilArg {P : Program} {f : FuncId} {esz : Nat} {us : List AV} {r : Res} (h : PCall P f (.sl esz [] :: us) r) : PCall P f (.lit (.slice none 0 0) :: us) r := fun w St Vs hth ha => by
  refine h w St Vs hth ?_
  cases Vs with
  | nil => exact ha.elim
  | cons V Vs =>
    obtain ⟨h1, h2⟩ := ha
    obtain ⟨rfl, _⟩ := h1.lit
    exact ⟨.inr ⟨_, .slnil esz, rfl⟩, h2⟩
set_option maxHeartbeats 1000000 in
theorem clone_row (els : List AV) (hn : els.length < 100000) : PCall Go.Proofs.Tryd.prog 31 [.sl 32 els] (.row 29 32 els) := by
  have h420 := fc420_eq
  refine PCall.of h420 rfl ?_; show AC.wp _ fb420 (AS.init [.sl 32 els] 1 8) (fun x s => match x with | .exit _ => False | _ => Fin [(.tmp 2)] s _); unfold fb420 AS.init
  refine wp_sr (by simp [push_cast]; exact rfl) ?_
  refine wp_seq' (wp_seq' (wp_rg ?_))
  refine areg_run 1 (by simp [push_cast]; exact rfl) ?_
  refine areg_nils rfl fun b hb => areg_nil ?_
  cases b with
  | true =>
    obtain rfl := hb rfl
    refine wp_cond_t rfl (wp_sr (by simp [push_cast]; exact rfl) (wp_ret' ?_))
    exact ⟨2, rfl, .inl ⟨rfl, rfl⟩⟩
  | false =>
    refine wp_cond_f rfl (wp_skip' (wp_sg ?_))
    refine areg_bown (vs := []) (els := []) rfl rfl (by intro t ht; cases ht) fun V => ?_
    refine areg_run 1 (by simp [push_cast]; exact rfl) ?_
    refine areg_ap (ys := els) rfl rfl (by simp [AS.ev, AS.coe]) (by simp [maxLen]; omega) (by simp; omega) fun V' => areg_end (by simp [push_cast]; exact rfl) (wp_ret' ?_)
    exact fin_row rfl rfl
theorem clone_call (els : List AV) (hn : els.length < 100000) : PCall Go.Proofs.Tryd.prog 31 [.sl 32 els] (.val (.sl 32 els)) := (clone_row els hn).sealed
end Go.Cab
namespace Go.Cab
def fb429 : AC := (.seq (.reg [⟨some 1, none, .box 3 (.tmp 0), [], none⟩, ⟨some 2, none, .mov (.const (tx [])), [], none⟩]) (.seq (.reg [⟨some 6, none, .faddr 0 0 (.tmp 1), [], none⟩, ⟨some 7, none, .load false 1 (.tmp 6), [], (.some 1)⟩, ⟨some 8, none, .cvt .u8 (.tmp 7), [], none⟩, ⟨some 10, none, .faddr 1 1 (.tmp 1), [], none⟩, ⟨some 11, none, .load false 1 (.tmp 10), [], (.some 1)⟩, ⟨some 12, none, .len true (.tmp 11), [], (.some 1000000)⟩, ⟨some 13, none, .callv 39 [.tmp 12], [], (.some 1000000)⟩, ⟨some 9, none, .ef (.bown 5 1 (.lit (bn 0)) 1 [0]) [.tmp 8], [1, 1000000], .none⟩, ⟨some 14, none, .append 5 1 1 (.tmp 9) (.tmp 13), [], none⟩, ⟨some 3, none, .mov (.tmp 14), [], none⟩]) (.seq (.reg [⟨some 15, none, .mov (.tmp 3), [], none⟩, ⟨some 16, none, .faddr 1 1 (.tmp 1), [], none⟩, ⟨some 17, none, .load false 1 (.tmp 16), [], none⟩, ⟨some 18, none, .ef (.app 5 1 1 true) [.tmp 15, .tmp 17], [], none⟩, ⟨some 3, none, .mov (.tmp 18), [], none⟩]) (.seq (.seq (.reg [⟨some 19, none, .faddr 2 2 (.tmp 1), [], none⟩, ⟨some 20, none, .load false 1 (.tmp 19), [], none⟩, ⟨some 21, none, .len false (.tmp 20), [], none⟩, ⟨some 22, none, .mov (.const (jn 0)), [], none⟩]) (.block 0 (.loop (.seq (.reg [⟨some 23, none, .bin .lss (.tmp 22) (.tmp 21), [], none⟩]) (.seq (.cond (.tmp 23) .skip (.exit 0)) (.seq (.block 1 (.seq (.reg [⟨some 24, none, .iaddrS 32 (.tmp 20) (.tmp 22), [], none⟩, ⟨some 25, none, .load true 32 (.tmp 24), [], none⟩, ⟨some 5, none, .alloc 32 (.arr 1 (List.replicate 32 (.lit (bn 0)))), [], none⟩, ⟨none, none, .store 32 (.tmp 5) (.tmp 25), [], none⟩]) (.reg [⟨some 26, none, .mov (.tmp 3), [], none⟩, ⟨some 27, none, .rdp (.vslice 1 32 false false) [.tmp 5], [], none⟩, ⟨some 28, none, .ef (.app 5 1 1 false) [.tmp 26, .tmp 27], [], none⟩, ⟨some 3, none, .mov (.tmp 28), [], none⟩]))) (.reg [⟨some 29, none, .bin .add (.tmp 22) (.const (jn 1)), [], none⟩, ⟨some 22, none, .mov (.tmp 29), [], none⟩]))))))) (.seq (.reg [⟨some 30, none, .mov (.tmp 3), [], none⟩, ⟨some 31, none, .b2s (.tmp 30), [], none⟩, ⟨some 2, none, .mov (.tmp 31), [], none⟩]) .ret)))))
def fc429 : FC := ⟨1, 32, [(.tmp 2)], fb429⟩
theorem fc429_eq : compF Go.Proofs.Tryd.prog 32 = some fc429 := by kernel_rfl
structure Term where
  kind : Nat
  text : List UInt8
  keys : List (List UInt8)
  deriving DecidableEq
def klA (l : List (List UInt8)) : List AV := l.map keyA
theorem klA_len (l : List (List UInt8)) : (klA l).length = l.length := by simp [klA]
theorem klA_get (l : List (List UInt8)) (i : Nat) : (klA l)[i]? = (l[i]?).map keyA := by simp [klA]
def termA (x : Term) : AV := .st [1, 1, 1] [.lit (jn x.kind), .lit (tx x.text), .sl 32 (klA x.keys)]
def shapeT (x : Term) : List UInt8 := [UInt8.ofNat x.kind] ++ four x.text.length ++ x.text ++ x.keys.flatten
theorem flat_len : ∀ (l : List (List UInt8)), (∀ k ∈ l, k.length = 32) → l.flatten.length = 32 * l.length
  | [], _ => rfl
  | a :: l, h => by
    have := flat_len l fun k hk => h k (by simp [hk])
    simp [this, h a (by simp)]
    omega
theorem bl_oneA (x : Nat) (h : x < 256) : AV.lit (bn x) = .lit (bn (UInt8.ofNat x).toNat) := by simp [Nat.mod_eq_of_lt h]
set_option maxHeartbeats 8000000 in
theorem shape_call (x : Term) (hk : x.kind < 256) (ht : x.text.length < 100000) (hn : x.keys.length < 100000) (h32 : ∀ k ∈ x.keys, k.length = 32) :
    PCall Go.Proofs.Tryd.prog 32 [termA x] (.val (.lit (tx (shapeT x)))) := by
  have h429 := fc429_eq
  obtain ⟨kd, text, keys⟩ := x
  simp only at hk ht hn h32
  have c1 := four_call text.length (by omega)
  unfold termA
  simp only
  refine PCall.of h429 rfl ?_; show AC.wp _ fb429 (AS.init [.st [1, 1, 1] [.lit (jn kd), .lit (tx text), .sl 32 (klA keys)]] 1 32) (fun x s => match x with | .exit _ => False | _ => Fin [(.tmp 2)] s _); unfold fb429 AS.init
  refine wp_sg (areg_bx rfl rfl fun l => areg_end (by simp [push_cast]; exact rfl) ?_)
  have hk2 : kd % 256 = kd := Nat.mod_eq_of_lt hk
  refine wp_sg ?_
  refine areg_run 6 (by simp [push_cast, hk2]; exact rfl) ?_
  refine areg_cv (by simp [AS.ev, AS.coe, AS.put] <;> exact rfl) c1 ?_ (by intro p hp b V; simp at hp; subst hp; simp [AS.ev, AS.put])
  refine areg_bown (vs := [.lit (bn kd)]) (els := bl [UInt8.ofNat kd]) (by simp [AS.ev, AS.put]) (by rw [bl_oneA kd hk]; simp [fillV, AV.sub, AV.isTup, AV.sz, AV.upd, bl]; rfl) (by
    intro t ht b hb
    simp at ht
    rcases ht with rfl | rfl <;> simp [AS.ev, AS.put, AV.place] at hb
    subst hb
    exact ⟨by simp [AS.slot, AS.put], by simp⟩) fun V => ?_
  refine areg_ap rfl rfl (by simp [AS.ev, AS.put, AS.coe]; exact rfl) (by simp [maxLen, bl, four]) (by simp [bl, four]) fun V' => ?_
  refine areg_end (by simp [push_cast]; exact rfl) ?_
  refine wp_sg ?_
  refine areg_run 3 (by simp [push_cast]; exact rfl) ?_
  refine areg_app (b := 14) (V := V') rfl rfl (listB_tx _ _) rfl (by simp [maxLen, bl, four]; omega) (by simp [bl, four]; omega) (by intro t ht; cases ht) fun V2 => ?_
  refine areg_end (by simp [push_cast]; exact rfl) ?_
  rw [bl_app, bl_app]
  have hsh : shapeT ⟨kd, text, keys⟩ = ([UInt8.ofNat kd] ++ (four text.length ++ text)) ++ (keys.take keys.length).flatten := by simp [shapeT]
  rw [hsh]
  have hhd : ([UInt8.ofNat kd] ++ (four text.length ++ text)).length < 200000 := by simp [four]; omega
  clear hsh
  generalize [UInt8.ofNat kd] ++ (four text.length ++ text) = hd at *
  have hfl : ∀ i, i ≤ keys.length → (keys.take i).flatten.length = 32 * i := fun i hi => by
    rw [flat_len _ fun k hk => h32 k (List.mem_of_mem_take hk), List.length_take, Nat.min_eq_left hi]
  refine wp_seq' (wp_seq' (wp_r (by simp [push_cast, klA_len]; exact rfl) (wp_block' (wp_loop_v keys.length (fun i V => ⟨0, [.st [1, 1, 1] [.lit (jn kd), .lit (tx text), .sl 32 (klA keys)], .ptr 1 l 0 [], .lit (tx []), .own 28 V] ++ List.replicate 16 .any ++ [.sl 32 (klA keys), .lit (jn keys.length), .lit (jn i)] ++ List.replicate 9 .any, [none, some (.box l 3 (.st [1, 1, 1] [.lit (jn kd), .lit (tx text), .sl 32 (klA keys)]))] ++ List.replicate 26 none ++ [some (.row 5 V 1 (bl (hd ++ (keys.take i).flatten)) 0)] ++ List.replicate 3 none⟩) ?_ ?_ ?_))))
  · refine ⟨V2, Le.mvR (A := [none, some (.box l 3 (.st [1, 1, 1] [.lit (jn kd), .lit (tx text), .sl 32 (klA keys)]))]) (d := 16) (d' := 26) (m := 30) (Y := .row 5 V2 1 (bl hd) 0) rfl (by simp) rfl (by simp [leO])⟩
  · intro i V hi
    have q1 : i + 1 < 9223372036854775808 := by omega
    obtain ⟨k, hk1⟩ : ∃ k, keys[i]? = some k := ⟨_, List.getElem?_eq_getElem hi⟩
    have hk3 : k.length = 32 := h32 k (List.mem_of_getElem? hk1)
    have g1 : (klA keys)[i]? = some (keyA k) := by rw [klA_get, hk1]; rfl
    have g2 : ∀ h, (klA keys)[i]'h = keyA k := fun h => by rw [List.getElem?_eq_getElem h] at g1; exact Option.some.inj g1
    have hfi := hfl i (by omega)
    refine wp_sr (by simp [push_cast, hi]; exact rfl) (wp_seq' (wp_cond_t (by simp [AS.ev]) (wp_skip' ?_)))
    refine wp_seq' (wp_block' (wp_seq' (wp_rg ?_)))
    refine areg_run 2 (by simp [push_cast, g1, g2]; exact rfl) ?_
    refine areg_al' zk_eq.symm fun l' => areg_end (by simp [push_cast, hk3]; exact rfl) ?_
    refine wp_rg ?_
    refine areg_run 2 (by simp [push_cast]; exact rfl) ?_
    refine areg_app (b := 28) (V := V) (ys := bl k) rfl rfl ?_ rfl (by simp only [bl_len, List.length_append, hfi, hk3, maxLen]; omega) (by simp only [bl_len, List.length_append, hfi, hk3]; omega) (by intro t ht; cases ht) fun V3 => ?_
    · have := listB_key (blk := fun b => ([none, some (Blk.box l 3 (.st [1, 1, 1] [.lit (jn kd), .lit (tx text), .sl 32 (klA keys)])), none, none, none, some (.box l' 32 (keyA k))][b]?).join) (b := 5) (lo := 0) (len := 32) (cap := 32) rfl (by omega)
      rw [List.drop_zero, List.take_of_length_le (by omega)] at this
      exact this
    refine areg_end (by simp [push_cast]; exact rfl) ?_
    refine wp_r (by simp [push_cast, q1]; exact rfl) ?_
    refine Exists.intro V3 (Le.mk rfl (by simp [leT]) ?_)
    have e : bl (hd ++ (keys.take i).flatten) ++ bl k = bl (hd ++ (keys.take (i + 1)).flatten) := by
      have e0 : (keys.take (i + 1)).flatten = (keys.take i).flatten ++ k := by rw [List.take_add_one, hk1]; simp
      rw [bl_app, List.append_assoc, e0]
    simp [leH, ← e]
  · intro V
    refine wp_sr (by simp [push_cast]; exact rfl) (wp_seq' (wp_cond_f (by simp [AS.ev]) (wp_exit' (if_hit rfl ?_))))
    refine wp_sr (by simp [push_cast]; exact rfl) (wp_ret' ?_)
    exact fin_tmp (by simp [RVal, AS.ev, AS.coe]) (by simp)
end Go.Cab
namespace Go.Cab
open Classical
def HpLe (hp hp' : List (Option Blk)) : Prop := ∀ (w0 : World) (regs : List (Nat × Nat × Nat)) (Imm : Nat → Nat → Prop) (w : World), HeapOk w0 regs Imm hp w → HeapOk w0 regs Imm hp' w
def RelLe (r r' : AV) : Prop := ∀ (Imm : Nat → Nat → Prop) (w : World) (V : Value), Rel Imm w r V → Rel Imm w r' V
theorem HpLe.refl (hp : List (Option Blk)) : HpLe hp hp := fun _ _ _ _ h => h
theorem HpLe.trans {a b c : List (Option Blk)} (h : HpLe a b) (k : HpLe b c) : HpLe a c := fun w0 regs Imm w x => k w0 regs Imm w (h w0 regs Imm w x)
theorem RelLe.refl (r : AV) : RelLe r r := fun _ _ _ h => h
theorem RelLe.ptr (b b' : Nat) (l : Nat × Nat) (off : Nat) (p : List Nat) : RelLe (.ptr b l off p) (.ptr b' l off p) := fun Imm w V h => by
  rcases h with h | ⟨cs, h, e⟩
  · cases h
  · cases h; exact .inr ⟨_, .ptr b' l off p, e⟩
theorem HpLe.gen {hp hp' : List (Option Blk)} (m : Nat → Nat) (hinj : ∀ k k' x y, (hp'[k]?).join = some x → (hp'[k']?).join = some y → m k = m k' → k = k')
    (hh : ∀ k x', (hp'[k]?).join = some x' → ∃ x, (hp[m k]?).join = some x ∧ BlkLe x x') : HpLe hp hp' := fun w0 regs Imm w h3 => by
  refine ⟨fun k x hx => ?_, fun k k' x y hne hx hy b o hf => ?_⟩
  · obtain ⟨y, hy, hle⟩ := hh k x hx
    obtain ⟨g1, g2⟩ := h3.ok _ y hy
    obtain ⟨g3, g4⟩ := hle Imm w g1
    exact ⟨g3, fun b o hf => g2 b o (g4 b o hf)⟩
  · obtain ⟨u, hu, hle⟩ := hh k x hx
    obtain ⟨v, hv, hle'⟩ := hh k' y hy
    obtain ⟨g1, _⟩ := h3.ok _ u hu
    obtain ⟨g2, _⟩ := h3.ok _ v hv
    refine fun hf' => h3.apart (m k) (m k') u v (fun he => hne (hinj k k' x y hx hy he)) hu hv b o ((hle Imm w g1).2 b o hf) ((hle' Imm w g2).2 b o hf')
theorem HpLe.trim (A R : List (Option Blk)) : HpLe (A ++ R) A := by
  refine HpLe.gen (fun k => k) (fun k k' x y _ _ e => e) (fun k x hx => ⟨x, ?_, BlkLe.refl _⟩)
  by_cases hk : k < A.length
  · rw [List.getElem?_append_left hk]; exact hx
  · rw [List.getElem?_eq_none (by omega)] at hx; cases hx
theorem HpLe.swap {hp H : List (Option Blk)} {b j d : Nat} {X X' Y : Blk} (hd : H.length ≤ d) (hbj : b ≠ j) (hbl : b < H.length) (hb : hp[b]? = some (some X)) (hd' : hp[d]? = some (some Y))
    (hk : ∀ k, k ≠ b → k ≠ j → k < H.length → hp[k]? = H[k]?) (hX : BlkLe X X') : HpLe hp ((H.set b (some X')).set j (some Y)) := by
  have hlt : ∀ (k : Nat) (x : Blk), ((((H.set b (some X')).set j (some Y)))[k]?).join = some x → k < H.length := fun k x hx => by
    by_cases h : k < H.length
    · exact h
    · rw [List.getElem?_eq_none (by simp; omega)] at hx; cases hx
  refine HpLe.gen (fun k => if k = j then d else k) (fun k k' x y hx hy e => ?_) (fun k x hx => ?_)
  · have h1 := hlt k x hx
    have h2 := hlt k' y hy
    split at e <;> split at e <;> omega
  · have h1 := hlt k x hx
    by_cases hkj : k = j
    · subst hkj
      rw [if_pos rfl]
      simp only [List.getElem?_set, List.length_set, h1, if_true, Option.join_some, Option.some.injEq] at hx
      subst hx
      exact ⟨_, by rw [hd']; rfl, BlkLe.refl _⟩
    · rw [if_neg hkj]
      rw [List.getElem?_set_ne (Ne.symm hkj)] at hx
      by_cases hkb : k = b
      · subst hkb
        simp only [List.getElem?_set, hbl, if_true, Option.join_some, Option.some.injEq] at hx
        subst hx
        exact ⟨_, by rw [hb]; rfl, hX⟩
      · rw [List.getElem?_set_ne (Ne.symm hkb)] at hx
        exact ⟨x, by rw [hk k hkb hkj h1]; exact hx, BlkLe.refl _⟩
theorem XCall.le {P : Program} {f : FuncId} {args : List AV} {hp : List (Option Blk)} {K : AV → List (Option Blk) → Prop} (h : XCall P f args hp fun r H => ∃ r' A, RelLe r r' ∧ r' ≠ .any ∧ HpLe H A ∧ K r' A) : XCall P f args hp K := by
  intro w0 w regs Imm0 Vs a1 a2 a3 a4
  refine Calls.mono (h w0 w regs Imm0 Vs a1 a2 a3 a4) ?_
  rintro e w' ⟨V, r, hp', Imm', he, ⟨r', A, h1, h2, h3, h4⟩, h5, h6, h7, h8, h9⟩
  exact ⟨V, r', A, Imm', he, h4, h5, h6, h1 _ _ _ h7, h2, h3 _ _ _ _ h9⟩
theorem XCall.mono {P : Program} {f : FuncId} {args : List AV} {hp : List (Option Blk)} {K K' : AV → List (Option Blk) → Prop} (h : XCall P f args hp K) (hk : ∀ r H, K r H → K' r H) : XCall P f args hp K' := by
  intro w0 w regs Imm0 Vs a1 a2 a3 a4
  refine Calls.mono (h w0 w regs Imm0 Vs a1 a2 a3 a4) ?_
  rintro e w' ⟨V, r, hp', Imm', he, h1, h2⟩
  exact ⟨V, r, hp', Imm', he, hk _ _ h1, h2⟩
def ArgLe : List AV → List AV → Prop
  | [], [] => True
  | a :: l, b :: m => RelLe a b ∧ ArgLe l m
  | _, _ => False
theorem ArgLe.ok {Imm : Nat → Nat → Prop} {w : World} : ∀ {l m : List AV} {Vs : List Value}, ArgLe l m → ArgsOk Imm w l Vs → ArgsOk Imm w m Vs
  | [], [], Vs, _, h => h
  | a :: l, b :: m, [], _, h => h.elim
  | a :: l, b :: m, V :: Vs, h, k => ⟨h.1 _ _ _ k.1, h.2.ok k.2⟩
theorem RelLe.nil (esz : Nat) : RelLe (.lit (.slice none 0 0)) (.sl esz []) := fun Imm w V h => by
  obtain ⟨rfl, _⟩ := h.lit
  exact .inr ⟨_, .slnil esz, rfl⟩
theorem XCall.args {P : Program} {f : FuncId} {l m : List AV} {hp : List (Option Blk)} {K : AV → List (Option Blk) → Prop} (hl : ArgLe l m) (h : XCall P f m hp K) : XCall P f l hp K := fun w0 w regs Imm0 Vs a1 a2 a3 a4 => h w0 w regs Imm0 Vs a1 a2 a3 (hl.ok a4)
theorem PCall.args {P : Program} {f : FuncId} {l m : List AV} {r : Res} (hl : ArgLe l m) (h : PCall P f m r) : PCall P f l r := fun w St Vs a1 a2 => h w St Vs a1 (hl.ok a2)
def esF : List Term → Nat → List (Value × Value × Nat)
  | [], _ => []
  | x :: xs, i => (tx (shapeT x), jn i, i) :: esF xs (i + 1)
def esOf (ts : List Term) : List (Value × Value × Nat) := esF ts 0
def tbk (l : Nat × Nat) (j m r : Nat) (V : Value) : Blk := .box l 2 (.st [1, 1] [.own j V, .own m (.map (some r))])
def trk (V : Value) (ts : List Term) : Blk := .row 100 V 3 (ts.map termA) 0
def tmk (r : Nat) (ts : List Term) : Blk := .map r (esOf ts) ts.length
structure Tb where
  b : Nat
  j : Nat
  m : Nat
  l : Nat × Nat
  r : Nat
structure TbOk (H : List (Option Blk)) (t : Tb) (V : Value) (ts : List Term) : Prop where
  bj : t.b ≠ t.j
  bm : t.b ≠ t.m
  jm : t.j ≠ t.m
  hb : H[t.b]? = some (some (tbk t.l t.j t.m t.r V))
  hj : H[t.j]? = some (some (trk V ts))
  hm : H[t.m]? = some (some (tmk t.r ts))
def tbOf (H : List (Option Blk)) (t : Tb) (V : Value) (ts : List Term) : List (Option Blk) := ((H.set t.b (some (tbk t.l t.j t.m t.r V))).set t.j (some (trk V ts))).set t.m (some (tmk t.r ts))
section
variable {H : List (Option Blk)} {t : Tb} {V : Value} {ts : List Term}
theorem TbOk.lb (h : TbOk H t V ts) : t.b < H.length := (List.getElem?_eq_some_iff.1 h.hb).1
theorem TbOk.lj (h : TbOk H t V ts) : t.j < H.length := (List.getElem?_eq_some_iff.1 h.hj).1
theorem TbOk.lm (h : TbOk H t V ts) : t.m < H.length := (List.getElem?_eq_some_iff.1 h.hm).1
theorem tbOf_len (H : List (Option Blk)) (t : Tb) (V : Value) (ts : List Term) : (tbOf H t V ts).length = H.length := by simp [tbOf]
theorem TbOk.of (h : TbOk H t V ts) (V' : Value) (ts' : List Term) : TbOk (tbOf H t V' ts') t V' ts' := by
  have h1 := h.lb; have h2 := h.lj; have h3 := h.lm; have h4 := h.bj; have h5 := h.bm; have h6 := h.jm
  exact ⟨h4, h5, h6, by simp [tbOf, h1, h4.symm, h5.symm], by simp [tbOf, h2, h6.symm], by simp [tbOf, h3]⟩
theorem TbOk.of_of (h : TbOk H t V ts) (V' V2 : Value) (ts' ts2 : List Term) : tbOf (tbOf H t V' ts') t V2 ts2 = tbOf H t V2 ts2 := by
  unfold tbOf
  rw [List.set_comm _ _ h.bm.symm, List.set_comm _ _ h.bj.symm, List.set_set, List.set_comm _ _ h.jm.symm, List.set_set, List.set_set]
theorem set_same {α : Type} {l : List α} {i : Nat} {x : α} (h : l[i]? = some x) : l.set i x = l := by
  apply List.ext_getElem?
  intro k
  by_cases hk : i = k
  · subst hk; rw [List.getElem?_set_self (List.getElem?_eq_some_iff.1 h).1, h]
  · rw [List.getElem?_set_ne hk]
theorem TbOk.self (h : TbOk H t V ts) : tbOf H t V ts = H := by
  unfold tbOf
  rw [set_same h.hb, set_same h.hj, set_same h.hm]
theorem TbOk.app (h : TbOk H t V ts) (R : List (Option Blk)) : TbOk (H ++ R) t V ts :=
  ⟨h.bj, h.bm, h.jm, by rw [List.getElem?_append_left h.lb]; exact h.hb, by rw [List.getElem?_append_left h.lj]; exact h.hj, by rw [List.getElem?_append_left h.lm]; exact h.hm⟩
theorem TbOk.of_app (h : TbOk H t V ts) (R : List (Option Blk)) (V' : Value) (ts' : List Term) : tbOf (H ++ R) t V' ts' = tbOf H t V' ts' ++ R := by
  unfold tbOf
  rw [List.set_append_left _ _ h.lb, List.set_append_left _ _ (by simpa using h.lj), List.set_append_left _ _ (by simpa using h.lm)]
end
theorem bin_oraj (a b : Nat) (ha : a < 9223372036854775808) (hb : b < 9223372036854775808) : binVal .or (jn a) (jn b) = some (jn (a ||| b)) := by
  simp only [binVal, jn, ne_eq, not_true_eq_false, if_false]
  have h : a ||| b < 2 ^ 63 := Nat.or_lt_two_pow (by omega) (by omega)
  rw [show IntKind.i64.bits = 64 from rfl, BitVec.toNat_or, bv64, bv64, Nat.mod_eq_of_lt (by omega), Nat.mod_eq_of_lt (by omega), wrap_i64 (by omega) (by omega)]
theorem or_add (a b i : Nat) (h : b < 2 ^ i) : a * 2 ^ i ||| b = a * 2 ^ i + b := by
  rw [Nat.mul_comm, Nat.two_pow_add_eq_or_of_lt h]
def be32 (k : List UInt8) : Nat := (k.getD 4 0).toNat * 16777216 + (k.getD 5 0).toNat * 65536 + (k.getD 6 0).toNat * 256 + (k.getD 7 0).toNat
theorem be32_lt (k : List UInt8) : be32 k < 4294967296 := by
  have h1 := (k.getD 4 0).toNat_lt; have h2 := (k.getD 5 0).toNat_lt; have h3 := (k.getD 6 0).toNat_lt; have h4 := (k.getD 7 0).toNat_lt
  unfold be32; omega
def numV (n : Nat) (k : List UInt8) : Value := if n ≤ be32 k ∨ nameK (be32 k) ≠ k then .int .i64 (-1) else jn (be32 k)
theorem R_bl {Imm : Nat → Nat → Prop} {w : World} : ∀ {k : List UInt8} {cs : List Value}, R Imm w (.arr 1 (bl k)) cs → cs = k.map fun b => bn b.toNat
  | [], cs, h => by cases h; rfl
  | x :: xs, cs, h => by
    cases h with
    | arr1 _ _ _ c d hx _ _ hd =>
      cases hx
      rw [R_bl hd]
      rfl
end Go.Cab
namespace Go.Cab
open Classical
def fb431 : AC := (.seq (.reg [⟨some 3, none, .box 32 (.tmp 1), [], none⟩, ⟨some 4, none, .mov (.const (jn 0)), [], none⟩]) (.seq (.reg [⟨some 6, none, .iaddrA 32 1 (.tmp 3) (.const (jn 4)), [], none⟩, ⟨some 7, none, .load false 1 (.tmp 6), [], none⟩, ⟨some 8, none, .cvt .i64 (.tmp 7), [], none⟩, ⟨some 9, none, .bin .shl (.tmp 8) (.const (un 24)), [], none⟩, ⟨some 10, none, .iaddrA 32 1 (.tmp 3) (.const (jn 5)), [], none⟩, ⟨some 11, none, .load false 1 (.tmp 10), [], none⟩, ⟨some 12, none, .cvt .i64 (.tmp 11), [], none⟩, ⟨some 13, none, .bin .shl (.tmp 12) (.const (un 16)), [], none⟩, ⟨some 14, none, .bin .or (.tmp 9) (.tmp 13), [], none⟩, ⟨some 15, none, .iaddrA 32 1 (.tmp 3) (.const (jn 6)), [], none⟩, ⟨some 16, none, .load false 1 (.tmp 15), [], none⟩, ⟨some 17, none, .cvt .i64 (.tmp 16), [], none⟩, ⟨some 18, none, .bin .shl (.tmp 17) (.const (un 8)), [], none⟩, ⟨some 19, none, .bin .or (.tmp 14) (.tmp 18), [], none⟩, ⟨some 20, none, .iaddrA 32 1 (.tmp 3) (.const (jn 7)), [], none⟩, ⟨some 21, none, .load false 1 (.tmp 20), [], none⟩, ⟨some 22, none, .cvt .i64 (.tmp 21), [], none⟩, ⟨some 23, none, .bin .or (.tmp 19) (.tmp 22), [], none⟩, ⟨some 5, none, .mov (.tmp 23), [], none⟩]) (.seq (.seq (.reg [⟨some 24, none, .mov (.tmp 5), [], none⟩, ⟨some 25, none, .mov (.tmp 0), [], none⟩, ⟨some 26, none, .nilc (.tmp 25), [], none⟩, ⟨some 27, none, .faddr 0 0 (.tmp 26), [], none⟩, ⟨some 28, none, .load false 1 (.tmp 27), [], none⟩, ⟨some 29, none, .len false (.tmp 28), [], none⟩, ⟨some 30, none, .bin .geq (.tmp 24) (.tmp 29), [], none⟩, ⟨some 31, none, .mov (.tmp 30), [], none⟩, ⟨some 32, some (31, false), .mov (.tmp 5), [], none⟩, ⟨some 33, some (31, false), .callv 33 [.tmp 32], [], none⟩, ⟨some 34, some (31, false), .load true 32 (.tmp 3), [], none⟩, ⟨some 35, some (31, false), .eqv 29 true (.tmp 33) (.tmp 34), [], none⟩, ⟨some 36, none, .pick (.tmp 31) (.const (.bool true)) (.tmp 35), [], none⟩]) (.cond (.tmp 36) (.seq (.reg [⟨some 4, none, .mov (.const (.int .i64 (-1))), [], none⟩]) .ret) .skip)) (.seq (.reg [⟨some 37, none, .mov (.tmp 5), [], none⟩, ⟨some 4, none, .mov (.tmp 37), [], none⟩]) .ret))))
def fc431 : FC := ⟨2, 38, [(.tmp 4)], fb431⟩
theorem fc431_eq : compF Go.Proofs.Tryd.prog 36 = some fc431 := by kernel_rfl
theorem mapM_some {α β : Type} {f : α → Option β} {g : α → β} : ∀ {l : List α}, (∀ i ∈ l, f i = some (g i)) → l.mapM f = some (l.map g)
  | [], _ => rfl
  | a :: l, h => by
    rw [List.mapM_cons, h a (by simp), mapM_some (fun i hi => h i (by simp [hi]))]
    rfl
theorem flat_single {α β : Type} (f : α → β) : ∀ (l : List α), (l.map fun i => [f i]).flatten = l.map f
  | [] => rfl
  | a :: l => by simp [flat_single f l]
theorem keyLits_row {P : Program} {t e : TypeId} {n : Nat} {q : IntKind} (hu : P.underlying t = some (.array n e)) (he : P.underlying e = some (.int q)) (hc : P.cellsOf t = n) (h1 : P.cellsOf e = 1) (x : Nat → Int)
    (hw : ∀ i, i < n → (Lit.int q (x i)).wf = true) (d : Nat) : P.keyLits (d + 2) t ((List.range n).map fun i => Value.int q (x i)) = some ((List.range n).map fun i => Lit.int q (x i)) := by
  unfold Program.keyLits
  simp only [hu]
  rw [if_pos (by simp [hc]), mapM_some (g := fun i => [Lit.int q (x i)])]
  · simp only [Option.map_some, flat_single]
  · intro i hi
    have hi' : i < n := by simpa using hi
    rw [h1, Nat.mul_one]
    have e1 : (((List.range n).map fun i => Value.int q (x i)).drop i).take 1 = [Value.int q (x i)] := by
      apply List.ext_getElem?
      intro k
      rw [List.getElem?_take, List.getElem?_drop]
      cases k with
      | zero => simp [hi']
      | succ k => simp
    rw [e1]
    unfold Program.keyLits
    simp only [he]
    rw [if_pos ⟨trivial, hw i hi'⟩]
theorem wf_bn {x : Nat} (h : x < 256) : (Lit.int .u8 (x : Int)).wf = true := by
  simp [Lit.wf, IntKind.min, IntKind.max, IntKind.signed, IntKind.bits]
  omega
theorem map_range (k : List UInt8) : (k.map fun b => bn b.toNat) = (List.range k.length).map fun i => Value.int .u8 (((k.getD i 0).toNat : Nat) : Int) := by
  apply List.ext_getElem?
  intro i
  by_cases h : i < k.length
  · simp [h, bn]
  · simp [h]
theorem eq_keyP {P : Program} (hu : P.underlying 29 = some (.array 32 5)) (he : P.underlying 5 = some (.int .u8)) (hc : P.cellsOf 29 = 32) (h1 : P.cellsOf 5 = 1) {a b : List UInt8} (ha : a.length = 32) (hb : b.length = 32) :
    EqAV P 29 (keyA a) (keyA b) (decide (a = b)) := by
  intro Imm w cs cs' hx hy
  have ex := R_bl hx
  have ey := R_bl hy
  rw [map_range, ha] at ex
  rw [map_range, hb] at ey
  subst ex ey
  have lt : ∀ (l : List UInt8) i, (l.getD i 0).toNat < 256 := fun l i => (l.getD i 0).toNat_lt
  refine ⟨2, 2, _, _, ?_, ?_, keyLits_row hu he hc h1 (fun i => (((a.getD i 0).toNat : Nat) : Int)) (fun i _ => wf_bn (lt a i)) 0, keyLits_row hu he hc h1 (fun i => (((b.getD i 0).toNat : Nat) : Int)) (fun i _ => wf_bn (lt b i)) 0, ?_⟩
  · simp only [keyA, asVal, Value.formed, hu]
    simp [hc]
  · simp only [keyA, asVal, Value.formed, hu]
    simp [hc]
  · rw [decide_eq_true_iff]
    constructor
    · rintro rfl; rfl
    · intro h
      apply List.ext_getElem?
      intro i
      by_cases hi : i < 32
      · have := congrArg (fun l => l[i]?) h
        simp only [List.getElem?_map, List.getElem?_range hi, Option.map_some, Option.some.injEq, Lit.int.injEq, true_and] at this
        have h2 : (a.getD i 0).toNat = (b.getD i 0).toNat := by omega
        have h3 := UInt8.toNat_inj.1 h2
        rw [List.getD_eq_getElem?_getD, List.getD_eq_getElem?_getD] at h3
        rw [List.getElem?_eq_getElem (by omega), List.getElem?_eq_getElem (by omega)] at h3 ⊢
        simpa using h3
      · rw [List.getElem?_eq_none (by omega), List.getElem?_eq_none (by omega)]
theorem eq_key {a b : List UInt8} (ha : a.length = 32) (hb : b.length = 32) : EqAV Go.Proofs.Tryd.prog 29 (keyA a) (keyA b) (decide (a = b)) :=
  eq_keyP (by kernel_rfl) (by kernel_rfl) (by kernel_rfl) (by kernel_rfl) ha hb
theorem key_at {k : List UInt8} (hk : k.length = 32) (i : Nat) (hi : i < 32) : (bl k)[i]? = some (.lit (bn (k.getD i 0).toNat)) := by
  simp [bl, List.getElem?_eq_getElem (show i < k.length by omega)]
structure Cat (G : List (Option Blk)) (N : Nat) (t : Tb) (V : Value) (ts : List Term) : Prop where
  len : G.length = N
  ok : TbOk G t V ts
section
variable {G : List (Option Blk)} {N : Nat} {t : Tb} {V : Value} {ts : List Term}
theorem Cat.get (h : Cat G N t V ts) (L : List (Option Blk)) (k : Nat) : (G ++ L)[N + k]? = L[k]? := by rw [List.getElem?_append_right (by have := h.len; omega), h.len, Nat.add_sub_cancel_left]
theorem Cat.set (h : Cat G N t V ts) (L : List (Option Blk)) (k : Nat) (x : Option Blk) : (G ++ L).set (N + k) x = G ++ L.set k x := by rw [List.set_append_right _ _ (by have := h.len; omega), h.len, Nat.add_sub_cancel_left]
theorem Cat.gb (h : Cat G N t V ts) (L : List (Option Blk)) : (G ++ L)[t.b]? = some (some (.box t.l 2 (.st [1, 1] [.own t.j V, .own t.m (.map (some t.r))]))) := by rw [List.getElem?_append_left h.ok.lb]; exact h.ok.hb
theorem Cat.gj (h : Cat G N t V ts) (L : List (Option Blk)) : (G ++ L)[t.j]? = some (some (.row 100 V 3 (ts.map termA) 0)) := by rw [List.getElem?_append_left h.ok.lj]; exact h.ok.hj
theorem Cat.gm (h : Cat G N t V ts) (L : List (Option Blk)) : (G ++ L)[t.m]? = some (some (.map t.r (esOf ts) ts.length)) := by rw [List.getElem?_append_left h.ok.lm]; exact h.ok.hm
end
set_option maxHeartbeats 8000000 in
theorem number_call {H : List (Option Blk)} {t : Tb} {V : Value} {ts : List Term} (hh : TbOk H t V ts) (hn : ts.length < 100000) {k : List UInt8} (hk : k.length = 32) :
    XCall Go.Proofs.Tryd.prog 36 [.ptr t.b t.l 0 [], keyA k] H fun r H' => r = .lit (numV ts.length k) ∧ H' = H := by
  have h431 := fc431_eq
  refine XCall.le ?_
  have c1 := name_call (be32 k) (by have := be32_lt k; omega)
  have hC : Cat H H.length t V ts := ⟨rfl, hh⟩
  have q1 := hC.get; have q2 := hC.set; have q3 := hC.gb; have q4 := hC.gj
  refine XCall.of h431 rfl ?_; show AC.wp _ fb431 ⟨H.length, [.ptr t.b t.l 0 [], keyA k] ++ List.replicate (38 - 2) .any, H ++ List.replicate 38 none⟩ (fun x s => match x with | .exit _ => False | _ => ∃ s1, Le s s1 ∧ FinX [(.tmp 4)] s1 _); unfold fb431
  generalize hN : H.length = N at *
  refine wp_sg (areg_bx rfl (by simp [AS.ev, keyA, AV.sz, bl, hk]) fun l => areg_end (by simp [push_cast, q2]; exact rfl) ?_)
  have k4 := key_at hk 4 (by decide); have k5 := key_at hk 5 (by decide); have k6 := key_at hk 6 (by decide); have k7 := key_at hk 7 (by decide)
  have hbe : be32 k = be32 k := rfl
  conv at hbe => rhs; unfold be32
  have b4 := (k.getD 4 0).toNat_lt; have b5 := (k.getD 5 0).toNat_lt; have b6 := (k.getD 6 0).toNat_lt; have b7 := (k.getD 7 0).toNat_lt
  generalize (k.getD 4 0).toNat = a4 at *
  generalize (k.getD 5 0).toNat = a5 at *
  generalize (k.getD 6 0).toNat = a6 at *
  generalize (k.getD 7 0).toNat = a7 at *
  have e4 : ∀ h, (bl k)[4]'h = .lit (bn a4) := fun h => by rw [List.getElem?_eq_getElem h] at k4; exact Option.some.inj k4
  have e5 : ∀ h, (bl k)[5]'h = .lit (bn a5) := fun h => by rw [List.getElem?_eq_getElem h] at k5; exact Option.some.inj k5
  have e6 : ∀ h, (bl k)[6]'h = .lit (bn a6) := fun h => by rw [List.getElem?_eq_getElem h] at k6; exact Option.some.inj k6
  have e7 : ∀ h, (bl k)[7]'h = .lit (bn a7) := fun h => by rw [List.getElem?_eq_getElem h] at k7; exact Option.some.inj k7
  have o1 : binVal .or (jn (a4 * 16777216)) (jn (a5 * 65536)) = some (jn (a4 * 16777216 + a5 * 65536)) := by
    rw [bin_oraj _ _ (by omega) (by omega)]
    exact congrArg (fun x => some (jn x)) (or_add a4 (a5 * 65536) 24 (by omega))
  have o2 : binVal .or (jn (a4 * 16777216 + a5 * 65536)) (jn (a6 * 256)) = some (jn (a4 * 16777216 + a5 * 65536 + a6 * 256)) := by
    rw [bin_oraj _ _ (by omega) (by omega)]
    have := or_add (a4 * 256 + a5) (a6 * 256) 16 (by omega)
    have e : (a4 * 256 + a5) * 2 ^ 16 = a4 * 16777216 + a5 * 65536 := by omega
    rw [e] at this
    rw [this]
  have o3 : binVal .or (jn (a4 * 16777216 + a5 * 65536 + a6 * 256)) (jn a7) = some (jn (be32 k)) := by
    rw [bin_oraj _ _ (by omega) (by omega)]
    have := or_add (a4 * 65536 + a5 * 256 + a6) a7 8 (by omega)
    have e : (a4 * 65536 + a5 * 256 + a6) * 2 ^ 8 = a4 * 16777216 + a5 * 65536 + a6 * 256 := by omega
    rw [e] at this
    rw [this, hbe]
  have s1 : binVal .shl (jn a4) (un 24) = some (jn (a4 * 16777216)) := bin_shlju a4 24 (by show a4 * 16777216 < _; omega)
  have s2 : binVal .shl (jn a5) (un 16) = some (jn (a5 * 65536)) := bin_shlju a5 16 (by show a5 * 65536 < _; omega)
  have s3 : binVal .shl (jn a6) (un 8) = some (jn (a6 * 256)) := bin_shlju a6 8 (by show a6 * 256 < _; omega)
  have v4 := cvt_j8 a4 b4; have v5 := cvt_j8 a5 b5; have v6 := cvt_j8 a6 b6; have v7 := cvt_j8 a7 b7
  refine wp_sr (by simp [push_cast, q1, k4, k5, k6, k7, e4, e5, e6, e7, o1, o2, o3, s1, s2, s3, v4, v5, v6, v7]; exact rfl) ?_
  have hnum : ∀ b : Bool, b = decide (ts.length ≤ be32 k ∨ nameK (be32 k) ≠ k) → numV ts.length k = if b then .int .i64 (-1) else jn (be32 k) := fun b e => by
    unfold numV
    subst e
    by_cases h : ts.length ≤ be32 k ∨ nameK (be32 k) ≠ k
    · rw [if_pos h, if_pos (by simpa using h)]
    · rw [if_neg h, if_neg (by simpa using h)]
  refine wp_seq' (wp_seq' (wp_rg ?_))
  have efin : ∀ (b : Bool) (R : List (Option Blk)) (s : AS), b = decide (ts.length ≤ be32 k ∨ nameK (be32 k) ≠ k) → RVal s (.tmp 4) = some (.lit (if b then .int .i64 (-1) else jn (be32 k))) → s.hp = H ++ R → ∃ s1, Le s s1 ∧ FinX [RV.tmp 4] s1 fun r H' => ∃ r' A, RelLe r r' ∧ r' ≠ .any ∧ HpLe H' A ∧ r' = .lit (numV ts.length k) ∧ A = H := fun b R s e hr hR =>
    ⟨s, Le.refl _, finX1 hr (by simp) ⟨_, H, RelLe.refl _, by simp, by rw [hR]; exact HpLe.trim _ _, by rw [hnum b e], rfl⟩⟩
  by_cases hle : ts.length ≤ be32 k
  · refine areg_end (by simp [push_cast, q1, q3, q4, hle]; exact rfl) ?_
    refine wp_cond_t rfl ?_
    refine wp_sr (by simp [push_cast]; exact rfl) (wp_ret' ?_)
    exact efin true _ _ (by simp [hle]) rfl rfl
  · refine areg_run 9 (by simp [push_cast, q1, q3, q4, hle]; exact rfl) ?_
    refine areg_g (by simp [AS.ev, AS.put]) (areg_cv (by simp [AS.ev, AS.coe, AS.put] <;> exact rfl) c1 ?_)
    refine areg_run 1 (by simp [push_cast, q1]; exact rfl) ?_
    have e1 := eq_key (nameK_len (be32 k)) hk
    refine areg_g (by simp [AS.ev, AS.put]) (areg_eq (by simp [AS.ev, AS.put] <;> exact rfl) (by simp [AS.ev, AS.put] <;> exact rfl) e1 rfl rfl ?_)
    by_cases hne : nameK (be32 k) = k
    · refine areg_end (by simp [push_cast, hne]; exact rfl) ?_
      refine wp_cond_f rfl (wp_skip' (wp_sr (by simp [push_cast]; exact rfl) (wp_ret' ?_)))
      exact efin false _ _ (by simp [hle, hne]) rfl rfl
    · refine areg_end (by simp [push_cast, hne]; exact rfl) ?_
      refine wp_cond_t rfl ?_
      refine wp_sr (by simp [push_cast]; exact rfl) (wp_ret' ?_)
      exact efin true _ _ (by simp [hle, hne]) rfl rfl
end Go.Cab
namespace Go.Cab
open Classical
def fb422 : AC := (.seq (.reg [⟨some 8, none, .alloc 32 (.arr 1 (List.replicate 32 (.lit (bn 0)))), [], none⟩]) (.seq (.reg [⟨some 13, none, .mov (.tmp 1), [], none⟩, ⟨some 14, none, .mov (.tmp 2), [], none⟩, ⟨some 15, none, .mov (.tmp 3), [], none⟩, ⟨some 16, none, .call 31 [.tmp 15], [], none⟩, ⟨some 17, none, .build (.st [1, 1, 1] [(.lit (jn 0)), (.lit (tx [])), (.lit (.slice .none 0 0))]) [(0, (.tmp 13)), (1, (.tmp 14)), (2, (.tmp 16))], [], none⟩, ⟨some 9, none, .alloc 3 (.st [1, 1, 1] [(.lit (jn 0)), (.lit (tx [])), (.lit (.slice .none 0 0))]), [], none⟩, ⟨none, none, .store 3 (.tmp 9) (.tmp 17), [], none⟩]) (.seq (.reg [⟨some 18, none, .load true 3 (.tmp 9), [], none⟩, ⟨some 19, none, .call 32 [.tmp 18], [], none⟩, ⟨some 10, none, .mov (.tmp 19), [], none⟩]) (.seq (.reg [⟨some 21, none, .mov (.tmp 0), [], none⟩, ⟨some 22, none, .nilc (.tmp 21), [], none⟩, ⟨some 23, none, .faddr 1 1 (.tmp 22), [], none⟩, ⟨some 24, none, .load false 1 (.tmp 23), [], none⟩, ⟨some 25, none, .mov (.tmp 10), [], none⟩, ⟨some 26, none, .rd (.lookup (jn 0)) [.tmp 24, .tmp 25], [], none⟩, ⟨some 20, none, .mov (.tmp 26), [], none⟩, ⟨some 27, none, .ext (.tmp 20) 0, [], none⟩, ⟨some 28, none, .ext (.tmp 20) 1, [], none⟩, ⟨some 11, none, .mov (.tmp 27), [], none⟩, ⟨some 12, none, .mov (.tmp 28), [], none⟩]) (.seq (.seq (.reg [⟨some 29, none, .mov (.tmp 12), [], none⟩, ⟨some 30, none, .un .not (.tmp 29), [], none⟩]) (.cond (.tmp 30) (.seq (.reg [⟨some 31, none, .mov (.tmp 0), [], none⟩, ⟨some 32, none, .nilc (.tmp 31), [], none⟩, ⟨some 33, none, .faddr 0 0 (.tmp 32), [], none⟩, ⟨some 34, none, .load false 1 (.tmp 33), [], none⟩, ⟨some 35, none, .len false (.tmp 34), [], none⟩, ⟨some 11, none, .mov (.tmp 35), [], none⟩]) (.reg [⟨some 36, none, .mov (.tmp 0), [], none⟩, ⟨some 37, none, .nilc (.tmp 36), [], none⟩, ⟨some 38, none, .faddr 1 1 (.tmp 37), [], none⟩, ⟨some 39, none, .load false 1 (.tmp 38), [], (.some 0)⟩, ⟨some 40, none, .mov (.tmp 10), [], none⟩, ⟨some 41, none, .mov (.tmp 0), [], none⟩, ⟨some 42, none, .mov (.tmp 11), [], none⟩, ⟨some 43, none, .mov (.tmp 0), [], none⟩, ⟨some 44, none, .nilc (.tmp 43), [], none⟩, ⟨some 45, none, .faddr 0 0 (.tmp 44), [], none⟩, ⟨some 46, none, .load false 1 (.tmp 45), [], none⟩, ⟨some 47, none, .load true 3 (.tmp 9), [], (.some 9)⟩, ⟨some 48, none, .bslice 3 (.st [1, 1, 1] [(.lit (jn 0)), (.lit (tx [])), (.lit (.slice .none 0 0))]) 1 [(0, (.tmp 47))], [], none⟩, ⟨some 49, none, .append 100 3 48 (.tmp 46) (.tmp 48), [0], .none⟩, ⟨some 50, none, .ef (.mapEntry (jn 0)) [.tmp 39, .tmp 40], [], none⟩, ⟨some 51, none, .ext (.tmp 50) 1, [], none⟩, ⟨none, none, .ef .entryStore [.tmp 39, .tmp 51, .tmp 42], [], none⟩, ⟨some 52, none, .nilc (.tmp 41), [], none⟩, ⟨some 53, none, .faddr 0 0 (.tmp 52), [], none⟩, ⟨none, none, .store 1 (.tmp 53) (.tmp 49), [], none⟩])) .skip)) (.seq (.reg [⟨some 54, none, .mov (.tmp 11), [], none⟩, ⟨some 55, none, .call 33 [.tmp 54], [], none⟩, ⟨none, none, .store 32 (.tmp 8) (.tmp 55), [], none⟩]) .ret))))))
def fc422 : FC := ⟨4, 56, [(.cell 8 .true 32)], fb422⟩
theorem fc422_eq : compF Go.Proofs.Tryd.prog 18 = some fc422 := by kernel_rfl
def findT (s : List UInt8) : List Term → Nat → Option Nat
  | [], _ => none
  | x :: xs, i => if s = shapeT x then some i else findT s xs (i + 1)
theorem findT_lt {s : List UInt8} : ∀ {ts : List Term} {i n : Nat}, findT s ts i = some n → i ≤ n ∧ n < i + ts.length
  | [], _, _, h => by cases h
  | x :: xs, i, n, h => by
    unfold findT at h
    split at h
    · cases h; simp
    · have := findT_lt h
      simp only [List.length_cons]; omega
def putT (ts : List Term) (x : Term) : List Term := match findT (shapeT x) ts 0 with | some _ => ts | none => ts ++ [x]
def putN (ts : List Term) (x : Term) : Nat := match findT (shapeT x) ts 0 with | some n => n | none => ts.length
theorem putN_lt (ts : List Term) (x : Term) : putN ts x < (putT ts x).length := by
  unfold putN putT
  cases h : findT (shapeT x) ts 0 with
  | none => simp
  | some n => have := findT_lt h; simp; omega
theorem putT_len (ts : List Term) (x : Term) : ts.length ≤ (putT ts x).length ∧ (putT ts x).length ≤ ts.length + 1 := by
  unfold putT
  cases findT (shapeT x) ts 0 <;> simp
theorem bytes_beq (a b : List UInt8) : ((ByteArray.mk ⟨a⟩) == (ByteArray.mk ⟨b⟩)) = decide (a = b) := by
  rw [Bool.eq_iff_iff]
  show (((⟨a⟩ : Array UInt8) == ⟨b⟩) = true) ↔ _
  simp
theorem lookS_es (s : List UInt8) : ∀ (ts : List Term) (i : Nat), lookS ⟨⟨s⟩⟩ (esF ts i) i = some ((findT s ts i).map fun n => (n, jn n, n))
  | [], _ => rfl
  | x :: xs, i => by
    show lookS ⟨⟨s⟩⟩ ((.string ⟨⟨shapeT x⟩⟩, jn i, i) :: esF xs (i + 1)) i = _
    unfold lookS findT
    rw [bytes_beq]
    by_cases h : s = shapeT x
    · rw [if_pos h, if_pos (by simpa using h)]; rfl
    · rw [if_neg h, if_neg (by simpa using h)]
      exact lookS_es s xs (i + 1)
theorem esF_app (x : Term) : ∀ (ts : List Term) (i : Nat), esF (ts ++ [x]) i = esF ts i ++ [(tx (shapeT x), jn (i + ts.length), i + ts.length)]
  | [], i => by simp [esF]
  | y :: ys, i => by simp only [List.cons_append, esF, esF_app x ys (i + 1), List.length_cons]; rw [show i + 1 + ys.length = i + (ys.length + 1) by omega]
theorem esF_lt : ∀ (ts : List Term) (i : Nat), ∀ e ∈ esF ts i, e.2.2 < i + ts.length
  | [], _, e, h => by cases h
  | x :: xs, i, e, h => by
    simp only [esF, List.mem_cons] at h
    rcases h with rfl | h
    · simp
    · have := esF_lt xs (i + 1) e h
      simp only [List.length_cons]; omega
def lookR (z : Value) : Option (Nat × Value × Nat) → AV
  | some (_, v, _) => .tup [.lit v, .lit (.bool true)]
  | none => .tup [.lit z, .lit (.bool false)]
section
variable {P : Program} {s : AS} {K : AS → Prop} {xs : List AOp}
theorem areg_look {d : Option Tmp} {x y : Operand} {z : Value} {b r c : Nat} {sh : List UInt8} {es : List (Value × Value × Nat)} {o : Option (Nat × Value × Nat)} (hx : s.ev x = .own b (.map (some r))) (hy : s.ev y = .lit (tx sh)) (hb : s.blk b = some (.map r es c)) (hl : lookS ⟨⟨sh⟩⟩ es 0 = some o)
    (h : AReg P xs (s.put d (lookR z o)) K) : AReg P (⟨d, none, .rd (.lookup z) [x, y], [], none⟩ :: xs) s K := by
  refine AOp.ex_go (s' := s.put d (lookR z o)) ?_ h
  have hro : (AOp.ro ⟨d, none, .rd (.lookup z) [x, y], [], none⟩ s.nr) = tt := by funext b; rfl
  simp only [AOp.ex, AOp.ex0, AOp.mineB, if_true, ex_rd, List.map_cons, List.map_nil, hx, hy, rdB]
  simp only [hro, tt, if_true, lookA, tx, hb, hl]
  cases o with
  | none => rfl
  | some o => obtain ⟨a, v, n⟩ := o; rfl
theorem entry_new {hp : List (Option Blk)} {b r : Nat} {sh : List UInt8} {ts : List Term} (hb : hp[b]? = some (some (.map r (esOf ts) ts.length))) (hl : findT sh ts 0 = none) :
    entryA hp (jn 0) (.own b (.map (some r))) (.lit (tx sh)) = some (.tup [.lit (jn 0), .lit (jn ts.length)], hp.set b (some (.map r (esOf ts ++ [(tx sh, jn 0, ts.length)]) (ts.length + 1)))) := by
  have := lookS_es sh ts 0
  rw [hl] at this
  unfold esOf at *
  simp only [entryA, tx, hb, Option.join_some, this]
  rfl
theorem stamp_new {hp : List (Option Blk)} {b r : Nat} {x : Term} {ts : List Term} (hb : hp[b]? = some (some (.map r (esOf ts ++ [(tx (shapeT x), jn 0, ts.length)]) (ts.length + 1)))) :
    stampA hp (.own b (.map (some r))) (.lit (jn ts.length)) (.lit (jn ts.length)) = some (.any, hp.set b (some (tmk r (ts ++ [x])))) := by
  have e : (esOf ts ++ [(tx (shapeT x), jn 0, ts.length)]).map (fun e => if ((e.2.2 : Nat) : Int) = (ts.length : Int) then (e.1, jn ts.length, e.2.2) else e) = esOf (ts ++ [x]) := by
    unfold esOf
    rw [esF_app, List.map_append, Nat.zero_add]
    congr 1
    · rw [List.map_congr_left (g := id), List.map_id]
      intro e he
      have := esF_lt ts 0 e he
      simp only [id]
      rw [if_neg (by omega)]
    · simp
  unfold stampA
  simp only [jn, hb, Option.join_some]
  rw [if_pos]
  · simp only [jn] at e
    rw [e]
    simp [tmk]
  · refine ⟨trivial, rfl, ?_⟩
    simp
end
theorem cat1 (N : Nat) (G L : List (Option Blk)) (k : Nat) (h : G.length = N) : (G ++ L)[N + k]? = L[k]? := by rw [List.getElem?_append_right (by omega), h, Nat.add_sub_cancel_left]
theorem cat2 (N : Nat) (G L : List (Option Blk)) (k : Nat) (x : Option Blk) (h : G.length = N) : (G ++ L).set (N + k) x = G ++ L.set k x := by rw [List.set_append_right _ _ (by omega), h, Nat.add_sub_cancel_left]
theorem cat3 (N : Nat) (G L : List (Option Blk)) (i : Nat) (x : Option Blk) (h : G.length = N) (hi : i < N) : (G ++ L).set i x = G.set i x ++ L := List.set_append_left _ _ (by omega)
theorem cat4 (N : Nat) (G L : List (Option Blk)) (i : Nat) (h : G.length = N) (hi : i < N) : (G ++ L)[i]? = G[i]? := List.getElem?_append_left (by omega)
def PutK (H : List (Option Blk)) (t : Tb) (ts : List Term) (x : Term) (r : AV) (H' : List (Option Blk)) : Prop := r = keyA (nameK (putN ts x)) ∧ ∃ V', H' = tbOf H t V' (putT ts x)
structure TermOk (x : Term) : Prop where
  kind : x.kind < 256
  text : x.text.length < 100000
  keys : x.keys.length < 100000
  k32 : ∀ k ∈ x.keys, k.length = 32
set_option maxHeartbeats 16000000 in
theorem put_call {H : List (Option Blk)} {t : Tb} {V : Value} {ts : List Term} (hh : TbOk H t V ts) (hn : ts.length < 100000) (x : Term) (hx : TermOk x) :
    XCall Go.Proofs.Tryd.prog 18 [.ptr t.b t.l 0 [], .lit (jn x.kind), .lit (tx x.text), .sl 32 (klA x.keys)] H (PutK H t ts x) := by
  have h422 := fc422_eq
  refine XCall.le ?_
  obtain ⟨kd, text, keys⟩ := x
  obtain ⟨hx1, hx2, hx3, hx4⟩ := hx
  simp only at hx1 hx2 hx3 hx4 ⊢
  have c1 := clone_call (klA keys) (by rw [klA_len]; exact hx3)
  have c2 := shape_call ⟨kd, text, keys⟩ hx1 hx2 hx3 hx4
  unfold termA at c2
  simp only at c2
  have lb := hh.lb; have lj := hh.lj; have lm := hh.lm
  have n1 := hh.bj; have n2 := hh.bm; have n3 := hh.jm
  have n1' := n1.symm; have n2' := n2.symm; have n3' := n3.symm
  have gb := hh.hb; have gj := hh.hj; have gm := hh.hm
  unfold tbk at gb
  unfold trk at gj
  unfold tmk at gm
  have bd1 : (ts.map termA).length + 1 ≤ maxLen := by rw [List.length_map]; simp [maxLen]; omega
  have bd2 : ((ts.map termA).length + 1) * 48 ≤ 140737488355328 := by rw [List.length_map]; omega
  refine XCall.of h422 rfl ?_; show AC.wp _ fb422 ⟨H.length, [.ptr t.b t.l 0 [], .lit (jn kd), .lit (tx text), .sl 32 (klA keys)] ++ List.replicate (56 - 4) .any, H ++ List.replicate 56 none⟩ (fun x s => match x with | .exit _ => False | _ => ∃ s1, Le s s1 ∧ FinX [(.cell 8 .true 32)] s1 _); unfold fb422
  generalize hN : H.length = N at *
  have p1 : ∀ L k, (H ++ L)[N + k]? = L[k]? := fun L k => cat1 N H L k hN
  have p2 : ∀ L k x, (H ++ L).set (N + k) x = H ++ L.set k x := fun L k x => cat2 N H L k x hN
  have pb : ∀ L, (H ++ L)[t.b]? = some (some (.box t.l 2 (.st [1, 1] [.own t.j V, .own t.m (.map (some t.r))]))) := fun L => by rw [cat4 N H L _ hN lb]; exact gb
  have pj : ∀ L, (H ++ L)[t.j]? = some (some (.row 100 V 3 (ts.map termA) 0)) := fun L => by rw [cat4 N H L _ hN lj]; exact gj
  have pm : ∀ L, (H ++ L)[t.m]? = some (some (.map t.r (esOf ts) ts.length)) := fun L => by rw [cat4 N H L _ hN lm]; exact gm
  have psj : ∀ L x, (H ++ L).set t.j x = H.set t.j x ++ L := fun L x => cat3 N H L _ x hN lj
  refine wp_sg (areg_al' zk_eq.symm fun l => areg_end (by simp [push_cast, p2]; exact rfl) ?_)
  refine wp_sg ?_
  refine areg_run 3 (by simp [push_cast]; exact rfl) ?_
  refine areg_ca (by simp [AS.ev, AS.coe, AS.put] <;> exact rfl) c1 ?_
  refine areg_run 1 (by simp [push_cast]; exact rfl) ?_
  refine areg_al' rfl fun l2 => areg_end (by simp [push_cast, p1, p2]; exact rfl) ?_
  refine wp_sg ?_
  refine areg_run 1 (by simp [push_cast, p1, p2]; exact rfl) ?_
  refine areg_ca (by simp [AS.ev, AS.coe, AS.put] <;> exact rfl) c2 ?_
  refine areg_end (by simp [push_cast]; exact rfl) ?_
  refine wp_sg ?_
  refine areg_run 5 (by simp [push_cast, p1, p2, pb]; exact rfl) ?_
  refine areg_look (b := t.m) (r := t.r) (es := esOf ts) (c := ts.length) (o := (findT (shapeT ⟨kd, text, keys⟩) ts 0).map fun n => (n, jn n, n)) rfl rfl (by simp only [AS.blk, AS.put, pm]; rfl) (lookS_es _ _ _) ?_
  have efin : ∀ (V' : Value) (ts' : List Term) (n : Nat) (s : AS), ts' = putT ts ⟨kd, text, keys⟩ → n = putN ts ⟨kd, text, keys⟩ → RVal s (.cell 8 true 32) = some (keyA (nameK n)) → HpLe s.hp (tbOf H t V' ts') → ∃ s1, Le s s1 ∧ FinX [RV.cell 8 true 32] s1 fun r H' => ∃ r' A, RelLe r r' ∧ r' ≠ .any ∧ HpLe H' A ∧ PutK H t ts ⟨kd, text, keys⟩ r' A := fun V' ts' n s e1 e2 hr hp =>
    ⟨s, Le.refl _, [], _, ⟨hr, by simp [keyA]⟩, keyA (nameK n), _, RelLe.refl _, by simp [keyA], hp, by rw [e2], V', by rw [e1]⟩
  cases hf : findT (shapeT ⟨kd, text, keys⟩) ts 0 with
  | some n =>
    have hnlt := (findT_lt hf).2
    have c3 := name_call n (by omega)
    refine areg_end (by simp [push_cast, lookR]; exact rfl) ?_
    refine wp_seq' (wp_seq' (wp_r (by simp [push_cast]; exact rfl) (wp_cond_f rfl (wp_skip' ?_))))
    refine wp_sg ?_
    refine areg_run 1 (by simp [push_cast]; exact rfl) ?_
    refine areg_ca (by simp [AS.ev, AS.coe, AS.put] <;> exact rfl) c3 ?_
    refine areg_end (by simp [push_cast, p1, p2, nameK_len]; exact rfl) (wp_ret' ?_)
    refine efin V ts n _ (by simp [putT, hf]) (by simp [putN, hf]) (by simp [RVal, AS.ev, AS.peek, AS.blk, p1, Blk.loc, Blk.cont, Blk.n, AV.nav, AV.isAgg, AV.isTup]; rfl) ?_
    rw [hh.self]
    exact HpLe.trim _ _
  | none =>
    have c3 := name_call ts.length (by omega)
    refine areg_end (by simp [push_cast, lookR]; exact rfl) ?_
    refine wp_seq' (wp_seq' (wp_r (by simp [push_cast]; exact rfl) (wp_cond_t rfl ?_)))
    refine wp_sr (by simp [push_cast, p1, pb, pj]; exact rfl) ?_
    refine wp_rg ?_
    refine areg_run 13 (by simp [push_cast, p1, pb, pj, pm]; exact rfl) ?_
    have hG1 : (H.set t.j none).length = N := by rw [List.length_set]; exact hN
    have q2 : ∀ L k x, (H.set t.j none ++ L).set (N + k) x = H.set t.j none ++ L.set k x := fun L k x => cat2 N _ L k x hG1
    have qm : ∀ L, (H.set t.j none ++ L)[t.m]? = some (some (.map t.r (esOf ts) ts.length)) := fun L => by rw [cat4 N _ L _ hG1 lm, List.getElem?_set_ne n3]; exact gm
    have qsm : ∀ L x, (H.set t.j none ++ L).set t.m x = (H.set t.j none).set t.m x ++ L := fun L x => cat3 N _ L _ x hG1 lm
    have hG2 : ∀ M, ((H.set t.j none).set t.m M).length = N := fun M => by rw [List.length_set]; exact hG1
    have qm2 : ∀ M L, ((H.set t.j none).set t.m M ++ L)[t.m]? = some M := fun M L => by rw [cat4 N _ L _ (hG2 M) lm, List.getElem?_set_self (by omega)]
    have qsm2 : ∀ M M' L, ((H.set t.j none).set t.m M ++ L).set t.m M' = (H.set t.j none).set t.m M' ++ L := fun M M' L => by rw [cat3 N _ L _ _ (hG2 M) lm, List.set_set]
    have qb2 : ∀ M L, ((H.set t.j none).set t.m M ++ L)[t.b]? = some (some (.box t.l 2 (.st [1, 1] [.own t.j V, .own t.m (.map (some t.r))]))) := fun M L => by
      rw [cat4 N _ L _ (hG2 M) lb, List.getElem?_set_ne n2', List.getElem?_set_ne n1']; exact gb
    have qsb2 : ∀ M L B, ((H.set t.j none).set t.m M ++ L).set t.b B = ((H.set t.j none).set t.m M).set t.b B ++ L := fun M L B => cat3 N _ L _ _ (hG2 M) lb
    have hG3 : ∀ M B, (((H.set t.j none).set t.m M).set t.b B).length = N := fun M B => by rw [List.length_set]; exact hG2 M
    have r1 : ∀ M B L k, (((H.set t.j none).set t.m M).set t.b B ++ L)[N + k]? = L[k]? := fun M B L k => cat1 N _ L k (hG3 M B)
    have r2 : ∀ M B L k x, (((H.set t.j none).set t.m M).set t.b B ++ L).set (N + k) x = ((H.set t.j none).set t.m M).set t.b B ++ L.set k x := fun M B L k x => cat2 N _ L k x (hG3 M B)
    refine areg_ap (b := t.j) (V := V) (ys := [termA ⟨kd, text, keys⟩]) rfl (by simp only [AS.blk, pj]; rfl) (by simp [AS.ev, AS.coe, termA]) bd1 bd2 (fun V' => ?_) (by
      intro t' ht' b hb
      simp at ht'
      subst ht'
      simp [AS.ev, AV.place] at hb
      subst hb
      exact ⟨by simp [AS.slot]; omega, fun b' V e => by cases e; exact n1'⟩)
    refine areg_run 0 (by simp [push_cast, psj, q2]; exact rfl) ?_
    refine areg_ef0 (us := [.own t.m (.map (some t.r)), .lit (tx (shapeT ⟨kd, text, keys⟩))]) rfl (entry_new (by simp only [qm]) hf) ?_
    refine areg_run 1 (by simp [push_cast, qsm]; exact rfl) ?_
    refine areg_ef0 (us := [.own t.m (.map (some t.r)), .lit (jn ts.length), .lit (jn ts.length)]) rfl (stamp_new (x := ⟨kd, text, keys⟩) (by simp only [qm2])) ?_
    refine areg_end (by simp [push_cast, qsm2, qb2, qsb2]; exact rfl) ?_
    refine wp_sg ?_
    refine areg_run 1 (by simp [push_cast]; exact rfl) ?_
    refine areg_ca (by simp [AS.ev, AS.coe, AS.put] <;> exact rfl) c3 ?_
    refine areg_end (by simp [push_cast, r1, r2, nameK_len]; exact rfl) (wp_ret' ?_)
    refine efin V' (ts ++ [⟨kd, text, keys⟩]) ts.length _ (by simp [putT, hf]) (by simp [putN, hf]) (by simp [RVal, AS.ev, AS.peek, AS.blk, r1, Blk.loc, Blk.cont, Blk.n, AV.nav, AV.isAgg, AV.isTup]; rfl) ?_
    have hsw := HpLe.swap (hp := (((H.set t.j none).set t.m (some (tmk t.r (ts ++ [⟨kd, text, keys⟩])))).set t.b (some (.box t.l 2 (.st [1, 1] [.own (N + 49) V', .own t.m (.map (some t.r))])))) ++ ([none, none, none, none, none, none, none, none, some (.box l 32 (.arr 1 (bl (nameK ts.length)))), some (.box l2 3 (.st [1, 1, 1] [.lit (jn kd), .lit (tx text), .sl 32 (klA keys)]))] ++ List.replicate 39 none ++ [some (.row 100 V' 3 (ts.map termA ++ [termA ⟨kd, text, keys⟩]) 0)] ++ List.replicate 6 none)) (H := H.set t.m (some (tmk t.r (ts ++ [⟨kd, text, keys⟩])))) (b := t.b) (j := t.j) (d := N + 49) (X := .box t.l 2 (.st [1, 1] [.own (N + 49) V', .own t.m (.map (some t.r))])) (X' := tbk t.l t.j t.m t.r V') (Y := trk V' (ts ++ [⟨kd, text, keys⟩])) (by rw [List.length_set]; omega) n1 (by rw [List.length_set]; omega) ?_ ?_ ?_ ?_
    · have e : ((H.set t.m (some (tmk t.r (ts ++ [⟨kd, text, keys⟩])))).set t.b (some (tbk t.l t.j t.m t.r V'))).set t.j (some (trk V' (ts ++ [⟨kd, text, keys⟩]))) = tbOf H t V' (ts ++ [⟨kd, text, keys⟩]) := by
        unfold tbOf
        rw [List.set_comm _ _ n2', List.set_comm _ _ n3']
      rw [e] at hsw
      exact hsw
    · rw [cat4 N _ _ _ (hG3 _ _) lb, List.getElem?_set_self (by rw [hG2]; exact lb)]
    · rw [r1]; simp [trk]
    · intro k k1 k2 k3
      rw [List.length_set, hN] at k3
      rw [cat4 N _ _ _ (hG3 _ _) k3, List.getElem?_set_ne (Ne.symm k1)]
      by_cases hkm : t.m = k
      · subst hkm
        rw [List.getElem?_set_self (by omega), List.getElem?_set_self (by omega)]
      · rw [List.getElem?_set_ne hkm, List.getElem?_set_ne hkm, List.getElem?_set_ne (Ne.symm k2)]
    · exact BlkLe.box (AVle.st1 (AVle.own _ _ _) (AVle.st1 (AVle.refl _) AVle.st0))
end Go.Cab
namespace Go.Cab
open Classical
def fb416 : AC := (.seq (.reg [⟨some 4, none, .alloc 32 (.arr 1 (List.replicate 32 (.lit (bn 0)))), [], none⟩]) (.seq (.reg [⟨some 5, none, .mov (.tmp 0), [], none⟩, ⟨some 6, none, .mov (.tmp 1), [], none⟩, ⟨some 7, none, .icall 18 (.tmp 5) [(.const (jn 1)), (.tmp 6), (.const (.slice .none 0 0))], [], none⟩, ⟨none, none, .store 32 (.tmp 4) (.tmp 7), [], none⟩]) .ret))
def fc416 : FC := ⟨2, 8, [(.cell 4 .true 32)], fb416⟩
theorem fc416_eq : compF Go.Proofs.Tryd.prog 8 = some fc416 := by kernel_rfl
def fb440 : AC := (.seq (.reg [⟨some 6, none, .alloc 32 (.arr 1 (List.replicate 32 (.lit (bn 0)))), [], none⟩]) (.seq (.reg [⟨some 7, none, .mov (.tmp 0), [], none⟩, ⟨some 8, none, .mov (.tmp 1), [], none⟩, ⟨some 9, none, .mov (.tmp 2), [], none⟩, ⟨some 10, none, .icall 18 (.tmp 7) [(.const (jn 2)), (.tmp 8), (.tmp 9)], [], none⟩, ⟨none, none, .store 32 (.tmp 6) (.tmp 10), [], none⟩]) .ret))
def fc440 : FC := ⟨3, 11, [(.cell 6 .true 32)], fb440⟩
theorem fc440_eq : compF Go.Proofs.Tryd.prog 27 = some fc440 := by kernel_rfl
def fb441 : AC := (.seq (.reg [⟨some 3, none, .box 32 (.tmp 1), [], none⟩, ⟨some 4, none, .alloc 32 (.arr 1 (List.replicate 32 (.lit (bn 0)))), [], none⟩]) (.seq (.reg [⟨some 5, none, .mov (.tmp 0), [], none⟩, ⟨some 6, none, .load true 32 (.tmp 3), [], none⟩, ⟨some 7, none, .bslice 32 (.arr 1 (List.replicate 32 (.lit (bn 0)))) 1 [(0, (.tmp 6))], [], none⟩, ⟨some 8, none, .icall 18 (.tmp 5) [(.const (jn 3)), (.const (tx [])), (.tmp 7)], [], none⟩, ⟨none, none, .store 32 (.tmp 4) (.tmp 8), [], none⟩]) .ret))
def fc441 : FC := ⟨2, 9, [(.cell 4 .true 32)], fb441⟩
theorem fc441_eq : compF Go.Proofs.Tryd.prog 75 = some fc441 := by kernel_rfl
theorem PutK.ex (H : List (Option Blk)) (t : Tb) (ts : List Term) (x : Term) : ∃ r H', PutK H t ts x r H' := ⟨_, _, rfl, .slice none 0 0, rfl⟩
theorem nil_kl : ArgLe [.lit (.slice none 0 0)] [.sl 32 (klA [])] := ⟨RelLe.nil 32, trivial⟩
theorem put_at {H : List (Option Blk)} {t : Tb} {V : Value} {ts : List Term} (hh : TbOk H t V ts) (hn : ts.length < 100000) (x : Term) (hx : TermOk x) (L : List (Option Blk)) :
    XCall Go.Proofs.Tryd.prog 18 [.ptr t.b t.l 0 [], .lit (jn x.kind), .lit (tx x.text), .sl 32 (klA x.keys)] (H ++ L) fun r H' => r = keyA (nameK (putN ts x)) ∧ ∃ V', H' = tbOf H t V' (putT ts x) ++ L := by
  refine XCall.mono (put_call (hh.app L) hn x hx) ?_
  rintro r H' ⟨h1, V', h2⟩
  exact ⟨h1, V', by rw [h2, hh.of_app]⟩
theorem fin_put {H G L : List (Option Blk)} {t : Tb} {ts : List Term} {x : Term} {V' : Value} {c : Tmp} {s : AS} (hr : RVal s (.cell c true 32) = some (keyA (nameK (putN ts x)))) (hg : G = tbOf H t V' (putT ts x)) (hp : s.hp = G ++ L) :
    ∃ s1, Le s s1 ∧ FinX [RV.cell c true 32] s1 fun r H' => ∃ r' A, RelLe r r' ∧ r' ≠ .any ∧ HpLe H' A ∧ PutK H t ts x r' A :=
  ⟨s, Le.refl _, [], _, ⟨hr, by simp [keyA]⟩, _, G, RelLe.refl _, by simp [keyA], by show HpLe s.hp G; rw [hp]; exact HpLe.trim _ _, rfl, V', hg⟩
set_option maxHeartbeats 2000000 in
theorem draw_call {H : List (Option Blk)} {t : Tb} {V : Value} {ts : List Term} (hh : TbOk H t V ts) (hn : ts.length < 100000) (name : List UInt8) (hl : name.length < 100000) :
    XCall Go.Proofs.Tryd.prog 8 [.ptr t.b t.l 0 [], .lit (tx name)] H (PutK H t ts ⟨1, name, []⟩) := by
  have h416 := fc416_eq
  refine XCall.le ?_
  have hx : TermOk ⟨1, name, []⟩ := ⟨by simp, hl, by simp, by simp⟩
  refine XCall.of h416 rfl ?_; show AC.wp _ fb416 ⟨H.length, [.ptr t.b t.l 0 [], .lit (tx name)] ++ List.replicate (8 - 2) .any, H ++ List.replicate 8 none⟩ (fun x s => match x with | .exit _ => False | _ => ∃ s1, Le s s1 ∧ FinX [(.cell 4 .true 32)] s1 _); unfold fb416
  have hput := put_at hh hn _ hx
  generalize hN : H.length = N at *
  have p2 : ∀ L k x, (H ++ L).set (N + k) x = H ++ L.set k x := fun L k x => cat2 N H L k x hN
  refine wp_sg (areg_al' zk_eq.symm fun l => areg_end (by simp [push_cast, p2]; exact rfl) ?_)
  refine wp_sg ?_
  refine areg_run 2 (by simp [push_cast]; exact rfl) ?_
  refine areg_xc (vs := [.ptr t.b t.l 0 [], .lit (jn 1), .lit (tx name), .lit (.slice none 0 0)]) rfl (XCall.args (m := [.ptr t.b t.l 0 [], .lit (jn 1), .lit (tx name), .sl 32 (klA [])]) (by exact ⟨RelLe.refl _, RelLe.refl _, RelLe.refl _, RelLe.nil 32, trivial⟩) (hput _)) ⟨_, _, rfl, .slice none 0 0, rfl⟩ ?_
  rintro r H' ⟨rfl, V', rfl⟩
  have hG : (tbOf H t V' (putT ts ⟨1, name, []⟩)).length = N := by rw [tbOf_len]; exact hN
  generalize hgen : tbOf H t V' (putT ts ⟨1, name, []⟩) = G at *
  have r1 : ∀ L k, (G ++ L)[N + k]? = L[k]? := fun L k => cat1 N G L k hG
  have r2 : ∀ L k x, (G ++ L).set (N + k) x = G ++ L.set k x := fun L k x => cat2 N G L k x hG
  refine areg_end (by simp [push_cast, r1, r2, nameK_len]; exact rfl) (wp_ret' ?_)
  refine fin_put (V' := V') (G := G) (by simp [RVal, AS.ev, AS.peek, AS.blk, r1, Blk.loc, Blk.cont, Blk.n, AV.nav, AV.isAgg, AV.isTup]; rfl) hgen.symm rfl
set_option maxHeartbeats 2000000 in
theorem hash_call {H : List (Option Blk)} {t : Tb} {V : Value} {ts : List Term} (hh : TbOk H t V ts) (hn : ts.length < 100000) (name : List UInt8) (hl : name.length < 100000) (keys : List (List UInt8)) (hk : keys.length < 100000) (h32 : ∀ k ∈ keys, k.length = 32) :
    XCall Go.Proofs.Tryd.prog 27 [.ptr t.b t.l 0 [], .lit (tx name), .sl 32 (klA keys)] H (PutK H t ts ⟨2, name, keys⟩) := by
  have h440 := fc440_eq
  refine XCall.le ?_
  have hx : TermOk ⟨2, name, keys⟩ := ⟨by simp, hl, hk, h32⟩
  refine XCall.of h440 rfl ?_; show AC.wp _ fb440 ⟨H.length, [.ptr t.b t.l 0 [], .lit (tx name), .sl 32 (klA keys)] ++ List.replicate (11 - 3) .any, H ++ List.replicate 11 none⟩ (fun x s => match x with | .exit _ => False | _ => ∃ s1, Le s s1 ∧ FinX [(.cell 6 .true 32)] s1 _); unfold fb440
  have hput := put_at hh hn _ hx
  generalize hN : H.length = N at *
  have p2 : ∀ L k x, (H ++ L).set (N + k) x = H ++ L.set k x := fun L k x => cat2 N H L k x hN
  refine wp_sg (areg_al' zk_eq.symm fun l => areg_end (by simp [push_cast, p2]; exact rfl) ?_)
  refine wp_sg ?_
  refine areg_run 3 (by simp [push_cast]; exact rfl) ?_
  refine areg_xc rfl (hput _) ⟨_, _, rfl, .slice none 0 0, rfl⟩ ?_
  rintro r H' ⟨rfl, V', rfl⟩
  have hG : (tbOf H t V' (putT ts ⟨2, name, keys⟩)).length = N := by rw [tbOf_len]; exact hN
  generalize hgen : tbOf H t V' (putT ts ⟨2, name, keys⟩) = G at *
  have r1 : ∀ L k, (G ++ L)[N + k]? = L[k]? := fun L k => cat1 N G L k hG
  have r2 : ∀ L k x, (G ++ L).set (N + k) x = G ++ L.set k x := fun L k x => cat2 N G L k x hG
  refine areg_end (by simp [push_cast, r1, r2, nameK_len]; exact rfl) (wp_ret' ?_)
  refine fin_put (V' := V') (G := G) (by simp [RVal, AS.ev, AS.peek, AS.blk, r1, Blk.loc, Blk.cont, Blk.n, AV.nav, AV.isAgg, AV.isTup]; rfl) hgen.symm rfl
set_option maxHeartbeats 2000000 in
theorem pub_call {H : List (Option Blk)} {t : Tb} {V : Value} {ts : List Term} (hh : TbOk H t V ts) (hn : ts.length < 100000) {k : List UInt8} (hk : k.length = 32) :
    XCall Go.Proofs.Tryd.prog 75 [.ptr t.b t.l 0 [], keyA k] H (PutK H t ts ⟨3, [], [k]⟩) := by
  have h441 := fc441_eq
  refine XCall.le ?_
  have hx : TermOk ⟨3, [], [k]⟩ := ⟨by simp, by simp, by simp, by simp [hk]⟩
  refine XCall.of h441 rfl ?_; show AC.wp _ fb441 ⟨H.length, [.ptr t.b t.l 0 [], keyA k] ++ List.replicate (9 - 2) .any, H ++ List.replicate 9 none⟩ (fun x s => match x with | .exit _ => False | _ => ∃ s1, Le s s1 ∧ FinX [(.cell 4 .true 32)] s1 _); unfold fb441
  have hput := put_at hh hn _ hx
  generalize hN : H.length = N at *
  have p1 : ∀ L k, (H ++ L)[N + k]? = L[k]? := fun L k => cat1 N H L k hN
  have p2 : ∀ L k x, (H ++ L).set (N + k) x = H ++ L.set k x := fun L k x => cat2 N H L k x hN
  refine wp_sg (areg_bx rfl (by simp [AS.ev, keyA, AV.sz, bl, hk]) fun l0 => areg_al' zk_eq.symm fun l => areg_end (by simp [push_cast, p2]; exact rfl) ?_)
  refine wp_sg ?_
  refine areg_run 3 (by simp [push_cast, p1, hk]; exact rfl) ?_
  refine areg_xc rfl (hput _) ⟨_, _, rfl, .slice none 0 0, rfl⟩ ?_
  rintro r H' ⟨rfl, V', rfl⟩
  have hG : (tbOf H t V' (putT ts ⟨3, [], [k]⟩)).length = N := by rw [tbOf_len]; exact hN
  generalize hgen : tbOf H t V' (putT ts ⟨3, [], [k]⟩) = G at *
  have r1 : ∀ L k, (G ++ L)[N + k]? = L[k]? := fun L k => cat1 N G L k hG
  have r2 : ∀ L k x, (G ++ L).set (N + k) x = G ++ L.set k x := fun L k x => cat2 N G L k x hG
  refine areg_end (by simp [push_cast, r1, r2, nameK_len]; exact rfl) (wp_ret' ?_)
  refine fin_put (V' := V') (G := G) (by simp [RVal, AS.ev, AS.peek, AS.blk, r1, Blk.loc, Blk.cont, Blk.n, AV.nav, AV.isAgg, AV.isTup]; rfl) hgen.symm rfl
end Go.Cab