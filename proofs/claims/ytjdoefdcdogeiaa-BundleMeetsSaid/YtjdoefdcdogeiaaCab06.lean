/- Part 6 of what the proof stands on: T1, G1, G2, G3, G4. -/
import Derived.Test.YtjdoefdcdogeiaaCab05
import Derived.Laws.Strings
import Derived.Test.YtjdoefdcdogeiaaProg
set_option linter.unusedSimpArgs false
set_option linter.unnecessarySimpa false
set_option linter.unusedVariables false
set_option linter.unusedSectionVars false
/- Token: texts as lists of bytes. -/
namespace Go.Cab
open Classical

theorem if_miss {p : Prop} [Decidable p] {A B : Prop} (h : ¬ p) (k : B) : if p then A else B := by rw [if_neg h]; exact k
theorem part_box {s : AS} {b n : Nat} {l : Nat × Nat} {v : AV} (h : s.blk b = some (.box l n v)) (hn : n ≠ 0) : s.part (.ptr b l 0 []) = some (b, .box l n v, [], n, v) := by
  simp [AS.part, h, AV.nav, hn]
/-- A call that turns a whole variable. -/
theorem areg_ib {P : Program} {s : AS} {K : AS → Prop} {xs : List AOp} {d : Option Tmp} {f : FuncId} {x : Operand} {aa : List Operand} {ow : Option Tmp} {b n : Nat} {l : Nat × Nat} {u r u' : AV} {fo : List Tmp} {vs : List AV} (hx : s.ev x = .ptr b l 0 []) (hb : s.blk b = some (.box l n u)) (hn : n ≠ 0)
    (ha : (aa.map fun x => s.coe (AOp.ro ⟨d, none, .icall f x aa, fo, ow⟩ s.nr) (s.ev x)) = vs) (hc : ICall P f n u vs r u') (hu : u'.isTup = false) (h : AReg P xs ((s.setBlk b (some (.box l n u'))).put d r) K) : AReg P (⟨d, none, .icall f x aa, fo, ow⟩ :: xs) s K :=
  areg_ic (by rw [hx]; exact part_box hb hn) ha hc hu (by simpa [Blk.upd, AV.upd] using h)
/-- A text of bytes. -/
def tx (l : List UInt8) : Value := .string ⟨⟨l⟩⟩
theorem sc_tx (l : List UInt8) : sc (tx l) = true := rfl
theorem tx_inj {a b : List UInt8} : tx a = tx b ↔ a = b := by simp [tx]
theorem tx_of (b : ByteArray) : Value.string b = tx b.data.toList := rfl

theorem lenA_tx (s : AS) (ro : Nat → Bool) (l : List UInt8) : lenA s ro true (.lit (tx l)) = some (.lit (jn l.length)) := rfl

def primA (p : PrimOp) : Option (List Value) → Option AV
  | some vs => (primVal p vs).map .lit
  | none => none
theorem primA_some (p : PrimOp) (vs : List Value) : primA p (some vs) = (primVal p vs).map .lit := rfl
section
variable {ro : Nat → Bool} {s : AS}
theorem ex_prim (p : PrimOp) (xs : List Operand) : (AI.prim p xs).ex ro s = primA p (s.lits xs) := by
  simp only [AI.ex]; cases s.lits xs <;> rfl
theorem ex_b2s (x : Operand) : (AI.b2s x).ex ro s = (s.textOf ro (s.ev x)).map .lit := rfl
end

theorem get_tx (l : List UInt8) (i : Nat) : (ByteArray.mk ⟨l⟩)[i]? = l[i]? := by
  by_cases h : i < l.length
  · rw [getElem?_pos (ByteArray.mk ⟨l⟩) i h, List.getElem?_eq_getElem h]; rfl
  · rw [getElem?_neg (ByteArray.mk ⟨l⟩) i h, List.getElem?_eq_none (by omega)]

theorem prim_ix (l : List UInt8) (i : Nat) : primVal .sidx [tx l, jn i] = (l[i]?).map fun b => bn b.toNat := by
  simp only [primVal, tx, jn, Int.toNat_natCast]
  rw [if_pos (by omega), get_tx]
  cases l[i]? <;> rfl
theorem bound_jn (n y : Nat) : bound (jn n) y = if n ≤ y then some n else none := by
  simp only [bound, jn, Int.toNat_natCast]
  by_cases h : n ≤ y
  · rw [if_pos h, if_pos (by omega)]
  · rw [if_neg h, if_neg (by omega)]
theorem extract_tx (l : List UInt8) (i k : Nat) : (ByteArray.mk ⟨l⟩).extract i k = ⟨⟨(l.take k).drop i⟩⟩ := by
  apply ByteArray.ext
  apply Array.toList_inj.1
  simp [List.drop_take]
theorem prim_sub (l : List UInt8) (i : Nat) : primVal (.ssub true false) [tx l, jn i] = if i ≤ l.length then some (tx (l.drop i)) else none := by
  simp only [primVal, tx, bound_jn]
  show Option.map _ (if i ≤ l.length then _ else _) = _
  by_cases h : i ≤ l.length
  · rw [if_pos h, if_pos h, Option.map_some, extract_tx]
    show some (Value.string ⟨⟨(l.take l.length).drop i⟩⟩) = _
    rw [List.take_length]
  · rw [if_neg h, if_neg h]; rfl
theorem prim_sub2 (l : List UInt8) (i k : Nat) : primVal (.ssub true true) [tx l, jn i, jn k] = if k ≤ l.length ∧ i ≤ k then some (tx ((l.take k).drop i)) else none := by
  simp only [primVal, tx, bound_jn]
  show Option.bind (if k ≤ l.length then _ else _) _ = _
  by_cases h : k ≤ l.length
  · rw [if_pos h]
    simp only [Option.bind_some, h, true_and]
    by_cases h2 : i ≤ k
    · rw [if_pos h2, if_pos h2, Option.map_some, extract_tx]
    · rw [if_neg h2, if_neg h2]; rfl
  · rw [if_neg h, if_neg (by omega)]; rfl
theorem prim_min (a b : Nat) : primVal .imin [jn a, jn b] = some (jn (min a b)) := by
  simp only [primVal, jn, Option.some.injEq, Value.int.injEq, true_and]
  by_cases h : b < a
  · rw [if_pos (by omega), Nat.min_eq_right (by omega)]
  · rw [if_neg (by omega), Nat.min_eq_left (by omega)]

/-- Where a byte stands first. -/
def findB (l : List UInt8) (c : UInt8) : Int := match (List.range l.length).find? fun (i : Nat) => l[i]! == c with | some i => (i : Int) | none => -1
theorem prim_ib (l : List UInt8) (c : UInt8) : primVal .ibyte [tx l, bn c.toNat] = some (.int .i64 (findB l c)) := by
  simp only [primVal, tx, bn, findB, Int.toNat_natCast]
  have e : (fun (i : Nat) => (ByteArray.mk ⟨l⟩)[i]! == c.toNat.toUInt8) = fun (i : Nat) => l[i]! == c := by
    funext i
    have e1 : c.toNat.toUInt8 = c := by simp
    have e2 : (ByteArray.mk ⟨l⟩)[i]! = l[i]! := by
      rw [getElem!_def, getElem!_def, get_tx]
    rw [e1, e2]
  rw [e]
  rfl

/-- Bytes. -/
def bl (l : List UInt8) : List AV := l.map fun b => .lit (bn b.toNat)
theorem bl_len (l : List UInt8) : (bl l).length = l.length := by simp [bl]
theorem bl_app (l m : List UInt8) : bl l ++ bl m = bl (l ++ m) := by simp [bl]
theorem bl_one (b : UInt8) : [AV.lit (bn b.toNat)] = bl [b] := rfl
theorem bytes_bl : ∀ l : List UInt8, bytesAV (bl l) = some (l.map fun b => (b.toNat : Int))
  | [] => rfl
  | b :: l => by
    show bytesAV (.lit (.int .u8 (b.toNat : Int)) :: bl l) = _
    simp only [bytesAV]
    rw [bytes_bl l]
    rfl
theorem push_all : ∀ (l : List UInt8) (a : ByteArray), (l.map fun b => (b.toNat : Int)).foldl (fun r n => r.push (UInt8.ofNat n.toNat)) a = ⟨⟨a.data.toList ++ l⟩⟩
  | [], a => by simp
  | b :: l, a => by
    rw [List.map_cons, List.foldl_cons, push_all l]
    simp [ByteArray.push, UInt8.ofNat_toNat]
theorem strOf_bl (l : List UInt8) : strOf (l.map fun b => (b.toNat : Int)) = tx l := by
  unfold strOf tx
  rw [push_all]
  rfl
def textA : AV → Option Value
  | .sl 1 els => (bytesAV els).map strOf
  | .lit (.slice none 0 0) => some (strOf [])
  | _ => none
theorem textOf_eq (s : AS) (ro : Nat → Bool) (v : AV) : s.textOf ro v = textA (s.lend ro v) := rfl
theorem textA_sl (l : List UInt8) : textA (.sl 1 (bl l)) = some (tx l) := by
  simp only [textA, bytes_bl, Option.map_some, strOf_bl]
theorem textA_nil : textA (.lit (.slice none 0 0)) = some (tx []) := rfl
noncomputable def lendRow (V : Value) : Option Blk → AV
  | some (.row _ V' esz els _) => if V' = V then .sl esz els else .any
  | _ => .any
theorem lend_own (s : AS) (ro : Nat → Bool) (b : Nat) (V : Value) : s.lend ro (.own b V) = if ro b then lendRow V (s.blk b) else .any := by
  simp only [AS.lend]
  cases ro b
  · rfl
  · simp only [if_true]
    generalize s.blk b = x
    cases x with
    | none => rfl
    | some x => cases x <;> rfl
theorem lendRow_row (e : TypeId) (V : Value) (esz : Nat) (els : List AV) (k : Nat) : lendRow V (some (.row e V esz els k)) = .sl esz els := by simp [lendRow]
theorem lend_sl (s : AS) (ro : Nat → Bool) (esz : Nat) (els : List AV) : s.lend ro (.sl esz els) = .sl esz els := rfl
theorem lend_lit (s : AS) (ro : Nat → Bool) (v : Value) : s.lend ro (.lit v) = .lit v := rfl

theorem bin_adds (a b : List UInt8) (h : a.length + b.length < 9223372036854775808) : binVal .add (tx a) (tx b) = some (tx (a ++ b)) := by
  simp only [binVal, tx]
  rw [if_neg]
  · congr 2
  · show ¬ (((a.length + b.length : Nat) : Int) > 9223372036854775807)
    omega
theorem list_tx (a : List UInt8) : (ByteArray.mk ⟨a⟩).toList = a := by
  rw [ByteArray.toList_eq]
theorem bin_eqls (a b : List UInt8) : binVal .eql (tx a) (tx b) = some (.bool (decide (a = b))) := by
  simp only [binVal, tx, list_tx, Option.some.injEq, Value.bool.injEq]
  rw [Bool.eq_iff_iff]; simp
theorem bin_neqs (a b : List UInt8) : binVal .neq (tx a) (tx b) = some (.bool (decide (a ≠ b))) := by
  simp only [binVal, tx, list_tx, Option.some.injEq, Value.bool.injEq]
  rw [Bool.eq_iff_iff]; simp

theorem bin_geq8 (a b : Nat) : binVal .geq (bn a) (bn b) = some (.bool (decide (b ≤ a))) := by simp [binVal, bn]
theorem bin_leq8 (a b : Nat) : binVal .leq (bn a) (bn b) = some (.bool (decide (a ≤ b))) := by simp [binVal, bn]
theorem bin_lss8 (a b : Nat) : binVal .lss (bn a) (bn b) = some (.bool (decide (a < b))) := by simp [binVal, bn]
theorem bin_gtr8 (a b : Nat) : binVal .gtr (bn a) (bn b) = some (.bool (decide (b < a))) := by simp [binVal, bn]
theorem bin_neq8 (a b : Nat) : binVal .neq (bn a) (bn b) = some (.bool (decide (a ≠ b))) := by
  simp only [binVal, bn, ne_eq, not_true_eq_false, if_false, Option.some.injEq, Value.bool.injEq]; rw [Bool.eq_iff_iff]; simp; try omega
theorem bin_sub8 (a b : Nat) (h : b ≤ a) (h2 : a < 256) : binVal .sub (bn a) (bn b) = some (bn (a - b)) := by
  simp only [binVal, bn, ne_eq, not_true_eq_false, if_false]
  rw [← Int.ofNat_sub h, wrap_u8, Nat.mod_eq_of_lt (by omega)]
theorem bin_quo8 (a b : Nat) (h : b ≠ 0) (h2 : a < 256) : binVal .quo (bn a) (bn b) = some (bn (a / b)) := by
  simp only [binVal, bn, ne_eq, not_true_eq_false, if_false]
  have := Nat.div_le_self a b
  rw [if_neg (by omega), ← Int.ofNat_tdiv, wrap_u8, Nat.mod_eq_of_lt (by omega)]
theorem bin_add8 (a b : Nat) (h : a + b < 256) : binVal .add (bn a) (bn b) = some (bn (a + b)) := by
  simp only [binVal, bn, ne_eq, not_true_eq_false, if_false]
  rw [← Int.natCast_add, wrap_u8, Nat.mod_eq_of_lt h]
theorem bin_mulj (a b : Nat) (h : a * b < 9223372036854775808) : binVal .mul (jn a) (jn b) = some (jn (a * b)) := by
  simp only [binVal, jn, ne_eq, not_true_eq_false, if_false]
  rw [← Int.natCast_mul, wrap_i64 (by have : (0 : Int) ≤ ((a * b : Nat) : Int) := Int.natCast_nonneg _; omega) (by have : ((a * b : Nat) : Int) < (9223372036854775808 : Nat) := Int.ofNat_lt.2 h; exact this)]
theorem cvt_j8 (n : Nat) (h : n < 256) : cvtA .i64 (.lit (bn n)) = some (.lit (jn n)) := by
  simp only [cvtA, bn]; rw [wrap_i64 (by omega) (by omega)]; rfl
theorem cvt_8j (n : Nat) : cvtA .u8 (.lit (jn n)) = some (.lit (bn (n % 256))) := by simp only [cvtA, jn, wrap_u8]; rfl

/-- What a hexadecimal digit stands for. -/
def hx (b : UInt8) : Option Nat := if 48 ≤ b.toNat ∧ b.toNat ≤ 57 then some (b.toNat - 48) else if 97 ≤ b.toNat ∧ b.toNat ≤ 102 then some (b.toNat - 87) else none
/-- .. as a number; -1: nothing. -/
def hv (o : Option Nat) : Value := .int .i64 (match o with | some n => (n : Int) | none => -1)
theorem hv_some (n : Nat) : hv (some n) = jn n := rfl
theorem hx_lt {b : UInt8} {n : Nat} (h : hx b = some n) : n < 16 := by
  unfold hx at h; split at h
  · cases h; omega
  · split at h
    · cases h; omega
    · cases h

theorem u8_all {p : UInt8 → Prop} [DecidablePred p] (h : ∀ n : _root_.Fin 256, p (UInt8.ofNat n.val)) (b : UInt8) : p b := by
  have := h ⟨b.toNat, b.toNat_lt⟩
  simpa using this
theorem half_eq (b : UInt8) : Value.int .i64 (findB [48, 49, 50, 51, 52, 53, 54, 55, 56, 57, 97, 98, 99, 100, 101, 102] b) = hv (hx b) := by
  unfold hv
  congr 1
  revert b
  refine u8_all ?_
  decide +kernel
/-- Signs. -/
def signB (b : UInt8) : Bool := [40, 41, 123, 125, 44, 59, 61, 60, 62, 43, 45, 42, 47, 37, 38, 124, 33].contains b
theorem sign_eq (b : UInt8) : decide (0 ≤ findB [40, 41, 123, 125, 44, 59, 61, 60, 62, 43, 45, 42, 47, 37, 38, 124, 33] b) = signB b := by
  revert b
  refine u8_all ?_
  decide +kernel
theorem geq_hv (x : Int) : binVal .geq (.int .i64 x) (jn 0) = some (.bool (decide (0 ≤ x))) := by simp [binVal, jn]
theorem lss_hv (o : Option Nat) : binVal .lss (hv o) (jn 0) = some (.bool o.isNone) := by
  cases o with
  | none => simp [binVal, jn, hv]
  | some n => simp [binVal, jn, hv]
theorem bin_shlj4 (a : Nat) (h : a < 16) : binVal .shl (jn a) (un 4) = some (jn (a * 16)) := by
  simp only [jn, un]
  rw [shl_any, wrap_i64 (by have : (0:Int) ≤ ((a * 2 ^ min 4 IntKind.i64.bits : Nat) : Int) := Int.natCast_nonneg _; omega) (by simp [IntKind.bits]; try omega)]
  simp [IntKind.bits]
theorem bin_orj (a b : Nat) (ha : a < 16) (hb : b < 16) : binVal .or (jn (a * 16)) (jn b) = some (jn (a * 16 + b)) := by
  have h : ∀ a b : _root_.Fin 16, (BitVec.ofInt 64 ((a.val * 16 : Nat) : Int) ||| BitVec.ofInt 64 (b.val : Int)).toNat = a.val * 16 + b.val := by decide +kernel
  have h2 := h ⟨a, ha⟩ ⟨b, hb⟩
  simp only at h2
  show some (Value.int .i64 (IntKind.i64.wrap (((BitVec.ofInt 64 ((a * 16 : Nat) : Int) ||| BitVec.ofInt 64 (b : Int)).toNat : Nat) : Int))) = _
  rw [h2, wrap_i64 (by omega) (by omega)]
  rfl
end Go.Cab

/- Free kit: steps of calls by what stands there; maps, rows; blocks in other places. -/
-- TEXTS
namespace Go.Cab
open Classical

section
variable {P : Program} {s : AS} {K : AS → Prop} {xs : List AOp} {ro : Nat → Bool}

theorem ex_rdp (g : RdOp) (ys : List Operand) : (AI.rdp g ys).ex ro s = rdB (fun _ => none) g (ys.map fun x => s.ev x) := rfl
theorem ex_rd (g : RdOp) (ys : List Operand) : (AI.rd g ys).ex ro s = rdB (fun b => if ro b then s.blk b else none) g (ys.map fun x => s.ev x) := rfl

theorem areg_mkmap {d : Tmp} {fo : List Tmp} {ow : Option Tmp}
    (h : ∀ r, AReg P xs ⟨s.nr, s.tm.set d (.own (s.nr + d) (.map (some r))), s.hp.set (s.nr + d) (some (.map r [] 0))⟩ K) : AReg P (⟨some d, none, .ef .mkmap [], fo, ow⟩ :: xs) s K := by
  unfold AReg AOp.go
  simp only [AI.go]
  refine ⟨by cases ow <;> trivial, fun V => ⟨_, _, rfl, h _⟩⟩

theorem areg_bown {d e esz n : Nat} {z : AV} {idx : List Nat} {ys : List Operand} {fo : List Tmp} {ow : Option Tmp} {vs els : List AV} {k : Nat} (ha : (ys.map fun x => s.ev x) = vs)
    (hf : fillV (.arr esz (List.replicate n z)) (idx.zip vs) = some (.arr k els)) (hl : AOp.leaves ⟨some d, none, .ef (.bown e esz z n idx) ys, fo, ow⟩ s .any)
    (h : ∀ V, AReg P xs ⟨s.nr, s.tm.set d (.own (s.nr + d) V), s.hp.set (s.nr + d) (some (.row e V esz els 0))⟩ K) : AReg P (⟨some d, none, .ef (.bown e esz z n idx) ys, fo, ow⟩ :: xs) s K := by
  subst ha
  unfold AReg AOp.go
  simp only [AI.go]
  refine ⟨by cases ow <;> exact hl, fun V => ⟨.own (s.nr + d) V, s.hp.set (s.nr + d) (some (.row e V esz els 0)), ?_, h V⟩⟩
  simp only [efA, hf, AS.slot, Option.getD_some]

/-- Appended to a row of the call's own. -/
theorem areg_app {d e esz bytes : Nat} {str : Bool} {x y : Operand} {fo : List Tmp} {ow : Option Tmp} {b sl : Nat} {V : Value} {els ys : List AV} (hx : s.ev x = .own b V) (hb : s.blk b = some (.row e V esz els sl))
    (hy : listB (fun b => (s.hp[b]?).join) esz (s.ev y) = some ys) (hs : (s.ev y).isText = str) (h1 : els.length + ys.length ≤ maxLen) (h2 : (els.length + ys.length) * bytes ≤ 140737488355328)
    (hl : AOp.leaves ⟨some d, none, .ef (.app e esz bytes str) [x, y], fo, ow⟩ s (.own b V))
    (h : ∀ V', AReg P xs ⟨s.nr, s.tm.set d (.own (s.nr + d) V'), (s.hp.set b none).set (s.nr + d) (some (.row e V' esz (els ++ ys) sl))⟩ K) : AReg P (⟨some d, none, .ef (.app e esz bytes str) [x, y], fo, ow⟩ :: xs) s K := by
  unfold AReg AOp.go
  simp only [AI.go]
  refine ⟨by rw [← hx] at hl; cases ow <;> exact hl, fun V' => ⟨.own (s.nr + d) V', (s.hp.set b none).set (s.nr + d) (some (.row e V' esz (els ++ ys) sl)), ?_, h V'⟩⟩
  unfold AS.blk at hb
  simp only [efA, List.map_cons, List.map_nil, hx, rowB, hb, hy, and_self, if_true, hs, h1, h2, hpDrop, AS.slot, Option.getD_some]

theorem areg_nil0 {d : Option Tmp} {neg : Bool} {x : Operand} {fo : List Tmp} {ow : Option Tmp} (hx : s.ev x = .lit (.slice none 0 0)) (h : AReg P xs (s.put d (.lit (.bool (!neg)))) K) : AReg P (⟨d, none, .ef (.isnil neg) [x], fo, ow⟩ :: xs) s K := by
  unfold AReg AOp.go
  simp only [AI.go]
  refine ⟨by cases ow <;> trivial, fun V => ⟨.lit (.bool (!neg)), s.hp, ?_, ?_⟩⟩
  · simp only [efA, List.map_cons, List.map_nil, hx, nilA, Option.map_some]
    cases neg <;> rfl
  · have e : ({ s.put d (.lit (.bool (!neg))) with hp := s.hp } : AS) = s.put d (.lit (.bool (!neg))) := by cases d <;> rfl
    rw [e]; exact h
theorem areg_nils {d : Option Tmp} {neg : Bool} {x : Operand} {fo : List Tmp} {ow : Option Tmp} {esz : Nat} {els : List AV} (hx : s.ev x = .sl esz els)
    (h : ∀ b, (b = true → els = []) → AReg P xs (s.put d (.lit (.bool (if neg then !b else b)))) K) : AReg P (⟨d, none, .ef (.isnil neg) [x], fo, ow⟩ :: xs) s K := by
  unfold AReg AOp.go
  simp only [AI.go]
  refine ⟨by cases ow <;> trivial, fun V => ?_⟩
  obtain ⟨b, hb, hbe⟩ : ∃ b, nilA V (.sl esz els) = some b ∧ (b = true → els = []) := by
    cases els with
    | nil => exact ⟨_, rfl, fun _ => rfl⟩
    | cons a l => exact ⟨false, rfl, fun h => by cases h⟩
  refine ⟨.lit (.bool (if neg then !b else b)), s.hp, ?_, ?_⟩
  · simp only [efA, List.map_cons, List.map_nil, hx, hb, Option.map_some]
  · have e : ∀ v, ({ s.put d v with hp := s.hp } : AS) = s.put d v := fun v => by cases d <;> rfl
    rw [e]; exact h b hbe

/-- What is turned in place. -/
theorem areg_ef0 {d : Option Tmp} {g : EfOp} {ys : List Operand} {fo : List Tmp} {ow : Option Tmp} {us : List AV} {r : AV} {hp' : List (Option Blk)} (ha : (ys.map fun x => s.ev x) = us) (hu : efF s.hp g us = some (r, hp'))
    (h : AReg P xs { s.put d r with hp := hp' } K) : AReg P (⟨d, none, .ef g ys, fo, ow⟩ :: xs) s K := by
  subst ha
  have hm : AOp.mine ⟨d, none, .ef g ys, fo, ow⟩ s := by
    unfold AOp.mine
    cases ow <;> cases g <;> first | trivial | (simp [efF] at hu; done)
  unfold AReg AOp.go
  simp only [AI.go]
  exact ⟨hm, fun V => ⟨r, hp', efA_of hu _ V, h⟩⟩

/-- A call by what stands there, upon the caller's own blocks. -/
theorem areg_xq {d : Option Tmp} {g : XT} {ys : List Operand} {keep : List Tmp} {fo : List Tmp} {ow : Option Tmp} {us vs : List AV} {f : FuncId} {K' : AV → List (Option Blk) → Prop} (ha : (ys.map fun x => s.ev x) = us) (ht : tgtA P g us = some (f, vs)) (hc : XCall P f vs s.hp K') (hn : ∃ r hp', K' r hp')
    (hk : ∀ r hp', K' r hp' → keepOk s keep hp') (h : ∀ r hp', K' r hp' → AReg P xs { s.put d r with hp := hp' } K) : AReg P (⟨d, none, .xc g ys keep [], fo, ow⟩ :: xs) s K := by
  subst ha
  unfold AReg AOp.go
  simp only [AI.go]
  refine ⟨by cases ow <;> trivial, f, vs, ht, K', fun E hE => ?_, hn, fun r hp' hK => ⟨hk r hp' hK, .inl trivial⟩, by simp, h⟩
  cases E with
  | nil =>
    intro w0 w regs Imm0 Vs a1 a2 a3 a4
    exact Calls.mono (hc w0 w regs Imm0 Vs a1 a2 a3 a4) fun e w' ⟨V, r, hp', Imm', he, hk, rest⟩ => ⟨V, r, hp', Imm', he, ⟨hp', hk, rfl⟩, rest⟩
  | cons e E => exact absurd (hE e (by simp)) (by simp)

/-- .. beside new variables. -/
theorem areg_xf {d : Option Tmp} {g : XT} {ys : List Operand} {keep fresh : List Tmp} {fo : List Tmp} {ow : Option Tmp} {us vs : List AV} {f : FuncId} {K' : AV → List (Option Blk) → Prop} (ha : (ys.map fun x => s.ev x) = us) (ht : tgtA P g us = some (f, vs))
    (hc : ∀ E, (∀ e ∈ E, e.1 ∈ fresh) → XCall P f vs (setE s.nr s.hp E) fun r H' => ∃ hp', K' r hp' ∧ H' = setE s.nr hp' E) (hn : ∃ r hp', K' r hp') (hlt : ∀ t ∈ fresh, s.nr + t < s.hp.length)
    (hk : ∀ r hp', K' r hp' → keepOk s keep hp' ∧ s.hp.length ≤ hp'.length) (h : ∀ r hp', K' r hp' → AReg P xs { s.put d r with hp := hp' } K) : AReg P (⟨d, none, .xc g ys keep fresh, fo, ow⟩ :: xs) s K := by
  subst ha
  unfold AReg AOp.go
  simp only [AI.go]
  exact ⟨by cases ow <;> trivial, f, vs, ht, K', hc, hn, fun r hp' hK => ⟨(hk r hp' hK).1, .inr (hk r hp' hK).2⟩, hlt, h⟩

/-- A function of lists, called so. -/
theorem PCall.x {f : FuncId} {args : List AV} {v : AV} (hp : List (Option Blk)) (h : PCall P f args (.val v)) : XCall P f args hp fun r H => r = v ∧ H = hp := by
  intro w0 w regs Imm0 Vs hfr hth hheap hargs
  refine Calls.mono (h w Imm0 Vs hth hargs) ?_
  rintro e w' ⟨V, Imm, he, hfr', hI, hR⟩
  exact ⟨V, v, hp, Imm, he, ⟨rfl, rfl⟩, hfr.trans (hfr'.any _), ⟨hI.sub, fun b o hb hlt => hI.old b o hb (Nat.lt_of_lt_of_le hlt hfr.size), hI.there, hI.val⟩, hR.1, hR.2, hheap.grow hfr' hI.sub hI.old hth⟩
end

/-- Blocks at the end are forgotten. -/
theorem Le.trim {s : AS} {A R : List (Option Blk)} (h : s.hp = A ++ R) : Le s ⟨s.nr, s.tm, A⟩ := by
  refine Le.gen rfl (fun t v' hv => .inr (.inl hv)) (fun k => k) (fun k k' x y _ _ e => e) (fun k x hx => ⟨x, ?_, BlkLe.refl _⟩)
  rw [h]
  by_cases hk : k < A.length
  · rw [List.getElem?_append_left hk]; exact hx
  · simp only at hx; rw [List.getElem?_eq_none (by omega)] at hx; cases hx
theorem finX1 {t : Tmp} {s : AS} {v : AV} {K : AV → List (Option Blk) → Prop} (h : RVal s (.tmp t) = some v) (hv : v ≠ .any) (hk : K v s.hp) : FinX [.tmp t] s K := ⟨[], v, ⟨h, hv⟩, hk⟩
theorem leH_refl : ∀ l : List (Option Blk), leH l l
  | [] => trivial
  | _ :: l => ⟨.inr rfl, leH_refl l⟩
theorem Le.tmp {s s' : AS} (hn : s'.nr = s.nr) (ht : leT s.tm s'.tm) (hh : s'.hp = s.hp) : Le s s' := Le.mk hn ht (by rw [hh]; exact leH_refl _)


/-- Temporaries, with lists of the call's own in other places. -/
def leO : List AV → List AV → Prop
  | [], [] => True
  | v :: vs, u :: us => (u = .any ∨ u = v ∨ ∃ i j V, v = .own i V ∧ u = .own j V) ∧ leO vs us
  | _, _ => False
theorem leO_get : ∀ {x y : List AV}, leO x y → y.length = x.length ∧ ∀ (t : Nat) (u : AV), y[t]? = some u → u = .any ∨ x[t]? = some u ∨ ∃ i j V, x[t]? = some (.own i V) ∧ u = .own j V
  | [], [], _ => ⟨rfl, fun t u h => by simp at h⟩
  | v :: vs, w :: us, h => by
    obtain ⟨h1, h2⟩ := leO_get h.2
    refine ⟨by simp [h1], fun t u hu => ?_⟩
    cases t with
    | zero =>
      simp only [List.getElem?_cons_zero, Option.some.injEq] at hu ⊢
      subst hu
      rcases h.1 with e | e | ⟨i, j, V, e1, e2⟩
      · exact .inl e
      · exact .inr (.inl e.symm)
      · exact .inr (.inr ⟨i, j, V, e1, e2⟩)
    | succ t => exact h2 t u (by simpa using hu)
  | [], _ :: _, h => h.elim
  | _ :: _, [], h => h.elim

/-- A row is moved to another place behind the caller's blocks. -/
theorem Le.mvR {s s' : AS} {A R : List (Option Blk)} {d d' m : Nat} {Y : Blk} (hs : s.hp = A ++ R) (hs' : s'.hp = A ++ (List.replicate m none).set d' (some Y)) (hd : R[d]? = some (some Y)) (ht : leO s.tm s'.tm) : Le s s' := by
  obtain ⟨hl, hg⟩ := leO_get ht
  have key : ∀ (k : Nat) (x : Blk), ((s'.hp[k]?).join = some x) → (k < A.length ∧ (s.hp[k]?).join = some x) ∨ (k = A.length + d' ∧ x = Y) := fun k x hx => by
    rw [hs'] at hx
    by_cases hk : k < A.length
    · rw [List.getElem?_append_left hk] at hx
      exact .inl ⟨hk, by rw [hs, List.getElem?_append_left hk]; exact hx⟩
    · rw [List.getElem?_append_right (by omega)] at hx
      by_cases hkd : d' = k - A.length
      · rw [← hkd, List.getElem?_set] at hx
        simp only [if_true] at hx
        split at hx
        · simp only [Option.join_some, Option.some.injEq] at hx
          exact .inr ⟨by omega, hx.symm⟩
        · cases hx
      · rw [List.getElem?_set_ne hkd, List.getElem?_replicate] at hx
        split at hx <;> simp at hx
  refine Le.gen hl hg (fun k => if k = A.length + d' then A.length + d else k) (fun k k' x y hx hy e => ?_) (fun k x hx => ?_)
  · have e1 : ∀ k, k < A.length → (if k = A.length + d' then A.length + d else k) = k := fun k h => if_neg (by omega)
    have e2 : (if A.length + d' = A.length + d' then A.length + d else A.length + d') = A.length + d := if_pos rfl
    rcases key k x hx with ⟨h1, _⟩ | ⟨h1, _⟩ <;> rcases key k' y hy with ⟨h2, _⟩ | ⟨h2, _⟩
    · rwa [e1 k h1, e1 k' h2] at e
    · subst h2; rw [e1 k h1, e2] at e; omega
    · subst h1; rw [e1 k' h2, e2] at e; omega
    · rw [h1, h2]
  · rcases key k x hx with ⟨h1, h2⟩ | ⟨rfl, rfl⟩
    · rw [if_neg (by omega)]
      exact ⟨x, h2, BlkLe.refl _⟩
    · rw [if_pos rfl]
      refine ⟨_, ?_, BlkLe.refl _⟩
      rw [hs, List.getElem?_append_right (by omega), Nat.add_sub_cancel_left, hd]
      rfl
end Go.Cab

/- Free kit: Clone, four, name; keys compared. -/
-- TEXTS
-- KIT
namespace Go.Cab
def fb420 : AC := (.seq (.reg [⟨(.some 2), .none, (.mov (.const (.slice .none 0 0))), [], .none⟩]) (.seq (.seq (.reg [⟨(.some 3), .none, (.mov (.tmp 0)), [], .none⟩, ⟨(.some 4), .none, (.ef (.isnil .false) [(.tmp 3)]), [], .none⟩]) (.cond (.tmp 4) (.seq (.reg [⟨(.some 2), .none, (.mov (.const (.slice .none 0 0))), [], .none⟩]) .ret) .skip)) (.seq (.reg [⟨(.some 5), .none, (.ef (.bown 28 32 (.arr 1 (List.replicate 32 (.lit (bn 0)))) 0 []) []), [], .none⟩, ⟨(.some 6), .none, (.mov (.tmp 0)), [], .none⟩, ⟨(.some 7), .none, (.append 28 32 32 (.tmp 5) (.tmp 6)), [], .none⟩, ⟨(.some 2), .none, (.mov (.tmp 7)), [], .none⟩]) .ret)))
def fc420 : FC := ⟨1, 8, [(.tmp 2)], fb420⟩
theorem fc420_eq : compF Go.Proofs.Try.prog 15 = some fc420 := by kernel_rfl
def fb434 : AC := (.seq (.reg [⟨(.some 2), .none, (.mov (.const (.slice .none 0 0))), [], .none⟩]) (.seq (.reg [⟨(.some 3), .none, (.mov (.tmp 0)), [], .none⟩, ⟨(.some 4), .none, (.bin .shr (.tmp 3) (.const (un 24))), [], .none⟩, ⟨(.some 5), .none, (.cvt .u8 (.tmp 4)), [], .none⟩, ⟨(.some 6), .none, (.mov (.tmp 0)), [], .none⟩, ⟨(.some 7), .none, (.bin .shr (.tmp 6) (.const (un 16))), [], .none⟩, ⟨(.some 8), .none, (.cvt .u8 (.tmp 7)), [], .none⟩, ⟨(.some 9), .none, (.mov (.tmp 0)), [], .none⟩, ⟨(.some 10), .none, (.bin .shr (.tmp 9) (.const (un 8))), [], .none⟩, ⟨(.some 11), .none, (.cvt .u8 (.tmp 10)), [], .none⟩, ⟨(.some 12), .none, (.mov (.tmp 0)), [], .none⟩, ⟨(.some 13), .none, (.cvt .u8 (.tmp 12)), [], .none⟩, ⟨(.some 14), .none, (.bslice 1 (.lit (bn 0)) 4 [(0, (.tmp 5)), (1, (.tmp 8)), (2, (.tmp 11)), (3, (.tmp 13))]), [], .none⟩, ⟨(.some 2), .none, (.mov (.tmp 14)), [], .none⟩]) .ret))
def fc434 : FC := ⟨1, 15, [(.tmp 2)], fb434⟩
theorem fc434_eq : compF Go.Proofs.Try.prog 29 = some fc434 := by kernel_rfl
def fb430 : AC := (.seq (.reg [⟨(.some 2), .none, (.alloc 32 (.arr 1 (List.replicate 32 (.lit (bn 0))))), [], .none⟩]) (.seq (.reg [⟨(.some 3), .none, (.alloc 32 (.arr 1 (List.replicate 32 (.lit (bn 0))))), [], .none⟩]) (.seq (.reg [⟨(.some 4), .none, (.rdp (.vslice 1 32 .false .false) [(.tmp 3)]), [], .none⟩, ⟨(.some 5), .none, (.ef (.copy 1) [(.tmp 4), (.const (tx [116, 101, 114, 109]))]), [], .none⟩, ⟨(.some 6), .none, (.rdp (.vslice 1 32 .true .false) [(.tmp 3), (.tmp 5)]), [], .none⟩, ⟨(.some 7), .none, (.mov (.tmp 0)), [], .none⟩, ⟨(.some 8), .none, (.callv 29 [(.tmp 7)]), [], .none⟩, ⟨(.some 9), .none, (.ef (.copy 1) [(.tmp 6), (.tmp 8)]), [], .none⟩]) (.seq (.reg [⟨(.some 10), .none, (.load .true 32 (.tmp 3)), [], .none⟩, ⟨.none, .none, (.store 32 (.tmp 2) (.tmp 10)), [], .none⟩]) .ret))))
def fc430 : FC := ⟨1, 11, [(.cell 2 .true 32)], fb430⟩
theorem fc430_eq : compF Go.Proofs.Try.prog 25 = some fc430 := by kernel_rfl

/-- A key of 32 bytes. -/
def keyA (k : List UInt8) : AV := .arr 1 (bl k)
theorem keyA_arr (k : List UInt8) : keyA k = .arr 1 (bl k) := rfl
theorem keyA_agg (k : List UInt8) : (keyA k).isAgg = true := rfl
theorem keyA_tup (k : List UInt8) : (keyA k).isTup = false := rfl
theorem keyA_sz (k : List UInt8) : (keyA k).sz = k.length := by simp [keyA, AV.sz, bl]
/-- The key of zeros. -/
def zk : List UInt8 := List.replicate 32 0
theorem zk_len : zk.length = 32 := rfl
theorem zk_eq : keyA zk = .arr 1 (List.replicate 32 (.lit (bn 0))) := by simp [keyA, bl, zk]
theorem bl_rep (n : Nat) : List.replicate n (AV.lit (bn 0)) = bl (List.replicate n 0) := by simp [bl]
theorem bin_shrju (a b : Nat) : binVal .shr (jn a) (un b) = some (jn (a / 2 ^ min b 64)) := by
  simp only [jn, un]; rw [shr_any]; rfl
theorem bin_shlju (a b : Nat) (h : a * 2 ^ min b 64 < 9223372036854775808) : binVal .shl (jn a) (un b) = some (jn (a * 2 ^ min b 64)) := by
  simp only [jn, un]; rw [shl_any, wrap_i64 (by have : (0:Int) ≤ ((a * 2 ^ min b IntKind.i64.bits : Nat) : Int) := Int.natCast_nonneg _; omega) (by show ((a * 2 ^ min b 64 : Nat) : Int) < _; omega)]
  rfl
theorem listB_tx (blk : Nat → Option Blk) (l : List UInt8) : listB blk 1 (.lit (tx l)) = some (bl l) := rfl
theorem listB_sl (blk : Nat → Option Blk) (k : Nat) (els : List AV) : listB blk k (.sl k els) = some els := by simp [listB]
theorem listB_nil (blk : Nat → Option Blk) (k : Nat) : listB blk k (.lit (.slice none 0 0)) = some [] := rfl
theorem ex_tups (vs : List AV) (i : Nat) : (match AV.tup vs with | .tup vs => vs[i]? | _ => none) = vs[i]? := rfl

theorem take_bl (n : Nat) (l : List UInt8) : (bl l).take n = bl (l.take n) := by simp [bl]
theorem drop_bl (n : Nat) (l : List UInt8) : (bl l).drop n = bl (l.drop n) := by simp [bl]
/-- Bytes are copied into a key. -/
theorem copy_key {hp : List (Option Blk)} {b lo len cap n : Nat} {l : Nat × Nat} {k src : List UInt8} {y : AV} (hb : (hp[b]?).join = some (.box l n (keyA k))) (hy : listB (fun b => (hp[b]?).join) 1 y = some (bl src)) (h1 : lo + len ≤ k.length) (h2 : src.length ≤ len) :
    copyA hp 1 (.view b l lo [] 1 lo len cap) y = some (.lit (jn src.length), hp.set b (some (.box l n (keyA (k.take lo ++ src ++ k.drop (lo + src.length)))))) := by
  simp only [copyA, hy, hb, and_self, if_true, keyA, AV.nav]
  rw [if_pos ⟨trivial, by omega, by rw [bl_len]; exact h1⟩]
  have e1 : min len (bl src).length = src.length := by rw [bl_len]; omega
  rw [e1, take_bl, take_bl, drop_bl, bl_app, bl_app, List.take_of_length_le h2]
  simp only [AV.upd]
  rfl
theorem areg_cpk {P : Program} {s : AS} {K : AS → Prop} {xs : List AOp} {d : Option Tmp} {x y : Operand} {fo : List Tmp} {ow : Option Tmp} {b lo len cap n : Nat} {l : Nat × Nat} {k src k' : List UInt8} (hx : s.ev x = .view b l lo [] 1 lo len cap) (hb : s.blk b = some (.box l n (keyA k))) (hy : listB (fun b => (s.hp[b]?).join) 1 (s.ev y) = some (bl src))
    (h1 : lo + len ≤ k.length) (h2 : src.length ≤ len) (hk : k.take lo ++ src ++ k.drop (lo + src.length) = k') (h : AReg P xs { s.put d (.lit (jn src.length)) with hp := s.hp.set b (some (.box l n (keyA k'))) } K) : AReg P (⟨d, none, .ef (.copy 1) [x, y], fo, ow⟩ :: xs) s K :=
  by subst hk; exact areg_ef0 (us := [.view b l lo [] 1 lo len cap, s.ev y]) (by simp [hx]) (copy_key (cap := cap) hb hy h1 h2) h

theorem listB_key {blk : Nat → Option Blk} {b lo len cap n : Nat} {l : Nat × Nat} {k : List UInt8} (hb : blk b = some (.box l n (keyA k))) (h1 : lo + len ≤ k.length) : listB blk 1 (.view b l lo [] 1 lo len cap) = some (bl ((k.drop lo).take len)) := by
  unfold listB keyA at *
  simp only [hb, Blk.loc, Blk.cont, AV.nav, if_true]
  rw [if_pos ⟨trivial, by omega, by rw [bl_len]; exact h1⟩, drop_bl, take_bl]

/-- A number's bytes. -/
def four (n : Nat) : List UInt8 := [UInt8.ofNat (n / 16777216), UInt8.ofNat (n / 65536), UInt8.ofNat (n / 256), UInt8.ofNat n]
theorem four_len (n : Nat) : (four n).length = 4 := rfl
/-- A term's name. -/
def nameK (n : Nat) : List UInt8 := [116, 101, 114, 109] ++ four n ++ List.replicate 24 0
theorem nameK_len (n : Nat) : (nameK n).length = 32 := by simp [nameK, four]
theorem bn_of (x : Nat) : AV.lit (bn (x % 256)) = .lit (bn (UInt8.ofNat x).toNat) := by simp

set_option maxHeartbeats 1000000 in
theorem four_call (n : Nat) (hn : n < 9223372036854775808) : PCall Go.Proofs.Try.prog 29 [.lit (jn n)] (.val (.sl 1 (bl (four n)))) := by
  have h434 := fc434_eq
  refine PCall.of h434 rfl ?_; show AC.wp _ fb434 (AS.init [.lit (jn n)] 1 15) (fun x s => match x with | .exit _ => False | _ => Fin [(.tmp 2)] s _); unfold fb434 AS.init
  refine wp_sr (by simp [runPre, AOp.ex, AOp.ex0, ex_mov, ex_bin, binA_lit, ex_cvt, ex_iaddrA, ex_iaddrS, ex_faddr, ex_load, ldA, ex_ext, ex_add64, add64A_un, ex_pick, ex_beq, ex_un, ex_len, lenA_sl, lenA_nil, lenA_str, lenA_own, lenRow_row, elA_own, elA_sl, elRow_row, ex_nilc, ex_build, ex_bslice, ex_fieldv, AOp.ro, AS.ev, AS.put, AS.fieldAddr, idxA_ptr, idxA_cptr, AS.peek, AS.poke, AS.blk, AS.setBlk, AV.nav, AV.upd, Blk.loc, Blk.cont, Blk.n, Blk.may, Blk.upd, AV.isAgg, AV.isTup, AV.sz, unVal, ownOk, fillAV, AV.sub, cvt_64j, cvt_64b, cvt_64w, cvt_8u, cvt_8w, bin_add64, bin_mul64, bin_sub64, bin_and51, bin_and32, bin_and1, bin_and8_1, bin_or64, bin_xor64, bin_or8, bin_shl64, bin_shl64j, bin_shr64, bin_shr64j, bin_shl8j, bin_shr8j, bin_quo64, bin_rem64, bin_quo32, bin_rem32, bin_addj, bin_subj, bin_quoj, bin_remj, bin_eqlj, bin_neqj, bin_lssj, bin_leqj, bin_gtrj, bin_geqj, bin_eql64, bin_lss64, bin_gtr64, bin_eql8, bin_rem8, lenA_tx, ex_prim, primA_some, AS.lits, prim_ix, prim_sub, prim_sub2, prim_min, prim_ib, ex_b2s, textOf_eq, textA_sl, textA_nil, lend_own, lendRow_row, lend_sl, lend_lit, bin_adds, bin_eqls, bin_neqs, bin_geq8, bin_leq8, bin_lss8, bin_gtr8, bin_neq8, bin_sub8, bin_quo8, bin_add8, bin_mulj, cvt_j8, cvt_8j, AOp.mineB, AV.place, ex_rdp, ex_rd, rdB, bnds, efF, bin_shrju, bin_shlju, listB_tx, listB_sl, listB_nil, ex_tups, bound_jn, AV.isText, keyA_arr, bl_len, zk_len, nameK_len]; exact rfl) (wp_sr (by simp [runPre, AOp.ex, AOp.ex0, ex_mov, ex_bin, binA_lit, ex_cvt, ex_iaddrA, ex_iaddrS, ex_faddr, ex_load, ldA, ex_ext, ex_add64, add64A_un, ex_pick, ex_beq, ex_un, ex_len, lenA_sl, lenA_nil, lenA_str, lenA_own, lenRow_row, elA_own, elA_sl, elRow_row, ex_nilc, ex_build, ex_bslice, ex_fieldv, AOp.ro, AS.ev, AS.put, AS.fieldAddr, idxA_ptr, idxA_cptr, AS.peek, AS.poke, AS.blk, AS.setBlk, AV.nav, AV.upd, Blk.loc, Blk.cont, Blk.n, Blk.may, Blk.upd, AV.isAgg, AV.isTup, AV.sz, unVal, ownOk, fillAV, AV.sub, cvt_64j, cvt_64b, cvt_64w, cvt_8u, cvt_8w, bin_add64, bin_mul64, bin_sub64, bin_and51, bin_and32, bin_and1, bin_and8_1, bin_or64, bin_xor64, bin_or8, bin_shl64, bin_shl64j, bin_shr64, bin_shr64j, bin_shl8j, bin_shr8j, bin_quo64, bin_rem64, bin_quo32, bin_rem32, bin_addj, bin_subj, bin_quoj, bin_remj, bin_eqlj, bin_neqj, bin_lssj, bin_leqj, bin_gtrj, bin_geqj, bin_eql64, bin_lss64, bin_gtr64, bin_eql8, bin_rem8, lenA_tx, ex_prim, primA_some, AS.lits, prim_ix, prim_sub, prim_sub2, prim_min, prim_ib, ex_b2s, textOf_eq, textA_sl, textA_nil, lend_own, lendRow_row, lend_sl, lend_lit, bin_adds, bin_eqls, bin_neqs, bin_geq8, bin_leq8, bin_lss8, bin_gtr8, bin_neq8, bin_sub8, bin_quo8, bin_add8, bin_mulj, cvt_j8, cvt_8j, AOp.mineB, AV.place, ex_rdp, ex_rd, rdB, bnds, efF, bin_shrju, bin_shlju, listB_tx, listB_sl, listB_nil, ex_tups, bound_jn, AV.isText, keyA_arr, bl_len, zk_len, nameK_len]; exact rfl) (wp_ret' ?_))
  refine fin_tmp ?_ (by simp)
  simp [RVal, AS.ev, AS.coe, bl, four]


set_option maxHeartbeats 2000000 in
theorem name_call (n : Nat) (hn : n < 9223372036854775808) : PCall Go.Proofs.Try.prog 25 [.lit (jn n)] (.val (keyA (nameK n))) := by
  have h430 := fc430_eq
  have c1 := four_call n hn
  refine PCall.of h430 rfl ?_; show AC.wp _ fb430 (AS.init [.lit (jn n)] 1 11) (fun x s => match x with | .exit _ => False | _ => Fin [(.cell 2 .true 32)] s _); unfold fb430 AS.init
  refine wp_sg (areg_al' zk_eq.symm fun l => areg_nil ?_)
  refine wp_sg (areg_al' zk_eq.symm fun l' => areg_nil ?_)
  refine wp_sg (areg_run 1 (by simp [runPre, AOp.ex, AOp.ex0, ex_mov, ex_bin, binA_lit, ex_cvt, ex_iaddrA, ex_iaddrS, ex_faddr, ex_load, ldA, ex_ext, ex_add64, add64A_un, ex_pick, ex_beq, ex_un, ex_len, lenA_sl, lenA_nil, lenA_str, lenA_own, lenRow_row, elA_own, elA_sl, elRow_row, ex_nilc, ex_build, ex_bslice, ex_fieldv, AOp.ro, AS.ev, AS.put, AS.fieldAddr, idxA_ptr, idxA_cptr, AS.peek, AS.poke, AS.blk, AS.setBlk, AV.nav, AV.upd, Blk.loc, Blk.cont, Blk.n, Blk.may, Blk.upd, AV.isAgg, AV.isTup, AV.sz, unVal, ownOk, fillAV, AV.sub, cvt_64j, cvt_64b, cvt_64w, cvt_8u, cvt_8w, bin_add64, bin_mul64, bin_sub64, bin_and51, bin_and32, bin_and1, bin_and8_1, bin_or64, bin_xor64, bin_or8, bin_shl64, bin_shl64j, bin_shr64, bin_shr64j, bin_shl8j, bin_shr8j, bin_quo64, bin_rem64, bin_quo32, bin_rem32, bin_addj, bin_subj, bin_quoj, bin_remj, bin_eqlj, bin_neqj, bin_lssj, bin_leqj, bin_gtrj, bin_geqj, bin_eql64, bin_lss64, bin_gtr64, bin_eql8, bin_rem8, lenA_tx, ex_prim, primA_some, AS.lits, prim_ix, prim_sub, prim_sub2, prim_min, prim_ib, ex_b2s, textOf_eq, textA_sl, textA_nil, lend_own, lendRow_row, lend_sl, lend_lit, bin_adds, bin_eqls, bin_neqs, bin_geq8, bin_leq8, bin_lss8, bin_gtr8, bin_neq8, bin_sub8, bin_quo8, bin_add8, bin_mulj, cvt_j8, cvt_8j, AOp.mineB, AV.place, ex_rdp, ex_rd, rdB, bnds, efF, bin_shrju, bin_shlju, listB_tx, listB_sl, listB_nil, ex_tups, bound_jn, AV.isText, keyA_arr, bl_len, zk_len, nameK_len]; exact rfl) ?_)
  refine areg_cpk (src := [116, 101, 114, 109]) (k' := [116, 101, 114, 109] ++ List.replicate 28 0) rfl rfl rfl (by decide) (by decide) rfl ?_
  refine areg_run 2 (by simp [runPre, AOp.ex, AOp.ex0, ex_mov, ex_bin, binA_lit, ex_cvt, ex_iaddrA, ex_iaddrS, ex_faddr, ex_load, ldA, ex_ext, ex_add64, add64A_un, ex_pick, ex_beq, ex_un, ex_len, lenA_sl, lenA_nil, lenA_str, lenA_own, lenRow_row, elA_own, elA_sl, elRow_row, ex_nilc, ex_build, ex_bslice, ex_fieldv, AOp.ro, AS.ev, AS.put, AS.fieldAddr, idxA_ptr, idxA_cptr, AS.peek, AS.poke, AS.blk, AS.setBlk, AV.nav, AV.upd, Blk.loc, Blk.cont, Blk.n, Blk.may, Blk.upd, AV.isAgg, AV.isTup, AV.sz, unVal, ownOk, fillAV, AV.sub, cvt_64j, cvt_64b, cvt_64w, cvt_8u, cvt_8w, bin_add64, bin_mul64, bin_sub64, bin_and51, bin_and32, bin_and1, bin_and8_1, bin_or64, bin_xor64, bin_or8, bin_shl64, bin_shl64j, bin_shr64, bin_shr64j, bin_shl8j, bin_shr8j, bin_quo64, bin_rem64, bin_quo32, bin_rem32, bin_addj, bin_subj, bin_quoj, bin_remj, bin_eqlj, bin_neqj, bin_lssj, bin_leqj, bin_gtrj, bin_geqj, bin_eql64, bin_lss64, bin_gtr64, bin_eql8, bin_rem8, lenA_tx, ex_prim, primA_some, AS.lits, prim_ix, prim_sub, prim_sub2, prim_min, prim_ib, ex_b2s, textOf_eq, textA_sl, textA_nil, lend_own, lendRow_row, lend_sl, lend_lit, bin_adds, bin_eqls, bin_neqs, bin_geq8, bin_leq8, bin_lss8, bin_gtr8, bin_neq8, bin_sub8, bin_quo8, bin_add8, bin_mulj, cvt_j8, cvt_8j, AOp.mineB, AV.place, ex_rdp, ex_rd, rdB, bnds, efF, bin_shrju, bin_shlju, listB_tx, listB_sl, listB_nil, ex_tups, bound_jn, AV.isText, keyA_arr, bl_len, zk_len, nameK_len]; exact rfl) ?_
  refine areg_cv (by simp [AS.ev, AS.coe, AS.put] <;> exact rfl) c1 ?_
  refine areg_cpk (src := four n) (k' := nameK n) rfl rfl (listB_sl _ _ _) (by decide) (by simp [four]) (by simp [four, nameK]) (areg_nil ?_)
  refine wp_sr (by simp [runPre, AOp.ex, AOp.ex0, ex_mov, ex_bin, binA_lit, ex_cvt, ex_iaddrA, ex_iaddrS, ex_faddr, ex_load, ldA, ex_ext, ex_add64, add64A_un, ex_pick, ex_beq, ex_un, ex_len, lenA_sl, lenA_nil, lenA_str, lenA_own, lenRow_row, elA_own, elA_sl, elRow_row, ex_nilc, ex_build, ex_bslice, ex_fieldv, AOp.ro, AS.ev, AS.put, AS.fieldAddr, idxA_ptr, idxA_cptr, AS.peek, AS.poke, AS.blk, AS.setBlk, AV.nav, AV.upd, Blk.loc, Blk.cont, Blk.n, Blk.may, Blk.upd, AV.isAgg, AV.isTup, AV.sz, unVal, ownOk, fillAV, AV.sub, cvt_64j, cvt_64b, cvt_64w, cvt_8u, cvt_8w, bin_add64, bin_mul64, bin_sub64, bin_and51, bin_and32, bin_and1, bin_and8_1, bin_or64, bin_xor64, bin_or8, bin_shl64, bin_shl64j, bin_shr64, bin_shr64j, bin_shl8j, bin_shr8j, bin_quo64, bin_rem64, bin_quo32, bin_rem32, bin_addj, bin_subj, bin_quoj, bin_remj, bin_eqlj, bin_neqj, bin_lssj, bin_leqj, bin_gtrj, bin_geqj, bin_eql64, bin_lss64, bin_gtr64, bin_eql8, bin_rem8, lenA_tx, ex_prim, primA_some, AS.lits, prim_ix, prim_sub, prim_sub2, prim_min, prim_ib, ex_b2s, textOf_eq, textA_sl, textA_nil, lend_own, lendRow_row, lend_sl, lend_lit, bin_adds, bin_eqls, bin_neqs, bin_geq8, bin_leq8, bin_lss8, bin_gtr8, bin_neq8, bin_sub8, bin_quo8, bin_add8, bin_mulj, cvt_j8, cvt_8j, AOp.mineB, AV.place, ex_rdp, ex_rd, rdB, bnds, efF, bin_shrju, bin_shlju, listB_tx, listB_sl, listB_nil, ex_tups, bound_jn, AV.isText, keyA_arr, bl_len, zk_len, nameK_len]; exact rfl) (wp_ret' ?_)
  exact fin_cell (by simp [RVal, AS.coe, tt, runPre, AOp.ex, AOp.ex0, ex_mov, ex_bin, binA_lit, ex_cvt, ex_iaddrA, ex_iaddrS, ex_faddr, ex_load, ldA, ex_ext, ex_add64, add64A_un, ex_pick, ex_beq, ex_un, ex_len, lenA_sl, lenA_nil, lenA_str, lenA_own, lenRow_row, elA_own, elA_sl, elRow_row, ex_nilc, ex_build, ex_bslice, ex_fieldv, AOp.ro, AS.ev, AS.put, AS.fieldAddr, idxA_ptr, idxA_cptr, AS.peek, AS.poke, AS.blk, AS.setBlk, AV.nav, AV.upd, Blk.loc, Blk.cont, Blk.n, Blk.may, Blk.upd, AV.isAgg, AV.isTup, AV.sz, unVal, ownOk, fillAV, AV.sub, cvt_64j, cvt_64b, cvt_64w, cvt_8u, cvt_8w, bin_add64, bin_mul64, bin_sub64, bin_and51, bin_and32, bin_and1, bin_and8_1, bin_or64, bin_xor64, bin_or8, bin_shl64, bin_shl64j, bin_shr64, bin_shr64j, bin_shl8j, bin_shr8j, bin_quo64, bin_rem64, bin_quo32, bin_rem32, bin_addj, bin_subj, bin_quoj, bin_remj, bin_eqlj, bin_neqj, bin_lssj, bin_leqj, bin_gtrj, bin_geqj, bin_eql64, bin_lss64, bin_gtr64, bin_eql8, bin_rem8, lenA_tx, ex_prim, primA_some, AS.lits, prim_ix, prim_sub, prim_sub2, prim_min, prim_ib, ex_b2s, textOf_eq, textA_sl, textA_nil, lend_own, lendRow_row, lend_sl, lend_lit, bin_adds, bin_eqls, bin_neqs, bin_geq8, bin_leq8, bin_lss8, bin_gtr8, bin_neq8, bin_sub8, bin_quo8, bin_add8, bin_mulj, cvt_j8, cvt_8j, AOp.mineB, AV.place, ex_rdp, ex_rd, rdB, bnds, efF, bin_shrju, bin_shlju, listB_tx, listB_sl, listB_nil, ex_tups, bound_jn, AV.isText, keyA_arr, bl_len, zk_len, nameK_len] <;> exact rfl) (by simp [keyA])

/-- A list that is nil may be taken for an empty one. -/
theorem PCall.nilArg {P : Program} {f : FuncId} {esz : Nat} {us : List AV} {r : Res} (h : PCall P f (.sl esz [] :: us) r) : PCall P f (.lit (.slice none 0 0) :: us) r := fun w St Vs hth ha => by
  refine h w St Vs hth ?_
  cases Vs with
  | nil => exact ha.elim
  | cons V Vs =>
    obtain ⟨h1, h2⟩ := ha
    obtain ⟨rfl, _⟩ := h1.lit
    exact ⟨.inr ⟨_, .slnil esz, rfl⟩, h2⟩

set_option maxHeartbeats 1000000 in
theorem clone_row (els : List AV) (hn : els.length < 100000) : PCall Go.Proofs.Try.prog 15 [.sl 32 els] (.row 28 32 els) := by
  have h420 := fc420_eq
  refine PCall.of h420 rfl ?_; show AC.wp _ fb420 (AS.init [.sl 32 els] 1 8) (fun x s => match x with | .exit _ => False | _ => Fin [(.tmp 2)] s _); unfold fb420 AS.init
  refine wp_sr (by simp [runPre, AOp.ex, AOp.ex0, ex_mov, ex_bin, binA_lit, ex_cvt, ex_iaddrA, ex_iaddrS, ex_faddr, ex_load, ldA, ex_ext, ex_add64, add64A_un, ex_pick, ex_beq, ex_un, ex_len, lenA_sl, lenA_nil, lenA_str, lenA_own, lenRow_row, elA_own, elA_sl, elRow_row, ex_nilc, ex_build, ex_bslice, ex_fieldv, AOp.ro, AS.ev, AS.put, AS.fieldAddr, idxA_ptr, idxA_cptr, AS.peek, AS.poke, AS.blk, AS.setBlk, AV.nav, AV.upd, Blk.loc, Blk.cont, Blk.n, Blk.may, Blk.upd, AV.isAgg, AV.isTup, AV.sz, unVal, ownOk, fillAV, AV.sub, cvt_64j, cvt_64b, cvt_64w, cvt_8u, cvt_8w, bin_add64, bin_mul64, bin_sub64, bin_and51, bin_and32, bin_and1, bin_and8_1, bin_or64, bin_xor64, bin_or8, bin_shl64, bin_shl64j, bin_shr64, bin_shr64j, bin_shl8j, bin_shr8j, bin_quo64, bin_rem64, bin_quo32, bin_rem32, bin_addj, bin_subj, bin_quoj, bin_remj, bin_eqlj, bin_neqj, bin_lssj, bin_leqj, bin_gtrj, bin_geqj, bin_eql64, bin_lss64, bin_gtr64, bin_eql8, bin_rem8, lenA_tx, ex_prim, primA_some, AS.lits, prim_ix, prim_sub, prim_sub2, prim_min, prim_ib, ex_b2s, textOf_eq, textA_sl, textA_nil, lend_own, lendRow_row, lend_sl, lend_lit, bin_adds, bin_eqls, bin_neqs, bin_geq8, bin_leq8, bin_lss8, bin_gtr8, bin_neq8, bin_sub8, bin_quo8, bin_add8, bin_mulj, cvt_j8, cvt_8j, AOp.mineB, AV.place, ex_rdp, ex_rd, rdB, bnds, efF, bin_shrju, bin_shlju, listB_tx, listB_sl, listB_nil, ex_tups, bound_jn, AV.isText, keyA_arr, bl_len, zk_len, nameK_len]; exact rfl) ?_
  refine wp_seq' (wp_seq' (wp_rg ?_))
  refine areg_run 1 (by simp [runPre, AOp.ex, AOp.ex0, ex_mov, ex_bin, binA_lit, ex_cvt, ex_iaddrA, ex_iaddrS, ex_faddr, ex_load, ldA, ex_ext, ex_add64, add64A_un, ex_pick, ex_beq, ex_un, ex_len, lenA_sl, lenA_nil, lenA_str, lenA_own, lenRow_row, elA_own, elA_sl, elRow_row, ex_nilc, ex_build, ex_bslice, ex_fieldv, AOp.ro, AS.ev, AS.put, AS.fieldAddr, idxA_ptr, idxA_cptr, AS.peek, AS.poke, AS.blk, AS.setBlk, AV.nav, AV.upd, Blk.loc, Blk.cont, Blk.n, Blk.may, Blk.upd, AV.isAgg, AV.isTup, AV.sz, unVal, ownOk, fillAV, AV.sub, cvt_64j, cvt_64b, cvt_64w, cvt_8u, cvt_8w, bin_add64, bin_mul64, bin_sub64, bin_and51, bin_and32, bin_and1, bin_and8_1, bin_or64, bin_xor64, bin_or8, bin_shl64, bin_shl64j, bin_shr64, bin_shr64j, bin_shl8j, bin_shr8j, bin_quo64, bin_rem64, bin_quo32, bin_rem32, bin_addj, bin_subj, bin_quoj, bin_remj, bin_eqlj, bin_neqj, bin_lssj, bin_leqj, bin_gtrj, bin_geqj, bin_eql64, bin_lss64, bin_gtr64, bin_eql8, bin_rem8, lenA_tx, ex_prim, primA_some, AS.lits, prim_ix, prim_sub, prim_sub2, prim_min, prim_ib, ex_b2s, textOf_eq, textA_sl, textA_nil, lend_own, lendRow_row, lend_sl, lend_lit, bin_adds, bin_eqls, bin_neqs, bin_geq8, bin_leq8, bin_lss8, bin_gtr8, bin_neq8, bin_sub8, bin_quo8, bin_add8, bin_mulj, cvt_j8, cvt_8j, AOp.mineB, AV.place, ex_rdp, ex_rd, rdB, bnds, efF, bin_shrju, bin_shlju, listB_tx, listB_sl, listB_nil, ex_tups, bound_jn, AV.isText, keyA_arr, bl_len, zk_len, nameK_len]; exact rfl) ?_
  refine areg_nils rfl fun b hb => areg_nil ?_
  cases b with
  | true =>
    obtain rfl := hb rfl
    refine wp_cond_t rfl (wp_sr (by simp [runPre, AOp.ex, AOp.ex0, ex_mov, ex_bin, binA_lit, ex_cvt, ex_iaddrA, ex_iaddrS, ex_faddr, ex_load, ldA, ex_ext, ex_add64, add64A_un, ex_pick, ex_beq, ex_un, ex_len, lenA_sl, lenA_nil, lenA_str, lenA_own, lenRow_row, elA_own, elA_sl, elRow_row, ex_nilc, ex_build, ex_bslice, ex_fieldv, AOp.ro, AS.ev, AS.put, AS.fieldAddr, idxA_ptr, idxA_cptr, AS.peek, AS.poke, AS.blk, AS.setBlk, AV.nav, AV.upd, Blk.loc, Blk.cont, Blk.n, Blk.may, Blk.upd, AV.isAgg, AV.isTup, AV.sz, unVal, ownOk, fillAV, AV.sub, cvt_64j, cvt_64b, cvt_64w, cvt_8u, cvt_8w, bin_add64, bin_mul64, bin_sub64, bin_and51, bin_and32, bin_and1, bin_and8_1, bin_or64, bin_xor64, bin_or8, bin_shl64, bin_shl64j, bin_shr64, bin_shr64j, bin_shl8j, bin_shr8j, bin_quo64, bin_rem64, bin_quo32, bin_rem32, bin_addj, bin_subj, bin_quoj, bin_remj, bin_eqlj, bin_neqj, bin_lssj, bin_leqj, bin_gtrj, bin_geqj, bin_eql64, bin_lss64, bin_gtr64, bin_eql8, bin_rem8, lenA_tx, ex_prim, primA_some, AS.lits, prim_ix, prim_sub, prim_sub2, prim_min, prim_ib, ex_b2s, textOf_eq, textA_sl, textA_nil, lend_own, lendRow_row, lend_sl, lend_lit, bin_adds, bin_eqls, bin_neqs, bin_geq8, bin_leq8, bin_lss8, bin_gtr8, bin_neq8, bin_sub8, bin_quo8, bin_add8, bin_mulj, cvt_j8, cvt_8j, AOp.mineB, AV.place, ex_rdp, ex_rd, rdB, bnds, efF, bin_shrju, bin_shlju, listB_tx, listB_sl, listB_nil, ex_tups, bound_jn, AV.isText, keyA_arr, bl_len, zk_len, nameK_len]; exact rfl) (wp_ret' ?_))
    exact ⟨2, rfl, .inl ⟨rfl, rfl⟩⟩
  | false =>
    refine wp_cond_f rfl (wp_skip' (wp_sg ?_))
    refine areg_bown (vs := []) (els := []) rfl rfl (by intro t ht; cases ht) fun V => ?_
    refine areg_run 1 (by simp [runPre, AOp.ex, AOp.ex0, ex_mov, ex_bin, binA_lit, ex_cvt, ex_iaddrA, ex_iaddrS, ex_faddr, ex_load, ldA, ex_ext, ex_add64, add64A_un, ex_pick, ex_beq, ex_un, ex_len, lenA_sl, lenA_nil, lenA_str, lenA_own, lenRow_row, elA_own, elA_sl, elRow_row, ex_nilc, ex_build, ex_bslice, ex_fieldv, AOp.ro, AS.ev, AS.put, AS.fieldAddr, idxA_ptr, idxA_cptr, AS.peek, AS.poke, AS.blk, AS.setBlk, AV.nav, AV.upd, Blk.loc, Blk.cont, Blk.n, Blk.may, Blk.upd, AV.isAgg, AV.isTup, AV.sz, unVal, ownOk, fillAV, AV.sub, cvt_64j, cvt_64b, cvt_64w, cvt_8u, cvt_8w, bin_add64, bin_mul64, bin_sub64, bin_and51, bin_and32, bin_and1, bin_and8_1, bin_or64, bin_xor64, bin_or8, bin_shl64, bin_shl64j, bin_shr64, bin_shr64j, bin_shl8j, bin_shr8j, bin_quo64, bin_rem64, bin_quo32, bin_rem32, bin_addj, bin_subj, bin_quoj, bin_remj, bin_eqlj, bin_neqj, bin_lssj, bin_leqj, bin_gtrj, bin_geqj, bin_eql64, bin_lss64, bin_gtr64, bin_eql8, bin_rem8, lenA_tx, ex_prim, primA_some, AS.lits, prim_ix, prim_sub, prim_sub2, prim_min, prim_ib, ex_b2s, textOf_eq, textA_sl, textA_nil, lend_own, lendRow_row, lend_sl, lend_lit, bin_adds, bin_eqls, bin_neqs, bin_geq8, bin_leq8, bin_lss8, bin_gtr8, bin_neq8, bin_sub8, bin_quo8, bin_add8, bin_mulj, cvt_j8, cvt_8j, AOp.mineB, AV.place, ex_rdp, ex_rd, rdB, bnds, efF, bin_shrju, bin_shlju, listB_tx, listB_sl, listB_nil, ex_tups, bound_jn, AV.isText, keyA_arr, bl_len, zk_len, nameK_len]; exact rfl) ?_
    refine areg_ap (ys := els) rfl rfl (by simp [AS.ev, AS.coe]) (by simp [maxLen]; omega) (by simp; omega) fun V' => areg_end (by simp [runPre, AOp.ex, AOp.ex0, ex_mov, ex_bin, binA_lit, ex_cvt, ex_iaddrA, ex_iaddrS, ex_faddr, ex_load, ldA, ex_ext, ex_add64, add64A_un, ex_pick, ex_beq, ex_un, ex_len, lenA_sl, lenA_nil, lenA_str, lenA_own, lenRow_row, elA_own, elA_sl, elRow_row, ex_nilc, ex_build, ex_bslice, ex_fieldv, AOp.ro, AS.ev, AS.put, AS.fieldAddr, idxA_ptr, idxA_cptr, AS.peek, AS.poke, AS.blk, AS.setBlk, AV.nav, AV.upd, Blk.loc, Blk.cont, Blk.n, Blk.may, Blk.upd, AV.isAgg, AV.isTup, AV.sz, unVal, ownOk, fillAV, AV.sub, cvt_64j, cvt_64b, cvt_64w, cvt_8u, cvt_8w, bin_add64, bin_mul64, bin_sub64, bin_and51, bin_and32, bin_and1, bin_and8_1, bin_or64, bin_xor64, bin_or8, bin_shl64, bin_shl64j, bin_shr64, bin_shr64j, bin_shl8j, bin_shr8j, bin_quo64, bin_rem64, bin_quo32, bin_rem32, bin_addj, bin_subj, bin_quoj, bin_remj, bin_eqlj, bin_neqj, bin_lssj, bin_leqj, bin_gtrj, bin_geqj, bin_eql64, bin_lss64, bin_gtr64, bin_eql8, bin_rem8, lenA_tx, ex_prim, primA_some, AS.lits, prim_ix, prim_sub, prim_sub2, prim_min, prim_ib, ex_b2s, textOf_eq, textA_sl, textA_nil, lend_own, lendRow_row, lend_sl, lend_lit, bin_adds, bin_eqls, bin_neqs, bin_geq8, bin_leq8, bin_lss8, bin_gtr8, bin_neq8, bin_sub8, bin_quo8, bin_add8, bin_mulj, cvt_j8, cvt_8j, AOp.mineB, AV.place, ex_rdp, ex_rd, rdB, bnds, efF, bin_shrju, bin_shlju, listB_tx, listB_sl, listB_nil, ex_tups, bound_jn, AV.isText, keyA_arr, bl_len, zk_len, nameK_len]; exact rfl) (wp_ret' ?_)
    exact fin_row rfl rfl
theorem clone_call (els : List AV) (hn : els.length < 100000) : PCall Go.Proofs.Try.prog 15 [.sl 32 els] (.val (.sl 32 els)) := (clone_row els hn).sealed
end Go.Cab

/- Free kit: a term's shape. -/
-- TEXTS
-- KIT
namespace Go.Cab
def fb429 : AC := (.seq (.reg [⟨(.some 1), .none, (.box 3 (.tmp 0)), [], .none⟩, ⟨(.some 2), .none, (.mov (.const (tx []))), [], .none⟩]) (.seq (.reg [⟨(.some 6), .none, (.faddr 0 0 (.tmp 1)), [], .none⟩, ⟨(.some 7), .none, (.load .false 1 (.tmp 6)), [], (.some 1)⟩, ⟨(.some 8), .none, (.cvt .u8 (.tmp 7)), [], .none⟩, ⟨(.some 10), .none, (.faddr 1 1 (.tmp 1)), [], .none⟩, ⟨(.some 11), .none, (.load .false 1 (.tmp 10)), [], (.some 1)⟩, ⟨(.some 12), .none, (.len .true (.tmp 11)), [], (.some 1000000)⟩, ⟨(.some 13), .none, (.callv 29 [(.tmp 12)]), [], (.some 1000000)⟩, ⟨(.some 9), .none, (.ef (.bown 5 1 (.lit (bn 0)) 1 [0]) [(.tmp 8)]), [1, 1000000], .none⟩, ⟨(.some 14), .none, (.append 5 1 1 (.tmp 9) (.tmp 13)), [], .none⟩, ⟨(.some 3), .none, (.mov (.tmp 14)), [], .none⟩]) (.seq (.reg [⟨(.some 15), .none, (.mov (.tmp 3)), [], .none⟩, ⟨(.some 16), .none, (.faddr 1 1 (.tmp 1)), [], .none⟩, ⟨(.some 17), .none, (.load .false 1 (.tmp 16)), [], .none⟩, ⟨(.some 18), .none, (.ef (.app 5 1 1 .true) [(.tmp 15), (.tmp 17)]), [], .none⟩, ⟨(.some 3), .none, (.mov (.tmp 18)), [], .none⟩]) (.seq (.seq (.reg [⟨(.some 19), .none, (.faddr 2 2 (.tmp 1)), [], .none⟩, ⟨(.some 20), .none, (.load .false 1 (.tmp 19)), [], .none⟩, ⟨(.some 21), .none, (.len .false (.tmp 20)), [], .none⟩, ⟨(.some 22), .none, (.mov (.const (jn 0))), [], .none⟩]) (.block 0 (.loop (.seq (.reg [⟨(.some 23), .none, (.bin .lss (.tmp 22) (.tmp 21)), [], .none⟩]) (.seq (.cond (.tmp 23) .skip (.exit 0)) (.seq (.block 1 (.seq (.reg [⟨(.some 24), .none, (.iaddrS 32 (.tmp 20) (.tmp 22)), [], .none⟩, ⟨(.some 25), .none, (.load .true 32 (.tmp 24)), [], .none⟩, ⟨(.some 5), .none, (.alloc 32 (.arr 1 (List.replicate 32 (.lit (bn 0))))), [], .none⟩, ⟨.none, .none, (.store 32 (.tmp 5) (.tmp 25)), [], .none⟩]) (.reg [⟨(.some 26), .none, (.mov (.tmp 3)), [], .none⟩, ⟨(.some 27), .none, (.rdp (.vslice 1 32 .false .false) [(.tmp 5)]), [], .none⟩, ⟨(.some 28), .none, (.ef (.app 5 1 1 .false) [(.tmp 26), (.tmp 27)]), [], .none⟩, ⟨(.some 3), .none, (.mov (.tmp 28)), [], .none⟩]))) (.reg [⟨(.some 29), .none, (.bin .add (.tmp 22) (.const (jn 1))), [], .none⟩, ⟨(.some 22), .none, (.mov (.tmp 29)), [], .none⟩]))))))) (.seq (.reg [⟨(.some 30), .none, (.mov (.tmp 3)), [], .none⟩, ⟨(.some 31), .none, (.b2s (.tmp 30)), [], .none⟩, ⟨(.some 2), .none, (.mov (.tmp 31)), [], .none⟩]) .ret)))))
def fc429 : FC := ⟨1, 32, [(.tmp 2)], fb429⟩
theorem fc429_eq : compF Go.Proofs.Try.prog 24 = some fc429 := by kernel_rfl

/-- A term. -/
structure Term where
  kind : Nat
  text : List UInt8
  keys : List (List UInt8)
  deriving DecidableEq
def klA (l : List (List UInt8)) : List AV := l.map keyA
theorem klA_len (l : List (List UInt8)) : (klA l).length = l.length := by simp [klA]
theorem klA_get (l : List (List UInt8)) (i : Nat) : (klA l)[i]? = (l[i]?).map keyA := by simp [klA]
def termA (x : Term) : AV := .st [1, 1, 1] [.lit (jn x.kind), .lit (tx x.text), .sl 32 (klA x.keys)]
/-- Its shape. -/
def shapeT (x : Term) : List UInt8 := [UInt8.ofNat x.kind] ++ four x.text.length ++ x.text ++ x.keys.flatten

theorem flat_len : ∀ (l : List (List UInt8)), (∀ k ∈ l, k.length = 32) → l.flatten.length = 32 * l.length
  | [], _ => rfl
  | a :: l, h => by
    have := flat_len l fun k hk => h k (by simp [hk])
    simp [this, h a (by simp)]
    omega
theorem bl_oneA (x : Nat) (h : x < 256) : AV.lit (bn x) = .lit (bn (UInt8.ofNat x).toNat) := by simp [Nat.mod_eq_of_lt h]

set_option maxHeartbeats 8000000 in
theorem shape_call (x : Term) (hk : x.kind < 256) (ht : x.text.length < 100000) (hn : x.keys.length < 100000) (h32 : ∀ k ∈ x.keys, k.length = 32) :
    PCall Go.Proofs.Try.prog 24 [termA x] (.val (.lit (tx (shapeT x)))) := by
  have h429 := fc429_eq
  obtain ⟨kd, text, keys⟩ := x
  simp only at hk ht hn h32
  have c1 := four_call text.length (by omega)
  unfold termA
  simp only
  refine PCall.of h429 rfl ?_; show AC.wp _ fb429 (AS.init [.st [1, 1, 1] [.lit (jn kd), .lit (tx text), .sl 32 (klA keys)]] 1 32) (fun x s => match x with | .exit _ => False | _ => Fin [(.tmp 2)] s _); unfold fb429 AS.init
  refine wp_sg (areg_bx rfl rfl fun l => areg_end (by simp [runPre, AOp.ex, AOp.ex0, ex_mov, ex_bin, binA_lit, ex_cvt, ex_iaddrA, ex_iaddrS, ex_faddr, ex_load, ldA, ex_ext, ex_add64, add64A_un, ex_pick, ex_beq, ex_un, ex_len, lenA_sl, lenA_nil, lenA_str, lenA_own, lenRow_row, elA_own, elA_sl, elRow_row, ex_nilc, ex_build, ex_bslice, ex_fieldv, AOp.ro, AS.ev, AS.put, AS.fieldAddr, idxA_ptr, idxA_cptr, AS.peek, AS.poke, AS.blk, AS.setBlk, AV.nav, AV.upd, Blk.loc, Blk.cont, Blk.n, Blk.may, Blk.upd, AV.isAgg, AV.isTup, AV.sz, unVal, ownOk, fillAV, AV.sub, cvt_64j, cvt_64b, cvt_64w, cvt_8u, cvt_8w, bin_add64, bin_mul64, bin_sub64, bin_and51, bin_and32, bin_and1, bin_and8_1, bin_or64, bin_xor64, bin_or8, bin_shl64, bin_shl64j, bin_shr64, bin_shr64j, bin_shl8j, bin_shr8j, bin_quo64, bin_rem64, bin_quo32, bin_rem32, bin_addj, bin_subj, bin_quoj, bin_remj, bin_eqlj, bin_neqj, bin_lssj, bin_leqj, bin_gtrj, bin_geqj, bin_eql64, bin_lss64, bin_gtr64, bin_eql8, bin_rem8, lenA_tx, ex_prim, primA_some, AS.lits, prim_ix, prim_sub, prim_sub2, prim_min, prim_ib, ex_b2s, textOf_eq, textA_sl, textA_nil, lend_own, lendRow_row, lend_sl, lend_lit, bin_adds, bin_eqls, bin_neqs, bin_geq8, bin_leq8, bin_lss8, bin_gtr8, bin_neq8, bin_sub8, bin_quo8, bin_add8, bin_mulj, cvt_j8, cvt_8j, AOp.mineB, AV.place, ex_rdp, ex_rd, rdB, bnds, efF, bin_shrju, bin_shlju, listB_tx, listB_sl, listB_nil, ex_tups, bound_jn, AV.isText, keyA_arr, bl_len, zk_len, nameK_len]; exact rfl) ?_)
  have hk2 : kd % 256 = kd := Nat.mod_eq_of_lt hk
  refine wp_sg ?_
  refine areg_run 6 (by simp [runPre, AOp.ex, AOp.ex0, ex_mov, ex_bin, binA_lit, ex_cvt, ex_iaddrA, ex_iaddrS, ex_faddr, ex_load, ldA, ex_ext, ex_add64, add64A_un, ex_pick, ex_beq, ex_un, ex_len, lenA_sl, lenA_nil, lenA_str, lenA_own, lenRow_row, elA_own, elA_sl, elRow_row, ex_nilc, ex_build, ex_bslice, ex_fieldv, AOp.ro, AS.ev, AS.put, AS.fieldAddr, idxA_ptr, idxA_cptr, AS.peek, AS.poke, AS.blk, AS.setBlk, AV.nav, AV.upd, Blk.loc, Blk.cont, Blk.n, Blk.may, Blk.upd, AV.isAgg, AV.isTup, AV.sz, unVal, ownOk, fillAV, AV.sub, cvt_64j, cvt_64b, cvt_64w, cvt_8u, cvt_8w, bin_add64, bin_mul64, bin_sub64, bin_and51, bin_and32, bin_and1, bin_and8_1, bin_or64, bin_xor64, bin_or8, bin_shl64, bin_shl64j, bin_shr64, bin_shr64j, bin_shl8j, bin_shr8j, bin_quo64, bin_rem64, bin_quo32, bin_rem32, bin_addj, bin_subj, bin_quoj, bin_remj, bin_eqlj, bin_neqj, bin_lssj, bin_leqj, bin_gtrj, bin_geqj, bin_eql64, bin_lss64, bin_gtr64, bin_eql8, bin_rem8, lenA_tx, ex_prim, primA_some, AS.lits, prim_ix, prim_sub, prim_sub2, prim_min, prim_ib, ex_b2s, textOf_eq, textA_sl, textA_nil, lend_own, lendRow_row, lend_sl, lend_lit, bin_adds, bin_eqls, bin_neqs, bin_geq8, bin_leq8, bin_lss8, bin_gtr8, bin_neq8, bin_sub8, bin_quo8, bin_add8, bin_mulj, cvt_j8, cvt_8j, AOp.mineB, AV.place, ex_rdp, ex_rd, rdB, bnds, efF, bin_shrju, bin_shlju, listB_tx, listB_sl, listB_nil, ex_tups, bound_jn, AV.isText, keyA_arr, bl_len, zk_len, nameK_len, hk2]; exact rfl) ?_
  refine areg_cv (by simp [AS.ev, AS.coe, AS.put] <;> exact rfl) c1 ?_ (by intro p hp b V; simp at hp; subst hp; simp [AS.ev, AS.put])
  refine areg_bown (vs := [.lit (bn kd)]) (els := bl [UInt8.ofNat kd]) (by simp [AS.ev, AS.put]) (by rw [bl_oneA kd hk]; simp [fillV, AV.sub, AV.isTup, AV.sz, AV.upd, bl]; rfl) (by
    intro t ht b hb
    simp at ht
    rcases ht with rfl | rfl <;> simp [AS.ev, AS.put, AV.place] at hb
    subst hb
    exact ⟨by simp [AS.slot, AS.put], by simp⟩) fun V => ?_
  refine areg_ap rfl rfl (by simp [AS.ev, AS.put, AS.coe]; exact rfl) (by simp [maxLen, bl, four]) (by simp [bl, four]) fun V' => ?_
  refine areg_end (by simp [runPre, AOp.ex, AOp.ex0, ex_mov, ex_bin, binA_lit, ex_cvt, ex_iaddrA, ex_iaddrS, ex_faddr, ex_load, ldA, ex_ext, ex_add64, add64A_un, ex_pick, ex_beq, ex_un, ex_len, lenA_sl, lenA_nil, lenA_str, lenA_own, lenRow_row, elA_own, elA_sl, elRow_row, ex_nilc, ex_build, ex_bslice, ex_fieldv, AOp.ro, AS.ev, AS.put, AS.fieldAddr, idxA_ptr, idxA_cptr, AS.peek, AS.poke, AS.blk, AS.setBlk, AV.nav, AV.upd, Blk.loc, Blk.cont, Blk.n, Blk.may, Blk.upd, AV.isAgg, AV.isTup, AV.sz, unVal, ownOk, fillAV, AV.sub, cvt_64j, cvt_64b, cvt_64w, cvt_8u, cvt_8w, bin_add64, bin_mul64, bin_sub64, bin_and51, bin_and32, bin_and1, bin_and8_1, bin_or64, bin_xor64, bin_or8, bin_shl64, bin_shl64j, bin_shr64, bin_shr64j, bin_shl8j, bin_shr8j, bin_quo64, bin_rem64, bin_quo32, bin_rem32, bin_addj, bin_subj, bin_quoj, bin_remj, bin_eqlj, bin_neqj, bin_lssj, bin_leqj, bin_gtrj, bin_geqj, bin_eql64, bin_lss64, bin_gtr64, bin_eql8, bin_rem8, lenA_tx, ex_prim, primA_some, AS.lits, prim_ix, prim_sub, prim_sub2, prim_min, prim_ib, ex_b2s, textOf_eq, textA_sl, textA_nil, lend_own, lendRow_row, lend_sl, lend_lit, bin_adds, bin_eqls, bin_neqs, bin_geq8, bin_leq8, bin_lss8, bin_gtr8, bin_neq8, bin_sub8, bin_quo8, bin_add8, bin_mulj, cvt_j8, cvt_8j, AOp.mineB, AV.place, ex_rdp, ex_rd, rdB, bnds, efF, bin_shrju, bin_shlju, listB_tx, listB_sl, listB_nil, ex_tups, bound_jn, AV.isText, keyA_arr, bl_len, zk_len, nameK_len]; exact rfl) ?_
  refine wp_sg ?_
  refine areg_run 3 (by simp [runPre, AOp.ex, AOp.ex0, ex_mov, ex_bin, binA_lit, ex_cvt, ex_iaddrA, ex_iaddrS, ex_faddr, ex_load, ldA, ex_ext, ex_add64, add64A_un, ex_pick, ex_beq, ex_un, ex_len, lenA_sl, lenA_nil, lenA_str, lenA_own, lenRow_row, elA_own, elA_sl, elRow_row, ex_nilc, ex_build, ex_bslice, ex_fieldv, AOp.ro, AS.ev, AS.put, AS.fieldAddr, idxA_ptr, idxA_cptr, AS.peek, AS.poke, AS.blk, AS.setBlk, AV.nav, AV.upd, Blk.loc, Blk.cont, Blk.n, Blk.may, Blk.upd, AV.isAgg, AV.isTup, AV.sz, unVal, ownOk, fillAV, AV.sub, cvt_64j, cvt_64b, cvt_64w, cvt_8u, cvt_8w, bin_add64, bin_mul64, bin_sub64, bin_and51, bin_and32, bin_and1, bin_and8_1, bin_or64, bin_xor64, bin_or8, bin_shl64, bin_shl64j, bin_shr64, bin_shr64j, bin_shl8j, bin_shr8j, bin_quo64, bin_rem64, bin_quo32, bin_rem32, bin_addj, bin_subj, bin_quoj, bin_remj, bin_eqlj, bin_neqj, bin_lssj, bin_leqj, bin_gtrj, bin_geqj, bin_eql64, bin_lss64, bin_gtr64, bin_eql8, bin_rem8, lenA_tx, ex_prim, primA_some, AS.lits, prim_ix, prim_sub, prim_sub2, prim_min, prim_ib, ex_b2s, textOf_eq, textA_sl, textA_nil, lend_own, lendRow_row, lend_sl, lend_lit, bin_adds, bin_eqls, bin_neqs, bin_geq8, bin_leq8, bin_lss8, bin_gtr8, bin_neq8, bin_sub8, bin_quo8, bin_add8, bin_mulj, cvt_j8, cvt_8j, AOp.mineB, AV.place, ex_rdp, ex_rd, rdB, bnds, efF, bin_shrju, bin_shlju, listB_tx, listB_sl, listB_nil, ex_tups, bound_jn, AV.isText, keyA_arr, bl_len, zk_len, nameK_len]; exact rfl) ?_
  refine areg_app (b := 14) (V := V') rfl rfl (listB_tx _ _) rfl (by simp [maxLen, bl, four]; omega) (by simp [bl, four]; omega) (by intro t ht; cases ht) fun V2 => ?_
  refine areg_end (by simp [runPre, AOp.ex, AOp.ex0, ex_mov, ex_bin, binA_lit, ex_cvt, ex_iaddrA, ex_iaddrS, ex_faddr, ex_load, ldA, ex_ext, ex_add64, add64A_un, ex_pick, ex_beq, ex_un, ex_len, lenA_sl, lenA_nil, lenA_str, lenA_own, lenRow_row, elA_own, elA_sl, elRow_row, ex_nilc, ex_build, ex_bslice, ex_fieldv, AOp.ro, AS.ev, AS.put, AS.fieldAddr, idxA_ptr, idxA_cptr, AS.peek, AS.poke, AS.blk, AS.setBlk, AV.nav, AV.upd, Blk.loc, Blk.cont, Blk.n, Blk.may, Blk.upd, AV.isAgg, AV.isTup, AV.sz, unVal, ownOk, fillAV, AV.sub, cvt_64j, cvt_64b, cvt_64w, cvt_8u, cvt_8w, bin_add64, bin_mul64, bin_sub64, bin_and51, bin_and32, bin_and1, bin_and8_1, bin_or64, bin_xor64, bin_or8, bin_shl64, bin_shl64j, bin_shr64, bin_shr64j, bin_shl8j, bin_shr8j, bin_quo64, bin_rem64, bin_quo32, bin_rem32, bin_addj, bin_subj, bin_quoj, bin_remj, bin_eqlj, bin_neqj, bin_lssj, bin_leqj, bin_gtrj, bin_geqj, bin_eql64, bin_lss64, bin_gtr64, bin_eql8, bin_rem8, lenA_tx, ex_prim, primA_some, AS.lits, prim_ix, prim_sub, prim_sub2, prim_min, prim_ib, ex_b2s, textOf_eq, textA_sl, textA_nil, lend_own, lendRow_row, lend_sl, lend_lit, bin_adds, bin_eqls, bin_neqs, bin_geq8, bin_leq8, bin_lss8, bin_gtr8, bin_neq8, bin_sub8, bin_quo8, bin_add8, bin_mulj, cvt_j8, cvt_8j, AOp.mineB, AV.place, ex_rdp, ex_rd, rdB, bnds, efF, bin_shrju, bin_shlju, listB_tx, listB_sl, listB_nil, ex_tups, bound_jn, AV.isText, keyA_arr, bl_len, zk_len, nameK_len]; exact rfl) ?_
  rw [bl_app, bl_app]
  have hsh : shapeT ⟨kd, text, keys⟩ = ([UInt8.ofNat kd] ++ (four text.length ++ text)) ++ (keys.take keys.length).flatten := by simp [shapeT]
  rw [hsh]
  have hhd : ([UInt8.ofNat kd] ++ (four text.length ++ text)).length < 200000 := by simp [four]; omega
  clear hsh
  generalize [UInt8.ofNat kd] ++ (four text.length ++ text) = hd at *
  have hfl : ∀ i, i ≤ keys.length → (keys.take i).flatten.length = 32 * i := fun i hi => by
    rw [flat_len _ fun k hk => h32 k (List.mem_of_mem_take hk), List.length_take, Nat.min_eq_left hi]
  refine wp_seq' (wp_seq' (wp_r (by simp [runPre, AOp.ex, AOp.ex0, ex_mov, ex_bin, binA_lit, ex_cvt, ex_iaddrA, ex_iaddrS, ex_faddr, ex_load, ldA, ex_ext, ex_add64, add64A_un, ex_pick, ex_beq, ex_un, ex_len, lenA_sl, lenA_nil, lenA_str, lenA_own, lenRow_row, elA_own, elA_sl, elRow_row, ex_nilc, ex_build, ex_bslice, ex_fieldv, AOp.ro, AS.ev, AS.put, AS.fieldAddr, idxA_ptr, idxA_cptr, AS.peek, AS.poke, AS.blk, AS.setBlk, AV.nav, AV.upd, Blk.loc, Blk.cont, Blk.n, Blk.may, Blk.upd, AV.isAgg, AV.isTup, AV.sz, unVal, ownOk, fillAV, AV.sub, cvt_64j, cvt_64b, cvt_64w, cvt_8u, cvt_8w, bin_add64, bin_mul64, bin_sub64, bin_and51, bin_and32, bin_and1, bin_and8_1, bin_or64, bin_xor64, bin_or8, bin_shl64, bin_shl64j, bin_shr64, bin_shr64j, bin_shl8j, bin_shr8j, bin_quo64, bin_rem64, bin_quo32, bin_rem32, bin_addj, bin_subj, bin_quoj, bin_remj, bin_eqlj, bin_neqj, bin_lssj, bin_leqj, bin_gtrj, bin_geqj, bin_eql64, bin_lss64, bin_gtr64, bin_eql8, bin_rem8, lenA_tx, ex_prim, primA_some, AS.lits, prim_ix, prim_sub, prim_sub2, prim_min, prim_ib, ex_b2s, textOf_eq, textA_sl, textA_nil, lend_own, lendRow_row, lend_sl, lend_lit, bin_adds, bin_eqls, bin_neqs, bin_geq8, bin_leq8, bin_lss8, bin_gtr8, bin_neq8, bin_sub8, bin_quo8, bin_add8, bin_mulj, cvt_j8, cvt_8j, AOp.mineB, AV.place, ex_rdp, ex_rd, rdB, bnds, efF, bin_shrju, bin_shlju, listB_tx, listB_sl, listB_nil, ex_tups, bound_jn, AV.isText, keyA_arr, bl_len, zk_len, nameK_len, klA_len]; exact rfl) (wp_block' (wp_loop_v keys.length (fun i V => ⟨0, [.st [1, 1, 1] [.lit (jn kd), .lit (tx text), .sl 32 (klA keys)], .ptr 1 l 0 [], .lit (tx []), .own 28 V] ++ List.replicate 16 .any ++ [.sl 32 (klA keys), .lit (jn keys.length), .lit (jn i)] ++ List.replicate 9 .any, [none, some (.box l 3 (.st [1, 1, 1] [.lit (jn kd), .lit (tx text), .sl 32 (klA keys)]))] ++ List.replicate 26 none ++ [some (.row 5 V 1 (bl (hd ++ (keys.take i).flatten)) 0)] ++ List.replicate 3 none⟩) ?_ ?_ ?_))))
  · refine ⟨V2, Le.mvR (A := [none, some (.box l 3 (.st [1, 1, 1] [.lit (jn kd), .lit (tx text), .sl 32 (klA keys)]))]) (d := 16) (d' := 26) (m := 30) (Y := .row 5 V2 1 (bl hd) 0) rfl (by simp) rfl (by simp [leO])⟩
  · intro i V hi
    have q1 : i + 1 < 9223372036854775808 := by omega
    obtain ⟨k, hk1⟩ : ∃ k, keys[i]? = some k := ⟨_, List.getElem?_eq_getElem hi⟩
    have hk3 : k.length = 32 := h32 k (List.mem_of_getElem? hk1)
    have g1 : (klA keys)[i]? = some (keyA k) := by rw [klA_get, hk1]; rfl
    have g2 : ∀ h, (klA keys)[i]'h = keyA k := fun h => by rw [List.getElem?_eq_getElem h] at g1; exact Option.some.inj g1
    have hfi := hfl i (by omega)
    refine wp_sr (by simp [runPre, AOp.ex, AOp.ex0, ex_mov, ex_bin, binA_lit, ex_cvt, ex_iaddrA, ex_iaddrS, ex_faddr, ex_load, ldA, ex_ext, ex_add64, add64A_un, ex_pick, ex_beq, ex_un, ex_len, lenA_sl, lenA_nil, lenA_str, lenA_own, lenRow_row, elA_own, elA_sl, elRow_row, ex_nilc, ex_build, ex_bslice, ex_fieldv, AOp.ro, AS.ev, AS.put, AS.fieldAddr, idxA_ptr, idxA_cptr, AS.peek, AS.poke, AS.blk, AS.setBlk, AV.nav, AV.upd, Blk.loc, Blk.cont, Blk.n, Blk.may, Blk.upd, AV.isAgg, AV.isTup, AV.sz, unVal, ownOk, fillAV, AV.sub, cvt_64j, cvt_64b, cvt_64w, cvt_8u, cvt_8w, bin_add64, bin_mul64, bin_sub64, bin_and51, bin_and32, bin_and1, bin_and8_1, bin_or64, bin_xor64, bin_or8, bin_shl64, bin_shl64j, bin_shr64, bin_shr64j, bin_shl8j, bin_shr8j, bin_quo64, bin_rem64, bin_quo32, bin_rem32, bin_addj, bin_subj, bin_quoj, bin_remj, bin_eqlj, bin_neqj, bin_lssj, bin_leqj, bin_gtrj, bin_geqj, bin_eql64, bin_lss64, bin_gtr64, bin_eql8, bin_rem8, lenA_tx, ex_prim, primA_some, AS.lits, prim_ix, prim_sub, prim_sub2, prim_min, prim_ib, ex_b2s, textOf_eq, textA_sl, textA_nil, lend_own, lendRow_row, lend_sl, lend_lit, bin_adds, bin_eqls, bin_neqs, bin_geq8, bin_leq8, bin_lss8, bin_gtr8, bin_neq8, bin_sub8, bin_quo8, bin_add8, bin_mulj, cvt_j8, cvt_8j, AOp.mineB, AV.place, ex_rdp, ex_rd, rdB, bnds, efF, bin_shrju, bin_shlju, listB_tx, listB_sl, listB_nil, ex_tups, bound_jn, AV.isText, keyA_arr, bl_len, zk_len, nameK_len, hi]; exact rfl) (wp_seq' (wp_cond_t (by simp [AS.ev]) (wp_skip' ?_)))
    refine wp_seq' (wp_block' (wp_seq' (wp_rg ?_)))
    refine areg_run 2 (by simp [runPre, AOp.ex, AOp.ex0, ex_mov, ex_bin, binA_lit, ex_cvt, ex_iaddrA, ex_iaddrS, ex_faddr, ex_load, ldA, ex_ext, ex_add64, add64A_un, ex_pick, ex_beq, ex_un, ex_len, lenA_sl, lenA_nil, lenA_str, lenA_own, lenRow_row, elA_own, elA_sl, elRow_row, ex_nilc, ex_build, ex_bslice, ex_fieldv, AOp.ro, AS.ev, AS.put, AS.fieldAddr, idxA_ptr, idxA_cptr, AS.peek, AS.poke, AS.blk, AS.setBlk, AV.nav, AV.upd, Blk.loc, Blk.cont, Blk.n, Blk.may, Blk.upd, AV.isAgg, AV.isTup, AV.sz, unVal, ownOk, fillAV, AV.sub, cvt_64j, cvt_64b, cvt_64w, cvt_8u, cvt_8w, bin_add64, bin_mul64, bin_sub64, bin_and51, bin_and32, bin_and1, bin_and8_1, bin_or64, bin_xor64, bin_or8, bin_shl64, bin_shl64j, bin_shr64, bin_shr64j, bin_shl8j, bin_shr8j, bin_quo64, bin_rem64, bin_quo32, bin_rem32, bin_addj, bin_subj, bin_quoj, bin_remj, bin_eqlj, bin_neqj, bin_lssj, bin_leqj, bin_gtrj, bin_geqj, bin_eql64, bin_lss64, bin_gtr64, bin_eql8, bin_rem8, lenA_tx, ex_prim, primA_some, AS.lits, prim_ix, prim_sub, prim_sub2, prim_min, prim_ib, ex_b2s, textOf_eq, textA_sl, textA_nil, lend_own, lendRow_row, lend_sl, lend_lit, bin_adds, bin_eqls, bin_neqs, bin_geq8, bin_leq8, bin_lss8, bin_gtr8, bin_neq8, bin_sub8, bin_quo8, bin_add8, bin_mulj, cvt_j8, cvt_8j, AOp.mineB, AV.place, ex_rdp, ex_rd, rdB, bnds, efF, bin_shrju, bin_shlju, listB_tx, listB_sl, listB_nil, ex_tups, bound_jn, AV.isText, keyA_arr, bl_len, zk_len, nameK_len, g1, g2]; exact rfl) ?_
    refine areg_al' zk_eq.symm fun l' => areg_end (by simp [runPre, AOp.ex, AOp.ex0, ex_mov, ex_bin, binA_lit, ex_cvt, ex_iaddrA, ex_iaddrS, ex_faddr, ex_load, ldA, ex_ext, ex_add64, add64A_un, ex_pick, ex_beq, ex_un, ex_len, lenA_sl, lenA_nil, lenA_str, lenA_own, lenRow_row, elA_own, elA_sl, elRow_row, ex_nilc, ex_build, ex_bslice, ex_fieldv, AOp.ro, AS.ev, AS.put, AS.fieldAddr, idxA_ptr, idxA_cptr, AS.peek, AS.poke, AS.blk, AS.setBlk, AV.nav, AV.upd, Blk.loc, Blk.cont, Blk.n, Blk.may, Blk.upd, AV.isAgg, AV.isTup, AV.sz, unVal, ownOk, fillAV, AV.sub, cvt_64j, cvt_64b, cvt_64w, cvt_8u, cvt_8w, bin_add64, bin_mul64, bin_sub64, bin_and51, bin_and32, bin_and1, bin_and8_1, bin_or64, bin_xor64, bin_or8, bin_shl64, bin_shl64j, bin_shr64, bin_shr64j, bin_shl8j, bin_shr8j, bin_quo64, bin_rem64, bin_quo32, bin_rem32, bin_addj, bin_subj, bin_quoj, bin_remj, bin_eqlj, bin_neqj, bin_lssj, bin_leqj, bin_gtrj, bin_geqj, bin_eql64, bin_lss64, bin_gtr64, bin_eql8, bin_rem8, lenA_tx, ex_prim, primA_some, AS.lits, prim_ix, prim_sub, prim_sub2, prim_min, prim_ib, ex_b2s, textOf_eq, textA_sl, textA_nil, lend_own, lendRow_row, lend_sl, lend_lit, bin_adds, bin_eqls, bin_neqs, bin_geq8, bin_leq8, bin_lss8, bin_gtr8, bin_neq8, bin_sub8, bin_quo8, bin_add8, bin_mulj, cvt_j8, cvt_8j, AOp.mineB, AV.place, ex_rdp, ex_rd, rdB, bnds, efF, bin_shrju, bin_shlju, listB_tx, listB_sl, listB_nil, ex_tups, bound_jn, AV.isText, keyA_arr, bl_len, zk_len, nameK_len, hk3]; exact rfl) ?_
    refine wp_rg ?_
    refine areg_run 2 (by simp [runPre, AOp.ex, AOp.ex0, ex_mov, ex_bin, binA_lit, ex_cvt, ex_iaddrA, ex_iaddrS, ex_faddr, ex_load, ldA, ex_ext, ex_add64, add64A_un, ex_pick, ex_beq, ex_un, ex_len, lenA_sl, lenA_nil, lenA_str, lenA_own, lenRow_row, elA_own, elA_sl, elRow_row, ex_nilc, ex_build, ex_bslice, ex_fieldv, AOp.ro, AS.ev, AS.put, AS.fieldAddr, idxA_ptr, idxA_cptr, AS.peek, AS.poke, AS.blk, AS.setBlk, AV.nav, AV.upd, Blk.loc, Blk.cont, Blk.n, Blk.may, Blk.upd, AV.isAgg, AV.isTup, AV.sz, unVal, ownOk, fillAV, AV.sub, cvt_64j, cvt_64b, cvt_64w, cvt_8u, cvt_8w, bin_add64, bin_mul64, bin_sub64, bin_and51, bin_and32, bin_and1, bin_and8_1, bin_or64, bin_xor64, bin_or8, bin_shl64, bin_shl64j, bin_shr64, bin_shr64j, bin_shl8j, bin_shr8j, bin_quo64, bin_rem64, bin_quo32, bin_rem32, bin_addj, bin_subj, bin_quoj, bin_remj, bin_eqlj, bin_neqj, bin_lssj, bin_leqj, bin_gtrj, bin_geqj, bin_eql64, bin_lss64, bin_gtr64, bin_eql8, bin_rem8, lenA_tx, ex_prim, primA_some, AS.lits, prim_ix, prim_sub, prim_sub2, prim_min, prim_ib, ex_b2s, textOf_eq, textA_sl, textA_nil, lend_own, lendRow_row, lend_sl, lend_lit, bin_adds, bin_eqls, bin_neqs, bin_geq8, bin_leq8, bin_lss8, bin_gtr8, bin_neq8, bin_sub8, bin_quo8, bin_add8, bin_mulj, cvt_j8, cvt_8j, AOp.mineB, AV.place, ex_rdp, ex_rd, rdB, bnds, efF, bin_shrju, bin_shlju, listB_tx, listB_sl, listB_nil, ex_tups, bound_jn, AV.isText, keyA_arr, bl_len, zk_len, nameK_len]; exact rfl) ?_
    refine areg_app (b := 28) (V := V) (ys := bl k) rfl rfl ?_ rfl (by simp only [bl_len, List.length_append, hfi, hk3, maxLen]; omega) (by simp only [bl_len, List.length_append, hfi, hk3]; omega) (by intro t ht; cases ht) fun V3 => ?_
    · have := listB_key (blk := fun b => ([none, some (Blk.box l 3 (.st [1, 1, 1] [.lit (jn kd), .lit (tx text), .sl 32 (klA keys)])), none, none, none, some (.box l' 32 (keyA k))][b]?).join) (b := 5) (lo := 0) (len := 32) (cap := 32) rfl (by omega)
      rw [List.drop_zero, List.take_of_length_le (by omega)] at this
      exact this
    refine areg_end (by simp [runPre, AOp.ex, AOp.ex0, ex_mov, ex_bin, binA_lit, ex_cvt, ex_iaddrA, ex_iaddrS, ex_faddr, ex_load, ldA, ex_ext, ex_add64, add64A_un, ex_pick, ex_beq, ex_un, ex_len, lenA_sl, lenA_nil, lenA_str, lenA_own, lenRow_row, elA_own, elA_sl, elRow_row, ex_nilc, ex_build, ex_bslice, ex_fieldv, AOp.ro, AS.ev, AS.put, AS.fieldAddr, idxA_ptr, idxA_cptr, AS.peek, AS.poke, AS.blk, AS.setBlk, AV.nav, AV.upd, Blk.loc, Blk.cont, Blk.n, Blk.may, Blk.upd, AV.isAgg, AV.isTup, AV.sz, unVal, ownOk, fillAV, AV.sub, cvt_64j, cvt_64b, cvt_64w, cvt_8u, cvt_8w, bin_add64, bin_mul64, bin_sub64, bin_and51, bin_and32, bin_and1, bin_and8_1, bin_or64, bin_xor64, bin_or8, bin_shl64, bin_shl64j, bin_shr64, bin_shr64j, bin_shl8j, bin_shr8j, bin_quo64, bin_rem64, bin_quo32, bin_rem32, bin_addj, bin_subj, bin_quoj, bin_remj, bin_eqlj, bin_neqj, bin_lssj, bin_leqj, bin_gtrj, bin_geqj, bin_eql64, bin_lss64, bin_gtr64, bin_eql8, bin_rem8, lenA_tx, ex_prim, primA_some, AS.lits, prim_ix, prim_sub, prim_sub2, prim_min, prim_ib, ex_b2s, textOf_eq, textA_sl, textA_nil, lend_own, lendRow_row, lend_sl, lend_lit, bin_adds, bin_eqls, bin_neqs, bin_geq8, bin_leq8, bin_lss8, bin_gtr8, bin_neq8, bin_sub8, bin_quo8, bin_add8, bin_mulj, cvt_j8, cvt_8j, AOp.mineB, AV.place, ex_rdp, ex_rd, rdB, bnds, efF, bin_shrju, bin_shlju, listB_tx, listB_sl, listB_nil, ex_tups, bound_jn, AV.isText, keyA_arr, bl_len, zk_len, nameK_len]; exact rfl) ?_
    refine wp_r (by simp [runPre, AOp.ex, AOp.ex0, ex_mov, ex_bin, binA_lit, ex_cvt, ex_iaddrA, ex_iaddrS, ex_faddr, ex_load, ldA, ex_ext, ex_add64, add64A_un, ex_pick, ex_beq, ex_un, ex_len, lenA_sl, lenA_nil, lenA_str, lenA_own, lenRow_row, elA_own, elA_sl, elRow_row, ex_nilc, ex_build, ex_bslice, ex_fieldv, AOp.ro, AS.ev, AS.put, AS.fieldAddr, idxA_ptr, idxA_cptr, AS.peek, AS.poke, AS.blk, AS.setBlk, AV.nav, AV.upd, Blk.loc, Blk.cont, Blk.n, Blk.may, Blk.upd, AV.isAgg, AV.isTup, AV.sz, unVal, ownOk, fillAV, AV.sub, cvt_64j, cvt_64b, cvt_64w, cvt_8u, cvt_8w, bin_add64, bin_mul64, bin_sub64, bin_and51, bin_and32, bin_and1, bin_and8_1, bin_or64, bin_xor64, bin_or8, bin_shl64, bin_shl64j, bin_shr64, bin_shr64j, bin_shl8j, bin_shr8j, bin_quo64, bin_rem64, bin_quo32, bin_rem32, bin_addj, bin_subj, bin_quoj, bin_remj, bin_eqlj, bin_neqj, bin_lssj, bin_leqj, bin_gtrj, bin_geqj, bin_eql64, bin_lss64, bin_gtr64, bin_eql8, bin_rem8, lenA_tx, ex_prim, primA_some, AS.lits, prim_ix, prim_sub, prim_sub2, prim_min, prim_ib, ex_b2s, textOf_eq, textA_sl, textA_nil, lend_own, lendRow_row, lend_sl, lend_lit, bin_adds, bin_eqls, bin_neqs, bin_geq8, bin_leq8, bin_lss8, bin_gtr8, bin_neq8, bin_sub8, bin_quo8, bin_add8, bin_mulj, cvt_j8, cvt_8j, AOp.mineB, AV.place, ex_rdp, ex_rd, rdB, bnds, efF, bin_shrju, bin_shlju, listB_tx, listB_sl, listB_nil, ex_tups, bound_jn, AV.isText, keyA_arr, bl_len, zk_len, nameK_len, q1]; exact rfl) ?_
    refine Exists.intro V3 (Le.mk rfl (by simp [leT]) ?_)
    have e : bl (hd ++ (keys.take i).flatten) ++ bl k = bl (hd ++ (keys.take (i + 1)).flatten) := by
      rw [bl_app, List.append_assoc]
      congr 2
      rw [List.take_add_one, hk1]; simp
    simp [leH, ← e]
  · intro V
    refine wp_sr (by simp [runPre, AOp.ex, AOp.ex0, ex_mov, ex_bin, binA_lit, ex_cvt, ex_iaddrA, ex_iaddrS, ex_faddr, ex_load, ldA, ex_ext, ex_add64, add64A_un, ex_pick, ex_beq, ex_un, ex_len, lenA_sl, lenA_nil, lenA_str, lenA_own, lenRow_row, elA_own, elA_sl, elRow_row, ex_nilc, ex_build, ex_bslice, ex_fieldv, AOp.ro, AS.ev, AS.put, AS.fieldAddr, idxA_ptr, idxA_cptr, AS.peek, AS.poke, AS.blk, AS.setBlk, AV.nav, AV.upd, Blk.loc, Blk.cont, Blk.n, Blk.may, Blk.upd, AV.isAgg, AV.isTup, AV.sz, unVal, ownOk, fillAV, AV.sub, cvt_64j, cvt_64b, cvt_64w, cvt_8u, cvt_8w, bin_add64, bin_mul64, bin_sub64, bin_and51, bin_and32, bin_and1, bin_and8_1, bin_or64, bin_xor64, bin_or8, bin_shl64, bin_shl64j, bin_shr64, bin_shr64j, bin_shl8j, bin_shr8j, bin_quo64, bin_rem64, bin_quo32, bin_rem32, bin_addj, bin_subj, bin_quoj, bin_remj, bin_eqlj, bin_neqj, bin_lssj, bin_leqj, bin_gtrj, bin_geqj, bin_eql64, bin_lss64, bin_gtr64, bin_eql8, bin_rem8, lenA_tx, ex_prim, primA_some, AS.lits, prim_ix, prim_sub, prim_sub2, prim_min, prim_ib, ex_b2s, textOf_eq, textA_sl, textA_nil, lend_own, lendRow_row, lend_sl, lend_lit, bin_adds, bin_eqls, bin_neqs, bin_geq8, bin_leq8, bin_lss8, bin_gtr8, bin_neq8, bin_sub8, bin_quo8, bin_add8, bin_mulj, cvt_j8, cvt_8j, AOp.mineB, AV.place, ex_rdp, ex_rd, rdB, bnds, efF, bin_shrju, bin_shlju, listB_tx, listB_sl, listB_nil, ex_tups, bound_jn, AV.isText, keyA_arr, bl_len, zk_len, nameK_len]; exact rfl) (wp_seq' (wp_cond_f (by simp [AS.ev]) (wp_exit' (if_hit rfl ?_))))
    refine wp_sr (by simp [runPre, AOp.ex, AOp.ex0, ex_mov, ex_bin, binA_lit, ex_cvt, ex_iaddrA, ex_iaddrS, ex_faddr, ex_load, ldA, ex_ext, ex_add64, add64A_un, ex_pick, ex_beq, ex_un, ex_len, lenA_sl, lenA_nil, lenA_str, lenA_own, lenRow_row, elA_own, elA_sl, elRow_row, ex_nilc, ex_build, ex_bslice, ex_fieldv, AOp.ro, AS.ev, AS.put, AS.fieldAddr, idxA_ptr, idxA_cptr, AS.peek, AS.poke, AS.blk, AS.setBlk, AV.nav, AV.upd, Blk.loc, Blk.cont, Blk.n, Blk.may, Blk.upd, AV.isAgg, AV.isTup, AV.sz, unVal, ownOk, fillAV, AV.sub, cvt_64j, cvt_64b, cvt_64w, cvt_8u, cvt_8w, bin_add64, bin_mul64, bin_sub64, bin_and51, bin_and32, bin_and1, bin_and8_1, bin_or64, bin_xor64, bin_or8, bin_shl64, bin_shl64j, bin_shr64, bin_shr64j, bin_shl8j, bin_shr8j, bin_quo64, bin_rem64, bin_quo32, bin_rem32, bin_addj, bin_subj, bin_quoj, bin_remj, bin_eqlj, bin_neqj, bin_lssj, bin_leqj, bin_gtrj, bin_geqj, bin_eql64, bin_lss64, bin_gtr64, bin_eql8, bin_rem8, lenA_tx, ex_prim, primA_some, AS.lits, prim_ix, prim_sub, prim_sub2, prim_min, prim_ib, ex_b2s, textOf_eq, textA_sl, textA_nil, lend_own, lendRow_row, lend_sl, lend_lit, bin_adds, bin_eqls, bin_neqs, bin_geq8, bin_leq8, bin_lss8, bin_gtr8, bin_neq8, bin_sub8, bin_quo8, bin_add8, bin_mulj, cvt_j8, cvt_8j, AOp.mineB, AV.place, ex_rdp, ex_rd, rdB, bnds, efF, bin_shrju, bin_shlju, listB_tx, listB_sl, listB_nil, ex_tups, bound_jn, AV.isText, keyA_arr, bl_len, zk_len, nameK_len]; exact rfl) (wp_ret' ?_)
    exact fin_tmp (by simp [RVal, AS.ev, AS.coe]) (by simp)
end Go.Cab

/- Free kit: calls whose blocks are named anew; the table; number. -/
-- TEXTS
-- KIT
namespace Go.Cab
open Classical

/-- These blocks stand for those. -/
def HpLe (hp hp' : List (Option Blk)) : Prop := ∀ (w0 : World) (regs : List (Nat × Nat × Nat)) (Imm : Nat → Nat → Prop) (w : World), HeapOk w0 regs Imm hp w → HeapOk w0 regs Imm hp' w
def RelLe (r r' : AV) : Prop := ∀ (Imm : Nat → Nat → Prop) (w : World) (V : Value), Rel Imm w r V → Rel Imm w r' V
theorem HpLe.refl (hp : List (Option Blk)) : HpLe hp hp := fun _ _ _ _ h => h
theorem HpLe.trans {a b c : List (Option Blk)} (h : HpLe a b) (k : HpLe b c) : HpLe a c := fun w0 regs Imm w x => k w0 regs Imm w (h w0 regs Imm w x)
theorem RelLe.refl (r : AV) : RelLe r r := fun _ _ _ h => h
theorem RelLe.ptr (b b' : Nat) (l : Nat × Nat) (off : Nat) (p : List Nat) : RelLe (.ptr b l off p) (.ptr b' l off p) := fun Imm w V h => by
  rcases h with h | ⟨cs, h, e⟩
  · cases h
  · cases h; exact .inr ⟨_, .ptr b' l off p, e⟩
theorem HpLe.gen {hp hp' : List (Option Blk)} (m : Nat → Nat) (hinj : ∀ k k' x y, (hp'[k]?).join = some x → (hp'[k']?).join = some y → m k = m k' → k = k')
    (hh : ∀ k x', (hp'[k]?).join = some x' → ∃ x, (hp[m k]?).join = some x ∧ BlkLe x x') : HpLe hp hp' := fun w0 regs Imm w h3 => by
  refine ⟨fun k x hx => ?_, fun k k' x y hne hx hy b o hf => ?_⟩
  · obtain ⟨y, hy, hle⟩ := hh k x hx
    obtain ⟨g1, g2⟩ := h3.ok _ y hy
    obtain ⟨g3, g4⟩ := hle Imm w g1
    exact ⟨g3, fun b o hf => g2 b o (g4 b o hf)⟩
  · obtain ⟨u, hu, hle⟩ := hh k x hx
    obtain ⟨v, hv, hle'⟩ := hh k' y hy
    obtain ⟨g1, _⟩ := h3.ok _ u hu
    obtain ⟨g2, _⟩ := h3.ok _ v hv
    refine fun hf' => h3.apart (m k) (m k') u v (fun he => hne (hinj k k' x y hx hy he)) hu hv b o ((hle Imm w g1).2 b o hf) ((hle' Imm w g2).2 b o hf')
theorem HpLe.trim (A R : List (Option Blk)) : HpLe (A ++ R) A := by
  refine HpLe.gen (fun k => k) (fun k k' x y _ _ e => e) (fun k x hx => ⟨x, ?_, BlkLe.refl _⟩)
  by_cases hk : k < A.length
  · rw [List.getElem?_append_left hk]; exact hx
  · rw [List.getElem?_eq_none (by omega)] at hx; cases hx
/-- A new row takes the old one's place. -/
theorem HpLe.swap {hp H : List (Option Blk)} {b j d : Nat} {X X' Y : Blk} (hd : H.length ≤ d) (hbj : b ≠ j) (hbl : b < H.length) (hb : hp[b]? = some (some X)) (hd' : hp[d]? = some (some Y))
    (hk : ∀ k, k ≠ b → k ≠ j → k < H.length → hp[k]? = H[k]?) (hX : BlkLe X X') : HpLe hp ((H.set b (some X')).set j (some Y)) := by
  have hlt : ∀ (k : Nat) (x : Blk), ((((H.set b (some X')).set j (some Y)))[k]?).join = some x → k < H.length := fun k x hx => by
    by_cases h : k < H.length
    · exact h
    · rw [List.getElem?_eq_none (by simp; omega)] at hx; cases hx
  refine HpLe.gen (fun k => if k = j then d else k) (fun k k' x y hx hy e => ?_) (fun k x hx => ?_)
  · have h1 := hlt k x hx
    have h2 := hlt k' y hy
    split at e <;> split at e <;> omega
  · have h1 := hlt k x hx
    by_cases hkj : k = j
    · subst hkj
      rw [if_pos rfl]
      simp only [List.getElem?_set, List.length_set, h1, if_true, Option.join_some, Option.some.injEq] at hx
      subst hx
      exact ⟨_, by rw [hd']; rfl, BlkLe.refl _⟩
    · rw [if_neg hkj]
      rw [List.getElem?_set_ne (Ne.symm hkj)] at hx
      by_cases hkb : k = b
      · subst hkb
        simp only [List.getElem?_set, hbl, if_true, Option.join_some, Option.some.injEq] at hx
        subst hx
        exact ⟨_, by rw [hb]; rfl, hX⟩
      · rw [List.getElem?_set_ne (Ne.symm hkb)] at hx
        exact ⟨x, by rw [hk k hkb hkj h1]; exact hx, BlkLe.refl _⟩

/-- A call's answer and blocks under other names. -/
theorem XCall.le {P : Program} {f : FuncId} {args : List AV} {hp : List (Option Blk)} {K : AV → List (Option Blk) → Prop} (h : XCall P f args hp fun r H => ∃ r' A, RelLe r r' ∧ r' ≠ .any ∧ HpLe H A ∧ K r' A) : XCall P f args hp K := by
  intro w0 w regs Imm0 Vs a1 a2 a3 a4
  refine Calls.mono (h w0 w regs Imm0 Vs a1 a2 a3 a4) ?_
  rintro e w' ⟨V, r, hp', Imm', he, ⟨r', A, h1, h2, h3, h4⟩, h5, h6, h7, h8, h9⟩
  exact ⟨V, r', A, Imm', he, h4, h5, h6, h1 _ _ _ h7, h2, h3 _ _ _ _ h9⟩
theorem XCall.mono {P : Program} {f : FuncId} {args : List AV} {hp : List (Option Blk)} {K K' : AV → List (Option Blk) → Prop} (h : XCall P f args hp K) (hk : ∀ r H, K r H → K' r H) : XCall P f args hp K' := by
  intro w0 w regs Imm0 Vs a1 a2 a3 a4
  refine Calls.mono (h w0 w regs Imm0 Vs a1 a2 a3 a4) ?_
  rintro e w' ⟨V, r, hp', Imm', he, h1, h2⟩
  exact ⟨V, r, hp', Imm', he, hk _ _ h1, h2⟩

/-- Arguments under other names. -/
def ArgLe : List AV → List AV → Prop
  | [], [] => True
  | a :: l, b :: m => RelLe a b ∧ ArgLe l m
  | _, _ => False
theorem ArgLe.ok {Imm : Nat → Nat → Prop} {w : World} : ∀ {l m : List AV} {Vs : List Value}, ArgLe l m → ArgsOk Imm w l Vs → ArgsOk Imm w m Vs
  | [], [], Vs, _, h => h
  | a :: l, b :: m, [], _, h => h.elim
  | a :: l, b :: m, V :: Vs, h, k => ⟨h.1 _ _ _ k.1, h.2.ok k.2⟩
theorem RelLe.nil (esz : Nat) : RelLe (.lit (.slice none 0 0)) (.sl esz []) := fun Imm w V h => by
  obtain ⟨rfl, _⟩ := h.lit
  exact .inr ⟨_, .slnil esz, rfl⟩
theorem XCall.args {P : Program} {f : FuncId} {l m : List AV} {hp : List (Option Blk)} {K : AV → List (Option Blk) → Prop} (hl : ArgLe l m) (h : XCall P f m hp K) : XCall P f l hp K := fun w0 w regs Imm0 Vs a1 a2 a3 a4 => h w0 w regs Imm0 Vs a1 a2 a3 (hl.ok a4)
theorem PCall.args {P : Program} {f : FuncId} {l m : List AV} {r : Res} (hl : ArgLe l m) (h : PCall P f m r) : PCall P f l r := fun w St Vs a1 a2 => h w St Vs a1 (hl.ok a2)

/-! ### The table -/

def esF : List Term → Nat → List (Value × Value × Nat)
  | [], _ => []
  | x :: xs, i => (tx (shapeT x), jn i, i) :: esF xs (i + 1)
def esOf (ts : List Term) : List (Value × Value × Nat) := esF ts 0
def tbk (l : Nat × Nat) (j m r : Nat) (V : Value) : Blk := .box l 2 (.st [1, 1] [.own j V, .own m (.map (some r))])
def trk (V : Value) (ts : List Term) : Blk := .row 74 V 3 (ts.map termA) 0
def tmk (r : Nat) (ts : List Term) : Blk := .map r (esOf ts) ts.length

/-- A table's place among the blocks: its variable, the terms, the map. -/
structure Tb where
  b : Nat
  j : Nat
  m : Nat
  l : Nat × Nat
  r : Nat
structure TbOk (H : List (Option Blk)) (t : Tb) (V : Value) (ts : List Term) : Prop where
  bj : t.b ≠ t.j
  bm : t.b ≠ t.m
  jm : t.j ≠ t.m
  hb : H[t.b]? = some (some (tbk t.l t.j t.m t.r V))
  hj : H[t.j]? = some (some (trk V ts))
  hm : H[t.m]? = some (some (tmk t.r ts))
def tbOf (H : List (Option Blk)) (t : Tb) (V : Value) (ts : List Term) : List (Option Blk) := ((H.set t.b (some (tbk t.l t.j t.m t.r V))).set t.j (some (trk V ts))).set t.m (some (tmk t.r ts))
section
variable {H : List (Option Blk)} {t : Tb} {V : Value} {ts : List Term}
theorem TbOk.lb (h : TbOk H t V ts) : t.b < H.length := (List.getElem?_eq_some_iff.1 h.hb).1
theorem TbOk.lj (h : TbOk H t V ts) : t.j < H.length := (List.getElem?_eq_some_iff.1 h.hj).1
theorem TbOk.lm (h : TbOk H t V ts) : t.m < H.length := (List.getElem?_eq_some_iff.1 h.hm).1
theorem tbOf_len (H : List (Option Blk)) (t : Tb) (V : Value) (ts : List Term) : (tbOf H t V ts).length = H.length := by simp [tbOf]
theorem TbOk.of (h : TbOk H t V ts) (V' : Value) (ts' : List Term) : TbOk (tbOf H t V' ts') t V' ts' := by
  have h1 := h.lb; have h2 := h.lj; have h3 := h.lm; have h4 := h.bj; have h5 := h.bm; have h6 := h.jm
  exact ⟨h4, h5, h6, by simp [tbOf, h1, h4.symm, h5.symm], by simp [tbOf, h2, h6.symm], by simp [tbOf, h3]⟩
theorem TbOk.of_of (h : TbOk H t V ts) (V' V2 : Value) (ts' ts2 : List Term) : tbOf (tbOf H t V' ts') t V2 ts2 = tbOf H t V2 ts2 := by
  unfold tbOf
  rw [List.set_comm _ _ h.bm.symm, List.set_comm _ _ h.bj.symm, List.set_set, List.set_comm _ _ h.jm.symm, List.set_set, List.set_set]
theorem set_same {α : Type} {l : List α} {i : Nat} {x : α} (h : l[i]? = some x) : l.set i x = l := by
  apply List.ext_getElem?
  intro k
  by_cases hk : i = k
  · subst hk; rw [List.getElem?_set_self (List.getElem?_eq_some_iff.1 h).1, h]
  · rw [List.getElem?_set_ne hk]
theorem TbOk.self (h : TbOk H t V ts) : tbOf H t V ts = H := by
  unfold tbOf
  rw [set_same h.hb, set_same h.hj, set_same h.hm]
theorem TbOk.app (h : TbOk H t V ts) (R : List (Option Blk)) : TbOk (H ++ R) t V ts :=
  ⟨h.bj, h.bm, h.jm, by rw [List.getElem?_append_left h.lb]; exact h.hb, by rw [List.getElem?_append_left h.lj]; exact h.hj, by rw [List.getElem?_append_left h.lm]; exact h.hm⟩
theorem TbOk.of_app (h : TbOk H t V ts) (R : List (Option Blk)) (V' : Value) (ts' : List Term) : tbOf (H ++ R) t V' ts' = tbOf H t V' ts' ++ R := by
  unfold tbOf
  rw [List.set_append_left _ _ h.lb, List.set_append_left _ _ (by simpa using h.lj), List.set_append_left _ _ (by simpa using h.lm)]
end

/-! ### number -/
theorem bin_oraj (a b : Nat) (ha : a < 9223372036854775808) (hb : b < 9223372036854775808) : binVal .or (jn a) (jn b) = some (jn (a ||| b)) := by
  simp only [binVal, jn, ne_eq, not_true_eq_false, if_false]
  have h : a ||| b < 2 ^ 63 := Nat.or_lt_two_pow (by omega) (by omega)
  rw [show IntKind.i64.bits = 64 from rfl, BitVec.toNat_or, bv64, bv64, Nat.mod_eq_of_lt (by omega), Nat.mod_eq_of_lt (by omega), wrap_i64 (by omega) (by omega)]
theorem or_add (a b i : Nat) (h : b < 2 ^ i) : a * 2 ^ i ||| b = a * 2 ^ i + b := by
  rw [Nat.mul_comm, Nat.two_pow_add_eq_or_of_lt h]
/-- The number in a key. -/
def be32 (k : List UInt8) : Nat := (k.getD 4 0).toNat * 16777216 + (k.getD 5 0).toNat * 65536 + (k.getD 6 0).toNat * 256 + (k.getD 7 0).toNat
theorem be32_lt (k : List UInt8) : be32 k < 4294967296 := by
  have h1 := (k.getD 4 0).toNat_lt; have h2 := (k.getD 5 0).toNat_lt; have h3 := (k.getD 6 0).toNat_lt; have h4 := (k.getD 7 0).toNat_lt
  unfold be32; omega
/-- Which term a key names; -1: none. -/
def numV (n : Nat) (k : List UInt8) : Value := if n ≤ be32 k ∨ nameK (be32 k) ≠ k then .int .i64 (-1) else jn (be32 k)

theorem R_bl {Imm : Nat → Nat → Prop} {w : World} : ∀ {k : List UInt8} {cs : List Value}, R Imm w (.arr 1 (bl k)) cs → cs = k.map fun b => bn b.toNat
  | [], cs, h => by cases h; rfl
  | x :: xs, cs, h => by
    cases h with
    | arr1 _ _ _ c d hx _ _ hd =>
      cases hx
      rw [R_bl hd]
      rfl
end Go.Cab
