/- Part twenty: numbers as natural ones, and equations for the walk's simplifier. -/
import Derived.Test.YtjkckdiepdbfeaaCabU
set_option linter.unusedSimpArgs false
set_option linter.unusedVariables false
set_option linter.unusedSectionVars false
namespace Go.Cab
open Go.RowKit
open Classical

def un (n : Nat) : Value := .int .u64 n
def wn (n : Nat) : Value := .int .u32 n
def bn (n : Nat) : Value := .int .u8 n
def jn (n : Nat) : Value := .int .i64 n

theorem sc_un (n : Nat) : sc (un n) = true := rfl
theorem sc_wn (n : Nat) : sc (wn n) = true := rfl
theorem sc_bn (n : Nat) : sc (bn n) = true := rfl
theorem sc_jn (n : Nat) : sc (jn n) = true := rfl

theorem wrap_u64 (n : Nat) : IntKind.u64.wrap (n : Int) = ((n % 18446744073709551616 : Nat) : Int) := by
  simp [IntKind.wrap, IntKind.signed, IntKind.bits]
theorem wrap_u32 (n : Nat) : IntKind.u32.wrap (n : Int) = ((n % 4294967296 : Nat) : Int) := by
  simp [IntKind.wrap, IntKind.signed, IntKind.bits]
theorem wrap_u8 (n : Nat) : IntKind.u8.wrap (n : Int) = ((n % 256 : Nat) : Int) := by
  simp [IntKind.wrap, IntKind.signed, IntKind.bits]
theorem wrap_i64 {n : Int} (h1 : -9223372036854775808 ≤ n) (h2 : n < 9223372036854775808) : IntKind.i64.wrap n = n := by
  simp [IntKind.wrap, IntKind.signed, IntKind.bits, Int.bmod]
  omega

/-- The remainder of a difference. -/
def subm (m a b : Nat) : Nat := (((a : Int) - b) % m).toNat

theorem wrap_sub64 (a b : Nat) : IntKind.u64.wrap ((a : Int) - b) = ((subm 18446744073709551616 a b : Nat) : Int) := by
  simp only [IntKind.wrap, IntKind.signed, IntKind.bits, subm]
  rw [Int.toNat_of_nonneg (Int.emod_nonneg _ (by decide))]
  rfl

theorem bv64 (n : Nat) : (BitVec.ofInt 64 (n : Int)).toNat = n % 18446744073709551616 := by
  simp [BitVec.toNat_ofInt]
theorem bv8 (n : Nat) : (BitVec.ofInt 8 (n : Int)).toNat = n % 256 := by
  simp [BitVec.toNat_ofInt]

theorem un_inj {a b : Nat} : un a = un b ↔ a = b := by
  simp only [un, Value.int.injEq, true_and]; omega
theorem bn_inj {a b : Nat} : bn a = bn b ↔ a = b := by
  simp only [bn, Value.int.injEq, true_and]; omega
theorem bin_add64 (a b : Nat) : binVal .add (un a) (un b) = some (un ((a + b) % 18446744073709551616)) := by
  simp only [binVal, un, ne_eq, not_true_eq_false, if_false]
  rw [← Int.natCast_add, wrap_u64]
theorem bin_mul64 (a b : Nat) : binVal .mul (un a) (un b) = some (un ((a * b) % 18446744073709551616)) := by
  simp only [binVal, un, ne_eq, not_true_eq_false, if_false]
  rw [← Int.natCast_mul, wrap_u64]
theorem bin_sub64 (a b : Nat) : binVal .sub (un a) (un b) = some (un (subm 18446744073709551616 a b)) := by
  simp only [binVal, un, ne_eq, not_true_eq_false, if_false]
  rw [wrap_sub64]
theorem bin_and64 (a b : Nat) : binVal .and (un a) (un b) = some (un ((a &&& b) % 18446744073709551616)) := by
  simp only [binVal, un, ne_eq, not_true_eq_false, if_false]
  rw [show IntKind.u64.bits = 64 from rfl, BitVec.toNat_and, bv64, bv64, wrap_u64]
  congr 3
  have e : (18446744073709551616 : Nat) = 2 ^ 64 := by decide
  rw [e, Nat.and_mod_two_pow, Nat.mod_mod, Nat.mod_mod, ← Nat.and_mod_two_pow]
theorem and_mask (a k : Nat) (hk : k ≤ 64) : (a &&& (2 ^ k - 1)) % 18446744073709551616 = a % 2 ^ k := by
  rw [Nat.and_two_pow_sub_one_eq_mod]
  have e : (18446744073709551616 : Nat) = 2 ^ 64 := by decide
  refine Nat.mod_eq_of_lt (Nat.lt_of_lt_of_le (Nat.mod_lt _ (Nat.two_pow_pos k)) ?_)
  rw [e]; exact Nat.pow_le_pow_right (by decide) hk
theorem bin_and51 (a : Nat) : binVal .and (un a) (un 2251799813685247) = some (un (a % 2251799813685248)) := by
  rw [bin_and64, show (2251799813685247 : Nat) = 2 ^ 51 - 1 by decide, and_mask a 51 (by decide)]
theorem bin_and32 (a : Nat) : binVal .and (un a) (un 4294967295) = some (un (a % 4294967296)) := by
  rw [bin_and64, show (4294967295 : Nat) = 2 ^ 32 - 1 by decide, and_mask a 32 (by decide)]
theorem bin_and1 (a : Nat) : binVal .and (un a) (un 1) = some (un (a % 2)) := by
  rw [bin_and64, show (1 : Nat) = 2 ^ 1 - 1 by decide, and_mask a 1 (by decide)]
theorem bin_or64 (a b : Nat) : binVal .or (un a) (un b) = some (un ((a ||| b) % 18446744073709551616)) := by
  simp only [binVal, un, ne_eq, not_true_eq_false, if_false]
  rw [show IntKind.u64.bits = 64 from rfl, BitVec.toNat_or, bv64, bv64, wrap_u64]
  congr 3
  have e : (18446744073709551616 : Nat) = 2 ^ 64 := by decide
  rw [e, Nat.or_mod_two_pow, Nat.mod_mod, Nat.mod_mod, ← Nat.or_mod_two_pow]
theorem bin_xor64 (a b : Nat) : binVal .xor (un a) (un b) = some (un ((a ^^^ b) % 18446744073709551616)) := by
  simp only [binVal, un, ne_eq, not_true_eq_false, if_false]
  rw [show IntKind.u64.bits = 64 from rfl, BitVec.toNat_xor, bv64, bv64, wrap_u64]
  congr 3
  have e : (18446744073709551616 : Nat) = 2 ^ 64 := by decide
  rw [e, Nat.xor_mod_two_pow, Nat.mod_mod, Nat.mod_mod, ← Nat.xor_mod_two_pow]
theorem bin_and8 (a b : Nat) : binVal .and (bn a) (bn b) = some (bn ((a &&& b) % 256)) := by
  simp only [binVal, bn, ne_eq, not_true_eq_false, if_false]
  rw [show IntKind.u8.bits = 8 from rfl, BitVec.toNat_and, bv8, bv8, wrap_u8]
  congr 3
  have e : (256 : Nat) = 2 ^ 8 := by decide
  rw [e, Nat.and_mod_two_pow, Nat.mod_mod, Nat.mod_mod, ← Nat.and_mod_two_pow]
theorem bin_and8_1 (a : Nat) : binVal .and (bn a) (bn 1) = some (bn (a % 2)) := by
  rw [bin_and8, show (a &&& 1) = a % 2 from Nat.and_one_is_mod a, Nat.mod_eq_of_lt (by omega)]
theorem bin_or8 (a b : Nat) : binVal .or (bn a) (bn b) = some (bn ((a ||| b) % 256)) := by
  simp only [binVal, bn, ne_eq, not_true_eq_false, if_false]
  rw [show IntKind.u8.bits = 8 from rfl, BitVec.toNat_or, bv8, bv8, wrap_u8]
  congr 3
  have e : (256 : Nat) = 2 ^ 8 := by decide
  rw [e, Nat.or_mod_two_pow, Nat.mod_mod, Nat.mod_mod, ← Nat.or_mod_two_pow]

theorem shl_any {k k' : IntKind} (a b : Nat) : binVal .shl (.int k a) (.int k' b) = some (.int k (k.wrap ((a * 2 ^ min b k.bits : Nat) : Int))) := by
  simp only [binVal]
  rw [if_neg (by omega), Int.toNat_natCast, Int.natCast_mul, Int.natCast_pow]
  rfl
theorem shr_any {k k' : IntKind} (a b : Nat) : binVal .shr (.int k a) (.int k' b) = some (.int k ((a / 2 ^ min b k.bits : Nat) : Int)) := by
  simp only [binVal]
  rw [if_neg (by omega), Int.toNat_natCast, Int.natCast_ediv, Int.natCast_pow, Int.fdiv_eq_ediv_of_nonneg _ (Int.pow_nonneg (by decide))]
  rfl

theorem bin_shl64 (a b : Nat) : binVal .shl (un a) (un b) = some (un ((a * 2 ^ min b 64) % 18446744073709551616)) := by
  simp only [un]; rw [shl_any, wrap_u64]; rfl
theorem bin_shl64j (a b : Nat) : binVal .shl (un a) (jn b) = some (un ((a * 2 ^ min b 64) % 18446744073709551616)) := by
  simp only [un, jn]; rw [shl_any, wrap_u64]; rfl
theorem bin_shr64 (a b : Nat) : binVal .shr (un a) (un b) = some (un (a / 2 ^ min b 64)) := by
  simp only [un]; rw [shr_any]; rfl
theorem bin_shr64j (a b : Nat) : binVal .shr (un a) (jn b) = some (un (a / 2 ^ min b 64)) := by
  simp only [un, jn]; rw [shr_any]; rfl
theorem bin_shl8j (a b : Nat) : binVal .shl (bn a) (jn b) = some (bn ((a * 2 ^ min b 8) % 256)) := by
  simp only [bn, jn]; rw [shl_any, wrap_u8]; rfl
theorem bin_shr8j (a b : Nat) : binVal .shr (bn a) (jn b) = some (bn (a / 2 ^ min b 8)) := by
  simp only [bn, jn]; rw [shr_any]; rfl
theorem bin_quo64 (a b : Nat) (h : b ≠ 0) : binVal .quo (un a) (un b) = some (un ((a / b) % 18446744073709551616)) := by
  simp only [binVal, un, ne_eq, not_true_eq_false, if_false]
  rw [if_neg (by omega), ← Int.ofNat_tdiv, wrap_u64]
theorem bin_rem64 (a b : Nat) (h : b ≠ 0) : binVal .rem (un a) (un b) = some (un (a % b)) := by
  simp only [binVal, un, ne_eq, not_true_eq_false, if_false]
  rw [if_neg (by omega), ← Int.ofNat_tmod]
theorem bin_quo32 (a b : Nat) (h : b ≠ 0) : binVal .quo (wn a) (wn b) = some (wn ((a / b) % 4294967296)) := by
  simp only [binVal, wn, ne_eq, not_true_eq_false, if_false]
  rw [if_neg (by omega), ← Int.ofNat_tdiv, wrap_u32]
theorem bin_rem32 (a b : Nat) (h : b ≠ 0) : binVal .rem (wn a) (wn b) = some (wn (a % b)) := by
  simp only [binVal, wn, ne_eq, not_true_eq_false, if_false]
  rw [if_neg (by omega), ← Int.ofNat_tmod]

theorem bin_addj (a b : Nat) (h : a + b < 9223372036854775808) : binVal .add (jn a) (jn b) = some (jn (a + b)) := by
  simp only [binVal, jn, ne_eq, not_true_eq_false, if_false]
  rw [wrap_i64 (by omega) (by omega), ← Int.natCast_add]
theorem bin_subj (a b : Nat) (h : b ≤ a) (h2 : a < 9223372036854775808) : binVal .sub (jn a) (jn b) = some (jn (a - b)) := by
  simp only [binVal, jn, ne_eq, not_true_eq_false, if_false]
  rw [wrap_i64 (by omega) (by omega), Int.ofNat_sub h]
theorem bin_quoj (a b : Nat) (h : b ≠ 0) (h2 : a < 9223372036854775808) : binVal .quo (jn a) (jn b) = some (jn (a / b)) := by
  simp only [binVal, jn, ne_eq, not_true_eq_false, if_false]
  have := Nat.div_le_self a b
  rw [if_neg (by omega), ← Int.ofNat_tdiv, wrap_i64 (by have : (0 : Int) ≤ ((a / b : Nat) : Int) := Int.natCast_nonneg _; omega) (by have : ((a / b : Nat) : Int) ≤ (a : Int) := Int.ofNat_le.2 this; omega)]
theorem bin_remj (a b : Nat) (h : b ≠ 0) : binVal .rem (jn a) (jn b) = some (jn (a % b)) := by
  simp only [binVal, jn, ne_eq, not_true_eq_false, if_false]
  rw [if_neg (by omega), ← Int.ofNat_tmod]

theorem bin_eqlj (a b : Nat) : binVal .eql (jn a) (jn b) = some (.bool (decide (a = b))) := by
  simp only [binVal, jn, ne_eq, not_true_eq_false, if_false, Option.some.injEq, Value.bool.injEq]; rw [Bool.eq_iff_iff]; simp; try omega
theorem bin_neqj (a b : Nat) : binVal .neq (jn a) (jn b) = some (.bool (decide (a ≠ b))) := by
  simp only [binVal, jn, ne_eq, not_true_eq_false, if_false, Option.some.injEq, Value.bool.injEq]; rw [Bool.eq_iff_iff]; simp; try omega
theorem bin_lssj (a b : Nat) : binVal .lss (jn a) (jn b) = some (.bool (decide (a < b))) := by
  simp [binVal, jn]
theorem bin_leqj (a b : Nat) : binVal .leq (jn a) (jn b) = some (.bool (decide (a ≤ b))) := by
  simp [binVal, jn]
theorem bin_gtrj (a b : Nat) : binVal .gtr (jn a) (jn b) = some (.bool (decide (b < a))) := by
  simp [binVal, jn]
theorem bin_geqj (a b : Nat) : binVal .geq (jn a) (jn b) = some (.bool (decide (b ≤ a))) := by
  simp [binVal, jn]
theorem bin_eql64 (a b : Nat) : binVal .eql (un a) (un b) = some (.bool (decide (a = b))) := by
  simp only [binVal, un, ne_eq, not_true_eq_false, if_false, Option.some.injEq, Value.bool.injEq]; rw [Bool.eq_iff_iff]; simp; try omega
theorem bin_lss64 (a b : Nat) : binVal .lss (un a) (un b) = some (.bool (decide (a < b))) := by
  simp [binVal, un]
theorem bin_gtr64 (a b : Nat) : binVal .gtr (un a) (un b) = some (.bool (decide (b < a))) := by
  simp [binVal, un]
theorem bin_eql8 (a b : Nat) : binVal .eql (bn a) (bn b) = some (.bool (decide (a = b))) := by
  simp only [binVal, bn, ne_eq, not_true_eq_false, if_false, Option.some.injEq, Value.bool.injEq]; rw [Bool.eq_iff_iff]; simp; try omega
theorem bin_rem8 (a b : Nat) (h : b ≠ 0) : binVal .rem (bn a) (bn b) = some (bn (a % b)) := by
  simp only [binVal, bn, ne_eq, not_true_eq_false, if_false]
  rw [if_neg (by omega), ← Int.ofNat_tmod]

/-- A sum with carry. -/
def add64A : AV → AV → AV → Option AV
  | .lit (.int .u64 a), .lit (.int .u64 b), .lit (.int .u64 d) => if 0 ≤ a ∧ 0 ≤ b ∧ 0 ≤ d ∧ d ≤ 1 then
        some (.tup [.lit (.int .u64 ((a + b + d) % 18446744073709551616)), .lit (.int .u64 ((a + b + d) / 18446744073709551616))]) else none
  | _, _, _ => none
theorem add64A_un (a b d : Nat) (h : d ≤ 1) : add64A (.lit (un a)) (.lit (un b)) (.lit (un d)) = some (.tup [.lit (un ((a + b + d) % 18446744073709551616)), .lit (un ((a + b + d) / 18446744073709551616))]) := by
  simp only [add64A, un]
  rw [if_pos (by omega)]
  rfl

/-- A number of another kind. -/
def cvtA (k : IntKind) : AV → Option AV
  | .lit (.int _ n) => some (.lit (.int k (k.wrap n)))
  | _ => none
theorem cvt_64j (n : Nat) : cvtA .u64 (.lit (jn n)) = some (.lit (un (n % 18446744073709551616))) := by simp only [cvtA, jn, wrap_u64]; rfl
theorem cvt_64b (n : Nat) : cvtA .u64 (.lit (bn n)) = some (.lit (un (n % 18446744073709551616))) := by simp only [cvtA, bn, wrap_u64]; rfl
theorem cvt_64w (n : Nat) : cvtA .u64 (.lit (wn n)) = some (.lit (un (n % 18446744073709551616))) := by simp only [cvtA, wn, wrap_u64]; rfl
theorem cvt_8u (n : Nat) : cvtA .u8 (.lit (un n)) = some (.lit (bn (n % 256))) := by simp only [cvtA, un, wrap_u8]; rfl
theorem cvt_8w (n : Nat) : cvtA .u8 (.lit (wn n)) = some (.lit (bn (n % 256))) := by simp only [cvtA, wn, wrap_u8]; rfl

noncomputable def idxA (ln esz : Nat) : AV → AV → Option AV
  | .lit (.int _ n), v => AS.idxAddr ln esz n v
  | _, _ => none
theorem idxA_ptr (ln esz n b : Nat) (l : Nat × Nat) (o : Nat) (p : List Nat) : idxA ln esz (.lit (jn n)) (.ptr b l o p) = if n < ln then some (.ptr b l (o + n * esz) (p ++ [n])) else none := by
  simp only [idxA, jn, AS.idxAddr, Int.toNat_natCast]
  by_cases h : n < ln
  · rw [if_pos h, if_pos (by omega)]
  · rw [if_neg h, if_neg (by omega)]
theorem idxA_cptr (ln esz n m : Nat) (els : List AV) : idxA ln esz (.lit (jn n)) (.cptr m (.arr esz els)) = if n < ln then (els[n]?).map (AV.cptr esz) else none := by
  simp only [idxA, jn, AS.idxAddr, Int.toNat_natCast, true_and]
  by_cases h : n < ln
  · rw [if_pos h, if_pos (by omega)]
  · rw [if_neg h, if_neg (by omega)]
noncomputable def elA (s : AS) (ro : Nat → Bool) (esz : Nat) : AV → AV → Option AV
  | .lit (.int _ n), v => s.elemAddr ro esz n v
  | _, _ => none
theorem elA_sl (s : AS) (ro : Nat → Bool) (esz n : Nat) (els : List AV) : elA s ro esz (.lit (jn n)) (.sl esz els) = (els[n]?).map (AV.cptr esz) := by
  simp only [elA, jn, AS.elemAddr, Int.toNat_natCast, true_and]
  by_cases h : n < els.length
  · rw [if_pos (by omega)]
  · rw [if_neg (by omega)]; simp [h]
noncomputable def elRow (b esz : Nat) (n : Nat) (V : Value) : Option Blk → Option AV
  | some (.row _ V' esz' els _) => if V' = V ∧ esz' = esz ∧ n < els.length then some (.ptr b (locOf V) (0 + n * esz) [n]) else none
  | _ => none
theorem elA_own (s : AS) (ro : Nat → Bool) (esz n b : Nat) (V : Value) : elA s ro esz (.lit (jn n)) (.own b V) = if ro b then elRow b esz n V (s.blk b) else none := by
  simp only [elA, jn, AS.elemAddr, elRow, Int.toNat_natCast]
  have e : ∀ (els : List AV), (0 ≤ (n : Int) ∧ (n : Int) < (els.length : Int)) = (n < els.length) := fun els => by rw [eq_iff_iff]; omega
  simp only [e]
  rfl
theorem elRow_row (b esz n : Nat) (e : TypeId) (V : Value) (els : List AV) (k : Nat) : elRow b esz n V (some (.row e V esz els k)) = if n < els.length then some (.ptr b (locOf V) (n * esz) [n]) else none := by
  simp [elRow]

noncomputable def lenA (s : AS) (ro : Nat → Bool) (str : Bool) (v : AV) : Option AV := (s.lenOf ro str v).map fun n => .lit (.int .i64 n)
theorem lenA_sl (s : AS) (ro : Nat → Bool) (esz : Nat) (els : List AV) : lenA s ro false (.sl esz els) = some (.lit (jn els.length)) := rfl
theorem lenA_nil (s : AS) (ro : Nat → Bool) : lenA s ro false (.lit (.slice none 0 0)) = some (.lit (jn 0)) := rfl
theorem lenA_str (s : AS) (ro : Nat → Bool) (b : ByteArray) : lenA s ro true (.lit (.string b)) = some (.lit (jn b.size)) := rfl
noncomputable def lenRow (V : Value) : Option Blk → Option AV
  | some (.row _ V' _ els _) => if V' = V then some (.lit (jn els.length)) else none
  | _ => none
theorem lenA_own (s : AS) (ro : Nat → Bool) (b : Nat) (V : Value) : lenA s ro false (.own b V) = if ro b then lenRow V (s.blk b) else none := by
  simp only [lenA, AS.lenOf, lenRow]
  cases ro b
  · rfl
  · simp only [if_true, Bool.false_eq_true, if_false]
    generalize s.blk b = x
    cases x with
    | none => rfl
    | some x =>
      cases x with
      | box l n v => rfl
      | row e V' esz els k => by_cases h : V' = V <;> simp [h, jn]
theorem lenRow_row (e : TypeId) (V : Value) (esz : Nat) (els : List AV) (k : Nat) : lenRow V (some (.row e V esz els k)) = some (.lit (jn els.length)) := by
  simp [lenRow]

section
variable {ro : Nat → Bool} {s : AS}

theorem ex_mov (x : Operand) : (AI.mov x).ex ro s = some (s.ev x) := rfl
def binA (op : BinOp) : AV → AV → Option AV
  | .lit a, .lit b => (binVal op a b).map .lit
  | _, _ => none
theorem ex_bin (op : BinOp) (x y : Operand) : (AI.bin op x y).ex ro s = binA op (s.ev x) (s.ev y) := by
  simp only [AI.ex]; generalize s.ev x = p; generalize s.ev y = q; cases p <;> cases q <;> rfl
theorem binA_lit (op : BinOp) (a b : Value) : binA op (.lit a) (.lit b) = (binVal op a b).map .lit := rfl
theorem ex_cvt (k : IntKind) (x : Operand) : (AI.cvt k x).ex ro s = cvtA k (s.ev x) := rfl
theorem ex_iaddrA (ln esz : Nat) (x i : Operand) : (AI.iaddrA ln esz x i).ex ro s = idxA ln esz (s.ev i) (s.ev x) := by
  simp only [AI.ex]; generalize s.ev i = p; cases p <;> first | rfl | (rename_i v; cases v <;> rfl)
theorem ex_iaddrS (esz : Nat) (x i : Operand) : (AI.iaddrS esz x i).ex ro s = elA s ro esz (s.ev i) (s.ev x) := by
  simp only [AI.ex]; generalize s.ev i = p; cases p <;> first | rfl | (rename_i v; cases v <;> rfl)
theorem ex_faddr (off idx : Nat) (x : Operand) : (AI.faddr off idx x).ex ro s = AS.fieldAddr off idx (s.ev x) := rfl
def ldA (agg : Bool) (n : Nat) : Option (Nat × AV) → Option AV
  | some (m, u) => if m = n ∧ u.isAgg = agg ∧ u.isTup = false then some u else none
  | none => none
theorem ex_load (agg : Bool) (n : Nat) (x : Operand) : (AI.load agg n x).ex ro s = ldA agg n (s.peek ro (s.ev x)) := rfl
theorem ex_ext (x : Operand) (i : Nat) : (AI.ext x i).ex ro s = match s.ev x with | .tup vs => vs[i]? | _ => none := rfl

theorem ex_add64 (x y c : Operand) : (AI.add64 x y c).ex ro s = add64A (s.ev x) (s.ev y) (s.ev c) := rfl
theorem ex_pick (c a b : Operand) : (AI.pick c a b).ex ro s = match s.ev c with | .lit (.bool t) => some (if t then s.ev a else s.ev b) | _ => none := rfl
theorem ex_beq (neg : Bool) (x y : Operand) : (AI.beq neg x y).ex ro s = match s.ev x, s.ev y with | .lit (.bool p), .lit (.bool q) => some (.lit (.bool (if neg then !(p == q) else p == q))) | _, _ => none := rfl
theorem ex_un (op : UnOp) (x : Operand) : (AI.un op x).ex ro s = match s.ev x with | .lit a => (unVal op a).map .lit | _ => none := rfl
theorem ex_len (str : Bool) (x : Operand) : (AI.len str x).ex ro s = lenA s ro str (s.ev x) := rfl
theorem ex_nilc (x : Operand) : (AI.nilc x).ex ro s = match s.ev x with | .ptr b l off p => some (.ptr b l off p) | .cptr n v => some (.cptr n v) | _ => none := rfl
theorem ex_build (z : AV) (parts : List (Nat × Operand)) : (AI.build z parts).ex ro s = fillAV s z parts := rfl
theorem ex_bslice (esz : Nat) (z : AV) (n : Nat) (parts : List (Nat × Operand)) : (AI.bslice esz z n parts).ex ro s = match fillAV s (.arr esz (List.replicate n z)) parts with | some (.arr _ els) => some (.sl esz els) | _ => none := rfl
theorem ex_fieldv (off idx n : Nat) (agg : Bool) (x : Operand) : (AI.fieldv off idx n agg x).ex ro s = match s.ev x with
    | .st ns fs => if (ns.take idx).sum = off ∧ ns[idx]? = some n then (match fs[idx]? with
      | some v => if v.isAgg = agg ∧ v.isTup = false then some v else none
      | none => none) else none
    | _ => none := rfl

variable {P : Program} {K : AS → Prop} {Q : AX → AS → Prop} {xs : List AOp} {s' : AS} {b : AC}

theorem wp_sr (h : runPre xs s = ([], s')) (k : b.wp P s' Q) : (AC.seq (.reg xs) b).wp P s Q := areg_pre (K := fun s' => b.wp P s' Q) h k
theorem wp_r (h : runPre xs s = ([], s')) (k : Q .normal s') : (AC.reg xs).wp P s Q := areg_pre (K := Q .normal) h k
theorem wp_sg (h : AReg P xs s fun s' => b.wp P s' Q) : (AC.seq (.reg xs) b).wp P s Q := h
theorem areg_al {d : Tmp} {n : Nat} {z : AV} {fo : List Tmp} {ow : Option Tmp}
    (h : ∀ l, AReg P xs ⟨s.nr, s.tm.set d (.ptr (s.nr + d) l 0 []), s.hp.set (s.nr + d) (some (.box l n z))⟩ K) : AReg P (⟨some d, none, .alloc n z, fo, ow⟩ :: xs) s K := areg_alloc h

theorem areg_bx {d : Tmp} {n : Nat} {x : Operand} {fo : List Tmp} {ow : Option Tmp} (h1 : (s.ev x).isTup = false) (h2 : (s.ev x).sz = n)
    (h : ∀ l, AReg P xs ⟨s.nr, s.tm.set d (.ptr (s.nr + d) l 0 []), s.hp.set (s.nr + d) (some (.box l n (s.ev x)))⟩ K) : AReg P (⟨some d, none, .box n x, fo, ow⟩ :: xs) s K := areg_box h1 h2 h

theorem areg_end (h : runPre xs s = ([], s')) (k : K s') : AReg P xs s K := areg_pre h k

theorem fin_row {rt : Tmp} {b : Nat} {V : Value} {e : TypeId} {esz : Nat} {els : List AV} (h : s.ev (.tmp rt) = .own b V) (hb : s.blk b = some (.row e V esz els 0)) : Fin [.tmp rt] s (.row e esz els) := ⟨rt, rfl, .inr ⟨b, V, h, hb⟩⟩
theorem fin_tup {x y : RV} {rs : List RV} {vs : List AV} (h : RVals s (x :: y :: rs) = some vs) (hv : ∀ u ∈ vs, u ≠ .any) : Fin (x :: y :: rs) s (.val (.tup vs)) := ⟨[], vs, rfl, h, hv⟩

theorem areg_ic {d : Option Tmp} {f : FuncId} {x : Operand} {as : List Operand} {ow : Option Tmp} {b m : Nat} {blk : Blk} {p : List Nat} {u r u' : AV} {fo : List Tmp} {vs : List AV} (hp : s.part (s.ev x) = some (b, blk, p, m, u))
    (ha : (as.map fun x => s.coe (AOp.ro ⟨d, none, .icall f x as, fo, ow⟩ s.nr) (s.ev x)) = vs) (hc : ICall P f m u vs r u') (hu : u'.isTup = false) (h : AReg P xs ((s.setBlk b (some (blk.upd p u'))).put d r) K) : AReg P (⟨d, none, .icall f x as, fo, ow⟩ :: xs) s K := by
  subst ha
  unfold AReg AOp.go AOp.mine
  simp only [AI.go, hp]
  exact ⟨trivial, r, u', hc, hu, h⟩

theorem areg_al' {d : Tmp} {n : Nat} {z z' : AV} {fo : List Tmp} {ow : Option Tmp} (hz : z = z')
    (h : ∀ l, AReg P xs ⟨s.nr, s.tm.set d (.ptr (s.nr + d) l 0 []), s.hp.set (s.nr + d) (some (.box l n z'))⟩ K) : AReg P (⟨some d, none, .alloc n z, fo, ow⟩ :: xs) s K := by subst hz; exact areg_alloc h
theorem wp_rg (h : AReg P xs s (Q .normal)) : (AC.reg xs).wp P s Q := h

theorem areg_cv {d : Option Tmp} {f : FuncId} {as : List Operand} {fo : List Tmp} {ow : Option Tmp} {v : AV} {vs : List AV} (ha : (as.map fun x => s.coe (AOp.ro ⟨d, none, .callv f as, fo, ow⟩ s.nr) (s.ev x)) = vs) (hc : PCall P f vs (.val v))
    (h : AReg P xs (s.put d v) K) : AReg P (⟨d, none, .callv f as, fo, ow⟩ :: xs) s K := by subst ha; exact areg_callv hc h
theorem areg_lc {d : Option Tmp} {f : FuncId} {as : List Operand} {fo : List Tmp} {ow : Option Tmp} {v : AV} {vs : List AV} (ha : (as.map fun x => s.lend (AOp.ro ⟨d, none, .lcall f as, fo, ow⟩ s.nr) (s.ev x)) = vs) (hp : v.plain = true) (hc : PCall P f vs (.val v))
    (h : AReg P xs (s.put d v) K) : AReg P (⟨d, none, .lcall f as, fo, ow⟩ :: xs) s K := by
  subst ha
  unfold AReg AOp.go AOp.mine
  simp only [AI.go]
  exact ⟨trivial, v, hp, hc, h⟩
theorem areg_ca {d : Option Tmp} {f : FuncId} {as : List Operand} {ow : Option Tmp} {v : AV} {vs : List AV} (ha : (as.map fun x => s.coe tt (s.ev x)) = vs) (hc : PCall P f vs (.val v))
    (h : AReg P xs (s.put d v) K) : AReg P (⟨d, none, .call f as, [], ow⟩ :: xs) s K := by subst ha; exact areg_call hc rfl h
theorem areg_cr {d : Tmp} {f : FuncId} {as : List Operand} {ow : Option Tmp} {e : TypeId} {esz : Nat} {els : List AV} {vs : List AV} (ha : (as.map fun x => s.coe tt (s.ev x)) = vs) (hc : PCall P f vs (.row e esz els))
    (h : ∀ V, AReg P xs ⟨s.nr, s.tm.set d (.own (s.nr + d) V), s.hp.set (s.nr + d) (some (.row e V esz els 0))⟩ K) : AReg P (⟨some d, none, .call f as, [], ow⟩ :: xs) s K := by subst ha; exact areg_callR hc rfl h

/-- A call that is handed lists of the call's own: they are sealed first. -/
theorem areg_cs {d : Option Tmp} {f : FuncId} {as : List Operand} {ow : Option Tmp} {v : AV} {vs : List AV} (bs : List Nat) (s1 : AS) (h1 : s.seals bs = s1) (ha : (as.map fun x => s1.coe tt (s1.ev x)) = vs) (hc : PCall P f vs (.val v))
    (h : AReg P xs (s1.put d v) K) : AReg P (⟨d, none, .call f as, [], ow⟩ :: xs) s K := by
  subst h1 ha
  unfold AReg AOp.go AOp.mine
  simp only [AI.go]
  have hro : (AOp.ro ⟨d, none, .call f as, [], ow⟩ s.nr) = tt := by funext b; rfl
  rw [hro]
  exact ⟨trivial, bs, .val v, hc, h⟩
theorem areg_csr {d : Tmp} {f : FuncId} {as : List Operand} {ow : Option Tmp} {e : TypeId} {esz : Nat} {els : List AV} {vs : List AV} (bs : List Nat) (s1 : AS) (h1 : s.seals bs = s1) (ha : (as.map fun x => s1.coe tt (s1.ev x)) = vs) (hc : PCall P f vs (.row e esz els))
    (h : ∀ V, AReg P xs ⟨s1.nr, s1.tm.set d (.own (s.nr + d) V), s1.hp.set (s.nr + d) (some (.row e V esz els 0))⟩ K) : AReg P (⟨some d, none, .call f as, [], ow⟩ :: xs) s K := by
  subst h1 ha
  unfold AReg AOp.go AOp.mine
  simp only [AI.go]
  have hro : (AOp.ro ⟨some d, none, .call f as, [], ow⟩ s.nr) = tt := by funext b; rfl
  rw [hro]
  exact ⟨trivial, bs, .row e esz els, hc, h⟩

/-- A part's run, and what is left of the region. -/
theorem areg_run (n : Nat) (h : runPre (xs.take n) s = ([], s')) (k : AReg P (xs.drop n) s' K) : AReg P xs s K := by
  have : ∀ (as bs : List AOp) (s : AS), AReg P (as ++ bs) s K = AReg P as s fun s => AReg P bs s K := by
    intro as bs
    induction as with
    | nil => intro s; rfl
    | cons a as ih =>
      intro s
      show a.go P s _ = a.go P s _
      congr 1; funext s1; exact ih s1
  rw [← List.take_append_drop n xs, this]
  exact areg_pre h k

theorem fin_cell {rt : Tmp} {agg : Bool} {n : Nat} {v : AV} (h : RVal s (.cell rt agg n) = some v) (hv : v ≠ .any) : Fin [.cell rt agg n] s (.val v) := ⟨[], h, hv⟩
theorem fin_tmp {rt : Tmp} {v : AV} (h : RVal s (.tmp rt) = some v) (hv : v ≠ .any) : Fin [.tmp rt] s (.val v) := ⟨[], h, hv⟩

theorem if_hit {p : Prop} [Decidable p] {A B : Prop} (h : p) (k : A) : if p then A else B := by rw [if_pos h]; exact k
end

/-- From one number on. -/
theorem loop_counts {P : Program} {c : AC} {s : AS} {Q : AX → AS → Prop} (n : Nat) (S : Nat → AS) (h0 : Le s (S 0)) (hstep : ∀ i, i < n → c.wp P (S i) fun x s' => match x with | .normal => Le s' (S (i + 1)) | x => Q x s')
    (hlast : c.wp P (S n) fun x s' => match x with | .normal => False | x => Q x s') : (AC.loop c).wp P s Q := wp_loop_to n S h0 hstep hlast

end Go.Cab
