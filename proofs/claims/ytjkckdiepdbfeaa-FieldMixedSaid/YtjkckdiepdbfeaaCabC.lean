/- Part three: the operations on abstract states. -/
import Derived.Test.YtjkckdiepdbfeaaCabB
set_option linter.unusedSimpArgs false
set_option linter.unusedVariables false
set_option linter.unusedSectionVars false
namespace Go.Cab
open Go.RowKit
open Classical

/-- How many cells. -/
def AV.sz : AV → Nat
  | .st ns _ => ns.sum
  | .arr esz els => els.length * esz
  | _ => 1
def AV.isAgg : AV → Bool
  | .st _ _ | .arr _ _ => true
  | _ => false
def AV.isTup : AV → Bool
  | .tup _ | .any => true
  | _ => false

/-- The part at a path: from which cell on, how many, what it is. -/
def AV.nav : AV → Nat → Nat → List Nat → Option (Nat × Nat × AV)
  | v, acc, n, [] => some (acc, n, v)
  | .st ns fs, acc, _, i :: p => match ns[i]?, fs[i]? with
    | some n, some f => f.nav (acc + (ns.take i).sum) n p
    | _, _ => none
  | .arr esz els, acc, _, i :: p => match els[i]? with
    | some e => e.nav (acc + i * esz) esz p
    | none => none
  | _, _, _, _ :: _ => none
termination_by _ _ _ p => p.length

/-- The value with another part at a path. -/
def AV.upd : AV → List Nat → AV → AV
  | _, [], u => u
  | .st ns fs, i :: p, u => .st ns (fs.set i ((fs.getD i .any).upd p u))
  | .arr esz els, i :: p, u => .arr esz (els.set i ((els.getD i .any).upd p u))
  | v, _ :: _, _ => v
termination_by _ p _ => p.length

def binVal (op : BinOp) (x y : Value) : Option Value :=
  match x, y with
  | .int k a, .int k' b =>
    match op with
    | .shl => if b < 0 then none else some (.int k (k.wrap (a * 2 ^ (min b.toNat k.bits))))
    | .shr => if b < 0 then none else some (.int k (a.fdiv (2 ^ (min b.toNat k.bits))))
    | .quo => if k ≠ k' then none else if b = 0 then none else some (.int k (k.wrap (a.tdiv b)))
    | .rem => if k ≠ k' then none else if b = 0 then none else some (.int k (a.tmod b))
    | .add => if k ≠ k' then none else some (.int k (k.wrap (a + b)))
    | .sub => if k ≠ k' then none else some (.int k (k.wrap (a - b)))
    | .mul => if k ≠ k' then none else some (.int k (k.wrap (a * b)))
    | .and => if k ≠ k' then none else some (.int k (k.wrap (BitVec.ofInt k.bits a &&& BitVec.ofInt k.bits b).toNat))
    | .or => if k ≠ k' then none else some (.int k (k.wrap (BitVec.ofInt k.bits a ||| BitVec.ofInt k.bits b).toNat))
    | .xor => if k ≠ k' then none else some (.int k (k.wrap (BitVec.ofInt k.bits a ^^^ BitVec.ofInt k.bits b).toNat))
    | .andNot => if k ≠ k' then none else some (.int k (k.wrap (BitVec.ofInt k.bits a &&& ~~~ (BitVec.ofInt k.bits b)).toNat))
    | .eql => if k ≠ k' then none else some (.bool (a == b))
    | .neq => if k ≠ k' then none else some (.bool (a != b))
    | .lss => if k ≠ k' then none else some (.bool (a < b))
    | .leq => if k ≠ k' then none else some (.bool (a ≤ b))
    | .gtr => if k ≠ k' then none else some (.bool (a > b))
    | .geq => if k ≠ k' then none else some (.bool (a ≥ b))
  | .string a, .string b =>
    match op with
    | .add => if ((a.size + b.size : Nat) : Int) > IntKind.i64.max then none else some (.string (a ++ b))
    | .eql => some (.bool (a.toList == b.toList))
    | .neq => some (.bool !(a.toList == b.toList))
    | .lss => some (.bool (Op.bytesLess a.toList b.toList))
    | .leq => some (.bool (Op.bytesLess a.toList b.toList || (a.toList == b.toList)))
    | .gtr => some (.bool !(Op.bytesLess a.toList b.toList || (a.toList == b.toList)))
    | .geq => some (.bool !(Op.bytesLess a.toList b.toList))
    | _ => none
  | _, _ => none

/-- Of a type that '==' compares at once. -/
def plainEq (P : Program) (t : TypeId) : Bool :=
  match P.underlying t with
  | some (.int _) | some .string => true
  | _ => false

theorem run_binVal {P : Program} {op : BinOp} {t : TypeId} {x y v : Value} {X Y : Operand} {w : World} (h : binVal op x y = some v) :
    (do eqGuard op t X Y x y; binOp op t x y : Sem Value).run P w = .ok v w := by
  cases x <;> cases y <;> try (simp [binVal] at h; done)
  case int.int k a k' b =>
    cases op <;> simp only [binVal] at h
    case shl => split at h <;> simp at h; subst h; simp [eqGuard, binOp, Op.shift, *]
    case shr => split at h <;> simp at h; subst h; simp [eqGuard, binOp, Op.shift, *]
    all_goals
      by_cases hk : k = k'
      case neg => simp [hk] at h
      subst hk
      simp at h
    all_goals first
      | (obtain ⟨h0, h⟩ := h; subst h; simp [eqGuard, binOp, Op.intArith, Op.intBits, Op.intDiv, Op.intCmp, h0])
      | (subst h; simp [eqGuard, binOp, Op.intArith, Op.intBits, Op.intDiv, Op.intCmp])
  case string.string a b =>
    cases op <;> simp only [binVal] at h <;> try (simp at h; done)
    case add =>
      split at h
      · simp at h
      · rename_i hgt
        simp only [Option.some.injEq] at h
        subst h
        have hgt' : ¬ (IntKind.i64.max < ((a.size + b.size : Nat) : Int)) := hgt
        simp only [eqGuard, binOp, Op.stringOp, GT.gt, if_neg hgt']
        simp
    all_goals (simp only [Option.some.injEq] at h; subst h; simp [eqGuard, binOp, Op.stringOp])

def unVal (op : UnOp) (x : Value) : Option Value :=
  match op, x with
  | .neg, .int k n => some (.int k (k.wrap (0 - n)))
  | .xor, .int k n => some (.int k (k.wrap (BitVec.ofInt k.bits (if k.signed then -1 else k.max) ^^^ BitVec.ofInt k.bits n).toNat))
  | .not, .bool b => some (.bool !b)
  | _, _ => none

theorem run_unVal {P : Program} {op : UnOp} {x v : Value} {w : World} (h : unVal op x = some v) : (Op.unary op x).run P w = .ok v w := by
  cases op <;> cases x <;> simp [unVal] at h <;> subst h <;> simp [Op.unary, Op.intArith, Op.intBits]

end Go.Cab
