/- Part five: what one operation does to an abstract state, and how it is read off the program. -/
import Derived.Test.YtjkckdiepdbfeaaCabD
set_option linter.unusedSimpArgs false
set_option linter.unusedVariables false
set_option linter.unusedSectionVars false
namespace Go.Cab
open Go.RowKit
open Classical

def locOf (V : Value) : Nat × Nat := (V.ownBlock.getD 0, 0)

def Blk.loc : Blk → Nat × Nat
  | .box l _ _ => l
  | .row _ V _ _ _ => locOf V
def Blk.cont : Blk → AV
  | .box _ _ v => v
  | .row _ _ esz els _ => .arr esz els
def Blk.n : Blk → Nat
  | .box _ n _ => n
  | .row _ _ esz els _ => els.length * esz
def Blk.may (off : Nat) (p : List Nat) : Blk → Bool
  | .box _ _ _ => true
  | .row _ _ esz _ s => !p.isEmpty && s * esz ≤ off
def Blk.upd (p : List Nat) (u : AV) : Blk → Blk
  | .box l n v => .box l n (v.upd p u)
  | .row e V esz els s => .row e V esz (match p with | [] => els | i :: p => els.set i ((els.getD i .any).upd p u)) s

/-- The operations. -/
inductive AI where
  | mov (x : Operand)
  | pick (c a b : Operand)
  | bin (op : BinOp) (x y : Operand)
  | beq (neg : Bool) (x y : Operand)
  | un (op : UnOp) (x : Operand)
  | cvt (k : IntKind) (x : Operand)
  | alloc (n : Nat) (z : AV)
  | box (n : Nat) (x : Operand)
  | build (z : AV) (parts : List (Nat × Operand))
  | bslice (esz : Nat) (z : AV) (n : Nat) (parts : List (Nat × Operand))
  | load (agg : Bool) (n : Nat) (x : Operand)
  | store (n : Nat) (x v : Operand)
  | faddr (off idx : Nat) (x : Operand)
  | iaddrA (len esz : Nat) (x i : Operand)
  | iaddrS (esz : Nat) (x i : Operand)
  | fieldv (off idx n : Nat) (agg : Bool) (x : Operand)
  | len (str : Bool) (x : Operand)
  | ext (x : Operand) (i : Nat)
  | nilc (x : Operand)
  | add64 (x y c : Operand)
  | append (e : TypeId) (esz bytes : Nat) (x y : Operand)
  | mkslice (e : TypeId) (esz bytes : Nat) (z : AV) (l c : Operand)
  | eqv (t : TypeId) (neg : Bool) (x y : Operand)
  | call (f : FuncId) (args : List Operand)
  | callv (f : FuncId) (args : List Operand)
  | lcall (f : FuncId) (args : List Operand)
  | icall (f : FuncId) (x : Operand) (args : List Operand)
  deriving Inhabited

/-- An element of an array, or a field. -/
def AV.sub (v : AV) (i : Nat) : Option (Nat × AV) :=
  match v with
  | .st ns fs => match ns[i]?, fs[i]? with | some n, some f => some (n, f) | _, _ => none
  | .arr esz els => match els[i]? with | some e => some (esz, e) | none => none
  | _ => none

/-- One part after the other is put in its place. -/
noncomputable def fillAV (s : AS) : AV → List (Nat × Operand) → Option AV
  | z, [] => some z
  | z, (i, x) :: rest => match z.sub i with
    | some (n, _) => if (s.ev x).isTup = false ∧ (s.ev x).sz = n then fillAV s (z.upd [i] (s.ev x)) rest else none
    | none => none

/-- A part of memory is read. -/
noncomputable def AS.peek (s : AS) (ro : Nat → Bool) : AV → Option (Nat × AV)
  | .ptr b l off p => if ro b then match s.blk b with
      | some x => if x.loc = l then match x.cont.nav 0 x.n p with
        | some (o, m, u) => if o = off then some (m, u) else none
        | none => none else none
      | none => none else none
  | .cptr m u => some (m, u)
  | _ => none

/-- A part of memory is written. -/
noncomputable def AS.poke (s : AS) (n : Nat) (v : AV) : AV → Option AS
  | .ptr b l off p => match s.blk b with
      | some x => if x.loc = l then match x.cont.nav 0 x.n p with
        | some (o, m, _) => if o = off ∧ m = n ∧ v.isTup = false ∧ v.sz = n ∧ x.may off p = true then some (s.setBlk b (some (x.upd p v))) else none
        | none => none else none
      | none => none
  | _ => none

/-- An element's address. -/
noncomputable def AS.elemAddr (s : AS) (ro : Nat → Bool) (esz : Nat) (n : Int) : AV → Option AV
  | .sl esz' els => if esz' = esz ∧ 0 ≤ n ∧ n < (els.length : Int) then (els[n.toNat]?).map (AV.cptr esz) else none
  | .own b V => if ro b then match s.blk b with
      | some (.row _ V' esz' els _) => if V' = V ∧ esz' = esz ∧ 0 ≤ n ∧ n < (els.length : Int) then some (.ptr b (locOf V) (0 + n.toNat * esz) [n.toNat]) else none
      | _ => none else none
  | _ => none

noncomputable def AS.lenOf (s : AS) (ro : Nat → Bool) (str : Bool) : AV → Option Int
  | .sl _ els => if str then none else some (els.length : Int)
  | .own b V => if str then none else if ro b then match s.blk b with
      | some (.row _ V' _ els _) => if V' = V then some (els.length : Int) else none
      | _ => none else none
  | .lit (.slice none 0 0) => if str then none else some 0
  | .lit (.string b) => if str then some (b.size : Int) else none
  | _ => none

noncomputable def AS.fieldAddr (off idx : Nat) : AV → Option AV
  | .ptr b l o p => some (.ptr b l (o + off) (p ++ [idx]))
  | .cptr _ (.st ns fs) => if (ns.take idx).sum = off then match ns[idx]?, fs[idx]? with | some k, some f => some (.cptr k f) | _, _ => none else none
  | _ => none

noncomputable def AS.idxAddr (len esz : Nat) (n : Int) : AV → Option AV
  | .ptr b l o p => if 0 ≤ n ∧ n < (len : Int) then some (.ptr b l (o + n.toNat * esz) (p ++ [n.toNat])) else none
  | .cptr _ (.arr esz' els) => if esz' = esz ∧ 0 ≤ n ∧ n < (len : Int) then (els[n.toNat]?).map (AV.cptr esz) else none
  | _ => none

/-- What a callee is handed: a list in place of the call's own rows. -/
noncomputable def AS.coe (s : AS) (ro : Nat → Bool) : AV → AV
  | .own b V => if ro b then match s.blk b with
      | some (.row _ V' esz els sl) => if V' = V ∧ sl = els.length then .sl esz els else .any
      | _ => .any else .any
  | v => v

/-- What a callee is lent: a list in place of the call's own rows, sealed or not. -/
noncomputable def AS.lend (s : AS) (ro : Nat → Bool) : AV → AV
  | .own b V => if ro b then match s.blk b with
      | some (.row _ V' esz els _) => if V' = V then .sl esz els else .any
      | _ => .any else .any
  | v => v

def AV.isLit : AV → Bool
  | .lit _ => true
  | _ => false
/-- A value that holds no address: a number, or a row of them. -/
def AV.flat : AV → Bool
  | .lit _ => true
  | .arr _ els => els.all AV.isLit
  | _ => false
/-- A value that holds no address. -/
def AV.plain : AV → Bool
  | .lit _ => true
  | .arr _ els => els.all AV.isLit
  | .st _ fs => fs.all AV.flat
  | _ => false

/-- Equal values: numbers, truths, texts, and what is made of them. 'none': it can't be told. -/
def litEq : Value → Value → Option Bool
  | .int k a, .int k' b => if k = k' then some (a == b) else none
  | .bool a, .bool b => some (a == b)
  | .string a, .string b => some (a.toList == b.toList)
  | _, _ => none

end Go.Cab
