/- Part 4 of what the proof stands on: O, Q, S. -/
import Derived.Test.YtiikindmkllbiaaDoorCab03
import Derived.Still
import Derived.Scope
import Derived.Deep.LoopGhost
set_option linter.unusedSimpArgs false
set_option linter.unnecessarySimpa false
set_option linter.unusedVariables false
set_option linter.unusedSectionVars false
namespace Go.Cab
open Go.RowKit
open Classical
def firstPtr (P : Program) (f : FuncId) : Bool :=
  match P.funcs[f]? with
  | some fn => match fn.params[0]? with
    | some t => match P.underlying t with | some (.pointer _) => true | _ => false
    | none => false
  | none => false
def lends (P : Program) (f : FuncId) : Bool :=
  match P.funcs[f]? with
  | some fn => (fn.params.toList.any (fun t => match P.underlying t with
      | some (.struct fds) => fds.toList.any fun fd => match P.underlying fd.type with | some (.slice _) => true | _ => false
      | _ => false) && (match fn.resultTypes.toList with
    | [t] => (match P.underlying t with | some (.int .i64) => true | _ => false)
    | _ => false)) || fn.params.toList.any (fun t => match P.underlying t with | some (.slice _) => true | _ => false) && (match fn.resultTypes.toList with
    | [t] => (match P.underlying t with
      | some .bool | some (.int _) => true
      | some (.array _ e) => (match P.underlying e with | some (.int _) => true | _ => false)
      | some (.struct fds) => fds.toList.all fun fd => match P.underlying fd.type with
        | some .bool | some (.int _) => true
        | some (.array _ e) => (match P.underlying e with | some (.int _) => true | _ => false)
        | _ => false
      | _ => false)
    | _ => false)
  | none => false
def aggEq (P : Program) (t : TypeId) : Bool := aggT P t && P.keyTypeAt 12 t && !P.eqGuardType P.depth t
def compCall (P : Program) (draw : Bool) (c : Call) : Option AI :=
  match c.callee with
  | .builtin .min => match c.args.toList with
    | [x, y] => if okO x && okO y then some (.prim .imin [x, y]) else none
    | _ => none
  | .builtin .max => match c.args.toList with
    | [x, y] => if okO x && okO y then some (.prim .imax [x, y]) else none
    | _ => none
  | .value (.func f) => if externFn P f "internal/bytealg.IndexByteString" then (match c.args.toList with
      | [x, y] => if okO x && okO y then some (.prim .ibyte [x, y]) else none
      | _ => none) else if externFn P f "math/bits.Add64" then (match c.args.toList with
      | [x, y, z] => if okO x && okO y && okO z then some (.add64 x y z) else none
      | _ => none) else if callable P f then (match c.args.toList with
      | x :: xs => if firstPtr P f then (if (x :: xs).all okO then some (.icall f x xs) else none)
        else if (x :: xs).all okO then (if lends P f then some (.lcall f (x :: xs)) else if draw then some (.callv f (x :: xs)) else some (.call f (x :: xs))) else none
      | [] => if draw then some (.callv f []) else some (.call f [])) else none
  | .builtin .append => match c.args.toList, c.argTypes.toList with
    | [x, y], [t, t'] => if t' = t then (match P.underlying t with
      | some (.slice e) => match P.info? e, zeroOf P e with
        | some i, some (n, _) => if okO x && okO y then some (.append e n i.bytes x y) else none
        | _, _ => none
      | _ => none) else none
    | _, _ => none
  | _ => none
def compAI (P : Program) (draw : Bool) (op : Op) : Option AI :=
  match op with
  | .binOp .eql t x y u => if aggEq P t then (if okO x && okO y then some (.eqv t false x y) else none) else comp1 P (.binOp .eql t x y u)
  | .binOp .neq t x y u => if aggEq P t then (if okO x && okO y then some (.eqv t true x y) else none) else comp1 P (.binOp .neq t x y u)
  | .build t parts => match zeroOf P t with
    | some (_, z) => if buildOk P t z && parts.toList.all (fun p => okO p.2) then some (.build z parts.toList) else none
    | none => none
  | .buildSlice t n parts => match P.underlying t with
    | some (.slice e) => match zeroOf P e with
      | some (esz, z) => if n * esz ≤ 16777216 && parts.toList.all (fun p => okO p.2) then some (.bslice esz z n parts.toList) else none
      | none => none
    | _ => none
  | .nilCheck x => if okO x then some (.nilc x) else none
  | .makeSlice t l c => match P.underlying t with
    | some (.slice e) => match P.info? e, zeroOf P e with
      | some i, some (esz, z) => if okO l && okO c then some (.mkslice e esz i.bytes z l c) else none
      | _, _ => none
    | _ => none
  | .field t x f => match P.underlying t with
    | some (.struct fields) => match fields[f]? with
      | some fd => match szOf P fd.type with
        | some n => if (P.underlying fd.type).isSome && okO x && (aggT P fd.type || n == 1) then some (.fieldv fd.offset f n (aggT P fd.type) x) else none
        | none => none
      | none => none
    | _ => none
  | .call c => match compCall P draw c with
    | some ai => some ai
    | none => comp1 P (.call c)
  | op => comp1 P op
def rootOf (ops : Array Oper) : Nat → Tmp → Tmp
  | 0, t => t
  | n + 1, t => match ops.toList.find? (fun o => o.dst == some t) with
    | some o => match o.op with
      | .fieldAddr _ (.tmp u) _ | .indexAddr _ (.tmp u) _ | .nilCheck (.tmp u) | .move (.tmp u) => rootOf ops n u
      | _ => t
    | none => t
def rootR (ops : Array Oper) (p : Tmp) : Tmp :=
  let r := rootOf ops 20 p
  if ops.any fun q => q.dst == some r then 1000000 else r
def unordered (ops : Array Oper) (i j : Nat) : Bool :=
  i != j && (match ops[i]?, ops[j]? with
    | some a, some b => !(a.after.any fun e => Region.binds .any e && e.on == j) && !(b.after.any fun e => Region.binds .any e && e.on == i)
    | _, _ => false)
def waitsO (ops : Array Oper) (i : Nat) : Array Bool :=
  (List.range ops.size).foldl (fun W j => match ops[j]? with
    | some oj => if oj.after.any (fun e => Region.binds .any e && (e.on == i || W.getD e.on false)) then W.setIfInBounds j true else W
    | none => W) (Array.replicate ops.size false)
def idxO (ops : Array Oper) (o : Oper) : Nat := (ops.toList.findIdx? (fun q => q.dst == o.dst)).getD ops.size
def rootL (ops : Array Oper) (p : Tmp) : Tmp :=
  let r := rootOf ops 20 p
  match ops.toList.findIdx? (fun q => q.dst == some r) with
  | none => r
  | some k => match ops[k]? with
    | some q => (match q.op with
      | .load .. =>
        let Wk := waitsO ops k
        if (List.range ops.size).any fun j => j != k && !(Wk.getD j false) && !((waitsO ops j).getD k false) && (match ops[j]? with
          | some c => (match c.op with
            | .call c => (match c.callee with | .builtin _ => false | _ => true)
            | _ => false)
          | none => false) then 1000000 else r
      | _ => r)
    | none => r
def isSl (P : Program) (t : TypeId) : Bool := match P.underlying t with | some (.slice _) => true | _ => false
def keepOf (P : Program) (ops : Array Oper) (o : Oper) : List Tmp :=
  let i := idxO ops o
  let Wi := waitsO ops i
  (List.range ops.size).filterMap fun j => match ops[j]? with
    | some q => match q.op with
      | .load _ (.tmp p) => if i != j && !(Wi.getD j false) && !((waitsO ops j).getD i false) then some (rootL ops p) else none
      | .indexAddr t (.tmp p) _ => if i != j && !(Wi.getD j false) && !((waitsO ops j).getD i false) && isSl P t then some (rootR ops p) else none
      | .call c => (match c.callee, c.args.toList with
        | .builtin .len, [.tmp p] => if i != j && !(Wi.getD j false) && !((waitsO ops j).getD i false) then some (rootR ops p) else none
        | _, _ => none)
      | _ => none
    | none => none
def freshOf (ops : Array Oper) (o : Oper) : List Tmp :=
  let i := idxO ops o
  let Wi := waitsO ops i
  (List.range ops.size).filterMap fun j => match ops[j]? with
    | some q => match q.op with
      | .alloc _ | .box _ _ => if i != j && !(Wi.getD j false) && !((waitsO ops j).getD i false) then q.dst else none
      | _ => none
    | none => none
def wantX (P : Program) (draw : Bool) (f : FuncId) : Bool :=
  (draw && firstPtr P f) || match P.funcs[f]? with
    | some fn => fn.params.any fun t => match P.underlying t with
      | some (.interface _) | some (.func ..) => true
      | some (.struct fs) => fs.any fun f => match P.underlying f.type with | some (.pointer _) => true | _ => false
      | _ => false
    | none => false
def hasClear : Code → Bool
  | .region _ ops _ => ops.any fun q => match q.op with
    | .call c => (match c.callee with | .builtin .clear => true | _ => false)
    | _ => false
  | .seq a b => hasClear a || hasClear b
  | .cond _ a b => hasClear a || hasClear b
  | .block _ c => hasClear c
  | .loop c => hasClear c
  | .scope c => hasClear c
  | _ => false
def clears (P : Program) (f : FuncId) : Bool := match P.funcs[f]? with
  | some fn => (match fn.body with | some c => hasClear c | none => false)
  | none => false
def ptrT (P : Program) (t : TypeId) : Bool :=
  match P.underlying t with
  | some (.pointer _) => true
  | some (.struct fs) => fs.any fun f => match P.underlying f.type with | some (.pointer _) => true | _ => false
  | _ => false
def viewIn (P : Program) (ops : Array Oper) : Operand → Bool
  | .tmp t => ops.any fun q => q.dst == some t && match q.op with
    | .slice u _ _ _ _ => (match P.underlying u with | some (.array _ _) => true | _ => false)
    | _ => false
  | _ => false
def grownIn (ops : Array Oper) (d : Option Tmp) : Bool :=
  match d with
  | some t => ops.any fun q => match q.op with
    | .call c => (match c.callee, c.args.toList with
      | .builtin .append, .tmp u :: _ => u == t
      | _, _ => false)
    | _ => false
  | none => false
def keptIn (ops : Array Oper) (d : Option Tmp) : Bool :=
  match d with
  | some t => ops.any fun q => match q.op with
    | .assign (.tmp u) => u == t
    | _ => false
  | none => false
def wideS (P : Program) (t : TypeId) : Bool := match P.underlying t with
  | some (.slice e) => (match szOf P e with | some n => 1 < n | none => false)
  | _ => false
def isStr (P : Program) (t : TypeId) : Bool := match P.underlying t with
  | some .string => true
  | _ => false
theorem isStr_spec {P : Program} {t : TypeId} (h : isStr P t = true) : P.underlying t = some .string := by
  unfold isStr at h
  split at h
  · assumption
  · cases h
def isU8 (P : Program) (t : TypeId) : Bool := match P.underlying t with
  | some (.int .u8) => true
  | _ => false
theorem isU8_spec {P : Program} {t : TypeId} (h : isU8 P t = true) : P.underlying t = some (.int .u8) := by
  unfold isU8 at h
  split at h
  · assumption
  · cases h
def isIf (P : Program) (t : TypeId) : Bool := match P.underlying t with
  | some (.interface _) | some (.func ..) => true
  | _ => false
def notIf (P : Program) (t : TypeId) : Bool := match P.underlying t with | some (.interface _) => false | some _ => true | none => false
def zeroSc (P : Program) (t : TypeId) : Option Value :=
  match (P.info? t).bind (·.zero) with
  | some z => if sc z then some z else none
  | none => none
def strMap (P : Program) (t : TypeId) : Option TypeId :=
  match P.underlying t with
  | some (.map k e) => if isStr P k then some e else none
  | _ => none
def compX (P : Program) (draw : Bool) (ops : Array Oper) (o : Oper) : Option AI :=
  match o.op with
  | .makeInterface t x => if okO x && notIf P t then some (.rdp (.mkifc t) [x]) else none
  | .makeFunc fn first caps => if (first.toList ++ caps.toList).all okO then some (.rdp (.mkfn fn first.size) (first.toList ++ caps.toList)) else none
  | .nilCheck x => if okO x && isIf P o.type then some (.rdp .nilv [x]) else none
  | .lookup t x i true => match strMap P t with
    | some e => match zeroSc P e with
      | some z => if okO x && okO i then some (.rd (.lookup z) [x, i]) else none
      | none => none
    | none => none
  | .makeMap _ none => some (.ef .mkmap [])
  | .mapEntry t x i => match strMap P t with
    | some e => match zeroSc P e with
      | some z => if okO x && okO i then some (.ef (.mapEntry z) [x, i]) else none
      | none => none
    | none => none
  | .entryStore _ x st v => if okO x && okO st && okO v then some (.ef .entryStore [x, st, v]) else none
  | .slice t x lo hi none => match P.underlying t with
    | some (.array n e) => match szOf P e with
      | some esz => if (x :: (lo.toList ++ hi.toList)).all okO then some (.rdp (.vslice esz n lo.isSome hi.isSome) (x :: (lo.toList ++ hi.toList))) else none
      | none => none
    | some (.slice e) => match szOf P e with
      | some esz => if (x :: (lo.toList ++ hi.toList)).all okO then some (.rdp (.sslice esz lo.isSome hi.isSome) (x :: (lo.toList ++ hi.toList))) else none
      | none => none
    | _ => none
  | .slice t x none (some y) (some z) => match P.underlying t with
    | some (.slice e) => match szOf P e with
      | some esz => if okO x && okO y && okO z then some (.rdp (.cap3 esz) [x, y, z]) else none
      | none => none
    | _ => none
  | .convert t d x => match P.underlying t, P.underlying d with
    | some (.slice e), some .string => if viewIn P ops x && okO x && isU8 P e then some (.rd .b2sv [x]) else none
    | _, _ => none
  | .binOp .eql t x (.const (.slice none 0 0)) _ => match P.underlying t with
    | some (.slice _) => if !draw && okO x then some (.ef (.isnil false) [x]) else none
    | _ => none
  | .binOp .neq t x (.const (.slice none 0 0)) _ => match P.underlying t with
    | some (.slice _) => if !draw && okO x then some (.ef (.isnil true) [x]) else none
    | _ => none
  | .binOp .eql t x (.const (.pointer none)) _ => match P.underlying t with
    | some (.pointer _) => if okO x then some (.rdp (.pnil false) [x]) else none
    | _ => none
  | .binOp .neq t x (.const (.pointer none)) _ => match P.underlying t with
    | some (.pointer _) => if okO x then some (.rdp (.pnil true) [x]) else none
    | _ => none
  | .alloc t => if ops.size == 1 then (match P.underlying t with
    | some (.array _ e) => (match P.underlying e with
      | some (.array _ _) => (match zeroOf P t with
        | some (_, .arr esz els) => if els.length ≤ 1000 then some (.ef (.aown t esz els) []) else none
        | _ => none)
      | _ => none)
    | _ => none) else none
  | .index t x i => match P.underlying t with
    | some (.array n e) => match szOf P e with
      | some esz => if (P.underlying e).isSome && okO x && okO i && (aggT P e || esz == 1) then some (.rdp (.aix esz n (aggT P e)) [x, i]) else none
      | none => none
    | _ => none
  | .buildSlice t n parts => if grownIn ops o.dst || (keptIn ops o.dst && wideS P t) then (match P.underlying t with
      | some (.slice e) => match zeroOf P e with
        | some (esz, z) => if n * esz ≤ 16777216 && n ≤ 16777216 && parts.toList.all (fun p => okO p.2) then some (.ef (.bown e esz z n (parts.toList.map (·.1))) (parts.toList.map (·.2))) else none
        | none => none
      | _ => none) else none
  | .call c => match c.callee with
    | .invoke x name => if (x :: c.args.toList).all okO then some (.xc (.inv name) (x :: c.args.toList) (if draw then keepOf P ops o else []) (if draw then freshOf ops o else [])) else none
    | .value (.func f) => if externFn P f "internal/bytealg.Compare" then (match c.args.toList with
        | [x, y] => if okO x && okO y then some (.rd .bcmp [x, y]) else none
        | _ => none) else if callable P f && (wantX P draw f || clears P f || ptrT P o.type || (draw && grownIn ops o.dst) || c.args.toList.any (viewIn P ops)) && c.args.toList.all okO then some (.xc (.dir f) c.args.toList (if draw then keepOf P ops o else []) (if draw then freshOf ops o else [])) else none
    | .value x => if (x :: c.args.toList).all okO then some (.xc .val (x :: c.args.toList) (if draw then keepOf P ops o else []) (if draw then freshOf ops o else [])) else none
    | .builtin .copy => match c.args.toList, c.argTypes.toList with
      | [x, y], [t, _] => match P.underlying t with
        | some (.slice e) => match szOf P e with
          | some esz => if okO x && okO y then some (.ef (.copy esz) [x, y]) else none
          | none => none
        | _ => none
      | _, _ => none
    | .builtin .append => match c.args.toList, c.argTypes.toList with
      | [x, y], [t, t'] => match P.underlying t with
        | some (.slice e) => match P.info? e, zeroOf P e with
          | some i, some (n, _) => if okO x && okO y && isStr P t' && n == 1 then some (.ef (.app e n i.bytes true) [x, y]) else if okO x && okO y && viewIn P ops y && t' == t then some (.ef (.app e n i.bytes false) [x, y]) else none
          | _, _ => none
        | _ => none
      | _, _ => none
    | _ => none
  | _ => none
def compY (P : Program) (draw : Bool) (ops : Array Oper) (o : Oper) : Option AI :=
  match compX P draw ops o with
  | some ai => some ai
  | none => compAI P draw o.op
def compO (P : Program) (draw : Bool) (ops : Array Oper) (o : Oper) : Option AOp :=
  match compY P draw ops o with
  | some ai => match o.guard with
    | none => some { dst := o.dst, guard := none, ai := ai }
    | some (j, want) => match (ops[j]?).bind (·.dst) with
      | some t => some { dst := o.dst, guard := some (t, want), ai := ai }
      | none => none
  | none => none
def compOs (P : Program) (draw : Bool) (ops : Array Oper) : List Oper → Option (List AOp)
  | [] => some []
  | o :: os => match compO P draw ops o, compOs P draw ops os with
    | some x, some xs => some (x :: xs)
    | _, _ => none
def slotOf (ops : Array Oper) (x : AOp) : Option Tmp :=
  match x.ai with
  | .alloc _ _ | .box _ _ => some (x.dst.getD 0)
  | .store _ (.tmp t) _ => some (rootOf ops 20 t)
  | _ => none
def annot1 (ops : Array Oper) (xs : List AOp) (i : Nat) (x : AOp) : AOp :=
  match x.ai.cls with
  | 1 =>
    let far := (List.range xs.length).any fun j => unordered ops i j && (match xs[j]? with | some y => (match y.ai with | .xc .. | .append .. | .ef (.app ..) _ | .ef (.bown ..) _ => true | _ => false) | none => false)
    { x with
      forb := (List.range xs.length).filterMap fun j => if unordered ops i j then (xs[j]?).bind (slotOf ops) else none
      own := if far then (match x.ai with | .load _ _ (.tmp p) => some (rootL ops p) | .len _ (.tmp p) | .iaddrS _ (.tmp p) _ => some (rootR ops p) | .len .. | .iaddrS .. | .callv .. => some 1000000 | _ => none) else none }
  | 2 => match x.ai with
    | .append .. | .ef (.app ..) _ | .ef (.bown ..) _ =>
      let Wi := waitsO ops i
      { x with forb := (List.range xs.length).filterMap fun j => match xs[j]? with
        | some y => match y.ai with
          | .load _ _ (.tmp p) => if i != j && !(Wi.getD j false) && !((waitsO ops j).getD i false) then some (rootL ops p) else none
          | .len _ (.tmp p) | .iaddrS _ (.tmp p) _ => if i != j && !(Wi.getD j false) && !((waitsO ops j).getD i false) then some (rootR ops p) else none
          | .len .. | .iaddrS .. => some 1000000
          | _ => none
        | none => none }
    | _ => if (List.range xs.length).any fun j => unordered ops i j && ((xs[j]?).map (·.ai.cls == 1)).getD false then { x with own := (match x.ai with | .store .. => slotOf ops x | _ => none) } else x
  | _ => x
def annot (ops : Array Oper) (xs : List AOp) : List AOp := xs.mapIdx fun i x => annot1 ops xs i x
section
variable {P : Program} {w0 wk : World} {regs : List (Nat × Nat × Nat)} {St Imm : Nat → Nat → Prop} {s : AS} {a : Act} {w : World} {o : Oper} {K : AS → Prop} {Q : Exit → Act → World → Prop} {ro : Nat → Bool} {draw : Bool} {ai : AI}
theorem comp1_sound (hc : comp1 P o.op = some ai) (h : ai.go P ro s o.dst K) (hs : SRel w0 wk regs St s a w) : o.wp P a w (fun a' w' => ∃ s', K s' ∧ SRel w0 wk regs St s' a' w') Q := by
  cases hop : o.op <;> rw [hop] at hc <;> simp only [comp1] at hc <;> try (cases hc; done)
  case move x =>
    split at hc <;> try (cases hc; done)
    cases hc; exact sound_mov (.inl hop) (by assumption) h hs
  case assign x =>
    split at hc <;> try (cases hc; done)
    cases hc; exact sound_mov (.inr hop) (by assumption) h hs
  case pick c x y =>
    split at hc <;> try (cases hc; done)
    rename_i hok
    simp only [Bool.and_eq_true] at hok
    cases hc; exact sound_pick hop hok.1.1 hok.1.2 hok.2 h hs
  case alloc t =>
    split at hc <;> try (cases hc; done)
    rename_i hz
    cases hc; exact sound_alloc hop hz h hs
  case box t x =>
    split at hc <;> try (cases hc; done)
    split at hc <;> try (cases hc; done)
    cases hc; exact sound_box hop (by assumption) h hs
  case index t x i =>
    split at hc <;> try (cases hc; done)
    rename_i hu
    split at hc <;> try (cases hc; done)
    rename_i hok
    simp only [Bool.and_eq_true] at hok
    cases hc
    refine sound_prim (by simp [hok.1, hok.2]) (fun v hv => ?_) h hs
    obtain ⟨b, k, n, y, e1, e2, hy, rfl⟩ := prim_sidx hv
    simp [execOp, hop, e1, e2, Instr.index, asIntOf, run_underlying hu, hy]
  case slice t x lo hi mx =>
    split at hc <;> try (cases hc; done)
    rename_i hu
    split at hc
    · split at hc <;> try (cases hc; done)
      rename_i hok
      cases hc
      refine sound_prim (by simpa using hok) (fun v hv => ?_) h hs
      obtain ⟨b, e1, rfl⟩ := prim_sub00 hv
      simp [execOp, hop, e1, Instr.sliceAt, Instr.slice, Instr.sliceBounds, run_underlying hu]
    · split at hc <;> try (cases hc; done)
      rename_i hok
      cases hc
      refine sound_prim (by simpa using hok) (fun v hv => ?_) h hs
      obtain ⟨b, k, n, e1, e2, g1, g2, rfl⟩ := prim_sub10 hv
      simp [execOp, hop, e1, e2, Instr.sliceAt, Instr.slice, Instr.sliceBounds, Instr.sliceBound, asIntOf, run_underlying hu, g1, g2]
    · split at hc <;> try (cases hc; done)
      rename_i hok
      cases hc
      refine sound_prim (by simpa using hok) (fun v hv => ?_) h hs
      obtain ⟨b, k, n, e1, e2, g1, g2, rfl⟩ := prim_sub01 hv
      simp [execOp, hop, e1, e2, Instr.sliceAt, Instr.slice, Instr.sliceBounds, Instr.sliceBound, asIntOf, run_underlying hu, g1, g2]
    · split at hc <;> try (cases hc; done)
      rename_i hok
      cases hc
      refine sound_prim (by simpa [and_assoc] using hok) (fun v hv => ?_) h hs
      obtain ⟨b, k, n, k', n', e1, e2, e3, g1, g2, g3, g4, rfl⟩ := prim_sub11 hv
      simp [execOp, hop, e1, e2, e3, Instr.sliceAt, Instr.slice, Instr.sliceBounds, Instr.sliceBound, asIntOf, run_underlying hu, g1, g2, g3, g4]
      intro hlt
      omega
  case load t x =>
    split at hc <;> try (cases hc; done)
    rename_i hn
    split at hc <;> try (cases hc; done)
    rename_i hok
    simp only [Bool.and_eq_true, Bool.or_eq_true, beq_iff_eq] at hok
    cases hc; exact sound_load hop hok.1.2 hok.1.1 hn hok.2 h hs
  case store t x v =>
    split at hc <;> try (cases hc; done)
    rename_i hn
    split at hc <;> try (cases hc; done)
    rename_i hok
    simp only [Bool.and_eq_true] at hok
    cases hc; exact sound_store hop hok.1 hok.2 hn h hs
  case binOp op t x y u =>
    split at hc <;> try (cases hc; done)
    rename_i hok
    simp only [Bool.and_eq_true] at hok
    split at hc <;> cases hc
    · rename_i ht; exact sound_beq (neg := false) hop ht hok.1 hok.2 h hs
    · rename_i ht; exact sound_beq (neg := true) hop ht hok.1 hok.2 h hs
    · exact sound_bin hop hok.1 hok.2 h hs
  case unOp op t x =>
    split at hc <;> try (cases hc; done)
    cases hc; exact sound_un hop (by assumption) h hs
  case convert t d x =>
    split at hc <;> try (cases hc; done)
    · rename_i ht hd
      split at hc <;> try (cases hc; done)
      cases hc; exact sound_cvt hop ht hd (by assumption) h hs
    · rename_i ht hd
      split at hc <;> try (cases hc; done)
      rename_i he
      split at hc <;> try (cases hc; done)
      cases hc; exact sound_b2s hop ht he hd (by assumption) h hs
  case fieldAddr t x f =>
    split at hc <;> try (cases hc; done)
    rename_i ht
    split at hc <;> try (cases hc; done)
    rename_i hf
    split at hc <;> try (cases hc; done)
    rename_i hn
    split at hc <;> try (cases hc; done)
    rename_i hok
    simp only [Bool.and_eq_true, bne_iff_ne, ne_eq] at hok
    cases hc; exact sound_faddr hop ht hf hn hok.2 hok.1 h hs
  case indexAddr t x i =>
    split at hc <;> try (cases hc; done)
    · rename_i ht
      split at hc <;> try (cases hc; done)
      rename_i hn
      split at hc <;> try (cases hc; done)
      rename_i hok
      simp only [Bool.and_eq_true] at hok
      cases hc; exact sound_iaddrA hop ht hn hok.1 hok.2 h hs
    · rename_i ht
      split at hc <;> try (cases hc; done)
      rename_i hn
      split at hc <;> try (cases hc; done)
      rename_i hok
      simp only [Bool.and_eq_true] at hok
      cases hc; exact sound_iaddrS hop ht hn hok.1 hok.2 h hs
  case extract x i =>
    split at hc <;> try (cases hc; done)
    cases hc; exact sound_ext hop (by assumption) h hs
  case call c =>
    split at hc <;> try (cases hc; done)
    rename_i b x t hcal hargs htys
    split at hc <;> try (cases hc; done)
    rename_i hb
    subst hb
    split at hc <;> try (cases hc; done)
    · rename_i ht
      split at hc <;> try (cases hc; done)
      cases hc; exact sound_len (str := true) hop hcal hargs htys (by simpa using ht) (by assumption) h hs
    · rename_i e ht
      split at hc <;> try (cases hc; done)
      cases hc; exact sound_len (str := false) hop hcal hargs htys (by simpa using ⟨e, ht⟩) (by assumption) h hs
    · rename_i n e ht
      cases hc
      obtain ⟨Imm, h1, h2, h3⟩ := hs.ex
      have ha' : c.args = #[x] := by rw [← Array.toArray_toList (xs := c.args), hargs]
      have ht' : c.argTypes = #[t] := by rw [← Array.toArray_toList (xs := c.argTypes), htys]
      simp only [AI.go] at h
      refine upon_of_run (V := .int .i64 n) (w' := w) ?_ ⟨_, h, hs.put0 h1 h2 h3 (Rel.mkLit rfl)⟩
      simp [execOp, hop, resolve, hcal, invoke, builtin, Builtin.len_, ha', ht', run_underlying ht, goInt]
theorem compAI_sound (hc : compAI P draw o.op = some ai) (h : ai.go P ro s o.dst K) (hs : SRel w0 wk regs St s a w) : o.wp P a w (fun a' w' => ∃ s', K s' ∧ SRel w0 wk regs St s' a' w') Q := by
  unfold compAI at hc
  split at hc
  · rename_i t x y u hop
    split at hc
    · rename_i ha
      split at hc <;> try (cases hc; done)
      rename_i hok
      simp only [Bool.and_eq_true] at hok
      simp only [aggEq, Bool.and_eq_true, Bool.not_eq_true'] at ha
      cases hc; exact sound_eqv (neg := false) hop ha.1.2 ha.2 hok.1 hok.2 h hs
    · rw [← hop] at hc; exact comp1_sound hc h hs
  · rename_i t x y u hop
    split at hc
    · rename_i ha
      split at hc <;> try (cases hc; done)
      rename_i hok
      simp only [Bool.and_eq_true] at hok
      simp only [aggEq, Bool.and_eq_true, Bool.not_eq_true'] at ha
      cases hc; exact sound_eqv (neg := true) hop ha.1.2 ha.2 hok.1 hok.2 h hs
    · rw [← hop] at hc; exact comp1_sound hc h hs
  · rename_i t parts hop
    split at hc <;> try (cases hc; done)
    rename_i n z hz
    split at hc <;> try (cases hc; done)
    rename_i hok
    simp only [Bool.and_eq_true] at hok
    cases hc; exact sound_build hop hz hok.1 hok.2 h hs
  · rename_i t n parts hop
    split at hc <;> try (cases hc; done)
    rename_i e ht
    split at hc <;> try (cases hc; done)
    rename_i esz z hz
    split at hc <;> try (cases hc; done)
    rename_i hok
    simp only [Bool.and_eq_true, decide_eq_true_eq] at hok
    cases hc; exact sound_bslice hop ht hz hok.1 hok.2 h hs
  · rename_i x hop
    split at hc <;> try (cases hc; done)
    cases hc; exact sound_nilc hop (by assumption) h hs
  · rename_i t l c hop
    split at hc <;> try (cases hc; done)
    rename_i e ht
    split at hc <;> try (cases hc; done)
    rename_i i esz z hi hz
    split at hc <;> try (cases hc; done)
    rename_i hok
    simp only [Bool.and_eq_true] at hok
    cases hc; exact sound_mkslice hop ht hz hi rfl hok.1 hok.2 h hs
  · rename_i t x f hop
    split at hc <;> try (cases hc; done)
    rename_i fields ht
    split at hc <;> try (cases hc; done)
    rename_i fd hf
    split at hc <;> try (cases hc; done)
    rename_i n hn
    split at hc <;> try (cases hc; done)
    rename_i hok
    simp only [Bool.and_eq_true, Bool.or_eq_true, beq_iff_eq] at hok
    cases hc; exact sound_fieldv hop ht hf hok.1.1 hok.1.2 hok.2 hn h hs
  · rename_i c hop
    split at hc
    · rename_i ai' hcc
      cases hc
      unfold compCall at hcc
      split at hcc
      · rename_i hcal
        split at hcc <;> try (cases hcc; done)
        rename_i x y hargs
        split at hcc <;> try (cases hcc; done)
        cases hcc; exact sound_min hop hcal hargs (by assumption) h hs
      · rename_i hcal
        split at hcc <;> try (cases hcc; done)
        rename_i x y hargs
        split at hcc <;> try (cases hcc; done)
        cases hcc; exact sound_max hop hcal hargs (by assumption) h hs
      · rename_i f hcal
        split at hcc
        · rename_i hext
          split at hcc <;> try (cases hcc; done)
          rename_i x y hargs
          split at hcc <;> try (cases hcc; done)
          cases hcc; exact sound_ibyte hop hcal hargs hext (by assumption) h hs
        split at hcc
        · rename_i hext
          split at hcc <;> try (cases hcc; done)
          rename_i x y z hargs
          split at hcc <;> try (cases hcc; done)
          cases hcc; exact sound_add64 hop hcal hargs hext (by assumption) h hs
        split at hcc <;> try (cases hcc; done)
        rename_i hcb
        split at hcc
        · rename_i x xs hargs
          split at hcc
          · split at hcc <;> try (cases hcc; done)
            cases hcc; exact sound_icall hop hcal hargs hcb (by assumption) h hs
          · split at hcc <;> try (cases hcc; done)
            rename_i hok
            have hal : c.args = (x :: xs).toArray := by rw [← Array.toArray_toList (xs := c.args), hargs]
            split at hcc
            · cases hcc; exact sound_lcall hop hcal hal hcb (by simpa using hok) (by simpa using h) hs
            split at hcc
            · cases hcc; exact sound_callv hop hcal hal hcb (by simpa using hok) (by simpa using h) hs
            · cases hcc; exact sound_call hop hcal hal hcb (by simpa using hok) (by simpa using h) hs
        · rename_i hargs
          have hal : c.args = ([] : List Operand).toArray := by rw [← Array.toArray_toList (xs := c.args), hargs]
          split at hcc
          · cases hcc; exact sound_callv hop hcal hal hcb (by simp) (by simpa using h) hs
          · cases hcc; exact sound_call hop hcal hal hcb (by simp) (by simpa using h) hs
      · rename_i hcal
        split at hcc <;> try (cases hcc; done)
        rename_i x y t t' hargs htys
        split at hcc <;> try (cases hcc; done)
        rename_i htt
        subst htt
        split at hcc <;> try (cases hcc; done)
        rename_i e ht
        split at hcc <;> try (cases hcc; done)
        rename_i i n z hi hz
        split at hcc <;> try (cases hcc; done)
        rename_i hok
        simp only [Bool.and_eq_true] at hok
        cases hcc
        obtain ⟨i', zv, hi', hzv, hn, _, hl, _⟩ := zeroOf_spec hz
        have : i' = i := by rw [hi] at hi'; exact (Option.some.inj hi').symm
        subst this
        exact sound_append hop hcal hargs htys ht hi hzv hn rfl (by rw [← Array.length_toList]; exact hl) hok.1 hok.2 h hs
      · cases hcc
    · rw [← hop] at hc; exact comp1_sound hc h hs
  · exact comp1_sound hc h hs
theorem strMap_spec {t e : TypeId} (h : strMap P t = some e) : ∃ k, P.underlying t = some (.map k e) ∧ P.underlying k = some .string := by
  unfold strMap at h
  split at h <;> try (cases h; done)
  rename_i k e' hu
  split at h <;> try (cases h; done)
  rename_i hk
  cases h
  exact ⟨k, hu, isStr_spec hk⟩
theorem zeroSc_spec {t : TypeId} {z : Value} (h : zeroSc P t = some z) : ∃ i, P.info? t = some i ∧ i.zero = some z ∧ sc z = true := by
  unfold zeroSc at h
  split at h <;> try (cases h; done)
  rename_i z' hz
  split at h <;> try (cases h; done)
  rename_i hsc
  cases h
  obtain ⟨i, hi, hz⟩ := Option.bind_eq_some_iff.1 hz
  exact ⟨i, hi, hz, hsc⟩
theorem compX_sound {ops : Array Oper} (hc : compX P draw ops o = some ai) (h : ai.go P ro s o.dst K) (hs : SRel w0 wk regs St s a w) : o.wp P a w (fun a' w' => ∃ s', K s' ∧ SRel w0 wk regs St s' a' w') Q := by
  unfold compX at hc
  split at hc <;> try (cases hc; done)
  · rename_i t x hop
    split at hc <;> try (cases hc; done)
    rename_i hok
    simp only [Bool.and_eq_true] at hok
    cases hc; exact sound_mkifc hop hok.2 hok.1 h hs
  · rename_i fn first caps hop
    split at hc <;> try (cases hc; done)
    cases hc; exact sound_mkfn hop (by assumption) h hs
  · rename_i x hop
    split at hc <;> try (cases hc; done)
    rename_i hok
    simp only [Bool.and_eq_true] at hok
    cases hc; exact sound_nilv hop hok.1 h hs
  · rename_i t x i hop
    split at hc <;> try (cases hc; done)
    rename_i e hm
    split at hc <;> try (cases hc; done)
    rename_i z hz
    split at hc <;> try (cases hc; done)
    rename_i hok
    simp only [Bool.and_eq_true] at hok
    obtain ⟨k, h1, h2⟩ := strMap_spec hm
    obtain ⟨inf, h3, h4, h5⟩ := zeroSc_spec hz
    cases hc; exact sound_lookup hop h1 h2 h3 h4 h5 hok.1 hok.2 h hs
  · rename_i t hop
    cases hc; exact sound_mkmap hop h hs
  · rename_i t x i hop
    split at hc <;> try (cases hc; done)
    rename_i e hm
    split at hc <;> try (cases hc; done)
    rename_i z hz
    split at hc <;> try (cases hc; done)
    rename_i hok
    simp only [Bool.and_eq_true] at hok
    obtain ⟨k, h1, h2⟩ := strMap_spec hm
    obtain ⟨inf, h3, h4, h5⟩ := zeroSc_spec hz
    cases hc; exact sound_mapEntry hop h1 h2 h3 h4 h5 hok.1 hok.2 h hs
  · rename_i t x st v hop
    split at hc <;> try (cases hc; done)
    rename_i hok
    simp only [Bool.and_eq_true] at hok
    cases hc; exact sound_entryStore hop hok.1.1 hok.1.2 hok.2 h hs
  · rename_i t x lo hi hop
    split at hc <;> try (cases hc; done)
    · rename_i n e ht
      split at hc <;> try (cases hc; done)
      rename_i esz hz
      split at hc <;> try (cases hc; done)
      cases hc; exact sound_vslice hop ht hz (by assumption) h hs
    · rename_i e ht
      split at hc <;> try (cases hc; done)
      rename_i esz hz
      split at hc <;> try (cases hc; done)
      cases hc; exact sound_sslice hop ht hz (by assumption) h hs
  · rename_i t x y z hop
    split at hc <;> try (cases hc; done)
    rename_i e ht
    split at hc <;> try (cases hc; done)
    rename_i esz hz
    split at hc <;> try (cases hc; done)
    rename_i hok
    simp only [Bool.and_eq_true] at hok
    cases hc; exact sound_cap3 hop ht hz hok.1.1 hok.1.2 hok.2 h hs
  · rename_i t d x hop
    split at hc <;> try (cases hc; done)
    rename_i e ht hd
    split at hc <;> try (cases hc; done)
    rename_i hok
    simp only [Bool.and_eq_true] at hok
    obtain ⟨⟨_, hx⟩, he⟩ := hok
    cases hc
    exact sound_b2sv hop ht (isU8_spec he) hd hx h hs
  · rename_i t x u hop
    split at hc <;> try (cases hc; done)
    rename_i e ht
    split at hc <;> try (cases hc; done)
    rename_i hok
    simp only [Bool.and_eq_true] at hok
    cases hc; exact sound_isnil (neg := false) hop ht hok.2 h hs
  · rename_i t x u hop
    split at hc <;> try (cases hc; done)
    rename_i e ht
    split at hc <;> try (cases hc; done)
    rename_i hok
    simp only [Bool.and_eq_true] at hok
    cases hc; exact sound_isnil (neg := true) hop ht hok.2 h hs
  · rename_i t x u hop
    split at hc <;> try (cases hc; done)
    rename_i e ht
    split at hc <;> try (cases hc; done)
    cases hc; exact sound_pnil (neg := false) hop ht (by assumption) h hs
  · rename_i t x u hop
    split at hc <;> try (cases hc; done)
    rename_i e ht
    split at hc <;> try (cases hc; done)
    cases hc; exact sound_pnil (neg := true) hop ht (by assumption) h hs
  · rename_i t hop
    split at hc <;> try (cases hc; done)
    split at hc <;> try (cases hc; done)
    split at hc <;> try (cases hc; done)
    split at hc <;> try (cases hc; done)
    rename_i n esz els hz
    split at hc <;> try (cases hc; done)
    rename_i hlen
    cases hc; exact sound_aown hop hz (by simp only [maxLen]; omega) h hs
  · rename_i t x i hop
    split at hc <;> try (cases hc; done)
    rename_i n e ht
    split at hc <;> try (cases hc; done)
    rename_i esz hz
    split at hc <;> try (cases hc; done)
    rename_i hok
    simp only [Bool.and_eq_true, Bool.or_eq_true, beq_iff_eq] at hok
    cases hc; exact sound_aix hop ht hz hok.1.1.1 hok.1.1.2 hok.1.2 hok.2 h hs
  · rename_i t n parts hop
    split at hc <;> try (cases hc; done)
    split at hc <;> try (cases hc; done)
    rename_i e ht
    split at hc <;> try (cases hc; done)
    rename_i esz z hz
    split at hc <;> try (cases hc; done)
    rename_i hok
    simp only [Bool.and_eq_true, decide_eq_true_eq] at hok
    cases hc; exact sound_bown hop ht hz hok.1.1 (by simp only [maxLen]; omega) hok.2 h hs
  · rename_i c hop
    split at hc <;> try (cases hc; done)
    · rename_i x name hcal
      split at hc <;> try (cases hc; done)
      cases hc; exact sound_xinv hop hcal rfl (by assumption) h hs
    · rename_i f hcal
      split at hc
      · rename_i hext
        split at hc <;> try (cases hc; done)
        rename_i x y hargs
        split at hc <;> try (cases hc; done)
        cases hc; exact sound_bcmp hop hcal hargs hext (by assumption) h hs
      · split at hc <;> try (cases hc; done)
        rename_i hok
        simp only [Bool.and_eq_true] at hok
        cases hc; exact sound_xdir hop hcal rfl hok.2 h hs
    · rename_i x _ hcal
      split at hc <;> try (cases hc; done)
      cases hc; exact sound_xval hop hcal rfl (by assumption) h hs
    · rename_i hcal
      split at hc <;> try (cases hc; done)
      rename_i x y t t' hargs htys
      split at hc <;> try (cases hc; done)
      rename_i e ht
      split at hc <;> try (cases hc; done)
      rename_i esz hz
      split at hc <;> try (cases hc; done)
      rename_i hok
      simp only [Bool.and_eq_true] at hok
      cases hc; exact sound_copy hop hcal hargs htys ht hz hok.1 hok.2 h hs
    · rename_i hcal
      split at hc <;> try (cases hc; done)
      rename_i x y t t' hargs htys
      split at hc <;> try (cases hc; done)
      rename_i e ht
      split at hc <;> try (cases hc; done)
      rename_i i n z hi hz
      obtain ⟨i', zv, hi', hzv, hn, _, hl, _⟩ := zeroOf_spec hz
      have : i' = i := by rw [hi] at hi'; exact (Option.some.inj hi').symm
      subst this
      have hzs : zv.cells.size = n := by rw [← Array.length_toList]; exact hl
      split at hc
      · rename_i hok
        simp only [Bool.and_eq_true, beq_iff_eq] at hok
        obtain ⟨⟨⟨hx, hy⟩, hst⟩, hn1⟩ := hok
        cases hc
        exact sound_app (str := true) hop hcal hargs htys (by simp only [if_true]; exact ⟨isStr_spec hst, hn1⟩) ht hi hzv hn rfl hzs hx hy h hs
      · split at hc <;> try (cases hc; done)
        rename_i hok
        simp only [Bool.and_eq_true, beq_iff_eq] at hok
        obtain ⟨⟨⟨hx, hy⟩, _⟩, htt⟩ := hok
        cases hc
        exact sound_app (str := false) hop hcal hargs htys (by simpa using htt) ht hi hzv hn rfl hzs hx hy h hs
theorem compY_sound {ops : Array Oper} (hc : compY P draw ops o = some ai) (h : ai.go P ro s o.dst K) (hs : SRel w0 wk regs St s a w) : o.wp P a w (fun a' w' => ∃ s', K s' ∧ SRel w0 wk regs St s' a' w') Q := by
  unfold compY at hc
  split at hc
  · rename_i hx; cases hc; exact compX_sound hx h hs
  · exact compAI_sound hc h hs
end
end Go.Cab
namespace Go.Cab
open Go.RowKit
open Classical
def tmpsOf (xs : List Operand) : List Tmp := xs.filterMap fun | .tmp t => some t | _ => none
def AOp.root (x : AOp) : List Tmp := match x.own, x.ai with
  | some t, .load _ _ _ => [t]
  | some t, .len _ _ => [t]
  | some t, .iaddrS _ _ _ => [t]
  | _, .append .. | _, .ef (.app ..) _ | _, .ef (.bown ..) _ => x.forb
  | _, _ => []
def AOp.looks (x : AOp) : List Tmp := tmpsOf x.ai.ops ++ (match x.guard with | some (t, _) => [t] | none => []) ++ x.root
def AOp.keeps (x : AOp) : Option (List Tmp) :=
  match x.ai with
  | .xc _ _ keep _ => some keep
  | .append .. => some x.forb
  | .ef (.app ..) [_, _] => some x.forb
  | .ef (.bown ..) _ => some x.forb
  | _ => none
def AOp.still (x y : AOp) : Bool :=
  match x.keeps, y.own, y.ai with
  | some keep, some t, .load _ _ _ => keep.contains t
  | some keep, some t, .len _ _ => keep.contains t
  | some keep, some t, .iaddrS _ _ _ => keep.contains t
  | _, _, _ => false
def AOp.stillC (x y : AOp) : Bool :=
  match x.keeps, y.own, y.ai with
  | some _, some _, .callv _ _ => true
  | _, _, _ => false
def AOp.beside (x y : AOp) : Bool :=
  match x.ai, y.dst with
  | .xc _ _ _ fresh, some e => y.ai.isNew && fresh.contains e
  | _, _ => false
def AOp.apart (x y : AOp) : Bool :=
  (match x.dst with | some d => !y.looks.contains d && y.dst != some d | none => true) && (match y.dst with | some d => !x.looks.contains d | none => true)
def AOp.swaps (x y : AOp) : Bool := x.apart y &&
  ((x.ai.cls < 2 && y.ai.cls < 2) || x.ai.cls == 0 || y.ai.cls == 0 ||
    (x.ai.cls == 1 && (match y.ai.wr y.dst y.own with | some t => x.forb.contains t | none => false)) ||
    (y.ai.cls == 1 && (match x.ai.wr x.dst x.own with | some t => y.forb.contains t | none => false) && (!x.ai.isNew || y.ai.fn1)) ||
    (x.ai.isNew && y.ai.isNew && x.dst.isSome && y.dst.isSome) || x.still y || y.still x || x.beside y || y.stillC x)
section
variable {P : Program} {s : AS} {K K' : AS → Prop}
theorem mem_tmpsOf {d : Tmp} {xs : List Operand} : d ∈ tmpsOf xs ↔ Operand.tmp d ∈ xs := by
  unfold tmpsOf
  rw [List.mem_filterMap]
  constructor
  · rintro ⟨x, hx, e⟩
    cases x <;> simp at e
    subst e; exact hx
  · exact fun h => ⟨_, h, rfl⟩
theorem AOp.apart_spec {x y : AOp} (h : x.apart y = true) : (∀ d, x.dst = some d → d ∉ y.looks) ∧ (∀ d, x.dst = some d → y.dst ≠ some d) ∧ (∀ d, y.dst = some d → d ∉ x.looks) := by
  refine ⟨fun d hd => ?_, fun d hd => ?_, fun d hd => ?_⟩ <;> simp [AOp.apart, hd] at h
  · exact h.1.1
  · exact h.1.2
  · exact h.2
theorem offT_of {od : Option Tmp} {x : AOp} (h : ∀ d, od = some d → d ∉ x.looks) : offT od x.ai.ops := fun d hd hm => h d hd (List.mem_append_left _ (List.mem_append_left _ (mem_tmpsOf.2 hm)))
noncomputable def AOp.mode (s : AS) (x : AOp) : Option Bool :=
  match x.guard with
  | none => some true
  | some (t, want) => match s.ev (.tmp t) with
    | .lit (.bool b) => some (decide (b = want))
    | .tup [] => some false
    | _ => none
theorem AOp.go_mode {x : AOp} : x.go P s K ↔ match x.mode s with | some true => x.mine s ∧ x.ai.go P (x.ro s.nr) s x.dst K | some false => K (s.put x.dst (.tup [])) | none => False := by
  unfold AOp.go AOp.mode
  cases x.guard with
  | none => rfl
  | some p =>
    obtain ⟨t, want⟩ := p
    simp only
    generalize s.ev (.tmp t) = v
    cases v with
    | lit v =>
      cases v with
      | bool b => by_cases hb : b = want <;> simp [hb]
      | _ => rfl
    | tup vs => cases vs <;> rfl
    | _ => rfl
theorem AOp.mode_put {x : AOp} {od : Option Tmp} {v : AV} (h : ∀ d, od = some d → d ∉ x.looks) : x.mode (s.put od v) = x.mode s := by
  unfold AOp.mode
  split
  · rfl
  · rename_i t want hg
    rw [ev_put fun d hd he => h d hd (by
      cases he
      exact List.mem_append_left _ (List.mem_append_right _ (by simp [hg])))]
theorem Behind.nr {dst : Option Tmp} {s1 : AS} (h : Behind s dst s1) : s1.nr = s.nr := by obtain ⟨v, hp, rfl⟩ := h; exact put_nr _ _ _
theorem AOp.leaves_behind {x : AOp} {dst : Option Tmp} {s1 : AS} (hb : Behind s dst s1) (h : ∀ d, dst = some d → d ∉ x.looks) (hx : x.root = x.forb) (v : AV) : x.leaves s1 v ↔ x.leaves s v := by
  unfold AOp.leaves
  refine forall_congr' fun t => forall_congr' fun ht => ?_
  have hroot : t ∈ x.looks := List.mem_append_right _ (by rw [hx]; exact ht)
  have er : s1.ev (.tmp t) = s.ev (.tmp t) := hb.ev (xs := [.tmp t]) (fun d hd hm => by
    have hdt : d = t := by simpa using hm
    exact h d hd (hdt ▸ hroot)) _ (by simp)
  have hs : s1.slot x.dst = s.slot x.dst := by unfold AS.slot; rw [hb.nr]
  rw [er, hs]
theorem AOp.mine_behind {x : AOp} {dst : Option Tmp} {s1 : AS} (hb : Behind s dst s1) (h : ∀ d, dst = some d → d ∉ x.looks) : x.mine s1 ↔ x.mine s := by
  have e := hb.ev (offT_of h)
  have hn := hb.nr
  unfold AOp.mine
  split
  · rename_i hai
    rw [e _ (by rw [hai]; simp [AI.ops]), hn]
  · rename_i t agg n p hown hai
    have hroot : t ∈ x.looks := List.mem_append_right _ (by simp [AOp.root, hown, hai])
    have er : s1.ev (.tmp t) = s.ev (.tmp t) := hb.ev (xs := [.tmp t]) (fun d hd hm => by
      have hdt : d = t := by simpa using hm
      exact h d hd (hdt ▸ hroot)) _ (by simp)
    rw [e _ (by rw [hai]; simp [AI.ops]), er]
  · rename_i t str p hown hai
    have hroot : t ∈ x.looks := List.mem_append_right _ (by simp [AOp.root, hown, hai])
    have er : s1.ev (.tmp t) = s.ev (.tmp t) := hb.ev (xs := [.tmp t]) (fun d hd hm => by
      have hdt : d = t := by simpa using hm
      exact h d hd (hdt ▸ hroot)) _ (by simp)
    rw [e _ (by rw [hai]; simp [AI.ops]), er]
  · rename_i t esz p i hown hai
    have hroot : t ∈ x.looks := List.mem_append_right _ (by simp [AOp.root, hown, hai])
    have er : s1.ev (.tmp t) = s.ev (.tmp t) := hb.ev (xs := [.tmp t]) (fun d hd hm => by
      have hdt : d = t := by simpa using hm
      exact h d hd (hdt ▸ hroot)) _ (by simp)
    rw [e _ (by rw [hai]; simp [AI.ops]), er]
  · rename_i hai
    exact forall_congr' fun p => forall_congr' fun hp => by rw [e p (by rw [hai]; exact hp)]
  · rename_i hai
    rw [e _ (by rw [hai]; simp [AI.ops])]
    exact AOp.leaves_behind hb h (by unfold AOp.root; rw [hai]; cases x.own <;> rfl) _
  · rename_i hai
    rw [e _ (by rw [hai]; simp [AI.ops])]
    exact AOp.leaves_behind hb h (by unfold AOp.root; rw [hai]; cases x.own <;> rfl) _
  · rename_i hai
    exact AOp.leaves_behind hb h (by unfold AOp.root; rw [hai]; cases x.own <;> rfl) _
  · rfl
theorem AOp.mine_put {x : AOp} {od : Option Tmp} {v : AV} (h : ∀ d, od = some d → d ∉ x.looks) : x.mine (s.put od v) ↔ x.mine s := AOp.mine_behind (behind_put v) h
theorem AOp.keeps_post {x : AOp} {keep : List Tmp} (hk : x.keeps = some keep) (hm : x.mine s) (g : x.ai.go P (x.ro s.nr) s x.dst K) : x.ai.go P (x.ro s.nr) s x.dst fun s1 => K s1 ∧ BehindK s x.dst keep s1 := by
  unfold AOp.keeps at hk
  unfold AOp.mine at hm
  split at hk <;> try (cases hk; done)
  · rename_i hx
    cases hk
    rw [hx] at g ⊢
    exact AI.go_postK g
  · rename_i e esz bytes p q hx
    cases hk
    rw [hx] at g ⊢
    have hm' : x.leaves s (s.ev p) := by
      rw [hx] at hm
      revert hm
      cases x.own <;> exact id
    exact AI.go_postA hm' g
  · rename_i e esz bytes str p q hx
    cases hk
    rw [hx] at g ⊢
    have hm' : x.leaves s (s.ev p) := by
      rw [hx] at hm
      revert hm
      cases x.own <;> exact id
    exact AI.go_postE hm' g
  · rename_i e esz z n idx xs hx
    cases hk
    rw [hx] at g ⊢
    have hm' : x.leaves s .any := by
      rw [hx] at hm
      revert hm
      cases x.own <;> exact id
    exact AI.go_postB hm' g
theorem AOp.still_spec {x y : AOp} (h : x.still y = true) : ∃ keep t, x.keeps = some keep ∧ y.own = some t ∧ (t ∈ keep ∨ (match y.ai with | .callv .. => True | _ => False)) ∧ y.ai.fn1 = true ∧ y.ai.cls = 1 ∧ (y.mine s → y.ai.calm y.own s) := by
  unfold AOp.still at h
  split at h <;> try (cases h; done)
  · rename_i keep t agg n p e1 e2 e3
    refine ⟨keep, t, e1, e2, .inl (by simpa using h), by rw [e3]; rfl, by rw [e3]; rfl, fun hm => ?_⟩
    unfold AOp.mine at hm
    rw [e2, e3] at hm
    rw [e3, e2]
    intro t' ht'
    cases ht'
    exact hm
  · rename_i keep t str p e1 e2 e3
    refine ⟨keep, t, e1, e2, .inl (by simpa using h), by rw [e3]; rfl, by rw [e3]; rfl, fun hm => ?_⟩
    unfold AOp.mine at hm
    rw [e2, e3] at hm
    rw [e3, e2]
    intro t' ht'
    cases ht'
    exact hm
  · rename_i keep t esz p i e1 e2 e3
    refine ⟨keep, t, e1, e2, .inl (by simpa using h), by rw [e3]; rfl, by rw [e3]; rfl, fun hm => ?_⟩
    unfold AOp.mine at hm
    rw [e2, e3] at hm
    rw [e3, e2]
    intro t' ht'
    cases ht'
    exact hm
theorem AOp.stillC_spec {x y : AOp} (h : x.stillC y = true) : ∃ keep t, x.keeps = some keep ∧ y.own = some t ∧ (t ∈ keep ∨ (match y.ai with | .callv .. => True | _ => False)) ∧ y.ai.cls = 1 ∧ (y.mine s → y.ai.calm y.own s) := by
  unfold AOp.stillC at h
  split at h <;> try (cases h; done)
  rename_i keep t f ps e1 e2 e3
  refine ⟨keep, t, e1, e2, .inr (by rw [e3]; trivial), by rw [e3]; rfl, fun hm => ?_⟩
  unfold AOp.mine at hm
  rw [e2, e3] at hm
  rw [e3]; exact hm
theorem AOp.mode_behind {x : AOp} {dst : Option Tmp} {s1 : AS} (hb : Behind s dst s1) (h : ∀ d, dst = some d → d ∉ x.looks) : x.mode s1 = x.mode s := by
  obtain ⟨v, hp, rfl⟩ := hb
  rw [← AOp.mode_put (s := s) (od := dst) (v := v) h]
  unfold AOp.mode
  rfl
theorem AOp.go_mono {x : AOp} (h : ∀ s, K s → K' s) (g : x.go P s K) : x.go P s K' := by
  rw [AOp.go_mode] at *
  split
  · rename_i hm; rw [hm] at g; exact ⟨g.1, AI.go_mono h g.2⟩
  · rename_i hm; rw [hm] at g; exact h _ g
  · rename_i hm; rw [hm] at g; exact g
theorem AOp.ro_forb {x : AOp} {t nr : Nat} (h : x.forb.contains t = true) : x.ro nr (nr + t) = false := by
  simp only [AOp.ro, List.all_eq_false]
  exact ⟨t, by simpa using h, by simp⟩
theorem AOp.mine_store {x : AOp} {t : Tmp} (h : x.mine s) (hw : x.ai.wr x.dst x.own = some t) : ∀ n p u, x.ai = .store n p u → ∃ l off path, s.ev p = .ptr (s.nr + t) l off path := by
  intro n p u hai
  rw [hai] at hw
  simp only [AI.wr] at hw
  simp only [AOp.mine, hw, hai] at h
  exact h
theorem AOp.swap {x y : AOp} (h : x.swaps y = true) (g : x.go P s fun s1 => y.go P s1 K) : y.go P s fun s2 => x.go P s2 K := by
  simp only [AOp.swaps, Bool.and_eq_true, Bool.or_eq_true, decide_eq_true_eq, beq_iff_eq] at h
  obtain ⟨hap, hcls⟩ := h
  obtain ⟨a1, a2, a3⟩ := AOp.apart_spec hap
  have o1 := offT_of a1
  have o3 := offT_of a3
  have a2' : ∀ d, y.dst = some d → x.dst ≠ some d := fun d hd he => a2 d he hd
  rw [AOp.go_mode] at g ⊢
  cases hx : x.mode s with
  | none => rw [hx] at g; exact g.elim
  | some bx =>
    rw [hx] at g
    cases hy : y.mode s with
    | none =>
      exfalso
      cases bx
      · simp only at g; rw [AOp.go_mode, AOp.mode_put a1, hy] at g; exact g
      · simp only at g
        obtain ⟨s1, hs1, hb⟩ := AI.go_ex (AI.go_post g.2)
        rw [AOp.go_mode, AOp.mode_behind hb a1, hy] at hs1; exact hs1
    | some b =>
      cases bx <;> cases b <;> simp only at g ⊢
      · -- both passed over
        rw [AOp.go_mode, AOp.mode_put a1, hy] at g
        rw [AOp.go_mode, AOp.mode_put a3, hx]
        simp only at g ⊢
        rw [put_put a2]; exact g
      · -- x passed over, y carried out
        rw [AOp.go_mode, AOp.mode_put a1, hy] at g
        simp only [put_nr] at g
        refine ⟨(AOp.mine_put a1).1 g.1, ?_⟩
        have g' := (AI.go_put (ai := y.ai) (dst := y.dst) o1 a2).2 g.2
        refine AI.go_mono ?_ (AI.go_post g')
        rintro s2 ⟨hk, hb⟩
        rw [AOp.go_mode, AOp.mode_behind hb a3, hx]; exact hk
      · -- x carried out, y passed over
        obtain ⟨hmx, g⟩ := g
        have g' : x.ai.go P (x.ro s.nr) s x.dst fun s1 => K (s1.put y.dst (.tup [])) := by
          refine AI.go_mono ?_ (AI.go_post g)
          rintro s1 ⟨hk, hb⟩
          rw [AOp.go_mode, AOp.mode_behind hb a1, hy] at hk; exact hk
        rw [AOp.go_mode, AOp.mode_put a3, hx]
        simp only [put_nr]
        exact ⟨(AOp.mine_put a3).2 hmx, (AI.go_put o3 a2').1 g'⟩
      · -- both carried out
        obtain ⟨hmx, g⟩ := g
        have g1 : x.ai.go P (x.ro s.nr) s x.dst fun s1 => (y.mine s ∧ y.ai.go P (y.ro s.nr) s1 y.dst K) ∧ Behind s x.dst s1 := by
          refine AI.go_mono ?_ (AI.go_post g)
          rintro s1 ⟨hk, hb⟩
          rw [AOp.go_mode, AOp.mode_behind hb a1, hy, hb.nr] at hk
          exact ⟨⟨(AOp.mine_behind hb a1).1 hk.1, hk.2⟩, hb⟩
        have hmy : y.mine s := by obtain ⟨s1, h1⟩ := AI.go_ex g1; exact h1.1.1
        suffices hgoal : y.ai.go P (y.ro s.nr) s y.dst fun s2 => x.ai.go P (x.ro s.nr) s2 x.dst K by
          refine ⟨hmy, AI.go_mono ?_ (AI.go_post hgoal)⟩
          rintro s2 ⟨hk, hb⟩
          rw [AOp.go_mode, AOp.mode_behind hb a3, hx, hb.nr]
          exact ⟨(AOp.mine_behind hb a3).2 hmx, hk⟩
        have g2 : x.ai.go P (x.ro s.nr) s x.dst fun s1 => y.ai.go P (y.ro s.nr) s1 y.dst K := AI.go_mono (fun s1 h => h.1.2) g1
        by_cases hx0 : x.ai.cls = 0
        · obtain ⟨v, hv, hk⟩ := (AI.go_val (by omega)).1 g2
          have g' := (AI.go_put (ai := y.ai) (dst := y.dst) o1 a2).2 hk
          refine AI.go_mono ?_ (AI.go_post g')
          rintro s2 ⟨hk2, hb⟩
          exact (AI.go_val (by omega)).2 ⟨v, (AI.val_congr hx0 (hb.ev o3)).2 hv, hk2⟩
        · by_cases hy0 : y.ai.cls = 0
          · obtain ⟨s1, ⟨⟨_, hs1⟩, hb1⟩⟩ := AI.go_ex g1
            obtain ⟨u, hu, _⟩ := (AI.go_val (by omega)).1 hs1
            have hu0 : y.ai.val P (y.ro s.nr) s u := (AI.val_congr hy0 (hb1.ev o1)).1 hu
            have g' : x.ai.go P (x.ro s.nr) s x.dst fun s1 => K (s1.put y.dst u) := by
              refine AI.go_mono ?_ g1
              rintro s1 ⟨⟨_, hk⟩, hb⟩
              obtain ⟨u', hu', hk'⟩ := (AI.go_val (by omega)).1 hk
              have := AI.val_fun hy0 hu0 ((AI.val_congr hy0 (hb.ev o1)).1 hu')
              subst this; exact hk'
            exact (AI.go_val (by omega)).2 ⟨u, hu0, (AI.go_put o3 a2').1 g'⟩
          · rcases hcls with (((((((((h | h) | h) | h) | h) | h) | h) | h) | h) | h)
            · -- both read
              obtain ⟨v, hv, hk⟩ := (AI.go_val h.1).1 g2
              obtain ⟨u, hu, hk'⟩ := (AI.go_val h.2).1 hk
              refine (AI.go_val h.2).2 ⟨u, (AI.val_put h.2 o1).1 hu, (AI.go_val h.1).2 ⟨v, (AI.val_put h.1 o3).2 hv, ?_⟩⟩
              rw [put_put a2]; exact hk'
            · exact absurd h hx0
            · exact absurd h hy0
            · -- x reads, y writes elsewhere
              obtain ⟨hx1, hf⟩ := h
              split at hf <;> try (cases hf; done)
              rename_i t ht
              obtain ⟨v, hv, hk⟩ := (AI.go_val (by omega)).1 g2
              have g' := (AI.go_put (ai := y.ai) (dst := y.dst) o1 a2).2 hk
              refine AI.go_mono ?_ (AI.go_postW ht (AOp.mine_store hmy ht) g')
              rintro s2 ⟨hk2, hb⟩
              exact (AI.go_val (by omega)).2 ⟨v, (AI.val_w hx1 hb (AOp.ro_forb hf) o3).2 hv, hk2⟩
            · -- y reads, x writes elsewhere
              obtain ⟨⟨hy1, hf⟩, hfun⟩ := h
              split at hf <;> try (cases hf; done)
              rename_i t ht
              have g3 : x.ai.go P (x.ro s.nr) s x.dst fun s1 => ∃ u, y.ai.val P (y.ro s.nr) s u ∧ K (s1.put y.dst u) := by
                refine AI.go_mono ?_ (AI.go_postW ht (AOp.mine_store hmx ht) g2)
                rintro s1 ⟨hk, hb⟩
                obtain ⟨u, hu, hk'⟩ := (AI.go_val (by omega)).1 hk
                exact ⟨u, (AI.val_w hy1 hb (AOp.ro_forb hf) o1).1 hu, hk'⟩
              have g4 : ∃ u, y.ai.val P (y.ro s.nr) s u ∧ x.ai.go P (x.ro s.nr) s x.dst fun s1 => K (s1.put y.dst u) := by
                rcases hfun with hnew | hfn
                · cases hxa : x.ai with
                  | store n p z => rw [hxa] at g3; exact AI.go_store_ex (F := fun u s1 => K (s1.put y.dst u)) g3
                  | alloc n z => rw [hxa] at hnew; simp [AI.isNew] at hnew
                  | box n z => rw [hxa] at hnew; simp [AI.isNew] at hnew
                  | _ => rw [hxa] at ht; simp [AI.wr] at ht
                · obtain ⟨s1, u, hu, _⟩ := AI.go_ex g3
                  refine ⟨u, hu, AI.go_mono ?_ g3⟩
                  rintro s2 ⟨u', hu', hk'⟩
                  have := AI.val_fun1 hfn hu hu'
                  subst this; exact hk'
              obtain ⟨u, hu, g5⟩ := g4
              exact (AI.go_val (by omega)).2 ⟨u, hu, (AI.go_put o3 a2').1 g5⟩
            · -- two new variables
              obtain ⟨⟨⟨hxn, hyn⟩, hxd⟩, hyd⟩ := h
              obtain ⟨d, hd⟩ := Option.isSome_iff_exists.1 hxd
              obtain ⟨e, he⟩ := Option.isSome_iff_exists.1 hyd
              rw [hd, he] at g2
              rw [hd] at o1 a2 ⊢
              rw [he] at o3 ⊢
              have hne : d ≠ e := fun h => a2 d rfl (by rw [he, h])
              have hro : ∀ (r r' : Nat → Bool) (z : AI) (s : AS) (f : Option Tmp) (K : AS → Prop), z.isNew = true → z.go P r s f K → z.go P r' s f K := by
                intro r r' z s f K hz
                cases z <;> simp only [AI.isNew] at hz <;> try (cases hz; done)
                all_goals (simp only [AI.go]; exact id)
              have g3 := AI.go_new hxn hyn hne o1 o3 (AI.go_mono (fun s1 h => hro _ (x.ro s.nr) _ _ _ _ hyn h) g2)
              exact hro _ _ _ _ _ _ hyn g3
            · -- x calls, y reads what it leaves alone
              obtain ⟨keep, t, hxk, hyo, htk, hfn, hy1, hcalm⟩ := AOp.still_spec (s := s) h
              have hc := hcalm hmy
              have g3 : x.ai.go P (x.ro s.nr) s x.dst fun s1 => ∃ u, y.ai.val P (y.ro s.nr) s u ∧ K (s1.put y.dst u) := by
                refine AI.go_mono ?_ (AOp.keeps_post hxk hmx g2)
                rintro s1 ⟨hk, hb⟩
                obtain ⟨u, hu, hk'⟩ := (AI.go_val (by omega)).1 hk
                exact ⟨u, (AI.val_k hyo htk hb hc o1).1 hu, hk'⟩
              obtain ⟨s1, u, hu, _⟩ := AI.go_ex g3
              refine (AI.go_val (by omega)).2 ⟨u, hu, (AI.go_put o3 a2').1 (AI.go_mono ?_ g3)⟩
              rintro s2 ⟨u', hu', hk'⟩
              have := AI.val_fun1 hfn hu hu'
              subst this; exact hk'
            · -- y calls, x reads what it leaves alone
              obtain ⟨keep, t, hyk, hxo, htk, hfn, hx1, hcalm⟩ := AOp.still_spec (s := s) h
              have hc := hcalm hmx
              obtain ⟨v, hv, hk⟩ := (AI.go_val (by omega)).1 g2
              have g' := (AI.go_put (ai := y.ai) (dst := y.dst) o1 a2).2 hk
              refine AI.go_mono ?_ (AOp.keeps_post hyk hmy g')
              rintro s2 ⟨hk2, hb⟩
              exact (AI.go_val (by omega)).2 ⟨v, (AI.val_k hxo htk hb hc o3).2 hv, hk2⟩
            · -- x calls, y is a new variable beside it
              unfold AOp.beside at h
              split at h <;> try (cases h; done)
              rename_i g xs keep fresh e hxa hye
              simp only [Bool.and_eq_true, List.contains_iff_mem] at h
              obtain ⟨hyn, hef⟩ := h
              have hro : ∀ (r r' : Nat → Bool) (z : AI) (s : AS) (f : Option Tmp) (K : AS → Prop), z.isNew = true → z.go P r s f K → z.go P r' s f K := by
                intro r r' z s f K hz
                cases z <;> simp only [AI.isNew] at hz <;> try (cases hz; done)
                all_goals (simp only [AI.go]; exact id)
              have hro2 : ∀ (r r' : Nat → Bool) (s : AS) (f : Option Tmp) (K : AS → Prop), (AI.xc g xs keep fresh).go P r s f K → (AI.xc g xs keep fresh).go P r' s f K := fun r r' s f K => by
                simp only [AI.go]; exact id
              rw [hye] at o3 g2 ⊢
              rw [hxa] at g2 o3 ⊢
              have G := AI.go_xnew (ro := x.ro s.nr) hyn hef (fun hd => a2 e hd hye) o1 o3 (AI.go_mono (fun s1 h => hro _ (x.ro s.nr) _ _ _ _ hyn h) g2)
              refine hro _ _ _ _ _ _ hyn (AI.go_mono (fun s2 h => hro2 _ _ _ _ _ h) G)
            · -- y calls, x is a call that is handed nothing of it
              obtain ⟨keep, t, hyk, hxo, htk, hx1, hcalm⟩ := AOp.stillC_spec (s := s) h
              have hc := hcalm hmx
              obtain ⟨v, hv, hk⟩ := (AI.go_val (by omega)).1 g2
              have g' := (AI.go_put (ai := y.ai) (dst := y.dst) o1 a2).2 hk
              refine AI.go_mono ?_ (AOp.keeps_post hyk hmy g')
              rintro s2 ⟨hk2, hb⟩
              exact (AI.go_val (by omega)).2 ⟨v, (AI.val_k hxo htk hb hc o3).2 hv, hk2⟩
noncomputable def aOp (P : Program) (xs : List AOp) (i : Nat) (K : AS → Prop) (s : AS) : Prop :=
  match xs[i]? with
  | none => K s
  | some x => x.go P s K
theorem aOp_mono {xs : List AOp} {i : Nat} (h : ∀ s, K s → K' s) (g : aOp P xs i K s) : aOp P xs i K' s := by
  unfold aOp at *
  split
  · rename_i hx; rw [hx] at g; exact h _ g
  · rename_i x hx; rw [hx] at g; exact AOp.go_mono h g
noncomputable def wpAnyA (P : Program) (md : Region.Mode) (ops : Array Oper) (xs : List AOp) (K : AS → Prop) : Nat → Array Bool → AS → Prop
  | 0, listed, s => Region.ready md ops listed = [] ∧ K s
  | fuel + 1, listed, s => (Region.ready md ops listed = [] → K s) ∧ ∀ i ∈ Region.ready md ops listed, aOp P xs i (wpAnyA P md ops xs K fuel (listed.setIfInBounds i true)) s
variable {md : Region.Mode} {ops : Array Oper} {xs : List AOp}
def freeA (md : Region.Mode) (ops : Array Oper) (xs : List AOp) (listed : Array Bool) (i : Nat) : Bool :=
  match xs[i]? with
  | none => false
  | some xi => (List.range ops.size).all fun j => j == i || listed.getD j true || match ops[j]?, xs[j]? with
      | some oj, some xj => oj.after.any (fun e => Region.binds md e && e.on == i) || xi.swaps xj
      | _, _ => false
def waitsA (md : Region.Mode) (ops : Array Oper) (i : Nat) : Array Bool :=
  (List.range ops.size).foldl (fun W j => match ops[j]? with
    | some oj => if oj.after.any (fun e => Region.binds md e && (e.on == i || W.getD e.on false)) then W.setIfInBounds j true else W
    | none => W) (Array.replicate ops.size false)
def freeB (md : Region.Mode) (ops : Array Oper) (xs : List AOp) (listed : Array Bool) (i : Nat) : Bool :=
  match xs[i]? with
  | none => false
  | some xi =>
    let W := waitsA md ops i
    ((List.range W.size).all fun j => !(W.getD j false) || (!(listed.getD j true) && match ops[j]? with
      | some oj => oj.after.any (fun e => Region.binds md e && (e.on == i || W.getD e.on false))
      | none => false)) &&
    ((List.range ops.size).all fun j => j == i || listed.getD j true || W.getD j false || match xs[j]? with
      | some xj => xi.swaps xj
      | _ => false)
def FreeW (md : Region.Mode) (ops : Array Oper) (xs : List AOp) (listed : Array Bool) (i : Nat) (xi : AOp) (W : Nat → Prop) : Prop :=
  (∀ j oj, ops[j]? = some oj → W j → ∃ e ∈ oj.after, Region.binds md e = true ∧ (e.on = i ∨ W e.on)) ∧ (∀ k, W k → listed.getD k true = false) ∧
  ∀ j oj, ops[j]? = some oj → j ≠ i → listed.getD j true = false → ¬ W j → ∃ xj, xs[j]? = some xj ∧ xi.swaps xj = true
theorem freeA_spec {i : Nat} {xi : AOp} {listed : Array Bool} (hi : xs[i]? = some xi) (h : freeA md ops xs listed i = true) : ∃ W, FreeW md ops xs listed i xi W := by
  refine ⟨fun j => listed.getD j true = false ∧ ∃ oj, ops[j]? = some oj ∧ ∃ e ∈ oj.after, Region.binds md e = true ∧ e.on = i, ?_, fun k hk => hk.1, ?_⟩
  · rintro j oj hj ⟨_, oj', hj', e, he, hb, ho⟩
    rw [hj] at hj'; cases hj'
    exact ⟨e, he, hb, .inl ho⟩
  · intro j oj hj hne hun hW
    simp only [freeA, hi, List.all_eq_true, List.mem_range] at h
    have h1 := h j (Array.getElem?_eq_some_iff.1 hj).1
    simp only [hj, Bool.or_eq_true, beq_iff_eq, hne, false_or, hun, Bool.false_eq_true] at h1
    cases hx : xs[j]? with
    | none => simp [hx] at h1
    | some xj =>
      simp only [hx, Bool.or_eq_true] at h1
      rcases h1 with h1 | h1
      · obtain ⟨e, he, hb⟩ := Array.any_eq_true'.1 h1
        simp only [Bool.and_eq_true, beq_iff_eq] at hb
        exact absurd ⟨hun, oj, hj, e, he, hb.1, hb.2⟩ hW
      · exact ⟨xj, rfl, h1⟩
theorem freeB_spec {i : Nat} {xi : AOp} {listed : Array Bool} (hi : xs[i]? = some xi) (h : freeB md ops xs listed i = true) : ∃ W, FreeW md ops xs listed i xi W := by
  simp only [freeB, hi, Bool.and_eq_true, List.all_eq_true, List.mem_range] at h
  obtain ⟨h1, h2⟩ := h
  generalize waitsA md ops i = A at *
  have hlt : ∀ j, A.getD j false = true → j < A.size := fun j hj => by
    rcases Nat.lt_or_ge j A.size with h | h
    · exact h
    · simp [Array.getD, Nat.not_lt.2 h] at hj
  have hA : ∀ j, A.getD j false = true → listed.getD j true = false ∧ ∃ oj, ops[j]? = some oj ∧ oj.after.any (fun e => Region.binds md e && (e.on == i || A.getD e.on false)) = true := fun j hj => by
    have := h1 j (hlt j hj)
    simp only [hj, Bool.not_true, Bool.false_or, Bool.and_eq_true, Bool.not_eq_true'] at this
    refine ⟨this.1, ?_⟩
    have h3 := this.2
    cases ho : ops[j]? with
    | none => simp [ho] at h3
    | some oj => simp only [ho] at h3; exact ⟨oj, rfl, h3⟩
  refine ⟨fun j => A.getD j false = true, fun j oj hj hw => ?_, fun k hk => (hA k hk).1, fun j oj hj hne hun hW => ?_⟩
  · obtain ⟨_, oj', hj', h3⟩ := hA j hw
    rw [hj] at hj'; cases hj'
    obtain ⟨e, he, hb⟩ := Array.any_eq_true'.1 h3
    simp only [Bool.and_eq_true, Bool.or_eq_true, beq_iff_eq] at hb
    exact ⟨e, he, hb.1, hb.2⟩
  · have h3 := h2 j (Array.getElem?_eq_some_iff.1 hj).1
    simp only [Bool.or_eq_true, beq_iff_eq, hne, false_or, hun, Bool.false_eq_true, hW] at h3
    cases hx : xs[j]? with
    | none => simp [hx] at h3
    | some xj => simp only [hx] at h3; exact ⟨xj, rfl, h3⟩
theorem wpAnyA_first {i : Nat} {xi : AOp} (hi : xs[i]? = some xi) (W : Nat → Prop) : ∀ (fuel : Nat) (listed : Array Bool) (s : AS), FreeW md ops xs listed i xi W →
    i ∈ Region.ready md ops listed → xi.go P s (wpAnyA P md ops xs K fuel (listed.setIfInBounds i true)) → wpAnyA P md ops xs K (fuel + 1) listed s := by
  intro fuel
  have hgo : ∀ (K' : AS → Prop) s, xi.go P s K' → aOp P xs i K' s := fun K' s g => by unfold aOp; rw [hi]; exact g
  have hex : ∀ (K' : AS → Prop) s, xi.go P s K' → ∃ s', K' s' := fun K' s g => by
    rw [AOp.go_mode] at g
    split at g
    · exact AI.go_ex g.2
    · exact ⟨_, g⟩
    · exact g.elim
  induction fuel with
  | zero =>
    intro listed s _ hr H
    refine ⟨fun h => (by rw [h] at hr; cases hr), fun j hj => ?_⟩
    by_cases hji : j = i
    · subst hji; exact hgo _ _ H
    · have := ready_mono hj hji
      obtain ⟨s', h1, _⟩ := hex _ _ H
      rw [h1] at this
      cases this
  | succ fuel ih =>
    intro listed s hfree hr H
    refine ⟨fun h => (by rw [h] at hr; cases hr), fun j hj => ?_⟩
    by_cases hji : j = i
    · subst hji; exact hgo _ _ H
    · obtain ⟨hjun, oj, hoj, hall⟩ := mem_ready.1 hj
      have hun2 : ∀ k, listed.getD k true = false → listed.getD k false = true → False := fun k h0 h1 => by
        rcases Nat.lt_or_ge k listed.size with h' | h'
        · simp [h'] at h0 h1; rw [h0] at h1; cases h1
        · simp [Array.getElem?_eq_none h'] at h1
      have hnot : ¬ W j := fun hw => by
        obtain ⟨e, he, hb, ho⟩ := hfree.1 j oj hoj hw
        have h1 := hall e he hb
        rcases ho with ho | ho
        · rw [ho] at h1; exact hun2 i (mem_ready.1 hr).1 h1
        · exact hun2 _ (hfree.2.1 _ ho) h1
      obtain ⟨xj, hxj, hsw⟩ := hfree.2.2 j oj hoj hji hjun hnot
      have H2 : xi.go P s fun s1 => xj.go P s1 (wpAnyA P md ops xs K fuel ((listed.setIfInBounds i true).setIfInBounds j true)) := by
        refine AOp.go_mono (fun s1 h1 => ?_) H
        have := h1.2 j (ready_mono hj hji)
        unfold aOp at this
        rw [hxj] at this
        exact this
      have H3 := AOp.swap hsw H2
      have hfree' : FreeW md ops xs (listed.setIfInBounds j true) i xi W := ⟨hfree.1, fun k hk => by
        have hjk : j ≠ k := fun h => hnot (h ▸ hk)
        rw [getD_set_ne true hjk]; exact hfree.2.1 k hk, fun k ok hk hki hun hno => by
        refine hfree.2.2 k ok hk hki ?_ hno
        by_cases hjk : j = k
        · subst hjk; exact hjun
        · rw [getD_set_ne true hjk] at hun; exact hun⟩
      unfold aOp
      rw [hxj]
      refine AOp.go_mono (fun s2 h3 => ih (listed.setIfInBounds j true) s2 hfree' (ready_mono hr (Ne.symm hji)) ?_) H3
      rw [Array.setIfInBounds_comm _ _ hji]
      exact h3
def lexFromA (md : Region.Mode) (ops : Array Oper) (xs : List AOp) : Nat → Nat → Array Bool → Bool
  | 0, _, listed => (Region.ready md ops listed).isEmpty
  | fuel + 1, k, listed => (Region.ready md ops listed).contains k && (freeA md ops xs listed k || freeB md ops xs listed k) && lexFromA md ops xs fuel (k + 1) (listed.setIfInBounds k true)
def lexA (ops : Array Oper) (xs : List AOp) : Bool := lexFromA .any ops xs xs.length 0 (Array.replicate ops.size false)
theorem wpAnyA_lex : ∀ (l : List AOp) (k : Nat) (listed : Array Bool) (s : AS), (∀ j, l[j]? = xs[k + j]?) → lexFromA md ops xs l.length k listed = true → AReg P l s K → wpAnyA P md ops xs K l.length listed s
  | [], _, _, _, _, hB, h => ⟨by simpa [lexFromA] using hB, h⟩
  | x :: l, k, listed, s, hl, hB, h => by
    have h0 : xs[k]? = some x := by simpa using (hl 0).symm
    simp only [List.length_cons, lexFromA, Bool.and_eq_true] at hB
    obtain ⟨⟨hr, hf⟩, hB'⟩ := hB
    obtain ⟨W, hW⟩ : ∃ W, FreeW md ops xs listed k x W := by
      rcases Bool.or_eq_true _ _ |>.mp hf with hf | hf
      · exact freeA_spec h0 hf
      · exact freeB_spec h0 hf
    refine wpAnyA_first h0 W l.length listed s hW (by simpa using hr) (AOp.go_mono (fun s' h' => ?_) h)
    exact wpAnyA_lex l (k + 1) _ _ (fun j => by have := hl (j + 1); simpa [Nat.add_assoc, Nat.add_comm 1 j] using this) hB' h'
def lexP (md : Region.Mode) (ops : Array Oper) (xs : List AOp) : List Nat → Array Bool → Bool
  | [], listed => (Region.ready md ops listed).isEmpty
  | k :: ks, listed => (Region.ready md ops listed).contains k && (freeA md ops xs listed k || freeB md ops xs listed k) && lexP md ops xs ks (listed.setIfInBounds k true)
theorem wpAnyA_lexP : ∀ (l : List Nat) (listed : Array Bool) (s : AS), lexP md ops xs l listed = true → AReg P (l.filterMap (xs[·]?)) s K → wpAnyA P md ops xs K l.length listed s
  | [], _, _, hB, h => ⟨by simpa [lexP] using hB, h⟩
  | k :: l, listed, s, hB, h => by
    simp only [lexP, Bool.and_eq_true] at hB
    obtain ⟨⟨hr, hf⟩, hB'⟩ := hB
    cases h0 : xs[k]? with
    | none => simp [freeA, freeB, h0] at hf
    | some x =>
      obtain ⟨W, hW⟩ : ∃ W, FreeW md ops xs listed k x W := by
        rcases Bool.or_eq_true _ _ |>.mp hf with hf | hf
        · exact freeA_spec h0 hf
        · exact freeB_spec h0 hf
      rw [List.filterMap_cons_some h0] at h
      exact wpAnyA_first h0 W l.length listed s hW (by simpa using hr) (AOp.go_mono (fun s' h' => wpAnyA_lexP l _ s' hB' h') h)
def rankO (x : AOp) : Nat :=
  if x.ai.cls < 2 then 0 else match x.ai with
    | .append .. | .ef .. => 2
    | _ => 1
def pickO (xs : List AOp) (ready : List Nat) : Option Nat :=
  match ready.find? (fun k => match xs[k]? with | some x => rankO x == 0 | none => false) with
  | some k => some k
  | none => match ready.find? (fun k => match xs[k]? with | some x => rankO x == 1 | none => false) with
    | some k => some k
    | none => ready.head?
def orderO (ops : Array Oper) (xs : List AOp) : Nat → Array Bool → List Nat
  | 0, _ => []
  | fuel + 1, listed => match pickO xs (Region.ready .any ops listed) with
    | some k => k :: orderO ops xs fuel (listed.setIfInBounds k true)
    | none => []
def permA (ops : Array Oper) (xs : List AOp) : Option (List AOp) :=
  if lexA ops xs then some xs else
    let l := orderO ops xs xs.length (Array.replicate ops.size false)
    if l.length == ops.size && lexP .any ops xs l (Array.replicate ops.size false) then some (l.filterMap (xs[·]?)) else none
end
section
variable {P : Program} {w0 wk : World} {regs : List (Nat × Nat × Nat)} {St : Nat → Nat → Prop} {s : AS} {a : Act} {w : World} {o : Oper} {K : AS → Prop} {Q : Exit → Act → World → Prop} {draw : Bool} {ops : Array Oper} {xs : List AOp}
def AOp.same (x y : AOp) : Prop := x.dst = y.dst ∧ x.guard = y.guard ∧ x.ai = y.ai
theorem annot1_same (ops : Array Oper) (xs : List AOp) (i : Nat) (x : AOp) : (annot1 ops xs i x).same x := by
  unfold annot1
  split
  · exact ⟨rfl, rfl, rfl⟩
  · split
    · exact ⟨rfl, rfl, rfl⟩
    · exact ⟨rfl, rfl, rfl⟩
    · exact ⟨rfl, rfl, rfl⟩
    · split <;> exact ⟨rfl, rfl, rfl⟩
  · exact ⟨rfl, rfl, rfl⟩
theorem annot_get {ops : Array Oper} {xs : List AOp} {i : Nat} {x : AOp} (h : xs[i]? = some x) : ∃ y, (annot ops xs)[i]? = some y ∧ y.same x := by
  refine ⟨annot1 ops xs i x, ?_, annot1_same ops xs i x⟩
  simp [annot, h]
theorem annot_len (ops : Array Oper) (xs : List AOp) : (annot ops xs).length = xs.length := by simp [annot]
theorem compO_dst {x y : AOp} (h : compO P draw ops o = some y) (hxy : x.same y) : x.dst = o.dst ∧ compY P draw ops o = some x.ai := by
  obtain ⟨e1, _, e3⟩ := hxy
  rw [e1, e3]
  unfold compO at h
  split at h <;> try (cases h; done)
  rename_i ai hai
  split at h
  · cases h; exact ⟨rfl, hai⟩
  · split at h
    · cases h; exact ⟨rfl, hai⟩
    · cases h
theorem compO_guard {x y : AOp} (h : compO P draw ops o = some y) (hxy : x.same y) (hs : SRel w0 wk regs St s a w) {b : Bool} (hm : x.mode s = some b) : Region.wanted o (yielded ops a.tmps) = b := by
  have hm : y.mode s = some b := by rw [← hm]; unfold AOp.mode; rw [hxy.2.1]
  unfold compO at h
  split at h <;> try (cases h; done)
  split at h
  · rename_i hg
    cases h
    simp only [AOp.mode, Option.some.injEq] at hm
    simp [Region.wanted, hg, hm]
  · rename_i j want hg
    split at h <;> try (cases h; done)
    rename_i t ht
    cases h
    simp only [AOp.mode] at hm
    obtain ⟨Imm, h1, h2, h3⟩ := hs.ex
    have hT := h2.eval (s := s) (.tmp t) (by simp)
    split at hm <;> try (cases hm; done)
    · rename_i c hc
      simp only [Option.some.injEq] at hm
      rw [hc] at hT
      obtain ⟨e, _⟩ := hT.lit
      have hget : a.tmps[t]? = some (.bool c) := by
        simp only [Act.eval] at e
        cases hh : a.tmps[t]? with
        | none => simp [hh, undef] at e
        | some v => simp [hh] at e; rw [e]
      simp only [Region.wanted, hg, yielded, ht, Option.bind_some, hget]
      rw [← hm]
      cases c <;> cases want <;> rfl
    · rename_i hc
      simp only [Option.some.injEq] at hm
      rw [hc] at hT
      rw [← hm]
      have e : a.eval (.tmp t) = .tuple #[] := by
        rcases hT with hT | ⟨cs, hT, e⟩
        · cases hT
        · cases hT; exact e
      have hy : yielded ops a.tmps j = none := by
        simp only [yielded, ht, Option.bind_some]
        simp only [Act.eval] at e
        cases hh : a.tmps[t]? with
        | none => rfl
        | some v => simp [hh] at e; rw [e]
      simp only [Region.wanted, hg, hy]
      rfl
theorem AOp.sound {x y : AOp} (h : compO P draw ops o = some y) (hxy : x.same y) (g : x.go P s K) (hs : SRel w0 wk regs St s a w) :
    if Region.wanted o (yielded ops a.tmps) then o.wp P a w (fun a' w' => ∃ s', K s' ∧ SRel w0 wk regs St s' a' w') Q else ∃ s', K s' ∧ SRel w0 wk regs St s' (a.put o.dst undef) w := by
  obtain ⟨hd, hai⟩ := compO_dst h hxy
  rw [AOp.go_mode] at g
  split at g
  · rename_i hm
    rw [compO_guard h hxy hs hm]
    rw [hd] at g
    exact compY_sound hai g.2 hs
  · rename_i hm
    rw [compO_guard h hxy hs hm]
    rw [hd] at g
    simp only [Bool.false_eq_true, if_false]
    obtain ⟨Imm, h1, h2, h3⟩ := hs.ex
    exact ⟨_, g, hs.put0 h1 h2 h3 (.inr ⟨[], .tup0, rfl⟩)⟩
  · exact g.elim
theorem compOs_get : ∀ {os : List Oper} {xs : List AOp}, compOs P draw ops os = some xs → xs.length = os.length ∧ ∀ (i : Nat) (o : Oper), os[i]? = some o → ∃ x, xs[i]? = some x ∧ compO P draw ops o = some x
  | [], xs, h => by
    simp only [compOs, Option.some.injEq] at h
    subst h; simp
  | o :: os, xs, h => by
    simp only [compOs] at h
    split at h <;> try (cases h; done)
    rename_i x ys hx hys
    cases h
    obtain ⟨h1, h2⟩ := compOs_get hys
    refine ⟨by simp [h1], fun i o' ho => ?_⟩
    cases i with
    | zero => simp only [List.getElem?_cons_zero, Option.some.injEq] at ho; subst ho; exact ⟨x, rfl, hx⟩
    | succ i => simpa using h2 i o' (by simpa using ho)
theorem wpList_of_AReg : ∀ (os : List Oper) (xs : List AOp) (s : AS) (a : Act) (w : World), compOs P draw ops os = some xs → AReg P xs s K → SRel w0 wk regs St s a w →
    wpList P ops (fun e a' w' => e = .normal ∧ ∃ s', K s' ∧ SRel w0 wk regs St s' a' w') os a w
  | [], xs, s, a, w, h, g, hs => by
    simp only [compOs, Option.some.injEq] at h
    subst h
    exact ⟨rfl, s, g, hs⟩
  | o :: os, xs, s, a, w, h, g, hs => by
    simp only [compOs] at h
    split at h <;> try (cases h; done)
    rename_i x ys hx hys
    cases h
    have := AOp.sound (Q := fun e a' w' => e = .normal ∧ ∃ s', K s' ∧ SRel w0 wk regs St s' a' w') hx ⟨rfl, rfl, rfl⟩ g hs
    unfold wpList
    split
    · rename_i hw
      rw [if_pos hw] at this
      exact .inl (Oper.wp_mono (fun a' w' ⟨s', hk, hs'⟩ => wpList_of_AReg os ys s' a' w' hys hk hs') this)
    · rename_i hw
      rw [if_neg hw] at this
      obtain ⟨s', hk, hs'⟩ := this
      exact wpList_of_AReg os ys s' _ w hys hk hs'
theorem wpAny_of_A (hc : compOs P draw ops ops.toList = some xs) : ∀ (fuel : Nat) (listed : Array Bool) (s : AS) (a : Act) (w : World), wpAnyA P .any ops (annot ops xs) K fuel listed s → SRel w0 wk regs St s a w →
    wpAny P .any ops (fun e a' w' => e = .normal ∧ ∃ s', K s' ∧ SRel w0 wk regs St s' a' w') fuel listed a w
  | 0, listed, s, a, w, h, hs => ⟨h.1, rfl, s, h.2, hs⟩
  | fuel + 1, listed, s, a, w, h, hs => by
    refine ⟨fun h0 => ⟨rfl, s, h.1 h0, hs⟩, fun i hi => ?_⟩
    have h1 := h.2 i hi
    unfold wpOp
    split
    · rename_i ho
      obtain ⟨_, o, ho', _⟩ := mem_ready.1 hi
      rw [ho] at ho'; cases ho'
    · rename_i o ho
      obtain ⟨x, hx, hcx⟩ := (compOs_get hc).2 i o (by simpa using ho)
      obtain ⟨y, hy, hyx⟩ := annot_get (ops := ops) hx
      unfold aOp at h1
      rw [hy] at h1
      have := AOp.sound (Q := fun e a' w' => e = .normal ∧ ∃ s', K s' ∧ SRel w0 wk regs St s' a' w') hcx hyx h1 hs
      split
      · rename_i hw
        rw [if_pos hw] at this
        exact .inl (Oper.wp_mono (fun a' w' ⟨s', hk, hs'⟩ => wpAny_of_A hc fuel _ s' a' w' hk hs') this)
      · rename_i hw
        rw [if_neg hw] at this
        obtain ⟨s', hk, hs'⟩ := this
        exact wpAny_of_A hc fuel _ s' _ w hk hs'
theorem wp_region_A {id : Nat} {ys : List AOp} (hm : draw = false ∨ P.follows .mixedOrders = true) (hc : compOs P draw ops ops.toList = some xs) (hl : if draw then permA ops (annot ops xs) = some ys else ys = xs)
    (h : AReg P ys s K) (hs : SRel w0 wk regs St s a w) :
    (Code.region id ops draw).wp P (fun e a' w' => e = .normal ∧ ∃ s', K s' ∧ SRel w0 wk regs St s' a' w') a w := by
  cases draw with
  | false => simp only [Bool.false_eq_true, if_false] at hl; subst hl; exact wp_region_list (wpList_of_AReg ops.toList _ s a w hc h hs)
  | true =>
    have hm' := hm.resolve_left (by simp)
    simp only [if_true] at hl
    refine wp_region_any hm' ?_
    have hlen := (compOs_get hc).1
    unfold permA at hl
    split at hl
    · rename_i hl'
      cases hl
      have h1 := wpAnyA_lex (md := .any) (ops := ops) (xs := annot ops xs) (annot ops xs) 0 (Array.replicate ops.size false) s (by simp) hl' h
      rw [annot_len, hlen, Array.length_toList] at h1
      exact wpAny_of_A hc _ _ s a _ h1 hs.drew
    · simp only at hl
      split at hl <;> try (cases hl; done)
      rename_i hl'
      cases hl
      simp only [Bool.and_eq_true, beq_iff_eq] at hl'
      have h1 := wpAnyA_lexP (md := .any) (ops := ops) (xs := annot ops xs) _ (Array.replicate ops.size false) s hl'.2 h
      rw [hl'.1] at h1
      exact wpAny_of_A hc _ _ s a _ h1 hs.drew
end
end Go.Cab
namespace Go.Cab
open Go.RowKit
open Classical
inductive AC where
  | skip
  | reg (xs : List AOp)
  | seq (a b : AC)
  | cond (c : Operand) (x y : AC)
  | block (id : Nat) (b : AC)
  | loop (b : AC)
  | exit (id : Nat)
  | ret
  | jump (b : AC) (l : Nat) (r : AC)
  deriving Inhabited
inductive AX where
  | normal
  | exit (id : Nat)
  | ret
def gotoX (l : Nat) : Nat := 1000000000 + l
def AX.toExit : AX → Exit
  | .normal => .normal
  | .exit id => if id < 1000000000 then .exit id else .goto (id - 1000000000)
  | .ret => .ret
theorem toExit_exit {id : Nat} (h : id < 1000000000) : AX.toExit (.exit id) = .exit id := by show (if id < 1000000000 then Exit.exit id else .goto (id - 1000000000)) = _; rw [if_pos h]
theorem toExit_goto (l : Nat) : AX.toExit (.exit (gotoX l)) = .goto l := by
  have h : ¬ gotoX l < 1000000000 := by unfold gotoX; omega
  have h2 : gotoX l - 1000000000 = l := by unfold gotoX; omega
  show (if gotoX l < 1000000000 then Exit.exit (gotoX l) else .goto (gotoX l - 1000000000)) = _
  rw [if_neg h, h2]
theorem toExit_cases (i : Nat) : (i < 1000000000 ∧ AX.toExit (.exit i) = .exit i) ∨ ∃ l, i = gotoX l ∧ AX.toExit (.exit i) = .goto l := by
  by_cases h : i < 1000000000
  · exact .inl ⟨h, toExit_exit h⟩
  · refine .inr ⟨i - 1000000000, by unfold gotoX; omega, ?_⟩
    show (if i < 1000000000 then Exit.exit i else .goto (i - 1000000000)) = _
    rw [if_neg h]
def Le (s s' : AS) : Prop := ∀ w0 wk regs St a w, SRel w0 wk regs St s a w → SRel w0 wk regs St s' a w
theorem Le.refl (s : AS) : Le s s := fun _ _ _ _ _ _ h => h
theorem Le.trans {s t u : AS} (h : Le s t) (k : Le t u) : Le s u := fun w0 wk regs St a w x => k w0 wk regs St a w (h w0 wk regs St a w x)
theorem Le.seals (s : AS) (bs : List Nat) : Le s (s.seals bs) := fun _ _ _ _ _ _ h => SRel.sealsAll bs h
def leT : List AV → List AV → Prop
  | [], [] => True
  | v :: vs, u :: us => (u = .any ∨ u = v) ∧ leT vs us
  | _, _ => False
def leH : List (Option Blk) → List (Option Blk) → Prop
  | [], [] => True
  | v :: vs, u :: us => (u = none ∨ u = v) ∧ leH vs us
  | _, _ => False
theorem leT_get : ∀ {x y : List AV}, leT x y → x.length = y.length ∧ ∀ (t : Nat) (u : AV), y[t]? = some u → u = .any ∨ x[t]? = some u
  | [], [], _ => ⟨rfl, by simp⟩
  | v :: vs, u :: us, h => by
    obtain ⟨h1, h2⟩ := leT_get h.2
    refine ⟨by simp [h1], fun t w hw => ?_⟩
    cases t with
    | zero => simp only [List.getElem?_cons_zero, Option.some.injEq] at hw ⊢; subst hw; exact h.1.imp id fun e => by rw [e]
    | succ t => simpa using h2 t w (by simpa using hw)
  | [], _ :: _, h => h.elim
  | _ :: _, [], h => h.elim
theorem leH_get : ∀ {x y : List (Option Blk)}, leH x y → ∀ (t : Nat) (u : Blk), (y[t]?).join = some u → (x[t]?).join = some u
  | [], [], _, t, u, h => by simp at h
  | v :: vs, u :: us, h, t, w, hw => by
    cases t with
    | zero =>
      rcases h.1 with e | e
      · subst e; simp at hw
      · subst e; simpa using hw
    | succ t => simpa using leH_get h.2 t w (by simpa using hw)
  | [], _ :: _, h, _, _, _ => h.elim
  | _ :: _, [], h, _, _, _ => h.elim
theorem Le.mk {s s' : AS} (hn : s'.nr = s.nr) (ht : leT s.tm s'.tm) (hh : leH s.hp s'.hp) : Le s s' := fun w0 wk regs St a w h => by
  obtain ⟨Imm, h1, h2, h3⟩ := h.ex
  obtain ⟨hl, hg⟩ := leT_get ht
  refine ⟨h.defers, by rw [h.tsize, hl], h.tab, h.frame, Imm, h1, fun t v hv => ?_, ⟨fun k x hx => h3.ok k x (leH_get hh k x hx), fun k k' x y hne hx hy => h3.apart k k' x y hne (leH_get hh k x hx) (leH_get hh k' y hy)⟩⟩
  rcases hg t v hv with e | e
  · exact .inl e
  · exact h2 t v e
theorem Le.nilRow {s : AS} {t b : Nat} (ht : s.tm[t]? = some (.lit (.slice none 0 0))) (hb : s.blk b = none) (e : TypeId) (esz : Nat) :
    Le s { s with tm := s.tm.set t (.own b (.slice none 0 0)), hp := s.hp.set b (some (.row e (.slice none 0 0) esz [] 0)) } := fun w0 wk regs St a w h => by
  obtain ⟨Imm, h1, h2, h3⟩ := h.ex
  refine ⟨h.defers, by simpa using h.tsize, h.tab, h.frame, Imm, h1, fun t' v hv => ?_, ?_⟩
  · simp only [List.getElem?_set] at hv
    by_cases e1 : t = t'
    · subst e1
      simp only [if_true] at hv
      split at hv
      · cases hv
        have := (h2 t _ ht).lit.1
        exact .inr ⟨[.slice none 0 0], .own _ _ rfl, by rw [this]; rfl⟩
      · cases hv
    · rw [if_neg e1] at hv; exact h2 t' v hv
  · refine h3.lay ⟨[], .arr0 _, World.ownsRow_nil w 0 e esz, rfl, Nat.le_refl _, fun b o hb => by cases hb⟩ (fun b o hf => by cases hf) (fun k y _ _ b o hf => by cases hf)
noncomputable def AC.wp (P : Program) : AC → AS → (AX → AS → Prop) → Prop
  | .skip, s, Q => Q .normal s
  | .reg xs, s, Q => AReg P xs s (Q .normal)
  | .seq a b, s, Q => a.wp P s fun x s' => match x with | .normal => ∃ s0, Le s' s0 ∧ b.wp P s0 Q | x => Q x s'
  | .cond c x y, s, Q => match s.ev c with
    | .lit (.bool t) => if t then x.wp P s Q else y.wp P s Q
    | _ => False
  | .block id c, s, Q => c.wp P s fun x s' => match x with | .exit i => if i = id then Q .normal s' else Q (.exit i) s' | x => Q x s'
  | .loop c, s, Q => ∃ (I : Nat → AS → Prop) (n : Nat), (∃ s0, Le s s0 ∧ I n s0) ∧ ∀ n s, I n s → c.wp P s fun x s' => match x with
    | .normal => ∃ m, m < n ∧ ∃ s0, Le s' s0 ∧ I m s0
    | x => Q x s'
  | .exit id, s, Q => Q (.exit id) s
  | .ret, s, Q => Q .ret s
  | .jump c l r, s, Q => c.wp P s fun x s' => match x with | .exit i => if i = gotoX l then ∃ s0, Le s' s0 ∧ r.wp P s0 (fun x s2 => match x with | .exit j => j < 1000000000 ∧ Q (.exit j) s2 | x => Q x s2) else Q (.exit i) s' | x => Q x s'
def labelsOf : Code → List Nat
  | .seq a b => labelsOf a ++ labelsOf b
  | .label l => [l]
  | _ => []
def compB (P : Program) : Code → Option Nat → Option AC
  | .skip, none => some .skip
  | .region _ ops draw, none => match compOs P draw ops ops.toList with
    | some xs => if draw then (if P.follows .mixedOrders then (permA ops (annot ops xs)).map .reg else none) else some (.reg xs)
    | none => none
  | .seq a b, none => match compB P a none, compB P b none with | some x, some y => some (.seq x y) | _, _ => none
  | .seq a b, some l => match findLabel a l with
    | some _ => (match compB P a (some l), compB P b none with | some x, some y => some (.seq x y) | _, _ => none)
    | none => compB P b (some l)
  | .cond c a b, none => if okO c then (match compB P a none, compB P b none with | some x, some y => some (.cond c x y) | _, _ => none) else none
  | .block id c, none => if id < 1000000000 then (match compB P c none with | some x => some (.block id x) | none => none) else none
  | .loop c, none => match compB P c none with | some x => some (.loop x) | none => none
  | .exit id, none => if id < 1000000000 then some (.exit id) else none
  | .ret, none => some .ret
  | .scope c, none => match labelsOf c with
      | [] => compB P c none
      | [l] => (match compB P c none, compB P c (some l) with | some x, some r => some (.jump x l r) | _, _ => none)
      | [l, m] => if l = m then none else (match compB P c none, compB P c (some l), compB P c (some m) with | some x, some r, some t => some (.jump (.jump x l r) m t) | _, _, _ => none)
      | _ => none
  | .label _, none => some .skip
  | .label l', some l => if l' == l then some .skip else none
  | .goto l, none => some (.exit (gotoX l))
  | _, _ => none
def compC (P : Program) (c : Code) : Option AC := compB P c none
theorem compB_label {P : Program} : ∀ (c : Code) (l : Nat) (r : AC), compB P c (some l) = some r → ∃ rest, findLabel c l = some rest ∧ compB P rest none = some r ∧ SizeOf.sizeOf rest ≤ SizeOf.sizeOf c
  | .seq a b, l, r, h => by
    simp only [compB] at h
    cases hf : findLabel a l with
    | some ra =>
      rw [hf] at h
      simp only at h
      split at h <;> try (cases h; done)
      rename_i x y hx hy
      cases h
      obtain ⟨rest, h1, h2, h3⟩ := compB_label a l x hx
      rw [hf] at h1
      cases h1
      refine ⟨.seq ra b, by simp [findLabel, hf], by simp [compB, h2, hy], ?_⟩
      simp only [Code.seq.sizeOf_spec]
      omega
    | none =>
      rw [hf] at h
      simp only at h
      obtain ⟨rest, h1, h2, h3⟩ := compB_label b l r h
      refine ⟨rest, by simp [findLabel, hf, h1], h2, ?_⟩
      simp only [Code.seq.sizeOf_spec]
      omega
  | .label l', l, r, h => by
    simp only [compB] at h
    split at h <;> try (cases h; done)
    rename_i hl
    cases h
    exact ⟨.skip, by simp [findLabel, hl], rfl, by simp⟩
  | .skip, _, _, h => by simp [compB] at h
  | .region .., _, _, h => by simp [compB] at h
  | .cond .., _, _, h => by simp [compB] at h
  | .block .., _, _, h => by simp [compB] at h
  | .loop .., _, _, h => by simp [compB] at h
  | .exit .., _, _, h => by simp [compB] at h
  | .ret, _, _, h => by simp [compB] at h
  | .scope .., _, _, h => by simp [compB] at h
  | .goto .., _, _, h => by simp [compB] at h
  | .rangeFunc .., _, _, h => by simp [compB] at h
  | .refuse .., _, _, h => by simp [compB] at h
theorem find_mem : ∀ (c : Code) (l : Nat) (rest : Code), findLabel c l = some rest → l ∈ labelsOf c
  | .seq a b, l, rest, h => by
    simp only [findLabel] at h
    simp only [labelsOf, List.mem_append]
    cases hf : findLabel a l with
    | some ra => exact .inl (find_mem a l ra hf)
    | none => rw [hf] at h; exact .inr (find_mem b l rest h)
  | .label l', l, rest, h => by
    simp only [findLabel] at h
    split at h <;> try (cases h; done)
    rename_i hl
    simp only [labelsOf, List.mem_singleton]
    simpa using (eq_of_beq hl).symm
  | .skip, _, _, h => by simp [findLabel] at h
  | .region .., _, _, h => by simp [findLabel] at h
  | .cond .., _, _, h => by simp [findLabel] at h
  | .block .., _, _, h => by simp [findLabel] at h
  | .loop .., _, _, h => by simp [findLabel] at h
  | .exit .., _, _, h => by simp [findLabel] at h
  | .ret, _, _, h => by simp [findLabel] at h
  | .scope .., _, _, h => by simp [findLabel] at h
  | .goto .., _, _, h => by simp [findLabel] at h
  | .rangeFunc .., _, _, h => by simp [findLabel] at h
  | .refuse .., _, _, h => by simp [findLabel] at h
def Out (P : Program) (c : Code) (Q : Exit → Act → World → Prop) : Nat → Exit → Act → World → Prop
  | 0, e, a, w => (∀ l, e = .goto l → findLabel c l = none) ∧ Q e a w
  | n + 1, e, a, w => ((∀ l, e = .goto l → findLabel c l = none) ∧ Q e a w) ∨ ∃ l rest, e = .goto l ∧ findLabel c l = some rest ∧ rest.wp P (Out P c Q n) a w
theorem out_zero {P : Program} {c : Code} {Q : Exit → Act → World → Prop} {n : Nat} {e : Exit} {a : Act} {w : World} (h1 : ∀ l, e = .goto l → findLabel c l = none) (h2 : Q e a w) : Out P c Q n e a w := by
  cases n with
  | zero => exact ⟨h1, h2⟩
  | succ n => exact .inl ⟨h1, h2⟩
theorem wp_scope_out {P : Program} {c : Code} {Q : Exit → Act → World → Prop} {a : Act} {w : World} (n : Nat) (h : c.wp P (Out P c Q n) a w) : (Code.scope c).wp P Q a w := by
  intro b k cs
  have fin : ∀ m e a' w', ((∀ l, e = .goto l → findLabel c l = none) ∧ Q e a' w') → Arrives P m b (.inScope c :: k) cs e a' w' → ∃ e a' w', Q e a' w' ∧ Arrives P m b k cs e a' w' := by
    rintro m e a' w' ⟨hg, hq⟩ harr
    cases e with
    | normal => exact ⟨.normal, a', w', hq, Steps.trans harr (.one step_inScope)⟩
    | exit id => exact ⟨.exit id, a', w', hq, fun k' hk => harr k' (by simp [exitTo, hk])⟩
    | goto l => exact ⟨.goto l, a', w', hq, fun k' hk => harr k' (by simp [gotoIn, hg l rfl, hk])⟩
    | ret => exact ⟨_, a', w', hq, harr⟩
    | panic ch => exact ⟨_, a', w', hq, harr⟩
    | outgrown => exact ⟨_, a', w', hq, harr⟩
  have key : ∀ n m e a' w', Out P c Q n e a' w' → Arrives P m b (.inScope c :: k) cs e a' w' → ∃ e a' w', Q e a' w' ∧ Arrives P m b k cs e a' w' := by
    intro n
    induction n with
    | zero => exact fun m e a' w' h harr => fin m e a' w' h harr
    | succ n ih =>
      rintro m e a' w' (h | ⟨l, rest, rfl, hf, hr⟩) harr
      · exact fin m e a' w' h harr
      · obtain ⟨e2, a2, w2, h2, harr2⟩ := hr b (.inScope c :: k) cs
        exact ih m e2 a2 w2 h2 (.of_steps (harr _ (by simp [gotoIn, hf])) harr2)
  obtain ⟨e, a₁, w₁, hq, harr⟩ := h b (.inScope c :: k) cs
  obtain ⟨e2, a2, w2, h2, harr2⟩ := key n _ e a₁ w₁ hq harr
  exact ⟨e2, a2, w2, h2, .of_steps (.one step_scope) harr2⟩
section
variable {P : Program} {w0 wk : World} {regs : List (Nat × Nat × Nat)} {St : Nat → Nat → Prop}
theorem AC.sound : ∀ (c : Code) (ac : AC) (s : AS) (Q : AX → AS → Prop) (a : Act) (w : World), compB P c none = some ac → ac.wp P s Q → SRel w0 wk regs St s a w →
    c.wp P (fun e a' w' => ∃ x s', e = AX.toExit x ∧ Q x s' ∧ SRel w0 wk regs St s' a' w') a w
  | .skip, ac, s, Q, a, w, hc, h, hs => by
    cases hc
    exact wp_skip ⟨.normal, s, rfl, h, hs⟩
  | .region id ops draw, ac, s, Q, a, w, hc, h, hs => by
    simp only [compB] at hc
    split at hc <;> try (cases hc; done)
    rename_i xs hxs
    cases draw with
    | false =>
      simp only [Bool.false_eq_true, if_false] at hc
      cases hc
      exact Code.wp_mono (fun e a' w' ⟨he, s', hk, hs'⟩ => ⟨.normal, s', he, hk, hs'⟩) (wp_region_A (.inl rfl) hxs rfl h hs)
    | true =>
      simp only [if_true] at hc
      split at hc <;> try (cases hc; done)
      rename_i hok
      obtain ⟨ys, hys, rfl⟩ := Option.map_eq_some_iff.1 hc
      exact Code.wp_mono (fun e a' w' ⟨he, s', hk, hs'⟩ => ⟨.normal, s', he, hk, hs'⟩) (wp_region_A (.inr hok) hxs (by simpa using hys) h hs)
  | .seq x y, ac, s, Q, a, w, hc, h, hs => by
    simp only [compB] at hc
    split at hc <;> try (cases hc; done)
    rename_i x' y' hx hy
    cases hc
    refine wp_seq (Code.wp_mono (fun e a' w' ⟨ex, s', he, hk, hs'⟩ => ?_) (AC.sound x x' s _ a w hx h hs))
    subst he
    cases ex with
    | normal => obtain ⟨s0, hle, hk⟩ := hk; exact AC.sound y y' s0 Q a' w' hy hk (hle _ _ _ _ _ _ hs')
    | exit id => rcases toExit_cases id with ⟨_, h⟩ | ⟨l, _, h⟩ <;> rw [h] <;> exact ⟨.exit id, s', h.symm, hk, hs'⟩
    | ret => exact ⟨.ret, s', rfl, hk, hs'⟩
  | .cond c x y, ac, s, Q, a, w, hc, h, hs => by
    simp only [compB] at hc
    split at hc <;> try (cases hc; done)
    rename_i hok
    split at hc <;> try (cases hc; done)
    rename_i x' y' hx hy
    cases hc
    simp only [AC.wp] at h
    split at h <;> try exact h.elim
    rename_i t ht
    obtain ⟨Imm, h1, h2, h3⟩ := hs.ex
    have hC := h2.eval c (okO_sc hok)
    rw [ht] at hC
    refine wp_cond hC.lit.1 ?_
    cases t
    · exact AC.sound y y' s Q a w hy h hs
    · exact AC.sound x x' s Q a w hx h hs
  | .block id c, ac, s, Q, a, w, hc, h, hs => by
    simp only [compB] at hc
    split at hc <;> try (cases hc; done)
    rename_i hid
    split at hc <;> try (cases hc; done)
    rename_i x' hx
    cases hc
    refine wp_block (Code.wp_mono (fun e a' w' ⟨ex, s', he, hk, hs'⟩ => ?_) (AC.sound c x' s _ a w hx h hs))
    subst he
    cases ex with
    | normal => exact ⟨.normal, s', rfl, hk, hs'⟩
    | exit i =>
      simp only at hk
      rcases toExit_cases i with ⟨_, h⟩ | ⟨l, hl, h⟩
      · rw [h]
        simp only [Exit.inBlock]
        split
        · rename_i hi; rw [if_pos hi] at hk; exact ⟨.normal, s', rfl, hk, hs'⟩
        · rename_i hi; rw [if_neg hi] at hk; exact ⟨.exit i, s', h.symm, hk, hs'⟩
      · rw [h]
        simp only [Exit.inBlock]
        rw [if_neg (by unfold gotoX at hl; omega)] at hk
        exact ⟨.exit i, s', h.symm, hk, hs'⟩
    | ret => exact ⟨.ret, s', rfl, hk, hs'⟩
  | .loop c, ac, s, Q, a, w, hc, h, hs => by
    simp only [compB] at hc
    split at hc <;> try (cases hc; done)
    rename_i x' hx
    cases hc
    simp only [AC.wp] at h
    obtain ⟨I, n, ⟨s0, hle, hI⟩, hstep⟩ := h
    refine wp_loop_ghost (fun n a w => ∃ s, I n s ∧ SRel w0 wk regs St s a w) n ⟨s0, hI, hle _ _ _ _ _ _ hs⟩ ?_
    rintro m a' w' ⟨s1, hI1, hs1⟩
    refine Code.wp_mono (fun e a2 w2 ⟨ex, s', he, hk, hs'⟩ => ?_) (AC.sound c x' s1 _ a' w' hx (hstep m s1 hI1) hs1)
    subst he
    cases ex with
    | normal =>
      obtain ⟨m', hlt, s2, hle2, hI2⟩ := hk
      exact ⟨m', hlt, s2, hI2, hle2 _ _ _ _ _ _ hs'⟩
    | exit i => rcases toExit_cases i with ⟨_, h⟩ | ⟨l, _, h⟩ <;> rw [h] <;> exact ⟨.exit i, s', h.symm, hk, hs'⟩
    | ret => exact ⟨.ret, s', rfl, hk, hs'⟩
  | .exit id, ac, s, Q, a, w, hc, h, hs => by
    simp only [compB] at hc
    split at hc <;> try (cases hc; done)
    rename_i hid
    cases hc
    exact wp_exit ⟨.exit id, s, (toExit_exit hid).symm, h, hs⟩
  | .ret, ac, s, Q, a, w, hc, h, hs => by
    cases hc
    exact wp_ret ⟨.ret, s, rfl, h, hs⟩
  | .rangeFunc .., ac, s, Q, a, w, hc, h, hs => by cases hc
  | .scope c, ac, s, Q, a, w, hc, h, hs => by
    have tail : ∀ (l : Nat) (r : AC) (s0 : AS) (a' : Act) (w' : World) (Q2 : AX → AS → Prop), compB P c (some l) = some r → (∀ x s2, (match x with | .exit j => j < 1000000000 ∧ Q2 (.exit j) s2 | x => Q2 x s2) → Q x s2) →
        r.wp P s0 (fun x s2 => match x with | .exit j => j < 1000000000 ∧ Q2 (.exit j) s2 | x => Q2 x s2) → SRel w0 wk regs St s0 a' w' → ∃ rest, findLabel c l = some rest ∧ rest.wp P (Out P c (fun e a' w' => ∃ x s', e = AX.toExit x ∧ Q x s' ∧ SRel w0 wk regs St s' a' w') 0) a' w' := by
      intro l r s0 a' w' Q2 hr hQ hw hs0
      obtain ⟨rest, h1, h2, h3⟩ := compB_label c l r hr
      refine ⟨rest, h1, Code.wp_mono (fun e a2 w2 ⟨ex, s', he, hk, hs'⟩ => ?_) (AC.sound rest r s0 _ a' w' h2 hw hs0)⟩
      subst he
      refine out_zero (fun l' he => ?_) ⟨ex, s', rfl, hQ ex s' hk, hs'⟩
      cases ex with
      | normal => cases he
      | ret => cases he
      | exit j => rw [toExit_exit hk.1] at he; cases he
    simp only [compB] at hc
    split at hc
    · rename_i hl
      refine wp_scope_out 0 (Code.wp_mono (fun e a' w' ⟨ex, s', he, hk, hs'⟩ => ?_) (AC.sound c ac s Q a w hc h hs))
      refine out_zero (fun l' _ => ?_) ⟨ex, s', he, hk, hs'⟩
      cases hf : findLabel c l' with
      | none => rfl
      | some rest =>
        have := find_mem c l' rest hf
        rw [hl] at this
        cases this
    · rename_i l hl
      split at hc <;> try (cases hc; done)
      rename_i x r hx hr
      cases hc
      refine wp_scope_out 1 (Code.wp_mono (fun e a' w' ⟨ex, s', he, hk, hs'⟩ => ?_) (AC.sound c x s _ a w hx h hs))
      subst he
      cases ex with
      | normal => exact out_zero (fun l' he => by cases he) ⟨.normal, s', rfl, hk, hs'⟩
      | ret => exact out_zero (fun l' he => by cases he) ⟨.ret, s', rfl, hk, hs'⟩
      | exit i =>
        simp only at hk
        by_cases hi : i = gotoX l
        · rw [if_pos hi] at hk
          obtain ⟨s0, hle, hk⟩ := hk
          obtain ⟨rest, h1, h2⟩ := tail l r s0 a' w' Q hr (fun x s2 g => by cases x <;> first | exact g.2 | exact g) hk (hle _ _ _ _ _ _ hs')
          exact .inr ⟨l, rest, by rw [hi, toExit_goto], h1, h2⟩
        · rw [if_neg hi] at hk
          refine out_zero (fun l' he => ?_) ⟨.exit i, s', rfl, hk, hs'⟩
          rcases toExit_cases i with ⟨_, h⟩ | ⟨m, hm, h⟩
          · rw [h] at he; cases he
          · rw [h] at he
            cases he
            cases hf : findLabel c l' with
            | none => rfl
            | some rest =>
              have := find_mem c l' rest hf
              rw [hl] at this
              simp only [List.mem_singleton] at this
              subst this
              exact absurd hm hi
    · rename_i l m hl
      split at hc <;> try (cases hc; done)
      rename_i hlm
      split at hc <;> try (cases hc; done)
      rename_i x r t hx hr ht
      cases hc
      refine wp_scope_out 1 (Code.wp_mono (fun e a' w' ⟨ex, s', he, hk, hs'⟩ => ?_) (AC.sound c x s _ a w hx h hs))
      subst he
      cases ex with
      | normal => exact out_zero (fun l' he => by cases he) ⟨.normal, s', rfl, hk, hs'⟩
      | ret => exact out_zero (fun l' he => by cases he) ⟨.ret, s', rfl, hk, hs'⟩
      | exit i =>
        simp only at hk
        by_cases hi : i = gotoX l
        · rw [if_pos hi] at hk
          obtain ⟨s0, hle, hk⟩ := hk
          obtain ⟨rest, h1, h2⟩ := tail l r s0 a' w' (fun x s' => match x with | .exit i => if i = gotoX m then ∃ s0, Le s' s0 ∧ t.wp P s0 (fun x s2 => match x with | .exit j => j < 1000000000 ∧ Q (.exit j) s2 | x => Q x s2) else Q (.exit i) s' | x => Q x s') hr (fun x s2 g => by
            cases x with
            | normal => exact g
            | ret => exact g
            | exit j =>
              obtain ⟨g1, g2⟩ := g
              simp only at g2
              rw [if_neg (by unfold gotoX; omega)] at g2
              exact g2) hk (hle _ _ _ _ _ _ hs')
          exact .inr ⟨l, rest, by rw [hi, toExit_goto], h1, h2⟩
        · rw [if_neg hi] at hk
          by_cases hj : i = gotoX m
          · rw [if_pos hj] at hk
            obtain ⟨s0, hle, hk⟩ := hk
            obtain ⟨rest, h1, h2⟩ := tail m t s0 a' w' Q ht (fun x s2 g => by cases x <;> first | exact g.2 | exact g) hk (hle _ _ _ _ _ _ hs')
            exact .inr ⟨m, rest, by rw [hj, toExit_goto], h1, h2⟩
          · rw [if_neg hj] at hk
            refine out_zero (fun l' he => ?_) ⟨.exit i, s', rfl, hk, hs'⟩
            rcases toExit_cases i with ⟨_, h⟩ | ⟨n, hn, h⟩
            · rw [h] at he; cases he
            · rw [h] at he
              cases he
              cases hf : findLabel c l' with
              | none => rfl
              | some rest =>
                have := find_mem c l' rest hf
                rw [hl] at this
                simp only [List.mem_cons, List.not_mem_nil, or_false] at this
                rcases this with rfl | rfl
                · exact absurd hn hi
                · exact absurd hn hj
    · cases hc
  | .label l, ac, s, Q, a, w, hc, h, hs => by
    cases hc
    exact wp_label ⟨.normal, s, rfl, h, hs⟩
  | .goto l, ac, s, Q, a, w, hc, h, hs => by
    cases hc
    exact wp_goto ⟨.exit (gotoX l), s, (toExit_goto l).symm, h, hs⟩
  | .refuse .., ac, s, Q, a, w, hc, h, hs => by cases hc
termination_by c => SizeOf.sizeOf c
decreasing_by all_goals simp_wf; all_goals (try omega)
end
end Go.Cab