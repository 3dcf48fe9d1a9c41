/- Part fifteen: from the program's operations to these, and one walk for every order. -/
import Derived.Test.YtjkckdiepdbfeaaCabN
set_option linter.unusedSimpArgs false
set_option linter.unusedVariables false
set_option linter.unusedSectionVars false
namespace Go.Cab
open Go.RowKit
open Classical

/-- The function's first parameter is an address. -/
def firstPtr (P : Program) (f : FuncId) : Bool :=
  match P.funcs[f]? with
  | some fn => match fn.params[0]? with
    | some t => match P.underlying t with | some (.pointer _) => true | _ => false
    | none => false
  | none => false

/-- It is handed lists, and answers what holds no address: its lists are lent. -/
def lends (P : Program) (f : FuncId) : Bool :=
  match P.funcs[f]? with
  | some fn => fn.params.toList.any (fun t => match P.underlying t with | some (.slice _) => true | _ => false) && (match fn.resultTypes.toList with
    | [t] => (match P.underlying t with
      | some .bool | some (.int _) => true
      | some (.array _ e) => (match P.underlying e with | some (.int _) => true | _ => false)
      | some (.struct fds) => fds.toList.all fun fd => match P.underlying fd.type with
        | some .bool | some (.int _) => true
        | some (.array _ e) => (match P.underlying e with | some (.int _) => true | _ => false)
        | _ => false
      | _ => false)
    | _ => false)
  | none => false

def aggEq (P : Program) (t : TypeId) : Bool := aggT P t && P.keyTypeAt 12 t && !P.eqGuardType P.depth t

def compCall (P : Program) (draw : Bool) (c : Call) : Option AI :=
  match c.callee with
  | .value (.func f) => if externFn P f "math/bits.Add64" then (match c.args.toList with
      | [x, y, z] => if okO x && okO y && okO z then some (.add64 x y z) else none
      | _ => none) else if callable P f then (match c.args.toList with
      | x :: xs => if firstPtr P f then (if (x :: xs).all okO then some (.icall f x xs) else none)
        else if (x :: xs).all okO then (if lends P f then some (.lcall f (x :: xs)) else if draw then some (.callv f (x :: xs)) else some (.call f (x :: xs))) else none
      | [] => if draw then some (.callv f []) else some (.call f [])) else none
  | .builtin .append => match c.args.toList, c.argTypes.toList with
    | [x, y], [t, t'] => if t' = t then (match P.underlying t with
      | some (.slice e) => match P.info? e, zeroOf P e with
        | some i, some (n, _) => if okO x && okO y then some (.append e n i.bytes x y) else none
        | _, _ => none
      | _ => none) else none
    | _, _ => none
  | _ => none

def compAI (P : Program) (draw : Bool) (op : Op) : Option AI :=
  match op with
  | .binOp .eql t x y u => if aggEq P t then (if okO x && okO y then some (.eqv t false x y) else none) else comp1 P (.binOp .eql t x y u)
  | .binOp .neq t x y u => if aggEq P t then (if okO x && okO y then some (.eqv t true x y) else none) else comp1 P (.binOp .neq t x y u)
  | .build t parts => match zeroOf P t with
    | some (_, z) => if buildOk P t z && parts.toList.all (fun p => okO p.2) then some (.build z parts.toList) else none
    | none => none
  | .buildSlice t n parts => match P.underlying t with
    | some (.slice e) => match zeroOf P e with
      | some (esz, z) => if n * esz ≤ 16777216 && parts.toList.all (fun p => okO p.2) then some (.bslice esz z n parts.toList) else none
      | none => none
    | _ => none
  | .nilCheck x => if okO x then some (.nilc x) else none
  | .makeSlice t l c => match P.underlying t with
    | some (.slice e) => match P.info? e, zeroOf P e with
      | some i, some (esz, z) => if okO l && okO c then some (.mkslice e esz i.bytes z l c) else none
      | _, _ => none
    | _ => none
  | .field t x f => match P.underlying t with
    | some (.struct fields) => match fields[f]? with
      | some fd => match szOf P fd.type with
        | some n => if (P.underlying fd.type).isSome && okO x && (aggT P fd.type || n == 1) then some (.fieldv fd.offset f n (aggT P fd.type) x) else none
        | none => none
      | none => none
    | _ => none
  | .call c => match compCall P draw c with
    | some ai => some ai
    | none => comp1 P (.call c)
  | op => comp1 P op

def compO (P : Program) (draw : Bool) (ops : Array Oper) (o : Oper) : Option AOp :=
  match compAI P draw o.op with
  | some ai => match o.guard with
    | none => some { dst := o.dst, guard := none, ai := ai }
    | some (j, want) => match (ops[j]?).bind (·.dst) with
      | some t => some { dst := o.dst, guard := some (t, want), ai := ai }
      | none => none
  | none => none

def compOs (P : Program) (draw : Bool) (ops : Array Oper) : List Oper → Option (List AOp)
  | [] => some []
  | o :: os => match compO P draw ops o, compOs P draw ops os with
    | some x, some xs => some (x :: xs)
    | _, _ => none

/-- The variable that an address is of. -/
def rootOf (ops : Array Oper) : Nat → Tmp → Tmp
  | 0, t => t
  | n + 1, t => match ops.toList.find? (fun o => o.dst == some t) with
    | some o => match o.op with
      | .fieldAddr _ (.tmp u) _ | .indexAddr _ (.tmp u) _ | .nilCheck (.tmp u) | .move (.tmp u) => rootOf ops n u
      | _ => t
    | none => t

/-- Neither waits for the other one, by an edge of its own. -/
def unordered (ops : Array Oper) (i j : Nat) : Bool :=
  i != j && (match ops[i]?, ops[j]? with
    | some a, some b => !(a.after.any fun e => Region.binds .any e && e.on == j) && !(b.after.any fun e => Region.binds .any e && e.on == i)
    | _, _ => false)

def slotOf (ops : Array Oper) (x : AOp) : Option Tmp :=
  match x.ai with
  | .alloc _ _ | .box _ _ => some (x.dst.getD 0)
  | .store _ (.tmp t) _ => some (rootOf ops 20 t)
  | _ => none

def annot1 (ops : Array Oper) (xs : List AOp) (i : Nat) (x : AOp) : AOp :=
  match x.ai.cls with
  | 1 => { x with forb := (List.range xs.length).filterMap fun j => if unordered ops i j then (xs[j]?).bind (slotOf ops) else none }
  | 2 => if (List.range xs.length).any fun j => unordered ops i j && ((xs[j]?).map (·.ai.cls == 1)).getD false then { x with own := (match x.ai with | .store .. => slotOf ops x | _ => none) } else x
  | _ => x

def annot (ops : Array Oper) (xs : List AOp) : List AOp := xs.mapIdx fun i x => annot1 ops xs i x

section
variable {P : Program} {w0 : World} {regs : List (Nat × Nat × Nat)} {St Imm : Nat → Nat → Prop} {s : AS} {a : Act} {w : World} {o : Oper} {K : AS → Prop} {Q : Exit → Act → World → Prop} {ro : Nat → Bool} {draw : Bool} {ai : AI}

theorem comp1_sound (hc : comp1 P o.op = some ai) (h : ai.go P ro s o.dst K) (hs : SRel w0 regs St s a w) : o.wp P a w (fun a' w' => ∃ s', K s' ∧ SRel w0 regs St s' a' w') Q := by
  cases hop : o.op <;> rw [hop] at hc <;> simp only [comp1] at hc <;> try (cases hc; done)
  case move x =>
    split at hc <;> try (cases hc; done)
    cases hc; exact sound_mov (.inl hop) (by assumption) h hs
  case assign x =>
    split at hc <;> try (cases hc; done)
    cases hc; exact sound_mov (.inr hop) (by assumption) h hs
  case pick c x y =>
    split at hc <;> try (cases hc; done)
    rename_i hok
    simp only [Bool.and_eq_true] at hok
    cases hc; exact sound_pick hop hok.1.1 hok.1.2 hok.2 h hs
  case alloc t =>
    split at hc <;> try (cases hc; done)
    rename_i hz
    cases hc; exact sound_alloc hop hz h hs
  case box t x =>
    split at hc <;> try (cases hc; done)
    split at hc <;> try (cases hc; done)
    cases hc; exact sound_box hop (by assumption) h hs
  case load t x =>
    split at hc <;> try (cases hc; done)
    rename_i hn
    split at hc <;> try (cases hc; done)
    rename_i hok
    simp only [Bool.and_eq_true, Bool.or_eq_true, beq_iff_eq] at hok
    cases hc; exact sound_load hop hok.1.2 hok.1.1 hn hok.2 h hs
  case store t x v =>
    split at hc <;> try (cases hc; done)
    rename_i hn
    split at hc <;> try (cases hc; done)
    rename_i hok
    simp only [Bool.and_eq_true] at hok
    cases hc; exact sound_store hop hok.1 hok.2 hn h hs
  case binOp op t x y u =>
    split at hc <;> try (cases hc; done)
    rename_i hok
    simp only [Bool.and_eq_true] at hok
    split at hc <;> cases hc
    · rename_i ht; exact sound_beq (neg := false) hop ht hok.1 hok.2 h hs
    · rename_i ht; exact sound_beq (neg := true) hop ht hok.1 hok.2 h hs
    · exact sound_bin hop hok.1 hok.2 h hs
  case unOp op t x =>
    split at hc <;> try (cases hc; done)
    cases hc; exact sound_un hop (by assumption) h hs
  case convert t d x =>
    split at hc <;> try (cases hc; done)
    rename_i ht hd
    split at hc <;> try (cases hc; done)
    cases hc; exact sound_cvt hop ht hd (by assumption) h hs
  case fieldAddr t x f =>
    split at hc <;> try (cases hc; done)
    rename_i ht
    split at hc <;> try (cases hc; done)
    rename_i hf
    split at hc <;> try (cases hc; done)
    rename_i hn
    split at hc <;> try (cases hc; done)
    rename_i hok
    simp only [Bool.and_eq_true, bne_iff_ne, ne_eq] at hok
    cases hc; exact sound_faddr hop ht hf hn hok.2 hok.1 h hs
  case indexAddr t x i =>
    split at hc <;> try (cases hc; done)
    · rename_i ht
      split at hc <;> try (cases hc; done)
      rename_i hn
      split at hc <;> try (cases hc; done)
      rename_i hok
      simp only [Bool.and_eq_true] at hok
      cases hc; exact sound_iaddrA hop ht hn hok.1 hok.2 h hs
    · rename_i ht
      split at hc <;> try (cases hc; done)
      rename_i hn
      split at hc <;> try (cases hc; done)
      rename_i hok
      simp only [Bool.and_eq_true] at hok
      cases hc; exact sound_iaddrS hop ht hn hok.1 hok.2 h hs
  case extract x i =>
    split at hc <;> try (cases hc; done)
    cases hc; exact sound_ext hop (by assumption) h hs
  case call c =>
    split at hc <;> try (cases hc; done)
    rename_i b x t hcal hargs htys
    split at hc <;> try (cases hc; done)
    rename_i hb
    subst hb
    split at hc <;> try (cases hc; done)
    · rename_i ht
      split at hc <;> try (cases hc; done)
      cases hc; exact sound_len (str := true) hop hcal hargs htys (by simpa using ht) (by assumption) h hs
    · rename_i e ht
      split at hc <;> try (cases hc; done)
      cases hc; exact sound_len (str := false) hop hcal hargs htys (by simpa using ⟨e, ht⟩) (by assumption) h hs
    · rename_i n e ht
      cases hc
      obtain ⟨Imm, h1, h2, h3⟩ := hs.ex
      have ha' : c.args = #[x] := by rw [← Array.toArray_toList (xs := c.args), hargs]
      have ht' : c.argTypes = #[t] := by rw [← Array.toArray_toList (xs := c.argTypes), htys]
      simp only [AI.go] at h
      refine upon_of_run (V := .int .i64 n) (w' := w) ?_ ⟨_, h, hs.put0 h1 h2 h3 (Rel.mkLit rfl)⟩
      simp [execOp, hop, resolve, hcal, invoke, builtin, Builtin.len_, ha', ht', run_underlying ht, goInt]

theorem compAI_sound (hc : compAI P draw o.op = some ai) (h : ai.go P ro s o.dst K) (hs : SRel w0 regs St s a w) : o.wp P a w (fun a' w' => ∃ s', K s' ∧ SRel w0 regs St s' a' w') Q := by
  unfold compAI at hc
  split at hc
  · rename_i t x y u hop
    split at hc
    · rename_i ha
      split at hc <;> try (cases hc; done)
      rename_i hok
      simp only [Bool.and_eq_true] at hok
      simp only [aggEq, Bool.and_eq_true, Bool.not_eq_true'] at ha
      cases hc; exact sound_eqv (neg := false) hop ha.1.2 ha.2 hok.1 hok.2 h hs
    · rw [← hop] at hc; exact comp1_sound hc h hs
  · rename_i t x y u hop
    split at hc
    · rename_i ha
      split at hc <;> try (cases hc; done)
      rename_i hok
      simp only [Bool.and_eq_true] at hok
      simp only [aggEq, Bool.and_eq_true, Bool.not_eq_true'] at ha
      cases hc; exact sound_eqv (neg := true) hop ha.1.2 ha.2 hok.1 hok.2 h hs
    · rw [← hop] at hc; exact comp1_sound hc h hs
  · rename_i t parts hop
    split at hc <;> try (cases hc; done)
    rename_i n z hz
    split at hc <;> try (cases hc; done)
    rename_i hok
    simp only [Bool.and_eq_true] at hok
    cases hc; exact sound_build hop hz hok.1 hok.2 h hs
  · rename_i t n parts hop
    split at hc <;> try (cases hc; done)
    rename_i e ht
    split at hc <;> try (cases hc; done)
    rename_i esz z hz
    split at hc <;> try (cases hc; done)
    rename_i hok
    simp only [Bool.and_eq_true, decide_eq_true_eq] at hok
    cases hc; exact sound_bslice hop ht hz hok.1 hok.2 h hs
  · rename_i x hop
    split at hc <;> try (cases hc; done)
    cases hc; exact sound_nilc hop (by assumption) h hs
  · rename_i t l c hop
    split at hc <;> try (cases hc; done)
    rename_i e ht
    split at hc <;> try (cases hc; done)
    rename_i i esz z hi hz
    split at hc <;> try (cases hc; done)
    rename_i hok
    simp only [Bool.and_eq_true] at hok
    cases hc; exact sound_mkslice hop ht hz hi rfl hok.1 hok.2 h hs
  · rename_i t x f hop
    split at hc <;> try (cases hc; done)
    rename_i fields ht
    split at hc <;> try (cases hc; done)
    rename_i fd hf
    split at hc <;> try (cases hc; done)
    rename_i n hn
    split at hc <;> try (cases hc; done)
    rename_i hok
    simp only [Bool.and_eq_true, Bool.or_eq_true, beq_iff_eq] at hok
    cases hc; exact sound_fieldv hop ht hf hok.1.1 hok.1.2 hok.2 hn h hs
  · rename_i c hop
    split at hc
    · rename_i ai' hcc
      cases hc
      unfold compCall at hcc
      split at hcc
      · rename_i f hcal
        split at hcc
        · rename_i hext
          split at hcc <;> try (cases hcc; done)
          rename_i x y z hargs
          split at hcc <;> try (cases hcc; done)
          cases hcc; exact sound_add64 hop hcal hargs hext (by assumption) h hs
        split at hcc <;> try (cases hcc; done)
        rename_i hcb
        split at hcc
        · rename_i x xs hargs
          split at hcc
          · split at hcc <;> try (cases hcc; done)
            cases hcc; exact sound_icall hop hcal hargs hcb (by assumption) h hs
          · split at hcc <;> try (cases hcc; done)
            rename_i hok
            have hal : c.args = (x :: xs).toArray := by rw [← Array.toArray_toList (xs := c.args), hargs]
            split at hcc
            · cases hcc; exact sound_lcall hop hcal hal hcb (by simpa using hok) (by simpa using h) hs
            split at hcc
            · cases hcc; exact sound_callv hop hcal hal hcb (by simpa using hok) (by simpa using h) hs
            · cases hcc; exact sound_call hop hcal hal hcb (by simpa using hok) (by simpa using h) hs
        · rename_i hargs
          have hal : c.args = ([] : List Operand).toArray := by rw [← Array.toArray_toList (xs := c.args), hargs]
          split at hcc
          · cases hcc; exact sound_callv hop hcal hal hcb (by simp) (by simpa using h) hs
          · cases hcc; exact sound_call hop hcal hal hcb (by simp) (by simpa using h) hs
      · rename_i hcal
        split at hcc <;> try (cases hcc; done)
        rename_i x y t t' hargs htys
        split at hcc <;> try (cases hcc; done)
        rename_i htt
        subst htt
        split at hcc <;> try (cases hcc; done)
        rename_i e ht
        split at hcc <;> try (cases hcc; done)
        rename_i i n z hi hz
        split at hcc <;> try (cases hcc; done)
        rename_i hok
        simp only [Bool.and_eq_true] at hok
        cases hcc
        obtain ⟨i', zv, hi', hzv, hn, _, hl, _⟩ := zeroOf_spec hz
        have : i' = i := by rw [hi] at hi'; exact (Option.some.inj hi').symm
        subst this
        exact sound_append hop hcal hargs htys ht hi hzv hn rfl (by rw [← Array.length_toList]; exact hl) hok.1 hok.2 h hs
      · cases hcc
    · rw [← hop] at hc; exact comp1_sound hc h hs
  · exact comp1_sound hc h hs

end
end Go.Cab
