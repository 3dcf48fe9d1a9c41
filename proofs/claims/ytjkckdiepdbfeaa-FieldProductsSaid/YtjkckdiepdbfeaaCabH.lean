/- Part eight: the operations that the program's own text comes to, and that they do what they say: those without calls. -/
import Derived.Test.YtjkckdiepdbfeaaCabG
set_option linter.unusedSimpArgs false
set_option linter.unusedVariables false
set_option linter.unusedSectionVars false
namespace Go.Cab
open Go.RowKit
open Classical

def okO : Operand → Bool
  | .const v => sc v
  | _ => true

def aggT (P : Program) (t : TypeId) : Bool :=
  match P.underlying t with
  | some (.struct _) | some (.array _ _) => true
  | _ => false

/-- An operation, read off the program. -/
def comp1 (P : Program) (op : Op) : Option AI :=
  match op with
  | .move x | .assign x => if okO x then some (.mov x) else none
  | .pick c a b => if okO c && okO a && okO b then some (.pick c a b) else none
  | .binOp o t x y _ => if okO x && okO y then (match o, P.underlying t with
      | .eql, some .bool => some (.beq false x y)
      | .neq, some .bool => some (.beq true x y)
      | o, _ => some (.bin o x y)) else none
  | .unOp o _ x => if okO x then some (.un o x) else none
  | .convert s d x => match P.underlying s, P.underlying d with
    | some (.int _), some (.int k) => if okO x then some (.cvt k x) else none
    | _, _ => none
  | .alloc t => match zeroOf P t with | some (n, z) => some (.alloc n z) | none => none
  | .box t x => match szOf P t with | some n => if okO x then some (.box n x) else none | none => none
  | .load t x => match szOf P t with
    | some n => if (P.underlying t).isSome && okO x && (aggT P t || n == 1) then some (.load (aggT P t) n x) else none
    | none => none
  | .store t x v => match szOf P t with | some n => if okO x && okO v then some (.store n x v) else none | none => none
  | .fieldAddr s x f => match P.underlying s with
    | some (.struct fields) => match fields[f]? with
      | some fd => match szOf P fd.type with | some n => if okO x && n != 0 then some (.faddr fd.offset f x) else none | none => none
      | none => none
    | _ => none
  | .indexAddr t x i => match P.underlying t with
    | some (.array n e) => match szOf P e with | some k => if okO x && okO i then some (.iaddrA n k x i) else none | none => none
    | some (.slice e) => match szOf P e with | some k => if okO x && okO i then some (.iaddrS k x i) else none | none => none
    | _ => none
  | .extract x i => if okO x then some (.ext x i) else none
  | .call c => match c.callee, c.args.toList, c.argTypes.toList with
    | .builtin b, [x], [t] => if b = .len then (match P.underlying t with
      | some .string => if okO x then some (.len true x) else none
      | some (.slice _) => if okO x then some (.len false x) else none
      | some (.array n _) => some (.mov (.const (.int .i64 n)))
      | _ => none) else none
    | _, _, _ => none
  | _ => none

/-- The list that is appended to: nil, or one of the call's own. -/
noncomputable def AS.rowOf (s : AS) (e : TypeId) (esz : Nat) : AV → Option (Option Nat × List AV × Nat)
  | .lit (.slice none 0 0) => some (none, [], 0)
  | .own b V => match s.blk b with
    | some (.row e' V' esz' els sl) => if V' = V ∧ esz' = esz ∧ e' = e then some (some b, els, sl) else none
    | _ => none
  | _ => none

def hpDrop (hp : List (Option Blk)) : Option Nat → List (Option Blk)
  | some b => hp.set b none
  | none => hp

/-- What a call answers: a value, or a list of its own. -/
inductive Res where
  | val (v : AV)
  | row (e : TypeId) (esz : Nat) (els : List AV)

def ResOk (w : World) (Imm : Nat → Nat → Prop) (w' : World) (V : Value) : Res → Prop
  | .val v => Rel Imm w' v V ∧ v ≠ .any
  | .row e esz els => sc V = true ∧ ∃ cs, R Imm w' (.arr esz els) cs ∧ w'.ownsRow w.heap.size e esz V els.length cs ∧ ∀ g, V.ownBlock = some g → ∀ o, ¬ Imm g o

def ArgsOk (St : Nat → Nat → Prop) (w : World) : List AV → List Value → Prop
  | [], [] => True
  | v :: vs, V :: Vs => Rel St w v V ∧ ArgsOk St w vs Vs
  | _, _ => False

/-- THE CONTRACT of a call that makes new blocks at most: with these arguments it answers this. -/
def PCall (P : Program) (f : FuncId) (args : List AV) (r : Res) : Prop :=
  ∀ (w : World) (St : Nat → Nat → Prop) (Vs : List Value), (∀ b o, St b o → (w.cell? ⟨b, o, none⟩).isSome = true) → ArgsOk St w args Vs →
    Calls P f Vs.toArray w fun e w' => ∃ V Imm, e = .returned V ∧ Fr [] w w' ∧ ImmOk w St Imm w' ∧ ResOk w Imm w' V r

/-- THE CONTRACT of a call whose first argument is the address of a variable, which it may turn. -/
def ICall (P : Program) (f : FuncId) (n : Nat) (u : AV) (args : List AV) (r : AV) (u' : AV) : Prop :=
  ∀ (w : World) (St : Nat → Nat → Prop) (l : Nat × Nat) (Vs : List Value), (∀ b o, St b o → (w.cell? ⟨b, o, none⟩).isSome = true) → Blk.ok St w (.box l n u) → ArgsOk St w (.ptr 0 l 0 [] :: args) Vs →
    Calls P f Vs.toArray w fun e w' => ∃ V Imm, e = .returned V ∧ Fr [(l.1, l.2, n)] w w' ∧ ImmOk w St Imm w' ∧ Rel Imm w' r V ∧ r ≠ .any ∧ Blk.ok Imm w' (.box l n u')

/-- Equal, or not: of a type whose values are compared part by part. -/
def EqAV (P : Program) (t : TypeId) (x y : AV) (b : Bool) : Prop :=
  ∀ (Imm : Nat → Nat → Prop) (w : World) (cs cs' : List Value), R Imm w x cs → R Imm w y cs' → ∃ D D' la lb, (asVal x cs).formed P t = true ∧ (asVal y cs').formed P t = true ∧ P.keyLits D t cs = some la ∧ P.keyLits D' t cs' = some lb ∧ (b = true ↔ la = lb)

/-- A row is sealed: from now on its elements are written no more, and it may be handed on. -/
noncomputable def AS.seal1 (s : AS) (b : Nat) : AS :=
  match s.blk b with
  | some (.row e V esz els _) => s.setBlk b (some (.row e V esz els els.length))
  | _ => s

noncomputable def AS.seals (s : AS) : List Nat → AS
  | [] => s
  | b :: bs => (s.seal1 b).seals bs

/-- The address of a variable, or of a part of one: the place, the part's path, how many cells, what it is. -/
noncomputable def AS.part (s : AS) : AV → Option (Nat × Blk × List Nat × Nat × AV)
  | .ptr b l off p => match s.blk b with
    | some (.box l' n v) => if l' = l then match v.nav 0 n p with
      | some (o, m, u) => if o = off ∧ m ≠ 0 then some (b, .box l' n v, p, m, u) else none
      | none => none else none
    | _ => none
  | _ => none

/-- The place of a temporary's block. -/
def AS.slot (s : AS) (dst : Option Tmp) : Nat := s.nr + dst.getD 0

/-- What an operation does. 'K': what is asked of the state behind it. -/
noncomputable def AI.go (P : Program) (ro : Nat → Bool) (s : AS) (dst : Option Tmp) (K : AS → Prop) : AI → Prop
  | .mov x => K (s.put dst (s.ev x))
  | .pick c a b => match s.ev c with
    | .lit (.bool t) => K (s.put dst (if t then s.ev a else s.ev b))
    | _ => False
  | .bin op x y => match s.ev x, s.ev y with
    | .lit a, .lit b => match binVal op a b with
      | some v => K (s.put dst (.lit v))
      | none => False
    | _, _ => False
  | .beq neg x y => match s.ev x, s.ev y with
    | .lit (.bool p), .lit (.bool q) => K (s.put dst (.lit (.bool (if neg then !(p == q) else p == q))))
    | _, _ => False
  | .un op x => match s.ev x with
    | .lit a => match unVal op a with
      | some v => K (s.put dst (.lit v))
      | none => False
    | _ => False
  | .cvt k x => match s.ev x with
    | .lit (.int _ n) => K (s.put dst (.lit (.int k (k.wrap n))))
    | _ => False
  | .alloc n z => ∀ l, K { s.put dst (.ptr (s.slot dst) l 0 []) with hp := s.hp.set (s.slot dst) (some (.box l n z)) }
  | .box n x => (s.ev x).isTup = false ∧ (s.ev x).sz = n ∧ ∀ l, K { s.put dst (.ptr (s.slot dst) l 0 []) with hp := s.hp.set (s.slot dst) (some (.box l n (s.ev x))) }
  | .load agg n x => match s.peek ro (s.ev x) with
    | some (m, u) => m = n ∧ u.isAgg = agg ∧ u.isTup = false ∧ K (s.put dst u)
    | none => False
  | .store n x v => match s.poke n (s.ev v) (s.ev x) with
    | some s' => K (s'.put dst .any)
    | none => False
  | .faddr off idx x => match AS.fieldAddr off idx (s.ev x) with
    | some v => K (s.put dst v)
    | none => False
  | .iaddrA ln esz x i => match s.ev i with
    | .lit (.int _ n) => match AS.idxAddr ln esz n (s.ev x) with
      | some v => K (s.put dst v)
      | none => False
    | _ => False
  | .iaddrS esz x i => match s.ev i with
    | .lit (.int _ n) => match s.elemAddr ro esz n (s.ev x) with
      | some v => K (s.put dst v)
      | none => False
    | _ => False
  | .len str x => match s.lenOf ro str (s.ev x) with
    | some n => K (s.put dst (.lit (.int .i64 n)))
    | none => False
  | .ext x i => match s.ev x with
    | .tup vs => match vs[i]? with
      | some v => K (s.put dst v)
      | none => False
    | _ => False
  | .nilc x => match s.ev x with
    | .ptr b l off p => K (s.put dst (.ptr b l off p))
    | .cptr n v => K (s.put dst (.cptr n v))
    | _ => False
  | .add64 x y c => match s.ev x, s.ev y, s.ev c with
    | .lit (.int .u64 a), .lit (.int .u64 b), .lit (.int .u64 d) => if 0 ≤ a ∧ 0 ≤ b ∧ 0 ≤ d ∧ d ≤ 1 then
        K (s.put dst (.tup [.lit (.int .u64 ((a + b + d) % 18446744073709551616)), .lit (.int .u64 ((a + b + d) / 18446744073709551616))])) else False
    | _, _, _ => False
  | .build z parts => match fillAV s z parts with
    | some v => K (s.put dst v)
    | none => False
  | .bslice esz z n parts => match fillAV s (.arr esz (List.replicate n z)) parts with
    | some (.arr _ els) => K (s.put dst (.sl esz els))
    | _ => False
  | .append e esz bytes x y => match s.rowOf e esz (s.ev x), s.coe ro (s.ev y) with
    | some (ob, els, sl), .sl esz' ys => esz' = esz ∧ els.length + ys.length ≤ maxLen ∧ (els.length + ys.length) * bytes ≤ 140737488355328 ∧
        ∀ V, K { s.put dst (.own (s.slot dst) V) with hp := (hpDrop s.hp ob).set (s.slot dst) (some (.row e V esz (els ++ ys) sl)) }
    | _, _ => False
  | .mkslice e esz bytes z l c => match s.ev l, s.ev c with
    | .lit (.int _ n), .lit (.int _ m) => 0 ≤ n ∧ n ≤ m ∧ m.toNat ≤ maxLen ∧ (bytes : Int) * m ≤ 140737488355328 ∧
        ∀ V, K { s.put dst (.own (s.slot dst) V) with hp := s.hp.set (s.slot dst) (some (.row e V esz (List.replicate n.toNat z) 0)) }
    | _, _ => False
  | .eqv t neg x y => ∃ b, EqAV P t (s.ev x) (s.ev y) b ∧ (s.ev x).isAgg = true ∧ (s.ev y).isAgg = true ∧ K (s.put dst (.lit (.bool (if neg then !b else b))))
  | .call f args => ∃ (bs : List Nat) (r : Res), PCall P f (args.map fun x => (s.seals bs).coe ro ((s.seals bs).ev x)) r ∧ (match r with
    | .val v => K ((s.seals bs).put dst v)
    | .row e esz els => ∀ V, K { (s.seals bs).put dst (.own (s.slot dst) V) with hp := (s.seals bs).hp.set (s.slot dst) (some (.row e V esz els 0)) })
  | .callv f args => ∃ v, PCall P f (args.map fun x => s.coe ro (s.ev x)) (.val v) ∧ K (s.put dst v)
  | .lcall f args => ∃ v, v.plain = true ∧ PCall P f (args.map fun x => s.lend ro (s.ev x)) (.val v) ∧ K (s.put dst v)
  | .icall f x args => match s.part (s.ev x) with
    | some (b, blk, p, m, u) => ∃ r u', ICall P f m u (args.map fun x => s.coe ro (s.ev x)) r u' ∧ u'.isTup = false ∧ K ((s.setBlk b (some (blk.upd p u'))).put dst r)
    | none => False
  | .fieldv off idx n agg x => match s.ev x with
    | .st ns fs => (ns.take idx).sum = off ∧ ns[idx]? = some n ∧ (match fs[idx]? with
      | some v => v.isAgg = agg ∧ v.isTup = false ∧ K (s.put dst v)
      | none => False)
    | _ => False

section
variable {P : Program} {w0 : World} {regs : List (Nat × Nat × Nat)} {St Imm : Nat → Nat → Prop} {s : AS} {a : Act} {w : World} {o : Oper} {K : AS → Prop} {Q : Exit → Act → World → Prop} {ro : Nat → Bool}

theorem okO_sc {x : Operand} (h : okO x = true) : ∀ v, x = .const v → sc v = true := fun v e => by subst e; exact h

theorem upon_of_run {V : Value} {w' : World} {N : Act → World → Prop} (hr : (execOp a.eval o).run P w = .ok (.value V) w') (h : N (a.put o.dst V) w') : o.wp P a w N Q := by
  unfold Oper.wp Oper.upon
  rw [hr]; exact h

theorem upon_of_skip {w' : World} {N : Act → World → Prop} (hr : (execOp a.eval o).run P w = .ok .skip w') (h : N (a.put o.dst undef) w') : o.wp P a w N Q := by
  unfold Oper.wp Oper.upon
  rw [hr]; exact h

theorem run_isAgg {t : TypeId} (h : (P.underlying t).isSome = true) : (isAgg t).run P w = .ok (aggT P t) w := by
  cases hu : P.underlying t with
  | none => simp [hu] at h
  | some d => cases d <;> simp [isAgg, run_underlying hu, aggT, hu]

theorem run_sizeOf' {t : TypeId} {n : Nat} (h : szOf P t = some n) : (sizeOf t).run P w = .ok n w := by
  unfold szOf at h
  cases hi : P.info? t with
  | none => simp [hi] at h
  | some i => simp [hi] at h; simp [sizeOf, typeInfo, hi, h]

theorem sound_mov {x : Operand} (ho : o.op = .move x ∨ o.op = .assign x) (hx : okO x = true) (h : AI.go P ro s o.dst K (.mov x)) (hs : SRel w0 regs St s a w) :
    o.wp P a w (fun a' w' => ∃ s', K s' ∧ SRel w0 regs St s' a' w') Q := by
  obtain ⟨Imm, h1, h2, h3⟩ := hs.ex
  simp only [AI.go] at h
  exact upon_of_run (V := a.eval x) (w' := w) (by rcases ho with ho | ho <;> simp [execOp, ho]) ⟨_, h, hs.put0 h1 h2 h3 (h2.eval x (okO_sc hx))⟩

theorem sound_pick {c x y : Operand} (ho : o.op = .pick c x y) (hc : okO c = true) (hx : okO x = true) (hy : okO y = true) (h : AI.go P ro s o.dst K (.pick c x y)) (hs : SRel w0 regs St s a w) :
    o.wp P a w (fun a' w' => ∃ s', K s' ∧ SRel w0 regs St s' a' w') Q := by
  obtain ⟨Imm, h1, h2, h3⟩ := hs.ex
  have hC := h2.eval c (okO_sc hc)
  simp only [AI.go] at h
  split at h
  · rename_i t ht
    rw [ht] at hC
    obtain ⟨e, _⟩ := hC.lit
    refine upon_of_run (V := if t then a.eval x else a.eval y) (w' := w) (by simp [execOp, ho, e, asBool]) ⟨_, h, hs.put0 h1 h2 h3 ?_⟩
    cases t
    · exact h2.eval y (okO_sc hy)
    · exact h2.eval x (okO_sc hx)
  · exact h.elim

theorem binVal_sc {op : BinOp} {p q v : Value} (hv : binVal op p q = some v) : sc v = true := by
  unfold binVal at hv
  split at hv
  · cases op <;> simp only [] at hv <;> (try split at hv) <;> (try split at hv) <;> simp_all <;> (try (subst hv; rfl)) <;> (try (obtain ⟨_, hv⟩ := hv; subst hv; rfl))
  · cases op <;> simp only [] at hv <;> (try split at hv) <;> simp_all <;> (try (subst hv; rfl)) <;> (try (obtain ⟨_, hv⟩ := hv; subst hv; rfl))
  · cases hv

theorem sound_bin {op : BinOp} {t u : TypeId} {x y : Operand} (ho : o.op = .binOp op t x y u) (hx : okO x = true) (hy : okO y = true)
    (h : AI.go P ro s o.dst K (.bin op x y)) (hs : SRel w0 regs St s a w) : o.wp P a w (fun a' w' => ∃ s', K s' ∧ SRel w0 regs St s' a' w') Q := by
  obtain ⟨Imm, h1, h2, h3⟩ := hs.ex
  have hX := h2.eval x (okO_sc hx)
  have hY := h2.eval y (okO_sc hy)
  simp only [AI.go] at h
  split at h
  · rename_i p q hp1 hq1
    rw [hp1] at hX; rw [hq1] at hY
    split at h
    · rename_i v hv
      obtain ⟨e1, _⟩ := hX.lit
      obtain ⟨e2, _⟩ := hY.lit
      have hrun := run_binVal (P := P) (t := t) (X := x) (Y := y) (w := w) hv
      refine upon_of_run (V := v) (w' := w) ?_ ⟨_, h, hs.put0 h1 h2 h3 (Rel.mkLit (binVal_sc hv))⟩
      simp only [execOp, ho, e1, e2]
      simp only [Sem.run_bind] at hrun ⊢
      rw [hrun]; rfl
    · exact h.elim
  · exact h.elim

theorem sound_beq {t u : TypeId} {neg : Bool} {x y : Operand} (ho : o.op = .binOp (if neg then .neq else .eql) t x y u) (ht : P.underlying t = some .bool) (hx : okO x = true) (hy : okO y = true)
    (h : AI.go P ro s o.dst K (.beq neg x y)) (hs : SRel w0 regs St s a w) : o.wp P a w (fun a' w' => ∃ s', K s' ∧ SRel w0 regs St s' a' w') Q := by
  obtain ⟨Imm, h1, h2, h3⟩ := hs.ex
  have hX := h2.eval x (okO_sc hx)
  have hY := h2.eval y (okO_sc hy)
  simp only [AI.go] at h
  split at h
  · rename_i p q hp1 hq1
    rw [hp1] at hX; rw [hq1] at hY
    obtain ⟨e1, _⟩ := hX.lit
    obtain ⟨e2, _⟩ := hY.lit
    refine upon_of_run (V := _) (w' := w) ?_ ⟨_, h, hs.put0 h1 h2 h3 (Rel.mkLit rfl)⟩
    have r1 := run_eql_bool (P := P) w t p q ht
    have r2 := run_neq_bool (P := P) w t p q ht
    cases neg <;> simp [execOp, ho, e1, e2, eqGuard, r1, r2]
  · exact h.elim

theorem sound_un {op : UnOp} {t : TypeId} {x : Operand} (ho : o.op = .unOp op t x) (hx : okO x = true)
    (h : AI.go P ro s o.dst K (.un op x)) (hs : SRel w0 regs St s a w) : o.wp P a w (fun a' w' => ∃ s', K s' ∧ SRel w0 regs St s' a' w') Q := by
  obtain ⟨Imm, h1, h2, h3⟩ := hs.ex
  have hX := h2.eval x (okO_sc hx)
  simp only [AI.go] at h
  split at h
  · rename_i p hp1
    rw [hp1] at hX
    split at h
    · rename_i v hv
      obtain ⟨e1, _⟩ := hX.lit
      have hrun := run_unVal (P := P) (w := w) hv
      refine upon_of_run (V := v) (w' := w) (by simp [execOp, ho, e1, hrun]) ⟨_, h, hs.put0 h1 h2 h3 (Rel.mkLit ?_)⟩
      unfold unVal at hv
      split at hv <;> simp at hv <;> subst hv <;> rfl
    · exact h.elim
  · exact h.elim

theorem sound_cvt {d t : TypeId} {k k' : IntKind} {x : Operand} (ho : o.op = .convert t d x) (ht : P.underlying t = some (.int k')) (hd : P.underlying d = some (.int k)) (hx : okO x = true)
    (h : AI.go P ro s o.dst K (.cvt k x)) (hs : SRel w0 regs St s a w) : o.wp P a w (fun a' w' => ∃ s', K s' ∧ SRel w0 regs St s' a' w') Q := by
  obtain ⟨Imm, h1, h2, h3⟩ := hs.ex
  have hX := h2.eval x (okO_sc hx)
  simp only [AI.go] at h
  split at h
  · rename_i n1 n hp1
    rw [hp1] at hX
    obtain ⟨e1, _⟩ := hX.lit
    exact upon_of_run (V := .int k (k.wrap n)) (w' := w) (by simp [execOp, ho, e1, convert, run_underlying ht, run_underlying hd, Conv.intToInt]) ⟨_, h, hs.put0 h1 h2 h3 (Rel.mkLit rfl)⟩
  · exact h.elim

theorem sound_alloc {t : TypeId} {n : Nat} {z : AV} (ho : o.op = .alloc t) (hz : zeroOf P t = some (n, z))
    (h : AI.go P ro s o.dst K (.alloc n z)) (hs : SRel w0 regs St s a w) : o.wp P a w (fun a' w' => ∃ s', K s' ∧ SRel w0 regs St s' a' w') Q := by
  obtain ⟨Imm, h1, h2, h3⟩ := hs.ex
  obtain ⟨i, v, hi, hzv, hn, ht, hl, hR⟩ := zeroOf_spec hz
  simp only [AI.go] at h
  have := SRel.newBox (dst := o.dst) hs h1 h2 h3 (hR Imm w) ht t (s.slot o.dst)
  refine upon_of_run (V := .pointer (some ⟨w.heap.size, 0, none⟩)) (w' := w.alloc (.cells v.cells t)) ?_ ⟨_, h (w.heap.size, 0), ?_⟩
  · simp [execOp, ho, Instr.alloc, zeroValue, typeInfo, hi, hzv, newVar, newRow]
  · rw [hl] at this; simpa using this

theorem sound_box {t : TypeId} {n : Nat} {x : Operand} (ho : o.op = .box t x) (hx : okO x = true)
    (h : AI.go P ro s o.dst K (.box n x)) (hs : SRel w0 regs St s a w) : o.wp P a w (fun a' w' => ∃ s', K s' ∧ SRel w0 regs St s' a' w') Q := by
  obtain ⟨Imm, h1, h2, h3⟩ := hs.ex
  have hX := h2.eval x (okO_sc hx)
  simp only [AI.go] at h
  obtain ⟨ht, hn, h⟩ := h
  rcases hX with hX | ⟨cs, hX, e⟩
  · rw [hX] at ht; simp [AV.isTup] at ht
  have := SRel.newBox (dst := o.dst) hs h1 h2 h3 hX ht t (s.slot o.dst)
  refine upon_of_run (V := .pointer (some ⟨w.heap.size, 0, none⟩)) (w' := w.alloc (.cells cs.toArray t)) ?_ ⟨_, h (w.heap.size, 0), ?_⟩
  · simp [execOp, ho, Instr.box, newVar, newRow, e, hX.cells ht]
  · rw [hX.len ht, hn] at this; exact this

theorem sound_load {t : TypeId} {n : Nat} {x : Operand} (ho : o.op = .load t x) (hx : okO x = true) (ht : (P.underlying t).isSome = true) (hn : szOf P t = some n) (h1n : aggT P t = true ∨ n = 1)
    (h : AI.go P ro s o.dst K (.load (aggT P t) n x)) (hs : SRel w0 regs St s a w) : o.wp P a w (fun a' w' => ∃ s', K s' ∧ SRel w0 regs St s' a' w') Q := by
  obtain ⟨Imm, h1, h2, h3⟩ := hs.ex
  have hX := h2.eval x (okO_sc hx)
  simp only [AI.go] at h
  split at h
  · rename_i m u hp
    obtain ⟨rfl, hagg, htup, hK⟩ := h
    obtain ⟨b, off, cs, e, hR, hl, hsc, hcell⟩ := peek_sound hp hX h3
    refine upon_of_run (V := asVal u cs) (w' := w) ?_ ⟨_, hK, hs.put0 h1 h2 h3 (.inr ⟨cs, hR, rfl⟩)⟩
    simp only [execOp, ho, Instr.loadAt, e, Instr.sureAddr, loadVar]
    have hcs : (loadCells ⟨b, off, none⟩ m).run P w = .ok cs.toArray w := by
      have := run_loadCells_list (P := P) (w := w) ⟨b, off, none⟩ cs (fun j v hj => by rw [add_none]; exact hcell j v hj)
      rw [hl] at this
      simpa using this
    cases hA : aggT P t with
    | true =>
      rw [hA] at hagg
      simp [run_isAgg ht, hA, run_sizeOf' hn, hcs]
      cases u <;> simp [AV.isAgg] at hagg <;> rfl
    | false =>
      have hm1 : m = 1 := by rcases h1n with h' | h' <;> simp_all
      rw [hA] at hagg
      match cs, hl with
      | [y], _ =>
        have hy := hcell 0 y (by simp)
        simp only [Nat.add_zero] at hy
        simp [run_isAgg ht, hA, hy]
        cases u <;> simp [AV.isAgg, AV.isTup] at hagg htup <;> rfl
      | [], h0 => simp at h0; omega
      | _ :: _ :: _, h0 => simp at h0; omega
  · exact h.elim

theorem sound_store {t : TypeId} {n : Nat} {x v : Operand} (ho : o.op = .store t x v) (hx : okO x = true) (hv : okO v = true) (hn : szOf P t = some n)
    (h : AI.go P ro s o.dst K (.store n x v)) (hs : SRel w0 regs St s a w) : o.wp P a w (fun a' w' => ∃ s', K s' ∧ SRel w0 regs St s' a' w') Q := by
  obtain ⟨Imm, h1, h2, h3⟩ := hs.ex
  have hX := h2.eval x (okO_sc hx)
  have hV := h2.eval v (okO_sc hv)
  simp only [AI.go] at h
  split at h
  · rename_i s' hp
    obtain ⟨b, off, cs, e, hcells, hl, hsc, hex, htm, hnr, hI', hT', hH', hF'⟩ := poke_sound hp hX hV h3 h1 h2 hs.frame
    refine upon_of_skip (w' := setCells b off cs w) ?_ ⟨_, h, ?_⟩
    · simp only [execOp, ho, Instr.storeAt, e, Instr.sureAddr, storeVar]
      have hr := run_storeCells (P := P) b off cs 0 w hsc (fun j hj => by simpa using hex j (by omega))
      simp [run_sizeOf' hn, hcells, hl, hr]
    · refine ⟨by rw [aput_defers]; exact hs.defers, by rw [aput_size, put_len, htm]; exact hs.tsize, hF', Imm, hI', ?_, by rw [put_hp]; exact hH'⟩
      have hts : a.tmps.size = s'.tm.length := by rw [htm]; exact hs.tsize
      have hT'' : TmOk Imm (setCells b off cs w) s'.tm a.tmps := by rw [htm]; exact hT'
      exact hT''.put hts (fun _ _ h => h) (fun _ _ _ => rfl) (.inr (.inl rfl))
  · exact h.elim

theorem sound_faddr {t : TypeId} {fields : Array Field} {fd : Field} {f n : Nat} {x : Operand} (ho : o.op = .fieldAddr t x f) (ht : P.underlying t = some (.struct fields)) (hf : fields[f]? = some fd) (hn : szOf P fd.type = some n) (hn0 : n ≠ 0) (hx : okO x = true)
    (h : AI.go P ro s o.dst K (.faddr fd.offset f x)) (hs : SRel w0 regs St s a w) : o.wp P a w (fun a' w' => ∃ s', K s' ∧ SRel w0 regs St s' a' w') Q := by
  obtain ⟨Imm, h1, h2, h3⟩ := hs.ex
  have hX := h2.eval x (okO_sc hx)
  simp only [AI.go] at h
  split at h
  · rename_i v hv
    have key : ∃ b off, a.eval x = .pointer (some ⟨b, off, none⟩) ∧ Rel Imm w v (.pointer (some ⟨b, off + fd.offset, none⟩)) := by
      unfold AS.fieldAddr at hv
      split at hv
      · rename_i b l off p hp
        rw [hp] at hX
        simp only [Option.some.injEq] at hv
        subst hv
        rcases hX with hX | ⟨cs, hX, e⟩
        · cases hX
        cases hX
        exact ⟨l.1, l.2 + off, by rw [e]; rfl, .inr ⟨_, .ptr _ _ _ _, by simp [asVal, Nat.add_assoc]⟩⟩
      · rename_i m ns fs hp
        rw [hp] at hX
        split at hv <;> try (cases hv; done)
        rename_i hsum
        split at hv <;> try (cases hv; done)
        rename_i k f' hk hf'
        simp only [Option.some.injEq] at hv
        subst hv
        rcases hX with hX | ⟨cs, hX, e⟩
        · cases hX
        cases hX with
        | cptr _ _ cs b off hR hl hsc hat =>
          obtain ⟨pre, c, post, e', hpre, hc, hRf, hscf, _⟩ := hR.field _ _ _ hk hf'
          refine ⟨b, off, by rw [e]; rfl, .inr ⟨_, .cptr k f' c b (off + fd.offset) hRf hc hscf (fun i y hy => ?_), rfl⟩⟩
          have := hat (pre.length + i) y (by rw [e', List.append_assoc, List.getElem?_append_right (by omega), Nat.add_sub_cancel_left, List.getElem?_append_left (List.getElem?_eq_some_iff.1 hy).1]; exact hy)
          rw [hpre, hsum] at this
          rwa [← Nat.add_assoc] at this
      · cases hv
    obtain ⟨b, off, e, hrel⟩ := key
    refine upon_of_run (V := .pointer (some ⟨b, off + fd.offset, none⟩)) (w' := w) ?_ ⟨_, h, hs.put0 h1 h2 h3 hrel⟩
    simp [execOp, ho, Instr.fieldAt, run_underlying ht, hf, e, Instr.sureAddr, fieldPlace, run_sizeOf' hn, hn0, add_none]
  · exact h.elim

theorem sound_iaddrA {t e : TypeId} {len esz : Nat} {x i : Operand} (ho : o.op = .indexAddr t x i) (ht : P.underlying t = some (.array len e)) (hn : szOf P e = some esz) (hx : okO x = true) (hi : okO i = true)
    (h : AI.go P ro s o.dst K (.iaddrA len esz x i)) (hs : SRel w0 regs St s a w) : o.wp P a w (fun a' w' => ∃ s', K s' ∧ SRel w0 regs St s' a' w') Q := by
  obtain ⟨Imm, h1, h2, h3⟩ := hs.ex
  have hX := h2.eval x (okO_sc hx)
  have hI := h2.eval i (okO_sc hi)
  simp only [AI.go] at h
  split at h <;> try exact h.elim
  rename_i k n hin
  rw [hin] at hI
  obtain ⟨ei, _⟩ := hI.lit
  split at h <;> try exact h.elim
  rename_i v hv
  have key : (0 ≤ n ∧ n < (len : Int)) ∧ ∃ b off, a.eval x = .pointer (some ⟨b, off, none⟩) ∧ Rel Imm w v (.pointer (some ⟨b, off + n.toNat * esz, none⟩)) := by
    unfold AS.idxAddr at hv
    split at hv
    · rename_i b l off p hp
      rw [hp] at hX
      split at hv <;> try (cases hv; done)
      rename_i hb
      simp only [Option.some.injEq] at hv
      subst hv
      rcases hX with hX | ⟨cs, hX, e⟩
      · cases hX
      cases hX
      exact ⟨hb, l.1, l.2 + off, by rw [e]; rfl, .inr ⟨_, .ptr _ _ _ _, by simp [asVal, Nat.add_assoc]⟩⟩
    · rename_i m esz' els hp
      rw [hp] at hX
      split at hv <;> try (cases hv; done)
      rename_i hb
      obtain ⟨rfl, hb1, hb2⟩ := hb
      cases hel : els[n.toNat]? with
      | none => simp [hel] at hv
      | some el =>
        simp only [hel, Option.map_some, Option.some.injEq] at hv
        subst hv
        rcases hX with hX | ⟨cs, hX, e⟩
        · cases hX
        cases hX with
        | cptr _ _ cs b off hR hl hsc hat =>
          obtain ⟨pre, c, post, e', hpre, hc, hRf, hscf, _⟩ := hR.elem _ _ hel
          refine ⟨⟨hb1, hb2⟩, b, off, by rw [e]; rfl, .inr ⟨_, .cptr esz' el c b (off + n.toNat * esz') hRf hc hscf (fun i y hy => ?_), rfl⟩⟩
          have := hat (pre.length + i) y (by rw [e', List.append_assoc, List.getElem?_append_right (by omega), Nat.add_sub_cancel_left, List.getElem?_append_left (List.getElem?_eq_some_iff.1 hy).1]; exact hy)
          rw [hpre] at this
          rwa [← Nat.add_assoc] at this
    · cases hv
  obtain ⟨hb, b, off, e', hrel⟩ := key
  refine upon_of_run (V := .pointer (some ⟨b, off + n.toNat * esz, none⟩)) (w' := w) ?_ ⟨_, h, hs.put0 h1 h2 h3 hrel⟩
  simp [execOp, ho, Instr.indexAt, run_underlying ht, e', ei, asIntOf, Instr.sureAddr, hb.1, hb.2, run_sizeOf' hn, add_none]

theorem ownBlock_slice {g n cap : Nat} : (Value.slice (some ⟨g, 0, none⟩) n cap).ownBlock = some g := rfl

theorem sound_iaddrS {t e : TypeId} {esz : Nat} {x i : Operand} (ho : o.op = .indexAddr t x i) (ht : P.underlying t = some (.slice e)) (hn : szOf P e = some esz) (hx : okO x = true) (hi : okO i = true)
    (h : AI.go P ro s o.dst K (.iaddrS esz x i)) (hs : SRel w0 regs St s a w) : o.wp P a w (fun a' w' => ∃ s', K s' ∧ SRel w0 regs St s' a' w') Q := by
  obtain ⟨Imm, h1, h2, h3⟩ := hs.ex
  have hX := h2.eval x (okO_sc hx)
  have hI := h2.eval i (okO_sc hi)
  simp only [AI.go] at h
  split at h <;> try exact h.elim
  rename_i k n hin
  rw [hin] at hI
  obtain ⟨ei, _⟩ := hI.lit
  split at h <;> try exact h.elim
  rename_i v hv
  have key : ∃ (b off len cap : Nat), (0 ≤ n ∧ n < (len : Int)) ∧ a.eval x = .slice (some ⟨b, off, none⟩) len cap ∧ Rel Imm w v (.pointer (some ⟨b, off + n.toNat * esz, none⟩)) := by
    unfold AS.elemAddr at hv
    split at hv
    · rename_i esz' els hp
      rw [hp] at hX
      split at hv <;> try (cases hv; done)
      rename_i hb
      obtain ⟨rfl, hb1, hb2⟩ := hb
      cases hel : els[n.toNat]? with
      | none => simp [hel] at hv
      | some el =>
        simp only [hel, Option.map_some, Option.some.injEq] at hv
        subst hv
        rcases hX with hX | ⟨cs, hX, e⟩
        · cases hX
        cases hX with
        | slnil => simp at hel
        | sl _ _ cs b off cap hR hat hcap =>
          obtain ⟨pre, c, post, e', hpre, hc, hRf, hscf, _⟩ := hR.elem _ _ hel
          refine ⟨b, off, els.length, cap, ⟨hb1, hb2⟩, by rw [e]; rfl, .inr ⟨_, .cptr esz' el c b (off + n.toNat * esz') hRf hc hscf (fun i y hy => ?_), rfl⟩⟩
          have := hat (pre.length + i) y (by rw [e', List.append_assoc, List.getElem?_append_right (by omega), Nat.add_sub_cancel_left, List.getElem?_append_left (List.getElem?_eq_some_iff.1 hy).1]; exact hy)
          rw [hpre] at this
          rwa [← Nat.add_assoc] at this
    · rename_i b V hp
      rw [hp] at hX
      split at hv <;> try (cases hv; done)
      split at hv <;> try (cases hv; done)
      rename_i e0 V' esz' els sl hblk
      split at hv <;> try (cases hv; done)
      rename_i hb
      obtain ⟨rfl, rfl, hb1, hb2⟩ := hb
      simp only [Option.some.injEq] at hv
      subst hv
      rcases hX with hX | ⟨cs, hX, e⟩
      · cases hX
      cases hX
      obtain ⟨hok, _⟩ := h3.ok _ _ hblk
      obtain ⟨cs, hR, hown, hscV, hsl, _⟩ := hok
      rcases hown.2 with ⟨rfl, hn0⟩ | ⟨g, cap, cur, rfl, _, hg, hnc, _⟩
      · omega
      · refine ⟨g, 0, els.length, cap, ⟨hb1, hb2⟩, by rw [e]; rfl, .inr ⟨_, .ptr _ _ _ _, ?_⟩⟩
        simp [asVal, locOf, ownBlock_slice]
    · cases hv
  obtain ⟨b, off, len, cap, hb, e', hrel⟩ := key
  refine upon_of_run (V := .pointer (some ⟨b, off + n.toNat * esz, none⟩)) (w' := w) ?_ ⟨_, h, hs.put0 h1 h2 h3 hrel⟩
  simp [execOp, ho, Instr.indexAt, run_underlying ht, e', ei, asIntOf, hb.1, hb.2, run_sizeOf' hn, add_none]

theorem sound_ext {x : Operand} {i : Nat} (ho : o.op = .extract x i) (hx : okO x = true)
    (h : AI.go P ro s o.dst K (.ext x i)) (hs : SRel w0 regs St s a w) : o.wp P a w (fun a' w' => ∃ s', K s' ∧ SRel w0 regs St s' a' w') Q := by
  obtain ⟨Imm, h1, h2, h3⟩ := hs.ex
  have hX := h2.eval x (okO_sc hx)
  simp only [AI.go] at h
  split at h <;> try exact h.elim
  rename_i vs hvs
  rw [hvs] at hX
  split at h <;> try exact h.elim
  rename_i v hv
  rcases hX with hX | ⟨cs, hX, e⟩
  · cases hX
  have key : ∀ (vs : List AV) (cs : List Value), R Imm w (.tup vs) cs → ∀ (i : Nat) (v : AV), vs[i]? = some v → ∃ V, cs[i]? = some V ∧ Rel Imm w v V := by
    intro vs
    induction vs with
    | nil => intro cs _ i v h; simp at h
    | cons u us ih =>
      intro cs hR i v hv
      cases hR with
      | tup1 _ _ c d hc hd =>
        cases i with
        | zero =>
          simp only [List.getElem?_cons_zero, Option.some.injEq] at hv
          subst hv
          exact ⟨_, rfl, .inr ⟨c, hc, rfl⟩⟩
        | succ i =>
          simp only [List.getElem?_cons_succ] at hv ⊢
          exact ih d hd i v hv
  obtain ⟨V, hV, hrel⟩ := key vs cs hX i v hv
  refine upon_of_run (V := V) (w' := w) ?_ ⟨_, h, hs.put0 h1 h2 h3 hrel⟩
  simp [execOp, ho, Instr.extract, e, asVal, hV]

theorem R.slLen {esz : Nat} {els : List AV} {V : Value} (h : Rel Imm w (.sl esz els) V) : (V = .slice none 0 0 ∧ els = []) ∨ ∃ b off cap cs, V = .slice (some ⟨b, off, none⟩) els.length cap ∧ els.length ≤ cap ∧ R Imm w (.arr esz els) cs ∧ At Imm w b off cs := by
  rcases h with h | ⟨cs, h, e⟩
  · cases h
  cases h with
  | slnil => exact .inl ⟨by rw [e]; rfl, rfl⟩
  | sl _ _ cs b o cap h1 h2 h3 => exact .inr ⟨b, o, cap, cs, by rw [e]; rfl, h3, h1, h2⟩

theorem lenOf_sound {str : Bool} {X : AV} {V : Value} {n : Int} (h : s.lenOf ro str X = some n) (hX : Rel Imm w X V) (hh : HeapOk w0 regs Imm s.hp w) :
    (str = true ∧ ∃ b : ByteArray, V = .string b ∧ n = b.size) ∨ (str = false ∧ ∃ (b : Option Addr) (m cap : Nat), V = .slice b m cap ∧ n = m) := by
  unfold AS.lenOf at h
  split at h
  · split at h <;> try (cases h; done)
    simp only [Option.some.injEq] at h
    subst h
    rename_i hstr
    refine .inr ⟨by simpa using hstr, ?_⟩
    rcases R.slLen hX with ⟨rfl, rfl⟩ | ⟨b, off, cap, cs, rfl, _⟩
    · exact ⟨_, _, _, rfl, rfl⟩
    · exact ⟨_, _, _, rfl, rfl⟩
  · split at h <;> try (cases h; done)
    rename_i hstr
    split at h <;> try (cases h; done)
    split at h <;> try (cases h; done)
    rename_i hblk
    split at h <;> try (cases h; done)
    rename_i hV
    simp only [Option.some.injEq] at h
    subst h; subst hV
    refine .inr ⟨by simpa using hstr, ?_⟩
    obtain ⟨hok, _⟩ := hh.ok _ _ hblk
    obtain ⟨cs, hR, hown, hscV, hsl, _⟩ := hok
    rcases hX with hX | ⟨cs', hX, e⟩
    · cases hX
    cases hX
    rcases hown.2 with ⟨rfl, hn0⟩ | ⟨g, cap, cur, rfl, _, hg, hnc, _⟩
    · exact ⟨_, _, _, e, by rw [hn0]⟩
    · exact ⟨_, _, _, e, rfl⟩
  · split at h <;> try (cases h; done)
    rename_i hstr
    simp only [Option.some.injEq] at h
    subst h
    obtain ⟨e, _⟩ := hX.lit
    exact .inr ⟨by simpa using hstr, _, _, _, e, rfl⟩
  · split at h <;> try (cases h; done)
    rename_i hstr
    simp only [Option.some.injEq] at h
    subst h
    obtain ⟨e, _⟩ := hX.lit
    exact .inl ⟨by simpa using hstr, _, e, rfl⟩
  · cases h

theorem sound_len {t : TypeId} {str : Bool} {x : Operand} {c : Call} (ho : o.op = .call c) (hc : c.callee = .builtin .len) (ha : c.args.toList = [x]) (ht : c.argTypes.toList = [t])
    (hty : if str then P.underlying t = some .string else ∃ e, P.underlying t = some (.slice e)) (hx : okO x = true)
    (h : AI.go P ro s o.dst K (.len str x)) (hs : SRel w0 regs St s a w) : o.wp P a w (fun a' w' => ∃ s', K s' ∧ SRel w0 regs St s' a' w') Q := by
  obtain ⟨Imm, h1, h2, h3⟩ := hs.ex
  have hX := h2.eval x (okO_sc hx)
  have ha' : c.args = #[x] := by rw [← Array.toArray_toList (xs := c.args), ha]
  have ht' : c.argTypes = #[t] := by rw [← Array.toArray_toList (xs := c.argTypes), ht]
  simp only [AI.go] at h
  split at h <;> try exact h.elim
  rename_i n hn
  refine upon_of_run (V := .int .i64 n) (w' := w) ?_ ⟨_, h, hs.put0 h1 h2 h3 (Rel.mkLit rfl)⟩
  rcases lenOf_sound hn hX h3 with ⟨rfl, b, hV, rfl⟩ | ⟨rfl, b, m, cap, hV, rfl⟩
  · simp only [if_true] at hty
    simp [execOp, ho, resolve, hc, invoke, builtin, Builtin.len_, ha', ht', hV, run_underlying hty, goInt]
  · simp only [Bool.false_eq_true, if_false] at hty
    obtain ⟨e, hty⟩ := hty
    simp [execOp, ho, resolve, hc, invoke, builtin, Builtin.len_, ha', ht', hV, run_underlying hty, goInt]

end
end Go.Cab
