/- Part 1 of what the proof stands on: H, I, J, K. -/
import Derived.Test.YtiikindmkllbiaaDoorCab00
import Derived.DeepKeys
import Derived.Laws.MakeOwn
set_option linter.unusedSimpArgs false
set_option linter.unnecessarySimpa false
set_option linter.unusedVariables false
set_option linter.unusedSectionVars false
namespace Go.Cab
open Go.RowKit
open Classical
def okO : Operand → Bool
  | .const v => sc v
  | _ => true
def comp1 (P : Program) (op : Op) : Option AI :=
  match op with
  | .move x | .assign x => if okO x then some (.mov x) else none
  | .pick c a b => if okO c && okO a && okO b then some (.pick c a b) else none
  | .binOp o t x y _ => if okO x && okO y then (match o, P.underlying t with
      | .eql, some .bool => some (.beq false x y)
      | .neq, some .bool => some (.beq true x y)
      | o, _ => some (.bin o x y)) else none
  | .unOp o _ x => if okO x then some (.un o x) else none
  | .convert s d x => match P.underlying s, P.underlying d with
    | some (.int _), some (.int k) => if okO x then some (.cvt k x) else none
    | some (.slice e), some .string => match P.underlying e with
      | some (.int .u8) => if okO x then some (.b2s x) else none
      | _ => none
    | _, _ => none
  | .alloc t => match zeroOf P t with | some (n, z) => some (.alloc n z) | none => none
  | .box t x => match szOf P t with | some n => if okO x then some (.box n x) else none | none => none
  | .load t x => match szOf P t with
    | some n => if (P.underlying t).isSome && okO x && (aggT P t || n == 1) then some (.load (aggT P t) n x) else none
    | none => none
  | .store t x v => match szOf P t with | some n => if okO x && okO v then some (.store n x v) else none | none => none
  | .fieldAddr s x f => match P.underlying s with
    | some (.struct fields) => match fields[f]? with
      | some fd => match szOf P fd.type with | some n => if okO x && n != 0 then some (.faddr fd.offset f x) else none | none => none
      | none => none
    | _ => none
  | .indexAddr t x i => match P.underlying t with
    | some (.array n e) => match szOf P e with | some k => if okO x && okO i then some (.iaddrA n k x i) else none | none => none
    | some (.slice e) => match szOf P e with | some k => if okO x && okO i then some (.iaddrS k x i) else none | none => none
    | _ => none
  | .extract x i => if okO x then some (.ext x i) else none
  | .index t x i => match P.underlying t with
    | some .string => if okO x && okO i then some (.prim .sidx [x, i]) else none
    | _ => none
  | .slice t x lo hi mx => match P.underlying t, mx with
    | some .string, none => match lo, hi with
      | none, none => if okO x then some (.prim (.ssub false false) [x]) else none
      | some l, none => if okO x && okO l then some (.prim (.ssub true false) [x, l]) else none
      | none, some h => if okO x && okO h then some (.prim (.ssub false true) [x, h]) else none
      | some l, some h => if okO x && okO l && okO h then some (.prim (.ssub true true) [x, l, h]) else none
    | _, _ => none
  | .call c => match c.callee, c.args.toList, c.argTypes.toList with
    | .builtin b, [x], [t] => if b = .len then (match P.underlying t with
      | some .string => if okO x then some (.len true x) else none
      | some (.slice _) => if okO x then some (.len false x) else none
      | some (.array n _) => some (.mov (.const (.int .i64 n)))
      | _ => none) else none
    | _, _, _ => none
  | _ => none
noncomputable def AS.rowOf (s : AS) (e : TypeId) (esz : Nat) : AV → Option (Option Nat × List AV × Nat)
  | .lit (.slice none 0 0) => some (none, [], 0)
  | .own b V => match s.blk b with
    | some (.row e' V' esz' els sl) => if V' = V ∧ esz' = esz ∧ e' = e then some (some b, els, sl) else none
    | _ => none
  | _ => none
inductive Res where
  | val (v : AV)
  | row (e : TypeId) (esz : Nat) (els : List AV)
def ResOk (w : World) (Imm : Nat → Nat → Prop) (w' : World) (V : Value) : Res → Prop
  | .val v => Rel Imm w' v V ∧ v ≠ .any
  | .row e esz els => sc V = true ∧ ∃ cs, R Imm w' (.arr esz els) cs ∧ w'.ownsRow w.heap.size e esz V els.length cs ∧ ∀ g, V.ownBlock = some g → ∀ o, ¬ Imm g o
def ArgsOk (St : Nat → Nat → Prop) (w : World) : List AV → List Value → Prop
  | [], [] => True
  | v :: vs, V :: Vs => Rel St w v V ∧ ArgsOk St w vs Vs
  | _, _ => False
def PCall (P : Program) (f : FuncId) (args : List AV) (r : Res) : Prop :=
  ∀ (w : World) (St : Nat → Nat → Prop) (Vs : List Value), Live [] w St w → ArgsOk St w args Vs →
    Calls P f Vs.toArray w fun e w' => ∃ V Imm, e = .returned V ∧ Fr [] w w' ∧ ImmOk w w St Imm w' ∧ ResOk w Imm w' V r
def ICall (P : Program) (f : FuncId) (n : Nat) (u : AV) (args : List AV) (r : AV) (u' : AV) : Prop :=
  ∀ (w : World) (St : Nat → Nat → Prop) (l : Nat × Nat) (Vs : List Value), Live [(l.1, l.2, n)] w St w → Blk.ok St w (.box l n u) → ArgsOk St w (.ptr 0 l 0 [] :: args) Vs →
    Calls P f Vs.toArray w fun e w' => ∃ V Imm, e = .returned V ∧ Fr [(l.1, l.2, n)] w w' ∧ ImmOk w w St Imm w' ∧ Rel Imm w' r V ∧ r ≠ .any ∧ Blk.ok Imm w' (.box l n u')
def XCall (P : Program) (f : FuncId) (args : List AV) (hp : List (Option Blk)) (K : AV → List (Option Blk) → Prop) : Prop :=
  ∀ (w0 w : World) (regs : List (Nat × Nat × Nat)) (Imm : Nat → Nat → Prop) (Vs : List Value), Fr regs w0 w → Live regs w0 Imm w → HeapOk w0 regs Imm hp w → ArgsOk Imm w args Vs →
    Calls P f Vs.toArray w fun e w' => ∃ V r hp' Imm', e = .returned V ∧ K r hp' ∧ Fr regs w0 w' ∧ ImmOk w0 w Imm Imm' w' ∧ Rel Imm' w' r V ∧ r ≠ .any ∧ HeapOk w0 regs Imm' hp' w'
def EqAV (P : Program) (t : TypeId) (x y : AV) (b : Bool) : Prop :=
  ∀ (Imm : Nat → Nat → Prop) (w : World) (cs cs' : List Value), R Imm w x cs → R Imm w y cs' → ∃ D D' la lb, (asVal x cs).formed P t = true ∧ (asVal y cs').formed P t = true ∧ P.keyLits D t cs = some la ∧ P.keyLits D' t cs' = some lb ∧ (b = true ↔ la = lb)
noncomputable def AS.seal1 (s : AS) (b : Nat) : AS :=
  match s.blk b with
  | some (.row e V esz els _) => s.setBlk b (some (.row e V esz els els.length))
  | _ => s
noncomputable def AS.seals (s : AS) : List Nat → AS
  | [] => s
  | b :: bs => (s.seal1 b).seals bs
noncomputable def AS.part (s : AS) : AV → Option (Nat × Blk × List Nat × Nat × AV)
  | .ptr b l off p => match s.blk b with
    | some (.box l' n v) => if l' = l then match v.nav 0 n p with
      | some (o, m, u) => if o = off ∧ m ≠ 0 then some (b, .box l' n v, p, m, u) else none
      | none => none else none
    | _ => none
  | _ => none
def AS.slot (s : AS) (dst : Option Tmp) : Nat := s.nr + dst.getD 0
noncomputable def AI.go (P : Program) (ro : Nat → Bool) (s : AS) (dst : Option Tmp) (K : AS → Prop) : AI → Prop
  | .mov x => K (s.put dst (s.ev x))
  | .pick c a b => match s.ev c with
    | .lit (.bool t) => K (s.put dst (if t then s.ev a else s.ev b))
    | _ => False
  | .bin op x y => match s.ev x, s.ev y with
    | .lit a, .lit b => match binVal op a b with
      | some v => K (s.put dst (.lit v))
      | none => False
    | _, _ => False
  | .beq neg x y => match s.ev x, s.ev y with
    | .lit (.bool p), .lit (.bool q) => K (s.put dst (.lit (.bool (if neg then !(p == q) else p == q))))
    | _, _ => False
  | .un op x => match s.ev x with
    | .lit a => match unVal op a with
      | some v => K (s.put dst (.lit v))
      | none => False
    | _ => False
  | .cvt k x => match s.ev x with
    | .lit (.int _ n) => K (s.put dst (.lit (.int k (k.wrap n))))
    | _ => False
  | .alloc n z => ∀ l, K { s.put dst (.ptr (s.slot dst) l 0 []) with hp := s.hp.set (s.slot dst) (some (.box l n z)) }
  | .box n x => (s.ev x).isTup = false ∧ (s.ev x).sz = n ∧ ∀ l, K { s.put dst (.ptr (s.slot dst) l 0 []) with hp := s.hp.set (s.slot dst) (some (.box l n (s.ev x))) }
  | .load agg n x => match s.peek ro (s.ev x) with
    | some (m, u) => m = n ∧ u.isAgg = agg ∧ u.isTup = false ∧ K (s.put dst u)
    | none => False
  | .store n x v => match s.poke n (s.ev v) (s.ev x) with
    | some s' => K (s'.put dst .any)
    | none => False
  | .faddr off idx x => match AS.fieldAddr off idx (s.ev x) with
    | some v => K (s.put dst v)
    | none => False
  | .iaddrA ln esz x i => match s.ev i with
    | .lit (.int _ n) => match AS.idxAddr ln esz n (s.ev x) with
      | some v => K (s.put dst v)
      | none => False
    | _ => False
  | .iaddrS esz x i => match s.ev i with
    | .lit (.int _ n) => match s.elemAddr ro esz n (s.ev x) with
      | some v => K (s.put dst v)
      | none => False
    | _ => False
  | .len str x => match s.lenOf ro str (s.ev x) with
    | some n => K (s.put dst (.lit (.int .i64 n)))
    | none => False
  | .ext x i => match s.ev x with
    | .tup vs => match vs[i]? with
      | some v => K (s.put dst v)
      | none => False
    | _ => False
  | .nilc x => match s.ev x with
    | .ptr b l off p => K (s.put dst (.ptr b l off p))
    | .cptr n v => K (s.put dst (.cptr n v))
    | _ => False
  | .add64 x y c => match s.ev x, s.ev y, s.ev c with
    | .lit (.int .u64 a), .lit (.int .u64 b), .lit (.int .u64 d) => if 0 ≤ a ∧ 0 ≤ b ∧ 0 ≤ d ∧ d ≤ 1 then
        K (s.put dst (.tup [.lit (.int .u64 ((a + b + d) % 18446744073709551616)), .lit (.int .u64 ((a + b + d) / 18446744073709551616))])) else False
    | _, _, _ => False
  | .build z parts => match fillAV s z parts with
    | some v => K (s.put dst v)
    | none => False
  | .bslice esz z n parts => match fillAV s (.arr esz (List.replicate n z)) parts with
    | some (.arr _ els) => K (s.put dst (.sl esz els))
    | _ => False
  | .append e esz bytes x y => match s.rowOf e esz (s.ev x), s.coe ro (s.ev y) with
    | some (ob, els, sl), .sl esz' ys => esz' = esz ∧ els.length + ys.length ≤ maxLen ∧ (els.length + ys.length) * bytes ≤ 140737488355328 ∧
        ∀ V, K { s.put dst (.own (s.slot dst) V) with hp := (hpDrop s.hp ob).set (s.slot dst) (some (.row e V esz (els ++ ys) sl)) }
    | _, _ => False
  | .mkslice e esz bytes z l c => match s.ev l, s.ev c with
    | .lit (.int _ n), .lit (.int _ m) => 0 ≤ n ∧ n ≤ m ∧ m.toNat ≤ maxLen ∧ (bytes : Int) * m ≤ 140737488355328 ∧
        ∀ V, K { s.put dst (.own (s.slot dst) V) with hp := s.hp.set (s.slot dst) (some (.row e V esz (List.replicate n.toNat z) 0)) }
    | _, _ => False
  | .eqv t neg x y => ∃ b, EqAV P t (s.ev x) (s.ev y) b ∧ (s.ev x).isAgg = true ∧ (s.ev y).isAgg = true ∧ K (s.put dst (.lit (.bool (if neg then !b else b))))
  | .call f args => ∃ (bs : List Nat) (r : Res), PCall P f (args.map fun x => (s.seals bs).coe ro ((s.seals bs).ev x)) r ∧ (match r with
    | .val v => K ((s.seals bs).put dst v)
    | .row e esz els => ∀ V, K { (s.seals bs).put dst (.own (s.slot dst) V) with hp := (s.seals bs).hp.set (s.slot dst) (some (.row e V esz els 0)) })
  | .callv f args => ∃ v, PCall P f (args.map fun x => s.coe ro (s.ev x)) (.val v) ∧ K (s.put dst v)
  | .lcall f args => ∃ v, v.plain = true ∧ PCall P f (args.map fun x => s.lend ro (s.ev x)) (.val v) ∧ K (s.put dst v)
  | .icall f x args => (match s.part (s.ev x) with
    | some (b, blk, p, m, u) => ∃ r u', ICall P f m u (args.map fun x => s.coe ro (s.ev x)) r u' ∧ u'.isTup = false ∧ K ((s.setBlk b (some (blk.upd p u'))).put dst r)
    | none => False) ∨ ∃ K', XCall P f ((x :: args).map fun y => s.ev y) s.hp K' ∧ (∃ r hp', K' r hp') ∧ ∀ r hp', K' r hp' → K { s.put dst r with hp := hp' }
  | .b2s x => match s.textOf ro (s.ev x) with
    | some v => K (s.put dst (.lit v))
    | none => False
  | .prim p xs => match s.lits xs with
    | some vs => match primVal p vs with
      | some v => K (s.put dst (.lit v))
      | none => False
    | none => False
  | .rdp g xs => match rdA P (fun _ => none) g (xs.map fun x => s.ev x) with
    | some v => K (s.put dst v)
    | none => False
  | .rd g xs => match rdA P (fun b => if ro b then s.blk b else none) g (xs.map fun x => s.ev x) with
    | some v => K (s.put dst v)
    | none => False
  | .ef g xs => ∀ V, ∃ r hp', efA (s.slot dst) V s.hp g (xs.map fun x => s.ev x) = some (r, hp') ∧ K { s.put dst r with hp := hp' }
  | .xc g xs keep fresh => ∃ f vs, (∀ E, (∀ e ∈ E, e.1 ∈ fresh) → tgtH P (setE s.nr s.hp E) g (xs.map fun x => s.ev x) = some (f, vs)) ∧ ∃ K' : AV → List (Option Blk) → Prop, (∀ E, (∀ e ∈ E, e.1 ∈ fresh) → XCall P f vs (setE s.nr s.hp E) fun r H' => ∃ hp', K' r hp' ∧ H' = setE s.nr hp' E) ∧ (∃ r hp', K' r hp') ∧
      (∀ r hp', K' r hp' → keepOk s keep hp' ∧ ((fresh = [] ∨ s.hp.length ≤ hp'.length))) ∧ (∀ t ∈ fresh, s.nr + t < s.hp.length) ∧ ∀ r hp', K' r hp' → K { s.put dst r with hp := hp' }
  | .fieldv off idx n agg x => match s.ev x with
    | .st ns fs => (ns.take idx).sum = off ∧ ns[idx]? = some n ∧ (match fs[idx]? with
      | some v => v.isAgg = agg ∧ v.isTup = false ∧ K (s.put dst v)
      | none => False)
    | _ => False
section
variable {P : Program} {w0 wk : World} {regs : List (Nat × Nat × Nat)} {St Imm : Nat → Nat → Prop} {s : AS} {a : Act} {w : World} {o : Oper} {K : AS → Prop} {Q : Exit → Act → World → Prop} {ro : Nat → Bool}
theorem okO_sc {x : Operand} (h : okO x = true) : ∀ v, x = .const v → sc v = true := fun v e => by subst e; exact h
theorem upon_of_run {V : Value} {w' : World} {N : Act → World → Prop} (hr : (execOp a.eval o).run P w = .ok (.value V) w') (h : N (a.put o.dst V) w') : o.wp P a w N Q := by
  unfold Oper.wp Oper.upon
  rw [hr]; exact h
theorem upon_of_skip {w' : World} {N : Act → World → Prop} (hr : (execOp a.eval o).run P w = .ok .skip w') (h : N (a.put o.dst undef) w') : o.wp P a w N Q := by
  unfold Oper.wp Oper.upon
  rw [hr]; exact h
theorem run_isAgg {t : TypeId} (h : (P.underlying t).isSome = true) : (isAgg t).run P w = .ok (aggT P t) w := by
  cases hu : P.underlying t with
  | none => simp [hu] at h
  | some d => cases d <;> simp [isAgg, run_underlying hu, aggT, hu]
theorem run_sizeOf' {t : TypeId} {n : Nat} (h : szOf P t = some n) : (sizeOf t).run P w = .ok n w := by
  unfold szOf at h
  cases hi : P.info? t with
  | none => simp [hi] at h
  | some i => simp [hi] at h; simp [sizeOf, typeInfo, hi, h]
theorem sound_mov {x : Operand} (ho : o.op = .move x ∨ o.op = .assign x) (hx : okO x = true) (h : AI.go P ro s o.dst K (.mov x)) (hs : SRel w0 wk regs St s a w) :
    o.wp P a w (fun a' w' => ∃ s', K s' ∧ SRel w0 wk regs St s' a' w') Q := by
  obtain ⟨Imm, h1, h2, h3⟩ := hs.ex
  simp only [AI.go] at h
  exact upon_of_run (V := a.eval x) (w' := w) (by rcases ho with ho | ho <;> simp [execOp, ho]) ⟨_, h, hs.put0 h1 h2 h3 (h2.eval x (okO_sc hx))⟩
theorem sound_pick {c x y : Operand} (ho : o.op = .pick c x y) (hc : okO c = true) (hx : okO x = true) (hy : okO y = true) (h : AI.go P ro s o.dst K (.pick c x y)) (hs : SRel w0 wk regs St s a w) :
    o.wp P a w (fun a' w' => ∃ s', K s' ∧ SRel w0 wk regs St s' a' w') Q := by
  obtain ⟨Imm, h1, h2, h3⟩ := hs.ex
  have hC := h2.eval c (okO_sc hc)
  simp only [AI.go] at h
  split at h
  · rename_i t ht
    rw [ht] at hC
    obtain ⟨e, _⟩ := hC.lit
    refine upon_of_run (V := if t then a.eval x else a.eval y) (w' := w) (by simp [execOp, ho, e, asBool]) ⟨_, h, hs.put0 h1 h2 h3 ?_⟩
    cases t
    · exact h2.eval y (okO_sc hy)
    · exact h2.eval x (okO_sc hx)
  · exact h.elim
theorem binVal_sc {op : BinOp} {p q v : Value} (hv : binVal op p q = some v) : sc v = true := by
  unfold binVal at hv
  split at hv
  · cases op <;> simp only [] at hv <;> (try split at hv) <;> (try split at hv) <;> simp_all <;> (try (subst hv; rfl)) <;> (try (obtain ⟨_, hv⟩ := hv; subst hv; rfl))
  · cases op <;> simp only [] at hv <;> (try split at hv) <;> simp_all <;> (try (subst hv; rfl)) <;> (try (obtain ⟨_, hv⟩ := hv; subst hv; rfl))
  · cases hv
theorem sound_bin {op : BinOp} {t u : TypeId} {x y : Operand} (ho : o.op = .binOp op t x y u) (hx : okO x = true) (hy : okO y = true)
    (h : AI.go P ro s o.dst K (.bin op x y)) (hs : SRel w0 wk regs St s a w) : o.wp P a w (fun a' w' => ∃ s', K s' ∧ SRel w0 wk regs St s' a' w') Q := by
  obtain ⟨Imm, h1, h2, h3⟩ := hs.ex
  have hX := h2.eval x (okO_sc hx)
  have hY := h2.eval y (okO_sc hy)
  simp only [AI.go] at h
  split at h
  · rename_i p q hp1 hq1
    rw [hp1] at hX; rw [hq1] at hY
    split at h
    · rename_i v hv
      obtain ⟨e1, _⟩ := hX.lit
      obtain ⟨e2, _⟩ := hY.lit
      have hrun := run_binVal (P := P) (t := t) (X := x) (Y := y) (w := w) hv
      refine upon_of_run (V := v) (w' := w) ?_ ⟨_, h, hs.put0 h1 h2 h3 (Rel.mkLit (binVal_sc hv))⟩
      simp only [execOp, ho, e1, e2]
      simp only [Sem.run_bind] at hrun ⊢
      rw [hrun]; rfl
    · exact h.elim
  · exact h.elim
theorem sound_beq {t u : TypeId} {neg : Bool} {x y : Operand} (ho : o.op = .binOp (if neg then .neq else .eql) t x y u) (ht : P.underlying t = some .bool) (hx : okO x = true) (hy : okO y = true)
    (h : AI.go P ro s o.dst K (.beq neg x y)) (hs : SRel w0 wk regs St s a w) : o.wp P a w (fun a' w' => ∃ s', K s' ∧ SRel w0 wk regs St s' a' w') Q := by
  obtain ⟨Imm, h1, h2, h3⟩ := hs.ex
  have hX := h2.eval x (okO_sc hx)
  have hY := h2.eval y (okO_sc hy)
  simp only [AI.go] at h
  split at h
  · rename_i p q hp1 hq1
    rw [hp1] at hX; rw [hq1] at hY
    obtain ⟨e1, _⟩ := hX.lit
    obtain ⟨e2, _⟩ := hY.lit
    refine upon_of_run (V := _) (w' := w) ?_ ⟨_, h, hs.put0 h1 h2 h3 (Rel.mkLit rfl)⟩
    have r1 := run_eql_bool (P := P) w t p q ht
    have r2 := run_neq_bool (P := P) w t p q ht
    cases neg <;> simp [execOp, ho, e1, e2, eqGuard, r1, r2]
  · exact h.elim
theorem sound_un {op : UnOp} {t : TypeId} {x : Operand} (ho : o.op = .unOp op t x) (hx : okO x = true)
    (h : AI.go P ro s o.dst K (.un op x)) (hs : SRel w0 wk regs St s a w) : o.wp P a w (fun a' w' => ∃ s', K s' ∧ SRel w0 wk regs St s' a' w') Q := by
  obtain ⟨Imm, h1, h2, h3⟩ := hs.ex
  have hX := h2.eval x (okO_sc hx)
  simp only [AI.go] at h
  split at h
  · rename_i p hp1
    rw [hp1] at hX
    split at h
    · rename_i v hv
      obtain ⟨e1, _⟩ := hX.lit
      have hrun := run_unVal (P := P) (w := w) hv
      refine upon_of_run (V := v) (w' := w) (by simp [execOp, ho, e1, hrun]) ⟨_, h, hs.put0 h1 h2 h3 (Rel.mkLit ?_)⟩
      unfold unVal at hv
      split at hv <;> simp at hv <;> subst hv <;> rfl
    · exact h.elim
  · exact h.elim
theorem sound_cvt {d t : TypeId} {k k' : IntKind} {x : Operand} (ho : o.op = .convert t d x) (ht : P.underlying t = some (.int k')) (hd : P.underlying d = some (.int k)) (hx : okO x = true)
    (h : AI.go P ro s o.dst K (.cvt k x)) (hs : SRel w0 wk regs St s a w) : o.wp P a w (fun a' w' => ∃ s', K s' ∧ SRel w0 wk regs St s' a' w') Q := by
  obtain ⟨Imm, h1, h2, h3⟩ := hs.ex
  have hX := h2.eval x (okO_sc hx)
  simp only [AI.go] at h
  split at h
  · rename_i n1 n hp1
    rw [hp1] at hX
    obtain ⟨e1, _⟩ := hX.lit
    exact upon_of_run (V := .int k (k.wrap n)) (w' := w) (by simp [execOp, ho, e1, convert, run_underlying ht, run_underlying hd, Conv.intToInt]) ⟨_, h, hs.put0 h1 h2 h3 (Rel.mkLit rfl)⟩
  · exact h.elim
theorem sound_alloc {t : TypeId} {n : Nat} {z : AV} (ho : o.op = .alloc t) (hz : zeroOf P t = some (n, z))
    (h : AI.go P ro s o.dst K (.alloc n z)) (hs : SRel w0 wk regs St s a w) : o.wp P a w (fun a' w' => ∃ s', K s' ∧ SRel w0 wk regs St s' a' w') Q := by
  obtain ⟨Imm, h1, h2, h3⟩ := hs.ex
  obtain ⟨i, v, hi, hzv, hn, ht, hl, hR⟩ := zeroOf_spec hz
  simp only [AI.go] at h
  have := SRel.newBox (dst := o.dst) hs h1 h2 h3 (hR Imm w) ht t (s.slot o.dst)
  refine upon_of_run (V := .pointer (some ⟨w.heap.size, 0, none⟩)) (w' := w.alloc (.cells v.cells t)) ?_ ⟨_, h (w.heap.size, 0), ?_⟩
  · simp [execOp, ho, Instr.alloc, zeroValue, typeInfo, hi, hzv, newVar, newRow]
  · rw [hl] at this; simpa using this
theorem sound_box {t : TypeId} {n : Nat} {x : Operand} (ho : o.op = .box t x) (hx : okO x = true)
    (h : AI.go P ro s o.dst K (.box n x)) (hs : SRel w0 wk regs St s a w) : o.wp P a w (fun a' w' => ∃ s', K s' ∧ SRel w0 wk regs St s' a' w') Q := by
  obtain ⟨Imm, h1, h2, h3⟩ := hs.ex
  have hX := h2.eval x (okO_sc hx)
  simp only [AI.go] at h
  obtain ⟨ht, hn, h⟩ := h
  rcases hX with hX | ⟨cs, hX, e⟩
  · rw [hX] at ht; simp [AV.isTup] at ht
  have := SRel.newBox (dst := o.dst) hs h1 h2 h3 hX ht t (s.slot o.dst)
  refine upon_of_run (V := .pointer (some ⟨w.heap.size, 0, none⟩)) (w' := w.alloc (.cells cs.toArray t)) ?_ ⟨_, h (w.heap.size, 0), ?_⟩
  · simp [execOp, ho, Instr.box, newVar, newRow, e, hX.cells ht]
  · rw [hX.len ht, hn] at this; exact this
theorem sound_load {t : TypeId} {n : Nat} {x : Operand} (ho : o.op = .load t x) (hx : okO x = true) (ht : (P.underlying t).isSome = true) (hn : szOf P t = some n) (h1n : aggT P t = true ∨ n = 1)
    (h : AI.go P ro s o.dst K (.load (aggT P t) n x)) (hs : SRel w0 wk regs St s a w) : o.wp P a w (fun a' w' => ∃ s', K s' ∧ SRel w0 wk regs St s' a' w') Q := by
  obtain ⟨Imm, h1, h2, h3⟩ := hs.ex
  have hX := h2.eval x (okO_sc hx)
  simp only [AI.go] at h
  split at h
  · rename_i m u hp
    obtain ⟨rfl, hagg, htup, hK⟩ := h
    obtain ⟨b, off, cs, e, hR, hl, hsc, hcell⟩ := peek_sound hp hX h3
    refine upon_of_run (V := asVal u cs) (w' := w) ?_ ⟨_, hK, hs.put0 h1 h2 h3 (.inr ⟨cs, hR, rfl⟩)⟩
    simp only [execOp, ho, Instr.loadAt, e, Instr.sureAddr, loadVar]
    have hcs : (loadCells ⟨b, off, none⟩ m).run P w = .ok cs.toArray w := by
      have := run_loadCells_list (P := P) (w := w) ⟨b, off, none⟩ cs (fun j v hj => by rw [add_none]; exact hcell j v hj)
      rw [hl] at this
      simpa using this
    cases hA : aggT P t with
    | true =>
      rw [hA] at hagg
      simp [run_isAgg ht, hA, run_sizeOf' hn, hcs]
      cases u <;> simp [AV.isAgg] at hagg <;> rfl
    | false =>
      have hm1 : m = 1 := by rcases h1n with h' | h' <;> simp_all
      rw [hA] at hagg
      match cs, hl with
      | [y], _ =>
        have hy := hcell 0 y (by simp)
        simp only [Nat.add_zero] at hy
        simp [run_isAgg ht, hA, hy]
        cases u <;> simp [AV.isAgg, AV.isTup] at hagg htup <;> rfl
      | [], h0 => simp at h0; omega
      | _ :: _ :: _, h0 => simp at h0; omega
  · exact h.elim
theorem sound_store {t : TypeId} {n : Nat} {x v : Operand} (ho : o.op = .store t x v) (hx : okO x = true) (hv : okO v = true) (hn : szOf P t = some n)
    (h : AI.go P ro s o.dst K (.store n x v)) (hs : SRel w0 wk regs St s a w) : o.wp P a w (fun a' w' => ∃ s', K s' ∧ SRel w0 wk regs St s' a' w') Q := by
  obtain ⟨Imm, h1, h2, h3⟩ := hs.ex
  have hX := h2.eval x (okO_sc hx)
  have hV := h2.eval v (okO_sc hv)
  simp only [AI.go] at h
  split at h
  · rename_i s' hp
    obtain ⟨b, off, cs, e, hcells, hl, hsc, hex, htm, hnr, hI', hT', hH', hF'⟩ := poke_sound hp hX hV h3 h1 h2 hs.frame
    refine upon_of_skip (w' := setCells b off cs w) ?_ ⟨_, h, ?_⟩
    · simp only [execOp, ho, Instr.storeAt, e, Instr.sureAddr, storeVar]
      have hr := run_storeCells (P := P) b off cs 0 w hsc (fun j hj => by simpa using hex j (by omega))
      simp [run_sizeOf' hn, hcells, hl, hr]
    · refine ⟨by rw [aput_defers]; exact hs.defers, by rw [aput_size, put_len, htm]; exact hs.tsize, hs.tab, hF', Imm, hI', ?_, by rw [put_hp]; exact hH'⟩
      have hts : a.tmps.size = s'.tm.length := by rw [htm]; exact hs.tsize
      have hT'' : TmOk Imm (setCells b off cs w) s'.tm a.tmps := by rw [htm]; exact hT'
      exact hT''.put hts (fun _ _ h => h) (fun _ _ _ => rfl) (.inr (.inl rfl))
  · exact h.elim
theorem sound_faddr {t : TypeId} {fields : Array Field} {fd : Field} {f n : Nat} {x : Operand} (ho : o.op = .fieldAddr t x f) (ht : P.underlying t = some (.struct fields)) (hf : fields[f]? = some fd) (hn : szOf P fd.type = some n) (hn0 : n ≠ 0) (hx : okO x = true)
    (h : AI.go P ro s o.dst K (.faddr fd.offset f x)) (hs : SRel w0 wk regs St s a w) : o.wp P a w (fun a' w' => ∃ s', K s' ∧ SRel w0 wk regs St s' a' w') Q := by
  obtain ⟨Imm, h1, h2, h3⟩ := hs.ex
  have hX := h2.eval x (okO_sc hx)
  simp only [AI.go] at h
  split at h
  · rename_i v hv
    have key : ∃ b off, a.eval x = .pointer (some ⟨b, off, none⟩) ∧ Rel Imm w v (.pointer (some ⟨b, off + fd.offset, none⟩)) := by
      unfold AS.fieldAddr at hv
      split at hv
      · rename_i b l off p hp
        rw [hp] at hX
        simp only [Option.some.injEq] at hv
        subst hv
        rcases hX with hX | ⟨cs, hX, e⟩
        · cases hX
        cases hX
        exact ⟨l.1, l.2 + off, by rw [e]; rfl, .inr ⟨_, .ptr _ _ _ _, by simp [asVal, Nat.add_assoc]⟩⟩
      · rename_i m ns fs hp
        rw [hp] at hX
        split at hv <;> try (cases hv; done)
        rename_i hsum
        split at hv <;> try (cases hv; done)
        rename_i k f' hk hf'
        simp only [Option.some.injEq] at hv
        subst hv
        rcases hX with hX | ⟨cs, hX, e⟩
        · cases hX
        cases hX with
        | cptr _ _ cs b off hR hl hsc hat =>
          obtain ⟨pre, c, post, e', hpre, hc, hRf, hscf, _⟩ := hR.field _ _ _ hk hf'
          refine ⟨b, off, by rw [e]; rfl, .inr ⟨_, .cptr k f' c b (off + fd.offset) hRf hc hscf (fun i y hy => ?_), rfl⟩⟩
          have := hat (pre.length + i) y (by rw [e', List.append_assoc, List.getElem?_append_right (by omega), Nat.add_sub_cancel_left, List.getElem?_append_left (List.getElem?_eq_some_iff.1 hy).1]; exact hy)
          rw [hpre, hsum] at this
          rwa [← Nat.add_assoc] at this
      · cases hv
    obtain ⟨b, off, e, hrel⟩ := key
    refine upon_of_run (V := .pointer (some ⟨b, off + fd.offset, none⟩)) (w' := w) ?_ ⟨_, h, hs.put0 h1 h2 h3 hrel⟩
    simp [execOp, ho, Instr.fieldAt, run_underlying ht, hf, e, Instr.sureAddr, fieldPlace, run_sizeOf' hn, hn0, add_none]
  · exact h.elim
theorem sound_iaddrA {t e : TypeId} {len esz : Nat} {x i : Operand} (ho : o.op = .indexAddr t x i) (ht : P.underlying t = some (.array len e)) (hn : szOf P e = some esz) (hx : okO x = true) (hi : okO i = true)
    (h : AI.go P ro s o.dst K (.iaddrA len esz x i)) (hs : SRel w0 wk regs St s a w) : o.wp P a w (fun a' w' => ∃ s', K s' ∧ SRel w0 wk regs St s' a' w') Q := by
  obtain ⟨Imm, h1, h2, h3⟩ := hs.ex
  have hX := h2.eval x (okO_sc hx)
  have hI := h2.eval i (okO_sc hi)
  simp only [AI.go] at h
  split at h <;> try exact h.elim
  rename_i k n hin
  rw [hin] at hI
  obtain ⟨ei, _⟩ := hI.lit
  split at h <;> try exact h.elim
  rename_i v hv
  have key : (0 ≤ n ∧ n < (len : Int)) ∧ ∃ b off, a.eval x = .pointer (some ⟨b, off, none⟩) ∧ Rel Imm w v (.pointer (some ⟨b, off + n.toNat * esz, none⟩)) := by
    unfold AS.idxAddr at hv
    split at hv
    · rename_i b l off p hp
      rw [hp] at hX
      split at hv <;> try (cases hv; done)
      rename_i hb
      simp only [Option.some.injEq] at hv
      subst hv
      rcases hX with hX | ⟨cs, hX, e⟩
      · cases hX
      cases hX
      exact ⟨hb, l.1, l.2 + off, by rw [e]; rfl, .inr ⟨_, .ptr _ _ _ _, by simp [asVal, Nat.add_assoc]⟩⟩
    · rename_i m esz' els hp
      rw [hp] at hX
      split at hv <;> try (cases hv; done)
      rename_i hb
      obtain ⟨rfl, hb1, hb2⟩ := hb
      cases hel : els[n.toNat]? with
      | none => simp [hel] at hv
      | some el =>
        simp only [hel, Option.map_some, Option.some.injEq] at hv
        subst hv
        rcases hX with hX | ⟨cs, hX, e⟩
        · cases hX
        cases hX with
        | cptr _ _ cs b off hR hl hsc hat =>
          obtain ⟨pre, c, post, e', hpre, hc, hRf, hscf, _⟩ := hR.elem _ _ hel
          refine ⟨⟨hb1, hb2⟩, b, off, by rw [e]; rfl, .inr ⟨_, .cptr esz' el c b (off + n.toNat * esz') hRf hc hscf (fun i y hy => ?_), rfl⟩⟩
          have := hat (pre.length + i) y (by rw [e', List.append_assoc, List.getElem?_append_right (by omega), Nat.add_sub_cancel_left, List.getElem?_append_left (List.getElem?_eq_some_iff.1 hy).1]; exact hy)
          rw [hpre] at this
          rwa [← Nat.add_assoc] at this
    · cases hv
  obtain ⟨hb, b, off, e', hrel⟩ := key
  refine upon_of_run (V := .pointer (some ⟨b, off + n.toNat * esz, none⟩)) (w' := w) ?_ ⟨_, h, hs.put0 h1 h2 h3 hrel⟩
  simp [execOp, ho, Instr.indexAt, run_underlying ht, e', ei, asIntOf, Instr.sureAddr, hb.1, hb.2, run_sizeOf' hn, add_none]
theorem ownBlock_slice {g n cap : Nat} : (Value.slice (some ⟨g, 0, none⟩) n cap).ownBlock = some g := rfl
theorem sound_iaddrS {t e : TypeId} {esz : Nat} {x i : Operand} (ho : o.op = .indexAddr t x i) (ht : P.underlying t = some (.slice e)) (hn : szOf P e = some esz) (hx : okO x = true) (hi : okO i = true)
    (h : AI.go P ro s o.dst K (.iaddrS esz x i)) (hs : SRel w0 wk regs St s a w) : o.wp P a w (fun a' w' => ∃ s', K s' ∧ SRel w0 wk regs St s' a' w') Q := by
  obtain ⟨Imm, h1, h2, h3⟩ := hs.ex
  have hX := h2.eval x (okO_sc hx)
  have hI := h2.eval i (okO_sc hi)
  simp only [AI.go] at h
  split at h <;> try exact h.elim
  rename_i k n hin
  rw [hin] at hI
  obtain ⟨ei, _⟩ := hI.lit
  split at h <;> try exact h.elim
  rename_i v hv
  have key : ∃ (b off len cap : Nat), (0 ≤ n ∧ n < (len : Int)) ∧ a.eval x = .slice (some ⟨b, off, none⟩) len cap ∧ Rel Imm w v (.pointer (some ⟨b, off + n.toNat * esz, none⟩)) := by
    unfold AS.elemAddr at hv
    split at hv
    · rename_i esz' els hp
      rw [hp] at hX
      split at hv <;> try (cases hv; done)
      rename_i hb
      obtain ⟨rfl, hb1, hb2⟩ := hb
      cases hel : els[n.toNat]? with
      | none => simp [hel] at hv
      | some el =>
        simp only [hel, Option.map_some, Option.some.injEq] at hv
        subst hv
        rcases hX with hX | ⟨cs, hX, e⟩
        · cases hX
        cases hX with
        | slnil => simp at hel
        | sl _ _ cs b off cap hR hat hcap =>
          obtain ⟨pre, c, post, e', hpre, hc, hRf, hscf, _⟩ := hR.elem _ _ hel
          refine ⟨b, off, els.length, cap, ⟨hb1, hb2⟩, by rw [e]; rfl, .inr ⟨_, .cptr esz' el c b (off + n.toNat * esz') hRf hc hscf (fun i y hy => ?_), rfl⟩⟩
          have := hat (pre.length + i) y (by rw [e', List.append_assoc, List.getElem?_append_right (by omega), Nat.add_sub_cancel_left, List.getElem?_append_left (List.getElem?_eq_some_iff.1 hy).1]; exact hy)
          rw [hpre] at this
          rwa [← Nat.add_assoc] at this
    · rename_i b V hp
      rw [hp] at hX
      split at hv <;> try (cases hv; done)
      split at hv <;> try (cases hv; done)
      rename_i e0 V' esz' els sl hblk
      split at hv <;> try (cases hv; done)
      rename_i hb
      obtain ⟨rfl, rfl, hb1, hb2⟩ := hb
      simp only [Option.some.injEq] at hv
      subst hv
      rcases hX with hX | ⟨cs, hX, e⟩
      · cases hX
      cases hX
      obtain ⟨hok, _⟩ := h3.ok _ _ hblk
      obtain ⟨cs, hR, hown, hscV, hsl, _⟩ := hok
      rcases hown.2 with ⟨rfl, hn0⟩ | ⟨g, cap, cur, rfl, _, hg, hnc, _⟩
      · omega
      · refine ⟨g, 0, els.length, cap, ⟨hb1, hb2⟩, by rw [e]; rfl, .inr ⟨_, .ptr _ _ _ _, ?_⟩⟩
        simp [asVal, locOf, ownBlock_slice]
    · cases hv
  obtain ⟨b, off, len, cap, hb, e', hrel⟩ := key
  refine upon_of_run (V := .pointer (some ⟨b, off + n.toNat * esz, none⟩)) (w' := w) ?_ ⟨_, h, hs.put0 h1 h2 h3 hrel⟩
  simp [execOp, ho, Instr.indexAt, run_underlying ht, e', ei, asIntOf, hb.1, hb.2, run_sizeOf' hn, add_none]
theorem sound_ext {x : Operand} {i : Nat} (ho : o.op = .extract x i) (hx : okO x = true)
    (h : AI.go P ro s o.dst K (.ext x i)) (hs : SRel w0 wk regs St s a w) : o.wp P a w (fun a' w' => ∃ s', K s' ∧ SRel w0 wk regs St s' a' w') Q := by
  obtain ⟨Imm, h1, h2, h3⟩ := hs.ex
  have hX := h2.eval x (okO_sc hx)
  simp only [AI.go] at h
  split at h <;> try exact h.elim
  rename_i vs hvs
  rw [hvs] at hX
  split at h <;> try exact h.elim
  rename_i v hv
  rcases hX with hX | ⟨cs, hX, e⟩
  · cases hX
  have key : ∀ (vs : List AV) (cs : List Value), R Imm w (.tup vs) cs → ∀ (i : Nat) (v : AV), vs[i]? = some v → ∃ V, cs[i]? = some V ∧ Rel Imm w v V := by
    intro vs
    induction vs with
    | nil => intro cs _ i v h; simp at h
    | cons u us ih =>
      intro cs hR i v hv
      cases hR with
      | tup1 _ _ c d hc hd =>
        cases i with
        | zero =>
          simp only [List.getElem?_cons_zero, Option.some.injEq] at hv
          subst hv
          exact ⟨_, rfl, .inr ⟨c, hc, rfl⟩⟩
        | succ i =>
          simp only [List.getElem?_cons_succ] at hv ⊢
          exact ih d hd i v hv
  obtain ⟨V, hV, hrel⟩ := key vs cs hX i v hv
  refine upon_of_run (V := V) (w' := w) ?_ ⟨_, h, hs.put0 h1 h2 h3 hrel⟩
  simp [execOp, ho, Instr.extract, e, asVal, hV]
theorem R.slLen {esz : Nat} {els : List AV} {V : Value} (h : Rel Imm w (.sl esz els) V) : (∃ a, V = .slice a 0 0 ∧ els = []) ∨ ∃ b off cap cs, V = .slice (some ⟨b, off, none⟩) els.length cap ∧ els.length ≤ cap ∧ R Imm w (.arr esz els) cs ∧ At Imm w b off cs := by
  rcases h with h | ⟨cs, h, e⟩
  · cases h
  cases h with
  | slnil _ a => exact .inl ⟨a, by rw [e]; rfl, rfl⟩
  | sl _ _ cs b o cap h1 h2 h3 => exact .inr ⟨b, o, cap, cs, by rw [e]; rfl, h3, h1, h2⟩
theorem lenOf_sound {str : Bool} {X : AV} {V : Value} {n : Int} (h : s.lenOf ro str X = some n) (hX : Rel Imm w X V) (hh : HeapOk w0 regs Imm s.hp w) :
    (str = true ∧ ∃ b : ByteArray, V = .string b ∧ n = b.size) ∨ (str = false ∧ ∃ (b : Option Addr) (m cap : Nat), V = .slice b m cap ∧ n = m) := by
  unfold AS.lenOf at h
  split at h
  · split at h <;> try (cases h; done)
    simp only [Option.some.injEq] at h
    subst h
    rename_i hstr
    refine .inr ⟨by simpa using hstr, ?_⟩
    rcases R.slLen hX with ⟨a, rfl, rfl⟩ | ⟨b, off, cap, cs, rfl, _⟩
    · exact ⟨_, _, _, rfl, rfl⟩
    · exact ⟨_, _, _, rfl, rfl⟩
  · split at h <;> try (cases h; done)
    rename_i hstr
    split at h <;> try (cases h; done)
    split at h <;> try (cases h; done)
    rename_i hblk
    split at h <;> try (cases h; done)
    rename_i hV
    simp only [Option.some.injEq] at h
    subst h; subst hV
    refine .inr ⟨by simpa using hstr, ?_⟩
    obtain ⟨hok, _⟩ := hh.ok _ _ hblk
    obtain ⟨cs, hR, hown, hscV, hsl, _⟩ := hok
    rcases hX with hX | ⟨cs', hX, e⟩
    · cases hX
    cases hX
    rcases hown.2 with ⟨rfl, hn0⟩ | ⟨g, cap, cur, rfl, _, hg, hnc, _⟩
    · exact ⟨_, _, _, e, by rw [hn0]⟩
    · exact ⟨_, _, _, e, rfl⟩
  · split at h <;> try (cases h; done)
    rename_i hstr
    simp only [Option.some.injEq] at h
    subst h
    obtain ⟨e, _⟩ := hX.lit
    exact .inr ⟨by simpa using hstr, _, _, _, e, rfl⟩
  · split at h <;> try (cases h; done)
    rename_i hstr
    simp only [Option.some.injEq] at h
    subst h
    obtain ⟨e, _⟩ := hX.lit
    exact .inl ⟨by simpa using hstr, _, e, rfl⟩
  · split at h <;> try (cases h; done)
    rename_i hstr
    simp only [Option.some.injEq] at h
    subst h
    rcases hX with hX | ⟨cs', hX, e⟩
    · cases hX
    cases hX
    exact .inr ⟨by simpa using hstr, _, _, _, e, rfl⟩
  · cases h
theorem sound_len {t : TypeId} {str : Bool} {x : Operand} {c : Call} (ho : o.op = .call c) (hc : c.callee = .builtin .len) (ha : c.args.toList = [x]) (ht : c.argTypes.toList = [t])
    (hty : if str then P.underlying t = some .string else ∃ e, P.underlying t = some (.slice e)) (hx : okO x = true)
    (h : AI.go P ro s o.dst K (.len str x)) (hs : SRel w0 wk regs St s a w) : o.wp P a w (fun a' w' => ∃ s', K s' ∧ SRel w0 wk regs St s' a' w') Q := by
  obtain ⟨Imm, h1, h2, h3⟩ := hs.ex
  have hX := h2.eval x (okO_sc hx)
  have ha' : c.args = #[x] := by rw [← Array.toArray_toList (xs := c.args), ha]
  have ht' : c.argTypes = #[t] := by rw [← Array.toArray_toList (xs := c.argTypes), ht]
  simp only [AI.go] at h
  split at h <;> try exact h.elim
  rename_i n hn
  refine upon_of_run (V := .int .i64 n) (w' := w) ?_ ⟨_, h, hs.put0 h1 h2 h3 (Rel.mkLit rfl)⟩
  rcases lenOf_sound hn hX h3 with ⟨rfl, b, hV, rfl⟩ | ⟨rfl, b, m, cap, hV, rfl⟩
  · simp only [if_true] at hty
    simp [execOp, ho, resolve, hc, invoke, builtin, Builtin.len_, ha', ht', hV, run_underlying hty, goInt]
  · simp only [Bool.false_eq_true, if_false] at hty
    obtain ⟨e, hty⟩ := hty
    simp [execOp, ho, resolve, hc, invoke, builtin, Builtin.len_, ha', ht', hV, run_underlying hty, goInt]
end
end Go.Cab
namespace Go.Cab
open Go.RowKit
open Classical
section
variable {P : Program} {w0 wk : World} {regs : List (Nat × Nat × Nat)} {St Imm : Nat → Nat → Prop} {s : AS} {a : Act} {w : World} {o : Oper} {K : AS → Prop} {Q : Exit → Act → World → Prop} {ro : Nat → Bool}
theorem R.app {esz : Nat} {l1 l2 : List AV} {c1 c2 : List Value} (h1 : R Imm w (.arr esz l1) c1) (h2 : R Imm w (.arr esz l2) c2) : R Imm w (.arr esz (l1 ++ l2)) (c1 ++ c2) := by
  generalize hv : AV.arr esz l1 = v at h1
  induction h1 generalizing l1 with
  | arr0 => cases hv; simpa using h2
  | arr1 esz' e els c d hg hc hs hr ih1 ih2 =>
    cases hv
    have := R.arr1 _ e _ c _ hg hc hs (ih2 rfl)
    simpa using this
  | _ => cases hv
structure Appended (w w' : World) (base : Nat) (e : TypeId) (size : Nat) (v v' : Value) (n k : Nat) (xs : List Value) : Prop where
  own : w'.ownsRow base e size v' k xs
  os : w'.os = w.os
  tape : w'.tape = w.tape
  output : w'.output = w.output
  hsize : w.heap.size ≤ w'.heap.size
  block : ∀ k, k < w.heap.size → some k ≠ v.ownBlock → w'.heap[k]? = w.heap[k]?
  cell : ∀ b o, b < w.heap.size → (some b = v.ownBlock → o < n * size) → w'.cell? ⟨b, o, none⟩ = w.cell? ⟨b, o, none⟩
  frozen : ∀ a : Addr, a.block < w.heap.size → w'.frozen? a = w.frozen? a
  where_ : v'.ownBlock = v.ownBlock ∨ ∃ g, v'.ownBlock = some g ∧ w.heap.size ≤ g ∧ g < w'.heap.size
  sc : sc v' = true
theorem Appended.alloc {base : Nat} {e : TypeId} {size k n cap : Nat} {v : Value} {xs rest : List Value} (hx : xs.length = k * size) (hc : (xs ++ rest).length = cap * size) (hk : k ≤ cap) (hcm : cap ≤ maxLen) (hb : base ≤ w.heap.size) :
    Appended w (w.drew.alloc (.cells (xs ++ rest).toArray e)) base e size v (.slice (some ⟨w.heap.size, 0, none⟩) k cap) n k xs := by
  refine ⟨⟨hx, .inr ⟨w.heap.size, cap, _, rfl, hb, heap_alloc_new w.drew _, hk, hcm, by simpa using hc, ?_⟩⟩, rfl, rfl, rfl, by simp, fun k hk _ => Below.heap_alloc w.drew _ k hk, fun b o hb _ => ?_, fun a ha => ?_, .inr ⟨w.heap.size, rfl, Nat.le_refl _, by simp⟩, rfl⟩
  · simp [← hx]
  · exact World.cell?_alloc_lt w.drew _ _ hb
  · exact World.frozen?_alloc_old w.drew _ a (Nat.ne_of_lt ha)
theorem run_append (base : Nat) (t ty e : TypeId) (i : TypeInfo) (z : Value) (size bytes : Nat) (ht : P.underlying t = some (.slice e)) (hi : P.info? e = some i) (hz : i.zero = some z)
    (hsize : i.size = size) (hby : i.bytes = bytes) (hzs : z.cells.size = size)
    (v : Value) (n : Nat) (xs : List Value) (hown : w.ownsRow base e size v n xs) (hv : sc v = true)
    (y : Value) (m : Nat) (news : List Value) (hl : news.length = m * size) (h1 : ∀ u ∈ news, sc u = true)
    (hy : (∃ a0, y = .slice a0 0 0 ∧ m = 0) ∨ ∃ b o c, y = .slice (some ⟨b, o, none⟩) m c ∧ ∀ j u, news[j]? = some u → w.cell? ⟨b, o + j, none⟩ = some u)
    (h63 : n + m ≤ maxLen) (hbytes : (n + m) * bytes ≤ 140737488355328) (hbase : base ≤ w.heap.size) :
    ∃ v' w', (Builtin.append_ #[t, t] ty #[v, y]).run P w = .ok v' w' ∧ Appended w w' base e size v v' n (n + m) (xs ++ news) := by
  subst hsize
  subst hby
  have hsmall : n + m ≤ 9223372036854775807 := by simp only [maxLen] at h63; omega
  rcases hy with ⟨a0, rfl, rfl⟩ | ⟨b, o, c, rfl, hnews⟩
  · have hn : news = [] := List.eq_nil_of_length_eq_zero (by simpa using hl)
    subst hn
    refine ⟨v, w, ?_, ⟨by simpa using hown, rfl, rfl, rfl, Nat.le_refl _, fun _ _ _ => rfl, fun _ _ _ _ => rfl, fun _ _ => rfl, .inl rfl, hv⟩⟩
    rcases hown.2 with ⟨rfl, rfl⟩ | ⟨g, cap, cur, rfl, hbg, hg, hnc, hcm, hcs, htake⟩
    · cases a0 <;> simp [Builtin.append_, run_underlying ht, sizeOf, typeInfo, hi, Builtin.lenOf, Builtin.firstCells, loadCells, loadCellsFrom]
    · cases a0 <;> simp [Builtin.append_, run_underlying ht, sizeOf, typeInfo, hi, Builtin.lenOf, Builtin.firstCells, hnc, storeCells, loadCells, loadCellsFrom]
  · have hnews' : ∀ j u, news[j]? = some u → w.cell? ((⟨b, o, none⟩ : Addr).add j) = some u := fun j u hu => by rw [add_none]; exact hnews j u hu
    have h1' : ∀ u ∈ news, u.oneCell' = true := fun u hu => oneCell_of_sc (h1 u hu)
    have hlen : (xs ++ news).length = (n + m) * i.size := by rw [List.length_append, hown.1, hl, Nat.add_mul]
    have grown : ∀ (old : Nat), Appended w (w.drew.alloc (.cells (xs.toArray ++ news.toArray ++ Builtin.zeroCells z.cells (grownCap w (n + m) old e - (n + m))) e)) base e i.size v
        (.slice (some ⟨w.heap.size, 0, none⟩) (n + m) (grownCap w (n + m) old e)) n (n + m) (xs ++ news) := by
      intro old
      have hge := grownCap_ge w (n + m) old e
      have hcm : grownCap w (n + m) old e ≤ maxLen := grownCap_le_maxLen w (n + m) old e h63
      have := Appended.alloc (w := w) (base := base) (e := e) (size := i.size) (k := n + m) (n := n) (v := v) (cap := grownCap w (n + m) old e) (xs := xs ++ news)
        (rest := (Builtin.zeroCells z.cells (grownCap w (n + m) old e - (n + m))).toList) hlen (by
          rw [List.length_append, hlen, Array.length_toList, size_zeroCells, hzs, ← Nat.add_mul]; congr 1; omega) hge hcm hbase
      have e1 : (xs.toArray ++ news.toArray ++ Builtin.zeroCells z.cells (grownCap w (n + m) old e - (n + m))) = (xs ++ news ++ (Builtin.zeroCells z.cells (grownCap w (n + m) old e - (n + m))).toList).toArray := by
        apply Array.ext'; simp
      rw [e1]; exact this
    rcases hown.2 with ⟨rfl, rfl⟩ | ⟨g, cap, cur, rfl, hbg, hg, hnc, hcm, hcs, htake⟩
    · have hx : xs = [] := List.eq_nil_of_length_eq_zero (by simpa using hown.1)
      subst hx
      by_cases hm : m = 0
      · subst hm
        have hn : news = [] := List.eq_nil_of_length_eq_zero (by simpa using hl)
        subst hn
        refine ⟨.slice none 0 0, w, ?_, ⟨World.ownsRow_nil w base e i.size, rfl, rfl, rfl, Nat.le_refl _, fun _ _ _ => rfl, fun _ _ _ _ => rfl, fun _ _ => rfl, .inl rfl, rfl⟩⟩
        simp [Builtin.append_, run_underlying ht, sizeOf, typeInfo, hi, Builtin.lenOf, Builtin.firstCells, loadCells, loadCellsFrom]
      · have hr := run_append_nil (P := P) w t ty e i z ht hi hz ⟨b, o, none⟩ m c news hl hnews' (by omega) (by omega) (by have hb := hbytes; simp only [Nat.zero_add] at hb; omega)
        have hgr := grown 0
        simp only [Nat.zero_add, List.nil_append, Array.empty_append] at hgr ⊢
        exact ⟨_, _, hr, hgr⟩
    · by_cases hroom : n + m ≤ cap
      · have hfit : n * i.size + news.length ≤ cur.size := by rw [hl, hcs, ← Nat.add_mul]; exact Nat.mul_le_mul_right _ hroom
        have hr := run_append_room (P := P) w t ty e i ht hi g n cap cur hg ⟨b, o, none⟩ m c news hl hnews' h1' hroom hfit
        refine ⟨_, _, hr, ⟨⟨hlen, .inr ⟨g, cap, _, rfl, hbg, setRow_heap w g cur _ e _ hg, hroom, hcm, ?_, ?_⟩⟩, rfl, rfl, rfl, by simp, fun k _ hk => setRow_other w g k _ (fun e => hk (by simp [Value.ownBlock, e])), fun b' o' hb' ho' => ?_, fun a' ha' => ?_, .inl rfl, rfl⟩⟩
        · simp only [List.size_toArray, List.length_append, List.length_take, List.length_drop, Array.length_toList]
          omega
        · rw [htake, ← hlen]
          exact List.take_left
        · by_cases hbg' : b' = g
          · subst hbg'
            have ho'' := ho' rfl
            rw [cell_of_row _ b' o' _ e (0, 0) (setRow_heap w b' cur _ e _ hg), cell_of_row _ b' o' _ e (0, 0) hg]
            have hxl : (List.take (n * i.size) cur.toList).length = n * i.size := by rw [htake]; exact hown.1
            simp only [List.getElem?_toArray]
            rw [List.append_assoc, List.getElem?_append_left (by omega), List.getElem?_take, if_pos ho'']
            simp
          · simp only [World.cell?]
            rw [setRow_other w g b' _ hbg']
        · by_cases hbg' : a'.block = g
          · simp only [World.frozen?]
            rw [hbg', setRow_heap w g cur _ e _ hg, hg]
          · simp only [World.frozen?]
            rw [setRow_other w g a'.block _ hbg']
      · have holds : ∀ j u, xs[j]? = some u → w.cell? ((⟨g, 0, none⟩ : Addr).add j) = some u := hown.cells (g := g) rfl
        have hr := run_append_grow (P := P) w t ty e i z ht hi hz ⟨g, 0, none⟩ n cap xs hown.1 holds ⟨b, o, none⟩ m c news hl hnews' (by omega) (by omega) (growslice_fits (by omega) hbytes)
        exact ⟨_, _, hr, grown cap⟩
theorem HeapOk.rowNew {hp : List (Option Blk)} (hh : HeapOk w0 regs Imm hp w) {k : Nat} {e : TypeId} {V : Value} {esz : Nat} {els : List AV} {sl g : Nat} (hk : (hp[k]?).join = some (.row e V esz els sl)) (hg : V.ownBlock = some g) :
    w0.heap.size ≤ g ∧ g < w.heap.size := by
  obtain ⟨_, hf⟩ := hh.ok k _ hk
  have h1 := hf g ((regs.map fun r => r.2.1 + r.2.2).sum) hg
  refine ⟨h1.2.resolve_right ?_, h1.1⟩
  rintro ⟨r, hr, _, _, hlt⟩
  have : ∀ (l : List (Nat × Nat × Nat)), r ∈ l → r.2.1 + r.2.2 ≤ (l.map fun r => r.2.1 + r.2.2).sum := by
    intro l
    induction l with
    | nil => intro h; cases h
    | cons x l ih =>
      intro h
      simp only [List.map_cons, List.sum_cons]
      rcases List.mem_cons.1 h with rfl | h
      · omega
      · have := ih h; omega
  have := this regs hr
  omega
theorem run_frame_of {w' : World} {base : Nat} {e : TypeId} {size n k : Nat} {v v' : Value} {xs : List Value} (h : Appended w w' base e size v v' n k xs) (hv : ∀ g, v.ownBlock = some g → w0.heap.size ≤ g) (hfr : Fr regs w0 w) : Fr regs w0 w' := by
  have hs := hfr.size
  refine ⟨h.os.trans hfr.os, h.tape.trans hfr.tape, h.output.trans hfr.output, Nat.le_trans hfr.size h.hsize, fun k hk hr => ?_, fun b o hb hr => ?_, fun b o hb => ?_⟩
  · rw [h.block k (by omega) (fun he => by have := hv k he.symm; omega)]; exact hfr.block k hk hr
  · rw [h.cell b o (by omega) (fun he => by have := hv b he.symm; omega)]; exact hfr.cell b o hb hr
  · rw [h.frozen ⟨b, o, none⟩ (by show b < _; omega)]; exact hfr.frozen b o hb
theorem SRel.seals (h : SRel w0 wk regs St s a w) : ∃ Imm, ImmOk w0 wk St Imm w ∧ TmOk Imm w s.tm a.tmps ∧ HeapOk w0 regs Imm s.hp w ∧
    ∀ (k : Nat) e V esz els, s.blk k = some (.row e V esz els els.length) → ∃ cs, R Imm w (.arr esz els) cs ∧ ∀ g cap, V = .slice (some ⟨g, 0, none⟩) els.length cap → At Imm w g 0 cs := by
  obtain ⟨Imm, h1, h2, h3⟩ := h.ex
  let J : Nat → Nat → Prop := fun b o => Imm b o ∨ ∃ (k : Nat) (e : TypeId) (V : Value) (esz : Nat) (els : List AV), s.blk k = some (.row e V esz els els.length) ∧ V.ownBlock = some b ∧ o < els.length * esz
  have hJ : ∀ b o, Imm b o → J b o := fun b o h => .inl h
  have hrow : ∀ (k : Nat) e V esz els sl, s.blk k = some (.row e V esz els sl) → ∀ g, V.ownBlock = some g → ∃ cs cap cur, V = .slice (some ⟨g, 0, none⟩) els.length cap ∧ R Imm w (.arr esz els) cs ∧ w.heap[g]? = some (.cells cur e (0, 0)) ∧
      (∀ i y, cs[i]? = some y → w.cell? ⟨g, i, none⟩ = some y) ∧ cs.length = els.length * esz ∧ ∀ o, sl * esz ≤ o → ¬ Imm g o := by
    intro k e V esz els sl hk g hg
    obtain ⟨hok, _⟩ := h3.ok k _ hk
    have hc := hok.cells
    obtain ⟨cs, hR, hown, _, hsl, hm⟩ := hok
    rcases hown.2 with ⟨rfl, _⟩ | ⟨g', cap, cur, rfl, _, hgg, hnc, hcm, hcs, htake⟩
    · simp [Value.ownBlock] at hg
    · simp only [Value.ownBlock, Option.map_some, Option.some.injEq] at hg
      subst hg
      refine ⟨cs, cap, cur, rfl, hR, hgg, fun i y hy => ?_, by have := hR.len rfl; simpa [AV.sz] using this, fun o ho => hm g' o rfl ho⟩
      rw [cell_of_row w g' i cur e (0, 0) hgg]
      rw [← htake, List.getElem?_take] at hy
      split at hy
      · simpa using hy
      · cases hy
  refine ⟨J, ⟨fun b o hb => .inl (h1.sub b o hb), fun b o hb hlt => ?_, fun b o hb => ?_, h1.val⟩, h2.grow hJ (fun _ _ _ => rfl), ⟨fun k x hx => ⟨?_, (h3.ok k x hx).2⟩, h3.apart⟩, fun k e V esz els hk => ?_⟩
  · rcases hb with hb | ⟨k, e, V, esz, els, hk, hV, _⟩
    · exact h1.old b o hb hlt
    · have := (h3.rowNew hk hV).1; omega
  · rcases hb with hb | ⟨k, e, V, esz, els, hk, hV, ho⟩
    · exact h1.there b o hb
    · obtain ⟨cs, cap, cur, _, _, _, hcell, hl, _⟩ := hrow k e V esz els _ hk b hV
      rw [hcell o _ (List.getElem?_eq_getElem (by omega))]; rfl
  · have hok := (h3.ok k x hx).1
    cases x with
    | box l n v =>
      obtain ⟨⟨cs, hc, h⟩, h'⟩ := hok
      refine ⟨⟨cs, hc.mono hJ (fun _ _ _ => rfl), h⟩, fun i hi => ⟨(h' i hi).1, fun hm => ?_⟩⟩
      rcases hm with hm | ⟨k', e, V, esz, els, hk', hV, _⟩
      · exact (h' i hi).2 hm
      · by_cases hkk : k = k'
        · subst hkk; simp only [AS.blk] at hk'; rw [hx] at hk'; cases hk'
        · exact h3.apart k k' _ _ hkk hx hk' l.1 (l.2 + i) ⟨rfl, by omega, by omega⟩ hV
    | row e V esz els sl =>
      obtain ⟨cs, hR, hown, hsc, hsl, hm⟩ := hok
      refine ⟨cs, hR.mono hJ (fun _ _ _ => rfl), hown, hsc, hsl, fun b o hb ho hi => ?_⟩
      rcases hi with hi | ⟨k', e', V', esz', els', hk', hV', ho'⟩
      · exact hm b o hb ho hi
      · by_cases hkk : k = k'
        · subst hkk
          simp only [AS.blk] at hk'
          rw [hx] at hk'
          simp only [Option.some.injEq, Blk.row.injEq] at hk'
          obtain ⟨rfl, rfl, rfl, rfl, rfl⟩ := hk'
          omega
        · exact h3.apart k k' _ _ hkk hx hk' b o hb hV'
    | map r es clock =>
      obtain ⟨hm, hn⟩ := hok
      refine ⟨hm, fun o hi => ?_⟩
      rcases hi with hi | ⟨k', e', V', esz', els', hk', hV', ho'⟩
      · exact hn o hi
      · by_cases hkk : k = k'
        · subst hkk; simp only [AS.blk] at hk'; rw [hx] at hk'; cases hk'
        · exact h3.apart k k' _ _ hkk hx hk' r o rfl hV'
  · obtain ⟨hok, _⟩ := h3.ok k _ hk
    obtain ⟨cs0, hR0, hown0, _⟩ := hok
    refine ⟨cs0, hR0.mono hJ (fun _ _ _ => rfl), fun g cap hV => ?_⟩
    subst hV
    intro i y hy
    rw [Nat.zero_add]
    rcases hown0.2 with ⟨hn, _⟩ | ⟨g', cap', cur, hV', _, hgg, hnc, hcm, hcs, htake⟩
    · cases hn
    · cases hV'
      refine ⟨?_, .inr ⟨k, e, _, esz, els, hk, rfl, ?_⟩⟩
      · rw [cell_of_row w g i cur e (0, 0) hgg]
        rw [← htake, List.getElem?_take] at hy
        split at hy
        · simpa using hy
        · cases hy
      · have := (List.getElem?_eq_some_iff.1 hy).1
        rw [hown0.1] at this; exact this
theorem coe_sound {Imm : Nat → Nat → Prop} (h3 : HeapOk w0 regs Imm s.hp w)
    (hrow : ∀ (k : Nat) e V esz els, s.blk k = some (.row e V esz els els.length) → ∃ cs, R Imm w (.arr esz els) cs ∧ ∀ g cap, V = .slice (some ⟨g, 0, none⟩) els.length cap → At Imm w g 0 cs)
    {v : AV} {V : Value} (hv : Rel Imm w v V) : Rel Imm w (s.coe ro v) V := by
  unfold AS.coe
  split
  · rename_i b V'
    split
    · split
      · rename_i e V'' esz els sl hk
        split
        · rename_i hc
          obtain ⟨rfl, rfl⟩ := hc
          obtain ⟨hok, _⟩ := h3.ok b _ hk
          obtain ⟨cs, hR, hat⟩ := hrow b e V'' esz els hk
          obtain ⟨cs', hR', hown, _⟩ := hok
          rcases hv with hv | ⟨c, hv, e'⟩
          · cases hv
          cases hv
          rcases hown.2 with ⟨rfl, hn⟩ | ⟨g', cap', cur, rfl, _, hgg, hnc, _⟩
          · have : els = [] := List.eq_nil_of_length_eq_zero hn
            subst this
            exact .inr ⟨_, .slnil esz, e'⟩
          · exact .inr ⟨_, .sl esz els cs g' 0 cap' hR (hat g' cap' rfl) hnc, e'⟩
        · exact .inl rfl
      · exact .inl rfl
    · exact .inl rfl
  · exact hv
end
end Go.Cab
namespace Go.Cab
open Go.RowKit
open Classical
section
variable {P : Program} {w0 wk : World} {regs : List (Nat × Nat × Nat)} {St Imm : Nat → Nat → Prop} {s : AS} {a : Act} {w : World} {o : Oper} {K : AS → Prop} {Q : Exit → Act → World → Prop} {ro : Nat → Bool}
theorem foldl_set_get (off : Nat) : ∀ (c : List Value) (k : Nat) (cells : Array Value), off + k + c.length ≤ cells.size → ∀ m,
    ((c.zipIdx k).foldl (fun cs (x : Value × Nat) => cs.setIfInBounds (off + x.2) x.1) cells)[m]? = if off + k ≤ m ∧ m < off + k + c.length then c[m - (off + k)]? else cells[m]?
  | [], k, cells, h, m => by
    have : ¬ (off + k ≤ m ∧ m < off + k + ([] : List Value).length) := by simp only [List.length_nil]; omega
    rw [if_neg this]; rfl
  | x :: c, k, cells, h, m => by
    simp only [List.zipIdx_cons, List.foldl_cons]
    rw [foldl_set_get off c (k + 1) _ (by simp only [List.length_cons] at h; simp only [Array.size_setIfInBounds]; omega) m]
    simp only [List.length_cons] at h ⊢
    by_cases h1 : off + (k + 1) ≤ m ∧ m < off + (k + 1) + c.length
    · rw [if_pos h1, if_pos (by omega), show m - (off + k) = (m - (off + (k + 1))) + 1 from by omega, List.getElem?_cons_succ]
    · rw [if_neg h1]
      by_cases h2 : m = off + k
      · subst h2
        rw [if_pos (by omega)]
        simp [Array.getElem?_setIfInBounds]; omega
      · rw [if_neg (by omega), Array.getElem?_setIfInBounds, if_neg (by omega)]
theorem foldl_set (c' pre c post : List Value) (cells : Array Value) (e : cells.toList = pre ++ c ++ post) (hl : c'.length = c.length) :
    (c'.toArray.zipIdx.foldl (fun cs (x : Value × Nat) => cs.setIfInBounds (pre.length + x.2) x.1) cells).toList = pre ++ c' ++ post := by
  have hsz : cells.size = pre.length + c.length + post.length := by rw [← Array.length_toList, e]; simp only [List.length_append]
  have e1 : (c'.toArray.zipIdx.foldl (fun cs (x : Value × Nat) => cs.setIfInBounds (pre.length + x.2) x.1) cells) = (c'.zipIdx 0).foldl (fun cs (x : Value × Nat) => cs.setIfInBounds (pre.length + x.2) x.1) cells := by
    rw [← Array.foldl_toList]; simp
  rw [e1]
  apply List.ext_getElem?
  intro m
  rw [Array.getElem?_toList, foldl_set_get pre.length c' 0 cells (by omega) m]
  simp only [Nat.add_zero]
  by_cases h1 : pre.length ≤ m ∧ m < pre.length + c'.length
  · rw [if_pos h1, List.append_assoc, List.getElem?_append_right h1.1, List.getElem?_append_left (by omega)]
  · rw [if_neg h1, ← Array.getElem?_toList, e]
    by_cases h2 : m < pre.length
    · rw [List.append_assoc, List.getElem?_append_left h2, List.append_assoc, List.getElem?_append_left h2]
    · rw [List.getElem?_append_right (by simp; omega), List.getElem?_append_right (by simp; omega)]
      congr 1; simp; omega
def placesOk (place : Nat → Option (Nat × Nat)) : AV → Prop
  | .st ns _ => ∀ (i n : Nat), ns[i]? = some n → place i = some ((ns.take i).sum, n)
  | .arr esz _ => ∀ i, place i = some (i * esz, esz)
  | _ => True
theorem fill_sound (place : Nat → Option (Nat × Nat)) : ∀ (parts : List (Nat × Operand)) (z z' : AV) (cells : Array Value), placesOk place z → R Imm w z cells.toList → (∀ x ∈ cells.toList, sc x = true) →
    (∀ p ∈ parts, okO p.2 = true) → TmOk Imm w s.tm a.tmps → fillAV s z parts = some z' →
    ∃ cells', Instr.fill place cells (parts.map fun p => (p.1, a.eval p.2)) = some cells' ∧ R Imm w z' cells'.toList ∧ (∀ x ∈ cells'.toList, sc x = true) ∧ (z.isTup = false → z'.isTup = false) ∧ (∀ ns fs, z = .st ns fs → ∃ fs', z' = .st ns fs') ∧ (∀ e els, z = .arr e els → ∃ els', z' = .arr e els' ∧ els'.length = els.length)
  | [], z, z', cells, _, hR, hs, _, _, h => by
    simp only [fillAV, Option.some.injEq] at h
    subst h
    exact ⟨cells, rfl, hR, hs, fun h => h, fun ns fs h => ⟨fs, h⟩, fun e els h => ⟨els, h, rfl⟩⟩
  | (i, x) :: rest, z, z', cells, hp, hR, hs, hok, hT, h => by
    simp only [fillAV] at h
    split at h
    · rename_i n u hsub
      split at h
      · rename_i hc
        obtain ⟨htup, hsz⟩ := hc
        have hX := hT.eval x (okO_sc (hok (i, x) (by simp)))
        rcases hX with hX | ⟨c', hX, e⟩
        · rw [hX] at htup; simp [AV.isTup] at htup
        have hc'l : c'.length = n := by rw [hX.len htup, hsz]
        have hc's := hX.scs htup
        have hcells : (a.eval x).cells = c'.toArray := by rw [e]; exact hX.cells htup
        have step : ∃ pre c post, cells.toList = pre ++ c ++ post ∧ place i = some (pre.length, n) ∧ c.length = n ∧ R Imm w (z.upd [i] (s.ev x)) (pre ++ c' ++ post) ∧ placesOk place (z.upd [i] (s.ev x)) := by
          unfold AV.sub at hsub
          split at hsub
          · rename_i ns fs
            split at hsub
            · rename_i k f hk hf
              simp only [Option.some.injEq, Prod.mk.injEq] at hsub
              obtain ⟨rfl, rfl⟩ := hsub
              obtain ⟨pre, c, post, e1, hpre, hcl, hfR, hfs, hset⟩ := hR.field i k f hk hf
              refine ⟨pre, c, post, e1, by rw [hp i k hk, hpre], hcl, ?_, ?_⟩
              · simp only [AV.upd]; exact hset _ _ hX hc'l hc's
              · simpa [AV.upd, placesOk] using hp
            · cases hsub
          · rename_i esz els
            split at hsub
            · rename_i f hf
              simp only [Option.some.injEq, Prod.mk.injEq] at hsub
              obtain ⟨rfl, rfl⟩ := hsub
              obtain ⟨pre, c, post, e1, hpre, hcl, hfR, hfs, hset⟩ := hR.elem i f hf
              refine ⟨pre, c, post, e1, by rw [hp i, hpre], hcl, ?_, ?_⟩
              · simp only [AV.upd]; exact hset _ _ hX hc'l hc's
              · simpa [AV.upd, placesOk] using hp
            · cases hsub
          · cases hsub
        obtain ⟨pre, c, post, e1, hpl, hcl, hR', hp'⟩ := step
        have hfold := foldl_set c' pre c post cells e1 (by omega)
        have hs' : ∀ y ∈ pre ++ c' ++ post, sc y = true := fun y hy => by
          rcases List.mem_append.1 hy with hy | hy
          · rcases List.mem_append.1 hy with hy | hy
            · exact hs y (by rw [e1]; simp [hy])
            · exact hc's y hy
          · exact hs y (by rw [e1]; simp [hy])
        obtain ⟨cells', h1, h2, h3, h4, h5, h6⟩ := fill_sound place rest (z.upd [i] (s.ev x)) z' (c'.toArray.zipIdx.foldl (fun cs (x : Value × Nat) => cs.setIfInBounds (pre.length + x.2) x.1) cells) hp' (by rw [hfold]; exact hR') (by rw [hfold]; exact hs')
          (fun p hp => hok p (by simp [hp])) hT h
        refine ⟨cells', ?_, h2, h3, ?_, ?_, ?_⟩
        · simp only [List.map_cons, Instr.fill, hpl, hcells]
          have hb : ¬ (pre.length + c'.length > cells.size) := by rw [← Array.length_toList, e1]; simp; omega
          simp only [List.size_toArray, hc'l, ne_eq, not_true_eq_false, decide_false, Bool.false_or]
          rw [if_neg (by simpa [hc'l] using hb)]
          exact h1
        · intro hz
          refine h4 ?_
          cases z <;> simp [AV.isTup, AV.upd] at hz ⊢
        · intro ns fs hz
          subst hz
          obtain ⟨fs', h⟩ := h5 ns _ (by simp only [AV.upd]; rfl)
          exact ⟨fs', h⟩
        · intro e els hz
          subst hz
          obtain ⟨els', h, hl⟩ := h6 e _ (by simp only [AV.upd]; rfl)
          exact ⟨els', h, by rw [hl]; simp⟩
      · cases h
    · cases h
def fieldsOk (P : Program) : List Field → List Nat → Nat → Bool
  | [], [], _ => true
  | f :: fs, n :: ns, off => f.offset == off && szOf P f.type == some n && fieldsOk P fs ns (off + n)
  | _, _, _ => false
theorem fieldsOk_get {P : Program} : ∀ {fs : List Field} {ns : List Nat} {off : Nat}, fieldsOk P fs ns off = true → ∀ (i n : Nat), ns[i]? = some n → ∃ f, fs[i]? = some f ∧ f.offset = off + (ns.take i).sum ∧ szOf P f.type = some n
  | [], [], _, _, i, n, h => by simp at h
  | f :: fs, m :: ns, off, h, i, n, hn => by
    simp only [fieldsOk, Bool.and_eq_true, beq_iff_eq] at h
    cases i with
    | zero =>
      simp only [List.getElem?_cons_zero, Option.some.injEq] at hn
      subst hn
      exact ⟨f, rfl, by simpa using h.1.1, h.1.2⟩
    | succ i =>
      simp only [List.getElem?_cons_succ] at hn
      obtain ⟨g, h1, h2, h3⟩ := fieldsOk_get h.2 i n hn
      exact ⟨g, h1, by rw [h2]; simp; omega, h3⟩
  | [], _ :: _, _, h, _, _, _ => by simp [fieldsOk] at h
  | _ :: _, [], _, h, _, _, _ => by simp [fieldsOk] at h
theorem fieldsOk_len {P : Program} : ∀ {fs : List Field} {ns : List Nat} {off : Nat}, fieldsOk P fs ns off = true → fs.length = ns.length ∧ ∀ f ∈ fs, (szOf P f.type).isSome = true
  | [], [], _, _ => by simp
  | f :: fs, m :: ns, off, h => by
    simp only [fieldsOk, Bool.and_eq_true, beq_iff_eq] at h
    obtain ⟨h1, h2⟩ := fieldsOk_len h.2
    refine ⟨by simp [h1], fun g hg => ?_⟩
    rcases List.mem_cons.1 hg with rfl | hg
    · rw [h.1.2]; rfl
    · exact h2 g hg
  | [], _ :: _, _, h => by simp [fieldsOk] at h
  | _ :: _, [], _, h => by simp [fieldsOk] at h
theorem run_places {P : Program} (w : World) : ∀ (fs : List Field), (∀ f ∈ fs, (szOf P f.type).isSome = true) →
    (fs.mapM (m := Sem) fun f => do pure (f.offset, ← sizeOf f.type)).run P w = .ok (fs.map fun f => (f.offset, (szOf P f.type).getD 0)) w
  | [], _ => by simp
  | f :: fs, h => by
    obtain ⟨n, hn⟩ := Option.isSome_iff_exists.1 (h f (by simp))
    have ih := run_places (P := P) w fs (fun g hg => h g (by simp [hg]))
    simp only [List.mapM_cons, Sem.run_bind, run_sizeOf' hn, Result.andThen_ok, Sem.run_pure, ih, List.map_cons, hn, Option.getD_some]
end
end Go.Cab
namespace Go.Cab
open Go.RowKit
open Classical
section
variable {P : Program} {w0 wk : World} {regs : List (Nat × Nat × Nat)} {St Imm : Nat → Nat → Prop} {s : AS} {a : Act} {w : World} {o : Oper} {K : AS → Prop} {Q : Exit → Act → World → Prop} {ro : Nat → Bool}
theorem okParts {parts : List (Nat × Operand)} (h : parts.all (fun p => okO p.2) = true) : ∀ p ∈ parts, okO p.2 = true := by simpa using h
def buildOk (P : Program) (t : TypeId) : AV → Bool
  | .st ns _ => match P.underlying t with | some (.struct fields) => fieldsOk P fields.toList ns 0 | _ => false
  | .arr esz _ => match P.underlying t with | some (.array _ e) => szOf P e == some esz | _ => false
  | _ => false
theorem sound_build {t : TypeId} {n : Nat} {z : AV} {parts : Array (Nat × Operand)} (ho : o.op = .build t parts) (hz : zeroOf P t = some (n, z)) (hb : buildOk P t z = true) (hp : parts.toList.all (fun p => okO p.2) = true)
    (h : AI.go P ro s o.dst K (.build z parts.toList)) (hs : SRel w0 wk regs St s a w) : o.wp P a w (fun a' w' => ∃ s', K s' ∧ SRel w0 wk regs St s' a' w') Q := by
  obtain ⟨Imm, h1, h2, h3⟩ := hs.ex
  obtain ⟨i, v, hi, hzv, hn, ht, hl, hR⟩ := zeroOf_spec hz
  simp only [AI.go] at h
  split at h
  · rename_i z' hf
    have hscs := (hR Imm w).scs ht
    cases z <;> simp only [buildOk] at hb <;> try (cases hb; done)
    case st ns fs =>
      split at hb
      · rename_i fields hu
        obtain ⟨hlen, hsome⟩ := fieldsOk_len hb
        obtain ⟨cells', hfill, hR', hs', _, hst, _⟩ := fill_sound (s := s) (a := a) (Imm := Imm) (w := w) (((fields.toList.map fun f => (f.offset, (szOf P f.type).getD 0)).toArray)[·]?) parts.toList (.st ns fs) z' v.cells
          (by
            intro i m hm
            obtain ⟨f, hf1, hf2, hf3⟩ := fieldsOk_get hb i m hm
            simp only [List.getElem?_toArray, List.getElem?_map, hf1, Option.map_some, hf2, hf3, Option.getD_some, Nat.zero_add])
          (hR Imm w) hscs (okParts hp) h2 hf
        obtain ⟨fs', rfl⟩ := hst ns fs rfl
        refine upon_of_run (V := .agg cells') (w' := w) ?_ ⟨_, h, hs.put0 h1 h2 h3 (.inr ⟨_, hR', by simp [asVal]⟩)⟩
        have hpl := run_places (P := P) w fields.toList hsome
        have hpl' : (fields.mapM (m := Sem) fun f => do pure (f.offset, ← sizeOf f.type)).run P w = .ok (fields.toList.map fun f => (f.offset, (szOf P f.type).getD 0)).toArray w := by
          rw [← Array.toArray_toList (xs := fields), List.mapM_toArray]
          simp only [Sem.run_map, hpl, Result.andThen_ok]
        simp only [execOp, ho, Instr.build, zeroValue, typeInfo, Sem.run_bind, run_program, Result.andThen_ok, hi, hzv, Sem.run_pure, run_underlying hu, hpl', Array.toList_map]
        rw [hfill]
        simp
      · cases hb
    case arr esz els =>
      split at hb
      · rename_i ln e hu
        simp only [beq_iff_eq] at hb
        obtain ⟨cells', hfill, hR', hs', _, _, harr⟩ := fill_sound (s := s) (a := a) (Imm := Imm) (w := w) (fun i => some (i * esz, esz)) parts.toList (.arr esz els) z' v.cells
          (fun i => rfl) (hR Imm w) hscs (okParts hp) h2 hf
        obtain ⟨els', rfl, _⟩ := harr esz els rfl
        refine upon_of_run (V := .agg cells') (w' := w) ?_ ⟨_, h, hs.put0 h1 h2 h3 (.inr ⟨_, hR', by simp [asVal]⟩)⟩
        simp only [execOp, ho, Instr.build, zeroValue, typeInfo, Sem.run_bind, run_program, Result.andThen_ok, hi, hzv, Sem.run_pure, run_underlying hu, run_sizeOf' hb, Array.toList_map]
        rw [hfill]
        simp
      · cases hb
  · exact h.elim
theorem reps_len (c : List Value) : ∀ n, (reps c n).length = n * c.length
  | 0 => by simp [reps]
  | n + 1 => by simp [reps, reps_len c n, Nat.add_mul, Nat.add_comm]
theorem reps_get (c : List Value) : ∀ (n m : Nat), m < n * c.length → (reps c n)[m]? = c[m % c.length]?
  | 0, m, h => by simp at h
  | n + 1, m, h => by
    simp only [reps]
    by_cases h1 : m < c.length
    · rw [List.getElem?_append_left h1, Nat.mod_eq_of_lt h1]
    · rw [List.getElem?_append_right (by omega), reps_get c n (m - c.length) (by rw [Nat.add_mul] at h; omega)]
      congr 1
      rw [← Nat.mod_eq_sub_mod (by omega)]
theorem range_reps (z : Array Value) (n k : Nat) (hk : z.size = k) : ((Array.range (n * k)).map (fun i => z[i % z.size]!)).toList = reps z.toList n := by
  apply List.ext_getElem?
  intro m
  by_cases hm : m < n * k
  · rw [reps_get _ _ _ (by simpa [hk] using hm)]
    have hpos : 0 < z.size := by
      rcases Nat.eq_zero_or_pos z.size with h0 | h0
      · rw [hk] at h0; subst h0; simp at hm
      · exact h0
    have hlt : m % z.size < z.size := Nat.mod_lt _ hpos
    simp [hm, Array.length_toList, getElem!_pos, hlt]
  · rw [List.getElem?_eq_none (by simp; omega), List.getElem?_eq_none (by rw [reps_len]; simp [hk]; omega)]
theorem sound_bslice {t e : TypeId} {n esz : Nat} {z : AV} {parts : Array (Nat × Operand)} (ho : o.op = .buildSlice t n parts) (ht : P.underlying t = some (.slice e)) (hz : zeroOf P e = some (esz, z)) (hsmall : n * esz ≤ 16777216) (hp : parts.toList.all (fun p => okO p.2) = true)
    (h : AI.go P ro s o.dst K (.bslice esz z n parts.toList)) (hs : SRel w0 wk regs St s a w) : o.wp P a w (fun a' w' => ∃ s', K s' ∧ SRel w0 wk regs St s' a' w') Q := by
  obtain ⟨Imm, h1, h2, h3⟩ := hs.ex
  obtain ⟨i, v, hi, hzv, hn, htup, hl, hR⟩ := zeroOf_spec hz
  simp only [AI.go] at h
  split at h
  · rename_i k els hf
    have hzR := hR Imm w
    have hreps : R Imm w (.arr esz (List.replicate n z)) (reps v.cells.toList n) := reps_R hzR hl (hzR.scs htup) n
    have hsz : v.cells.size = esz := by rw [← Array.length_toList]; exact hl
    let cells : Array Value := (Array.range (n * esz)).map ((if n * esz = 0 then #[] else v.cells)[· % (if n * esz = 0 then #[] else v.cells).size]!)
    have hcells : cells.toList = reps v.cells.toList n := by
      by_cases h0 : n * esz = 0
      · have e1 : cells.toList = [] := by simp [cells, h0]
        rw [e1]
        have : (reps v.cells.toList n).length = 0 := by rw [reps_len, hl]; exact h0
        exact (List.eq_nil_of_length_eq_zero this).symm
      · simp only [cells, if_neg h0]
        exact range_reps v.cells n esz hsz
    obtain ⟨cells', hfill, hR', hs', _, _, harr⟩ := fill_sound (s := s) (a := a) (Imm := Imm) (w := w) (fun i => some (i * esz, esz)) parts.toList (.arr esz (List.replicate n z)) (.arr k els) cells
      (fun i => rfl) (by rw [hcells]; exact hreps) (by rw [hcells]; exact hreps.scs rfl) (okParts hp) h2 hf
    obtain ⟨els', heq, hlen⟩ := harr esz _ rfl
    cases heq
    have hlen' : els.length = n := by rw [hlen]; simp
    have hnew := SRel.newList (dst := o.dst) hs h1 h2 h3 (rest := []) hR' e n (by omega) (fr := (0, 0))
    simp only [List.append_nil, Array.toArray_toList, hlen'] at hnew
    refine upon_of_run (V := .slice (some ⟨w.heap.size, 0, none⟩) n n) (w' := w.alloc (.cells cells' e)) ?_ ⟨_, h, hnew⟩
    have hsm : ¬ (n * esz > 16777216) := by omega
    have hsm' : ¬ (16777216 < n * esz) := by omega
    have hsize := run_sizeOf' (P := P) (w := w) (t := e) (n := esz) (by simp [szOf, hi, hn])
    by_cases h0 : n * esz = 0
    · simp only [cells, if_pos h0] at hfill
      simp only [execOp, ho, Instr.buildSlice, Sem.run_bind, run_underlying ht, Result.andThen_ok, hsize]
      simp [hsm', h0, newRow]
      simp only [h0] at hfill
      simp at hfill
      rw [hfill]
      simp
    · simp only [cells, if_neg h0] at hfill
      simp only [execOp, ho, Instr.buildSlice, Sem.run_bind, run_underlying ht, Result.andThen_ok, hsize]
      simp [hsm', h0, newRow, zeroValue, typeInfo, hi, hzv, hfill]
  · exact h.elim
theorem Blk.rowOk {w' : World} {e : TypeId} {V : Value} {esz sl : Nat} {els : List AV} {cs : List Value} (hR : R Imm w' (.arr esz els) cs) (hown : w'.ownsRow 0 e esz V els.length cs) (hsc : sc V = true) (hsl : sl ≤ els.length)
    (hm : ∀ g, V.ownBlock = some g → ∀ o, sl * esz ≤ o → ¬ Imm g o) : (Blk.row e V esz els sl).ok Imm w' := ⟨cs, hR, hown, hsc, hsl, fun b o hb ho => hm b hb o ho⟩
theorem ownsRow_base {w : World} {b b' : Nat} {e : TypeId} {size : Nat} {v : Value} {n : Nat} {xs : List Value} (h : w.ownsRow b e size v n xs) (hb : ∀ g, v.ownBlock = some g → b' ≤ g) : w.ownsRow b' e size v n xs := by
  refine ⟨h.1, ?_⟩
  rcases h.2 with hn | ⟨g, cap, cur, rfl, _, rest⟩
  · exact .inl hn
  · exact .inr ⟨g, cap, cur, rfl, hb g rfl, rest⟩
theorem ImmOk.lt (h : ImmOk w0 wk St Imm w) {b o : Nat} (hb : Imm b o) : b < w.heap.size := by
  obtain ⟨y, hy⟩ := Option.isSome_iff_exists.1 (h.there b o hb)
  exact World.block_lt_of_cell? w _ hy
theorem sound_append {t e : TypeId} {esz bytes : Nat} {i : TypeInfo} {z : Value} {x y : Operand} {c : Call} (ho : o.op = .call c) (hc : c.callee = .builtin .append) (ha : c.args.toList = [x, y]) (hty : c.argTypes.toList = [t, t])
    (ht : P.underlying t = some (.slice e)) (hi : P.info? e = some i) (hz : i.zero = some z) (hsize : i.size = esz) (hby : i.bytes = bytes) (hzs : z.cells.size = esz) (hx : okO x = true) (hy : okO y = true)
    (h : AI.go P ro s o.dst K (.append e esz bytes x y)) (hs : SRel w0 wk regs St s a w) : o.wp P a w (fun a' w' => ∃ s', K s' ∧ SRel w0 wk regs St s' a' w') Q := by
  obtain ⟨Imm, h1, h2, h3, hseal⟩ := hs.seals
  have hX := h2.eval x (okO_sc hx)
  have hY := coe_sound (ro := ro) h3 hseal (h2.eval y (okO_sc hy))
  have ha' : c.args = #[x, y] := by rw [← Array.toArray_toList (xs := c.args), ha]
  have ht' : c.argTypes = #[t, t] := by rw [← Array.toArray_toList (xs := c.argTypes), hty]
  simp only [AI.go] at h
  split at h <;> try exact h.elim
  rename_i ob els sl esz' ys hrow hcoe
  obtain ⟨rfl, h63, hbytes, hK⟩ := h
  rw [hcoe] at hY
  obtain ⟨news, hnR, hnl, hns, hysrc⟩ : ∃ news, R Imm w (.arr esz' ys) news ∧ news.length = ys.length * esz' ∧ (∀ u ∈ news, sc u = true) ∧
      ((∃ a0, a.eval y = .slice a0 0 0 ∧ ys.length = 0) ∨ ∃ b o c, a.eval y = .slice (some ⟨b, o, none⟩) ys.length c ∧ ∀ j u, news[j]? = some u → w.cell? ⟨b, o + j, none⟩ = some u) := by
    rcases R.slLen hY with ⟨a0, e1, rfl⟩ | ⟨b, off, cap, cs, e1, _, hR, hat⟩
    · exact ⟨[], .arr0 _, by simp, by simp, .inl ⟨a0, e1, rfl⟩⟩
    · refine ⟨cs, hR, ?_, hR.scs rfl, .inr ⟨b, off, cap, e1, fun j u hu => (hat j u hu).1⟩⟩
      have := hR.len rfl
      simpa [AV.sz] using this
  obtain ⟨xs, V0, hV0, hxR, hown, hscV, hsl, hm, hnew0⟩ : ∃ xs V0, a.eval x = V0 ∧ R Imm w (.arr esz' els) xs ∧ w.ownsRow 0 e esz' V0 els.length xs ∧ sc V0 = true ∧ sl ≤ els.length ∧ (∀ g, V0.ownBlock = some g → ∀ o, sl * esz' ≤ o → ¬ Imm g o) ∧
      ((V0.ownBlock = none) ∨ ∃ b, ob = some b ∧ (s.hp[b]?).join = some (.row e V0 esz' els sl)) := by
    unfold AS.rowOf at hrow
    split at hrow
    · rename_i hex
      simp only [Option.some.injEq, Prod.mk.injEq] at hrow
      obtain ⟨rfl, rfl, rfl⟩ := hrow
      rw [hex] at hX
      obtain ⟨e1, _⟩ := hX.lit
      exact ⟨[], _, e1, .arr0 _, World.ownsRow_nil w 0 e esz', rfl, by simp, by simp [Value.ownBlock], .inl rfl⟩
    · rename_i b V hex
      split at hrow <;> try (cases hrow; done)
      rename_i e' V' esz2 els2 sl2 hblk
      split at hrow <;> try (cases hrow; done)
      rename_i hcond
      obtain ⟨rfl, rfl, rfl⟩ := hcond
      simp only [Option.some.injEq, Prod.mk.injEq] at hrow
      obtain ⟨rfl, rfl, rfl⟩ := hrow
      rw [hex] at hX
      rcases hX with hX | ⟨cs', hX, e1⟩
      · cases hX
      cases hX
      obtain ⟨hok, _⟩ := h3.ok b _ hblk
      obtain ⟨cs, hR, hown, hsc, hsl, hm⟩ := hok
      exact ⟨cs, V', e1, hR, hown, hsc, hsl, fun g hg o ho => hm g o hg ho, .inr ⟨b, rfl, hblk⟩⟩
    · cases hrow
  have hVnew : ∀ g, V0.ownBlock = some g → w0.heap.size ≤ g ∧ g < w.heap.size := fun g hg => by
    rcases hnew0 with h' | ⟨b, rfl, hb⟩
    · rw [h'] at hg; cases hg
    · exact h3.rowNew hb hg
  obtain ⟨V', w', hrun, hap⟩ := run_append (P := P) (w := w) 0 t o.type e i z esz' bytes ht hi hz hsize hby hzs V0 els.length xs hown hscV (a.eval y) ys.length news hnl hns hysrc h63 hbytes (Nat.zero_le _)
  have hImmW : ∀ b o, Imm b o → w'.cell? ⟨b, o, none⟩ = w.cell? ⟨b, o, none⟩ := fun b o hi => by
    refine hap.cell b o (h1.lt hi) fun he => ?_
    rcases Nat.lt_or_ge o (els.length * esz') with hlt | hge
    · exact hlt
    · exact absurd hi (hm b he.symm o (Nat.le_trans (Nat.mul_le_mul_right _ hsl) hge))
  have hI' : ImmOk w0 wk St Imm w' := ⟨h1.sub, h1.old, fun b o hb => by rw [hImmW b o hb]; exact h1.there b o hb, fun b o hb => by rw [hImmW b o (h1.sub b o hb)]; exact h1.val b o hb⟩
  have hV'lt : ∀ g, V'.ownBlock = some g → g < w'.heap.size ∧ w0.heap.size ≤ g := fun g hg => by
    rcases hap.where_ with h' | ⟨g', h', hge, hlt⟩
    · rw [h'] at hg
      have := hVnew g hg
      exact ⟨Nat.lt_of_lt_of_le this.2 hap.hsize, this.1⟩
    · rw [hg] at h'; cases h'
      exact ⟨hlt, Nat.le_trans hs.frame.size hge⟩
  have hfr : Fr regs w0 w' := run_frame_of hap (fun g hg => (hVnew g hg).1) hs.frame
  have hother : ∀ (k : Nat) (x : Blk), ((hpDrop s.hp ob)[k]?).join = some x → x.ok Imm w' ∧ (∀ b o, x.foot b o → b < w'.heap.size ∧ (w0.heap.size ≤ b ∨ inReg regs b o)) ∧ (∀ g o, V0.ownBlock = some g → ¬ x.foot g o) ∧ (∀ b o, x.foot b o → b < w.heap.size) := by
    intro k x hx
    have hx' : (s.hp[k]?).join = some x ∧ ∀ b, ob = some b → k ≠ b := by
      cases ob with
      | none => exact ⟨hx, by simp⟩
      | some b => exact ⟨(hp_set_none hx).2, fun b' hb' => by cases hb'; exact (hp_set_none hx).1⟩
    obtain ⟨hok, hf⟩ := h3.ok k x hx'.1
    have hdis : ∀ g o, V0.ownBlock = some g → ¬ x.foot g o := fun g o hg hfx => by
      rcases hnew0 with h' | ⟨b, hb, hblk⟩
      · rw [h'] at hg; cases hg
      · exact h3.apart b k _ x (Ne.symm (hx'.2 b hb)) hblk hx'.1 g o hg hfx
    have hne : ∀ b o, x.foot b o → some b ≠ V0.ownBlock := fun b o hfx he => hdis b o he.symm hfx
    refine ⟨hok.keep (fun _ _ h => h) hImmW (fun _ _ _ h => h) (fun b o hfx => hap.cell b o (hf b o hfx).1 (fun he => absurd he (hne b o hfx))) (fun b o hfx => hap.frozen _ (hf b o hfx).1) ?_, fun b o hfx => ⟨Nat.lt_of_lt_of_le (hf b o hfx).1 hap.hsize, (hf b o hfx).2⟩, hdis, fun b o hfx => (hf b o hfx).1⟩
    intro b hb
    have hb := Blk.whole_foot hb 0
    exact hap.block b (hf b 0 hb).1 (hne b 0 hb)
  have hbase : HeapOk w0 regs Imm (hpDrop s.hp ob) w' := ⟨fun k x hx => ⟨(hother k x hx).1, (hother k x hx).2.1⟩, fun k k' x y hne hx hy => by
    cases ob with
    | none => exact h3.apart k k' x y hne hx hy
    | some b => exact (h3.drop b).apart k k' x y hne hx hy⟩
  have hnewRow : (Blk.row e V' esz' (els ++ ys) sl).ok Imm w' := by
    refine Blk.rowOk ((hxR.app hnR).mono (fun _ _ h => h) hImmW) (by rw [List.length_append]; exact hap.own) hap.sc (by rw [List.length_append]; omega) fun g hg o ho hi => ?_
    rcases hap.where_ with h' | ⟨g', h', hge, _⟩
    · rw [h'] at hg; exact hm g hg o ho hi
    · rw [hg] at h'; cases h'
      have := h1.lt hi
      omega
  have hH : HeapOk w0 regs Imm ((hpDrop s.hp ob).set (s.slot o.dst) (some (.row e V' esz' (els ++ ys) sl))) w' := by
    refine hbase.lay hnewRow (fun b o hf => hV'lt b hf) fun k y hk hy b o hf hfy => ?_
    obtain ⟨_, _, hd, hlt⟩ := hother k y hy
    rcases hap.where_ with h' | ⟨g', h', hge, _⟩
    · simp only [Blk.foot] at hf
      rw [h'] at hf
      exact hd b o hf hfy
    · simp only [Blk.foot] at hf
      rw [hf] at h'; cases h'
      have := hlt b o hfy
      omega
  refine upon_of_run (V := V') (w' := w') ?_ ⟨_, hK V', ?_⟩
  · simp [execOp, ho, resolve, hc, invoke, builtin, ha', ht', hV0, hrun]
  · exact ⟨by rw [aput_defers]; exact hs.defers, by rw [aput_size, put_len]; exact hs.tsize, hs.tab, hfr, Imm, hI', h2.put hs.tsize (fun _ _ h => h) hImmW (.inr (.inr ⟨_, .own _ V' hap.sc, rfl⟩)), hH⟩
theorem sound_mkslice {t e : TypeId} {esz bytes : Nat} {i : TypeInfo} {z : AV} {l c : Operand} (ho : o.op = .makeSlice t l c) (ht : P.underlying t = some (.slice e)) (hz : zeroOf P e = some (esz, z)) (hi : P.info? e = some i) (hby : i.bytes = bytes) (hl : okO l = true) (hc : okO c = true)
    (h : AI.go P ro s o.dst K (.mkslice e esz bytes z l c)) (hs : SRel w0 wk regs St s a w) : o.wp P a w (fun a' w' => ∃ s', K s' ∧ SRel w0 wk regs St s' a' w') Q := by
  obtain ⟨Imm, h1, h2, h3⟩ := hs.ex
  have hL := h2.eval l (okO_sc hl)
  have hC := h2.eval c (okO_sc hc)
  obtain ⟨i', v, hi', hzv, hn, htup, hlz, hR⟩ := zeroOf_spec hz
  have : i' = i := by rw [hi] at hi'; exact (Option.some.inj hi').symm
  subst this
  simp only [AI.go] at h
  split at h <;> try exact h.elim
  rename_i k1 n k2 m hl1 hc1
  obtain ⟨h0, hnm, hmax, hb, hK⟩ := h
  rw [hl1] at hL; rw [hc1] at hC
  obtain ⟨eL, _⟩ := hL.lit
  obtain ⟨eC, _⟩ := hC.lit
  have hm63 : m ≤ 9223372036854775807 := by simp only [maxLen] at hmax; omega
  have hrun := run_make (P := P) w t e i' v ht hi hzv k1 k2 n m h0 hnm (by rw [hby]; omega) hm63
  let w' := w.alloc (.cells (madeCells v.cells (m.toNat * i'.size)) e)
  have hfr : Fr [] w w' := Fr.alloc [] w _
  have hk := hfr.keepImm h1
  have hI' := h1.grow hfr
  have hzR := hR Imm w'
  have hsz : v.cells.size = esz := by rw [← Array.length_toList]; exact hlz
  have hcells : (madeCells v.cells (m.toNat * i'.size)).toList = reps v.cells.toList m.toNat := by
    rw [hn]; exact range_reps v.cells m.toNat esz hsz
  have hreps : R Imm w' (.arr esz (List.replicate n.toNat z)) (reps v.cells.toList n.toNat) := reps_R hzR hlz (hzR.scs htup) _
  have htake : (reps v.cells.toList m.toNat).take (n.toNat * esz) = reps v.cells.toList n.toNat := by
    apply List.ext_getElem?
    intro j
    rw [List.getElem?_take]
    have hle : n.toNat * v.cells.toList.length ≤ m.toNat * v.cells.toList.length := Nat.mul_le_mul_right _ (by omega)
    split
    · rename_i hj
      rw [reps_get _ _ _ (by rw [hlz] at *; omega), reps_get _ _ _ (by rw [hlz]; omega)]
    · rename_i hj
      rw [List.getElem?_eq_none (by rw [reps_len, hlz]; omega)]
  have hrow : (Blk.row e (.slice (some ⟨w.heap.size, 0, none⟩) n.toNat m.toNat) esz (List.replicate n.toNat z) 0).ok Imm w' := by
    refine Blk.rowOk hreps ⟨by rw [reps_len, hlz]; simp, .inr ⟨w.heap.size, m.toNat, _, by simp, Nat.zero_le _, heap_alloc_new w _, by simp; omega, hmax, ?_, ?_⟩⟩ rfl (Nat.zero_le _) ?_
    · rw [size_madeCells, hn]
    · rw [hcells, List.length_replicate]; exact htake
    · intro g hg o _ hi
      cases hg
      exact absurd (h1.lt hi) (Nat.lt_irrefl _)
  refine upon_of_run (V := .slice (some ⟨w.heap.size, 0, none⟩) n.toNat m.toNat) (w' := w') ?_ ⟨_, hK (.slice (some ⟨w.heap.size, 0, none⟩) n.toNat m.toNat), ?_⟩
  · simp [execOp, ho, eL, eC, hrun, w']
  · refine hs.put (Imm' := Imm) (hfr.any _) h2 (fun _ _ h => h) hk hI' ?_ (.inr (.inr ⟨_, .own _ _ rfl, rfl⟩))
    refine HeapOk.lay (h3.grow hfr (fun _ _ h => h) (fun _ _ h _ => h) h1.there) hrow ?_ ?_
    · rintro b o hf
      cases hf
      exact ⟨by simp [w'], hs.frame.size⟩
    · rintro k y hk' hy b o hf hfy
      cases hf
      have := ((h3.ok k y hy).2 _ _ hfy).1
      simp at this
theorem sound_eqv {t u : TypeId} {neg : Bool} {x y : Operand} (ho : o.op = .binOp (if neg then .neq else .eql) t x y u) (hk : P.keyTypeAt 12 t = true) (hg : P.eqGuardType P.depth t = false) (hx : okO x = true) (hy : okO y = true)
    (h : AI.go P ro s o.dst K (.eqv t neg x y)) (hs : SRel w0 wk regs St s a w) : o.wp P a w (fun a' w' => ∃ s', K s' ∧ SRel w0 wk regs St s' a' w') Q := by
  obtain ⟨Imm, h1, h2, h3⟩ := hs.ex
  have hX := h2.eval x (okO_sc hx)
  have hY := h2.eval y (okO_sc hy)
  simp only [AI.go] at h
  obtain ⟨b, hb, hxa, hya, hK⟩ := h
  rcases hX with hX | ⟨cs, hX, eX⟩
  · rw [hX] at hxa; simp [AV.isAgg] at hxa
  rcases hY with hY | ⟨cs', hY, eY⟩
  · rw [hY] at hya; simp [AV.isAgg] at hya
  obtain ⟨D, D', la, lb, f1, f2, k1, k2, hiff⟩ := hb Imm w cs cs' hX hY
  have hvx : ∃ xs : Array Value, asVal (s.ev x) cs = .agg xs := by cases hsx : s.ev x <;> simp_all [AV.isAgg, asVal]
  have hvy : ∃ ys : Array Value, asVal (s.ev y) cs' = .agg ys := by cases hsy : s.ev y <;> simp_all [AV.isAgg, asVal]
  have htx : (s.ev x).isTup = false := by cases hsx : s.ev x <;> simp_all [AV.isAgg, AV.isTup]
  have hty : (s.ev y).isTup = false := by cases hsy : s.ev y <;> simp_all [AV.isAgg, AV.isTup]
  obtain ⟨r, hr, hriff⟩ := run_equalIn_deep (P := P) (10000 - 12) 12 t hk w D D' (asVal (s.ev x) cs) (asVal (s.ev y) cs') la lb f1 f2 (by rw [hX.cells htx]; simpa using k1) (by rw [hY.cells hty]; simpa using k2)
  have hrb : r = b := by
    cases r <;> cases b <;> simp_all
  subst hrb
  obtain ⟨xs, hxs⟩ := hvx
  obtain ⟨ys, hys⟩ := hvy
  rw [hxs, hys] at hr
  have hg' : ∀ op, (eqGuard op t x y (.agg xs) (.agg ys)).run P w = .ok () w := fun op => run_eqGuard_agg w op t x y xs ys hg
  refine upon_of_run (V := .bool (if neg then !r else r)) (w' := w) ?_ ⟨_, hK, hs.put0 h1 h2 h3 (Rel.mkLit rfl)⟩
  have r1 := run_eql_struct (P := P) w t xs ys
  have r2 := run_neq_struct (P := P) w t xs ys
  have hr' : (Op.equalIn 10000 t (.agg xs) (.agg ys)).run P w = .ok r w := hr
  rw [hr'] at r1 r2
  cases neg <;> simp [execOp, ho, eX, eY, hxs, hys, hg', r1, r2]
theorem run_call {f : FuncId} {args : Array Operand} {c : Call} (ho : o.op = .call c) (hc : c.callee = .value (.func f)) (ha : c.args = args) (hf : callable P f = true) :
    (execOp a.eval o).run P w = .ok (.enter f (args.map a.eval)) w := by
  unfold callable at hf
  split at hf
  · rename_i fn hfn
    simp only [Bool.and_eq_true, bne_iff_ne, ne_eq, Option.isSome_iff_exists] at hf
    obtain ⟨hname, body, hbody⟩ := hf
    simp [execOp, ho, resolve, hc, ha, Deferred.ofValue, Act.eval, invoke, callFunc, hfn, hname, hbody]
  · cases hf
theorem argsOk {Imm : Nat → Nat → Prop} (h3 : HeapOk w0 regs Imm s.hp w)
    (hrow : ∀ (k : Nat) e V esz els, s.blk k = some (.row e V esz els els.length) → ∃ cs, R Imm w (.arr esz els) cs ∧ ∀ g cap, V = .slice (some ⟨g, 0, none⟩) els.length cap → At Imm w g 0 cs)
    (h2 : TmOk Imm w s.tm a.tmps) : ∀ (args : List Operand), args.all okO = true → ArgsOk Imm w (args.map fun x => s.coe ro (s.ev x)) (args.map a.eval)
  | [], _ => trivial
  | x :: xs, h => by
    simp only [List.all_cons, Bool.and_eq_true] at h
    exact ⟨coe_sound h3 hrow (h2.eval x (okO_sc h.1)), argsOk h3 hrow h2 xs h.2⟩
theorem sound_nilc {x : Operand} (ho : o.op = .nilCheck x) (hx : okO x = true)
    (h : AI.go P ro s o.dst K (.nilc x)) (hs : SRel w0 wk regs St s a w) : o.wp P a w (fun a' w' => ∃ s', K s' ∧ SRel w0 wk regs St s' a' w') Q := by
  obtain ⟨Imm, h1, h2, h3⟩ := hs.ex
  have hX := h2.eval x (okO_sc hx)
  simp only [AI.go] at h
  split at h
  · rename_i b l off p hex
    rw [hex] at hX
    have hX' := hX
    rcases hX with hX | ⟨cs, hX, e⟩
    · cases hX
    cases hX
    have e' : a.eval x = .pointer (some ⟨l.1, l.2 + off, none⟩) := e
    refine upon_of_run (V := a.eval x) (w' := w) (by simp [execOp, ho, e']) ⟨_, h, hs.put0 h1 h2 h3 hX'⟩
  · rename_i n v hex
    rw [hex] at hX
    have hX' := hX
    rcases hX with hX | ⟨cs, hX, e⟩
    · cases hX
    cases hX with
    | cptr _ _ cs b off _ _ _ _ =>
      have e' : a.eval x = .pointer (some ⟨b, off, none⟩) := e
      refine upon_of_run (V := a.eval x) (w' := w) (by simp [execOp, ho, e']) ⟨_, h, hs.put0 h1 h2 h3 hX'⟩
  · exact h.elim
def externFn (P : Program) (f : FuncId) (name : String) : Bool :=
  match P.funcs[f]? with
  | some fn => fn.name == name && fn.origin == "" && fn.body.isNone
  | none => false
theorem find_add64 {fn : Func} (hn : fn.name = "math/bits.Add64") : Extern.find fn = some add64Entry := by
  have h1 : Extern.allGenericRows.lookup "math/bits.Add64" = none := by kernel_rfl
  have h2 : Extern.allTypedRows.lookup "math/bits.Add64" = none := by kernel_rfl
  have h3 : Extern.allRows.lookup "math/bits.Add64" = some add64Entry := by kernel_rfl
  simp only [Extern.find, hn, h1, h2, h3]
  rfl
theorem findNext_add64 {fn : Func} (hn : fn.name = "math/bits.Add64") (ho : fn.origin = "") : Extern.findNext fn = none := by
  have h1 : Extern.allNextRows.lookup "math/bits.Add64" = none := by kernel_rfl
  have h2 : Extern.allNextRows.lookup "" = none := by kernel_rfl
  simp only [Extern.findNext, hn, ho, h1, h2]
  rfl
theorem sound_add64 {f : FuncId} {x y z : Operand} {c : Call} (ho : o.op = .call c) (hc : c.callee = .value (.func f)) (ha : c.args.toList = [x, y, z]) (hf : externFn P f "math/bits.Add64" = true) (hok : (okO x && okO y && okO z) = true)
    (h : AI.go P ro s o.dst K (.add64 x y z)) (hs : SRel w0 wk regs St s a w) : o.wp P a w (fun a' w' => ∃ s', K s' ∧ SRel w0 wk regs St s' a' w') Q := by
  obtain ⟨Imm, h1, h2, h3⟩ := hs.ex
  simp only [Bool.and_eq_true] at hok
  have hX := h2.eval x (okO_sc hok.1.1)
  have hY := h2.eval y (okO_sc hok.1.2)
  have hZ := h2.eval z (okO_sc hok.2)
  simp only [AI.go] at h
  split at h <;> try exact h.elim
  rename_i p q r hp hq hr
  rw [hp] at hX; rw [hq] at hY; rw [hr] at hZ
  obtain ⟨eX, _⟩ := hX.lit
  obtain ⟨eY, _⟩ := hY.lit
  obtain ⟨eZ, _⟩ := hZ.lit
  split at h <;> try exact h.elim
  rename_i hb
  obtain ⟨b1, b2, b3, b4⟩ := hb
  have ha' : c.args = #[x, y, z] := by rw [← Array.toArray_toList (xs := c.args), ha]
  unfold externFn at hf
  split at hf <;> try (cases hf; done)
  rename_i fn hfn
  simp only [Bool.and_eq_true, beq_iff_eq] at hf
  obtain ⟨⟨hn, horig⟩, hbody⟩ := hf
  have hrun : (add64Entry #[.int .u64 p, .int .u64 q, .int .u64 r]).run P w = .ok (.tuple #[.int .u64 ((p + q + r) % 18446744073709551616), .int .u64 ((p + q + r) / 18446744073709551616)]) w := by
    obtain ⟨p', rfl⟩ := Int.eq_ofNat_of_zero_le b1
    obtain ⟨q', rfl⟩ := Int.eq_ofNat_of_zero_le b2
    obtain ⟨r', rfl⟩ := Int.eq_ofNat_of_zero_le b3
    have : r' = 0 ∨ r' = 1 := by omega
    rcases this with rfl | rfl <;> rfl
  have hcall := run_callFunc_extern (P := P) hfn (by rw [hn]; rfl) hbody (findNext_add64 hn horig) (find_add64 hn) #[.int .u64 p, .int .u64 q, .int .u64 r] w
  rw [hrun] at hcall
  refine upon_of_run (V := .tuple #[.int .u64 ((p + q + r) % 18446744073709551616), .int .u64 ((p + q + r) / 18446744073709551616)]) (w' := w) ?_ ⟨_, h, hs.put0 h1 h2 h3 (.inr ⟨[.int .u64 ((p + q + r) % 18446744073709551616), .int .u64 ((p + q + r) / 18446744073709551616)], ?_, rfl⟩)⟩
  · simp only [execOp, ho, resolve, hc, ha', Deferred.ofValue, Act.eval, invoke]
    simp [eX, eY, eZ, hcall]
  · exact .tup1 _ _ _ _ (.lit _ rfl) (.tup1 _ _ _ _ (.lit _ rfl) .tup0)
theorem seal1_tm (s : AS) (b : Nat) : (s.seal1 b).tm = s.tm := by unfold AS.seal1; split <;> rfl
theorem seal1_nr (s : AS) (b : Nat) : (s.seal1 b).nr = s.nr := by unfold AS.seal1; split <;> rfl
theorem seals_tm : ∀ (bs : List Nat) (s : AS), (s.seals bs).tm = s.tm
  | [], _ => rfl
  | b :: bs, s => by rw [AS.seals, seals_tm bs, seal1_tm]
theorem seals_nr : ∀ (bs : List Nat) (s : AS), (s.seals bs).nr = s.nr
  | [], _ => rfl
  | b :: bs, s => by rw [AS.seals, seals_nr bs, seal1_nr]
theorem SRel.seal1 (h : SRel w0 wk regs St s a w) (b : Nat) : SRel w0 wk regs St (s.seal1 b) a w := by
  unfold AS.seal1
  split
  · rename_i e V esz els sl hblk
    obtain ⟨Imm, h1, h2, h3⟩ := h.ex
    have hb : b < s.hp.length := by
      rcases Nat.lt_or_ge b s.hp.length with h' | h'
      · exact h'
      · simp [AS.blk, List.getElem?_eq_none h'] at hblk
    refine ⟨h.defers, h.tsize, h.tab, h.frame, Imm, h1, h2, ⟨fun k x hx => ?_, fun k k' x y hne hx hy b' o' hf => ?_⟩⟩
    · rcases hp_set hx with ⟨rfl, rfl⟩ | ⟨hk, hx'⟩
      · obtain ⟨⟨cs, hR, hown, hsc, hsl, hm⟩, hf⟩ := h3.ok k _ hblk
        exact ⟨⟨cs, hR, hown, hsc, Nat.le_refl _, fun b o hb ho => hm b o hb (Nat.le_trans (Nat.mul_le_mul_right _ hsl) ho)⟩, hf⟩
      · exact h3.ok k x hx'
    · rcases hp_set hx with ⟨rfl, rfl⟩ | ⟨hk, hx'⟩
      · rcases hp_set hy with ⟨rfl, rfl⟩ | ⟨hk', hy'⟩
        · exact absurd rfl hne
        · exact h3.apart k k' _ y hne hblk hy' b' o' hf
      · rcases hp_set hy with ⟨rfl, rfl⟩ | ⟨hk', hy'⟩
        · exact h3.apart k k' x _ hne hx' hblk b' o' hf
        · exact h3.apart k k' x y hne hx' hy' b' o' hf
  · exact h
theorem SRel.sealsAll : ∀ (bs : List Nat) {s : AS}, SRel w0 wk regs St s a w → SRel w0 wk regs St (s.seals bs) a w
  | [], _, h => h
  | b :: bs, _, h => SRel.sealsAll bs (h.seal1 b)
theorem sound_call0 {f : FuncId} {args : Array Operand} {c : Call} (ho : o.op = .call c) (hc : c.callee = .value (.func f)) (ha : c.args = args) (hf : callable P f = true) (hok : args.toList.all okO = true)
    (h : ∃ r, PCall P f (args.toList.map fun x => s.coe ro (s.ev x)) r ∧ (match r with
      | .val v => K (s.put o.dst v)
      | .row e esz els => ∀ V, K { s.put o.dst (.own (s.slot o.dst) V) with hp := s.hp.set (s.slot o.dst) (some (.row e V esz els 0)) })) (hs : SRel w0 wk regs St s a w) : o.wp P a w (fun a' w' => ∃ s', K s' ∧ SRel w0 wk regs St s' a' w') Q := by
  obtain ⟨Imm, h1, h2, h3, hseal⟩ := hs.seals
  obtain ⟨r, hP, hK⟩ := h
  unfold Oper.wp Oper.upon
  rw [run_call ho hc ha hf]
  have hargs := argsOk (ro := ro) h3 hseal h2 args.toList hok
  have hcall := hP w Imm _ ⟨h1.there, (hs.tab.go hs.frame).none⟩ hargs
  have e1 : (args.toList.map a.eval).toArray = args.map a.eval := by apply Array.ext'; simp
  rw [e1] at hcall
  refine Calls.mono hcall fun e w' ⟨V, Imm', he, hfr, hI', hr⟩ => ?_
  subst he
  have hk := hfr.keepImm h1
  have hII : ∀ b o, Imm b o → Imm' b o := hI'.sub
  have hnew : ∀ b o, Imm' b o → b < w.heap.size → Imm b o := hI'.old
  have hI2 : ImmOk w0 wk St Imm' w' := ⟨fun b o hb => hII _ _ (h1.sub b o hb), fun b o hb hlt => h1.old b o (hnew b o hb (Nat.lt_of_lt_of_le hlt hs.frame.size)) hlt, hI'.there, fun b o hb => by rw [hk b o (h1.sub b o hb)]; exact h1.val b o hb⟩
  have hH := h3.grow hfr hII hnew h1.there
  show ∃ s', K s' ∧ SRel w0 wk regs St s' (a.put o.dst V) w'
  cases r with
  | val v =>
    refine ⟨_, hK, ?_⟩
    have := hs.put (dst := o.dst) (v := v) (V := V) (hp' := s.hp) (Imm' := Imm') (hfr.any _) h2 hII hk hI2 hH (.inr hr.1)
    rw [← put_hp s o.dst v] at this
    exact this
  | row e esz els =>
    obtain ⟨hsc, cs, hR, hown, hm⟩ := hr
    refine ⟨_, hK V, ?_⟩
    have hg : ∀ g, V.ownBlock = some g → w.heap.size ≤ g ∧ g < w'.heap.size := fun g hg => hown.lt g hg
    refine hs.put (dst := o.dst) (V := V) (Imm' := Imm') (hfr.any _) h2 hII hk hI2 ?_ (.inr (.inr ⟨_, .own _ V hsc, rfl⟩))
    refine hH.lay (Blk.rowOk hR (ownsRow_base hown (fun _ _ => Nat.zero_le _)) hsc (Nat.zero_le _) fun g hg' o _ => hm g hg' o) (fun b o hf => ⟨(hg b hf).2, Nat.le_trans hs.frame.size (hg b hf).1⟩) fun k y _ hy b o hf hfy => ?_
    have := ((h3.ok k y hy).2 b o hfy).1
    have := (hg b hf).1
    omega
theorem sound_call {f : FuncId} {args : Array Operand} {c : Call} (ho : o.op = .call c) (hc : c.callee = .value (.func f)) (ha : c.args = args) (hf : callable P f = true) (hok : args.toList.all okO = true)
    (h : AI.go P ro s o.dst K (.call f args.toList)) (hs : SRel w0 wk regs St s a w) : o.wp P a w (fun a' w' => ∃ s', K s' ∧ SRel w0 wk regs St s' a' w') Q := by
  simp only [AI.go] at h
  obtain ⟨bs, r, hP, hK⟩ := h
  have hslot : (s.seals bs).slot o.dst = s.slot o.dst := by simp only [AS.slot, seals_nr]
  refine sound_call0 (s := s.seals bs) ho hc ha hf hok ⟨r, hP, ?_⟩ (SRel.sealsAll bs hs)
  cases r with
  | val v => exact hK
  | row e esz els => rw [hslot]; exact hK
theorem sound_callv {f : FuncId} {args : Array Operand} {c : Call} (ho : o.op = .call c) (hc : c.callee = .value (.func f)) (ha : c.args = args) (hf : callable P f = true) (hok : args.toList.all okO = true)
    (h : AI.go P ro s o.dst K (.callv f args.toList)) (hs : SRel w0 wk regs St s a w) : o.wp P a w (fun a' w' => ∃ s', K s' ∧ SRel w0 wk regs St s' a' w') Q := by
  simp only [AI.go] at h
  obtain ⟨v, hP, hK⟩ := h
  exact sound_call ho hc ha hf hok (by simp only [AI.go]; exact ⟨[], .val v, hP, hK⟩) hs
theorem R.flat {Imm Imm' : Nat → Nat → Prop} {w w' : World} {v : AV} {cs : List Value} (hv : v.flat = true) (h : R Imm w v cs) : R Imm' w' v cs := by
  cases v <;> simp only [AV.flat] at hv <;> try (cases hv; done)
  case lit x => cases h with | lit _ hs => exact .lit x hs
  case arr esz els =>
    induction els generalizing cs with
    | nil => cases h; exact .arr0 esz
    | cons e els ih =>
      simp only [List.all_cons, Bool.and_eq_true] at hv
      cases h with
      | arr1 _ _ _ c d he hc hs hd =>
        refine .arr1 esz e els c d ?_ hc hs (ih hv.2 hd)
        cases e
        case lit x => cases he with | lit _ hs2 => exact .lit _ hs2
        all_goals exact absurd hv.1 (by simp [AV.isLit])
theorem R.plain {Imm Imm' : Nat → Nat → Prop} {w w' : World} {v : AV} {cs : List Value} (hv : v.plain = true) (h : R Imm w v cs) : R Imm' w' v cs := by
  cases v
  case lit x => exact h.flat rfl
  case arr esz els => exact h.flat hv
  case st ns fs =>
    simp only [AV.plain] at hv
    induction fs generalizing cs ns with
    | nil => cases h; exact .st0
    | cons f fs ih =>
      simp only [List.all_cons, Bool.and_eq_true] at hv
      cases h with
      | st1 n ns _ _ c d he hc hs hd => exact .st1 n ns f fs c d (he.flat hv.1) hc hs (ih _ hv.2 hd)
  all_goals exact absurd hv (by simp [AV.plain])
theorem lendF_sound {Imm : Nat → Nat → Prop} (h1 : ImmOk w0 wk St Imm w) (h3 : HeapOk w0 regs Imm s.hp w) {v : AV} {c : List Value} (hv : R Imm w v c) :
    R (fun b o => (w.cell? ⟨b, o, none⟩).isSome = true) w (s.lendF ro v) c := by
  have hup : R (fun b o => (w.cell? ⟨b, o, none⟩).isSome = true) w v c := hv.mono h1.there (fun _ _ _ => rfl)
  unfold AS.lendF
  split
  · rename_i b V'
    split
    · split
      · rename_i e V'' esz els sl hk
        split
        · rename_i hc
          subst hc
          obtain ⟨⟨cs, hR, hown, _⟩, _⟩ := h3.ok b _ hk
          cases hv
          rcases hown.2 with ⟨rfl, hn⟩ | ⟨g', cap', cur, rfl, _, hgg, hnc, _, _, htake⟩
          · have : els = [] := List.eq_nil_of_length_eq_zero hn
            subst this
            exact .slnil esz
          · refine .sl esz els cs g' 0 cap' (hR.mono h1.there (fun _ _ _ => rfl)) (fun i y hy => ?_) hnc
            have hcell : w.cell? ⟨g', 0 + i, none⟩ = some y := by
              rw [Nat.zero_add, cell_of_row w g' i cur e (0, 0) hgg]
              rw [← htake, List.getElem?_take] at hy
              split at hy
              · simpa using hy
              · cases hy
            exact ⟨hcell, by rw [hcell]; rfl⟩
        · exact hup
      · exact hup
    · exact hup
  · exact hup
theorem lendSt_sound {Imm : Nat → Nat → Prop} (h1 : ImmOk w0 wk St Imm w) (h3 : HeapOk w0 regs Imm s.hp w) : ∀ (ns : List Nat) (fs : List AV) (c : List Value), R Imm w (.st ns fs) c →
    R (fun b o => (w.cell? ⟨b, o, none⟩).isSome = true) w (.st ns (fs.map fun f => s.lendF ro f)) c
  | _, [], _, hv => by
    cases hv
    exact .st0
  | _, f :: fs, _, hv => by
    cases hv with
    | st1 n ns _ _ c d hf hc hs hd => exact .st1 n ns _ _ c d (lendF_sound h1 h3 hf) hc hs (lendSt_sound h1 h3 ns fs d hd)
theorem lend_sound {Imm : Nat → Nat → Prop} (h1 : ImmOk w0 wk St Imm w) (h3 : HeapOk w0 regs Imm s.hp w) {v : AV} {V : Value} (hv : Rel Imm w v V) :
    Rel (fun b o => (w.cell? ⟨b, o, none⟩).isSome = true) w (s.lend ro v) V := by
  have hup : Rel (fun b o => (w.cell? ⟨b, o, none⟩).isSome = true) w v V := hv.mono h1.there (fun _ _ _ => rfl)
  unfold AS.lend
  split
  · rename_i b V'
    split
    · split
      · rename_i e V'' esz els sl hk
        split
        · rename_i hc
          subst hc
          obtain ⟨⟨cs, hR, hown, _⟩, _⟩ := h3.ok b _ hk
          rcases hv with hv | ⟨c, hv, e'⟩
          · cases hv
          cases hv
          rcases hown.2 with ⟨rfl, hn⟩ | ⟨g', cap', cur, rfl, _, hgg, hnc, _, _, htake⟩
          · have : els = [] := List.eq_nil_of_length_eq_zero hn
            subst this
            exact .inr ⟨_, .slnil esz, e'⟩
          · refine .inr ⟨_, .sl esz els cs g' 0 cap' (hR.mono h1.there (fun _ _ _ => rfl)) (fun i y hy => ?_) hnc, e'⟩
            have hcell : w.cell? ⟨g', 0 + i, none⟩ = some y := by
              rw [Nat.zero_add, cell_of_row w g' i cur e (0, 0) hgg]
              rw [← htake, List.getElem?_take] at hy
              split at hy
              · simpa using hy
              · cases hy
            exact ⟨hcell, by rw [hcell]; rfl⟩
        · exact .inl rfl
      · exact .inl rfl
    · exact .inl rfl
  · rcases hv with hv | ⟨c, hv, e⟩
    · cases hv
    · exact .inr ⟨c, lendSt_sound h1 h3 _ _ _ hv, e⟩
  · exact hup
theorem lendsOk {Imm : Nat → Nat → Prop} (h1 : ImmOk w0 wk St Imm w) (h3 : HeapOk w0 regs Imm s.hp w) (h2 : TmOk Imm w s.tm a.tmps) :
    ∀ (args : List Operand), args.all okO = true → ArgsOk (fun b o => (w.cell? ⟨b, o, none⟩).isSome = true) w (args.map fun x => s.lend ro (s.ev x)) (args.map a.eval)
  | [], _ => trivial
  | x :: xs, h => by
    simp only [List.all_cons, Bool.and_eq_true] at h
    exact ⟨lend_sound h1 h3 (h2.eval x (okO_sc h.1)), lendsOk h1 h3 h2 xs h.2⟩
theorem sound_lcall {f : FuncId} {args : Array Operand} {c : Call} (ho : o.op = .call c) (hc : c.callee = .value (.func f)) (ha : c.args = args) (hf : callable P f = true) (hok : args.toList.all okO = true)
    (h : AI.go P ro s o.dst K (.lcall f args.toList)) (hs : SRel w0 wk regs St s a w) : o.wp P a w (fun a' w' => ∃ s', K s' ∧ SRel w0 wk regs St s' a' w') Q := by
  simp only [AI.go] at h
  obtain ⟨v, hpl, hP, hK⟩ := h
  obtain ⟨Imm, h1, h2, h3⟩ := hs.ex
  unfold Oper.wp Oper.upon
  rw [run_call ho hc ha hf]
  have hargs := lendsOk (ro := ro) h1 h3 h2 args.toList hok
  have hcall := hP w _ _ ⟨fun _ _ h => h, (hs.tab.go hs.frame).none⟩ hargs
  have e1 : (args.toList.map a.eval).toArray = args.map a.eval := by apply Array.ext'; simp
  rw [e1] at hcall
  refine Calls.mono hcall fun e w' ⟨V, Imm', he, hfr, hI', hr⟩ => ?_
  subst he
  have hk := hfr.keepImm h1
  have hI2 : ImmOk w0 wk St Imm w' := ⟨h1.sub, h1.old, fun b o hb => by rw [hk b o hb]; exact h1.there b o hb, fun b o hb => by rw [hk b o (h1.sub b o hb)]; exact h1.val b o hb⟩
  have hH := h3.grow hfr (fun _ _ h => h) (fun _ _ h _ => h) h1.there
  show ∃ s', K s' ∧ SRel w0 wk regs St s' (a.put o.dst V) w'
  refine ⟨_, hK, ?_⟩
  have hrel : Rel Imm w' v V := by
    rcases hr.1 with h | ⟨cs, hR, e⟩
    · exact absurd h hr.2
    · exact .inr ⟨cs, hR.plain hpl, e⟩
  have := hs.put (dst := o.dst) (v := v) (V := V) (hp' := s.hp) (Imm' := Imm) (hfr.any _) h2 (fun _ _ h => h) hk hI2 hH (.inr hrel)
  rw [← put_hp s o.dst v] at this
  exact this
end
end Go.Cab