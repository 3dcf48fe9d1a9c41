/- Part 3 of what the proof stands on: LE, M, N, O. -/
import Derived.Test.YtjdoefdcdogeiaaCab02
import Derived.Lib.SliceRun
import Derived.Lib.LazyBuf
set_option linter.unusedSimpArgs false
set_option linter.unnecessarySimpa false
set_option linter.unusedVariables false
set_option linter.unusedSectionVars false
/- Part twelve, sixth: calls by what stands there; bytes compared. -/
namespace Go.Cab
open Go.RowKit
open Classical

section
variable {P : Program} {w0 wk : World} {regs : List (Nat × Nat × Nat)} {St Imm : Nat → Nat → Prop} {s : AS} {a : Act} {w : World} {o : Oper} {K : AS → Prop} {Q : Exit → Act → World → Prop} {ro : Nat → Bool}

theorem run_enter {f : FuncId} (hf : callable P f = true) (args : Array Value) : (callFunc f args).run P w = .ok (.enter f args) w := by
  unfold callable at hf
  split at hf
  · rename_i fn hfn
    simp only [Bool.and_eq_true, bne_iff_ne, ne_eq, Option.isSome_iff_exists] at hf
    obtain ⟨hname, body, hbody⟩ := hf
    simp [callFunc, hfn, hname, hbody]
  · cases hf

/-- A call upon the call's own blocks. -/
theorem sound_xc {g : XT} {xs : List Operand} {keep fresh : List Tmp} {rc : Option Tmp → Value → Act} (h : AI.go P ro s o.dst K (.xc g xs keep fresh)) (hs : SRel w0 wk regs St s a w)
    (hrun : ∀ Imm f vs, TmOk Imm w s.tm a.tmps → tgtB P g (xs.map fun x => s.ev x) = some (f, vs) → ∃ Vs, ArgsOk Imm w vs Vs ∧ (callable P f = true → (execOp a.eval o).run P w = .ok (.enter f Vs.toArray) w)) :
    o.wp P a w (fun a' w' => ∃ s', K s' ∧ SRel w0 wk regs St s' a' w') Q := by
  obtain ⟨Imm, h1, h2, h3⟩ := hs.ex
  simp only [AI.go] at h
  obtain ⟨f, vs, ht, K', hfam, _, _, _, hK⟩ := h
  have hX' : XCall P f vs s.hp K' := by
    have := hfam [] (by simp)
    intro w0 w regs Imm0 Vs a1 a2 a3 a4
    exact Calls.mono (this w0 w regs Imm0 Vs a1 a2 a3 a4) fun e w' ⟨V, r, hp', Imm', he, ⟨hp2, hk, e2⟩, rest⟩ => by
      have e3 : hp' = hp2 := e2
      subst e3
      exact ⟨V, r, hp', Imm', he, hk, rest⟩
  unfold tgtA at ht
  obtain ⟨⟨f', vs'⟩, ht', hc⟩ := Option.bind_eq_some_iff.1 ht
  split at hc <;> try (cases hc; done)
  rename_i hcl
  cases hc
  obtain ⟨Vs, hargs, hr⟩ := hrun Imm _ _ h2 ht'
  have hcall := hX' w0 w regs Imm _ hs.frame h1.there h3 hargs
  unfold Oper.wp Oper.upon
  rw [hr hcl]
  refine Calls.mono hcall fun e w' ⟨V, r, hp', Imm', he, hk', hfr, hI', hrV, _, hH⟩ => ?_
  subst he
  show ∃ s', K s' ∧ SRel w0 wk regs St s' (a.put o.dst V) w'
  refine ⟨_, hK r hp' hk', ?_⟩
  have hkeep : ∀ b o, Imm b o → w'.cell? ⟨b, o, none⟩ = w.cell? ⟨b, o, none⟩ := hI'.val
  have hI2 : ImmOk w0 wk St Imm' w' := ⟨fun b o hb => hI'.sub _ _ (h1.sub b o hb), fun b o hb hlt => h1.old b o (hI'.old b o hb hlt) hlt, hI'.there, fun b o hb => by rw [hkeep b o (h1.sub b o hb)]; exact h1.val b o hb⟩
  exact ⟨by rw [aput_defers]; exact hs.defers, by rw [aput_size, put_len]; exact hs.tsize, hfr, Imm', hI2, h2.put hs.tsize hI'.sub hkeep (.inr hrV), hH⟩

theorem sound_xdir {f : FuncId} {xs : List Operand} {keep fresh : List Tmp} {c : Call} (ho : o.op = .call c) (hc : c.callee = .value (.func f)) (ha : c.args.toList = xs) (hok : xs.all okO = true)
    (h : AI.go P ro s o.dst K (.xc (.dir f) xs keep fresh)) (hs : SRel w0 wk regs St s a w) : o.wp P a w (fun a' w' => ∃ s', K s' ∧ SRel w0 wk regs St s' a' w') Q := by
  refine sound_xc (rc := fun _ _ => a) h hs fun Imm f' vs h2 ht => ?_
  simp only [tgtB, Option.some.injEq, Prod.mk.injEq] at ht
  obtain ⟨rfl, rfl⟩ := ht
  refine ⟨xs.map a.eval, argsOk_map h2 hok, fun hcl => ?_⟩
  have e2 : (xs.map a.eval).toArray = c.args.map a.eval := by apply Array.ext'; simp [ha]
  rw [e2]
  have := run_enter (w := w) hcl (c.args.map a.eval)
  simp only [execOp, ho, resolve, hc, Deferred.ofValue, Act.eval, invoke, Sem.run_bind, Sem.run_pure, Result.andThen_ok]
  simpa using this

theorem sound_xinv {name : String} {x : Operand} {xs : List Operand} {keep fresh : List Tmp} {c : Call} (ho : o.op = .call c) (hc : c.callee = .invoke x name) (ha : c.args.toList = xs) (hok : (x :: xs).all okO = true)
    (h : AI.go P ro s o.dst K (.xc (.inv name) (x :: xs) keep fresh)) (hs : SRel w0 wk regs St s a w) : o.wp P a w (fun a' w' => ∃ s', K s' ∧ SRel w0 wk regs St s' a' w') Q := by
  refine sound_xc (rc := fun _ _ => a) h hs fun Imm f' vs h2 ht => ?_
  simp only [List.all_cons, Bool.and_eq_true] at hok
  have hX := h2.eval x (okO_sc hok.1)
  simp only [List.map_cons] at ht
  generalize s.ev x = X at *
  unfold tgtB at ht
  split at ht <;> try (first | (cases ht; done) | contradiction)
  · rename_i nm t v xs' hg hxs
    cases hg
    simp only [List.cons.injEq] at hxs
    obtain ⟨rfl, rfl⟩ := hxs
    obtain ⟨⟨f0, u⟩, hm, he⟩ := Option.map_eq_some_iff.1 ht
    simp only [Prod.mk.injEq] at he
    obtain ⟨rfl, rfl⟩ := he
    rcases hX with hX | ⟨cs, hX, e⟩
    · cases hX
    cases hX with
    | ifc _ _ cs' hR =>
      obtain ⟨U, k1, _, k3⟩ := meth_sound _ _ _ _ _ _ _ hm (.inr ⟨cs', hR, rfl⟩)
      have eX : a.eval x = .iface t (asVal v cs') := e
      refine ⟨U :: xs.map a.eval, ⟨k3, argsOk_map h2 hok.2⟩, fun hcl => ?_⟩
      have hen := run_enter (w := w) hcl (U :: xs.map a.eval).toArray
      have e2 : (c.args.map a.eval) = (xs.map a.eval).toArray := by apply Array.ext'; simp [ha]
      simp only [execOp, ho, resolve, hc, invoke, Sem.run_bind, Sem.run_pure, Result.andThen_ok, eX, e2]
      have e3 : (xs.map a.eval).take xs.length = xs.map a.eval := List.take_of_length_le (by simp)
      simp [callMethod, k1, e3]
      simpa using hen

theorem sound_xval {x : Operand} {xs : List Operand} {keep fresh : List Tmp} {c : Call} (ho : o.op = .call c) (hc : c.callee = .value x) (ha : c.args.toList = xs) (hok : (x :: xs).all okO = true)
    (h : AI.go P ro s o.dst K (.xc .val (x :: xs) keep fresh)) (hs : SRel w0 wk regs St s a w) : o.wp P a w (fun a' w' => ∃ s', K s' ∧ SRel w0 wk regs St s' a' w') Q := by
  refine sound_xc (rc := fun _ _ => a) h hs fun Imm f' vs h2 ht => ?_
  simp only [List.all_cons, Bool.and_eq_true] at hok
  have hX := h2.eval x (okO_sc hok.1)
  have hA := argsOk_map h2 hok.2
  have e2 : (c.args.map a.eval) = (xs.map a.eval).toArray := by apply Array.ext'; simp [ha]
  simp only [List.map_cons] at ht
  generalize s.ev x = X at *
  unfold tgtB at ht
  split at ht <;> try (first | (cases ht; done) | contradiction)
  · rename_i f first caps xs' _ hxs
    simp only [List.cons.injEq] at hxs
    obtain ⟨rfl, rfl⟩ := hxs
    cases ht
    rcases hX with hX | ⟨cs, hX, e⟩
    · cases hX
    cases hX with
    | fnv _ _ _ c' d hc' hd =>
      have eX : a.eval x = .func (.func f') c'.toArray d.toArray := e
      refine ⟨c' ++ xs.map a.eval ++ d, argsOk_app (argsOk_app (tup_args hc') hA) (tup_args hd), fun hcl => ?_⟩
      have hen := run_enter (w := w) hcl (c' ++ xs.map a.eval ++ d).toArray
      simp only [execOp, ho, resolve, hc, eX, Deferred.ofValue, invoke, Sem.run_bind, Sem.run_pure, Result.andThen_ok, e2]
      simpa using hen
  · rename_i name t v xs' _ hxs
    simp only [List.cons.injEq] at hxs
    obtain ⟨rfl, rfl⟩ := hxs
    obtain ⟨⟨f0, u⟩, hm, he⟩ := Option.map_eq_some_iff.1 ht
    simp only [Prod.mk.injEq] at he
    obtain ⟨rfl, rfl⟩ := he
    rcases hX with hX | ⟨cs, hX, e⟩
    · cases hX
    cases hX with
    | fnv _ _ _ c' d hc' hd =>
      cases hd
      cases hc' with
      | tup1 _ _ cc dd h4 h5 =>
        cases h5
        cases h4 with
        | ifc _ _ cs' hR =>
          obtain ⟨U, k1, _, k3⟩ := meth_sound _ _ _ _ _ _ _ hm (.inr ⟨cs', hR, rfl⟩)
          have eX : a.eval x = .func (.method name) #[.iface t (asVal v cs')] #[] := e
          refine ⟨U :: xs.map a.eval, ⟨k3, hA⟩, fun hcl => ?_⟩
          have hen := run_enter (w := w) hcl (U :: xs.map a.eval).toArray
          simp only [execOp, ho, resolve, hc, eX, Deferred.ofValue, invoke, Sem.run_bind, Sem.run_pure, Result.andThen_ok, e2]
          have e3 : (xs.map a.eval).take xs.length = xs.map a.eval := List.take_of_length_le (by simp)
          simp [callMethod, k1, e3]
          simpa using hen

theorem find_bcmp {fn : Func} (hn : fn.name = "internal/bytealg.Compare") : Extern.find fn = some Extern.BytealgCompare.compare := by
  have h1 : Extern.allGenericRows.lookup "internal/bytealg.Compare" = none := by kernel_rfl
  have h2 : Extern.allTypedRows.lookup "internal/bytealg.Compare" = none := by kernel_rfl
  have h3 : Extern.allRows.lookup "internal/bytealg.Compare" = some Extern.BytealgCompare.compare := by kernel_rfl
  simp only [Extern.find, hn, h1, h2, h3]
  rfl
theorem findNext_bcmp {fn : Func} (hn : fn.name = "internal/bytealg.Compare") (ho : fn.origin = "") : Extern.findNext fn = none := by
  have h1 : Extern.allNextRows.lookup "internal/bytealg.Compare" = none := by kernel_rfl
  have h2 : Extern.allNextRows.lookup "" = none := by kernel_rfl
  simp only [Extern.findNext, hn, ho, h1, h2]
  rfl

theorem bytesOf_run {blk : Nat → Option Blk} {v : AV} {V : Value} {ns : List Int} (hb : ∀ b x, blk b = some x → s.blk b = some x) (h3 : HeapOk w0 regs Imm s.hp w) (h1 : ∀ b o, Imm b o → (w.cell? ⟨b, o, none⟩).isSome = true) (hlit : v.isLit = false)
    (hl : (listB blk 1 v).bind bytesAV = some ns) (hv : Rel Imm w v V) : (Extern.Bytes.bytesOf V).run P w = .ok ⟨(Lib.bytesOf ns).toArray⟩ w := by
  obtain ⟨els, hl, hn⟩ := Option.bind_eq_some_iff.1 hl
  obtain ⟨cs, hR, hlen, hsc, hval⟩ := listB_sound (s := s) hb h3 h1 hl hv
  obtain ⟨hcs, hnl⟩ := bytes_cells hn hR
  rcases hval with ⟨sb, eL, _, _, _⟩ | ⟨hnil, eV⟩ | ⟨b, o', c, eV, hcell⟩
  · rw [eL] at hlit; cases hlit
  · subst hnil
    have hn0 : ns = [] := by simpa using hnl.symm
    subst hn0
    rw [eV]
    rfl
  · rw [eV, hnl]
    have := Lib.run_loadBytesX (P := P) w ns ⟨b, o', none⟩ .empty (fun j x hj => by
      rw [add_none]
      exact hcell j _ (by rw [hcs, List.getElem?_map, hj]; rfl))
    show (Extern.Bytes.loadBytes ⟨b, o', none⟩ ns.length .empty).run P w = _
    rw [this]
    congr 1
    apply ByteArray.ext
    show (#[] : Array UInt8) ++ _ = _
    simp

/-- Bytes compared. -/
theorem sound_bcmp {f : FuncId} {x y : Operand} {c : Call} (ho : o.op = .call c) (hc : c.callee = .value (.func f)) (ha : c.args.toList = [x, y]) (hf : externFn P f "internal/bytealg.Compare" = true) (hok : (okO x && okO y) = true)
    (h : AI.go P ro s o.dst K (.rd .bcmp [x, y])) (hs : SRel w0 wk regs St s a w) : o.wp P a w (fun a' w' => ∃ s', K s' ∧ SRel w0 wk regs St s' a' w') Q := by
  simp only [Bool.and_eq_true] at hok
  have ha' : c.args = #[x, y] := by rw [← Array.toArray_toList (xs := c.args), ha]
  unfold externFn at hf
  split at hf <;> try (cases hf; done)
  rename_i fn hfn
  simp only [Bool.and_eq_true, beq_iff_eq] at hf
  obtain ⟨⟨hn, horig⟩, hbody⟩ := hf
  refine sound_rd_of h hs fun Imm v h1 h2 h3 hv => ?_
  have hX := h2.eval x (okO_sc hok.1)
  have hY := h2.eval y (okO_sc hok.2)
  simp only [List.map_cons, List.map_nil, rdA, rdB] at hv
  split at hv <;> try (cases hv; done)
  rename_i p q hp hq
  split at hv <;> try (cases hv; done)
  rename_i hlit
  cases hv
  simp only [Bool.or_eq_true, not_or, Bool.not_eq_true] at hlit
  have hb : ∀ b z, (fun b => if ro b = true then s.blk b else none) b = some z → s.blk b = some z := fun b z hb => by simp only at hb; split at hb <;> first | exact hb | cases hb
  have r1 := bytesOf_run (P := P) hb h3 h1.there hlit.1 hp hX
  have r2 := bytesOf_run (P := P) hb h3 h1.there hlit.2 hq hY
  have hcall := run_callFunc_extern (P := P) hfn (by rw [hn]; rfl) hbody (findNext_bcmp hn horig) (find_bcmp hn) #[a.eval x, a.eval y] w
  have hrun : (Extern.BytealgCompare.compare #[a.eval x, a.eval y]).run P w = .ok (.int .i64 (Lib.compareBytes (Lib.bytesOf p) (Lib.bytesOf q))) w := by
    have e : Extern.BytealgCompare.compare #[a.eval x, a.eval y] = (do pure (goInt (Extern.BytealgCompare.cmp (← Extern.Bytes.bytesOf (a.eval x)) (← Extern.Bytes.bytesOf (a.eval y))))) := rfl
    rw [e]
    simp only [Sem.run_bind, r1, r2, Result.andThen_ok, Sem.run_pure, Lib.cmp_eq]
    rfl
  rw [hrun] at hcall
  refine ⟨_, ?_, Rel.mkLit rfl⟩
  simp only [execOp, ho, resolve, hc, ha', Deferred.ofValue, Act.eval, invoke]
  simp [hcall]
theorem nilA_sound {x : AV} {V : Value} (h : Rel Imm w x V) (W : Value) {b : Bool} (hb : nilA W x = some b) : ∃ a n c, V = .slice a n c ∧ ∀ W', W' = Value.bool a.isNone → nilA W' x = some a.isNone := by
  rcases h with rfl | ⟨cs, h, rfl⟩
  · simp [nilA] at hb
  · cases h with
    | lit v hs =>
      unfold nilA at hb
      split at hb <;> try (cases hb; done)
      · rename_i he
        cases he
        exact ⟨none, 0, 0, rfl, fun _ _ => rfl⟩
      · rename_i he; cases he
      · rename_i he; cases he
    | slnil esz => exact ⟨none, 0, 0, rfl, fun _ e => by rw [e]; rfl⟩
    | sl esz els cs b o cap _ _ _ =>
      refine ⟨some ⟨b, o, none⟩, els.length, cap, rfl, fun W' e => ?_⟩
      cases els with
      | nil => rw [e]; rfl
      | cons e es => rfl
    | _ => simp [nilA] at hb

theorem sound_isnil {neg : Bool} {t u e : TypeId} {x : Operand} (ho : o.op = .binOp (if neg then .neq else .eql) t x (.const (.slice none 0 0)) u) (ht : P.underlying t = some (.slice e)) (hx : okO x = true)
    (h : AI.go P ro s o.dst K (.ef (.isnil neg) [x])) (hs : SRel w0 wk regs St s a w) : o.wp P a w (fun a' w' => ∃ s', K s' ∧ SRel w0 wk regs St s' a' w') Q := by
  obtain ⟨Imm, h1, h2, h3⟩ := hs.ex
  have hX := h2.eval x (okO_sc hx)
  simp only [AI.go] at h
  have h0 : ∃ b, nilA (.bool true) (s.ev x) = some b := by
    obtain ⟨r, hp', e1, _⟩ := h (.bool true)
    simp only [efA, List.map_cons, List.map_nil] at e1
    obtain ⟨b, hb, _⟩ := Option.map_eq_some_iff.1 e1
    exact ⟨b, hb⟩
  obtain ⟨b, hb⟩ := h0
  obtain ⟨ao, n, c, hV, hW⟩ := nilA_sound hX _ hb
  obtain ⟨r, hp', e1, hK⟩ := h (.bool ao.isNone)
  simp only [efA, List.map_cons, List.map_nil, hW _ rfl, Option.map_some, Option.some.injEq, Prod.mk.injEq] at e1
  obtain ⟨rfl, rfl⟩ := e1
  refine upon_of_run (V := .bool (if neg then !ao.isNone else ao.isNone)) (w' := w) ?_ ⟨_, hK, ?_⟩
  · have e1 := Go.Lib.run_eql_slice_nil w t e ao n c 0 0 ht
    have e2 := Go.run_neq_slice_nil w t e ao n c ht
    have eC : a.eval (.const (.slice none 0 0)) = .slice none 0 0 := rfl
    cases neg
    · simp only [Bool.false_eq_true, if_false] at ho ⊢
      simp [execOp, ho, hV, eC, eqGuard, e1]
    · simp only [if_true] at ho ⊢
      simp [execOp, ho, hV, eC, eqGuard, e2]
  · exact hs.put (Imm' := Imm) (Fr.refl _ _) h2 (fun _ _ h => h) (fun _ _ _ => rfl) h1 h3 (.inr (Rel.mkLit (v := .bool _) rfl))

end
end Go.Cab

/- Part thirteen: regions: one walk in the order of the text serves every order that the program leaves open. -/
namespace Go.Cab
open Go.RowKit
open Classical

/-- An operation with its guard and its place. -/
structure AOp where
  dst : Option Tmp
  guard : Option (Tmp × Bool)
  ai : AI
  /-- Whose places it must not read: those that another operation may write before it, or behind it. -/
  forb : List Tmp := []
  /-- The place that it writes, where an order is left open. -/
  own : Option Tmp := none
  deriving Inhabited

def AOp.ro (x : AOp) (nr : Nat) : Nat → Bool := fun b => x.forb.all fun t => b != nr + t

/-- These variables are none of what it puts away or lays. -/
def AOp.leaves (x : AOp) (s : AS) (v : AV) : Prop :=
  ∀ t ∈ x.forb, ∀ b, (s.ev (.tmp t)).place = some b → b ≠ s.slot x.dst ∧ ∀ b' V, v = .own b' V → b' ≠ b
/-- It writes where it says. -/
def AOp.mine (x : AOp) (s : AS) : Prop :=
  match x.own, x.ai with
  | some t, .store _ p _ => ∃ l off path, s.ev p = .ptr (s.nr + t) l off path
  | some t, .load _ _ p => ∀ b l off path, s.ev p = .ptr b l off path → (s.ev (.tmp t)).place = some b
  | some t, .len _ p => ∀ b V, s.ev p = .own b V → (s.ev (.tmp t)).place = some b
  | some t, .iaddrS _ p _ => ∀ b V, s.ev p = .own b V → (s.ev (.tmp t)).place = some b
  | some _, .callv _ ps => ∀ p ∈ ps, ∀ b V, s.ev p ≠ .own b V
  | _, .append _ _ _ p _ => x.leaves s (s.ev p)
  | _, .ef (.app ..) [p, _] => x.leaves s (s.ev p)
  | _, .ef (.bown ..) _ => x.leaves s .any
  | _, _ => True

noncomputable def AOp.go (P : Program) (s : AS) (K : AS → Prop) (x : AOp) : Prop :=
  match x.guard with
  | none => x.mine s ∧ x.ai.go P (x.ro s.nr) s x.dst K
  | some (t, want) => match s.ev (.tmp t) with
    | .lit (.bool b) => if b = want then x.mine s ∧ x.ai.go P (x.ro s.nr) s x.dst K else K (s.put x.dst (.tup []))
    | .tup [] => K (s.put x.dst (.tup []))
    | _ => False

noncomputable def AReg (P : Program) : List AOp → AS → (AS → Prop) → Prop
  | [], s, K => K s
  | x :: xs, s, K => x.go P s fun s' => AReg P xs s' K

/-- Which operands an operation looks at. -/
def AI.ops : AI → List Operand
  | .mov x | .un _ x | .cvt _ x | .box _ x | .load _ _ x | .faddr _ _ x | .fieldv _ _ _ _ x | .len _ x | .ext x _ | .nilc x | .b2s x => [x]
  | .pick c a b | .add64 c a b => [c, a, b]
  | .bin _ x y | .beq _ x y | .store _ x y | .iaddrA _ _ x y | .iaddrS _ x y | .append _ _ _ x y | .mkslice _ _ _ _ x y | .eqv _ _ x y => [x, y]
  | .alloc _ _ => []
  | .build _ ps | .bslice _ _ _ ps => ps.map (·.2)
  | .call _ xs | .callv _ xs | .lcall _ xs => xs
  | .icall _ x xs => x :: xs
  | .prim _ xs | .rdp _ xs | .rd _ xs | .ef _ xs => xs
  | .xc _ xs keep _ => xs ++ keep.map .tmp

/-- 0: it looks at its operands alone. 1: it reads memory too. 2: it may turn it. -/
def AI.cls : AI → Nat
  | .mov _ | .pick .. | .bin .. | .beq .. | .un .. | .cvt .. | .build .. | .bslice .. | .ext .. | .faddr .. | .iaddrA .. | .fieldv .. | .nilc _ | .add64 .. | .prim .. | .rdp .. => 0
  | .load .. | .len .. | .iaddrS .. | .callv .. | .lcall .. | .eqv .. | .b2s .. | .rd .. => 1
  | _ => 2

section
variable {P : Program} {ro : Nat → Bool} {s : AS} {K K' : AS → Prop} {dst : Option Tmp}

/-- What an operation of the first two classes answers. -/
noncomputable def AI.val (P : Program) (ro : Nat → Bool) (s : AS) : AI → AV → Prop
  | .mov x, v => v = s.ev x
  | .pick c a b, v => ∃ t, s.ev c = .lit (.bool t) ∧ v = if t then s.ev a else s.ev b
  | .bin op x y, v => ∃ a b u, s.ev x = .lit a ∧ s.ev y = .lit b ∧ binVal op a b = some u ∧ v = .lit u
  | .beq neg x y, v => ∃ p q, s.ev x = .lit (.bool p) ∧ s.ev y = .lit (.bool q) ∧ v = .lit (.bool (if neg then !(p == q) else p == q))
  | .un op x, v => ∃ a u, s.ev x = .lit a ∧ unVal op a = some u ∧ v = .lit u
  | .cvt k x, v => ∃ k' n, s.ev x = .lit (.int k' n) ∧ v = .lit (.int k (k.wrap n))
  | .build z parts, v => fillAV s z parts = some v
  | .bslice esz z n parts, v => ∃ k els, fillAV s (.arr esz (List.replicate n z)) parts = some (.arr k els) ∧ v = .sl esz els
  | .ext x i, v => ∃ vs, s.ev x = .tup vs ∧ vs[i]? = some v
  | .nilc x, v => v = s.ev x ∧ ((∃ b l off p, s.ev x = .ptr b l off p) ∨ ∃ n u, s.ev x = .cptr n u)
  | .add64 x y c, v => ∃ a b d, s.ev x = .lit (.int .u64 a) ∧ s.ev y = .lit (.int .u64 b) ∧ s.ev c = .lit (.int .u64 d) ∧ (0 ≤ a ∧ 0 ≤ b ∧ 0 ≤ d ∧ d ≤ 1) ∧
      v = .tup [.lit (.int .u64 ((a + b + d) % 18446744073709551616)), .lit (.int .u64 ((a + b + d) / 18446744073709551616))]
  | .faddr off idx x, v => AS.fieldAddr off idx (s.ev x) = some v
  | .b2s x, v => ∃ u, s.textOf ro (s.ev x) = some u ∧ v = .lit u
  | .rdp g xs, v => rdA P (fun _ => none) g (xs.map fun x => s.ev x) = some v
  | .rd g xs, v => rdA P (fun b => if ro b then s.blk b else none) g (xs.map fun x => s.ev x) = some v
  | .prim p xs, v => ∃ vs u, s.lits xs = some vs ∧ primVal p vs = some u ∧ v = .lit u
  | .iaddrA ln esz x i, v => ∃ k n, s.ev i = .lit (.int k n) ∧ AS.idxAddr ln esz n (s.ev x) = some v
  | .fieldv off idx n agg x, v => ∃ ns fs, s.ev x = .st ns fs ∧ (ns.take idx).sum = off ∧ ns[idx]? = some n ∧ fs[idx]? = some v ∧ v.isAgg = agg ∧ v.isTup = false
  | .load agg n x, v => s.peek ro (s.ev x) = some (n, v) ∧ v.isAgg = agg ∧ v.isTup = false
  | .len str x, v => ∃ n, s.lenOf ro str (s.ev x) = some n ∧ v = .lit (.int .i64 n)
  | .iaddrS esz x i, v => ∃ k n, s.ev i = .lit (.int k n) ∧ s.elemAddr ro esz n (s.ev x) = some v
  | .callv f args, v => PCall P f (args.map fun x => s.coe ro (s.ev x)) (.val v)
  | .lcall f args, v => v.plain = true ∧ PCall P f (args.map fun x => s.lend ro (s.ev x)) (.val v)
  | .eqv t neg x y, v => ∃ b, EqAV P t (s.ev x) (s.ev y) b ∧ (s.ev x).isAgg = true ∧ (s.ev y).isAgg = true ∧ v = .lit (.bool (if neg then !b else b))
  | _, _ => False

theorem AI.go_val {ai : AI} (h : ai.cls < 2) : ai.go P ro s dst K ↔ ∃ v, ai.val P ro s v ∧ K (s.put dst v) := by
  cases ai <;> simp only [AI.cls] at h <;> try omega
  all_goals simp only [AI.go, AI.val]
  case mov x => simp
  case pick c a b =>
    constructor
    · intro h; split at h
      · rename_i t ht; exact ⟨_, ⟨t, ht, rfl⟩, h⟩
      · exact h.elim
    · rintro ⟨v, ⟨t, ht, rfl⟩, hK⟩; rw [ht]; exact hK
  case rdp g xs =>
    constructor
    · intro h; split at h
      · rename_i v hv; exact ⟨v, hv, h⟩
      · exact h.elim
    · rintro ⟨v, hv, hK⟩; rw [hv]; exact hK
  case rd g xs =>
    constructor
    · intro h; split at h
      · rename_i v hv; exact ⟨v, hv, h⟩
      · exact h.elim
    · rintro ⟨v, hv, hK⟩; rw [hv]; exact hK
  case prim p xs =>
    constructor
    · intro h; split at h
      · rename_i vs hvs
        split at h
        · rename_i u hu; exact ⟨_, ⟨vs, u, hvs, hu, rfl⟩, h⟩
        · exact h.elim
      · exact h.elim
    · rintro ⟨v, ⟨vs, u, hvs, hu, rfl⟩, hK⟩; rw [hvs]; simp only [hu]; exact hK
  case bin op x y =>
    constructor
    · intro h; split at h
      · rename_i p q hp hq
        split at h
        · rename_i u hu; exact ⟨_, ⟨p, q, u, hp, hq, hu, rfl⟩, h⟩
        · exact h.elim
      · exact h.elim
    · rintro ⟨v, ⟨p, q, u, hp, hq, hu, rfl⟩, hK⟩; rw [hp, hq]; simp only [hu]; exact hK
  case beq neg x y =>
    constructor
    · intro h; split at h
      · rename_i p q hp hq; exact ⟨_, ⟨p, q, hp, hq, rfl⟩, h⟩
      · exact h.elim
    · rintro ⟨v, ⟨p, q, hp, hq, rfl⟩, hK⟩; rw [hp, hq]; exact hK
  case un op x =>
    constructor
    · intro h; split at h
      · rename_i p hp
        split at h
        · rename_i u hu; exact ⟨_, ⟨p, u, hp, hu, rfl⟩, h⟩
        · exact h.elim
      · exact h.elim
    · rintro ⟨v, ⟨p, u, hp, hu, rfl⟩, hK⟩; rw [hp]; simp only [hu]; exact hK
  case cvt k x =>
    constructor
    · intro h; split at h
      · rename_i k' n hn; exact ⟨_, ⟨k', n, hn, rfl⟩, h⟩
      · exact h.elim
    · rintro ⟨v, ⟨k', n, hn, rfl⟩, hK⟩; rw [hn]; exact hK
  case build z parts =>
    constructor
    · intro h; split at h
      · rename_i v hv; exact ⟨v, hv, h⟩
      · exact h.elim
    · rintro ⟨v, hv, hK⟩; rw [hv]; exact hK
  case bslice esz z n parts =>
    constructor
    · intro h; split at h
      · rename_i k els hv; exact ⟨_, ⟨k, els, hv, rfl⟩, h⟩
      · exact h.elim
    · rintro ⟨v, ⟨k, els, hv, rfl⟩, hK⟩; rw [hv]; exact hK
  case load agg n x =>
    constructor
    · intro h; split at h
      · rename_i m u hp; obtain ⟨rfl, h1, h2, hK⟩ := h; exact ⟨u, ⟨hp, h1, h2⟩, hK⟩
      · exact h.elim
    · rintro ⟨v, ⟨hp, h1, h2⟩, hK⟩; rw [hp]; exact ⟨rfl, h1, h2, hK⟩
  case faddr off idx x =>
    constructor
    · intro h; split at h
      · rename_i v hv; exact ⟨v, hv, h⟩
      · exact h.elim
    · rintro ⟨v, hv, hK⟩; rw [hv]; exact hK
  case iaddrA ln esz x i =>
    constructor
    · intro h; split at h
      · rename_i k n hn
        split at h
        · rename_i v hv; exact ⟨v, ⟨k, n, hn, hv⟩, h⟩
        · exact h.elim
      · exact h.elim
    · rintro ⟨v, ⟨k, n, hn, hv⟩, hK⟩; rw [hn]; simp only [hv]; exact hK
  case iaddrS esz x i =>
    constructor
    · intro h; split at h
      · rename_i k n hn
        split at h
        · rename_i v hv; exact ⟨v, ⟨k, n, hn, hv⟩, h⟩
        · exact h.elim
      · exact h.elim
    · rintro ⟨v, ⟨k, n, hn, hv⟩, hK⟩; rw [hn]; simp only [hv]; exact hK
  case fieldv off idx n agg x =>
    constructor
    · intro h; split at h
      · rename_i ns fs hx
        obtain ⟨h1, h2, h⟩ := h
        split at h
        · rename_i v hv; exact ⟨v, ⟨ns, fs, hx, h1, h2, hv, h.1, h.2.1⟩, h.2.2⟩
        · exact h.elim
      · exact h.elim
    · rintro ⟨v, ⟨ns, fs, hx, h1, h2, hv, h3, h4⟩, hK⟩; rw [hx]; exact ⟨h1, h2, by rw [hv]; exact ⟨h3, h4, hK⟩⟩
  case b2s x =>
    constructor
    · intro h; split at h
      · rename_i u hu; exact ⟨_, ⟨u, hu, rfl⟩, h⟩
      · exact h.elim
    · rintro ⟨v, ⟨u, hu, rfl⟩, hK⟩; rw [hu]; exact hK
  case len str x =>
    constructor
    · intro h; split at h
      · rename_i n hn; exact ⟨_, ⟨n, hn, rfl⟩, h⟩
      · exact h.elim
    · rintro ⟨v, ⟨n, hn, rfl⟩, hK⟩; rw [hn]; exact hK
  case ext x i =>
    constructor
    · intro h; split at h
      · rename_i vs hvs
        split at h
        · rename_i v hv; exact ⟨v, ⟨vs, hvs, hv⟩, h⟩
        · exact h.elim
      · exact h.elim
    · rintro ⟨v, ⟨vs, hvs, hv⟩, hK⟩; rw [hvs]; simp only [hv]; exact hK
  case nilc x =>
    constructor
    · intro h; split at h
      · rename_i b l off p hx; exact ⟨_, ⟨rfl, .inl ⟨b, l, off, p, hx⟩⟩, by rw [hx]; exact h⟩
      · rename_i n u hx; exact ⟨_, ⟨rfl, .inr ⟨n, u, hx⟩⟩, by rw [hx]; exact h⟩
      · exact h.elim
    · rintro ⟨v, ⟨rfl, h⟩, hK⟩
      rcases h with ⟨b, l, off, p, hx⟩ | ⟨n, u, hx⟩
      · rw [hx] at hK ⊢; exact hK
      · rw [hx] at hK ⊢; exact hK
  case add64 x y c =>
    constructor
    · intro h; split at h
      · rename_i a b d h1 h2 h3
        split at h
        · rename_i hb; exact ⟨_, ⟨a, b, d, h1, h2, h3, hb, rfl⟩, h⟩
        · exact h.elim
      · exact h.elim
    · rintro ⟨v, ⟨a, b, d, h1, h2, h3, hb, rfl⟩, hK⟩
      rw [h1, h2, h3]; simp only [if_pos hb]; exact hK
  case lcall f args => simp only [and_assoc]
  case eqv t neg x y =>
    constructor
    · rintro ⟨b, h1, h2, h3, hK⟩; exact ⟨_, ⟨b, h1, h2, h3, rfl⟩, hK⟩
    · rintro ⟨v, ⟨b, h1, h2, h3, rfl⟩, hK⟩; exact ⟨b, h1, h2, h3, hK⟩

end
end Go.Cab

/- Part fourteen: two operations that are apart may change places. -/
namespace Go.Cab
open Go.RowKit
open Classical

section
variable {P : Program} {ro : Nat → Bool} {s : AS} {K K' : AS → Prop} {dst od : Option Tmp} {v : AV}

/-- This place is none of those that the operands name. -/
def offT (od : Option Tmp) (xs : List Operand) : Prop := ∀ d, od = some d → .tmp d ∉ xs

theorem ev_put {x : Operand} (h : ∀ d, od = some d → x ≠ .tmp d) : (s.put od v).ev x = s.ev x := by
  cases od with
  | none => rfl
  | some d =>
    cases x with
    | tmp t =>
      have hne : d ≠ t := fun e => h d rfl (e ▸ rfl)
      simp [AS.ev, AS.put, List.getD, List.getElem?_set, hne]
    | _ => rfl

theorem offT.ev {xs : List Operand} (h : offT od xs) {x : Operand} (hx : x ∈ xs) : (s.put od v).ev x = s.ev x := ev_put fun d hd he => h d hd (he ▸ hx)

theorem blk_put (b : Nat) : (s.put od v).blk b = s.blk b := by cases od <;> rfl
theorem slot_put : (s.put od v).slot dst = s.slot dst := by cases od <;> rfl

theorem put_put {u : AV} (h : ∀ d, od = some d → dst ≠ some d) : (s.put dst u).put od v = (s.put od v).put dst u := by
  cases od with
  | none => rfl
  | some d =>
    cases dst with
    | none => rfl
    | some e =>
      have hne : e ≠ d := fun he => h d rfl (he ▸ rfl)
      simp [AS.put, List.set_comm _ _ hne]

theorem swap_hp {u : AV} {hp : List (Option Blk)} (h : ∀ d, od = some d → dst ≠ some d) : AS.put { s.put dst u with hp := hp } od v = { (s.put od v).put dst u with hp := hp } := by
  have := put_put (s := s) (u := u) (v := v) h
  cases od with
  | none => rfl
  | some d =>
    rw [← this]
    cases dst <;> rfl

theorem fillAV_congr {s s' : AS} : ∀ (ps : List (Nat × Operand)) (z : AV), (∀ p ∈ ps, s.ev p.2 = s'.ev p.2) → fillAV s z ps = fillAV s' z ps
  | [], _, _ => rfl
  | (i, x) :: ps, z, h => by
    have hx := h (i, x) (by simp)
    simp only at hx
    simp only [fillAV, hx]
    split
    · split
      · exact fillAV_congr ps _ fun p hp => h p (by simp [hp])
      · rfl
    · rfl

theorem peek_put {X : AV} : (s.put od v).peek ro X = s.peek ro X := by cases X <;> simp [AS.peek, blk_put]
theorem lenOf_put {X : AV} {str : Bool} : (s.put od v).lenOf ro str X = s.lenOf ro str X := by cases X <;> simp [AS.lenOf, blk_put]
theorem elemAddr_put {X : AV} {esz : Nat} {n : Int} : (s.put od v).elemAddr ro esz n X = s.elemAddr ro esz n X := by cases X <;> simp [AS.elemAddr, blk_put]
theorem coe_put {X : AV} : (s.put od v).coe ro X = s.coe ro X := by cases X <;> simp [AS.coe, blk_put]
theorem lend_put {X : AV} : (s.put od v).lend ro X = s.lend ro X := by cases X <;> simp [AS.lend, blk_put]
theorem textOf_put {X : AV} : (s.put od v).textOf ro X = s.textOf ro X := by unfold AS.textOf; rw [lend_put]
theorem rowOf_put {X : AV} {e : TypeId} {esz : Nat} : (s.put od v).rowOf e esz X = s.rowOf e esz X := by cases X <;> simp [AS.rowOf, blk_put]
theorem part_put {X : AV} : (s.put od v).part X = s.part X := by cases X <;> simp [AS.part, blk_put]
theorem poke_put {X u : AV} {n : Nat} : (s.put od v).poke n u X = (s.poke n u X).map fun s' => s'.put od v := by
  cases X <;> simp only [AS.poke, Option.map_none]
  simp only [blk_put]
  split
  · split
    · split
      · split
        · simp [setBlk_put]
        · rfl
      · rfl
    · rfl
  · rfl

theorem poke_tm {s' : AS} {X u : AV} {n : Nat} (h : s.poke n u X = some s') : ∃ hp, s' = { s with hp := hp } := by
  cases X <;> simp only [AS.poke] at h <;> try (cases h; done)
  split at h <;> try (cases h; done)
  split at h <;> try (cases h; done)
  split at h <;> try (cases h; done)
  split at h <;> try (cases h; done)
  simp only [Option.some.injEq] at h
  exact ⟨_, h.symm⟩

theorem seal1_put (b : Nat) : (s.put od v).seal1 b = (s.seal1 b).put od v := by
  unfold AS.seal1
  rw [blk_put]
  split
  · rw [setBlk_put]
  · rfl

theorem seals_put : ∀ (bs : List Nat) {s : AS}, (s.put od v).seals bs = (s.seals bs).put od v
  | [], _ => rfl
  | b :: bs, s => by rw [AS.seals, seal1_put, seals_put bs, AS.seals]

theorem seals_hp (bs : List Nat) : ∃ hp, s.seals bs = { s with hp := hp } := by
  refine ⟨(s.seals bs).hp, ?_⟩
  have h1 := seals_tm bs s
  have h2 := seals_nr bs s
  generalize s.seals bs = t at *
  cases t; cases s; simp_all

theorem seals_ev (bs : List Nat) (x : Operand) : (s.seals bs).ev x = s.ev x := by
  obtain ⟨hp, e⟩ := seals_hp (s := s) bs
  rw [e]; cases x <;> rfl

theorem map_coe_put {xs : List Operand} (h : offT od xs) : (xs.map fun x => (s.put od v).coe ro ((s.put od v).ev x)) = xs.map fun x => s.coe ro (s.ev x) :=
  List.map_congr_left fun x hx => by rw [h.ev hx, coe_put]

theorem map_lend_put {xs : List Operand} (h : offT od xs) : (xs.map fun x => (s.put od v).lend ro ((s.put od v).ev x)) = xs.map fun x => s.lend ro (s.ev x) :=
  List.map_congr_left fun x hx => by rw [h.ev hx, lend_put]

/-- What is not looked at may be put before or behind. -/
theorem AI.go_put {ai : AI} (hl : offT od ai.ops) (hd : ∀ d, od = some d → dst ≠ some d) : ai.go P ro s dst (fun s1 => K (s1.put od v)) ↔ ai.go P ro (s.put od v) dst K := by
  have E : ∀ x ∈ ai.ops, (s.put od v).ev x = s.ev x := fun x hx => hl.ev hx
  have S : ∀ u, (s.put dst u).put od v = (s.put od v).put dst u := fun u => put_put hd
  have H : ∀ (u : AV) (hp : List (Option Blk)), AS.put { s.put dst u with hp := hp } od v = { (s.put od v).put dst u with hp := hp } := fun u hp => swap_hp hd
  cases ai <;> simp only [AI.ops, List.mem_cons, List.not_mem_nil, or_false, forall_eq_or_imp, forall_eq, false_or] at E hl <;> simp only [AI.go]
  case mov x => rw [S, E]
  case pick c a b => obtain ⟨e1, e2, e3⟩ := E; rw [e1, e2, e3]; split <;> simp [S]
  case bin op x y => obtain ⟨e1, e2⟩ := E; rw [e1, e2]; split; rotate_left; (rfl); split <;> simp [S]
  case beq neg x y => obtain ⟨e1, e2⟩ := E; rw [e1, e2]; split <;> simp [S]
  case un op x => rw [E]; split; rotate_left; (rfl); split <;> simp [S]
  case cvt k x => rw [E]; split <;> simp [S]
  case alloc n z => simp only [slot_put, put_hp, H]
  case box n x => simp only [E, slot_put, put_hp, H]
  case build z parts =>
    rw [fillAV_congr (s := s.put od v) (s' := s) parts z fun p hp => hl.ev (List.mem_map_of_mem hp)]; split <;> simp [S]
  case bslice esz z n parts =>
    rw [fillAV_congr (s := s.put od v) (s' := s) parts _ fun p hp => hl.ev (List.mem_map_of_mem hp)]; split <;> simp [S]
  case load agg n x => rw [E, peek_put]; split <;> simp [S]
  case store n x u =>
    obtain ⟨e1, e2⟩ := E
    rw [e1, e2, poke_put]
    cases hp : s.poke n (s.ev u) (s.ev x) with
    | none => simp
    | some s' =>
      obtain ⟨hp', rfl⟩ := poke_tm hp
      simp only [Option.map_some]
      have : AS.put (AS.put { s with hp := hp' } dst .any) od v = AS.put (AS.put { s with hp := hp' } od v) dst .any := put_put hd
      rw [this]
  case rdp g xs => have hm : (xs.map fun x => (s.put od v).ev x) = xs.map fun x => s.ev x := List.map_congr_left fun x hx => E x hx; rw [hm]; split <;> simp [S]
  case rd g xs => have hm : (xs.map fun x => (s.put od v).ev x) = xs.map fun x => s.ev x := List.map_congr_left fun x hx => E x hx; have hb : (fun b => if ro b then (s.put od v).blk b else none) = fun b => if ro b then s.blk b else none := funext fun b => by rw [blk_put]
                  rw [hm, hb]; split <;> simp [S]
  case ef g xs => have hm : (xs.map fun x => (s.put od v).ev x) = xs.map fun x => s.ev x := List.map_congr_left fun x hx => E x hx; simp only [hm, slot_put, put_hp, H]
  case xc g xs keep fresh =>
    have hm : (xs.map fun x => (s.put od v).ev x) = xs.map fun x => s.ev x := List.map_congr_left fun x hx => hl.ev (List.mem_append_left _ hx)
    have hk : ∀ hp', keepOk (s.put od v) keep hp' ↔ keepOk s keep hp' := fun hp' => by
      unfold keepOk
      rw [put_hp]
      refine forall_congr' fun t => forall_congr' fun ht => ?_
      rw [hl.ev (List.mem_append_right _ (List.mem_map_of_mem ht))]
    have hnr : (s.put od v).nr = s.nr := put_nr _ _ _
    simp only [hm, put_hp, hnr, H, hk]
  case prim p xs => rw [lits_congr (s := s) (s' := s.put od v) E]; split; rotate_left; (rfl); split <;> simp [S]
  case faddr off idx x => rw [E]; split <;> simp [S]
  case iaddrA ln esz x i => obtain ⟨e1, e2⟩ := E; rw [e1, e2]; split; rotate_left; (rfl); split <;> simp [S]
  case iaddrS esz x i => obtain ⟨e1, e2⟩ := E; rw [e1, e2]; split; rotate_left; (rfl); rw [elemAddr_put]; split <;> simp [S]
  case fieldv off idx n agg x => rw [E]; split; rotate_left; (rfl); split <;> simp [S]
  case b2s x => rw [E, textOf_put]; split <;> simp [S]
  case len str x => rw [E, lenOf_put]; split <;> simp [S]
  case ext x i => rw [E]; split; rotate_left; (rfl); split <;> simp [S]
  case nilc x => rw [E]; split <;> simp [S]
  case add64 x y c => obtain ⟨e1, e2, e3⟩ := E; rw [e1, e2, e3]; split; rotate_left; (rfl); split <;> simp [S]
  case append e esz bytes x y => obtain ⟨e1, e2⟩ := E; rw [e1, e2, rowOf_put, coe_put]; split; rotate_left; (rfl); simp only [slot_put, put_hp, H]
  case mkslice e esz bytes z l c => obtain ⟨e1, e2⟩ := E; rw [e1, e2]; split; rotate_left; (rfl); simp only [slot_put, put_hp, H]
  case eqv t neg x y => obtain ⟨e1, e2⟩ := E; rw [e1, e2]; simp only [S]
  case call f args =>
    refine exists_congr fun bs => exists_congr fun r => and_congr ?_ ?_
    · have : (args.map fun x => ((s.put od v).seals bs).coe ro (((s.put od v).seals bs).ev x)) = args.map fun x => (s.seals bs).coe ro ((s.seals bs).ev x) :=
        List.map_congr_left fun x hx => by rw [seals_ev, seals_ev, hl.ev hx, seals_put, coe_put]
      rw [this]
    · have S' : ∀ u, ((s.seals bs).put dst u).put od v = ((s.seals bs).put od v).put dst u := fun u => put_put hd
      have H' : ∀ (u : AV) (hp : List (Option Blk)), AS.put { (s.seals bs).put dst u with hp := hp } od v = { ((s.seals bs).put od v).put dst u with hp := hp } := fun u hp => swap_hp hd
      cases r <;> simp only [S', seals_put, slot_put, put_hp, H']
  case callv f args => rw [map_coe_put hl]; simp only [S]
  case lcall f args => rw [map_lend_put hl]; simp only [S]
  case icall f x args =>
    have e1 := E.1
    refine or_congr ?_ ?_
    rotate_left
    · have hx : ((x :: args).map fun y => (s.put od v).ev y) = (x :: args).map fun y => s.ev y := List.map_congr_left fun y hy => by
        rcases List.mem_cons.1 hy with rfl | hy
        · exact e1
        · exact E.2 y hy
      rw [hx, put_hp]
      refine exists_congr fun K' => and_congr Iff.rfl (and_congr Iff.rfl ?_)
      refine forall_congr' fun r => forall_congr' fun hp' => ?_
      rw [H]
    rw [e1, part_put]
    have hm : (args.map fun x => (s.put od v).coe ro ((s.put od v).ev x)) = args.map fun x => s.coe ro (s.ev x) := List.map_congr_left fun x hx => by rw [E.2 x hx, coe_put]
    rw [hm]
    split; rotate_left; (rfl)
    refine exists_congr fun r => exists_congr fun u' => and_congr Iff.rfl (and_congr Iff.rfl ?_)
    have e2 : ∀ (b : Nat) (x : Option Blk) (r : AV), AS.put ((s.setBlk b x).put dst r) od v = ((s.put od v).setBlk b x).put dst r := fun b x r => by
      rw [put_put hd, setBlk_put]
    rw [e2]

theorem AI.go_mono {ai : AI} (h : ∀ s, K s → K' s) : ai.go P ro s dst K → ai.go P ro s dst K' := by
  cases ai <;> simp only [AI.go]
  case mov x => exact h _
  case alloc n z => exact fun g l => h _ (g l)
  case box n x => exact fun ⟨a, b, g⟩ => ⟨a, b, fun l => h _ (g l)⟩
  case load agg n x => (split; (exact fun ⟨a, b, c, g⟩ => ⟨a, b, c, h _ g⟩); (exact id))
  case fieldv off idx n agg x => split; rotate_left; (exact id); rintro ⟨a, b, g⟩; refine ⟨a, b, ?_⟩; revert g; (split; (exact fun ⟨a, b, g⟩ => ⟨a, b, h _ g⟩); (exact id))
  case append e esz bytes x y => (split; (exact fun ⟨a, b, c, g⟩ => ⟨a, b, c, fun V => h _ (g V)⟩); (exact id))
  case mkslice e esz bytes z l c => (split; (exact fun ⟨a, b, c, d, g⟩ => ⟨a, b, c, d, fun V => h _ (g V)⟩); (exact id))
  case eqv t neg x y => exact fun ⟨b, a1, a2, a3, g⟩ => ⟨b, a1, a2, a3, h _ g⟩
  case call f args => rintro ⟨bs, r, a1, g⟩; refine ⟨bs, r, a1, ?_⟩; (cases r; (exact h _ g); (exact fun V => h _ (g V)))
  case callv f args => exact fun ⟨v, a, g⟩ => ⟨v, a, h _ g⟩
  case lcall f args => exact fun ⟨v, a, b, g⟩ => ⟨v, a, b, h _ g⟩
  case icall f x args => exact Or.imp (by split; (exact fun ⟨r, u, a, b, g⟩ => ⟨r, u, a, b, h _ g⟩); (exact id)) (fun ⟨K', a, b, g⟩ => ⟨K', a, b, fun r hp' k => h _ (g r hp' k)⟩)
  case rdp g xs => (split; (exact h _); (exact id))
  case rd g xs => (split; (exact h _); (exact id))
  case ef g xs => exact fun g V => let ⟨r, hp', e, k⟩ := g V; ⟨r, hp', e, h _ k⟩
  case xc g xs keep fresh => exact fun ⟨f, vs, e, K', a, b, c, d, g⟩ => ⟨f, vs, e, K', a, b, c, d, fun r hp' k => h _ (g r hp' k)⟩
  case pick c a b => (split; (exact h _); (exact id))
  case bin op x y => split; rotate_left; (exact id); (split; (exact h _); (exact id))
  case beq neg x y => (split; (exact h _); (exact id))
  case un op x => split; rotate_left; (exact id); (split; (exact h _); (exact id))
  case cvt k x => (split; (exact h _); (exact id))
  case build z parts => (split; (exact h _); (exact id))
  case bslice esz z n parts => (split; (exact h _); (exact id))
  case store n x v => (split; (exact h _); (exact id))
  case prim p xs => split; rotate_left; (exact id); (split; (exact h _); (exact id))
  case faddr off idx x => (split; (exact h _); (exact id))
  case iaddrA ln esz x i => split; rotate_left; (exact id); (split; (exact h _); (exact id))
  case iaddrS esz x i => split; rotate_left; (exact id); (split; (exact h _); (exact id))
  case b2s x => (split; (exact h _); (exact id))
  case len str x => (split; (exact h _); (exact id))
  case ext x i => split; rotate_left; (exact id); (split; (exact h _); (exact id))
  case nilc x => (split; (exact h _); (exact h _); (exact id))
  case add64 x y c => split; rotate_left; (exact id); (split; (exact h _); (exact id))

/-- What a state is behind an operation: one place is another one, and the blocks may be. -/
def Behind (s : AS) (dst : Option Tmp) (s1 : AS) : Prop := ∃ v hp, s1 = { s.put dst v with hp := hp }

theorem behind_put (v : AV) : Behind s dst (s.put dst v) := ⟨v, s.hp, by cases dst <;> rfl⟩

theorem behind_seals (bs : List Nat) (v : AV) : Behind s dst ((s.seals bs).put dst v) := by
  obtain ⟨hp, e⟩ := seals_hp (s := s) bs
  rw [e]
  exact ⟨v, hp, by cases dst <;> rfl⟩

theorem behind_seals' (bs : List Nat) (v : AV) (hp : List (Option Blk)) : Behind s dst { (s.seals bs).put dst v with hp := hp } := by
  obtain ⟨hp', e⟩ := seals_hp (s := s) bs
  rw [e]
  exact ⟨v, hp, by cases dst <;> rfl⟩

theorem behind_set (b : Nat) (x : Option Blk) (r : AV) : Behind s dst ((s.setBlk b x).put dst r) := ⟨r, s.hp.set b x, by cases dst <;> rfl⟩

theorem AI.go_post {ai : AI} : ai.go P ro s dst K → ai.go P ro s dst fun s1 => K s1 ∧ Behind s dst s1 := by
  cases ai <;> simp only [AI.go]
  case mov x => exact fun g => ⟨g, behind_put _⟩
  case alloc n z => exact fun g l => ⟨g l, _, _, rfl⟩
  case box n x => exact fun ⟨a, b, g⟩ => ⟨a, b, fun l => ⟨g l, _, _, rfl⟩⟩
  case load agg n x => (split; (exact fun ⟨a, b, c, g⟩ => ⟨a, b, c, g, behind_put _⟩); (exact id))
  case fieldv off idx n agg x => split; rotate_left; (exact id); rintro ⟨a, b, g⟩; refine ⟨a, b, ?_⟩; revert g; (split; (exact fun ⟨a, b, g⟩ => ⟨a, b, g, behind_put _⟩); (exact id))
  case append e esz bytes x y => (split; (exact fun ⟨a, b, c, g⟩ => ⟨a, b, c, fun V => ⟨g V, _, _, rfl⟩⟩); (exact id))
  case mkslice e esz bytes z l c => (split; (exact fun ⟨a, b, c, d, g⟩ => ⟨a, b, c, d, fun V => ⟨g V, _, _, rfl⟩⟩); (exact id))
  case eqv t neg x y => exact fun ⟨b, a1, a2, a3, g⟩ => ⟨b, a1, a2, a3, g, behind_put _⟩
  case call f args => rintro ⟨bs, r, a1, g⟩; refine ⟨bs, r, a1, ?_⟩; (cases r; (exact ⟨g, behind_seals _ _⟩); (exact fun V => ⟨g V, behind_seals' _ _ _⟩))
  case callv f args => exact fun ⟨v, a, g⟩ => ⟨v, a, g, behind_put _⟩
  case lcall f args => exact fun ⟨v, a, b, g⟩ => ⟨v, a, b, g, behind_put _⟩
  case icall f x args => exact Or.imp (by split; (exact fun ⟨r, u, a, b, g⟩ => ⟨r, u, a, b, g, behind_set _ _ _⟩); (exact id)) (fun ⟨K', a, b, g⟩ => ⟨K', a, b, fun r hp' k => ⟨g r hp' k, _, _, rfl⟩⟩)
  case rdp g xs => (split; (exact fun g => ⟨g, behind_put _⟩); (exact id))
  case rd g xs => (split; (exact fun g => ⟨g, behind_put _⟩); (exact id))
  case ef g xs => exact fun g V => let ⟨r, hp', e, k⟩ := g V; ⟨r, hp', e, k, _, _, rfl⟩
  case xc g xs keep fresh => exact fun ⟨f, vs, e, K', a, b, c, d, g⟩ => ⟨f, vs, e, K', a, b, c, d, fun r hp' k => ⟨g r hp' k, _, _, rfl⟩⟩
  case pick c a b => (split; (exact fun g => ⟨g, behind_put _⟩); (exact id))
  case bin op x y => split; rotate_left; (exact id); (split; (exact fun g => ⟨g, behind_put _⟩); (exact id))
  case beq neg x y => (split; (exact fun g => ⟨g, behind_put _⟩); (exact id))
  case un op x => split; rotate_left; (exact id); (split; (exact fun g => ⟨g, behind_put _⟩); (exact id))
  case cvt k x => (split; (exact fun g => ⟨g, behind_put _⟩); (exact id))
  case build z parts => (split; (exact fun g => ⟨g, behind_put _⟩); (exact id))
  case bslice esz z n parts => (split; (exact fun g => ⟨g, behind_put _⟩); (exact id))
  case store n x v =>
    split; rotate_left; (exact id)
    rename_i s' hp
    obtain ⟨hp', rfl⟩ := poke_tm hp
    exact fun g => ⟨g, .any, hp', by cases dst <;> rfl⟩
  case prim p xs => split; rotate_left; (exact id); (split; (exact fun g => ⟨g, behind_put _⟩); (exact id))
  case faddr off idx x => (split; (exact fun g => ⟨g, behind_put _⟩); (exact id))
  case iaddrA ln esz x i => split; rotate_left; (exact id); (split; (exact fun g => ⟨g, behind_put _⟩); (exact id))
  case iaddrS esz x i => split; rotate_left; (exact id); (split; (exact fun g => ⟨g, behind_put _⟩); (exact id))
  case b2s x => (split; (exact fun g => ⟨g, behind_put _⟩); (exact id))
  case len str x => (split; (exact fun g => ⟨g, behind_put _⟩); (exact id))
  case ext x i => split; rotate_left; (exact id); (split; (exact fun g => ⟨g, behind_put _⟩); (exact id))
  case nilc x => (split; (exact fun g => ⟨g, behind_put _⟩); (exact fun g => ⟨g, behind_put _⟩); (exact id))
  case add64 x y c => split; rotate_left; (exact id); (split; (exact fun g => ⟨g, behind_put _⟩); (exact id))

theorem AI.go_ex {ai : AI} : ai.go P ro s dst K → ∃ s1, K s1 := by
  cases ai <;> simp only [AI.go]
  case mov x => exact fun g => ⟨_, g⟩
  case alloc n z => exact fun g => ⟨_, g (0, 0)⟩
  case box n x => exact fun ⟨a, b, g⟩ => ⟨_, g (0, 0)⟩
  case load agg n x => (split; (exact fun ⟨a, b, c, g⟩ => ⟨_, g⟩); (exact False.elim))
  case fieldv off idx n agg x => split; rotate_left; (exact False.elim); rintro ⟨a, b, g⟩; revert g; (split; (exact fun ⟨a, b, g⟩ => ⟨_, g⟩); (exact False.elim))
  case append e esz bytes x y => (split; (exact fun ⟨a, b, c, g⟩ => ⟨_, g undef⟩); (exact False.elim))
  case mkslice e esz bytes z l c => (split; (exact fun ⟨a, b, c, d, g⟩ => ⟨_, g undef⟩); (exact False.elim))
  case eqv t neg x y => exact fun ⟨b, a1, a2, a3, g⟩ => ⟨_, g⟩
  case call f args => rintro ⟨bs, r, a1, g⟩; (cases r; (exact ⟨_, g⟩); (exact ⟨_, g undef⟩))
  case callv f args => exact fun ⟨v, a, g⟩ => ⟨_, g⟩
  case lcall f args => exact fun ⟨v, a, b, g⟩ => ⟨_, g⟩
  case icall f x args => exact fun h => h.elim (by split; (exact fun ⟨r, u, a, b, g⟩ => ⟨_, g⟩); (exact False.elim)) (fun ⟨K', a, ⟨r, hp', k⟩, g⟩ => ⟨_, g r hp' k⟩)
  case rdp g xs => (split; (exact fun g => ⟨_, g⟩); (exact False.elim))
  case rd g xs => (split; (exact fun g => ⟨_, g⟩); (exact False.elim))
  case ef g xs => exact fun g => let ⟨_, _, _, k⟩ := g undef; ⟨_, k⟩
  case xc g xs keep fresh => exact fun ⟨f, vs, e, K', a, ⟨r, hp', k⟩, c, d, g⟩ => ⟨_, g r hp' k⟩
  case pick c a b => (split; (exact fun g => ⟨_, g⟩); (exact False.elim))
  case bin op x y => split; rotate_left; (exact False.elim); (split; (exact fun g => ⟨_, g⟩); (exact False.elim))
  case beq neg x y => (split; (exact fun g => ⟨_, g⟩); (exact False.elim))
  case un op x => split; rotate_left; (exact False.elim); (split; (exact fun g => ⟨_, g⟩); (exact False.elim))
  case cvt k x => (split; (exact fun g => ⟨_, g⟩); (exact False.elim))
  case build z parts => (split; (exact fun g => ⟨_, g⟩); (exact False.elim))
  case bslice esz z n parts => (split; (exact fun g => ⟨_, g⟩); (exact False.elim))
  case store n x v => (split; (exact fun g => ⟨_, g⟩); (exact False.elim))
  case prim p xs => split; rotate_left; (exact False.elim); (split; (exact fun g => ⟨_, g⟩); (exact False.elim))
  case faddr off idx x => (split; (exact fun g => ⟨_, g⟩); (exact False.elim))
  case iaddrA ln esz x i => split; rotate_left; (exact False.elim); (split; (exact fun g => ⟨_, g⟩); (exact False.elim))
  case iaddrS esz x i => split; rotate_left; (exact False.elim); (split; (exact fun g => ⟨_, g⟩); (exact False.elim))
  case b2s x => (split; (exact fun g => ⟨_, g⟩); (exact False.elim))
  case len str x => (split; (exact fun g => ⟨_, g⟩); (exact False.elim))
  case ext x i => split; rotate_left; (exact False.elim); (split; (exact fun g => ⟨_, g⟩); (exact False.elim))
  case nilc x => (split; (exact fun g => ⟨_, g⟩); (exact fun g => ⟨_, g⟩); (exact False.elim))
  case add64 x y c => split; rotate_left; (exact False.elim); (split; (exact fun g => ⟨_, g⟩); (exact False.elim))

theorem Behind.ev {s1 : AS} (h : Behind s dst s1) {xs : List Operand} (hl : offT dst xs) : ∀ x ∈ xs, s1.ev x = s.ev x := by
  obtain ⟨v, hp, rfl⟩ := h
  intro x hx
  have : ({ s.put dst v with hp := hp } : AS).ev x = (s.put dst v).ev x := by cases x <;> rfl
  rw [this]; exact hl.ev hx

/-- The first class looks at its operands alone, and answers one thing. -/
theorem AI.val_congr {ai : AI} (h0 : ai.cls = 0) {s' : AS} (h : ∀ x ∈ ai.ops, s'.ev x = s.ev x) {u : AV} : ai.val P ro s' u ↔ ai.val P ro s u := by
  cases ai <;> simp only [AI.cls] at h0 <;> try omega
  all_goals simp only [AI.ops, List.mem_cons, List.not_mem_nil, or_false, forall_eq_or_imp, forall_eq] at h
  all_goals simp only [AI.val]
  case mov x => rw [h]
  case pick c a b => obtain ⟨e1, e2, e3⟩ := h; rw [e1, e2, e3]
  case bin op x y => obtain ⟨e1, e2⟩ := h; rw [e1, e2]
  case beq neg x y => obtain ⟨e1, e2⟩ := h; rw [e1, e2]
  case un op x => rw [h]
  case cvt k x => rw [h]
  case build z parts => rw [fillAV_congr (s := s') (s' := s) parts z fun p hp => h _ (List.mem_map_of_mem hp)]
  case bslice esz z n parts => rw [fillAV_congr (s := s') (s' := s) parts _ fun p hp => h _ (List.mem_map_of_mem hp)]
  case rdp g xs => rw [List.map_congr_left h]
  case prim p xs => rw [lits_congr h]
  case faddr off idx x => rw [h]
  case iaddrA ln esz x i => obtain ⟨e1, e2⟩ := h; rw [e1, e2]
  case fieldv off idx n agg x => rw [h]
  case ext x i => rw [h]
  case nilc x => rw [h]
  case add64 x y c => obtain ⟨e1, e2, e3⟩ := h; rw [e1, e2, e3]

theorem AI.val_fun {ai : AI} (h0 : ai.cls = 0) {u u' : AV} (h : ai.val P ro s u) (h' : ai.val P ro s u') : u = u' := by
  cases ai <;> simp only [AI.cls] at h0 <;> try omega
  all_goals simp only [AI.val] at h h'
  case mov x => rw [h, h']
  case pick c a b => obtain ⟨t, e1, rfl⟩ := h; obtain ⟨t', e2, rfl⟩ := h'; rw [e1] at e2; simp at e2; rw [e2]
  case bin op x y => obtain ⟨a, b, u, e1, e2, e3, rfl⟩ := h; obtain ⟨a', b', u', e4, e5, e6, rfl⟩ := h'; simp_all
  case beq neg x y => obtain ⟨p, q, e1, e2, rfl⟩ := h; obtain ⟨p', q', e3, e4, rfl⟩ := h'; simp_all
  case un op x => obtain ⟨a, u, e1, e2, rfl⟩ := h; obtain ⟨a', u', e3, e4, rfl⟩ := h'; simp_all
  case cvt k x => obtain ⟨k', n, e1, rfl⟩ := h; obtain ⟨k'', n', e2, rfl⟩ := h'; simp_all
  case build z parts => simp_all
  case bslice esz z n parts => obtain ⟨k, els, e1, rfl⟩ := h; obtain ⟨k', els', e2, rfl⟩ := h'; simp_all
  case rdp g xs => rw [h] at h'; exact Option.some.inj h'
  case prim p xs => obtain ⟨vs, u, e1, e2, rfl⟩ := h; obtain ⟨vs', u', e3, e4, rfl⟩ := h'; simp_all
  case faddr off idx x => simp_all
  case iaddrA ln esz x i => obtain ⟨k, n, e1, e2⟩ := h; obtain ⟨k', n', e3, e4⟩ := h'; simp_all
  case fieldv off idx n agg x => obtain ⟨ns, fs, e1, _, _, e2, _⟩ := h; obtain ⟨ns', fs', e3, _, _, e4, _⟩ := h'; simp_all
  case ext x i => obtain ⟨vs, e1, e2⟩ := h; obtain ⟨vs', e3, e4⟩ := h'; simp_all
  case nilc x => rw [h.1, h'.1]
  case add64 x y c => obtain ⟨a, b, d, e1, e2, e3, _, rfl⟩ := h; obtain ⟨a', b', d', e4, e5, e6, _, rfl⟩ := h'; simp_all

/-- Of the first two classes: another place that is not looked at counts for nothing. -/
theorem AI.val_put {ai : AI} (h2 : ai.cls < 2) (hl : offT od ai.ops) {u : AV} : ai.val P ro (s.put od v) u ↔ ai.val P ro s u := by
  have h := @AI.go_put P ro s (fun s1 => s1 = (s.put od v).put none u) none od v ai hl (by simp)
  have E : ∀ x ∈ ai.ops, (s.put od v).ev x = s.ev x := fun x hx => hl.ev hx
  by_cases h0 : ai.cls = 0
  · exact AI.val_congr h0 E
  · have h1 : ai.cls = 1 := by omega
    clear h0 h2 h
    cases ai <;> simp only [AI.cls] at h1 <;> try (cases h1; done)
    all_goals simp only [AI.ops, List.mem_cons, List.not_mem_nil, or_false, forall_eq_or_imp, forall_eq] at E
    all_goals simp only [AI.val]
    case load agg n x => rw [E, peek_put]
    case iaddrS esz x i => obtain ⟨e1, e2⟩ := E; simp only [e1, e2, elemAddr_put]
    case rd g xs =>
      have hb : (fun b => if ro b then (s.put od v).blk b else none) = fun b => if ro b then s.blk b else none := funext fun b => by rw [blk_put]
      rw [List.map_congr_left E, hb]
    case b2s x => simp only [E, textOf_put]
    case len str x => simp only [E, lenOf_put]
    case eqv t neg x y => obtain ⟨e1, e2⟩ := E; rw [e1, e2]
    case callv f args => have hl' : offT od args := hl; rw [map_coe_put hl']
    case lcall f args => have hl' : offT od args := hl; rw [map_lend_put hl']

/-- Behind a store, or a new variable: one block is another one. -/
def BehindW (s : AS) (dst : Option Tmp) (b : Nat) (s1 : AS) : Prop := ∃ v x, s1 = { s.put dst v with hp := s.hp.set b x }

theorem BehindW.behind {b : Nat} {s1 : AS} (h : BehindW s dst b s1) : Behind s dst s1 := by obtain ⟨v, x, e⟩ := h; exact ⟨v, _, e⟩
theorem BehindW.blk {b k : Nat} {s1 : AS} (h : BehindW s dst b s1) (hk : k ≠ b) : s1.blk k = s.blk k := by
  obtain ⟨v, x, rfl⟩ := h
  simp [AS.blk, List.getElem?_set, Ne.symm hk]

theorem behindW_set (b : Nat) (x : Option Blk) (r : AV) : BehindW s dst b ((s.setBlk b x).put dst r) := ⟨r, x, by cases dst <;> rfl⟩

/-- Which of them are such, and which block. -/
def AI.wr (dst own : Option Tmp) : AI → Option Tmp
  | .alloc _ _ | .box _ _ => some (dst.getD 0)
  | .store _ _ _ => own
  | _ => none

def AI.isNew : AI → Bool
  | .alloc _ _ | .box _ _ => true
  | _ => false

theorem AI.go_postW {ai : AI} {own : Option Tmp} {t : Tmp} (hw : ai.wr dst own = some t) (hm : ∀ n p u, ai = .store n p u → ∃ l off path, s.ev p = .ptr (s.nr + t) l off path) :
    ai.go P ro s dst K → ai.go P ro s dst fun s1 => K s1 ∧ BehindW s dst (s.nr + t) s1 := by
  cases ai <;> simp only [AI.wr] at hw <;> try (cases hw; done)
  case alloc n z =>
    cases hw
    simp only [AI.go]
    exact fun g l => ⟨g l, _, _, rfl⟩
  case box n x =>
    cases hw
    simp only [AI.go]
    exact fun ⟨a, b, g⟩ => ⟨a, b, fun l => ⟨g l, _, _, rfl⟩⟩
  case store n p u =>
    obtain ⟨l, off, path, e⟩ := hm n p u rfl
    simp only [AI.go, e]
    split
    · rename_i s' hp
      intro g
      refine ⟨g, ?_⟩
      simp only [AS.poke] at hp
      split at hp <;> try (cases hp; done)
      split at hp <;> try (cases hp; done)
      split at hp <;> try (cases hp; done)
      split at hp <;> try (cases hp; done)
      cases hp
      exact behindW_set _ _ _
    · exact id

theorem peek_w {b : Nat} {s1 : AS} (h : BehindW s dst b s1) (hr : ro b = false) {X : AV} : s1.peek ro X = s.peek ro X := by
  cases X
  case ptr k l off p =>
    simp only [AS.peek]
    by_cases hk : k = b
    · subst hk; simp [hr]
    · rw [h.blk hk]
  all_goals rfl
theorem lenOf_w {b : Nat} {s1 : AS} (h : BehindW s dst b s1) (hr : ro b = false) {X : AV} {str : Bool} : s1.lenOf ro str X = s.lenOf ro str X := by
  cases X
  case own k V =>
    simp only [AS.lenOf]
    by_cases hk : k = b
    · subst hk; simp [hr]
    · rw [h.blk hk]
  case lit v =>
    unfold AS.lenOf
    split <;> first | rfl | (rename_i hx; cases hx) | simp_all
  all_goals rfl
theorem elemAddr_w {b : Nat} {s1 : AS} (h : BehindW s dst b s1) (hr : ro b = false) {X : AV} {esz : Nat} {n : Int} : s1.elemAddr ro esz n X = s.elemAddr ro esz n X := by
  cases X
  case own k V =>
    simp only [AS.elemAddr]
    by_cases hk : k = b
    · subst hk; simp [hr]
    · rw [h.blk hk]
  all_goals simp only [AS.elemAddr]
theorem coe_w {b : Nat} {s1 : AS} (h : BehindW s dst b s1) (hr : ro b = false) {X : AV} : s1.coe ro X = s.coe ro X := by
  cases X
  case own k V =>
    simp only [AS.coe]
    by_cases hk : k = b
    · subst hk; simp [hr]
    · rw [h.blk hk]
  all_goals simp only [AS.coe]

theorem lend_w {b : Nat} {s1 : AS} (h : BehindW s dst b s1) (hr : ro b = false) {X : AV} : s1.lend ro X = s.lend ro X := by
  cases X
  case own k V =>
    simp only [AS.lend]
    by_cases hk : k = b
    · subst hk; simp [hr]
    · rw [h.blk hk]
  all_goals simp only [AS.lend]

theorem textOf_w {b : Nat} {s1 : AS} (h : BehindW s dst b s1) (hr : ro b = false) {X : AV} : s1.textOf ro X = s.textOf ro X := by unfold AS.textOf; rw [lend_w h hr]

theorem AI.val_w {ai : AI} (h1 : ai.cls = 1) {b : Nat} {s1 : AS} (h : BehindW s dst b s1) (hr : ro b = false) (hl : offT dst ai.ops) {u : AV} : ai.val P ro s1 u ↔ ai.val P ro s u := by
  have E := h.behind.ev hl
  cases ai <;> simp only [AI.cls] at h1 <;> try (cases h1; done)
  all_goals simp only [AI.ops, List.mem_cons, List.not_mem_nil, or_false, forall_eq_or_imp, forall_eq] at E
  all_goals simp only [AI.val]
  case load agg n x => rw [E, peek_w h hr]
  case iaddrS esz x i => obtain ⟨e1, e2⟩ := E; simp only [e1, e2, elemAddr_w h hr]
  case rd g xs =>
    have hb : (fun b' => if ro b' then s1.blk b' else none) = fun b' => if ro b' then s.blk b' else none := funext fun b' => by
      by_cases hk : b' = b
      · subst hk; simp [hr]
      · rw [h.blk hk]
    rw [List.map_congr_left E, hb]
  case b2s x => simp only [E, textOf_w h hr]
  case len str x => simp only [E, lenOf_w h hr]
  case eqv t neg x y => obtain ⟨e1, e2⟩ := E; rw [e1, e2]
  case callv f args =>
    have : (args.map fun x => s1.coe ro (s1.ev x)) = args.map fun x => s.coe ro (s.ev x) := List.map_congr_left fun x hx => by rw [E x hx, coe_w h hr]
    rw [this]
  case lcall f args =>
    have : (args.map fun x => s1.lend ro (s1.ev x)) = args.map fun x => s.lend ro (s.ev x) := List.map_congr_left fun x hx => by rw [E x hx, lend_w h hr]
    rw [this]

/-- Those of the second class that answer one thing. -/
def AI.fn1 : AI → Bool
  | .load .. | .len .. | .iaddrS .. => true
  | _ => false

theorem AI.val_fun1 {ai : AI} (h0 : ai.fn1 = true) {u u' : AV} (h : ai.val P ro s u) (h' : ai.val P ro s u') : u = u' := by
  cases ai <;> simp only [AI.fn1] at h0 <;> try (cases h0; done)
  all_goals simp only [AI.val] at h h'
  case load agg n x => have := h.1.symm.trans h'.1; simp at this; exact this
  case iaddrS esz x i => obtain ⟨k, n, e1, e2⟩ := h; obtain ⟨k', n', e3, e4⟩ := h'; simp_all
  case len str x => obtain ⟨n, e1, rfl⟩ := h; obtain ⟨n', e2, rfl⟩ := h'; simp_all

/-- Behind a call: what it leaves alone. -/
def BehindK (s : AS) (dst : Option Tmp) (keep : List Tmp) (s1 : AS) : Prop := ∃ r hp', s1 = { s.put dst r with hp := hp' } ∧ keepOk s keep hp'
theorem BehindK.behind {keep : List Tmp} {s1 : AS} (h : BehindK s dst keep s1) : Behind s dst s1 := by obtain ⟨r, hp', e, _⟩ := h; exact ⟨r, hp', e⟩
theorem AI.go_postK {g : XT} {xs : List Operand} {keep fresh : List Tmp} : (AI.xc g xs keep fresh).go P ro s dst K → (AI.xc g xs keep fresh).go P ro s dst fun s1 => K s1 ∧ BehindK s dst keep s1 := by
  simp only [AI.go]
  exact fun ⟨f, vs, e, K', a, b, c, d, g⟩ => ⟨f, vs, e, K', a, b, c, d, fun r hp' k => ⟨g r hp' k, r, hp', rfl, (c r hp' k).1⟩⟩

/-- .. behind what is laid beside them. -/
theorem keepOk_of {s : AS} {keep : List Tmp} {slot : Nat} {v : AV} {ob : Option Nat} {x : Option Blk} (h : ∀ t ∈ keep, ∀ b, (s.ev (.tmp t)).place = some b → b ≠ slot ∧ ∀ b' V, v = .own b' V → b' ≠ b) (ho : ∀ b, ob = some b → ∃ V, v = .own b V) : keepOk s keep ((hpDrop s.hp ob).set slot x) := by
  intro t ht b e
  obtain ⟨h1, h2⟩ := h t ht b e
  rw [List.getElem?_set_ne (Ne.symm h1)]
  cases ob with
  | none => rfl
  | some c =>
    obtain ⟨V, hV⟩ := ho c rfl
    show ((s.hp.set c none)[b]?).join = _
    rw [List.getElem?_set_ne (h2 c V hV)]
theorem AI.go_postA {e : TypeId} {esz bytes : Nat} {p q : Operand} {keep : List Tmp} (h : ∀ t ∈ keep, ∀ b, (s.ev (.tmp t)).place = some b → b ≠ s.slot dst ∧ ∀ b' V, s.ev p = .own b' V → b' ≠ b) :
    (AI.append e esz bytes p q).go P ro s dst K → (AI.append e esz bytes p q).go P ro s dst fun s1 => K s1 ∧ BehindK s dst keep s1 := by
  simp only [AI.go]
  split
  · rename_i ob els sl esz' ys hr _
    refine fun ⟨a, b, c, g⟩ => ⟨a, b, c, fun V => ⟨g V, _, _, rfl, keepOk_of h fun b' hb' => ?_⟩⟩
    subst hb'
    unfold AS.rowOf at hr
    split at hr <;> try (cases hr; done)
    rename_i b0 V0 he
    split at hr <;> try (cases hr; done)
    split at hr <;> try (cases hr; done)
    cases hr
    exact ⟨V0, he⟩
  · exact id
theorem AI.go_postE {e : TypeId} {esz bytes : Nat} {str : Bool} {p q : Operand} {keep : List Tmp} (h : ∀ t ∈ keep, ∀ b, (s.ev (.tmp t)).place = some b → b ≠ s.slot dst ∧ ∀ b' V, s.ev p = .own b' V → b' ≠ b) :
    (AI.ef (.app e esz bytes str) [p, q]).go P ro s dst K → (AI.ef (.app e esz bytes str) [p, q]).go P ro s dst fun s1 => K s1 ∧ BehindK s dst keep s1 := by
  simp only [AI.go]
  refine fun g V => ?_
  obtain ⟨r, hp', e1, hk⟩ := g V
  refine ⟨r, hp', e1, hk, r, hp', rfl, ?_⟩
  have hd : efA (s.slot dst) V s.hp (.app e esz bytes str) ([p, q].map fun x => s.ev x) = match rowB s.hp e esz (s.ev p), listB (fun b => (s.hp[b]?).join) esz (s.ev q) with
    | some (ob, els, sl), some ys => if (s.ev q).isText = str ∧ els.length + ys.length ≤ maxLen ∧ (els.length + ys.length) * bytes ≤ 140737488355328 then
        some (.own (s.slot dst) V, (hpDrop s.hp ob).set (s.slot dst) (some (.row e V esz (els ++ ys) sl))) else none
    | _, _ => none := rfl
  rw [hd] at e1
  split at e1 <;> try (cases e1; done)
  rename_i ob els sl ys hr _
  split at e1 <;> try (cases e1; done)
  cases e1
  refine keepOk_of h fun b' hb' => ?_
  subst hb'
  unfold rowB at hr
  split at hr <;> try (cases hr; done)
  rename_i b0 V0 he
  split at hr <;> try (cases hr; done)
  split at hr <;> try (cases hr; done)
  cases hr
  exact ⟨V0, he⟩
theorem AI.go_postB {e : TypeId} {esz n : Nat} {z : AV} {idx : List Nat} {xs : List Operand} {keep : List Tmp} (h : ∀ t ∈ keep, ∀ b, (s.ev (.tmp t)).place = some b → b ≠ s.slot dst ∧ ∀ b' V, (AV.any) = .own b' V → b' ≠ b) :
    (AI.ef (.bown e esz z n idx) xs).go P ro s dst K → (AI.ef (.bown e esz z n idx) xs).go P ro s dst fun s1 => K s1 ∧ BehindK s dst keep s1 := by
  simp only [AI.go]
  refine fun g V => ?_
  obtain ⟨r, hp', e1, hk⟩ := g V
  refine ⟨r, hp', e1, hk, r, hp', rfl, ?_⟩
  have hd : efA (s.slot dst) V s.hp (.bown e esz z n idx) (xs.map fun x => s.ev x) = match fillV (.arr esz (List.replicate n z)) (idx.zip (xs.map fun x => s.ev x)) with
    | some (.arr _ els) => some (.own (s.slot dst) V, s.hp.set (s.slot dst) (some (.row e V esz els 0)))
    | _ => none := rfl
  rw [hd] at e1
  split at e1 <;> try (cases e1; done)
  cases e1
  exact keepOk_of (ob := none) h (by simp)

/-- A call and a new variable change places. -/
theorem AI.go_xnew {g : XT} {xs : List Operand} {keep fresh : List Tmp} {y : AI} {e : Tmp} {od : Option Tmp} (hy : y.isNew = true) (he : e ∈ fresh) (hd : od ≠ some e) (h1 : offT od y.ops) (h2 : offT (some e) (xs ++ keep.map .tmp))
    (G : (AI.xc g xs keep fresh).go P ro s od fun s1 => y.go P ro s1 (some e) K) : y.go P ro s (some e) fun s2 => (AI.xc g xs keep fresh).go P ro s2 od K := by
  simp only [AI.go] at G
  obtain ⟨f, vs, ht, K', hfam, hex, hko, hlt, hK⟩ := G
  have hlen : ∀ r hp', K' r hp' → s.hp.length ≤ hp'.length := fun r hp' k => ((hko r hp' k).2).resolve_left (fun h => by rw [h] at he; cases he)
  have hsl : s.nr + e < s.hp.length := hlt e he
  -- what is laid
  have key : ∀ (l : Nat × Nat) (B : Blk), (∀ r hp', K' r hp' → K { AS.put { s.put od r with hp := hp' } (some e) (.ptr (s.nr + e) l 0 []) with hp := hp'.set (s.nr + e) (some B) }) →
      (AI.xc g xs keep fresh).go P ro { s.put (some e) (.ptr (s.nr + e) l 0 []) with hp := s.hp.set (s.nr + e) (some B) } od K := by
    intro l B hB
    simp only [AI.go]
    have hm : ∀ x ∈ xs ++ keep.map .tmp, ({ s.put (some e) (.ptr (s.nr + e) l 0 []) with hp := s.hp.set (s.nr + e) (some B) } : AS).ev x = s.ev x := fun x hx => by
      have : ({ s.put (some e) (.ptr (s.nr + e) l 0 []) with hp := s.hp.set (s.nr + e) (some B) } : AS).ev x = (s.put (some e) (.ptr (s.nr + e) l 0 [])).ev x := by cases x <;> rfl
      rw [this]; exact h2.ev hx
    refine ⟨f, vs, ?_, fun r H => ∃ hp', K' r hp' ∧ H = hp'.set (s.nr + e) (some B), fun E hE => ?_, ?_, ?_, ?_, ?_⟩
    · rw [List.map_congr_left fun x hx => hm x (List.mem_append_left _ hx)]; exact ht
    · have := hfam ((e, B) :: E) (fun x hx => by
        rcases List.mem_cons.1 hx with rfl | hx
        · exact he
        · exact hE x hx)
      intro w0 w regs Imm0 Vs a1 a2 a3 a4
      exact Calls.mono (this w0 w regs Imm0 Vs a1 a2 a3 a4) fun e' w' ⟨V, r, hp', Imm', he', ⟨hp2, hk, e2⟩, rest⟩ => ⟨V, r, hp', Imm', he', ⟨_, ⟨hp2, hk, rfl⟩, e2⟩, rest⟩
    · obtain ⟨r, hp', k⟩ := hex
      exact ⟨r, _, hp', k, rfl⟩
    · rintro r H ⟨hp', k, rfl⟩
      refine ⟨fun t ht b e' => ?_, .inr (by simp; exact hlen r hp' k)⟩
      rw [hm _ (List.mem_append_right _ (List.mem_map_of_mem ht))] at e'
      have h3 := (hko r hp' k).1 t ht b e'
      have h4 := hlen r hp' k
      by_cases hb : s.nr + e = b
      · subst hb
        rw [List.getElem?_set_self (by omega), List.getElem?_set_self hsl]
      · rw [List.getElem?_set_ne hb, List.getElem?_set_ne hb]; exact h3
    · intro t ht
      show (s.put (some e) (.ptr (s.nr + e) l 0 [])).nr + t < (s.hp.set (s.nr + e) (some B)).length
      rw [put_nr, List.length_set]; exact hlt t ht
    · rintro r H ⟨hp', k, rfl⟩
      have h5 := hB r hp' k
      have h6 : ({ AS.put { s.put (some e) (.ptr (s.nr + e) l 0 []) with hp := s.hp.set (s.nr + e) (some B) } od r with hp := hp'.set (s.nr + e) (some B) } : AS) = { AS.put { s.put od r with hp := hp' } (some e) (.ptr (s.nr + e) l 0 []) with hp := hp'.set (s.nr + e) (some B) } := by
        cases od with
        | none => rfl
        | some d =>
          have hne : d ≠ e := fun h => hd (by rw [h])
          simp only [AS.put]
          congr 1
          exact List.set_comm _ _ (Ne.symm hne)
      rw [h6]; exact h5
  cases y <;> simp only [AI.isNew] at hy <;> try (cases hy; done)
  case alloc n z =>
    simp only [AI.go]
    intro l
    refine key l (.box l n z) fun r hp' k => ?_
    have := hK r hp' k
    simp only [AI.go] at this
    have h7 := this l
    have hs1 : ({ s.put od r with hp := hp' } : AS).slot (some e) = s.nr + e := by cases od <;> rfl
    rw [hs1] at h7
    exact h7
  case box n x =>
    have hx : ∀ r hp', ({ s.put od r with hp := hp' } : AS).ev x = s.ev x := fun r hp' => by
      have : ({ s.put od r with hp := hp' } : AS).ev x = (s.put od r).ev x := by cases x <;> rfl
      rw [this]; exact h1.ev (by simp [AI.ops])
    simp only [AI.go]
    obtain ⟨r0, hp0, k0⟩ := hex
    have h0 := hK r0 hp0 k0
    simp only [AI.go, hx] at h0
    refine ⟨h0.1, h0.2.1, fun l => ?_⟩
    refine key l (.box l n (s.ev x)) fun r hp' k => ?_
    have := hK r hp' k
    simp only [AI.go, hx] at this
    have h7 := this.2.2 l
    have hs1 : ({ s.put od r with hp := hp' } : AS).slot (some e) = s.nr + e := by cases od <;> rfl
    rw [hs1] at h7
    exact h7

/-- What it must be to be read before a call, or behind it. -/
def AI.calm (own : Option Tmp) (s : AS) : AI → Prop
  | .load _ _ p => ∀ t, own = some t → ∀ b l off path, s.ev p = .ptr b l off path → (s.ev (.tmp t)).place = some b
  | .len _ p => ∀ t, own = some t → ∀ b V, s.ev p = .own b V → (s.ev (.tmp t)).place = some b
  | .iaddrS _ p _ => ∀ t, own = some t → ∀ b V, s.ev p = .own b V → (s.ev (.tmp t)).place = some b
  | .callv _ ps => ∀ p ∈ ps, ∀ b V, s.ev p ≠ .own b V
  | _ => False
theorem AI.val_k {ai : AI} {own : Option Tmp} {t : Tmp} (ho : own = some t) {keep : List Tmp} (ht : t ∈ keep ∨ (match ai with | .callv .. => True | _ => False)) {s1 : AS} (h : BehindK s dst keep s1) (hc : ai.calm own s) (hl : offT dst ai.ops) {u : AV} : ai.val P ro s1 u ↔ ai.val P ro s u := by
  have E := h.behind.ev hl
  obtain ⟨r, hp', rfl, hk⟩ := h
  cases ai <;> simp only [AI.calm] at hc <;> try (exact hc.elim)
  all_goals simp only [AI.ops, List.mem_cons, List.not_mem_nil, or_false, forall_eq_or_imp, forall_eq] at E
  all_goals simp only [AI.val]
  case load agg n p =>
    have ht' : t ∈ keep := ht.resolve_right id
    rw [E]
    have : ({ s.put dst r with hp := hp' } : AS).peek ro (s.ev p) = s.peek ro (s.ev p) := by
      generalize hX : s.ev p = X
      cases X
      case ptr b l off path =>
        have := hk t ht' b (hc t ho b l off path hX)
        simp only [AS.peek, AS.blk, this]
      all_goals rfl
    rw [this]
  case len str p =>
    have ht' : t ∈ keep := ht.resolve_right id
    rw [E]
    have : ({ s.put dst r with hp := hp' } : AS).lenOf ro str (s.ev p) = s.lenOf ro str (s.ev p) := by
      generalize hX : s.ev p = X
      cases X
      case own b V =>
        have := hk t ht' b (hc t ho b V hX)
        simp only [AS.lenOf, AS.blk, this]
      case lit v =>
        unfold AS.lenOf
        split <;> first | rfl | (rename_i hx; cases hx) | simp_all
      all_goals rfl
    rw [this]
  case iaddrS esz p i =>
    have ht' : t ∈ keep := ht.resolve_right id
    obtain ⟨e1, e2⟩ := E
    rw [e1, e2]
    have : ∀ n, ({ s.put dst r with hp := hp' } : AS).elemAddr ro esz n (s.ev p) = s.elemAddr ro esz n (s.ev p) := fun n => by
      generalize hX : s.ev p = X
      cases X
      case own b V =>
        have := hk t ht' b (hc t ho b V hX)
        simp only [AS.elemAddr, AS.blk, this]
      all_goals rfl
    simp only [this]
  case callv f ps =>
    have e : ps.map (fun x => ({ s.put dst r with hp := hp' } : AS).coe ro (({ s.put dst r with hp := hp' } : AS).ev x)) = ps.map (fun x => s.coe ro (s.ev x)) := by
      refine List.map_congr_left fun x hx => ?_
      rw [E x hx]
      have := hc x hx
      generalize s.ev x = X at *
      cases X
      case own b V => exact absurd rfl (this b V)
      all_goals rfl
    rw [e]

/-- A store's way is one way. -/
theorem AI.go_store_ex {n : Nat} {p x : Operand} {V : AV → Prop} {F : AV → AS → Prop} (g : (AI.store n p x).go P ro s dst fun s1 => ∃ v, V v ∧ F v s1) : ∃ v, V v ∧ (AI.store n p x).go P ro s dst (F v) := by
  simp only [AI.go] at g ⊢
  split at g
  · exact g
  · exact g.elim

/-- Two new variables change places. -/
theorem AI.go_new {x y : AI} {d e : Tmp} (hx : x.isNew = true) (hy : y.isNew = true) (hne : d ≠ e) (h1 : offT (some d) y.ops) (h2 : offT (some e) x.ops)
    (g : x.go P ro s (some d) fun s1 => y.go P ro s1 (some e) K) : y.go P ro s (some e) fun s2 => x.go P ro s2 (some d) K := by
  have key : ∀ (l l' : Nat × Nat) (A B : Option Blk), ({ AS.put { s.put (some d) (.ptr (s.nr + d) l 0 []) with hp := s.hp.set (s.nr + d) A } (some e) (.ptr (s.nr + e) l' 0 []) with hp := (s.hp.set (s.nr + d) A).set (s.nr + e) B } : AS) =
      { AS.put { s.put (some e) (.ptr (s.nr + e) l' 0 []) with hp := s.hp.set (s.nr + e) B } (some d) (.ptr (s.nr + d) l 0 []) with hp := (s.hp.set (s.nr + e) B).set (s.nr + d) A } := by
    intro l l' A B
    simp only [AS.put]
    rw [List.set_comm _ _ hne, List.set_comm _ _ (show s.nr + d ≠ s.nr + e from fun h => hne (Nat.add_left_cancel h))]
  have evp : ∀ (z : Operand) (f : Tmp) (v : AV) (nr : Nat) (hp : List (Option Blk)), z ≠ .tmp f → AS.ev ⟨nr, (s.put (some f) v).tm, hp⟩ z = s.ev z := by
    intro z f v nr hp hz
    have := ev_put (s := s) (od := some f) (v := v) (x := z) (fun d' he h => by cases he; exact hz h)
    rw [← this]; cases z <;> rfl
  cases x <;> simp only [AI.isNew] at hx <;> try (cases hx; done)
  · cases y <;> simp only [AI.isNew] at hy <;> try (cases hy; done)
    · simp only [AI.go, AS.slot, Option.getD_some, put_nr] at g ⊢
      intro l' l
      exact Eq.mp (congrArg K (key l l' _ _)) (g l l')
    · rename_i n z m y
      have hyz : y ≠ .tmp d := fun h => h1 d rfl (by simp [AI.ops, h])
      simp only [AI.go, AS.slot, Option.getD_some, put_nr, evp _ _ _ _ _ hyz] at g ⊢
      obtain ⟨g1, g2, _⟩ := g (0, 0)
      refine ⟨g1, g2, fun l' l => ?_⟩
      exact Eq.mp (congrArg K (key l l' _ _)) ((g l).2.2 l')
  · rename_i n x
    have hxz : x ≠ .tmp e := fun h => h2 e rfl (by simp [AI.ops, h])
    cases y <;> simp only [AI.isNew] at hy <;> try (cases hy; done)
    · simp only [AI.go, AS.slot, Option.getD_some, put_nr, evp _ _ _ _ _ hxz] at g ⊢
      obtain ⟨g1, g2, g3⟩ := g
      intro l'
      refine ⟨g1, g2, fun l => ?_⟩
      exact Eq.mp (congrArg K (key l l' _ _)) (g3 l l')
    · rename_i m y
      have hyz : y ≠ .tmp d := fun h => h1 d rfl (by simp [AI.ops, h])
      simp only [AI.go, AS.slot, Option.getD_some, put_nr, evp _ _ _ _ _ hxz, evp _ _ _ _ _ hyz] at g ⊢
      obtain ⟨g1, g2, g3⟩ := g
      obtain ⟨g4, g5, _⟩ := g3 (0, 0)
      refine ⟨g4, g5, fun l' => ⟨g1, g2, fun l => ?_⟩⟩
      exact Eq.mp (congrArg K (key l l' _ _)) ((g3 l).2.2 l')

end
end Go.Cab

/- Part fifteen: from the program's operations to these, and one walk for every order. -/
namespace Go.Cab
open Go.RowKit
open Classical

/-- The function's first parameter is an address. -/
def firstPtr (P : Program) (f : FuncId) : Bool :=
  match P.funcs[f]? with
  | some fn => match fn.params[0]? with
    | some t => match P.underlying t with | some (.pointer _) => true | _ => false
    | none => false
  | none => false

/-- It is handed lists, and answers what holds no address: its lists are lent. -/
def lends (P : Program) (f : FuncId) : Bool :=
  match P.funcs[f]? with
  | some fn => fn.params.toList.any (fun t => match P.underlying t with | some (.slice _) => true | _ => false) && (match fn.resultTypes.toList with
    | [t] => (match P.underlying t with
      | some .bool | some (.int _) => true
      | some (.array _ e) => (match P.underlying e with | some (.int _) => true | _ => false)
      | some (.struct fds) => fds.toList.all fun fd => match P.underlying fd.type with
        | some .bool | some (.int _) => true
        | some (.array _ e) => (match P.underlying e with | some (.int _) => true | _ => false)
        | _ => false
      | _ => false)
    | _ => false)
  | none => false

def aggEq (P : Program) (t : TypeId) : Bool := aggT P t && P.keyTypeAt 12 t && !P.eqGuardType P.depth t

def compCall (P : Program) (draw : Bool) (c : Call) : Option AI :=
  match c.callee with
  | .builtin .min => match c.args.toList with
    | [x, y] => if okO x && okO y then some (.prim .imin [x, y]) else none
    | _ => none
  | .value (.func f) => if externFn P f "internal/bytealg.IndexByteString" then (match c.args.toList with
      | [x, y] => if okO x && okO y then some (.prim .ibyte [x, y]) else none
      | _ => none) else if externFn P f "math/bits.Add64" then (match c.args.toList with
      | [x, y, z] => if okO x && okO y && okO z then some (.add64 x y z) else none
      | _ => none) else if callable P f then (match c.args.toList with
      | x :: xs => if firstPtr P f then (if (x :: xs).all okO then some (.icall f x xs) else none)
        else if (x :: xs).all okO then (if lends P f then some (.lcall f (x :: xs)) else if draw then some (.callv f (x :: xs)) else some (.call f (x :: xs))) else none
      | [] => if draw then some (.callv f []) else some (.call f [])) else none
  | .builtin .append => match c.args.toList, c.argTypes.toList with
    | [x, y], [t, t'] => if t' = t then (match P.underlying t with
      | some (.slice e) => match P.info? e, zeroOf P e with
        | some i, some (n, _) => if okO x && okO y then some (.append e n i.bytes x y) else none
        | _, _ => none
      | _ => none) else none
    | _, _ => none
  | _ => none

def compAI (P : Program) (draw : Bool) (op : Op) : Option AI :=
  match op with
  | .binOp .eql t x y u => if aggEq P t then (if okO x && okO y then some (.eqv t false x y) else none) else comp1 P (.binOp .eql t x y u)
  | .binOp .neq t x y u => if aggEq P t then (if okO x && okO y then some (.eqv t true x y) else none) else comp1 P (.binOp .neq t x y u)
  | .build t parts => match zeroOf P t with
    | some (_, z) => if buildOk P t z && parts.toList.all (fun p => okO p.2) then some (.build z parts.toList) else none
    | none => none
  | .buildSlice t n parts => match P.underlying t with
    | some (.slice e) => match zeroOf P e with
      | some (esz, z) => if n * esz ≤ 16777216 && parts.toList.all (fun p => okO p.2) then some (.bslice esz z n parts.toList) else none
      | none => none
    | _ => none
  | .nilCheck x => if okO x then some (.nilc x) else none
  | .makeSlice t l c => match P.underlying t with
    | some (.slice e) => match P.info? e, zeroOf P e with
      | some i, some (esz, z) => if okO l && okO c then some (.mkslice e esz i.bytes z l c) else none
      | _, _ => none
    | _ => none
  | .field t x f => match P.underlying t with
    | some (.struct fields) => match fields[f]? with
      | some fd => match szOf P fd.type with
        | some n => if (P.underlying fd.type).isSome && okO x && (aggT P fd.type || n == 1) then some (.fieldv fd.offset f n (aggT P fd.type) x) else none
        | none => none
      | none => none
    | _ => none
  | .call c => match compCall P draw c with
    | some ai => some ai
    | none => comp1 P (.call c)
  | op => comp1 P op

/-- The variable that an address is of. -/
def rootOf (ops : Array Oper) : Nat → Tmp → Tmp
  | 0, t => t
  | n + 1, t => match ops.toList.find? (fun o => o.dst == some t) with
    | some o => match o.op with
      | .fieldAddr _ (.tmp u) _ | .indexAddr _ (.tmp u) _ | .nilCheck (.tmp u) | .move (.tmp u) => rootOf ops n u
      | _ => t
    | none => t

/-- .. where it stands ahead of the region. -/
def rootR (ops : Array Oper) (p : Tmp) : Tmp :=
  let r := rootOf ops 20 p
  if ops.any fun q => q.dst == some r then 1000000 else r
/-- Neither waits for the other one, by an edge of its own. -/
def unordered (ops : Array Oper) (i j : Nat) : Bool :=
  i != j && (match ops[i]?, ops[j]? with
    | some a, some b => !(a.after.any fun e => Region.binds .any e && e.on == j) && !(b.after.any fun e => Region.binds .any e && e.on == i)
    | _, _ => false)

/-- Who waits for this one, by an edge of its own or through others. -/
def waitsO (ops : Array Oper) (i : Nat) : Array Bool :=
  (List.range ops.size).foldl (fun W j => match ops[j]? with
    | some oj => if oj.after.any (fun e => Region.binds .any e && (e.on == i || W.getD e.on false)) then W.setIfInBounds j true else W
    | none => W) (Array.replicate ops.size false)
def idxO (ops : Array Oper) (o : Oper) : Nat := (ops.toList.findIdx? (fun q => q.dst == o.dst)).getD ops.size
/-- The variables that are read before this one or behind it. -/
def isSl (P : Program) (t : TypeId) : Bool := match P.underlying t with | some (.slice _) => true | _ => false
def keepOf (P : Program) (ops : Array Oper) (o : Oper) : List Tmp :=
  let i := idxO ops o
  let Wi := waitsO ops i
  (List.range ops.size).filterMap fun j => match ops[j]? with
    | some q => match q.op with
      | .load _ (.tmp p) => if i != j && !(Wi.getD j false) && !((waitsO ops j).getD i false) then some (rootOf ops 20 p) else none
      | .indexAddr t (.tmp p) _ => if i != j && !(Wi.getD j false) && !((waitsO ops j).getD i false) && isSl P t then some (rootR ops p) else none
      | .call c => (match c.callee, c.args.toList with
        | .builtin .len, [.tmp p] => if i != j && !(Wi.getD j false) && !((waitsO ops j).getD i false) then some (rootR ops p) else none
        | _, _ => none)
      | _ => none
    | none => none

/-- The variables that are made before this one or behind it. -/
def freshOf (ops : Array Oper) (o : Oper) : List Tmp :=
  let i := idxO ops o
  let Wi := waitsO ops i
  (List.range ops.size).filterMap fun j => match ops[j]? with
    | some q => match q.op with
      | .alloc _ | .box _ _ => if i != j && !(Wi.getD j false) && !((waitsO ops j).getD i false) then q.dst else none
      | _ => none
    | none => none
/-- The function is handed what only a call upon the caller's blocks can be handed. -/
def wantX (P : Program) (draw : Bool) (f : FuncId) : Bool :=
  (draw && firstPtr P f) || match P.funcs[f]? with
    | some fn => fn.params.any fun t => match P.underlying t with
      | some (.interface _) | some (.func ..) => true
      | _ => false
    | none => false
/-- It clears what it is handed. -/
def hasClear : Code → Bool
  | .region _ ops _ => ops.any fun q => match q.op with
    | .call c => (match c.callee with | .builtin .clear => true | _ => false)
    | _ => false
  | .seq a b => hasClear a || hasClear b
  | .cond _ a b => hasClear a || hasClear b
  | .block _ c => hasClear c
  | .loop c => hasClear c
  | .scope c => hasClear c
  | _ => false
def clears (P : Program) (f : FuncId) : Bool := match P.funcs[f]? with
  | some fn => (match fn.body with | some c => hasClear c | none => false)
  | none => false
/-- A value of this type holds an address. -/
def ptrT (P : Program) (t : TypeId) : Bool :=
  match P.underlying t with
  | some (.pointer _) => true
  | some (.struct fs) => fs.any fun f => match P.underlying f.type with | some (.pointer _) => true | _ => false
  | _ => false
/-- This place is a part of an array. -/
def viewIn (P : Program) (ops : Array Oper) : Operand → Bool
  | .tmp t => ops.any fun q => q.dst == some t && match q.op with
    | .slice u _ _ _ _ => (match P.underlying u with | some (.array _ _) => true | _ => false)
    | _ => false
  | _ => false
/-- To this place something is appended. -/
def grownIn (ops : Array Oper) (d : Option Tmp) : Bool :=
  match d with
  | some t => ops.any fun q => match q.op with
    | .call c => (match c.callee, c.args.toList with
      | .builtin .append, .tmp u :: _ => u == t
      | _, _ => false)
    | _ => false
  | none => false
/-- This place is put into a variable. -/
def keptIn (ops : Array Oper) (d : Option Tmp) : Bool :=
  match d with
  | some t => ops.any fun q => match q.op with
    | .assign (.tmp u) => u == t
    | _ => false
  | none => false
/-- Its elements are of more than one cell. -/
def wideS (P : Program) (t : TypeId) : Bool := match P.underlying t with
  | some (.slice e) => (match szOf P e with | some n => 1 < n | none => false)
  | _ => false
def isStr (P : Program) (t : TypeId) : Bool := match P.underlying t with
  | some .string => true
  | _ => false
theorem isStr_spec {P : Program} {t : TypeId} (h : isStr P t = true) : P.underlying t = some .string := by
  unfold isStr at h
  split at h
  · assumption
  · cases h
def isU8 (P : Program) (t : TypeId) : Bool := match P.underlying t with
  | some (.int .u8) => true
  | _ => false
theorem isU8_spec {P : Program} {t : TypeId} (h : isU8 P t = true) : P.underlying t = some (.int .u8) := by
  unfold isU8 at h
  split at h
  · assumption
  · cases h
def isIf (P : Program) (t : TypeId) : Bool := match P.underlying t with
  | some (.interface _) | some (.func ..) => true
  | _ => false
def notIf (P : Program) (t : TypeId) : Bool := match P.underlying t with | some (.interface _) => false | some _ => true | none => false
def zeroSc (P : Program) (t : TypeId) : Option Value :=
  match (P.info? t).bind (·.zero) with
  | some z => if sc z then some z else none
  | none => none
def strMap (P : Program) (t : TypeId) : Option TypeId :=
  match P.underlying t with
  | some (.map k e) => if isStr P k then some e else none
  | _ => none

def compX (P : Program) (draw : Bool) (ops : Array Oper) (o : Oper) : Option AI :=
  match o.op with
  | .makeInterface t x => if okO x && notIf P t then some (.rdp (.mkifc t) [x]) else none
  | .makeFunc fn first caps => if (first.toList ++ caps.toList).all okO then some (.rdp (.mkfn fn first.size) (first.toList ++ caps.toList)) else none
  | .nilCheck x => if okO x && isIf P o.type then some (.rdp .nilv [x]) else none
  | .lookup t x i true => match strMap P t with
    | some e => match zeroSc P e with
      | some z => if okO x && okO i then some (.rd (.lookup z) [x, i]) else none
      | none => none
    | none => none
  | .makeMap _ none => some (.ef .mkmap [])
  | .mapEntry t x i => match strMap P t with
    | some e => match zeroSc P e with
      | some z => if okO x && okO i then some (.ef (.mapEntry z) [x, i]) else none
      | none => none
    | none => none
  | .entryStore _ x st v => if okO x && okO st && okO v then some (.ef .entryStore [x, st, v]) else none
  | .slice t x lo hi none => match P.underlying t with
    | some (.array n e) => match szOf P e with
      | some esz => if (x :: (lo.toList ++ hi.toList)).all okO then some (.rdp (.vslice esz n lo.isSome hi.isSome) (x :: (lo.toList ++ hi.toList))) else none
      | none => none
    | some (.slice e) => match szOf P e with
      | some esz => if (x :: (lo.toList ++ hi.toList)).all okO then some (.rdp (.sslice esz lo.isSome hi.isSome) (x :: (lo.toList ++ hi.toList))) else none
      | none => none
    | _ => none
  | .convert t d x => match P.underlying t, P.underlying d with
    | some (.slice e), some .string => if viewIn P ops x && okO x && isU8 P e then some (.rd .b2sv [x]) else none
    | _, _ => none
  | .binOp .eql t x (.const (.slice none 0 0)) _ => match P.underlying t with
    | some (.slice _) => if !draw && okO x then some (.ef (.isnil false) [x]) else none
    | _ => none
  | .binOp .neq t x (.const (.slice none 0 0)) _ => match P.underlying t with
    | some (.slice _) => if !draw && okO x then some (.ef (.isnil true) [x]) else none
    | _ => none
  | .buildSlice t n parts => if grownIn ops o.dst || (keptIn ops o.dst && wideS P t) then (match P.underlying t with
      | some (.slice e) => match zeroOf P e with
        | some (esz, z) => if n * esz ≤ 16777216 && n ≤ 16777216 && parts.toList.all (fun p => okO p.2) then some (.ef (.bown e esz z n (parts.toList.map (·.1))) (parts.toList.map (·.2))) else none
        | none => none
      | _ => none) else none
  | .call c => match c.callee with
    | .invoke x name => if (x :: c.args.toList).all okO then some (.xc (.inv name) (x :: c.args.toList) (if draw then keepOf P ops o else []) (if draw then freshOf ops o else [])) else none
    | .value (.func f) => if externFn P f "internal/bytealg.Compare" then (match c.args.toList with
        | [x, y] => if okO x && okO y then some (.rd .bcmp [x, y]) else none
        | _ => none) else if callable P f && (wantX P draw f || clears P f || ptrT P o.type || c.args.toList.any (viewIn P ops)) && c.args.toList.all okO then some (.xc (.dir f) c.args.toList (if draw then keepOf P ops o else []) (if draw then freshOf ops o else [])) else none
    | .value x => if (x :: c.args.toList).all okO then some (.xc .val (x :: c.args.toList) (if draw then keepOf P ops o else []) (if draw then freshOf ops o else [])) else none
    | .builtin .copy => match c.args.toList, c.argTypes.toList with
      | [x, y], [t, _] => match P.underlying t with
        | some (.slice e) => match szOf P e with
          | some esz => if okO x && okO y then some (.ef (.copy esz) [x, y]) else none
          | none => none
        | _ => none
      | _, _ => none
    | .builtin .append => match c.args.toList, c.argTypes.toList with
      | [x, y], [t, t'] => match P.underlying t with
        | some (.slice e) => match P.info? e, zeroOf P e with
          | some i, some (n, _) => if okO x && okO y && isStr P t' && n == 1 then some (.ef (.app e n i.bytes true) [x, y]) else if okO x && okO y && viewIn P ops y && t' == t then some (.ef (.app e n i.bytes false) [x, y]) else none
          | _, _ => none
        | _ => none
      | _, _ => none
    | _ => none
  | _ => none

def compY (P : Program) (draw : Bool) (ops : Array Oper) (o : Oper) : Option AI :=
  match compX P draw ops o with
  | some ai => some ai
  | none => compAI P draw o.op

def compO (P : Program) (draw : Bool) (ops : Array Oper) (o : Oper) : Option AOp :=
  match compY P draw ops o with
  | some ai => match o.guard with
    | none => some { dst := o.dst, guard := none, ai := ai }
    | some (j, want) => match (ops[j]?).bind (·.dst) with
      | some t => some { dst := o.dst, guard := some (t, want), ai := ai }
      | none => none
  | none => none

def compOs (P : Program) (draw : Bool) (ops : Array Oper) : List Oper → Option (List AOp)
  | [] => some []
  | o :: os => match compO P draw ops o, compOs P draw ops os with
    | some x, some xs => some (x :: xs)
    | _, _ => none

def slotOf (ops : Array Oper) (x : AOp) : Option Tmp :=
  match x.ai with
  | .alloc _ _ | .box _ _ => some (x.dst.getD 0)
  | .store _ (.tmp t) _ => some (rootOf ops 20 t)
  | _ => none

def annot1 (ops : Array Oper) (xs : List AOp) (i : Nat) (x : AOp) : AOp :=
  match x.ai.cls with
  | 1 =>
    let far := (List.range xs.length).any fun j => unordered ops i j && (match xs[j]? with | some y => (match y.ai with | .xc .. | .append .. | .ef (.app ..) _ | .ef (.bown ..) _ => true | _ => false) | none => false)
    { x with
      forb := (List.range xs.length).filterMap fun j => if unordered ops i j then (xs[j]?).bind (slotOf ops) else none
      own := if far then (match x.ai with | .load _ _ (.tmp p) => some (rootOf ops 20 p) | .len _ (.tmp p) | .iaddrS _ (.tmp p) _ => some (rootR ops p) | .len .. | .iaddrS .. | .callv .. => some 1000000 | _ => none) else none }
  | 2 => match x.ai with
    | .append .. | .ef (.app ..) _ | .ef (.bown ..) _ =>
      let Wi := waitsO ops i
      { x with forb := (List.range xs.length).filterMap fun j => match xs[j]? with
        | some y => match y.ai with
          | .load _ _ (.tmp p) => if i != j && !(Wi.getD j false) && !((waitsO ops j).getD i false) then some (rootOf ops 20 p) else none
          | .len _ (.tmp p) | .iaddrS _ (.tmp p) _ => if i != j && !(Wi.getD j false) && !((waitsO ops j).getD i false) then some (rootR ops p) else none
          | .len .. | .iaddrS .. => some 1000000
          | _ => none
        | none => none }
    | _ => if (List.range xs.length).any fun j => unordered ops i j && ((xs[j]?).map (·.ai.cls == 1)).getD false then { x with own := (match x.ai with | .store .. => slotOf ops x | _ => none) } else x
  | _ => x

def annot (ops : Array Oper) (xs : List AOp) : List AOp := xs.mapIdx fun i x => annot1 ops xs i x

section
variable {P : Program} {w0 wk : World} {regs : List (Nat × Nat × Nat)} {St Imm : Nat → Nat → Prop} {s : AS} {a : Act} {w : World} {o : Oper} {K : AS → Prop} {Q : Exit → Act → World → Prop} {ro : Nat → Bool} {draw : Bool} {ai : AI}

theorem comp1_sound (hc : comp1 P o.op = some ai) (h : ai.go P ro s o.dst K) (hs : SRel w0 wk regs St s a w) : o.wp P a w (fun a' w' => ∃ s', K s' ∧ SRel w0 wk regs St s' a' w') Q := by
  cases hop : o.op <;> rw [hop] at hc <;> simp only [comp1] at hc <;> try (cases hc; done)
  case move x =>
    split at hc <;> try (cases hc; done)
    cases hc; exact sound_mov (.inl hop) (by assumption) h hs
  case assign x =>
    split at hc <;> try (cases hc; done)
    cases hc; exact sound_mov (.inr hop) (by assumption) h hs
  case pick c x y =>
    split at hc <;> try (cases hc; done)
    rename_i hok
    simp only [Bool.and_eq_true] at hok
    cases hc; exact sound_pick hop hok.1.1 hok.1.2 hok.2 h hs
  case alloc t =>
    split at hc <;> try (cases hc; done)
    rename_i hz
    cases hc; exact sound_alloc hop hz h hs
  case box t x =>
    split at hc <;> try (cases hc; done)
    split at hc <;> try (cases hc; done)
    cases hc; exact sound_box hop (by assumption) h hs
  case index t x i =>
    split at hc <;> try (cases hc; done)
    rename_i hu
    split at hc <;> try (cases hc; done)
    rename_i hok
    simp only [Bool.and_eq_true] at hok
    cases hc
    refine sound_prim (by simp [hok.1, hok.2]) (fun v hv => ?_) h hs
    obtain ⟨b, k, n, y, e1, e2, hy, rfl⟩ := prim_sidx hv
    simp [execOp, hop, e1, e2, Instr.index, asIntOf, run_underlying hu, hy]
  case slice t x lo hi mx =>
    split at hc <;> try (cases hc; done)
    rename_i hu
    split at hc
    · split at hc <;> try (cases hc; done)
      rename_i hok
      cases hc
      refine sound_prim (by simpa using hok) (fun v hv => ?_) h hs
      obtain ⟨b, e1, rfl⟩ := prim_sub00 hv
      simp [execOp, hop, e1, Instr.sliceAt, Instr.slice, Instr.sliceBounds, run_underlying hu]
    · split at hc <;> try (cases hc; done)
      rename_i hok
      cases hc
      refine sound_prim (by simpa using hok) (fun v hv => ?_) h hs
      obtain ⟨b, k, n, e1, e2, g1, g2, rfl⟩ := prim_sub10 hv
      simp [execOp, hop, e1, e2, Instr.sliceAt, Instr.slice, Instr.sliceBounds, Instr.sliceBound, asIntOf, run_underlying hu, g1, g2]
    · split at hc <;> try (cases hc; done)
      rename_i hok
      cases hc
      refine sound_prim (by simpa using hok) (fun v hv => ?_) h hs
      obtain ⟨b, k, n, e1, e2, g1, g2, rfl⟩ := prim_sub01 hv
      simp [execOp, hop, e1, e2, Instr.sliceAt, Instr.slice, Instr.sliceBounds, Instr.sliceBound, asIntOf, run_underlying hu, g1, g2]
    · split at hc <;> try (cases hc; done)
      rename_i hok
      cases hc
      refine sound_prim (by simpa [and_assoc] using hok) (fun v hv => ?_) h hs
      obtain ⟨b, k, n, k', n', e1, e2, e3, g1, g2, g3, g4, rfl⟩ := prim_sub11 hv
      simp [execOp, hop, e1, e2, e3, Instr.sliceAt, Instr.slice, Instr.sliceBounds, Instr.sliceBound, asIntOf, run_underlying hu, g1, g2, g3, g4]
      intro hlt
      omega
  case load t x =>
    split at hc <;> try (cases hc; done)
    rename_i hn
    split at hc <;> try (cases hc; done)
    rename_i hok
    simp only [Bool.and_eq_true, Bool.or_eq_true, beq_iff_eq] at hok
    cases hc; exact sound_load hop hok.1.2 hok.1.1 hn hok.2 h hs
  case store t x v =>
    split at hc <;> try (cases hc; done)
    rename_i hn
    split at hc <;> try (cases hc; done)
    rename_i hok
    simp only [Bool.and_eq_true] at hok
    cases hc; exact sound_store hop hok.1 hok.2 hn h hs
  case binOp op t x y u =>
    split at hc <;> try (cases hc; done)
    rename_i hok
    simp only [Bool.and_eq_true] at hok
    split at hc <;> cases hc
    · rename_i ht; exact sound_beq (neg := false) hop ht hok.1 hok.2 h hs
    · rename_i ht; exact sound_beq (neg := true) hop ht hok.1 hok.2 h hs
    · exact sound_bin hop hok.1 hok.2 h hs
  case unOp op t x =>
    split at hc <;> try (cases hc; done)
    cases hc; exact sound_un hop (by assumption) h hs
  case convert t d x =>
    split at hc <;> try (cases hc; done)
    · rename_i ht hd
      split at hc <;> try (cases hc; done)
      cases hc; exact sound_cvt hop ht hd (by assumption) h hs
    · rename_i ht hd
      split at hc <;> try (cases hc; done)
      rename_i he
      split at hc <;> try (cases hc; done)
      cases hc; exact sound_b2s hop ht he hd (by assumption) h hs
  case fieldAddr t x f =>
    split at hc <;> try (cases hc; done)
    rename_i ht
    split at hc <;> try (cases hc; done)
    rename_i hf
    split at hc <;> try (cases hc; done)
    rename_i hn
    split at hc <;> try (cases hc; done)
    rename_i hok
    simp only [Bool.and_eq_true, bne_iff_ne, ne_eq] at hok
    cases hc; exact sound_faddr hop ht hf hn hok.2 hok.1 h hs
  case indexAddr t x i =>
    split at hc <;> try (cases hc; done)
    · rename_i ht
      split at hc <;> try (cases hc; done)
      rename_i hn
      split at hc <;> try (cases hc; done)
      rename_i hok
      simp only [Bool.and_eq_true] at hok
      cases hc; exact sound_iaddrA hop ht hn hok.1 hok.2 h hs
    · rename_i ht
      split at hc <;> try (cases hc; done)
      rename_i hn
      split at hc <;> try (cases hc; done)
      rename_i hok
      simp only [Bool.and_eq_true] at hok
      cases hc; exact sound_iaddrS hop ht hn hok.1 hok.2 h hs
  case extract x i =>
    split at hc <;> try (cases hc; done)
    cases hc; exact sound_ext hop (by assumption) h hs
  case call c =>
    split at hc <;> try (cases hc; done)
    rename_i b x t hcal hargs htys
    split at hc <;> try (cases hc; done)
    rename_i hb
    subst hb
    split at hc <;> try (cases hc; done)
    · rename_i ht
      split at hc <;> try (cases hc; done)
      cases hc; exact sound_len (str := true) hop hcal hargs htys (by simpa using ht) (by assumption) h hs
    · rename_i e ht
      split at hc <;> try (cases hc; done)
      cases hc; exact sound_len (str := false) hop hcal hargs htys (by simpa using ⟨e, ht⟩) (by assumption) h hs
    · rename_i n e ht
      cases hc
      obtain ⟨Imm, h1, h2, h3⟩ := hs.ex
      have ha' : c.args = #[x] := by rw [← Array.toArray_toList (xs := c.args), hargs]
      have ht' : c.argTypes = #[t] := by rw [← Array.toArray_toList (xs := c.argTypes), htys]
      simp only [AI.go] at h
      refine upon_of_run (V := .int .i64 n) (w' := w) ?_ ⟨_, h, hs.put0 h1 h2 h3 (Rel.mkLit rfl)⟩
      simp [execOp, hop, resolve, hcal, invoke, builtin, Builtin.len_, ha', ht', run_underlying ht, goInt]

theorem compAI_sound (hc : compAI P draw o.op = some ai) (h : ai.go P ro s o.dst K) (hs : SRel w0 wk regs St s a w) : o.wp P a w (fun a' w' => ∃ s', K s' ∧ SRel w0 wk regs St s' a' w') Q := by
  unfold compAI at hc
  split at hc
  · rename_i t x y u hop
    split at hc
    · rename_i ha
      split at hc <;> try (cases hc; done)
      rename_i hok
      simp only [Bool.and_eq_true] at hok
      simp only [aggEq, Bool.and_eq_true, Bool.not_eq_true'] at ha
      cases hc; exact sound_eqv (neg := false) hop ha.1.2 ha.2 hok.1 hok.2 h hs
    · rw [← hop] at hc; exact comp1_sound hc h hs
  · rename_i t x y u hop
    split at hc
    · rename_i ha
      split at hc <;> try (cases hc; done)
      rename_i hok
      simp only [Bool.and_eq_true] at hok
      simp only [aggEq, Bool.and_eq_true, Bool.not_eq_true'] at ha
      cases hc; exact sound_eqv (neg := true) hop ha.1.2 ha.2 hok.1 hok.2 h hs
    · rw [← hop] at hc; exact comp1_sound hc h hs
  · rename_i t parts hop
    split at hc <;> try (cases hc; done)
    rename_i n z hz
    split at hc <;> try (cases hc; done)
    rename_i hok
    simp only [Bool.and_eq_true] at hok
    cases hc; exact sound_build hop hz hok.1 hok.2 h hs
  · rename_i t n parts hop
    split at hc <;> try (cases hc; done)
    rename_i e ht
    split at hc <;> try (cases hc; done)
    rename_i esz z hz
    split at hc <;> try (cases hc; done)
    rename_i hok
    simp only [Bool.and_eq_true, decide_eq_true_eq] at hok
    cases hc; exact sound_bslice hop ht hz hok.1 hok.2 h hs
  · rename_i x hop
    split at hc <;> try (cases hc; done)
    cases hc; exact sound_nilc hop (by assumption) h hs
  · rename_i t l c hop
    split at hc <;> try (cases hc; done)
    rename_i e ht
    split at hc <;> try (cases hc; done)
    rename_i i esz z hi hz
    split at hc <;> try (cases hc; done)
    rename_i hok
    simp only [Bool.and_eq_true] at hok
    cases hc; exact sound_mkslice hop ht hz hi rfl hok.1 hok.2 h hs
  · rename_i t x f hop
    split at hc <;> try (cases hc; done)
    rename_i fields ht
    split at hc <;> try (cases hc; done)
    rename_i fd hf
    split at hc <;> try (cases hc; done)
    rename_i n hn
    split at hc <;> try (cases hc; done)
    rename_i hok
    simp only [Bool.and_eq_true, Bool.or_eq_true, beq_iff_eq] at hok
    cases hc; exact sound_fieldv hop ht hf hok.1.1 hok.1.2 hok.2 hn h hs
  · rename_i c hop
    split at hc
    · rename_i ai' hcc
      cases hc
      unfold compCall at hcc
      split at hcc
      · rename_i hcal
        split at hcc <;> try (cases hcc; done)
        rename_i x y hargs
        split at hcc <;> try (cases hcc; done)
        cases hcc; exact sound_min hop hcal hargs (by assumption) h hs
      · rename_i f hcal
        split at hcc
        · rename_i hext
          split at hcc <;> try (cases hcc; done)
          rename_i x y hargs
          split at hcc <;> try (cases hcc; done)
          cases hcc; exact sound_ibyte hop hcal hargs hext (by assumption) h hs
        split at hcc
        · rename_i hext
          split at hcc <;> try (cases hcc; done)
          rename_i x y z hargs
          split at hcc <;> try (cases hcc; done)
          cases hcc; exact sound_add64 hop hcal hargs hext (by assumption) h hs
        split at hcc <;> try (cases hcc; done)
        rename_i hcb
        split at hcc
        · rename_i x xs hargs
          split at hcc
          · split at hcc <;> try (cases hcc; done)
            cases hcc; exact sound_icall hop hcal hargs hcb (by assumption) h hs
          · split at hcc <;> try (cases hcc; done)
            rename_i hok
            have hal : c.args = (x :: xs).toArray := by rw [← Array.toArray_toList (xs := c.args), hargs]
            split at hcc
            · cases hcc; exact sound_lcall hop hcal hal hcb (by simpa using hok) (by simpa using h) hs
            split at hcc
            · cases hcc; exact sound_callv hop hcal hal hcb (by simpa using hok) (by simpa using h) hs
            · cases hcc; exact sound_call hop hcal hal hcb (by simpa using hok) (by simpa using h) hs
        · rename_i hargs
          have hal : c.args = ([] : List Operand).toArray := by rw [← Array.toArray_toList (xs := c.args), hargs]
          split at hcc
          · cases hcc; exact sound_callv hop hcal hal hcb (by simp) (by simpa using h) hs
          · cases hcc; exact sound_call hop hcal hal hcb (by simp) (by simpa using h) hs
      · rename_i hcal
        split at hcc <;> try (cases hcc; done)
        rename_i x y t t' hargs htys
        split at hcc <;> try (cases hcc; done)
        rename_i htt
        subst htt
        split at hcc <;> try (cases hcc; done)
        rename_i e ht
        split at hcc <;> try (cases hcc; done)
        rename_i i n z hi hz
        split at hcc <;> try (cases hcc; done)
        rename_i hok
        simp only [Bool.and_eq_true] at hok
        cases hcc
        obtain ⟨i', zv, hi', hzv, hn, _, hl, _⟩ := zeroOf_spec hz
        have : i' = i := by rw [hi] at hi'; exact (Option.some.inj hi').symm
        subst this
        exact sound_append hop hcal hargs htys ht hi hzv hn rfl (by rw [← Array.length_toList]; exact hl) hok.1 hok.2 h hs
      · cases hcc
    · rw [← hop] at hc; exact comp1_sound hc h hs
  · exact comp1_sound hc h hs

theorem strMap_spec {t e : TypeId} (h : strMap P t = some e) : ∃ k, P.underlying t = some (.map k e) ∧ P.underlying k = some .string := by
  unfold strMap at h
  split at h <;> try (cases h; done)
  rename_i k e' hu
  split at h <;> try (cases h; done)
  rename_i hk
  cases h
  exact ⟨k, hu, isStr_spec hk⟩
theorem zeroSc_spec {t : TypeId} {z : Value} (h : zeroSc P t = some z) : ∃ i, P.info? t = some i ∧ i.zero = some z ∧ sc z = true := by
  unfold zeroSc at h
  split at h <;> try (cases h; done)
  rename_i z' hz
  split at h <;> try (cases h; done)
  rename_i hsc
  cases h
  obtain ⟨i, hi, hz⟩ := Option.bind_eq_some_iff.1 hz
  exact ⟨i, hi, hz, hsc⟩

theorem compX_sound {ops : Array Oper} (hc : compX P draw ops o = some ai) (h : ai.go P ro s o.dst K) (hs : SRel w0 wk regs St s a w) : o.wp P a w (fun a' w' => ∃ s', K s' ∧ SRel w0 wk regs St s' a' w') Q := by
  unfold compX at hc
  split at hc <;> try (cases hc; done)
  · rename_i t x hop
    split at hc <;> try (cases hc; done)
    rename_i hok
    simp only [Bool.and_eq_true] at hok
    cases hc; exact sound_mkifc hop hok.2 hok.1 h hs
  · rename_i fn first caps hop
    split at hc <;> try (cases hc; done)
    cases hc; exact sound_mkfn hop (by assumption) h hs
  · rename_i x hop
    split at hc <;> try (cases hc; done)
    rename_i hok
    simp only [Bool.and_eq_true] at hok
    cases hc; exact sound_nilv hop hok.1 h hs
  · rename_i t x i hop
    split at hc <;> try (cases hc; done)
    rename_i e hm
    split at hc <;> try (cases hc; done)
    rename_i z hz
    split at hc <;> try (cases hc; done)
    rename_i hok
    simp only [Bool.and_eq_true] at hok
    obtain ⟨k, h1, h2⟩ := strMap_spec hm
    obtain ⟨inf, h3, h4, h5⟩ := zeroSc_spec hz
    cases hc; exact sound_lookup hop h1 h2 h3 h4 h5 hok.1 hok.2 h hs
  · rename_i t hop
    cases hc; exact sound_mkmap hop h hs
  · rename_i t x i hop
    split at hc <;> try (cases hc; done)
    rename_i e hm
    split at hc <;> try (cases hc; done)
    rename_i z hz
    split at hc <;> try (cases hc; done)
    rename_i hok
    simp only [Bool.and_eq_true] at hok
    obtain ⟨k, h1, h2⟩ := strMap_spec hm
    obtain ⟨inf, h3, h4, h5⟩ := zeroSc_spec hz
    cases hc; exact sound_mapEntry hop h1 h2 h3 h4 h5 hok.1 hok.2 h hs
  · rename_i t x st v hop
    split at hc <;> try (cases hc; done)
    rename_i hok
    simp only [Bool.and_eq_true] at hok
    cases hc; exact sound_entryStore hop hok.1.1 hok.1.2 hok.2 h hs
  · rename_i t x lo hi hop
    split at hc <;> try (cases hc; done)
    · rename_i n e ht
      split at hc <;> try (cases hc; done)
      rename_i esz hz
      split at hc <;> try (cases hc; done)
      cases hc; exact sound_vslice hop ht hz (by assumption) h hs
    · rename_i e ht
      split at hc <;> try (cases hc; done)
      rename_i esz hz
      split at hc <;> try (cases hc; done)
      cases hc; exact sound_sslice hop ht hz (by assumption) h hs
  · rename_i t d x hop
    split at hc <;> try (cases hc; done)
    rename_i e ht hd
    split at hc <;> try (cases hc; done)
    rename_i hok
    simp only [Bool.and_eq_true] at hok
    obtain ⟨⟨_, hx⟩, he⟩ := hok
    cases hc
    exact sound_b2sv hop ht (isU8_spec he) hd hx h hs
  · rename_i t x u hop
    split at hc <;> try (cases hc; done)
    rename_i e ht
    split at hc <;> try (cases hc; done)
    rename_i hok
    simp only [Bool.and_eq_true] at hok
    cases hc; exact sound_isnil (neg := false) hop ht hok.2 h hs
  · rename_i t x u hop
    split at hc <;> try (cases hc; done)
    rename_i e ht
    split at hc <;> try (cases hc; done)
    rename_i hok
    simp only [Bool.and_eq_true] at hok
    cases hc; exact sound_isnil (neg := true) hop ht hok.2 h hs
  · rename_i t n parts hop
    split at hc <;> try (cases hc; done)
    split at hc <;> try (cases hc; done)
    rename_i e ht
    split at hc <;> try (cases hc; done)
    rename_i esz z hz
    split at hc <;> try (cases hc; done)
    rename_i hok
    simp only [Bool.and_eq_true, decide_eq_true_eq] at hok
    cases hc; exact sound_bown hop ht hz hok.1.1 (by simp only [maxLen]; omega) hok.2 h hs
  · rename_i c hop
    split at hc <;> try (cases hc; done)
    · rename_i x name hcal
      split at hc <;> try (cases hc; done)
      cases hc; exact sound_xinv hop hcal rfl (by assumption) h hs
    · rename_i f hcal
      split at hc
      · rename_i hext
        split at hc <;> try (cases hc; done)
        rename_i x y hargs
        split at hc <;> try (cases hc; done)
        cases hc; exact sound_bcmp hop hcal hargs hext (by assumption) h hs
      · split at hc <;> try (cases hc; done)
        rename_i hok
        simp only [Bool.and_eq_true] at hok
        cases hc; exact sound_xdir hop hcal rfl hok.2 h hs
    · rename_i x _ hcal
      split at hc <;> try (cases hc; done)
      cases hc; exact sound_xval hop hcal rfl (by assumption) h hs
    · rename_i hcal
      split at hc <;> try (cases hc; done)
      rename_i x y t t' hargs htys
      split at hc <;> try (cases hc; done)
      rename_i e ht
      split at hc <;> try (cases hc; done)
      rename_i esz hz
      split at hc <;> try (cases hc; done)
      rename_i hok
      simp only [Bool.and_eq_true] at hok
      cases hc; exact sound_copy hop hcal hargs htys ht hz hok.1 hok.2 h hs
    · rename_i hcal
      split at hc <;> try (cases hc; done)
      rename_i x y t t' hargs htys
      split at hc <;> try (cases hc; done)
      rename_i e ht
      split at hc <;> try (cases hc; done)
      rename_i i n z hi hz
      obtain ⟨i', zv, hi', hzv, hn, _, hl, _⟩ := zeroOf_spec hz
      have : i' = i := by rw [hi] at hi'; exact (Option.some.inj hi').symm
      subst this
      have hzs : zv.cells.size = n := by rw [← Array.length_toList]; exact hl
      split at hc
      · rename_i hok
        simp only [Bool.and_eq_true, beq_iff_eq] at hok
        obtain ⟨⟨⟨hx, hy⟩, hst⟩, hn1⟩ := hok
        cases hc
        exact sound_app (str := true) hop hcal hargs htys (by simp only [if_true]; exact ⟨isStr_spec hst, hn1⟩) ht hi hzv hn rfl hzs hx hy h hs
      · split at hc <;> try (cases hc; done)
        rename_i hok
        simp only [Bool.and_eq_true, beq_iff_eq] at hok
        obtain ⟨⟨⟨hx, hy⟩, _⟩, htt⟩ := hok
        cases hc
        exact sound_app (str := false) hop hcal hargs htys (by simpa using htt) ht hi hzv hn rfl hzs hx hy h hs

theorem compY_sound {ops : Array Oper} (hc : compY P draw ops o = some ai) (h : ai.go P ro s o.dst K) (hs : SRel w0 wk regs St s a w) : o.wp P a w (fun a' w' => ∃ s', K s' ∧ SRel w0 wk regs St s' a' w') Q := by
  unfold compY at hc
  split at hc
  · rename_i hx; cases hc; exact compX_sound hx h hs
  · exact compAI_sound hc h hs
end
end Go.Cab
