/- Part 2 of what the proof stands on: L, M, N, O. -/
import Derived.Test.YtjkcebfbhhhkaaaCab01
import Derived.Laws.BytesString
set_option linter.unusedSimpArgs false
set_option linter.unnecessarySimpa false
set_option linter.unusedVariables false
set_option linter.unusedSectionVars false
/- Part twelve: calls that turn a variable; fields of values; and one theorem for all operations. -/
namespace Go.Cab
open Go.RowKit
open Classical

section
variable {P : Program} {w0 wk : World} {regs : List (Nat × Nat × Nat)} {St Imm : Nat → Nat → Prop} {s : AS} {a : Act} {w : World} {o : Oper} {K : AS → Prop} {Q : Exit → Act → World → Prop} {ro : Nat → Bool}

theorem sound_icall {f : FuncId} {x : Operand} {args : List Operand} {c : Call} (ho : o.op = .call c) (hc : c.callee = .value (.func f)) (ha : c.args.toList = x :: args) (hf : callable P f = true) (hok : (x :: args).all okO = true)
    (h : AI.go P ro s o.dst K (.icall f x args)) (hs : SRel w0 wk regs St s a w) : o.wp P a w (fun a' w' => ∃ s', K s' ∧ SRel w0 wk regs St s' a' w') Q := by
  obtain ⟨Imm, h1, h2, h3, hseal⟩ := hs.seals
  simp only [List.all_cons, Bool.and_eq_true] at hok
  have hX := h2.eval x (okO_sc hok.1)
  simp only [AI.go] at h
  rcases h with h | ⟨K', hX', _, hK⟩
  rotate_left
  · obtain ⟨Imm, h1, h2, h3⟩ := hs.ex
    have hargs : ArgsOk Imm w ((x :: args).map fun y => s.ev y) ((x :: args).map a.eval) := by
      have : ∀ (xs : List Operand), xs.all okO = true → ArgsOk Imm w (xs.map fun y => s.ev y) (xs.map a.eval) := by
        intro xs
        induction xs with
        | nil => exact fun _ => trivial
        | cons y ys ih =>
          intro h
          simp only [List.all_cons, Bool.and_eq_true] at h
          exact ⟨h2.eval y (okO_sc h.1), ih h.2⟩
      exact this _ (by simp only [List.all_cons, Bool.and_eq_true]; exact hok)
    have hcall := hX' w0 w regs Imm _ hs.frame h1.there h3 hargs
    have e2 : ((x :: args).map a.eval).toArray = c.args.map a.eval := by apply Array.ext'; simp [ha]
    rw [e2] at hcall
    unfold Oper.wp Oper.upon
    rw [run_call ho hc rfl hf]
    refine Calls.mono hcall fun e w' ⟨V, r, hp', Imm', he, hk', hfr, hI', hr, _, hH⟩ => ?_
    subst he
    show ∃ s', K s' ∧ SRel w0 wk regs St s' (a.put o.dst V) w'
    refine ⟨_, hK r hp' hk', ?_⟩
    have hkeep : ∀ b o, Imm b o → w'.cell? ⟨b, o, none⟩ = w.cell? ⟨b, o, none⟩ := hI'.val
    have hI2 : ImmOk w0 wk St Imm' w' := ⟨fun b o hb => hI'.sub _ _ (h1.sub b o hb), fun b o hb hlt => h1.old b o (hI'.old b o hb hlt) hlt, hI'.there, fun b o hb => by rw [hkeep b o (h1.sub b o hb)]; exact h1.val b o hb⟩
    exact ⟨by rw [aput_defers]; exact hs.defers, by rw [aput_size, put_len]; exact hs.tsize, hfr, Imm', hI2, h2.put hs.tsize hI'.sub hkeep (.inr hr), hH⟩
  split at h <;> try exact h.elim
  rename_i b blk p m u hpart
  obtain ⟨r, u', hP, hu't, hK⟩ := h
  unfold AS.part at hpart
  split at hpart <;> try (cases hpart; done)
  rename_i b0 l off p0 hex
  split at hpart <;> try (cases hpart; done)
  rename_i l' n v hblk
  split at hpart <;> try (cases hpart; done)
  rename_i hl
  subst hl
  split at hpart <;> try (cases hpart; done)
  rename_i o1 m1 u1 hnav
  split at hpart <;> try (cases hpart; done)
  rename_i hoff
  obtain ⟨rfl, hm0⟩ := hoff
  simp only [Option.some.injEq, Prod.mk.injEq] at hpart
  obtain ⟨rfl, rfl, rfl, rfl, rfl⟩ := hpart
  have hm1 : 0 < m1 := Nat.pos_of_ne_zero hm0
  rw [hex] at hX
  rcases hX with hX | ⟨cs', hX, eX⟩
  · cases hX
  cases hX
  have eX' : a.eval x = .pointer (some ⟨l'.1, l'.2 + o1, none⟩) := eX
  obtain ⟨hbok, hbfoot⟩ := h3.ok b0 _ hblk
  obtain ⟨⟨cs, hR, hln, hscs, hcell⟩, hnot⟩ := hbok
  obtain ⟨pre, c0, post, e1, ho1, hc0, hu0, hc0s, _⟩ := R.nav p0 v 0 n o1 m1 u1 cs hR hscs hln hnav
  have hlen : pre.length + m1 ≤ n := by rw [← hln, e1]; simp; omega
  have hregok : Blk.ok Imm w (.box (l'.1, l'.2 + o1) m1 u1) := by
    refine ⟨⟨c0, hu0, hc0, hc0s, fun i y hy => ?_⟩, fun i hi => ?_⟩
    · have hi := (List.getElem?_eq_some_iff.1 hy).1
      have := hcell (o1 + i) y (by rw [e1, List.append_assoc, List.getElem?_append_right (by omega), show o1 + i - pre.length = i from by omega, List.getElem?_append_left hi]; exact hy)
      rw [show l'.2 + o1 + i = l'.2 + (o1 + i) from by omega]; exact this
    · have := hnot (o1 + i) (by omega)
      rw [show l'.2 + o1 + i = l'.2 + (o1 + i) from by omega]; exact this
  have hargs : ArgsOk Imm w (.ptr 0 (l'.1, l'.2 + o1) 0 [] :: args.map fun x => s.coe ro (s.ev x)) (a.eval x :: args.map a.eval) :=
    ⟨.inr ⟨_, .ptr _ _ _ _, by rw [eX']; rfl⟩, argsOk h3 hseal h2 args hok.2⟩
  have hcall := hP w Imm (l'.1, l'.2 + o1) _ h1.there hregok hargs
  have e2 : (a.eval x :: args.map a.eval).toArray = c.args.map a.eval := by apply Array.ext'; simp [ha]
  rw [e2] at hcall
  unfold Oper.wp Oper.upon
  rw [run_call ho hc rfl hf]
  refine Calls.mono hcall fun e w' ⟨V, Imm', he, hfr, hI', hr, hrany, hu'ok⟩ => ?_
  subst he
  have hinreg : ∀ b o, inReg [(l'.1, l'.2 + o1, m1)] b o ↔ (b = l'.1 ∧ l'.2 + o1 ≤ o ∧ o < l'.2 + o1 + m1) := fun b o => by simp [inReg]
  have hImmOut : ∀ b o, Imm b o → ¬ inReg [(l'.1, l'.2 + o1, m1)] b o := fun b o hi hr => by
    obtain ⟨rfl, h4, h5⟩ := (hinreg b o).1 hr
    have := (hnot (o - l'.2) (by omega)).2
    rw [show l'.2 + (o - l'.2) = o from by omega] at this
    exact this hi
  have hk : ∀ b o, Imm b o → w'.cell? ⟨b, o, none⟩ = w.cell? ⟨b, o, none⟩ := fun b o hi => hfr.cell b o (h1.lt hi) (hImmOut b o hi)
  have hII := hI'.sub
  have hnew := hI'.old
  have hI2 : ImmOk w0 wk St Imm' w' := ⟨fun b o hb => hII _ _ (h1.sub b o hb), fun b o hb hlt => h1.old b o (hnew b o hb (Nat.lt_of_lt_of_le hlt hs.frame.size)) hlt, hI'.there, fun b o hb => by rw [hk b o (h1.sub b o hb)]; exact h1.val b o hb⟩
  obtain ⟨⟨c', hu'R, hc'l, hc's, hc'cell⟩, _⟩ := hu'ok
  obtain ⟨pre2, c2, post2, e3, ho2, hc2, _, _, hset⟩ := R.nav p0 v 0 n o1 m1 u1 cs (hR.mono hII hk) hscs hln hnav
  have hpp : pre2.length = pre.length := by omega
  have hbw : l'.1 < w.heap.size := by
    obtain ⟨y, hy⟩ : ∃ y, cs[0]? = some y := ⟨_, List.getElem?_eq_getElem (by omega)⟩
    exact World.block_lt_of_cell? w _ (hcell 0 y hy)
  have hbox : (Blk.box l' n (v.upd p0 u')).ok Imm' w' := by
    refine ⟨⟨_, hset u' c' hu'R hc'l hc's, ?_, ?_, fun i y hy => ?_⟩, fun i hi => ⟨?_, fun hm => ?_⟩⟩
    · rw [← hln, e3]; simp; omega
    · intro y hy
      rcases List.mem_append.1 hy with hy | hy
      · rcases List.mem_append.1 hy with hy | hy
        · exact hscs y (by rw [e3]; simp [hy])
        · exact hc's y hy
      · exact hscs y (by rw [e3]; simp [hy])
    · by_cases h4 : i < o1
      · rw [hfr.cell l'.1 (l'.2 + i) hbw (fun hr => by have := ((hinreg _ _).1 hr).2.1; omega)]
        exact hcell i y (by rw [e3, List.append_assoc, List.getElem?_append_left (by omega)]; rw [List.append_assoc, List.getElem?_append_left (by omega)] at hy; exact hy)
      · by_cases h5 : i < o1 + m1
        · have := hc'cell (i - o1) y (by rw [List.append_assoc, List.getElem?_append_right (by omega), List.getElem?_append_left (by omega)] at hy; rwa [show i - o1 = i - pre2.length from by omega])
          rwa [show l'.2 + o1 + (i - o1) = l'.2 + i from by omega] at this
        · rw [hfr.cell l'.1 (l'.2 + i) hbw (fun hr => by have := ((hinreg _ _).1 hr).2.2; omega)]
          refine hcell i y ?_
          rw [List.getElem?_append_right (by simp; omega)] at hy
          rw [e3, List.getElem?_append_right (by simp; omega)]
          rw [← hy]; congr 1; simp; omega
    · rw [hfr.frozen l'.1 (l'.2 + i) hbw]; exact (hnot i hi).1
    · exact (hnot i hi).2 (hnew _ _ hm hbw)
  have hfoot : ∀ i, i < m1 → Blk.foot (.box l' n v) l'.1 (l'.2 + o1 + i) := fun i hi => ⟨rfl, by omega, by omega⟩
  have hother : ∀ (k : Nat) (y : Blk), k ≠ b0 → (s.hp[k]?).join = some y → y.ok Imm' w' := fun k y hkb hy => by
    obtain ⟨hyok, hyf⟩ := h3.ok k y hy
    have hdis : ∀ b o, y.foot b o → ¬ inReg [(l'.1, l'.2 + o1, m1)] b o := fun b o hfy hr => by
      obtain ⟨rfl, h4, h5⟩ := (hinreg b o).1 hr
      have := hfoot (o - (l'.2 + o1)) (by omega)
      rw [show l'.2 + o1 + (o - (l'.2 + o1)) = o from by omega] at this
      exact h3.apart k b0 y _ hkb hy hblk _ _ hfy this
    refine hyok.keep hII hk (fun b o hfy hi => hnew b o hi (hyf b o hfy).1) (fun b o hfy => hfr.cell b o (hyf b o hfy).1 (hdis b o hfy)) (fun b o hfy => hfr.frozen b o (hyf b o hfy).1) ?_
    intro e1 V1 esz1 els1 s1 he b hb
    subst he
    refine hfr.block b (hyf b 0 hb).1 fun r hr => ?_
    simp only [List.mem_singleton] at hr
    subst hr
    intro he
    have : Blk.foot (Blk.row e1 V1 esz1 els1 s1) l'.1 (l'.2 + o1 + 0) := by show V1.ownBlock = some l'.1; rw [he]; exact hb
    exact h3.apart k b0 _ _ hkb hy hblk _ _ this (hfoot 0 (by omega))
  have hH : HeapOk w0 regs Imm' (s.hp.set b0 (some (.box l' n (v.upd p0 u')))) w' := by
    refine ⟨fun k y hy => ?_, fun k k' y z hne hy hz b o hfy => ?_⟩
    · rcases hp_set hy with ⟨rfl, rfl⟩ | ⟨hkb, hy'⟩
      · exact ⟨hbox, fun b o hf => ⟨Nat.lt_of_lt_of_le (hbfoot b o hf).1 hfr.size, (hbfoot b o hf).2⟩⟩
      · exact ⟨hother k y hkb hy', fun b o hf => ⟨Nat.lt_of_lt_of_le ((h3.ok k y hy').2 b o hf).1 hfr.size, ((h3.ok k y hy').2 b o hf).2⟩⟩
    · rcases hp_set hy with ⟨rfl, rfl⟩ | ⟨hkb, hy'⟩
      · rcases hp_set hz with ⟨rfl, rfl⟩ | ⟨hkb', hz'⟩
        · exact absurd rfl hne
        · exact h3.apart k k' (.box l' n v) z hne hblk hz' b o hfy
      · rcases hp_set hz with ⟨rfl, rfl⟩ | ⟨hkb', hz'⟩
        · exact h3.apart k k' y (.box l' n v) hne hy' hblk b o hfy
        · exact h3.apart k k' y z hne hy' hz' b o hfy
  have hF : Fr regs w0 w' := by
    have hwhere : w0.heap.size ≤ l'.1 ∨ ∀ i, i < m1 → inReg regs l'.1 (l'.2 + o1 + i) := by
      rcases Nat.lt_or_ge l'.1 w0.heap.size with h | h
      · exact .inr fun i hi => ((hbfoot _ _ (hfoot i hi)).2).resolve_left (by omega)
      · exact .inl h
    have hsz := hs.frame.size
    refine ⟨hfr.os.trans hs.frame.os, hfr.tape.trans hs.frame.tape, hfr.output.trans hs.frame.output, Nat.le_trans hs.frame.size hfr.size, fun k hk' hr => ?_, fun b o hb hr => ?_, fun b o hb => ?_⟩
    · rw [hfr.block k (by omega) (fun q hq => by
        simp only [List.mem_singleton] at hq
        subst hq
        intro he
        rcases hwhere with h | h
        · simp only at he; omega
        · obtain ⟨q, hq1, hq2, _⟩ := h 0 (by omega)
          exact hr q hq1 (by rw [← hq2]; exact he))]
      exact hs.frame.block k hk' hr
    · rw [hfr.cell b o (by omega) (fun hq => by
        obtain ⟨rfl, h4, h5⟩ := (hinreg b o).1 hq
        rcases hwhere with h | h
        · omega
        · have := h (o - (l'.2 + o1)) (by omega)
          rw [show l'.2 + o1 + (o - (l'.2 + o1)) = o from by omega] at this
          exact hr this)]
      exact hs.frame.cell b o hb hr
    · rw [hfr.frozen b o (by omega)]; exact hs.frame.frozen b o hb
  show ∃ s', K s' ∧ SRel w0 wk regs St s' (a.put o.dst V) w'
  refine ⟨_, hK, ?_⟩
  have e5 : (s.setBlk b0 (some ((Blk.box l' n v).upd p0 u'))).put o.dst r = { s.put o.dst r with hp := s.hp.set b0 (some (.box l' n (v.upd p0 u'))) } := by cases o.dst <;> rfl
  rw [e5]
  exact ⟨by rw [aput_defers]; exact hs.defers, by rw [aput_size, put_len]; exact hs.tsize, hF, Imm', hI2, h2.put hs.tsize hII hk (.inr hr), hH⟩

theorem lits_eval {a : Act} (h2 : TmOk Imm w s.tm a.tmps) : ∀ {xs : List Operand} {vs : List Value}, xs.all okO = true → s.lits xs = some vs → xs.map a.eval = vs
  | [], vs, _, h => by simp only [AS.lits, Option.some.injEq] at h; subst h; rfl
  | x :: xs, vs, hok, h => by
    simp only [List.all_cons, Bool.and_eq_true] at hok
    unfold AS.lits at h
    split at h <;> try (cases h; done)
    rename_i v vs' hv hvs
    cases h
    have hX := h2.eval x (okO_sc hok.1)
    rw [hv] at hX
    rw [List.map_cons, hX.lit.1, lits_eval h2 hok.2 hvs]

theorem primVal_sc {p : PrimOp} {vs : List Value} {v : Value} (h : primVal p vs = some v) : sc v = true := by
  unfold primVal at h
  split at h
  · split at h <;> cases h; rfl
  · cases h; rfl
  · obtain ⟨_, _, rfl⟩ := Option.map_eq_some_iff.1 h; rfl
  · obtain ⟨_, _, rfl⟩ := Option.map_eq_some_iff.1 h; rfl
  · obtain ⟨_, _, h⟩ := Option.bind_eq_some_iff.1 h
    obtain ⟨_, _, rfl⟩ := Option.map_eq_some_iff.1 h; rfl
  · cases h; rfl
  · cases h; rfl
  · cases h

theorem bound_some {v : Value} {y m : Nat} (h : bound v y = some m) : ∃ k n, v = .int k n ∧ 0 ≤ n ∧ n ≤ (y : Int) ∧ m = n.toNat := by
  unfold bound at h
  split at h
  · rename_i k n
    split at h
    · rename_i hb; cases h; exact ⟨k, n, rfl, hb.1, hb.2, rfl⟩
    · cases h
  · cases h
theorem prim_sidx {x i v : Value} (h : primVal .sidx [x, i] = some v) : ∃ s k n b, x = .string s ∧ i = .int k n ∧ (if 0 ≤ n then s[n.toNat]? else none) = some b ∧ v = .int .u8 b.toNat := by
  cases x <;> try (simp [primVal] at h; done)
  rename_i s
  cases i <;> try (simp [primVal] at h; done)
  rename_i k n
  simp only [primVal] at h
  split at h
  · rename_i b hb; cases h; exact ⟨s, k, n, b, rfl, rfl, hb, rfl⟩
  · cases h
theorem prim_sub00 {x v : Value} (h : primVal (.ssub false false) [x] = some v) : ∃ s, x = .string s ∧ v = .string (s.extract 0 s.size) := by
  cases x <;> try (simp [primVal] at h; done)
  simp only [primVal, Option.some.injEq] at h
  exact ⟨_, rfl, h.symm⟩
theorem prim_sub10 {x l v : Value} (h : primVal (.ssub true false) [x, l] = some v) : ∃ s k n, x = .string s ∧ l = .int k n ∧ 0 ≤ n ∧ n ≤ (s.size : Int) ∧ v = .string (s.extract n.toNat s.size) := by
  cases x <;> try (simp [primVal] at h; done)
  simp only [primVal] at h
  obtain ⟨m, hm, rfl⟩ := Option.map_eq_some_iff.1 h
  obtain ⟨k, n, rfl, h1, h2, rfl⟩ := bound_some hm
  exact ⟨_, k, n, rfl, rfl, h1, h2, rfl⟩
theorem prim_sub01 {x l v : Value} (h : primVal (.ssub false true) [x, l] = some v) : ∃ s k n, x = .string s ∧ l = .int k n ∧ 0 ≤ n ∧ n ≤ (s.size : Int) ∧ v = .string (s.extract 0 n.toNat) := by
  cases x <;> try (simp [primVal] at h; done)
  simp only [primVal] at h
  obtain ⟨m, hm, rfl⟩ := Option.map_eq_some_iff.1 h
  obtain ⟨k, n, rfl, h1, h2, rfl⟩ := bound_some hm
  exact ⟨_, k, n, rfl, rfl, h1, h2, rfl⟩
theorem prim_sub11 {x l r v : Value} (h : primVal (.ssub true true) [x, l, r] = some v) : ∃ s k n k' n', x = .string s ∧ l = .int k n ∧ r = .int k' n' ∧ 0 ≤ n' ∧ n' ≤ (s.size : Int) ∧ 0 ≤ n ∧ n ≤ (n'.toNat : Int) ∧ v = .string (s.extract n.toNat n'.toNat) := by
  cases x <;> try (simp [primVal] at h; done)
  simp only [primVal] at h
  obtain ⟨m, hm, h⟩ := Option.bind_eq_some_iff.1 h
  obtain ⟨m', hm', rfl⟩ := Option.map_eq_some_iff.1 h
  obtain ⟨k, n, rfl, h1, h2, rfl⟩ := bound_some hm
  obtain ⟨k', n', rfl, h3, h4, rfl⟩ := bound_some hm'
  exact ⟨_, k', n', k, n, rfl, rfl, rfl, h1, h2, h3, h4, rfl⟩

/-- An operation upon numbers and texts. -/
theorem sound_prim {p : PrimOp} {xs : List Operand} (hok : xs.all okO = true) (hrun : ∀ v, primVal p (xs.map a.eval) = some v → (execOp a.eval o).run P w = .ok (.value v) w)
    (h : AI.go P ro s o.dst K (.prim p xs)) (hs : SRel w0 wk regs St s a w) : o.wp P a w (fun a' w' => ∃ s', K s' ∧ SRel w0 wk regs St s' a' w') Q := by
  obtain ⟨Imm, h1, h2, h3⟩ := hs.ex
  simp only [AI.go] at h
  split at h <;> try exact h.elim
  rename_i vs hvs
  split at h <;> try exact h.elim
  rename_i v hv
  have e := lits_eval h2 hok hvs
  rw [← e] at hv
  exact upon_of_run (V := v) (w' := w) (hrun v hv) ⟨_, h, hs.put0 h1 h2 h3 (Rel.mkLit (primVal_sc hv))⟩

theorem prim_imin {x y v : Value} (h : primVal .imin [x, y] = some v) : ∃ k a k' b, x = .int k a ∧ y = .int k' b ∧ v = .int k (if b < a then b else a) := by
  cases x <;> try (simp [primVal] at h; done)
  cases y <;> try (simp [primVal] at h; done)
  simp only [primVal, Option.some.injEq] at h
  exact ⟨_, _, _, _, rfl, rfl, h.symm⟩
theorem prim_ibyte {x y v : Value} (h : primVal .ibyte [x, y] = some v) : ∃ s n, x = .string s ∧ y = .int .u8 n ∧ v = .int .i64 (match (List.range s.size).find? fun i => s[i]! == n.toNat.toUInt8 with | some i => (i : Int) | none => -1) := by
  cases x <;> try (simp [primVal] at h; done)
  cases y <;> try (simp [primVal] at h; done)
  rename_i s k n
  cases k <;> try (simp [primVal] at h; done)
  simp only [primVal, Option.some.injEq] at h
  exact ⟨_, _, rfl, rfl, h.symm⟩

theorem sound_min {x y : Operand} {c : Call} (ho : o.op = .call c) (hc : c.callee = .builtin .min) (ha : c.args.toList = [x, y]) (hok : (okO x && okO y) = true)
    (h : AI.go P ro s o.dst K (.prim .imin [x, y])) (hs : SRel w0 wk regs St s a w) : o.wp P a w (fun a' w' => ∃ s', K s' ∧ SRel w0 wk regs St s' a' w') Q := by
  have ha' : c.args = #[x, y] := by rw [← Array.toArray_toList (xs := c.args), ha]
  refine sound_prim (by simpa using hok) (fun v hv => ?_) h hs
  obtain ⟨k, p, k', q, e1, e2, rfl⟩ := prim_imin hv
  simp [execOp, ho, resolve, hc, invoke, builtin, Builtin.min_, Builtin.min2, ha', e1, e2]

theorem find_ibyte {fn : Func} (hn : fn.name = "internal/bytealg.IndexByteString") : Extern.find fn = some Extern.BytealgIndexByte.indexByte := by
  have h1 : Extern.allGenericRows.lookup "internal/bytealg.IndexByteString" = none := by kernel_rfl
  have h2 : Extern.allTypedRows.lookup "internal/bytealg.IndexByteString" = none := by kernel_rfl
  have h3 : Extern.allRows.lookup "internal/bytealg.IndexByteString" = some Extern.BytealgIndexByte.indexByte := by kernel_rfl
  simp only [Extern.find, hn, h1, h2, h3]
  rfl
theorem findNext_ibyte {fn : Func} (hn : fn.name = "internal/bytealg.IndexByteString") (ho : fn.origin = "") : Extern.findNext fn = none := by
  have h1 : Extern.allNextRows.lookup "internal/bytealg.IndexByteString" = none := by kernel_rfl
  have h2 : Extern.allNextRows.lookup "" = none := by kernel_rfl
  simp only [Extern.findNext, hn, ho, h1, h2]
  rfl

theorem sound_ibyte {f : FuncId} {x y : Operand} {c : Call} (ho : o.op = .call c) (hc : c.callee = .value (.func f)) (ha : c.args.toList = [x, y]) (hf : externFn P f "internal/bytealg.IndexByteString" = true) (hok : (okO x && okO y) = true)
    (h : AI.go P ro s o.dst K (.prim .ibyte [x, y])) (hs : SRel w0 wk regs St s a w) : o.wp P a w (fun a' w' => ∃ s', K s' ∧ SRel w0 wk regs St s' a' w') Q := by
  have ha' : c.args = #[x, y] := by rw [← Array.toArray_toList (xs := c.args), ha]
  unfold externFn at hf
  split at hf <;> try (cases hf; done)
  rename_i fn hfn
  simp only [Bool.and_eq_true, beq_iff_eq] at hf
  obtain ⟨⟨hn, horig⟩, hbody⟩ := hf
  refine sound_prim (by simpa using hok) (fun v hv => ?_) h hs
  obtain ⟨b, n, e1, e2, rfl⟩ := prim_ibyte hv
  have hcall := run_callFunc_extern (P := P) hfn (by rw [hn]; rfl) hbody (findNext_ibyte hn horig) (find_ibyte hn) #[.string b, .int .u8 n] w
  have hrun : (Extern.BytealgIndexByte.indexByte #[.string b, .int .u8 n]).run P w = .ok (.int .i64 (match (List.range b.size).find? fun i => b[i]! == n.toNat.toUInt8 with | some i => (i : Int) | none => -1)) w := by
    have e : Extern.BytealgIndexByte.indexByte #[.string b, .int .u8 n] = (do
      let b ← Extern.Bytes.bytesOf (.string b)
      let c ← Extern.Bytes.asByte (.int .u8 n)
      match (List.range b.size).find? fun i => b[i]! == c with
      | some i => pure (goInt i)
      | none => pure (goInt (-1))) := rfl
    rw [e]
    simp only [Extern.Bytes.bytesOf, Extern.Bytes.asByte, Sem.run_bind, Sem.run_pure, Result.andThen_ok]
    generalize (List.range b.size).find? (fun i => b[i]! == n.toNat.toUInt8) = q
    cases q <;> simp [goInt]
  rw [hrun] at hcall
  simp only [execOp, ho, resolve, hc, ha', Deferred.ofValue, Act.eval, invoke]
  simp [e1, e2, hcall]

theorem bytes_cells {Imm : Nat → Nat → Prop} {w : World} : ∀ {els : List AV} {ns : List Int} {cs : List Value}, bytesAV els = some ns → R Imm w (.arr 1 els) cs → cs = ns.map (Value.int .u8) ∧ els.length = ns.length
  | [], ns, cs, h, hr => by
    simp only [bytesAV, Option.some.injEq] at h
    subst h; cases hr; exact ⟨rfl, rfl⟩
  | e :: els, ns, cs, h, hr => by
    unfold bytesAV at h
    split at h <;> try (cases h; done)
    · rename_i h0; cases h0
    · rename_i n els' he
      cases he
      obtain ⟨ns', hn, rfl⟩ := Option.map_eq_some_iff.1 h
      cases hr with
      | arr1 _ _ _ c d hc hl _ hd =>
        obtain ⟨h1, h2⟩ := bytes_cells hn hd
        cases hc with
        | lit _ _ => subst h1; exact ⟨rfl, by simp [h2]⟩

theorem sound_b2s {t d e : TypeId} {x : Operand} (ho : o.op = .convert t d x) (ht : P.underlying t = some (.slice e)) (he : P.underlying e = some (.int .u8)) (hd : P.underlying d = some .string) (hx : okO x = true)
    (h : AI.go P ro s o.dst K (.b2s x)) (hs : SRel w0 wk regs St s a w) : o.wp P a w (fun a' w' => ∃ s', K s' ∧ SRel w0 wk regs St s' a' w') Q := by
  obtain ⟨Imm, h1, h2, h3⟩ := hs.ex
  have hX := h2.eval x (okO_sc hx)
  have hL := lend_sound (ro := ro) h1 h3 hX
  simp only [AI.go] at h
  split at h <;> try exact h.elim
  rename_i v hv
  unfold AS.textOf at hv
  have key : (convert t d (a.eval x)).run P w = .ok v w ∧ sc v = true := by
    generalize s.lend ro (s.ev x) = u at *
    split at hv
    · rename_i els
      obtain ⟨ns, hn, rfl⟩ := Option.map_eq_some_iff.1 hv
      rcases hL with hL | ⟨cs, hL, eV⟩
      · cases hL
      · cases hL with
        | slnil => 
          simp only [bytesAV, Option.some.injEq] at hn
          subst hn
          rw [eV]
          show (convert t d (.slice none 0 0)).run P w = _ ∧ _
          rw [run_convert_bytes_string w t d e none 0 0 ht he hd]
          exact ⟨by simp [Conv.bytesToString, strOf], rfl⟩
        | sl _ _ cs b o cap hR hA _ =>
          obtain ⟨hcs, hlen⟩ := bytes_cells hn hR
          rw [eV]
          show (convert t d (.slice (some ⟨b, o, none⟩) els.length cap)).run P w = _ ∧ _
          rw [run_convert_bytes_string w t d e _ _ _ ht he hd]
          have hload : (loadCells ⟨b, o, none⟩ els.length).run P w = .ok (ns.map (Value.int .u8)).toArray w := by
            have := run_loadCells_list (P := P) (w := w) ⟨b, o, none⟩ cs (fun j y hj => by rw [add_none]; exact (hA j y hj).1)
            rw [hcs] at this
            rwa [List.length_map, ← hlen] at this
          rw [run_bytesToString w _ _ _ ns hload]
          exact ⟨rfl, rfl⟩
    · cases hv
      rcases hL with hL | ⟨cs, hL, eV⟩
      · cases hL
      · cases hL
        rw [eV]
        show (convert t d (.slice none 0 0)).run P w = _ ∧ _
        rw [run_convert_bytes_string w t d e none 0 0 ht he hd]
        exact ⟨by simp [Conv.bytesToString, strOf], rfl⟩
    · cases hv
  exact upon_of_run (V := v) (w' := w) (by simp [execOp, ho, key.1]) ⟨_, h, hs.put0 h1 h2 h3 (Rel.mkLit key.2)⟩

theorem R.fieldPart {t : TypeId} {ns : List Nat} {fs : List AV} {cs : List Value} {idx n : Nat} {v : AV} (h : R Imm w (.st ns fs) cs) (hn : ns[idx]? = some n) (hv : fs[idx]? = some v) (ht : (P.underlying t).isSome = true) (hsz : szOf P t = some n) (hagg : v.isAgg = aggT P t) (h1n : aggT P t = true ∨ n = 1) (htup : v.isTup = false) :
    ∃ c, R Imm w v c ∧ (part t cs.toArray (ns.take idx).sum).run P w = .ok (asVal v c) w := by
  obtain ⟨pre, c, post, e, hp, hc, hvR, hcs, _⟩ := h.field idx n v hn hv
  refine ⟨c, hvR, ?_⟩
  cases hA : aggT P t with
  | true =>
    simp only [part, Sem.run_bind, run_isAgg ht, hA, Result.andThen_ok, if_true, run_sizeOf' hsz]
    have : (cs.toArray.extract (ns.take idx).sum ((ns.take idx).sum + n)) = c.toArray := by
      apply Array.ext'
      rw [Array.toList_extract]
      simp only [List.extract]
      rw [e, ← hp, List.append_assoc, List.drop_left', Nat.add_sub_cancel_left, ← hc, List.take_left']
      · rfl
      · rfl
    simp only [Sem.run_pure, this]
    rw [hA] at hagg
    cases v <;> simp [AV.isAgg] at hagg <;> rfl
  | false =>
    have hn1 : n = 1 := by rcases h1n with h' | h' <;> simp_all
    subst hn1
    rw [hA] at hagg
    match c, hc with
    | [y], _ =>
      have : cs.toArray[(ns.take idx).sum]? = some y := by
        simp only [List.getElem?_toArray]
        rw [e, ← hp, List.append_assoc, List.getElem?_append_right (Nat.le_refl _)]; simp
      simp only [part, Sem.run_bind, run_isAgg ht, hA, Result.andThen_ok, Bool.false_eq_true, if_false, this, Sem.run_pure]
      cases v <;> simp [AV.isAgg, AV.isTup] at hagg htup <;> rfl

theorem sound_fieldv {t : TypeId} {fields : Array Field} {fd : Field} {idx n : Nat} {x : Operand} (ho : o.op = .field t x idx) (ht : P.underlying t = some (.struct fields)) (hf : fields[idx]? = some fd) (hu : (P.underlying fd.type).isSome = true) (hx : okO x = true)
    (h1n : aggT P fd.type = true ∨ n = 1) (hn : szOf P fd.type = some n)
    (h : AI.go P ro s o.dst K (.fieldv fd.offset idx n (aggT P fd.type) x)) (hs : SRel w0 wk regs St s a w) : o.wp P a w (fun a' w' => ∃ s', K s' ∧ SRel w0 wk regs St s' a' w') Q := by
  obtain ⟨Imm, h1, h2, h3⟩ := hs.ex
  have hX := h2.eval x (okO_sc hx)
  simp only [AI.go] at h
  split at h <;> try exact h.elim
  rename_i ns fs hex
  rw [hex] at hX
  obtain ⟨hsum, hns, h⟩ := h
  split at h <;> try exact h.elim
  rename_i v hv
  obtain ⟨hagg, htup, hK⟩ := h
  rcases hX with hX | ⟨cs, hX, eX⟩
  · cases hX
  obtain ⟨c, hc, hrun⟩ := R.fieldPart (P := P) hX hns hv hu hn hagg h1n htup
  refine upon_of_run (V := asVal v c) (w' := w) ?_ ⟨_, hK, hs.put0 h1 h2 h3 (.inr ⟨c, hc, rfl⟩)⟩
  rw [hsum] at hrun
  simp [execOp, ho, Instr.field, run_underlying ht, hf, eX, asVal, asAgg, hrun]

end
end Go.Cab

/- Part thirteen: regions: one walk in the order of the text serves every order that the program leaves open. -/
namespace Go.Cab
open Go.RowKit
open Classical

/-- An operation with its guard and its place. -/
structure AOp where
  dst : Option Tmp
  guard : Option (Tmp × Bool)
  ai : AI
  /-- Whose places it must not read: those that another operation may write before it, or behind it. -/
  forb : List Tmp := []
  /-- The place that it writes, where an order is left open. -/
  own : Option Tmp := none
  deriving Inhabited

def AOp.ro (x : AOp) (nr : Nat) : Nat → Bool := fun b => x.forb.all fun t => b != nr + t

/-- It writes where it says. -/
def AOp.mine (x : AOp) (s : AS) : Prop :=
  match x.own, x.ai with
  | some t, .store _ p _ => ∃ l off path, s.ev p = .ptr (s.nr + t) l off path
  | _, _ => True

noncomputable def AOp.go (P : Program) (s : AS) (K : AS → Prop) (x : AOp) : Prop :=
  match x.guard with
  | none => x.mine s ∧ x.ai.go P (x.ro s.nr) s x.dst K
  | some (t, want) => match s.ev (.tmp t) with
    | .lit (.bool b) => if b = want then x.mine s ∧ x.ai.go P (x.ro s.nr) s x.dst K else K (s.put x.dst (.tup []))
    | .tup [] => K (s.put x.dst (.tup []))
    | _ => False

noncomputable def AReg (P : Program) : List AOp → AS → (AS → Prop) → Prop
  | [], s, K => K s
  | x :: xs, s, K => x.go P s fun s' => AReg P xs s' K

/-- Which operands an operation looks at. -/
def AI.ops : AI → List Operand
  | .mov x | .un _ x | .cvt _ x | .box _ x | .load _ _ x | .faddr _ _ x | .fieldv _ _ _ _ x | .len _ x | .ext x _ | .nilc x | .b2s x => [x]
  | .pick c a b | .add64 c a b => [c, a, b]
  | .bin _ x y | .beq _ x y | .store _ x y | .iaddrA _ _ x y | .iaddrS _ x y | .append _ _ _ x y | .mkslice _ _ _ _ x y | .eqv _ _ x y => [x, y]
  | .alloc _ _ => []
  | .build _ ps | .bslice _ _ _ ps => ps.map (·.2)
  | .call _ xs | .callv _ xs | .lcall _ xs => xs
  | .icall _ x xs => x :: xs
  | .prim _ xs => xs

/-- 0: it looks at its operands alone. 1: it reads memory too. 2: it may turn it. -/
def AI.cls : AI → Nat
  | .mov _ | .pick .. | .bin .. | .beq .. | .un .. | .cvt .. | .build .. | .bslice .. | .ext .. | .faddr .. | .iaddrA .. | .fieldv .. | .nilc _ | .add64 .. | .prim .. => 0
  | .load .. | .len .. | .iaddrS .. | .callv .. | .lcall .. | .eqv .. | .b2s .. => 1
  | _ => 2

section
variable {P : Program} {ro : Nat → Bool} {s : AS} {K K' : AS → Prop} {dst : Option Tmp}

/-- What an operation of the first two classes answers. -/
noncomputable def AI.val (P : Program) (ro : Nat → Bool) (s : AS) : AI → AV → Prop
  | .mov x, v => v = s.ev x
  | .pick c a b, v => ∃ t, s.ev c = .lit (.bool t) ∧ v = if t then s.ev a else s.ev b
  | .bin op x y, v => ∃ a b u, s.ev x = .lit a ∧ s.ev y = .lit b ∧ binVal op a b = some u ∧ v = .lit u
  | .beq neg x y, v => ∃ p q, s.ev x = .lit (.bool p) ∧ s.ev y = .lit (.bool q) ∧ v = .lit (.bool (if neg then !(p == q) else p == q))
  | .un op x, v => ∃ a u, s.ev x = .lit a ∧ unVal op a = some u ∧ v = .lit u
  | .cvt k x, v => ∃ k' n, s.ev x = .lit (.int k' n) ∧ v = .lit (.int k (k.wrap n))
  | .build z parts, v => fillAV s z parts = some v
  | .bslice esz z n parts, v => ∃ k els, fillAV s (.arr esz (List.replicate n z)) parts = some (.arr k els) ∧ v = .sl esz els
  | .ext x i, v => ∃ vs, s.ev x = .tup vs ∧ vs[i]? = some v
  | .nilc x, v => v = s.ev x ∧ ((∃ b l off p, s.ev x = .ptr b l off p) ∨ ∃ n u, s.ev x = .cptr n u)
  | .add64 x y c, v => ∃ a b d, s.ev x = .lit (.int .u64 a) ∧ s.ev y = .lit (.int .u64 b) ∧ s.ev c = .lit (.int .u64 d) ∧ (0 ≤ a ∧ 0 ≤ b ∧ 0 ≤ d ∧ d ≤ 1) ∧
      v = .tup [.lit (.int .u64 ((a + b + d) % 18446744073709551616)), .lit (.int .u64 ((a + b + d) / 18446744073709551616))]
  | .faddr off idx x, v => AS.fieldAddr off idx (s.ev x) = some v
  | .b2s x, v => ∃ u, s.textOf ro (s.ev x) = some u ∧ v = .lit u
  | .prim p xs, v => ∃ vs u, s.lits xs = some vs ∧ primVal p vs = some u ∧ v = .lit u
  | .iaddrA ln esz x i, v => ∃ k n, s.ev i = .lit (.int k n) ∧ AS.idxAddr ln esz n (s.ev x) = some v
  | .fieldv off idx n agg x, v => ∃ ns fs, s.ev x = .st ns fs ∧ (ns.take idx).sum = off ∧ ns[idx]? = some n ∧ fs[idx]? = some v ∧ v.isAgg = agg ∧ v.isTup = false
  | .load agg n x, v => s.peek ro (s.ev x) = some (n, v) ∧ v.isAgg = agg ∧ v.isTup = false
  | .len str x, v => ∃ n, s.lenOf ro str (s.ev x) = some n ∧ v = .lit (.int .i64 n)
  | .iaddrS esz x i, v => ∃ k n, s.ev i = .lit (.int k n) ∧ s.elemAddr ro esz n (s.ev x) = some v
  | .callv f args, v => PCall P f (args.map fun x => s.coe ro (s.ev x)) (.val v)
  | .lcall f args, v => v.plain = true ∧ PCall P f (args.map fun x => s.lend ro (s.ev x)) (.val v)
  | .eqv t neg x y, v => ∃ b, EqAV P t (s.ev x) (s.ev y) b ∧ (s.ev x).isAgg = true ∧ (s.ev y).isAgg = true ∧ v = .lit (.bool (if neg then !b else b))
  | _, _ => False

theorem AI.go_val {ai : AI} (h : ai.cls < 2) : ai.go P ro s dst K ↔ ∃ v, ai.val P ro s v ∧ K (s.put dst v) := by
  cases ai <;> simp only [AI.cls] at h <;> try omega
  all_goals simp only [AI.go, AI.val]
  case mov x => simp
  case pick c a b =>
    constructor
    · intro h; split at h
      · rename_i t ht; exact ⟨_, ⟨t, ht, rfl⟩, h⟩
      · exact h.elim
    · rintro ⟨v, ⟨t, ht, rfl⟩, hK⟩; rw [ht]; exact hK
  case prim p xs =>
    constructor
    · intro h; split at h
      · rename_i vs hvs
        split at h
        · rename_i u hu; exact ⟨_, ⟨vs, u, hvs, hu, rfl⟩, h⟩
        · exact h.elim
      · exact h.elim
    · rintro ⟨v, ⟨vs, u, hvs, hu, rfl⟩, hK⟩; rw [hvs]; simp only [hu]; exact hK
  case bin op x y =>
    constructor
    · intro h; split at h
      · rename_i p q hp hq
        split at h
        · rename_i u hu; exact ⟨_, ⟨p, q, u, hp, hq, hu, rfl⟩, h⟩
        · exact h.elim
      · exact h.elim
    · rintro ⟨v, ⟨p, q, u, hp, hq, hu, rfl⟩, hK⟩; rw [hp, hq]; simp only [hu]; exact hK
  case beq neg x y =>
    constructor
    · intro h; split at h
      · rename_i p q hp hq; exact ⟨_, ⟨p, q, hp, hq, rfl⟩, h⟩
      · exact h.elim
    · rintro ⟨v, ⟨p, q, hp, hq, rfl⟩, hK⟩; rw [hp, hq]; exact hK
  case un op x =>
    constructor
    · intro h; split at h
      · rename_i p hp
        split at h
        · rename_i u hu; exact ⟨_, ⟨p, u, hp, hu, rfl⟩, h⟩
        · exact h.elim
      · exact h.elim
    · rintro ⟨v, ⟨p, u, hp, hu, rfl⟩, hK⟩; rw [hp]; simp only [hu]; exact hK
  case cvt k x =>
    constructor
    · intro h; split at h
      · rename_i k' n hn; exact ⟨_, ⟨k', n, hn, rfl⟩, h⟩
      · exact h.elim
    · rintro ⟨v, ⟨k', n, hn, rfl⟩, hK⟩; rw [hn]; exact hK
  case build z parts =>
    constructor
    · intro h; split at h
      · rename_i v hv; exact ⟨v, hv, h⟩
      · exact h.elim
    · rintro ⟨v, hv, hK⟩; rw [hv]; exact hK
  case bslice esz z n parts =>
    constructor
    · intro h; split at h
      · rename_i k els hv; exact ⟨_, ⟨k, els, hv, rfl⟩, h⟩
      · exact h.elim
    · rintro ⟨v, ⟨k, els, hv, rfl⟩, hK⟩; rw [hv]; exact hK
  case load agg n x =>
    constructor
    · intro h; split at h
      · rename_i m u hp; obtain ⟨rfl, h1, h2, hK⟩ := h; exact ⟨u, ⟨hp, h1, h2⟩, hK⟩
      · exact h.elim
    · rintro ⟨v, ⟨hp, h1, h2⟩, hK⟩; rw [hp]; exact ⟨rfl, h1, h2, hK⟩
  case faddr off idx x =>
    constructor
    · intro h; split at h
      · rename_i v hv; exact ⟨v, hv, h⟩
      · exact h.elim
    · rintro ⟨v, hv, hK⟩; rw [hv]; exact hK
  case iaddrA ln esz x i =>
    constructor
    · intro h; split at h
      · rename_i k n hn
        split at h
        · rename_i v hv; exact ⟨v, ⟨k, n, hn, hv⟩, h⟩
        · exact h.elim
      · exact h.elim
    · rintro ⟨v, ⟨k, n, hn, hv⟩, hK⟩; rw [hn]; simp only [hv]; exact hK
  case iaddrS esz x i =>
    constructor
    · intro h; split at h
      · rename_i k n hn
        split at h
        · rename_i v hv; exact ⟨v, ⟨k, n, hn, hv⟩, h⟩
        · exact h.elim
      · exact h.elim
    · rintro ⟨v, ⟨k, n, hn, hv⟩, hK⟩; rw [hn]; simp only [hv]; exact hK
  case fieldv off idx n agg x =>
    constructor
    · intro h; split at h
      · rename_i ns fs hx
        obtain ⟨h1, h2, h⟩ := h
        split at h
        · rename_i v hv; exact ⟨v, ⟨ns, fs, hx, h1, h2, hv, h.1, h.2.1⟩, h.2.2⟩
        · exact h.elim
      · exact h.elim
    · rintro ⟨v, ⟨ns, fs, hx, h1, h2, hv, h3, h4⟩, hK⟩; rw [hx]; exact ⟨h1, h2, by rw [hv]; exact ⟨h3, h4, hK⟩⟩
  case b2s x =>
    constructor
    · intro h; split at h
      · rename_i u hu; exact ⟨_, ⟨u, hu, rfl⟩, h⟩
      · exact h.elim
    · rintro ⟨v, ⟨u, hu, rfl⟩, hK⟩; rw [hu]; exact hK
  case len str x =>
    constructor
    · intro h; split at h
      · rename_i n hn; exact ⟨_, ⟨n, hn, rfl⟩, h⟩
      · exact h.elim
    · rintro ⟨v, ⟨n, hn, rfl⟩, hK⟩; rw [hn]; exact hK
  case ext x i =>
    constructor
    · intro h; split at h
      · rename_i vs hvs
        split at h
        · rename_i v hv; exact ⟨v, ⟨vs, hvs, hv⟩, h⟩
        · exact h.elim
      · exact h.elim
    · rintro ⟨v, ⟨vs, hvs, hv⟩, hK⟩; rw [hvs]; simp only [hv]; exact hK
  case nilc x =>
    constructor
    · intro h; split at h
      · rename_i b l off p hx; exact ⟨_, ⟨rfl, .inl ⟨b, l, off, p, hx⟩⟩, by rw [hx]; exact h⟩
      · rename_i n u hx; exact ⟨_, ⟨rfl, .inr ⟨n, u, hx⟩⟩, by rw [hx]; exact h⟩
      · exact h.elim
    · rintro ⟨v, ⟨rfl, h⟩, hK⟩
      rcases h with ⟨b, l, off, p, hx⟩ | ⟨n, u, hx⟩
      · rw [hx] at hK ⊢; exact hK
      · rw [hx] at hK ⊢; exact hK
  case add64 x y c =>
    constructor
    · intro h; split at h
      · rename_i a b d h1 h2 h3
        split at h
        · rename_i hb; exact ⟨_, ⟨a, b, d, h1, h2, h3, hb, rfl⟩, h⟩
        · exact h.elim
      · exact h.elim
    · rintro ⟨v, ⟨a, b, d, h1, h2, h3, hb, rfl⟩, hK⟩
      rw [h1, h2, h3]; simp only [if_pos hb]; exact hK
  case lcall f args => simp only [and_assoc]
  case eqv t neg x y =>
    constructor
    · rintro ⟨b, h1, h2, h3, hK⟩; exact ⟨_, ⟨b, h1, h2, h3, rfl⟩, hK⟩
    · rintro ⟨v, ⟨b, h1, h2, h3, rfl⟩, hK⟩; exact ⟨b, h1, h2, h3, hK⟩

end
end Go.Cab

/- Part fourteen: two operations that are apart may change places. -/
namespace Go.Cab
open Go.RowKit
open Classical

section
variable {P : Program} {ro : Nat → Bool} {s : AS} {K K' : AS → Prop} {dst od : Option Tmp} {v : AV}

/-- This place is none of those that the operands name. -/
def offT (od : Option Tmp) (xs : List Operand) : Prop := ∀ d, od = some d → .tmp d ∉ xs

theorem ev_put {x : Operand} (h : ∀ d, od = some d → x ≠ .tmp d) : (s.put od v).ev x = s.ev x := by
  cases od with
  | none => rfl
  | some d =>
    cases x with
    | tmp t =>
      have hne : d ≠ t := fun e => h d rfl (e ▸ rfl)
      simp [AS.ev, AS.put, List.getD, List.getElem?_set, hne]
    | _ => rfl

theorem offT.ev {xs : List Operand} (h : offT od xs) {x : Operand} (hx : x ∈ xs) : (s.put od v).ev x = s.ev x := ev_put fun d hd he => h d hd (he ▸ hx)

theorem blk_put (b : Nat) : (s.put od v).blk b = s.blk b := by cases od <;> rfl
theorem slot_put : (s.put od v).slot dst = s.slot dst := by cases od <;> rfl

theorem put_put {u : AV} (h : ∀ d, od = some d → dst ≠ some d) : (s.put dst u).put od v = (s.put od v).put dst u := by
  cases od with
  | none => rfl
  | some d =>
    cases dst with
    | none => rfl
    | some e =>
      have hne : e ≠ d := fun he => h d rfl (he ▸ rfl)
      simp [AS.put, List.set_comm _ _ hne]

theorem swap_hp {u : AV} {hp : List (Option Blk)} (h : ∀ d, od = some d → dst ≠ some d) : AS.put { s.put dst u with hp := hp } od v = { (s.put od v).put dst u with hp := hp } := by
  have := put_put (s := s) (u := u) (v := v) h
  cases od with
  | none => rfl
  | some d =>
    rw [← this]
    cases dst <;> rfl

theorem fillAV_congr {s s' : AS} : ∀ (ps : List (Nat × Operand)) (z : AV), (∀ p ∈ ps, s.ev p.2 = s'.ev p.2) → fillAV s z ps = fillAV s' z ps
  | [], _, _ => rfl
  | (i, x) :: ps, z, h => by
    have hx := h (i, x) (by simp)
    simp only at hx
    simp only [fillAV, hx]
    split
    · split
      · exact fillAV_congr ps _ fun p hp => h p (by simp [hp])
      · rfl
    · rfl

theorem peek_put {X : AV} : (s.put od v).peek ro X = s.peek ro X := by cases X <;> simp [AS.peek, blk_put]
theorem lenOf_put {X : AV} {str : Bool} : (s.put od v).lenOf ro str X = s.lenOf ro str X := by cases X <;> simp [AS.lenOf, blk_put]
theorem elemAddr_put {X : AV} {esz : Nat} {n : Int} : (s.put od v).elemAddr ro esz n X = s.elemAddr ro esz n X := by cases X <;> simp [AS.elemAddr, blk_put]
theorem coe_put {X : AV} : (s.put od v).coe ro X = s.coe ro X := by cases X <;> simp [AS.coe, blk_put]
theorem lend_put {X : AV} : (s.put od v).lend ro X = s.lend ro X := by cases X <;> simp [AS.lend, blk_put]
theorem textOf_put {X : AV} : (s.put od v).textOf ro X = s.textOf ro X := by unfold AS.textOf; rw [lend_put]
theorem rowOf_put {X : AV} {e : TypeId} {esz : Nat} : (s.put od v).rowOf e esz X = s.rowOf e esz X := by cases X <;> simp [AS.rowOf, blk_put]
theorem part_put {X : AV} : (s.put od v).part X = s.part X := by cases X <;> simp [AS.part, blk_put]
theorem poke_put {X u : AV} {n : Nat} : (s.put od v).poke n u X = (s.poke n u X).map fun s' => s'.put od v := by
  cases X <;> simp only [AS.poke, Option.map_none]
  simp only [blk_put]
  split
  · split
    · split
      · split
        · simp [setBlk_put]
        · rfl
      · rfl
    · rfl
  · rfl

theorem poke_tm {s' : AS} {X u : AV} {n : Nat} (h : s.poke n u X = some s') : ∃ hp, s' = { s with hp := hp } := by
  cases X <;> simp only [AS.poke] at h <;> try (cases h; done)
  split at h <;> try (cases h; done)
  split at h <;> try (cases h; done)
  split at h <;> try (cases h; done)
  split at h <;> try (cases h; done)
  simp only [Option.some.injEq] at h
  exact ⟨_, h.symm⟩

theorem seal1_put (b : Nat) : (s.put od v).seal1 b = (s.seal1 b).put od v := by
  unfold AS.seal1
  rw [blk_put]
  split
  · rw [setBlk_put]
  · rfl

theorem seals_put : ∀ (bs : List Nat) {s : AS}, (s.put od v).seals bs = (s.seals bs).put od v
  | [], _ => rfl
  | b :: bs, s => by rw [AS.seals, seal1_put, seals_put bs, AS.seals]

theorem seals_hp (bs : List Nat) : ∃ hp, s.seals bs = { s with hp := hp } := by
  refine ⟨(s.seals bs).hp, ?_⟩
  have h1 := seals_tm bs s
  have h2 := seals_nr bs s
  generalize s.seals bs = t at *
  cases t; cases s; simp_all

theorem seals_ev (bs : List Nat) (x : Operand) : (s.seals bs).ev x = s.ev x := by
  obtain ⟨hp, e⟩ := seals_hp (s := s) bs
  rw [e]; cases x <;> rfl

theorem map_coe_put {xs : List Operand} (h : offT od xs) : (xs.map fun x => (s.put od v).coe ro ((s.put od v).ev x)) = xs.map fun x => s.coe ro (s.ev x) :=
  List.map_congr_left fun x hx => by rw [h.ev hx, coe_put]

theorem map_lend_put {xs : List Operand} (h : offT od xs) : (xs.map fun x => (s.put od v).lend ro ((s.put od v).ev x)) = xs.map fun x => s.lend ro (s.ev x) :=
  List.map_congr_left fun x hx => by rw [h.ev hx, lend_put]

/-- What is not looked at may be put before or behind. -/
theorem AI.go_put {ai : AI} (hl : offT od ai.ops) (hd : ∀ d, od = some d → dst ≠ some d) : ai.go P ro s dst (fun s1 => K (s1.put od v)) ↔ ai.go P ro (s.put od v) dst K := by
  have E : ∀ x ∈ ai.ops, (s.put od v).ev x = s.ev x := fun x hx => hl.ev hx
  have S : ∀ u, (s.put dst u).put od v = (s.put od v).put dst u := fun u => put_put hd
  have H : ∀ (u : AV) (hp : List (Option Blk)), AS.put { s.put dst u with hp := hp } od v = { (s.put od v).put dst u with hp := hp } := fun u hp => swap_hp hd
  cases ai <;> simp only [AI.ops, List.mem_cons, List.not_mem_nil, or_false, forall_eq_or_imp, forall_eq, false_or] at E hl <;> simp only [AI.go]
  case mov x => rw [S, E]
  case pick c a b => obtain ⟨e1, e2, e3⟩ := E; rw [e1, e2, e3]; split <;> simp [S]
  case bin op x y => obtain ⟨e1, e2⟩ := E; rw [e1, e2]; split; rotate_left; (rfl); split <;> simp [S]
  case beq neg x y => obtain ⟨e1, e2⟩ := E; rw [e1, e2]; split <;> simp [S]
  case un op x => rw [E]; split; rotate_left; (rfl); split <;> simp [S]
  case cvt k x => rw [E]; split <;> simp [S]
  case alloc n z => simp only [slot_put, put_hp, H]
  case box n x => simp only [E, slot_put, put_hp, H]
  case build z parts =>
    rw [fillAV_congr (s := s.put od v) (s' := s) parts z fun p hp => hl.ev (List.mem_map_of_mem hp)]; split <;> simp [S]
  case bslice esz z n parts =>
    rw [fillAV_congr (s := s.put od v) (s' := s) parts _ fun p hp => hl.ev (List.mem_map_of_mem hp)]; split <;> simp [S]
  case load agg n x => rw [E, peek_put]; split <;> simp [S]
  case store n x u =>
    obtain ⟨e1, e2⟩ := E
    rw [e1, e2, poke_put]
    cases hp : s.poke n (s.ev u) (s.ev x) with
    | none => simp
    | some s' =>
      obtain ⟨hp', rfl⟩ := poke_tm hp
      simp only [Option.map_some]
      have : AS.put (AS.put { s with hp := hp' } dst .any) od v = AS.put (AS.put { s with hp := hp' } od v) dst .any := put_put hd
      rw [this]
  case prim p xs => rw [lits_congr (s := s) (s' := s.put od v) E]; split; rotate_left; (rfl); split <;> simp [S]
  case faddr off idx x => rw [E]; split <;> simp [S]
  case iaddrA ln esz x i => obtain ⟨e1, e2⟩ := E; rw [e1, e2]; split; rotate_left; (rfl); split <;> simp [S]
  case iaddrS esz x i => obtain ⟨e1, e2⟩ := E; rw [e1, e2]; split; rotate_left; (rfl); rw [elemAddr_put]; split <;> simp [S]
  case fieldv off idx n agg x => rw [E]; split; rotate_left; (rfl); split <;> simp [S]
  case b2s x => rw [E, textOf_put]; split <;> simp [S]
  case len str x => rw [E, lenOf_put]; split <;> simp [S]
  case ext x i => rw [E]; split; rotate_left; (rfl); split <;> simp [S]
  case nilc x => rw [E]; split <;> simp [S]
  case add64 x y c => obtain ⟨e1, e2, e3⟩ := E; rw [e1, e2, e3]; split; rotate_left; (rfl); split <;> simp [S]
  case append e esz bytes x y => obtain ⟨e1, e2⟩ := E; rw [e1, e2, rowOf_put, coe_put]; split; rotate_left; (rfl); simp only [slot_put, put_hp, H]
  case mkslice e esz bytes z l c => obtain ⟨e1, e2⟩ := E; rw [e1, e2]; split; rotate_left; (rfl); simp only [slot_put, put_hp, H]
  case eqv t neg x y => obtain ⟨e1, e2⟩ := E; rw [e1, e2]; simp only [S]
  case call f args =>
    refine exists_congr fun bs => exists_congr fun r => and_congr ?_ ?_
    · have : (args.map fun x => ((s.put od v).seals bs).coe ro (((s.put od v).seals bs).ev x)) = args.map fun x => (s.seals bs).coe ro ((s.seals bs).ev x) :=
        List.map_congr_left fun x hx => by rw [seals_ev, seals_ev, hl.ev hx, seals_put, coe_put]
      rw [this]
    · have S' : ∀ u, ((s.seals bs).put dst u).put od v = ((s.seals bs).put od v).put dst u := fun u => put_put hd
      have H' : ∀ (u : AV) (hp : List (Option Blk)), AS.put { (s.seals bs).put dst u with hp := hp } od v = { ((s.seals bs).put od v).put dst u with hp := hp } := fun u hp => swap_hp hd
      cases r <;> simp only [S', seals_put, slot_put, put_hp, H']
  case callv f args => rw [map_coe_put hl]; simp only [S]
  case lcall f args => rw [map_lend_put hl]; simp only [S]
  case icall f x args =>
    have e1 := E.1
    refine or_congr ?_ ?_
    rotate_left
    · have hx : ((x :: args).map fun y => (s.put od v).ev y) = (x :: args).map fun y => s.ev y := List.map_congr_left fun y hy => by
        rcases List.mem_cons.1 hy with rfl | hy
        · exact e1
        · exact E.2 y hy
      rw [hx, put_hp]
      refine exists_congr fun K' => and_congr Iff.rfl (and_congr Iff.rfl ?_)
      refine forall_congr' fun r => forall_congr' fun hp' => ?_
      rw [H]
    rw [e1, part_put]
    have hm : (args.map fun x => (s.put od v).coe ro ((s.put od v).ev x)) = args.map fun x => s.coe ro (s.ev x) := List.map_congr_left fun x hx => by rw [E.2 x hx, coe_put]
    rw [hm]
    split; rotate_left; (rfl)
    refine exists_congr fun r => exists_congr fun u' => and_congr Iff.rfl (and_congr Iff.rfl ?_)
    have e2 : ∀ (b : Nat) (x : Option Blk) (r : AV), AS.put ((s.setBlk b x).put dst r) od v = ((s.put od v).setBlk b x).put dst r := fun b x r => by
      rw [put_put hd, setBlk_put]
    rw [e2]

theorem AI.go_mono {ai : AI} (h : ∀ s, K s → K' s) : ai.go P ro s dst K → ai.go P ro s dst K' := by
  cases ai <;> simp only [AI.go]
  case mov x => exact h _
  case alloc n z => exact fun g l => h _ (g l)
  case box n x => exact fun ⟨a, b, g⟩ => ⟨a, b, fun l => h _ (g l)⟩
  case load agg n x => (split; (exact fun ⟨a, b, c, g⟩ => ⟨a, b, c, h _ g⟩); (exact id))
  case fieldv off idx n agg x => split; rotate_left; (exact id); rintro ⟨a, b, g⟩; refine ⟨a, b, ?_⟩; revert g; (split; (exact fun ⟨a, b, g⟩ => ⟨a, b, h _ g⟩); (exact id))
  case append e esz bytes x y => (split; (exact fun ⟨a, b, c, g⟩ => ⟨a, b, c, fun V => h _ (g V)⟩); (exact id))
  case mkslice e esz bytes z l c => (split; (exact fun ⟨a, b, c, d, g⟩ => ⟨a, b, c, d, fun V => h _ (g V)⟩); (exact id))
  case eqv t neg x y => exact fun ⟨b, a1, a2, a3, g⟩ => ⟨b, a1, a2, a3, h _ g⟩
  case call f args => rintro ⟨bs, r, a1, g⟩; refine ⟨bs, r, a1, ?_⟩; (cases r; (exact h _ g); (exact fun V => h _ (g V)))
  case callv f args => exact fun ⟨v, a, g⟩ => ⟨v, a, h _ g⟩
  case lcall f args => exact fun ⟨v, a, b, g⟩ => ⟨v, a, b, h _ g⟩
  case icall f x args => exact Or.imp (by split; (exact fun ⟨r, u, a, b, g⟩ => ⟨r, u, a, b, h _ g⟩); (exact id)) (fun ⟨K', a, b, g⟩ => ⟨K', a, b, fun r hp' k => h _ (g r hp' k)⟩)
  case pick c a b => (split; (exact h _); (exact id))
  case bin op x y => split; rotate_left; (exact id); (split; (exact h _); (exact id))
  case beq neg x y => (split; (exact h _); (exact id))
  case un op x => split; rotate_left; (exact id); (split; (exact h _); (exact id))
  case cvt k x => (split; (exact h _); (exact id))
  case build z parts => (split; (exact h _); (exact id))
  case bslice esz z n parts => (split; (exact h _); (exact id))
  case store n x v => (split; (exact h _); (exact id))
  case prim p xs => split; rotate_left; (exact id); (split; (exact h _); (exact id))
  case faddr off idx x => (split; (exact h _); (exact id))
  case iaddrA ln esz x i => split; rotate_left; (exact id); (split; (exact h _); (exact id))
  case iaddrS esz x i => split; rotate_left; (exact id); (split; (exact h _); (exact id))
  case b2s x => (split; (exact h _); (exact id))
  case len str x => (split; (exact h _); (exact id))
  case ext x i => split; rotate_left; (exact id); (split; (exact h _); (exact id))
  case nilc x => (split; (exact h _); (exact h _); (exact id))
  case add64 x y c => split; rotate_left; (exact id); (split; (exact h _); (exact id))

/-- What a state is behind an operation: one place is another one, and the blocks may be. -/
def Behind (s : AS) (dst : Option Tmp) (s1 : AS) : Prop := ∃ v hp, s1 = { s.put dst v with hp := hp }

theorem behind_put (v : AV) : Behind s dst (s.put dst v) := ⟨v, s.hp, by cases dst <;> rfl⟩

theorem behind_seals (bs : List Nat) (v : AV) : Behind s dst ((s.seals bs).put dst v) := by
  obtain ⟨hp, e⟩ := seals_hp (s := s) bs
  rw [e]
  exact ⟨v, hp, by cases dst <;> rfl⟩

theorem behind_seals' (bs : List Nat) (v : AV) (hp : List (Option Blk)) : Behind s dst { (s.seals bs).put dst v with hp := hp } := by
  obtain ⟨hp', e⟩ := seals_hp (s := s) bs
  rw [e]
  exact ⟨v, hp, by cases dst <;> rfl⟩

theorem behind_set (b : Nat) (x : Option Blk) (r : AV) : Behind s dst ((s.setBlk b x).put dst r) := ⟨r, s.hp.set b x, by cases dst <;> rfl⟩

theorem AI.go_post {ai : AI} : ai.go P ro s dst K → ai.go P ro s dst fun s1 => K s1 ∧ Behind s dst s1 := by
  cases ai <;> simp only [AI.go]
  case mov x => exact fun g => ⟨g, behind_put _⟩
  case alloc n z => exact fun g l => ⟨g l, _, _, rfl⟩
  case box n x => exact fun ⟨a, b, g⟩ => ⟨a, b, fun l => ⟨g l, _, _, rfl⟩⟩
  case load agg n x => (split; (exact fun ⟨a, b, c, g⟩ => ⟨a, b, c, g, behind_put _⟩); (exact id))
  case fieldv off idx n agg x => split; rotate_left; (exact id); rintro ⟨a, b, g⟩; refine ⟨a, b, ?_⟩; revert g; (split; (exact fun ⟨a, b, g⟩ => ⟨a, b, g, behind_put _⟩); (exact id))
  case append e esz bytes x y => (split; (exact fun ⟨a, b, c, g⟩ => ⟨a, b, c, fun V => ⟨g V, _, _, rfl⟩⟩); (exact id))
  case mkslice e esz bytes z l c => (split; (exact fun ⟨a, b, c, d, g⟩ => ⟨a, b, c, d, fun V => ⟨g V, _, _, rfl⟩⟩); (exact id))
  case eqv t neg x y => exact fun ⟨b, a1, a2, a3, g⟩ => ⟨b, a1, a2, a3, g, behind_put _⟩
  case call f args => rintro ⟨bs, r, a1, g⟩; refine ⟨bs, r, a1, ?_⟩; (cases r; (exact ⟨g, behind_seals _ _⟩); (exact fun V => ⟨g V, behind_seals' _ _ _⟩))
  case callv f args => exact fun ⟨v, a, g⟩ => ⟨v, a, g, behind_put _⟩
  case lcall f args => exact fun ⟨v, a, b, g⟩ => ⟨v, a, b, g, behind_put _⟩
  case icall f x args => exact Or.imp (by split; (exact fun ⟨r, u, a, b, g⟩ => ⟨r, u, a, b, g, behind_set _ _ _⟩); (exact id)) (fun ⟨K', a, b, g⟩ => ⟨K', a, b, fun r hp' k => ⟨g r hp' k, _, _, rfl⟩⟩)
  case pick c a b => (split; (exact fun g => ⟨g, behind_put _⟩); (exact id))
  case bin op x y => split; rotate_left; (exact id); (split; (exact fun g => ⟨g, behind_put _⟩); (exact id))
  case beq neg x y => (split; (exact fun g => ⟨g, behind_put _⟩); (exact id))
  case un op x => split; rotate_left; (exact id); (split; (exact fun g => ⟨g, behind_put _⟩); (exact id))
  case cvt k x => (split; (exact fun g => ⟨g, behind_put _⟩); (exact id))
  case build z parts => (split; (exact fun g => ⟨g, behind_put _⟩); (exact id))
  case bslice esz z n parts => (split; (exact fun g => ⟨g, behind_put _⟩); (exact id))
  case store n x v =>
    split; rotate_left; (exact id)
    rename_i s' hp
    obtain ⟨hp', rfl⟩ := poke_tm hp
    exact fun g => ⟨g, .any, hp', by cases dst <;> rfl⟩
  case prim p xs => split; rotate_left; (exact id); (split; (exact fun g => ⟨g, behind_put _⟩); (exact id))
  case faddr off idx x => (split; (exact fun g => ⟨g, behind_put _⟩); (exact id))
  case iaddrA ln esz x i => split; rotate_left; (exact id); (split; (exact fun g => ⟨g, behind_put _⟩); (exact id))
  case iaddrS esz x i => split; rotate_left; (exact id); (split; (exact fun g => ⟨g, behind_put _⟩); (exact id))
  case b2s x => (split; (exact fun g => ⟨g, behind_put _⟩); (exact id))
  case len str x => (split; (exact fun g => ⟨g, behind_put _⟩); (exact id))
  case ext x i => split; rotate_left; (exact id); (split; (exact fun g => ⟨g, behind_put _⟩); (exact id))
  case nilc x => (split; (exact fun g => ⟨g, behind_put _⟩); (exact fun g => ⟨g, behind_put _⟩); (exact id))
  case add64 x y c => split; rotate_left; (exact id); (split; (exact fun g => ⟨g, behind_put _⟩); (exact id))

theorem AI.go_ex {ai : AI} : ai.go P ro s dst K → ∃ s1, K s1 := by
  cases ai <;> simp only [AI.go]
  case mov x => exact fun g => ⟨_, g⟩
  case alloc n z => exact fun g => ⟨_, g (0, 0)⟩
  case box n x => exact fun ⟨a, b, g⟩ => ⟨_, g (0, 0)⟩
  case load agg n x => (split; (exact fun ⟨a, b, c, g⟩ => ⟨_, g⟩); (exact False.elim))
  case fieldv off idx n agg x => split; rotate_left; (exact False.elim); rintro ⟨a, b, g⟩; revert g; (split; (exact fun ⟨a, b, g⟩ => ⟨_, g⟩); (exact False.elim))
  case append e esz bytes x y => (split; (exact fun ⟨a, b, c, g⟩ => ⟨_, g undef⟩); (exact False.elim))
  case mkslice e esz bytes z l c => (split; (exact fun ⟨a, b, c, d, g⟩ => ⟨_, g undef⟩); (exact False.elim))
  case eqv t neg x y => exact fun ⟨b, a1, a2, a3, g⟩ => ⟨_, g⟩
  case call f args => rintro ⟨bs, r, a1, g⟩; (cases r; (exact ⟨_, g⟩); (exact ⟨_, g undef⟩))
  case callv f args => exact fun ⟨v, a, g⟩ => ⟨_, g⟩
  case lcall f args => exact fun ⟨v, a, b, g⟩ => ⟨_, g⟩
  case icall f x args => exact fun h => h.elim (by split; (exact fun ⟨r, u, a, b, g⟩ => ⟨_, g⟩); (exact False.elim)) (fun ⟨K', a, ⟨r, hp', k⟩, g⟩ => ⟨_, g r hp' k⟩)
  case pick c a b => (split; (exact fun g => ⟨_, g⟩); (exact False.elim))
  case bin op x y => split; rotate_left; (exact False.elim); (split; (exact fun g => ⟨_, g⟩); (exact False.elim))
  case beq neg x y => (split; (exact fun g => ⟨_, g⟩); (exact False.elim))
  case un op x => split; rotate_left; (exact False.elim); (split; (exact fun g => ⟨_, g⟩); (exact False.elim))
  case cvt k x => (split; (exact fun g => ⟨_, g⟩); (exact False.elim))
  case build z parts => (split; (exact fun g => ⟨_, g⟩); (exact False.elim))
  case bslice esz z n parts => (split; (exact fun g => ⟨_, g⟩); (exact False.elim))
  case store n x v => (split; (exact fun g => ⟨_, g⟩); (exact False.elim))
  case prim p xs => split; rotate_left; (exact False.elim); (split; (exact fun g => ⟨_, g⟩); (exact False.elim))
  case faddr off idx x => (split; (exact fun g => ⟨_, g⟩); (exact False.elim))
  case iaddrA ln esz x i => split; rotate_left; (exact False.elim); (split; (exact fun g => ⟨_, g⟩); (exact False.elim))
  case iaddrS esz x i => split; rotate_left; (exact False.elim); (split; (exact fun g => ⟨_, g⟩); (exact False.elim))
  case b2s x => (split; (exact fun g => ⟨_, g⟩); (exact False.elim))
  case len str x => (split; (exact fun g => ⟨_, g⟩); (exact False.elim))
  case ext x i => split; rotate_left; (exact False.elim); (split; (exact fun g => ⟨_, g⟩); (exact False.elim))
  case nilc x => (split; (exact fun g => ⟨_, g⟩); (exact fun g => ⟨_, g⟩); (exact False.elim))
  case add64 x y c => split; rotate_left; (exact False.elim); (split; (exact fun g => ⟨_, g⟩); (exact False.elim))

theorem Behind.ev {s1 : AS} (h : Behind s dst s1) {xs : List Operand} (hl : offT dst xs) : ∀ x ∈ xs, s1.ev x = s.ev x := by
  obtain ⟨v, hp, rfl⟩ := h
  intro x hx
  have : ({ s.put dst v with hp := hp } : AS).ev x = (s.put dst v).ev x := by cases x <;> rfl
  rw [this]; exact hl.ev hx

/-- The first class looks at its operands alone, and answers one thing. -/
theorem AI.val_congr {ai : AI} (h0 : ai.cls = 0) {s' : AS} (h : ∀ x ∈ ai.ops, s'.ev x = s.ev x) {u : AV} : ai.val P ro s' u ↔ ai.val P ro s u := by
  cases ai <;> simp only [AI.cls] at h0 <;> try omega
  all_goals simp only [AI.ops, List.mem_cons, List.not_mem_nil, or_false, forall_eq_or_imp, forall_eq] at h
  all_goals simp only [AI.val]
  case mov x => rw [h]
  case pick c a b => obtain ⟨e1, e2, e3⟩ := h; rw [e1, e2, e3]
  case bin op x y => obtain ⟨e1, e2⟩ := h; rw [e1, e2]
  case beq neg x y => obtain ⟨e1, e2⟩ := h; rw [e1, e2]
  case un op x => rw [h]
  case cvt k x => rw [h]
  case build z parts => rw [fillAV_congr (s := s') (s' := s) parts z fun p hp => h _ (List.mem_map_of_mem hp)]
  case bslice esz z n parts => rw [fillAV_congr (s := s') (s' := s) parts _ fun p hp => h _ (List.mem_map_of_mem hp)]
  case prim p xs => rw [lits_congr h]
  case faddr off idx x => rw [h]
  case iaddrA ln esz x i => obtain ⟨e1, e2⟩ := h; rw [e1, e2]
  case fieldv off idx n agg x => rw [h]
  case ext x i => rw [h]
  case nilc x => rw [h]
  case add64 x y c => obtain ⟨e1, e2, e3⟩ := h; rw [e1, e2, e3]

theorem AI.val_fun {ai : AI} (h0 : ai.cls = 0) {u u' : AV} (h : ai.val P ro s u) (h' : ai.val P ro s u') : u = u' := by
  cases ai <;> simp only [AI.cls] at h0 <;> try omega
  all_goals simp only [AI.val] at h h'
  case mov x => rw [h, h']
  case pick c a b => obtain ⟨t, e1, rfl⟩ := h; obtain ⟨t', e2, rfl⟩ := h'; rw [e1] at e2; simp at e2; rw [e2]
  case bin op x y => obtain ⟨a, b, u, e1, e2, e3, rfl⟩ := h; obtain ⟨a', b', u', e4, e5, e6, rfl⟩ := h'; simp_all
  case beq neg x y => obtain ⟨p, q, e1, e2, rfl⟩ := h; obtain ⟨p', q', e3, e4, rfl⟩ := h'; simp_all
  case un op x => obtain ⟨a, u, e1, e2, rfl⟩ := h; obtain ⟨a', u', e3, e4, rfl⟩ := h'; simp_all
  case cvt k x => obtain ⟨k', n, e1, rfl⟩ := h; obtain ⟨k'', n', e2, rfl⟩ := h'; simp_all
  case build z parts => simp_all
  case bslice esz z n parts => obtain ⟨k, els, e1, rfl⟩ := h; obtain ⟨k', els', e2, rfl⟩ := h'; simp_all
  case prim p xs => obtain ⟨vs, u, e1, e2, rfl⟩ := h; obtain ⟨vs', u', e3, e4, rfl⟩ := h'; simp_all
  case faddr off idx x => simp_all
  case iaddrA ln esz x i => obtain ⟨k, n, e1, e2⟩ := h; obtain ⟨k', n', e3, e4⟩ := h'; simp_all
  case fieldv off idx n agg x => obtain ⟨ns, fs, e1, _, _, e2, _⟩ := h; obtain ⟨ns', fs', e3, _, _, e4, _⟩ := h'; simp_all
  case ext x i => obtain ⟨vs, e1, e2⟩ := h; obtain ⟨vs', e3, e4⟩ := h'; simp_all
  case nilc x => rw [h.1, h'.1]
  case add64 x y c => obtain ⟨a, b, d, e1, e2, e3, _, rfl⟩ := h; obtain ⟨a', b', d', e4, e5, e6, _, rfl⟩ := h'; simp_all

/-- Of the first two classes: another place that is not looked at counts for nothing. -/
theorem AI.val_put {ai : AI} (h2 : ai.cls < 2) (hl : offT od ai.ops) {u : AV} : ai.val P ro (s.put od v) u ↔ ai.val P ro s u := by
  have h := @AI.go_put P ro s (fun s1 => s1 = (s.put od v).put none u) none od v ai hl (by simp)
  have E : ∀ x ∈ ai.ops, (s.put od v).ev x = s.ev x := fun x hx => hl.ev hx
  by_cases h0 : ai.cls = 0
  · exact AI.val_congr h0 E
  · have h1 : ai.cls = 1 := by omega
    clear h0 h2 h
    cases ai <;> simp only [AI.cls] at h1 <;> try (cases h1; done)
    all_goals simp only [AI.ops, List.mem_cons, List.not_mem_nil, or_false, forall_eq_or_imp, forall_eq] at E
    all_goals simp only [AI.val]
    case load agg n x => rw [E, peek_put]
    case iaddrS esz x i => obtain ⟨e1, e2⟩ := E; simp only [e1, e2, elemAddr_put]
    case b2s x => simp only [E, textOf_put]
    case len str x => simp only [E, lenOf_put]
    case eqv t neg x y => obtain ⟨e1, e2⟩ := E; rw [e1, e2]
    case callv f args => have hl' : offT od args := hl; rw [map_coe_put hl']
    case lcall f args => have hl' : offT od args := hl; rw [map_lend_put hl']

/-- Behind a store, or a new variable: one block is another one. -/
def BehindW (s : AS) (dst : Option Tmp) (b : Nat) (s1 : AS) : Prop := ∃ v x, s1 = { s.put dst v with hp := s.hp.set b x }

theorem BehindW.behind {b : Nat} {s1 : AS} (h : BehindW s dst b s1) : Behind s dst s1 := by obtain ⟨v, x, e⟩ := h; exact ⟨v, _, e⟩
theorem BehindW.blk {b k : Nat} {s1 : AS} (h : BehindW s dst b s1) (hk : k ≠ b) : s1.blk k = s.blk k := by
  obtain ⟨v, x, rfl⟩ := h
  simp [AS.blk, List.getElem?_set, Ne.symm hk]

theorem behindW_set (b : Nat) (x : Option Blk) (r : AV) : BehindW s dst b ((s.setBlk b x).put dst r) := ⟨r, x, by cases dst <;> rfl⟩

/-- Which of them are such, and which block. -/
def AI.wr (dst own : Option Tmp) : AI → Option Tmp
  | .alloc _ _ | .box _ _ => some (dst.getD 0)
  | .store _ _ _ => own
  | _ => none

def AI.isNew : AI → Bool
  | .alloc _ _ | .box _ _ => true
  | _ => false

theorem AI.go_postW {ai : AI} {own : Option Tmp} {t : Tmp} (hw : ai.wr dst own = some t) (hm : ∀ n p u, ai = .store n p u → ∃ l off path, s.ev p = .ptr (s.nr + t) l off path) :
    ai.go P ro s dst K → ai.go P ro s dst fun s1 => K s1 ∧ BehindW s dst (s.nr + t) s1 := by
  cases ai <;> simp only [AI.wr] at hw <;> try (cases hw; done)
  case alloc n z =>
    cases hw
    simp only [AI.go]
    exact fun g l => ⟨g l, _, _, rfl⟩
  case box n x =>
    cases hw
    simp only [AI.go]
    exact fun ⟨a, b, g⟩ => ⟨a, b, fun l => ⟨g l, _, _, rfl⟩⟩
  case store n p u =>
    obtain ⟨l, off, path, e⟩ := hm n p u rfl
    simp only [AI.go, e]
    split
    · rename_i s' hp
      intro g
      refine ⟨g, ?_⟩
      simp only [AS.poke] at hp
      split at hp <;> try (cases hp; done)
      split at hp <;> try (cases hp; done)
      split at hp <;> try (cases hp; done)
      split at hp <;> try (cases hp; done)
      cases hp
      exact behindW_set _ _ _
    · exact id

theorem peek_w {b : Nat} {s1 : AS} (h : BehindW s dst b s1) (hr : ro b = false) {X : AV} : s1.peek ro X = s.peek ro X := by
  cases X
  case ptr k l off p =>
    simp only [AS.peek]
    by_cases hk : k = b
    · subst hk; simp [hr]
    · rw [h.blk hk]
  all_goals rfl
theorem lenOf_w {b : Nat} {s1 : AS} (h : BehindW s dst b s1) (hr : ro b = false) {X : AV} {str : Bool} : s1.lenOf ro str X = s.lenOf ro str X := by
  cases X
  case own k V =>
    simp only [AS.lenOf]
    by_cases hk : k = b
    · subst hk; simp [hr]
    · rw [h.blk hk]
  case lit v =>
    unfold AS.lenOf
    split <;> first | rfl | (rename_i hx; cases hx) | simp_all
  all_goals rfl
theorem elemAddr_w {b : Nat} {s1 : AS} (h : BehindW s dst b s1) (hr : ro b = false) {X : AV} {esz : Nat} {n : Int} : s1.elemAddr ro esz n X = s.elemAddr ro esz n X := by
  cases X
  case own k V =>
    simp only [AS.elemAddr]
    by_cases hk : k = b
    · subst hk; simp [hr]
    · rw [h.blk hk]
  all_goals simp only [AS.elemAddr]
theorem coe_w {b : Nat} {s1 : AS} (h : BehindW s dst b s1) (hr : ro b = false) {X : AV} : s1.coe ro X = s.coe ro X := by
  cases X
  case own k V =>
    simp only [AS.coe]
    by_cases hk : k = b
    · subst hk; simp [hr]
    · rw [h.blk hk]
  all_goals simp only [AS.coe]

theorem lend_w {b : Nat} {s1 : AS} (h : BehindW s dst b s1) (hr : ro b = false) {X : AV} : s1.lend ro X = s.lend ro X := by
  cases X
  case own k V =>
    simp only [AS.lend]
    by_cases hk : k = b
    · subst hk; simp [hr]
    · rw [h.blk hk]
  all_goals simp only [AS.lend]

theorem textOf_w {b : Nat} {s1 : AS} (h : BehindW s dst b s1) (hr : ro b = false) {X : AV} : s1.textOf ro X = s.textOf ro X := by unfold AS.textOf; rw [lend_w h hr]

theorem AI.val_w {ai : AI} (h1 : ai.cls = 1) {b : Nat} {s1 : AS} (h : BehindW s dst b s1) (hr : ro b = false) (hl : offT dst ai.ops) {u : AV} : ai.val P ro s1 u ↔ ai.val P ro s u := by
  have E := h.behind.ev hl
  cases ai <;> simp only [AI.cls] at h1 <;> try (cases h1; done)
  all_goals simp only [AI.ops, List.mem_cons, List.not_mem_nil, or_false, forall_eq_or_imp, forall_eq] at E
  all_goals simp only [AI.val]
  case load agg n x => rw [E, peek_w h hr]
  case iaddrS esz x i => obtain ⟨e1, e2⟩ := E; simp only [e1, e2, elemAddr_w h hr]
  case b2s x => simp only [E, textOf_w h hr]
  case len str x => simp only [E, lenOf_w h hr]
  case eqv t neg x y => obtain ⟨e1, e2⟩ := E; rw [e1, e2]
  case callv f args =>
    have : (args.map fun x => s1.coe ro (s1.ev x)) = args.map fun x => s.coe ro (s.ev x) := List.map_congr_left fun x hx => by rw [E x hx, coe_w h hr]
    rw [this]
  case lcall f args =>
    have : (args.map fun x => s1.lend ro (s1.ev x)) = args.map fun x => s.lend ro (s.ev x) := List.map_congr_left fun x hx => by rw [E x hx, lend_w h hr]
    rw [this]

/-- Those of the second class that answer one thing. -/
def AI.fn1 : AI → Bool
  | .load .. | .len .. | .iaddrS .. => true
  | _ => false

theorem AI.val_fun1 {ai : AI} (h0 : ai.fn1 = true) {u u' : AV} (h : ai.val P ro s u) (h' : ai.val P ro s u') : u = u' := by
  cases ai <;> simp only [AI.fn1] at h0 <;> try (cases h0; done)
  all_goals simp only [AI.val] at h h'
  case load agg n x => have := h.1.symm.trans h'.1; simp at this; exact this
  case iaddrS esz x i => obtain ⟨k, n, e1, e2⟩ := h; obtain ⟨k', n', e3, e4⟩ := h'; simp_all
  case len str x => obtain ⟨n, e1, rfl⟩ := h; obtain ⟨n', e2, rfl⟩ := h'; simp_all

/-- A store's way is one way. -/
theorem AI.go_store_ex {n : Nat} {p x : Operand} {V : AV → Prop} {F : AV → AS → Prop} (g : (AI.store n p x).go P ro s dst fun s1 => ∃ v, V v ∧ F v s1) : ∃ v, V v ∧ (AI.store n p x).go P ro s dst (F v) := by
  simp only [AI.go] at g ⊢
  split at g
  · exact g
  · exact g.elim

/-- Two new variables change places. -/
theorem AI.go_new {x y : AI} {d e : Tmp} (hx : x.isNew = true) (hy : y.isNew = true) (hne : d ≠ e) (h1 : offT (some d) y.ops) (h2 : offT (some e) x.ops)
    (g : x.go P ro s (some d) fun s1 => y.go P ro s1 (some e) K) : y.go P ro s (some e) fun s2 => x.go P ro s2 (some d) K := by
  have key : ∀ (l l' : Nat × Nat) (A B : Option Blk), ({ AS.put { s.put (some d) (.ptr (s.nr + d) l 0 []) with hp := s.hp.set (s.nr + d) A } (some e) (.ptr (s.nr + e) l' 0 []) with hp := (s.hp.set (s.nr + d) A).set (s.nr + e) B } : AS) =
      { AS.put { s.put (some e) (.ptr (s.nr + e) l' 0 []) with hp := s.hp.set (s.nr + e) B } (some d) (.ptr (s.nr + d) l 0 []) with hp := (s.hp.set (s.nr + e) B).set (s.nr + d) A } := by
    intro l l' A B
    simp only [AS.put]
    rw [List.set_comm _ _ hne, List.set_comm _ _ (show s.nr + d ≠ s.nr + e from fun h => hne (Nat.add_left_cancel h))]
  have evp : ∀ (z : Operand) (f : Tmp) (v : AV) (nr : Nat) (hp : List (Option Blk)), z ≠ .tmp f → AS.ev ⟨nr, (s.put (some f) v).tm, hp⟩ z = s.ev z := by
    intro z f v nr hp hz
    have := ev_put (s := s) (od := some f) (v := v) (x := z) (fun d' he h => by cases he; exact hz h)
    rw [← this]; cases z <;> rfl
  cases x <;> simp only [AI.isNew] at hx <;> try (cases hx; done)
  · cases y <;> simp only [AI.isNew] at hy <;> try (cases hy; done)
    · simp only [AI.go, AS.slot, Option.getD_some, put_nr] at g ⊢
      intro l' l
      exact Eq.mp (congrArg K (key l l' _ _)) (g l l')
    · rename_i n z m y
      have hyz : y ≠ .tmp d := fun h => h1 d rfl (by simp [AI.ops, h])
      simp only [AI.go, AS.slot, Option.getD_some, put_nr, evp _ _ _ _ _ hyz] at g ⊢
      obtain ⟨g1, g2, _⟩ := g (0, 0)
      refine ⟨g1, g2, fun l' l => ?_⟩
      exact Eq.mp (congrArg K (key l l' _ _)) ((g l).2.2 l')
  · rename_i n x
    have hxz : x ≠ .tmp e := fun h => h2 e rfl (by simp [AI.ops, h])
    cases y <;> simp only [AI.isNew] at hy <;> try (cases hy; done)
    · simp only [AI.go, AS.slot, Option.getD_some, put_nr, evp _ _ _ _ _ hxz] at g ⊢
      obtain ⟨g1, g2, g3⟩ := g
      intro l'
      refine ⟨g1, g2, fun l => ?_⟩
      exact Eq.mp (congrArg K (key l l' _ _)) (g3 l l')
    · rename_i m y
      have hyz : y ≠ .tmp d := fun h => h1 d rfl (by simp [AI.ops, h])
      simp only [AI.go, AS.slot, Option.getD_some, put_nr, evp _ _ _ _ _ hxz, evp _ _ _ _ _ hyz] at g ⊢
      obtain ⟨g1, g2, g3⟩ := g
      obtain ⟨g4, g5, _⟩ := g3 (0, 0)
      refine ⟨g4, g5, fun l' => ⟨g1, g2, fun l => ?_⟩⟩
      exact Eq.mp (congrArg K (key l l' _ _)) ((g3 l).2.2 l')

end
end Go.Cab

/- Part fifteen: from the program's operations to these, and one walk for every order. -/
namespace Go.Cab
open Go.RowKit
open Classical

/-- The function's first parameter is an address. -/
def firstPtr (P : Program) (f : FuncId) : Bool :=
  match P.funcs[f]? with
  | some fn => match fn.params[0]? with
    | some t => match P.underlying t with | some (.pointer _) => true | _ => false
    | none => false
  | none => false

/-- It is handed lists, and answers what holds no address: its lists are lent. -/
def lends (P : Program) (f : FuncId) : Bool :=
  match P.funcs[f]? with
  | some fn => fn.params.toList.any (fun t => match P.underlying t with | some (.slice _) => true | _ => false) && (match fn.resultTypes.toList with
    | [t] => (match P.underlying t with
      | some .bool | some (.int _) => true
      | some (.array _ e) => (match P.underlying e with | some (.int _) => true | _ => false)
      | some (.struct fds) => fds.toList.all fun fd => match P.underlying fd.type with
        | some .bool | some (.int _) => true
        | some (.array _ e) => (match P.underlying e with | some (.int _) => true | _ => false)
        | _ => false
      | _ => false)
    | _ => false)
  | none => false

def aggEq (P : Program) (t : TypeId) : Bool := aggT P t && P.keyTypeAt 12 t && !P.eqGuardType P.depth t

def compCall (P : Program) (draw : Bool) (c : Call) : Option AI :=
  match c.callee with
  | .builtin .min => match c.args.toList with
    | [x, y] => if okO x && okO y then some (.prim .imin [x, y]) else none
    | _ => none
  | .value (.func f) => if externFn P f "internal/bytealg.IndexByteString" then (match c.args.toList with
      | [x, y] => if okO x && okO y then some (.prim .ibyte [x, y]) else none
      | _ => none) else if externFn P f "math/bits.Add64" then (match c.args.toList with
      | [x, y, z] => if okO x && okO y && okO z then some (.add64 x y z) else none
      | _ => none) else if callable P f then (match c.args.toList with
      | x :: xs => if firstPtr P f then (if (x :: xs).all okO then some (.icall f x xs) else none)
        else if (x :: xs).all okO then (if lends P f then some (.lcall f (x :: xs)) else if draw then some (.callv f (x :: xs)) else some (.call f (x :: xs))) else none
      | [] => if draw then some (.callv f []) else some (.call f [])) else none
  | .builtin .append => match c.args.toList, c.argTypes.toList with
    | [x, y], [t, t'] => if t' = t then (match P.underlying t with
      | some (.slice e) => match P.info? e, zeroOf P e with
        | some i, some (n, _) => if okO x && okO y then some (.append e n i.bytes x y) else none
        | _, _ => none
      | _ => none) else none
    | _, _ => none
  | _ => none

def compAI (P : Program) (draw : Bool) (op : Op) : Option AI :=
  match op with
  | .binOp .eql t x y u => if aggEq P t then (if okO x && okO y then some (.eqv t false x y) else none) else comp1 P (.binOp .eql t x y u)
  | .binOp .neq t x y u => if aggEq P t then (if okO x && okO y then some (.eqv t true x y) else none) else comp1 P (.binOp .neq t x y u)
  | .build t parts => match zeroOf P t with
    | some (_, z) => if buildOk P t z && parts.toList.all (fun p => okO p.2) then some (.build z parts.toList) else none
    | none => none
  | .buildSlice t n parts => match P.underlying t with
    | some (.slice e) => match zeroOf P e with
      | some (esz, z) => if n * esz ≤ 16777216 && parts.toList.all (fun p => okO p.2) then some (.bslice esz z n parts.toList) else none
      | none => none
    | _ => none
  | .nilCheck x => if okO x then some (.nilc x) else none
  | .makeSlice t l c => match P.underlying t with
    | some (.slice e) => match P.info? e, zeroOf P e with
      | some i, some (esz, z) => if okO l && okO c then some (.mkslice e esz i.bytes z l c) else none
      | _, _ => none
    | _ => none
  | .field t x f => match P.underlying t with
    | some (.struct fields) => match fields[f]? with
      | some fd => match szOf P fd.type with
        | some n => if (P.underlying fd.type).isSome && okO x && (aggT P fd.type || n == 1) then some (.fieldv fd.offset f n (aggT P fd.type) x) else none
        | none => none
      | none => none
    | _ => none
  | .call c => match compCall P draw c with
    | some ai => some ai
    | none => comp1 P (.call c)
  | op => comp1 P op

def compO (P : Program) (draw : Bool) (ops : Array Oper) (o : Oper) : Option AOp :=
  match compAI P draw o.op with
  | some ai => match o.guard with
    | none => some { dst := o.dst, guard := none, ai := ai }
    | some (j, want) => match (ops[j]?).bind (·.dst) with
      | some t => some { dst := o.dst, guard := some (t, want), ai := ai }
      | none => none
  | none => none

def compOs (P : Program) (draw : Bool) (ops : Array Oper) : List Oper → Option (List AOp)
  | [] => some []
  | o :: os => match compO P draw ops o, compOs P draw ops os with
    | some x, some xs => some (x :: xs)
    | _, _ => none

/-- The variable that an address is of. -/
def rootOf (ops : Array Oper) : Nat → Tmp → Tmp
  | 0, t => t
  | n + 1, t => match ops.toList.find? (fun o => o.dst == some t) with
    | some o => match o.op with
      | .fieldAddr _ (.tmp u) _ | .indexAddr _ (.tmp u) _ | .nilCheck (.tmp u) | .move (.tmp u) => rootOf ops n u
      | _ => t
    | none => t

/-- Neither waits for the other one, by an edge of its own. -/
def unordered (ops : Array Oper) (i j : Nat) : Bool :=
  i != j && (match ops[i]?, ops[j]? with
    | some a, some b => !(a.after.any fun e => Region.binds .any e && e.on == j) && !(b.after.any fun e => Region.binds .any e && e.on == i)
    | _, _ => false)

def slotOf (ops : Array Oper) (x : AOp) : Option Tmp :=
  match x.ai with
  | .alloc _ _ | .box _ _ => some (x.dst.getD 0)
  | .store _ (.tmp t) _ => some (rootOf ops 20 t)
  | _ => none

def annot1 (ops : Array Oper) (xs : List AOp) (i : Nat) (x : AOp) : AOp :=
  match x.ai.cls with
  | 1 => { x with forb := (List.range xs.length).filterMap fun j => if unordered ops i j then (xs[j]?).bind (slotOf ops) else none }
  | 2 => if (List.range xs.length).any fun j => unordered ops i j && ((xs[j]?).map (·.ai.cls == 1)).getD false then { x with own := (match x.ai with | .store .. => slotOf ops x | _ => none) } else x
  | _ => x

def annot (ops : Array Oper) (xs : List AOp) : List AOp := xs.mapIdx fun i x => annot1 ops xs i x

section
variable {P : Program} {w0 wk : World} {regs : List (Nat × Nat × Nat)} {St Imm : Nat → Nat → Prop} {s : AS} {a : Act} {w : World} {o : Oper} {K : AS → Prop} {Q : Exit → Act → World → Prop} {ro : Nat → Bool} {draw : Bool} {ai : AI}

theorem comp1_sound (hc : comp1 P o.op = some ai) (h : ai.go P ro s o.dst K) (hs : SRel w0 wk regs St s a w) : o.wp P a w (fun a' w' => ∃ s', K s' ∧ SRel w0 wk regs St s' a' w') Q := by
  cases hop : o.op <;> rw [hop] at hc <;> simp only [comp1] at hc <;> try (cases hc; done)
  case move x =>
    split at hc <;> try (cases hc; done)
    cases hc; exact sound_mov (.inl hop) (by assumption) h hs
  case assign x =>
    split at hc <;> try (cases hc; done)
    cases hc; exact sound_mov (.inr hop) (by assumption) h hs
  case pick c x y =>
    split at hc <;> try (cases hc; done)
    rename_i hok
    simp only [Bool.and_eq_true] at hok
    cases hc; exact sound_pick hop hok.1.1 hok.1.2 hok.2 h hs
  case alloc t =>
    split at hc <;> try (cases hc; done)
    rename_i hz
    cases hc; exact sound_alloc hop hz h hs
  case box t x =>
    split at hc <;> try (cases hc; done)
    split at hc <;> try (cases hc; done)
    cases hc; exact sound_box hop (by assumption) h hs
  case index t x i =>
    split at hc <;> try (cases hc; done)
    rename_i hu
    split at hc <;> try (cases hc; done)
    rename_i hok
    simp only [Bool.and_eq_true] at hok
    cases hc
    refine sound_prim (by simp [hok.1, hok.2]) (fun v hv => ?_) h hs
    obtain ⟨b, k, n, y, e1, e2, hy, rfl⟩ := prim_sidx hv
    simp [execOp, hop, e1, e2, Instr.index, asIntOf, run_underlying hu, hy]
  case slice t x lo hi mx =>
    split at hc <;> try (cases hc; done)
    rename_i hu
    split at hc
    · split at hc <;> try (cases hc; done)
      rename_i hok
      cases hc
      refine sound_prim (by simpa using hok) (fun v hv => ?_) h hs
      obtain ⟨b, e1, rfl⟩ := prim_sub00 hv
      simp [execOp, hop, e1, Instr.sliceAt, Instr.slice, Instr.sliceBounds, run_underlying hu]
    · split at hc <;> try (cases hc; done)
      rename_i hok
      cases hc
      refine sound_prim (by simpa using hok) (fun v hv => ?_) h hs
      obtain ⟨b, k, n, e1, e2, g1, g2, rfl⟩ := prim_sub10 hv
      simp [execOp, hop, e1, e2, Instr.sliceAt, Instr.slice, Instr.sliceBounds, Instr.sliceBound, asIntOf, run_underlying hu, g1, g2]
    · split at hc <;> try (cases hc; done)
      rename_i hok
      cases hc
      refine sound_prim (by simpa using hok) (fun v hv => ?_) h hs
      obtain ⟨b, k, n, e1, e2, g1, g2, rfl⟩ := prim_sub01 hv
      simp [execOp, hop, e1, e2, Instr.sliceAt, Instr.slice, Instr.sliceBounds, Instr.sliceBound, asIntOf, run_underlying hu, g1, g2]
    · split at hc <;> try (cases hc; done)
      rename_i hok
      cases hc
      refine sound_prim (by simpa [and_assoc] using hok) (fun v hv => ?_) h hs
      obtain ⟨b, k, n, k', n', e1, e2, e3, g1, g2, g3, g4, rfl⟩ := prim_sub11 hv
      simp [execOp, hop, e1, e2, e3, Instr.sliceAt, Instr.slice, Instr.sliceBounds, Instr.sliceBound, asIntOf, run_underlying hu, g1, g2, g3, g4]
      intro hlt
      omega
  case load t x =>
    split at hc <;> try (cases hc; done)
    rename_i hn
    split at hc <;> try (cases hc; done)
    rename_i hok
    simp only [Bool.and_eq_true, Bool.or_eq_true, beq_iff_eq] at hok
    cases hc; exact sound_load hop hok.1.2 hok.1.1 hn hok.2 h hs
  case store t x v =>
    split at hc <;> try (cases hc; done)
    rename_i hn
    split at hc <;> try (cases hc; done)
    rename_i hok
    simp only [Bool.and_eq_true] at hok
    cases hc; exact sound_store hop hok.1 hok.2 hn h hs
  case binOp op t x y u =>
    split at hc <;> try (cases hc; done)
    rename_i hok
    simp only [Bool.and_eq_true] at hok
    split at hc <;> cases hc
    · rename_i ht; exact sound_beq (neg := false) hop ht hok.1 hok.2 h hs
    · rename_i ht; exact sound_beq (neg := true) hop ht hok.1 hok.2 h hs
    · exact sound_bin hop hok.1 hok.2 h hs
  case unOp op t x =>
    split at hc <;> try (cases hc; done)
    cases hc; exact sound_un hop (by assumption) h hs
  case convert t d x =>
    split at hc <;> try (cases hc; done)
    · rename_i ht hd
      split at hc <;> try (cases hc; done)
      cases hc; exact sound_cvt hop ht hd (by assumption) h hs
    · rename_i ht hd
      split at hc <;> try (cases hc; done)
      rename_i he
      split at hc <;> try (cases hc; done)
      cases hc; exact sound_b2s hop ht he hd (by assumption) h hs
  case fieldAddr t x f =>
    split at hc <;> try (cases hc; done)
    rename_i ht
    split at hc <;> try (cases hc; done)
    rename_i hf
    split at hc <;> try (cases hc; done)
    rename_i hn
    split at hc <;> try (cases hc; done)
    rename_i hok
    simp only [Bool.and_eq_true, bne_iff_ne, ne_eq] at hok
    cases hc; exact sound_faddr hop ht hf hn hok.2 hok.1 h hs
  case indexAddr t x i =>
    split at hc <;> try (cases hc; done)
    · rename_i ht
      split at hc <;> try (cases hc; done)
      rename_i hn
      split at hc <;> try (cases hc; done)
      rename_i hok
      simp only [Bool.and_eq_true] at hok
      cases hc; exact sound_iaddrA hop ht hn hok.1 hok.2 h hs
    · rename_i ht
      split at hc <;> try (cases hc; done)
      rename_i hn
      split at hc <;> try (cases hc; done)
      rename_i hok
      simp only [Bool.and_eq_true] at hok
      cases hc; exact sound_iaddrS hop ht hn hok.1 hok.2 h hs
  case extract x i =>
    split at hc <;> try (cases hc; done)
    cases hc; exact sound_ext hop (by assumption) h hs
  case call c =>
    split at hc <;> try (cases hc; done)
    rename_i b x t hcal hargs htys
    split at hc <;> try (cases hc; done)
    rename_i hb
    subst hb
    split at hc <;> try (cases hc; done)
    · rename_i ht
      split at hc <;> try (cases hc; done)
      cases hc; exact sound_len (str := true) hop hcal hargs htys (by simpa using ht) (by assumption) h hs
    · rename_i e ht
      split at hc <;> try (cases hc; done)
      cases hc; exact sound_len (str := false) hop hcal hargs htys (by simpa using ⟨e, ht⟩) (by assumption) h hs
    · rename_i n e ht
      cases hc
      obtain ⟨Imm, h1, h2, h3⟩ := hs.ex
      have ha' : c.args = #[x] := by rw [← Array.toArray_toList (xs := c.args), hargs]
      have ht' : c.argTypes = #[t] := by rw [← Array.toArray_toList (xs := c.argTypes), htys]
      simp only [AI.go] at h
      refine upon_of_run (V := .int .i64 n) (w' := w) ?_ ⟨_, h, hs.put0 h1 h2 h3 (Rel.mkLit rfl)⟩
      simp [execOp, hop, resolve, hcal, invoke, builtin, Builtin.len_, ha', ht', run_underlying ht, goInt]

theorem compAI_sound (hc : compAI P draw o.op = some ai) (h : ai.go P ro s o.dst K) (hs : SRel w0 wk regs St s a w) : o.wp P a w (fun a' w' => ∃ s', K s' ∧ SRel w0 wk regs St s' a' w') Q := by
  unfold compAI at hc
  split at hc
  · rename_i t x y u hop
    split at hc
    · rename_i ha
      split at hc <;> try (cases hc; done)
      rename_i hok
      simp only [Bool.and_eq_true] at hok
      simp only [aggEq, Bool.and_eq_true, Bool.not_eq_true'] at ha
      cases hc; exact sound_eqv (neg := false) hop ha.1.2 ha.2 hok.1 hok.2 h hs
    · rw [← hop] at hc; exact comp1_sound hc h hs
  · rename_i t x y u hop
    split at hc
    · rename_i ha
      split at hc <;> try (cases hc; done)
      rename_i hok
      simp only [Bool.and_eq_true] at hok
      simp only [aggEq, Bool.and_eq_true, Bool.not_eq_true'] at ha
      cases hc; exact sound_eqv (neg := true) hop ha.1.2 ha.2 hok.1 hok.2 h hs
    · rw [← hop] at hc; exact comp1_sound hc h hs
  · rename_i t parts hop
    split at hc <;> try (cases hc; done)
    rename_i n z hz
    split at hc <;> try (cases hc; done)
    rename_i hok
    simp only [Bool.and_eq_true] at hok
    cases hc; exact sound_build hop hz hok.1 hok.2 h hs
  · rename_i t n parts hop
    split at hc <;> try (cases hc; done)
    rename_i e ht
    split at hc <;> try (cases hc; done)
    rename_i esz z hz
    split at hc <;> try (cases hc; done)
    rename_i hok
    simp only [Bool.and_eq_true, decide_eq_true_eq] at hok
    cases hc; exact sound_bslice hop ht hz hok.1 hok.2 h hs
  · rename_i x hop
    split at hc <;> try (cases hc; done)
    cases hc; exact sound_nilc hop (by assumption) h hs
  · rename_i t l c hop
    split at hc <;> try (cases hc; done)
    rename_i e ht
    split at hc <;> try (cases hc; done)
    rename_i i esz z hi hz
    split at hc <;> try (cases hc; done)
    rename_i hok
    simp only [Bool.and_eq_true] at hok
    cases hc; exact sound_mkslice hop ht hz hi rfl hok.1 hok.2 h hs
  · rename_i t x f hop
    split at hc <;> try (cases hc; done)
    rename_i fields ht
    split at hc <;> try (cases hc; done)
    rename_i fd hf
    split at hc <;> try (cases hc; done)
    rename_i n hn
    split at hc <;> try (cases hc; done)
    rename_i hok
    simp only [Bool.and_eq_true, Bool.or_eq_true, beq_iff_eq] at hok
    cases hc; exact sound_fieldv hop ht hf hok.1.1 hok.1.2 hok.2 hn h hs
  · rename_i c hop
    split at hc
    · rename_i ai' hcc
      cases hc
      unfold compCall at hcc
      split at hcc
      · rename_i hcal
        split at hcc <;> try (cases hcc; done)
        rename_i x y hargs
        split at hcc <;> try (cases hcc; done)
        cases hcc; exact sound_min hop hcal hargs (by assumption) h hs
      · rename_i f hcal
        split at hcc
        · rename_i hext
          split at hcc <;> try (cases hcc; done)
          rename_i x y hargs
          split at hcc <;> try (cases hcc; done)
          cases hcc; exact sound_ibyte hop hcal hargs hext (by assumption) h hs
        split at hcc
        · rename_i hext
          split at hcc <;> try (cases hcc; done)
          rename_i x y z hargs
          split at hcc <;> try (cases hcc; done)
          cases hcc; exact sound_add64 hop hcal hargs hext (by assumption) h hs
        split at hcc <;> try (cases hcc; done)
        rename_i hcb
        split at hcc
        · rename_i x xs hargs
          split at hcc
          · split at hcc <;> try (cases hcc; done)
            cases hcc; exact sound_icall hop hcal hargs hcb (by assumption) h hs
          · split at hcc <;> try (cases hcc; done)
            rename_i hok
            have hal : c.args = (x :: xs).toArray := by rw [← Array.toArray_toList (xs := c.args), hargs]
            split at hcc
            · cases hcc; exact sound_lcall hop hcal hal hcb (by simpa using hok) (by simpa using h) hs
            split at hcc
            · cases hcc; exact sound_callv hop hcal hal hcb (by simpa using hok) (by simpa using h) hs
            · cases hcc; exact sound_call hop hcal hal hcb (by simpa using hok) (by simpa using h) hs
        · rename_i hargs
          have hal : c.args = ([] : List Operand).toArray := by rw [← Array.toArray_toList (xs := c.args), hargs]
          split at hcc
          · cases hcc; exact sound_callv hop hcal hal hcb (by simp) (by simpa using h) hs
          · cases hcc; exact sound_call hop hcal hal hcb (by simp) (by simpa using h) hs
      · rename_i hcal
        split at hcc <;> try (cases hcc; done)
        rename_i x y t t' hargs htys
        split at hcc <;> try (cases hcc; done)
        rename_i htt
        subst htt
        split at hcc <;> try (cases hcc; done)
        rename_i e ht
        split at hcc <;> try (cases hcc; done)
        rename_i i n z hi hz
        split at hcc <;> try (cases hcc; done)
        rename_i hok
        simp only [Bool.and_eq_true] at hok
        cases hcc
        obtain ⟨i', zv, hi', hzv, hn, _, hl, _⟩ := zeroOf_spec hz
        have : i' = i := by rw [hi] at hi'; exact (Option.some.inj hi').symm
        subst this
        exact sound_append hop hcal hargs htys ht hi hzv hn rfl (by rw [← Array.length_toList]; exact hl) hok.1 hok.2 h hs
      · cases hcc
    · rw [← hop] at hc; exact comp1_sound hc h hs
  · exact comp1_sound hc h hs

end
end Go.Cab
