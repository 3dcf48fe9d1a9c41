/- Part 2 of what the proof stands on: L, LA, LB, LC. -/
import Derived.Test.YtiikindmkllbiaaDoorCab01
import Derived.Laws.BytesString
import Derived.MapFrom
import Derived.Lib.AppendStr
set_option linter.unusedSimpArgs false
set_option linter.unnecessarySimpa false
set_option linter.unusedVariables false
set_option linter.unusedSectionVars false
namespace Go.Cab
open Go.RowKit
open Classical
section
variable {P : Program} {w0 wk : World} {regs : List (Nat × Nat × Nat)} {St Imm : Nat → Nat → Prop} {s : AS} {a : Act} {w : World} {o : Oper} {K : AS → Prop} {Q : Exit → Act → World → Prop} {ro : Nat → Bool}
theorem sound_icall {f : FuncId} {x : Operand} {args : List Operand} {c : Call} (ho : o.op = .call c) (hc : c.callee = .value (.func f)) (ha : c.args.toList = x :: args) (hf : callable P f = true) (hok : (x :: args).all okO = true)
    (h : AI.go P ro s o.dst K (.icall f x args)) (hs : SRel w0 wk regs St s a w) : o.wp P a w (fun a' w' => ∃ s', K s' ∧ SRel w0 wk regs St s' a' w') Q := by
  obtain ⟨Imm, h1, h2, h3, hseal⟩ := hs.seals
  simp only [List.all_cons, Bool.and_eq_true] at hok
  have hX := h2.eval x (okO_sc hok.1)
  simp only [AI.go] at h
  rcases h with h | ⟨K', hX', _, hK⟩
  rotate_left
  · obtain ⟨Imm, h1, h2, h3⟩ := hs.ex
    have hargs : ArgsOk Imm w ((x :: args).map fun y => s.ev y) ((x :: args).map a.eval) := by
      have : ∀ (xs : List Operand), xs.all okO = true → ArgsOk Imm w (xs.map fun y => s.ev y) (xs.map a.eval) := by
        intro xs
        induction xs with
        | nil => exact fun _ => trivial
        | cons y ys ih =>
          intro h
          simp only [List.all_cons, Bool.and_eq_true] at h
          exact ⟨h2.eval y (okO_sc h.1), ih h.2⟩
      exact this _ (by simp only [List.all_cons, Bool.and_eq_true]; exact hok)
    have hcall := hX' w0 w regs Imm _ hs.frame ⟨h1.there, hs.tab⟩ h3 hargs
    have e2 : ((x :: args).map a.eval).toArray = c.args.map a.eval := by apply Array.ext'; simp [ha]
    rw [e2] at hcall
    unfold Oper.wp Oper.upon
    rw [run_call ho hc rfl hf]
    refine Calls.mono hcall fun e w' ⟨V, r, hp', Imm', he, hk', hfr, hI', hr, _, hH⟩ => ?_
    subst he
    show ∃ s', K s' ∧ SRel w0 wk regs St s' (a.put o.dst V) w'
    refine ⟨_, hK r hp' hk', ?_⟩
    have hkeep : ∀ b o, Imm b o → w'.cell? ⟨b, o, none⟩ = w.cell? ⟨b, o, none⟩ := hI'.val
    have hI2 : ImmOk w0 wk St Imm' w' := ⟨fun b o hb => hI'.sub _ _ (h1.sub b o hb), fun b o hb hlt => h1.old b o (hI'.old b o hb hlt) hlt, hI'.there, fun b o hb => by rw [hkeep b o (h1.sub b o hb)]; exact h1.val b o hb⟩
    exact ⟨by rw [aput_defers]; exact hs.defers, by rw [aput_size, put_len]; exact hs.tsize, hs.tab, hfr, Imm', hI2, h2.put hs.tsize hI'.sub hkeep (.inr hr), hH⟩
  split at h <;> try exact h.elim
  rename_i b blk p m u hpart
  obtain ⟨r, u', hP, hu't, hK⟩ := h
  unfold AS.part at hpart
  split at hpart <;> try (cases hpart; done)
  rename_i b0 l off p0 hex
  split at hpart <;> try (cases hpart; done)
  rename_i l' n v hblk
  split at hpart <;> try (cases hpart; done)
  rename_i hl
  subst hl
  split at hpart <;> try (cases hpart; done)
  rename_i o1 m1 u1 hnav
  split at hpart <;> try (cases hpart; done)
  rename_i hoff
  obtain ⟨rfl, hm0⟩ := hoff
  simp only [Option.some.injEq, Prod.mk.injEq] at hpart
  obtain ⟨rfl, rfl, rfl, rfl, rfl⟩ := hpart
  have hm1 : 0 < m1 := Nat.pos_of_ne_zero hm0
  rw [hex] at hX
  rcases hX with hX | ⟨cs', hX, eX⟩
  · cases hX
  cases hX
  have eX' : a.eval x = .pointer (some ⟨l'.1, l'.2 + o1, none⟩) := eX
  obtain ⟨hbok, hbfoot⟩ := h3.ok b0 _ hblk
  obtain ⟨⟨cs, hR, hln, hscs, hcell⟩, hnot⟩ := hbok
  obtain ⟨pre, c0, post, e1, ho1, hc0, hu0, hc0s, _⟩ := R.nav p0 v 0 n o1 m1 u1 cs hR hscs hln hnav
  have hlen : pre.length + m1 ≤ n := by rw [← hln, e1]; simp; omega
  have hregok : Blk.ok Imm w (.box (l'.1, l'.2 + o1) m1 u1) := by
    refine ⟨⟨c0, hu0, hc0, hc0s, fun i y hy => ?_⟩, fun i hi => ?_⟩
    · have hi := (List.getElem?_eq_some_iff.1 hy).1
      have := hcell (o1 + i) y (by rw [e1, List.append_assoc, List.getElem?_append_right (by omega), show o1 + i - pre.length = i from by omega, List.getElem?_append_left hi]; exact hy)
      rw [show l'.2 + o1 + i = l'.2 + (o1 + i) from by omega]; exact this
    · have := hnot (o1 + i) (by omega)
      rw [show l'.2 + o1 + i = l'.2 + (o1 + i) from by omega]; exact this
  have hargs : ArgsOk Imm w (.ptr 0 (l'.1, l'.2 + o1) 0 [] :: args.map fun x => s.coe ro (s.ev x)) (a.eval x :: args.map a.eval) :=
    ⟨.inr ⟨_, .ptr _ _ _ _, by rw [eX']; rfl⟩, argsOk h3 hseal h2 args hok.2⟩
  have hcall := hP w Imm (l'.1, l'.2 + o1) _ ⟨h1.there, (hs.tab.go hs.frame).one hs.frame.size hs.tab (hbfoot _ (l'.2 + o1) ⟨rfl, by omega, by omega⟩).2⟩ hregok hargs
  have e2 : (a.eval x :: args.map a.eval).toArray = c.args.map a.eval := by apply Array.ext'; simp [ha]
  rw [e2] at hcall
  unfold Oper.wp Oper.upon
  rw [run_call ho hc rfl hf]
  refine Calls.mono hcall fun e w' ⟨V, Imm', he, hfr, hI', hr, hrany, hu'ok⟩ => ?_
  subst he
  have hinreg : ∀ b o, inReg [(l'.1, l'.2 + o1, m1)] b o ↔ (b = l'.1 ∧ l'.2 + o1 ≤ o ∧ o < l'.2 + o1 + m1) := fun b o => by simp [inReg]
  have hImmOut : ∀ b o, Imm b o → ¬ inReg [(l'.1, l'.2 + o1, m1)] b o := fun b o hi hr => by
    obtain ⟨rfl, h4, h5⟩ := (hinreg b o).1 hr
    have := (hnot (o - l'.2) (by omega)).2
    rw [show l'.2 + (o - l'.2) = o from by omega] at this
    exact this hi
  have hk : ∀ b o, Imm b o → w'.cell? ⟨b, o, none⟩ = w.cell? ⟨b, o, none⟩ := fun b o hi => hfr.cell b o (h1.lt hi) (hImmOut b o hi)
  have hII := hI'.sub
  have hnew := hI'.old
  have hI2 : ImmOk w0 wk St Imm' w' := ⟨fun b o hb => hII _ _ (h1.sub b o hb), fun b o hb hlt => h1.old b o (hnew b o hb (Nat.lt_of_lt_of_le hlt hs.frame.size)) hlt, hI'.there, fun b o hb => by rw [hk b o (h1.sub b o hb)]; exact h1.val b o hb⟩
  obtain ⟨⟨c', hu'R, hc'l, hc's, hc'cell⟩, _⟩ := hu'ok
  obtain ⟨pre2, c2, post2, e3, ho2, hc2, _, _, hset⟩ := R.nav p0 v 0 n o1 m1 u1 cs (hR.mono hII hk) hscs hln hnav
  have hpp : pre2.length = pre.length := by omega
  have hbw : l'.1 < w.heap.size := by
    obtain ⟨y, hy⟩ : ∃ y, cs[0]? = some y := ⟨_, List.getElem?_eq_getElem (by omega)⟩
    exact World.block_lt_of_cell? w _ (hcell 0 y hy)
  have hbox : (Blk.box l' n (v.upd p0 u')).ok Imm' w' := by
    refine ⟨⟨_, hset u' c' hu'R hc'l hc's, ?_, ?_, fun i y hy => ?_⟩, fun i hi => ⟨?_, fun hm => ?_⟩⟩
    · rw [← hln, e3]; simp; omega
    · intro y hy
      rcases List.mem_append.1 hy with hy | hy
      · rcases List.mem_append.1 hy with hy | hy
        · exact hscs y (by rw [e3]; simp [hy])
        · exact hc's y hy
      · exact hscs y (by rw [e3]; simp [hy])
    · by_cases h4 : i < o1
      · rw [hfr.cell l'.1 (l'.2 + i) hbw (fun hr => by have := ((hinreg _ _).1 hr).2.1; omega)]
        exact hcell i y (by rw [e3, List.append_assoc, List.getElem?_append_left (by omega)]; rw [List.append_assoc, List.getElem?_append_left (by omega)] at hy; exact hy)
      · by_cases h5 : i < o1 + m1
        · have := hc'cell (i - o1) y (by rw [List.append_assoc, List.getElem?_append_right (by omega), List.getElem?_append_left (by omega)] at hy; rwa [show i - o1 = i - pre2.length from by omega])
          rwa [show l'.2 + o1 + (i - o1) = l'.2 + i from by omega] at this
        · rw [hfr.cell l'.1 (l'.2 + i) hbw (fun hr => by have := ((hinreg _ _).1 hr).2.2; omega)]
          refine hcell i y ?_
          rw [List.getElem?_append_right (by simp; omega)] at hy
          rw [e3, List.getElem?_append_right (by simp; omega)]
          rw [← hy]; congr 1; simp; omega
    · rw [hfr.frozen l'.1 (l'.2 + i) hbw]; exact (hnot i hi).1
    · exact (hnot i hi).2 (hnew _ _ hm hbw)
  have hfoot : ∀ i, i < m1 → Blk.foot (.box l' n v) l'.1 (l'.2 + o1 + i) := fun i hi => ⟨rfl, by omega, by omega⟩
  have hother : ∀ (k : Nat) (y : Blk), k ≠ b0 → (s.hp[k]?).join = some y → y.ok Imm' w' := fun k y hkb hy => by
    obtain ⟨hyok, hyf⟩ := h3.ok k y hy
    have hdis : ∀ b o, y.foot b o → ¬ inReg [(l'.1, l'.2 + o1, m1)] b o := fun b o hfy hr => by
      obtain ⟨rfl, h4, h5⟩ := (hinreg b o).1 hr
      have := hfoot (o - (l'.2 + o1)) (by omega)
      rw [show l'.2 + o1 + (o - (l'.2 + o1)) = o from by omega] at this
      exact h3.apart k b0 y _ hkb hy hblk _ _ hfy this
    refine hyok.keep hII hk (fun b o hfy hi => hnew b o hi (hyf b o hfy).1) (fun b o hfy => hfr.cell b o (hyf b o hfy).1 (hdis b o hfy)) (fun b o hfy => hfr.frozen b o (hyf b o hfy).1) ?_
    intro b hb0
    have hb := Blk.whole_foot hb0 0
    refine hfr.block b (hyf b 0 hb).1 fun r hr => ?_
    simp only [List.mem_singleton] at hr
    subst hr
    intro he
    have : y.foot l'.1 (l'.2 + o1 + 0) := by rw [he]; exact Blk.whole_foot hb0 _
    exact h3.apart k b0 _ _ hkb hy hblk _ _ this (hfoot 0 (by omega))
  have hH : HeapOk w0 regs Imm' (s.hp.set b0 (some (.box l' n (v.upd p0 u')))) w' := by
    refine ⟨fun k y hy => ?_, fun k k' y z hne hy hz b o hfy => ?_⟩
    · rcases hp_set hy with ⟨rfl, rfl⟩ | ⟨hkb, hy'⟩
      · exact ⟨hbox, fun b o hf => ⟨Nat.lt_of_lt_of_le (hbfoot b o hf).1 hfr.size, (hbfoot b o hf).2⟩⟩
      · exact ⟨hother k y hkb hy', fun b o hf => ⟨Nat.lt_of_lt_of_le ((h3.ok k y hy').2 b o hf).1 hfr.size, ((h3.ok k y hy').2 b o hf).2⟩⟩
    · rcases hp_set hy with ⟨rfl, rfl⟩ | ⟨hkb, hy'⟩
      · rcases hp_set hz with ⟨rfl, rfl⟩ | ⟨hkb', hz'⟩
        · exact absurd rfl hne
        · exact h3.apart k k' (.box l' n v) z hne hblk hz' b o hfy
      · rcases hp_set hz with ⟨rfl, rfl⟩ | ⟨hkb', hz'⟩
        · exact h3.apart k k' y (.box l' n v) hne hy' hblk b o hfy
        · exact h3.apart k k' y z hne hy' hz' b o hfy
  have hF : Fr regs w0 w' := by
    have hwhere : w0.heap.size ≤ l'.1 ∨ ∀ i, i < m1 → inReg regs l'.1 (l'.2 + o1 + i) := by
      rcases Nat.lt_or_ge l'.1 w0.heap.size with h | h
      · exact .inr fun i hi => ((hbfoot _ _ (hfoot i hi)).2).resolve_left (by omega)
      · exact .inl h
    have hsz := hs.frame.size
    refine ⟨hfr.os.trans hs.frame.os, hfr.tape.trans hs.frame.tape, hfr.output.trans hs.frame.output, Nat.le_trans hs.frame.size hfr.size, fun k hk' hr => ?_, fun b o hb hr => ?_, fun b o hb => ?_⟩
    · rw [hfr.block k (by omega) (fun q hq => by
        simp only [List.mem_singleton] at hq
        subst hq
        intro he
        rcases hwhere with h | h
        · simp only at he; omega
        · obtain ⟨q, hq1, hq2, _⟩ := h 0 (by omega)
          exact hr q hq1 (by rw [← hq2]; exact he))]
      exact hs.frame.block k hk' hr
    · rw [hfr.cell b o (by omega) (fun hq => by
        obtain ⟨rfl, h4, h5⟩ := (hinreg b o).1 hq
        rcases hwhere with h | h
        · omega
        · have := h (o - (l'.2 + o1)) (by omega)
          rw [show l'.2 + o1 + (o - (l'.2 + o1)) = o from by omega] at this
          exact hr this)]
      exact hs.frame.cell b o hb hr
    · rw [hfr.frozen b o (by omega)]; exact hs.frame.frozen b o hb
  show ∃ s', K s' ∧ SRel w0 wk regs St s' (a.put o.dst V) w'
  refine ⟨_, hK, ?_⟩
  have e5 : (s.setBlk b0 (some ((Blk.box l' n v).upd p0 u'))).put o.dst r = { s.put o.dst r with hp := s.hp.set b0 (some (.box l' n (v.upd p0 u'))) } := by cases o.dst <;> rfl
  rw [e5]
  exact ⟨by rw [aput_defers]; exact hs.defers, by rw [aput_size, put_len]; exact hs.tsize, hs.tab, hF, Imm', hI2, h2.put hs.tsize hII hk (.inr hr), hH⟩
theorem lits_eval {a : Act} (h2 : TmOk Imm w s.tm a.tmps) : ∀ {xs : List Operand} {vs : List Value}, xs.all okO = true → s.lits xs = some vs → xs.map a.eval = vs
  | [], vs, _, h => by simp only [AS.lits, Option.some.injEq] at h; subst h; rfl
  | x :: xs, vs, hok, h => by
    simp only [List.all_cons, Bool.and_eq_true] at hok
    unfold AS.lits at h
    split at h <;> try (cases h; done)
    rename_i v vs' hv hvs
    cases h
    have hX := h2.eval x (okO_sc hok.1)
    rw [hv] at hX
    rw [List.map_cons, hX.lit.1, lits_eval h2 hok.2 hvs]
theorem primVal_sc {p : PrimOp} {vs : List Value} {v : Value} (h : primVal p vs = some v) : sc v = true := by
  unfold primVal at h
  split at h
  · split at h <;> cases h; rfl
  · cases h; rfl
  · obtain ⟨_, _, rfl⟩ := Option.map_eq_some_iff.1 h; rfl
  · obtain ⟨_, _, rfl⟩ := Option.map_eq_some_iff.1 h; rfl
  · obtain ⟨_, _, h⟩ := Option.bind_eq_some_iff.1 h
    obtain ⟨_, _, rfl⟩ := Option.map_eq_some_iff.1 h; rfl
  · cases h; rfl
  · cases h; rfl
  · cases h; rfl
  · cases h
theorem bound_some {v : Value} {y m : Nat} (h : bound v y = some m) : ∃ k n, v = .int k n ∧ 0 ≤ n ∧ n ≤ (y : Int) ∧ m = n.toNat := by
  unfold bound at h
  split at h
  · rename_i k n
    split at h
    · rename_i hb; cases h; exact ⟨k, n, rfl, hb.1, hb.2, rfl⟩
    · cases h
  · cases h
theorem prim_sidx {x i v : Value} (h : primVal .sidx [x, i] = some v) : ∃ s k n b, x = .string s ∧ i = .int k n ∧ (if 0 ≤ n then s[n.toNat]? else none) = some b ∧ v = .int .u8 b.toNat := by
  cases x <;> try (simp [primVal] at h; done)
  rename_i s
  cases i <;> try (simp [primVal] at h; done)
  rename_i k n
  simp only [primVal] at h
  split at h
  · rename_i b hb; cases h; exact ⟨s, k, n, b, rfl, rfl, hb, rfl⟩
  · cases h
theorem prim_sub00 {x v : Value} (h : primVal (.ssub false false) [x] = some v) : ∃ s, x = .string s ∧ v = .string (s.extract 0 s.size) := by
  cases x <;> try (simp [primVal] at h; done)
  simp only [primVal, Option.some.injEq] at h
  exact ⟨_, rfl, h.symm⟩
theorem prim_sub10 {x l v : Value} (h : primVal (.ssub true false) [x, l] = some v) : ∃ s k n, x = .string s ∧ l = .int k n ∧ 0 ≤ n ∧ n ≤ (s.size : Int) ∧ v = .string (s.extract n.toNat s.size) := by
  cases x <;> try (simp [primVal] at h; done)
  simp only [primVal] at h
  obtain ⟨m, hm, rfl⟩ := Option.map_eq_some_iff.1 h
  obtain ⟨k, n, rfl, h1, h2, rfl⟩ := bound_some hm
  exact ⟨_, k, n, rfl, rfl, h1, h2, rfl⟩
theorem prim_sub01 {x l v : Value} (h : primVal (.ssub false true) [x, l] = some v) : ∃ s k n, x = .string s ∧ l = .int k n ∧ 0 ≤ n ∧ n ≤ (s.size : Int) ∧ v = .string (s.extract 0 n.toNat) := by
  cases x <;> try (simp [primVal] at h; done)
  simp only [primVal] at h
  obtain ⟨m, hm, rfl⟩ := Option.map_eq_some_iff.1 h
  obtain ⟨k, n, rfl, h1, h2, rfl⟩ := bound_some hm
  exact ⟨_, k, n, rfl, rfl, h1, h2, rfl⟩
theorem prim_sub11 {x l r v : Value} (h : primVal (.ssub true true) [x, l, r] = some v) : ∃ s k n k' n', x = .string s ∧ l = .int k n ∧ r = .int k' n' ∧ 0 ≤ n' ∧ n' ≤ (s.size : Int) ∧ 0 ≤ n ∧ n ≤ (n'.toNat : Int) ∧ v = .string (s.extract n.toNat n'.toNat) := by
  cases x <;> try (simp [primVal] at h; done)
  simp only [primVal] at h
  obtain ⟨m, hm, h⟩ := Option.bind_eq_some_iff.1 h
  obtain ⟨m', hm', rfl⟩ := Option.map_eq_some_iff.1 h
  obtain ⟨k, n, rfl, h1, h2, rfl⟩ := bound_some hm
  obtain ⟨k', n', rfl, h3, h4, rfl⟩ := bound_some hm'
  exact ⟨_, k', n', k, n, rfl, rfl, rfl, h1, h2, h3, h4, rfl⟩
theorem sound_prim {p : PrimOp} {xs : List Operand} (hok : xs.all okO = true) (hrun : ∀ v, primVal p (xs.map a.eval) = some v → (execOp a.eval o).run P w = .ok (.value v) w)
    (h : AI.go P ro s o.dst K (.prim p xs)) (hs : SRel w0 wk regs St s a w) : o.wp P a w (fun a' w' => ∃ s', K s' ∧ SRel w0 wk regs St s' a' w') Q := by
  obtain ⟨Imm, h1, h2, h3⟩ := hs.ex
  simp only [AI.go] at h
  split at h <;> try exact h.elim
  rename_i vs hvs
  split at h <;> try exact h.elim
  rename_i v hv
  have e := lits_eval h2 hok hvs
  rw [← e] at hv
  exact upon_of_run (V := v) (w' := w) (hrun v hv) ⟨_, h, hs.put0 h1 h2 h3 (Rel.mkLit (primVal_sc hv))⟩
theorem prim_imin {x y v : Value} (h : primVal .imin [x, y] = some v) : ∃ k a k' b, x = .int k a ∧ y = .int k' b ∧ v = .int k (if b < a then b else a) := by
  cases x <;> try (simp [primVal] at h; done)
  cases y <;> try (simp [primVal] at h; done)
  simp only [primVal, Option.some.injEq] at h
  exact ⟨_, _, _, _, rfl, rfl, h.symm⟩
theorem prim_imax {x y v : Value} (h : primVal .imax [x, y] = some v) : ∃ k a k' b, x = .int k a ∧ y = .int k' b ∧ v = .int k (if b > a then b else a) := by
  cases x <;> try (simp [primVal] at h; done)
  cases y <;> try (simp [primVal] at h; done)
  simp only [primVal, Option.some.injEq] at h
  exact ⟨_, _, _, _, rfl, rfl, h.symm⟩
theorem prim_ibyte {x y v : Value} (h : primVal .ibyte [x, y] = some v) : ∃ s n, x = .string s ∧ y = .int .u8 n ∧ v = .int .i64 (match (List.range s.size).find? fun i => s[i]! == n.toNat.toUInt8 with | some i => (i : Int) | none => -1) := by
  cases x <;> try (simp [primVal] at h; done)
  cases y <;> try (simp [primVal] at h; done)
  rename_i s k n
  cases k <;> try (simp [primVal] at h; done)
  simp only [primVal, Option.some.injEq] at h
  exact ⟨_, _, rfl, rfl, h.symm⟩
theorem sound_min {x y : Operand} {c : Call} (ho : o.op = .call c) (hc : c.callee = .builtin .min) (ha : c.args.toList = [x, y]) (hok : (okO x && okO y) = true)
    (h : AI.go P ro s o.dst K (.prim .imin [x, y])) (hs : SRel w0 wk regs St s a w) : o.wp P a w (fun a' w' => ∃ s', K s' ∧ SRel w0 wk regs St s' a' w') Q := by
  have ha' : c.args = #[x, y] := by rw [← Array.toArray_toList (xs := c.args), ha]
  refine sound_prim (by simpa using hok) (fun v hv => ?_) h hs
  obtain ⟨k, p, k', q, e1, e2, rfl⟩ := prim_imin hv
  simp [execOp, ho, resolve, hc, invoke, builtin, Builtin.min_, Builtin.min2, ha', e1, e2]
theorem sound_max {x y : Operand} {c : Call} (ho : o.op = .call c) (hc : c.callee = .builtin .max) (ha : c.args.toList = [x, y]) (hok : (okO x && okO y) = true)
    (h : AI.go P ro s o.dst K (.prim .imax [x, y])) (hs : SRel w0 wk regs St s a w) : o.wp P a w (fun a' w' => ∃ s', K s' ∧ SRel w0 wk regs St s' a' w') Q := by
  have ha' : c.args = #[x, y] := by rw [← Array.toArray_toList (xs := c.args), ha]
  refine sound_prim (by simpa using hok) (fun v hv => ?_) h hs
  obtain ⟨k, p, k', q, e1, e2, rfl⟩ := prim_imax hv
  simp [execOp, ho, resolve, hc, invoke, builtin, Builtin.max_, Builtin.max2, ha', e1, e2]
theorem find_ibyte {fn : Func} (hn : fn.name = "internal/bytealg.IndexByteString") : Extern.find fn = some Extern.BytealgIndexByte.indexByte := by
  have h1 : Extern.allGenericRows.lookup "internal/bytealg.IndexByteString" = none := by kernel_rfl
  have h2 : Extern.allTypedRows.lookup "internal/bytealg.IndexByteString" = none := by kernel_rfl
  have h3 : Extern.allRows.lookup "internal/bytealg.IndexByteString" = some Extern.BytealgIndexByte.indexByte := by kernel_rfl
  simp only [Extern.find, hn, h1, h2, h3]
  rfl
theorem findNext_ibyte {fn : Func} (hn : fn.name = "internal/bytealg.IndexByteString") (ho : fn.origin = "") : Extern.findNext fn = none := by
  have h1 : Extern.allNextRows.lookup "internal/bytealg.IndexByteString" = none := by kernel_rfl
  have h2 : Extern.allNextRows.lookup "" = none := by kernel_rfl
  simp only [Extern.findNext, hn, ho, h1, h2]
  rfl
theorem sound_ibyte {f : FuncId} {x y : Operand} {c : Call} (ho : o.op = .call c) (hc : c.callee = .value (.func f)) (ha : c.args.toList = [x, y]) (hf : externFn P f "internal/bytealg.IndexByteString" = true) (hok : (okO x && okO y) = true)
    (h : AI.go P ro s o.dst K (.prim .ibyte [x, y])) (hs : SRel w0 wk regs St s a w) : o.wp P a w (fun a' w' => ∃ s', K s' ∧ SRel w0 wk regs St s' a' w') Q := by
  have ha' : c.args = #[x, y] := by rw [← Array.toArray_toList (xs := c.args), ha]
  unfold externFn at hf
  split at hf <;> try (cases hf; done)
  rename_i fn hfn
  simp only [Bool.and_eq_true, beq_iff_eq] at hf
  obtain ⟨⟨hn, horig⟩, hbody⟩ := hf
  refine sound_prim (by simpa using hok) (fun v hv => ?_) h hs
  obtain ⟨b, n, e1, e2, rfl⟩ := prim_ibyte hv
  have hcall := run_callFunc_extern (P := P) hfn (by rw [hn]; rfl) hbody (findNext_ibyte hn horig) (find_ibyte hn) #[.string b, .int .u8 n] w
  have hrun : (Extern.BytealgIndexByte.indexByte #[.string b, .int .u8 n]).run P w = .ok (.int .i64 (match (List.range b.size).find? fun i => b[i]! == n.toNat.toUInt8 with | some i => (i : Int) | none => -1)) w := by
    have e : Extern.BytealgIndexByte.indexByte #[.string b, .int .u8 n] = (do
      let b ← Extern.Bytes.bytesOf (.string b)
      let c ← Extern.Bytes.asByte (.int .u8 n)
      match (List.range b.size).find? fun i => b[i]! == c with
      | some i => pure (goInt i)
      | none => pure (goInt (-1))) := rfl
    rw [e]
    simp only [Extern.Bytes.bytesOf, Extern.Bytes.asByte, Sem.run_bind, Sem.run_pure, Result.andThen_ok]
    generalize (List.range b.size).find? (fun i => b[i]! == n.toNat.toUInt8) = q
    cases q <;> simp [goInt]
  rw [hrun] at hcall
  simp only [execOp, ho, resolve, hc, ha', Deferred.ofValue, Act.eval, invoke]
  simp [e1, e2, hcall]
theorem bytes_cells {Imm : Nat → Nat → Prop} {w : World} : ∀ {els : List AV} {ns : List Int} {cs : List Value}, bytesAV els = some ns → R Imm w (.arr 1 els) cs → cs = ns.map (Value.int .u8) ∧ els.length = ns.length
  | [], ns, cs, h, hr => by
    simp only [bytesAV, Option.some.injEq] at h
    subst h; cases hr; exact ⟨rfl, rfl⟩
  | e :: els, ns, cs, h, hr => by
    unfold bytesAV at h
    split at h <;> try (cases h; done)
    · rename_i h0; cases h0
    · rename_i n els' he
      cases he
      obtain ⟨ns', hn, rfl⟩ := Option.map_eq_some_iff.1 h
      cases hr with
      | arr1 _ _ _ c d hc hl _ hd =>
        obtain ⟨h1, h2⟩ := bytes_cells hn hd
        cases hc with
        | lit _ _ => subst h1; exact ⟨rfl, by simp [h2]⟩
theorem sound_b2s {t d e : TypeId} {x : Operand} (ho : o.op = .convert t d x) (ht : P.underlying t = some (.slice e)) (he : P.underlying e = some (.int .u8)) (hd : P.underlying d = some .string) (hx : okO x = true)
    (h : AI.go P ro s o.dst K (.b2s x)) (hs : SRel w0 wk regs St s a w) : o.wp P a w (fun a' w' => ∃ s', K s' ∧ SRel w0 wk regs St s' a' w') Q := by
  obtain ⟨Imm, h1, h2, h3⟩ := hs.ex
  have hX := h2.eval x (okO_sc hx)
  have hL := lend_sound (ro := ro) h1 h3 hX
  simp only [AI.go] at h
  split at h <;> try exact h.elim
  rename_i v hv
  unfold AS.textOf at hv
  have key : (convert t d (a.eval x)).run P w = .ok v w ∧ sc v = true := by
    generalize s.lend ro (s.ev x) = u at *
    split at hv
    · rename_i els
      obtain ⟨ns, hn, rfl⟩ := Option.map_eq_some_iff.1 hv
      rcases hL with hL | ⟨cs, hL, eV⟩
      · cases hL
      · cases hL with
        | slnil _ a0 => 
          simp only [bytesAV, Option.some.injEq] at hn
          subst hn
          rw [eV]
          show (convert t d (.slice a0 0 0)).run P w = _ ∧ _
          rw [run_convert_bytes_string w t d e a0 0 0 ht he hd]
          exact ⟨by cases a0 <;> simp [Conv.bytesToString, strOf, loadCells, loadCellsFrom], rfl⟩
        | sl _ _ cs b o cap hR hA _ =>
          obtain ⟨hcs, hlen⟩ := bytes_cells hn hR
          rw [eV]
          show (convert t d (.slice (some ⟨b, o, none⟩) els.length cap)).run P w = _ ∧ _
          rw [run_convert_bytes_string w t d e _ _ _ ht he hd]
          have hload : (loadCells ⟨b, o, none⟩ els.length).run P w = .ok (ns.map (Value.int .u8)).toArray w := by
            have := run_loadCells_list (P := P) (w := w) ⟨b, o, none⟩ cs (fun j y hj => by rw [add_none]; exact (hA j y hj).1)
            rw [hcs] at this
            rwa [List.length_map, ← hlen] at this
          rw [run_bytesToString w _ _ _ ns hload]
          exact ⟨rfl, rfl⟩
    · cases hv
      rcases hL with hL | ⟨cs, hL, eV⟩
      · cases hL
      · cases hL
        rw [eV]
        show (convert t d (.slice none 0 0)).run P w = _ ∧ _
        rw [run_convert_bytes_string w t d e none 0 0 ht he hd]
        exact ⟨by simp [Conv.bytesToString, strOf], rfl⟩
    · cases hv
  exact upon_of_run (V := v) (w' := w) (by simp [execOp, ho, key.1]) ⟨_, h, hs.put0 h1 h2 h3 (Rel.mkLit key.2)⟩
theorem R.fieldPart {t : TypeId} {ns : List Nat} {fs : List AV} {cs : List Value} {idx n : Nat} {v : AV} (h : R Imm w (.st ns fs) cs) (hn : ns[idx]? = some n) (hv : fs[idx]? = some v) (ht : (P.underlying t).isSome = true) (hsz : szOf P t = some n) (hagg : v.isAgg = aggT P t) (h1n : aggT P t = true ∨ n = 1) (htup : v.isTup = false) :
    ∃ c, R Imm w v c ∧ (part t cs.toArray (ns.take idx).sum).run P w = .ok (asVal v c) w := by
  obtain ⟨pre, c, post, e, hp, hc, hvR, hcs, _⟩ := h.field idx n v hn hv
  refine ⟨c, hvR, ?_⟩
  cases hA : aggT P t with
  | true =>
    simp only [part, Sem.run_bind, run_isAgg ht, hA, Result.andThen_ok, if_true, run_sizeOf' hsz]
    have : (cs.toArray.extract (ns.take idx).sum ((ns.take idx).sum + n)) = c.toArray := by
      apply Array.ext'
      rw [Array.toList_extract]
      simp only [List.extract]
      rw [e, ← hp, List.append_assoc, List.drop_left', Nat.add_sub_cancel_left, ← hc, List.take_left']
      · rfl
      · rfl
    simp only [Sem.run_pure, this]
    rw [hA] at hagg
    cases v <;> simp [AV.isAgg] at hagg <;> rfl
  | false =>
    have hn1 : n = 1 := by rcases h1n with h' | h' <;> simp_all
    subst hn1
    rw [hA] at hagg
    match c, hc with
    | [y], _ =>
      have : cs.toArray[(ns.take idx).sum]? = some y := by
        simp only [List.getElem?_toArray]
        rw [e, ← hp, List.append_assoc, List.getElem?_append_right (Nat.le_refl _)]; simp
      simp only [part, Sem.run_bind, run_isAgg ht, hA, Result.andThen_ok, Bool.false_eq_true, if_false, this, Sem.run_pure]
      cases v <;> simp [AV.isAgg, AV.isTup] at hagg htup <;> rfl
theorem sound_fieldv {t : TypeId} {fields : Array Field} {fd : Field} {idx n : Nat} {x : Operand} (ho : o.op = .field t x idx) (ht : P.underlying t = some (.struct fields)) (hf : fields[idx]? = some fd) (hu : (P.underlying fd.type).isSome = true) (hx : okO x = true)
    (h1n : aggT P fd.type = true ∨ n = 1) (hn : szOf P fd.type = some n)
    (h : AI.go P ro s o.dst K (.fieldv fd.offset idx n (aggT P fd.type) x)) (hs : SRel w0 wk regs St s a w) : o.wp P a w (fun a' w' => ∃ s', K s' ∧ SRel w0 wk regs St s' a' w') Q := by
  obtain ⟨Imm, h1, h2, h3⟩ := hs.ex
  have hX := h2.eval x (okO_sc hx)
  simp only [AI.go] at h
  split at h <;> try exact h.elim
  rename_i ns fs hex
  rw [hex] at hX
  obtain ⟨hsum, hns, h⟩ := h
  split at h <;> try exact h.elim
  rename_i v hv
  obtain ⟨hagg, htup, hK⟩ := h
  rcases hX with hX | ⟨cs, hX, eX⟩
  · cases hX
  obtain ⟨c, hc, hrun⟩ := R.fieldPart (P := P) hX hns hv hu hn hagg h1n htup
  refine upon_of_run (V := asVal v c) (w' := w) ?_ ⟨_, hK, hs.put0 h1 h2 h3 (.inr ⟨c, hc, rfl⟩)⟩
  rw [hsum] at hrun
  simp [execOp, ho, Instr.field, run_underlying ht, hf, eX, asVal, asAgg, hrun]
end
end Go.Cab
namespace Go.Cab
open Go.RowKit
open Classical
section
variable {P : Program} {w0 wk : World} {regs : List (Nat × Nat × Nat)} {St Imm : Nat → Nat → Prop} {s : AS} {a : Act} {w : World} {o : Oper} {K : AS → Prop} {Q : Exit → Act → World → Prop} {ro : Nat → Bool}
theorem sound_rdp_of {g : RdOp} {xs : List Operand} (h : AI.go P ro s o.dst K (.rdp g xs)) (hs : SRel w0 wk regs St s a w)
    (hrun : ∀ Imm v, ImmOk w0 wk St Imm w → TmOk Imm w s.tm a.tmps → HeapOk w0 regs Imm s.hp w → rdA P (fun _ => none) g (xs.map fun x => s.ev x) = some v → ∃ V, (execOp a.eval o).run P w = .ok (.value V) w ∧ Rel Imm w v V) :
    o.wp P a w (fun a' w' => ∃ s', K s' ∧ SRel w0 wk regs St s' a' w') Q := by
  obtain ⟨Imm, h1, h2, h3⟩ := hs.ex
  simp only [AI.go] at h
  split at h <;> try exact h.elim
  rename_i v hv
  obtain ⟨V, hr, hR⟩ := hrun Imm v h1 h2 h3 hv
  exact upon_of_run (V := V) (w' := w) hr ⟨_, h, hs.put0 h1 h2 h3 hR⟩
theorem sound_rd_of {g : RdOp} {xs : List Operand} (h : AI.go P ro s o.dst K (.rd g xs)) (hs : SRel w0 wk regs St s a w)
    (hrun : ∀ Imm v, ImmOk w0 wk St Imm w → TmOk Imm w s.tm a.tmps → HeapOk w0 regs Imm s.hp w → rdA P (fun b => if ro b then s.blk b else none) g (xs.map fun x => s.ev x) = some v → ∃ V, (execOp a.eval o).run P w = .ok (.value V) w ∧ Rel Imm w v V) :
    o.wp P a w (fun a' w' => ∃ s', K s' ∧ SRel w0 wk regs St s' a' w') Q := by
  obtain ⟨Imm, h1, h2, h3⟩ := hs.ex
  simp only [AI.go] at h
  split at h <;> try exact h.elim
  rename_i v hv
  obtain ⟨V, hr, hR⟩ := hrun Imm v h1 h2 h3 hv
  exact upon_of_run (V := V) (w' := w) hr ⟨_, h, hs.put0 h1 h2 h3 hR⟩
theorem Rel.cells {v : AV} {V : Value} (h : Rel Imm w v V) (ht : v.isTup = false) : ∃ cs, R Imm w v cs ∧ V = asVal v cs := by
  rcases h with h | h
  · subst h; simp [AV.isTup] at ht
  · exact h
theorem sound_mkifc {t : TypeId} {x : Operand} (ho : o.op = .makeInterface t x) (ht : (match P.underlying t with | some (.interface _) => false | some _ => true | none => false) = true) (hx : okO x = true)
    (h : AI.go P ro s o.dst K (.rdp (.mkifc t) [x])) (hs : SRel w0 wk regs St s a w) : o.wp P a w (fun a' w' => ∃ s', K s' ∧ SRel w0 wk regs St s' a' w') Q := by
  refine sound_rdp_of h hs fun Imm v h1 h2 h3 hv => ?_
  have hX := h2.eval x (okO_sc hx)
  simp only [List.map_cons, List.map_nil, rdA, rdB] at hv
  split at hv <;> try (cases hv; done)
  rename_i htup
  cases hv
  obtain ⟨cs, hR, e⟩ := hX.cells (by simpa using htup)
  refine ⟨.iface t (a.eval x), ?_, .inr ⟨[.iface t (a.eval x)], by rw [e]; exact .ifc t _ cs hR, rfl⟩⟩
  cases hu : P.underlying t with
  | none => rw [hu] at ht; cases ht
  | some d =>
    rw [hu] at ht
    cases d <;> first | (cases ht; done) | simp [execOp, ho, Instr.makeInterface, run_underlying hu]
theorem R_tup_of : ∀ {vs : List AV} {Vs : List Value}, ArgsOk Imm w vs Vs → vs.all (fun x => !x.isTup) = true → R Imm w (.tup vs) Vs
  | [], [], _, _ => .tup0
  | v :: vs, V :: Vs, ⟨h1, h2⟩, ht => by
    simp only [List.all_cons, Bool.and_eq_true, Bool.not_eq_true'] at ht
    obtain ⟨cs, hR, rfl⟩ := h1.cells ht.1
    exact .tup1 v vs cs _ hR (R_tup_of h2 ht.2)
  | [], _ :: _, h, _ => h.elim
  | _ :: _, [], h, _ => h.elim
theorem tup_args : ∀ {vs : List AV} {Vs : List Value}, R Imm w (.tup vs) Vs → ArgsOk Imm w vs Vs
  | [], _, h => by cases h; exact trivial
  | v :: vs, _, h => by
    cases h with
    | tup1 _ _ c d h1 h2 => exact ⟨.inr ⟨c, h1, rfl⟩, tup_args h2⟩
theorem argsOk_map (h2 : TmOk Imm w s.tm a.tmps) : ∀ {xs : List Operand}, xs.all okO = true → ArgsOk Imm w (xs.map fun y => s.ev y) (xs.map a.eval)
  | [], _ => trivial
  | y :: ys, h => by
    simp only [List.all_cons, Bool.and_eq_true] at h
    exact ⟨h2.eval y (okO_sc h.1), argsOk_map h2 h.2⟩
theorem argsOk_take : ∀ {vs : List AV} {Vs : List Value} (n : Nat), ArgsOk Imm w vs Vs → ArgsOk Imm w (vs.take n) (Vs.take n) ∧ ArgsOk Imm w (vs.drop n) (Vs.drop n)
  | vs, Vs, 0, h => ⟨trivial, h⟩
  | [], [], _ + 1, _ => ⟨trivial, trivial⟩
  | v :: vs, V :: Vs, n + 1, ⟨h1, h2⟩ => by
    obtain ⟨g1, g2⟩ := argsOk_take n h2
    exact ⟨⟨h1, g1⟩, g2⟩
  | [], _ :: _, _ + 1, h => h.elim
  | _ :: _, [], _ + 1, h => h.elim
theorem argsOk_app : ∀ {us vs : List AV} {Us Vs : List Value}, ArgsOk Imm w us Us → ArgsOk Imm w vs Vs → ArgsOk Imm w (us ++ vs) (Us ++ Vs)
  | [], _, [], _, _, h => h
  | u :: us, _, U :: Us, _, ⟨h1, h2⟩, h => ⟨h1, argsOk_app h2 h⟩
  | [], _, _ :: _, _, h, _ => h.elim
  | _ :: _, _, [], _, h, _ => h.elim
theorem sound_mkfn {fn : Fn} {first caps : Array Operand} (ho : o.op = .makeFunc fn first caps) (hx : (first.toList ++ caps.toList).all okO = true)
    (h : AI.go P ro s o.dst K (.rdp (.mkfn fn first.size) (first.toList ++ caps.toList))) (hs : SRel w0 wk regs St s a w) : o.wp P a w (fun a' w' => ∃ s', K s' ∧ SRel w0 wk regs St s' a' w') Q := by
  refine sound_rdp_of h hs fun Imm v h1 h2 h3 hv => ?_
  have hA := argsOk_map h2 hx
  simp only [rdA, rdB] at hv
  split at hv <;> try (cases hv; done)
  rename_i htup
  cases hv
  obtain ⟨g1, g2⟩ := argsOk_take first.size hA
  have t1 : ((((first.toList ++ caps.toList).map fun x => s.ev x).take first.size).all fun x => !x.isTup) = true := List.all_eq_true.2 fun x hx => List.all_eq_true.1 htup x (List.mem_of_mem_take hx)
  have t2 : ((((first.toList ++ caps.toList).map fun x => s.ev x).drop first.size).all fun x => !x.isTup) = true := List.all_eq_true.2 fun x hx => List.all_eq_true.1 htup x (List.mem_of_mem_drop hx)
  refine ⟨.func fn (first.map a.eval) (caps.map a.eval), by simp [execOp, ho, Instr.makeFunc], .inr ⟨[.func fn (first.map a.eval) (caps.map a.eval)], ?_, rfl⟩⟩
  have e1 : ((first.toList ++ caps.toList).map a.eval).take first.size = (first.map a.eval).toList := by simp
  have e2 : ((first.toList ++ caps.toList).map a.eval).drop first.size = (caps.map a.eval).toList := by simp
  have := R.fnv fn _ _ _ _ (R_tup_of g1 t1) (R_tup_of g2 t2)
  rw [e1, e2] at this
  simpa only [List.map_append, Array.toArray_toList] using this
theorem follow_sound : ∀ (steps : List FieldStep) (t : TypeId) (v : AV) (V : Value) (xt : TypeId) (x : AV), followA P steps t v = some (xt, x) → Rel Imm w v V →
    ∃ X, (follow steps t (.val V)).run P w = .ok (xt, .val X) w ∧ (followBlind steps t (some V)).run P w = .ok (.ok (xt, some X)) w ∧ Rel Imm w x X
  | [], t, v, V, xt, x, h, hV => by
    simp only [followA, Option.some.injEq, Prod.mk.injEq] at h
    obtain ⟨rfl, rfl⟩ := h
    exact ⟨V, by simp [follow], by simp [followBlind], hV⟩
  | st :: rest, t, v, V, xt, x, h, hV => by
    simp only [followA] at h
    split at h <;> try (cases h; done)
    rename_i hd
    split at h <;> try (cases h; done)
    rename_i fields ns fs hu
    split at h <;> try (cases h; done)
    rename_i f n u hf hn hfu
    split at h <;> try (cases h; done)
    rename_i hc
    obtain ⟨h1, h2, h3, h4, h5, h6⟩ := hc
    rcases hV with hV | ⟨cs, hR, rfl⟩
    · cases hV
    have hagg : u.isAgg = aggT P f.type := h4
    have hsz : szOf P f.type = some n := by
      unfold szOf
      cases hi : P.info? f.type with
      | none => rw [hi] at h3; cases h3
      | some i => rw [hi] at h3; simpa using h3
    obtain ⟨c, hcR, hpart⟩ := R.fieldPart (P := P) hR hn hfu h2 hsz hagg (by rw [← hagg]; exact h5) h6
    rw [h1] at hpart
    obtain ⟨X, g1, g2, g3⟩ := follow_sound rest f.type u (asVal u c) xt x h (.inr ⟨c, hcR, rfl⟩)
    refine ⟨X, ?_, ?_, g3⟩
    · show (follow (st :: rest) t (.val (.agg cs.toArray))).run P w = _
      simp [follow, run_underlying hu, hf, hd, hpart, g1]
    · show (followBlind (st :: rest) t (some (.agg cs.toArray))).run P w = _
      simp [followBlind, run_underlying hu, hf, hd, hpart, g2]
theorem meth_sound : ∀ (fuel : Nat) (t : TypeId) (v : AV) (V : Value) (name : String) (f : FuncId) (u : AV), methA P fuel t v name = some (f, u) → Rel Imm w v V →
    ∃ U, (method fuel t V name).run P w = .ok (f, U) w ∧ (nilAhead fuel t V name).run P w = .ok (some false) w ∧ Rel Imm w u U
  | 0, t, v, V, name, f, u, h, _ => by simp [methA] at h
  | fuel + 1, t, v, V, name, f, u, h, hV => by
    simp only [methA] at h
    split at h <;> try (cases h; done)
    rename_i m hm
    cases hi : P.info? t with
    | none => rw [hi] at hm; cases hm
    | some i =>
      rw [hi] at hm
      simp only [Option.bind_some] at hm
      split at h <;> try (cases h; done)
      rename_i xt x hfo
      obtain ⟨X, g1, g2, g3⟩ := follow_sound _ _ _ _ _ _ hfo hV
      split at h
      · rename_i f' ptr hmf
        cases hu : P.underlying xt with
        | none => rw [hu] at h; cases h
        | some d =>
          rw [hu] at h
          have key : f' = f ∧ x = u ∧ ((∃ e, d = .pointer e ∧ ptr = true) ∨ ((∀ e, d ≠ .pointer e) ∧ ptr = false)) := by
            cases d <;> cases ptr <;> simp only [Option.some.injEq, Prod.mk.injEq] at h <;> first | (cases h; done) | (obtain ⟨rfl, rfl⟩ := h; simp)
          obtain ⟨rfl, rfl, hk⟩ := key
          refine ⟨X, ?_, ?_, g3⟩
          · rcases hk with ⟨e, rfl, rfl⟩ | ⟨hd, rfl⟩
            · simp [method, typeInfo, hi, hm, g1, hmf, receiverAt, run_underlying hu, Place.get]
            · simp only [method, typeInfo, Sem.run_bind, run_program, Result.andThen_ok, hi, Sem.run_pure, hm, g1, hmf, receiverAt, run_underlying hu]
              cases d <;> first | exact absurd rfl (hd _) | simp [Place.get]
          · rcases hk with ⟨e, rfl, rfl⟩ | ⟨hd, rfl⟩
            · simp [nilAhead, typeInfo, hi, hm, g2, hmf]
            · simp only [nilAhead, typeInfo, Sem.run_bind, run_program, Result.andThen_ok, hi, Sem.run_pure, hm, g2, hmf, run_underlying hu]
              cases d <;> first | exact absurd rfl (hd _) | simp
      · rename_i hmf
        split at h <;> try (cases h; done)
        rename_i t' v'
        rcases g3 with g3 | ⟨cs, g3, e3⟩
        · cases g3
        cases g3 with
        | ifc _ _ cs' hR =>
          obtain ⟨U, k1, k2, k3⟩ := meth_sound fuel t' v' (asVal v' cs') name f u h (.inr ⟨cs', hR, rfl⟩)
          have eX : X = .iface t' (asVal v' cs') := e3
          refine ⟨U, ?_, ?_, k3⟩
          · simp [method, typeInfo, hi, hm, g1, hmf, Place.get, eX, k1]
          · simp [nilAhead, typeInfo, hi, hm, g2, hmf, eX, k2]
theorem sound_nilv {x : Operand} (ho : o.op = .nilCheck x) (hx : okO x = true)
    (h : AI.go P ro s o.dst K (.rdp .nilv [x])) (hs : SRel w0 wk regs St s a w) : o.wp P a w (fun a' w' => ∃ s', K s' ∧ SRel w0 wk regs St s' a' w') Q := by
  refine sound_rdp_of h hs fun Imm v h1 h2 h3 hv => ?_
  have hX := h2.eval x (okO_sc hx)
  simp only [List.map_cons, List.map_nil] at hv
  unfold rdA at hv
  split at hv
  · rename_i name t u c _ hxs
    simp only [List.cons.injEq, and_true] at hxs
    split at hv <;> try (cases hv; done)
    rename_i hm
    cases hv
    rw [hxs] at hX
    obtain ⟨p, hp⟩ := Option.isSome_iff_exists.1 hm
    rcases hX with hX | ⟨cs, hX, e⟩
    · cases hX
    cases hX with
    | fnv _ _ _ c' d hc hd =>
      cases hc with
      | tup1 _ _ cc dd h4 h5 =>
        cases h5
        cases h4 with
        | ifc _ _ cs' hR =>
          obtain ⟨U, _, k2, _⟩ := meth_sound _ _ _ _ _ p.1 p.2 hp (.inr ⟨cs', hR, rfl⟩)
          refine ⟨a.eval x, ?_, .inr ⟨[a.eval x], by rw [e]; exact .fnv _ _ _ _ _ (.tup1 _ _ _ _ (.ifc _ _ cs' hR) .tup0) hd, rfl⟩⟩
          have eV : a.eval x = .func (.method name) #[.iface t (asVal u cs')] d.toArray := e
          simp [execOp, ho, eV, k2]
  · simp only [rdB] at hv
    split at hv <;> try (cases hv; done)
    · rename_i t u hxe
      cases hv
      rw [hxe] at hX ⊢
      rcases hX with hX | ⟨cs, hX, e⟩
      · cases hX
      refine ⟨a.eval x, ?_, .inr ⟨cs, hX, e⟩⟩
      cases hX with
      | ifc _ _ cs' hR =>
        have eV : a.eval x = .iface t (asVal u cs') := e
        simp [execOp, ho, eV]
    · rename_i f fs c hxe
      cases hv
      rw [hxe] at hX ⊢
      rcases hX with hX | ⟨cs, hX, e⟩
      · cases hX
      refine ⟨a.eval x, ?_, .inr ⟨cs, hX, e⟩⟩
      cases hX with
      | fnv _ _ _ c' d hc hd =>
        have eV : a.eval x = .func (.func f) c'.toArray d.toArray := e
        simp [execOp, ho, eV]
end
end Go.Cab
namespace Go.Cab
open Go.RowKit
open Classical
section
variable {P : Program} {w0 wk : World} {regs : List (Nat × Nat × Nat)} {St Imm : Nat → Nat → Prop} {s : AS} {a : Act} {w : World} {o : Oper} {K : AS → Prop} {Q : Exit → Act → World → Prop} {ro : Nat → Bool}
theorem run_bound {v : Value} {y m : Nat} {code : BoundsCode} (h : bound v y = some m) : (Instr.sliceBound v y code).run P w = .ok m w ∧ m ≤ y := by
  obtain ⟨k, n, rfl, h1, h2, rfl⟩ := bound_some h
  exact ⟨by simp [Instr.sliceBound, asIntOf, h1, h2], by omega⟩
theorem bnds_run {isS : Bool} {len cap l h : Nat} (hlc : len ≤ cap) {lo hi : Option Operand} (hok : (lo.toList ++ hi.toList).all okO = true) (h2 : TmOk Imm w s.tm a.tmps)
    (hb : bnds len lo.isSome hi.isSome ((lo.toList ++ hi.toList).map fun x => s.ev x) = some (l, h)) :
    (Instr.sliceBounds isS len cap (lo.map a.eval) (hi.map a.eval) none).run P w = .ok (l, h, cap) w ∧ l ≤ h ∧ h ≤ len := by
  have hlit : ∀ (x : Operand) (v : Value), okO x = true → s.ev x = .lit v → a.eval x = v := fun x v hx he => by
    have := h2.eval x (okO_sc hx)
    rw [he] at this
    exact this.lit.1
  have hcap : ∀ {v : Value} {m : Nat}, bound v len = some m → bound v cap = some m := fun {v m} hm => by
    obtain ⟨k, n, rfl, h1, h2, rfl⟩ := bound_some hm
    simp only [bound]
    rw [if_pos ⟨h1, by omega⟩]
  cases lo with
  | none =>
    cases hi with
    | none =>
      simp only [Option.isSome_none, Option.toList_none, List.append_nil, List.map_nil, bnds, Option.some.injEq, Prod.mk.injEq] at hb
      obtain ⟨rfl, rfl⟩ := hb
      exact ⟨by simp [Instr.sliceBounds], Nat.zero_le _, Nat.le_refl _⟩
    | some y =>
      simp only [Option.toList_none, Option.toList_some, List.nil_append, List.all_cons, List.all_nil, Bool.and_true] at hok
      simp only [Option.isSome_none, Option.isSome_some, Option.toList_none, Option.toList_some, List.nil_append, List.map_cons, List.map_nil] at hb
      generalize hy : s.ev y = Y at hb
      cases Y <;> try (simp [bnds] at hb; done)
      simp only [bnds, Option.map_eq_some_iff, Prod.mk.injEq] at hb
      obtain ⟨m, hm, rfl, rfl⟩ := hb
      have e := hlit y _ hok hy
      obtain ⟨k, n, rfl, g1, g2, rfl⟩ := bound_some hm
      obtain ⟨r1, r2⟩ := run_bound (P := P) (w := w) (code := if isS then .sliceAcap else .sliceAlen) (hcap hm)
      exact ⟨by simp [Instr.sliceBounds, e, r1], Nat.zero_le _, by omega⟩
  | some x =>
    cases hi with
    | none =>
      simp only [Option.toList_none, Option.toList_some, List.append_nil, List.all_cons, List.all_nil, Bool.and_true] at hok
      simp only [Option.isSome_none, Option.isSome_some, Option.toList_none, Option.toList_some, List.append_nil, List.map_cons, List.map_nil] at hb
      generalize hx : s.ev x = X at hb
      cases X <;> try (simp [bnds] at hb; done)
      simp only [bnds, Option.map_eq_some_iff, Prod.mk.injEq] at hb
      obtain ⟨m, hm, rfl, rfl⟩ := hb
      have e := hlit x _ hok hx
      obtain ⟨r1, r2⟩ := run_bound (P := P) (w := w) (code := .sliceB) hm
      exact ⟨by simp [Instr.sliceBounds, e, r1], r2, Nat.le_refl _⟩
    | some y =>
      simp only [Option.toList_some, List.cons_append, List.nil_append, List.all_cons, List.all_nil, Bool.and_true, Bool.and_eq_true] at hok
      simp only [Option.isSome_some, Option.toList_some, List.cons_append, List.nil_append, List.map_cons, List.map_nil] at hb
      generalize hx : s.ev x = X at hb
      generalize hy : s.ev y = Y at hb
      cases X <;> try (simp [bnds] at hb; done)
      cases Y <;> try (simp [bnds] at hb; done)
      simp only [bnds] at hb
      obtain ⟨m, hm, hb⟩ := Option.bind_eq_some_iff.1 hb
      simp only [Option.map_eq_some_iff, Prod.mk.injEq] at hb
      obtain ⟨m', hm', rfl, rfl⟩ := hb
      have e := hlit x _ hok.1 hx
      have e' := hlit y _ hok.2 hy
      have hmle := (run_bound (P := P) (w := w) (code := .sliceB) hm).2
      obtain ⟨r1, r2⟩ := run_bound (P := P) (w := w) (code := if isS then .sliceAcap else .sliceAlen) (hcap hm)
      obtain ⟨r3, r4⟩ := run_bound (P := P) (w := w) (code := .sliceB) hm'
      exact ⟨by simp [Instr.sliceBounds, e, e', r1, r3], r4, hmle⟩
theorem sound_vslice {t e : TypeId} {n esz : Nat} {x : Operand} {lo hi : Option Operand} (ho : o.op = .slice t x lo hi none) (ht : P.underlying t = some (.array n e)) (hz : szOf P e = some esz) (hx : (x :: (lo.toList ++ hi.toList)).all okO = true)
    (h : AI.go P ro s o.dst K (.rdp (.vslice esz n lo.isSome hi.isSome) (x :: (lo.toList ++ hi.toList)))) (hs : SRel w0 wk regs St s a w) : o.wp P a w (fun a' w' => ∃ s', K s' ∧ SRel w0 wk regs St s' a' w') Q := by
  refine sound_rdp_of h hs fun Imm v h1 h2 h3 hv => ?_
  simp only [List.all_cons, Bool.and_eq_true] at hx
  have hX := h2.eval x (okO_sc hx.1)
  simp only [List.map_cons, rdA, rdB] at hv
  split at hv <;> try (cases hv; done)
  rename_i l hh b lc off p hb hxe
  cases hv
  obtain ⟨hrun, g1, g2⟩ := bnds_run (P := P) (isS := false) (Nat.le_refl n) hx.2 h2 hb
  rw [hxe] at hX
  rcases hX with hX | ⟨cs, hX, eX⟩
  · cases hX
  cases hX
  have eV : a.eval x = .pointer (some ⟨lc.1, lc.2 + off, none⟩) := eX
  refine ⟨.slice (some ⟨lc.1, lc.2 + (if l = n then off else off + l * esz), none⟩) (hh - l) (n - l), ?_, .inr ⟨_, .view _ _ _ _ _ _ _ _, rfl⟩⟩
  have hk : (Instr.sliceAt t (a.eval x) (lo.map a.eval) (hi.map a.eval) none).run P w = .ok (.slice (some ⟨lc.1, lc.2 + (if l = n then off else off + l * esz), none⟩) (hh - l) (n - l)) w := by
    simp only [Instr.sliceAt, Sem.run_bind, run_underlying ht, Result.andThen_ok, eV, Instr.sureAddr, Sem.run_pure]
    rw [hrun]
    by_cases hln : n = l
    · subst hln; simp [run_sizeOf' hz]
    · have hln' : ¬ l = n := fun h => hln h.symm
      simp [hln, hln', add_none, Nat.add_assoc, run_sizeOf' hz]
  simp only [execOp, ho, Option.map_none, Sem.run_bind]
  rw [hk]
  rfl
theorem R_arr_drop {esz : Nat} : ∀ {els : List AV} {cs : List Value} (n : Nat), R Imm w (.arr esz els) cs → R Imm w (.arr esz (els.drop n)) (cs.drop (n * esz)) ∧ R Imm w (.arr esz (els.take n)) (cs.take (n * esz))
  | els, cs, 0, h => by simp only [Nat.zero_mul, List.drop_zero, List.take_zero]; exact ⟨h, .arr0 esz⟩
  | [], cs, n + 1, h => by cases h; simp only [List.drop_nil, List.take_nil]; exact ⟨.arr0 esz, .arr0 esz⟩
  | e :: els, cs, n + 1, h => by
    cases h with
    | arr1 _ _ _ c d hc hl hs hd =>
      obtain ⟨g1, g2⟩ := R_arr_drop n hd
      have e1 : (c ++ d).drop ((n + 1) * esz) = d.drop (n * esz) := by
        rw [Nat.succ_mul, Nat.add_comm, ← List.drop_drop, ← hl, List.drop_left' rfl]
      have e2 : (c ++ d).take ((n + 1) * esz) = c ++ d.take (n * esz) := by
        rw [Nat.succ_mul, Nat.add_comm, List.take_add, ← hl, List.take_left' rfl, List.drop_left' rfl]
      rw [e1, e2, List.drop_succ_cons, List.take_succ_cons]
      exact ⟨g1, .arr1 _ _ _ _ _ hc hl hs g2⟩
theorem sound_sslice {t e : TypeId} {esz : Nat} {x : Operand} {lo hi : Option Operand} (ho : o.op = .slice t x lo hi none) (ht : P.underlying t = some (.slice e)) (hz : szOf P e = some esz) (hx : (x :: (lo.toList ++ hi.toList)).all okO = true)
    (h : AI.go P ro s o.dst K (.rdp (.sslice esz lo.isSome hi.isSome) (x :: (lo.toList ++ hi.toList)))) (hs : SRel w0 wk regs St s a w) : o.wp P a w (fun a' w' => ∃ s', K s' ∧ SRel w0 wk regs St s' a' w') Q := by
  refine sound_rdp_of h hs fun Imm v h1 h2 h3 hv => ?_
  simp only [List.all_cons, Bool.and_eq_true] at hx
  have hX := h2.eval x (okO_sc hx.1)
  simp only [List.map_cons, rdA, rdB] at hv
  have key : ∀ (A : Option Addr) (len cap l hh : Nat), a.eval x = .slice A len cap → len ≤ cap → bnds len lo.isSome hi.isSome ((lo.toList ++ hi.toList).map fun x => s.ev x) = some (l, hh) →
      (execOp a.eval o).run P w = .ok (.value (.slice (if cap = l then A else A.map (·.add (l * esz))) (hh - l) (cap - l))) w ∧ l ≤ hh ∧ hh ≤ len := by
    intro A len cap l hh hA hlc hb
    obtain ⟨hrun, g1, g2⟩ := bnds_run (P := P) (w := w) (isS := true) hlc hx.2 h2 hb
    refine ⟨?_, g1, g2⟩
    have hk : (Instr.sliceAt t (a.eval x) (lo.map a.eval) (hi.map a.eval) none).run P w = .ok (.slice (if cap = l then A else A.map (·.add (l * esz))) (hh - l) (cap - l)) w := by
      simp only [Instr.sliceAt, Instr.slice, Sem.run_bind, run_underlying ht, Result.andThen_ok, hA]
      rw [hrun]
      simp [run_sizeOf' hz]
    simp only [execOp, ho, Option.map_none, Sem.run_bind]
    rw [hk]
    rfl
  split at hv
  · rename_i k els hxe
    split at hv <;> try (cases hv; done)
    rename_i hke
    subst hke
    obtain ⟨⟨l, hh⟩, hb, rfl⟩ := Option.map_eq_some_iff.1 hv
    rw [hxe] at hX
    rcases R.slLen hX with ⟨a0, e1, rfl⟩ | ⟨b, off, cap, cs, e1, hlc, hR, hat⟩
    · obtain ⟨hrun, g1, g2⟩ := key _ _ _ _ _ e1 (Nat.le_refl _) hb
      have hl : l = 0 := by simp at g2; omega
      have hh0 : hh = 0 := by simpa using g2
      subst hl hh0
      exact ⟨_, hrun, .inr ⟨_, .slnil _ a0, by simp [asVal]⟩⟩
    · obtain ⟨hrun, g1, g2⟩ := key _ _ _ _ _ e1 hlc hb
      have hRl := hR.len rfl
      simp only [AV.sz] at hRl
      obtain ⟨_, hR1⟩ := R_arr_drop hh hR
      obtain ⟨hR2, _⟩ := R_arr_drop l hR1
      have hlen : ((els.take hh).drop l).length = hh - l := by simp; omega
      refine ⟨_, hrun, ?_⟩
      have hA2 : At Imm w b (off + l * k) ((cs.take (hh * k)).drop (l * k)) := fun i y hy => by
        rw [List.getElem?_drop, List.getElem?_take] at hy
        split at hy <;> try (cases hy; done)
        have := hat _ _ hy
        rwa [show off + l * k + i = off + (l * k + i) by omega]
      have hb' : (if cap = l then (some (⟨b, off, none⟩ : Addr)) else (some (⟨b, off, none⟩ : Addr)).map (·.add (l * k))) = some ⟨b, if cap = l then off else off + l * k, none⟩ := by
        split
        · rfl
        · simp [add_none]
      rw [hb', ← hlen]
      by_cases hcl : cap = l
      · have hnil : (els.take hh).drop l = [] := List.eq_nil_of_length_eq_zero (by omega)
        have hR3 : R Imm w (.arr k ((els.take hh).drop l)) [] := by rw [hnil]; exact .arr0 k
        exact .inr ⟨_, .sl k _ [] b _ (cap - l) hR3 (fun i y hy => by simp at hy) (by show ((els.take hh).drop l).length ≤ cap - l; omega), rfl⟩
      · rw [if_neg hcl]
        exact .inr ⟨_, .sl k _ _ b _ (cap - l) hR2 hA2 (by show ((els.take hh).drop l).length ≤ cap - l; omega), rfl⟩
  · rename_i hxe
    obtain ⟨⟨l, hh⟩, hb, rfl⟩ := Option.map_eq_some_iff.1 hv
    rw [hxe] at hX
    obtain ⟨e1, _⟩ := hX.lit
    obtain ⟨hrun, g1, g2⟩ := key _ _ _ _ _ e1 (Nat.le_refl _) hb
    have hl : l = 0 := by omega
    have hh0 : hh = 0 := by omega
    subst hl hh0
    exact ⟨_, hrun, Rel.mkLit rfl⟩
  · cases hv
theorem sound_cap3 {t e : TypeId} {esz : Nat} {x y z : Operand} (ho : o.op = .slice t x none (some y) (some z)) (ht : P.underlying t = some (.slice e)) (hz : szOf P e = some esz) (hx : okO x = true) (hy : okO y = true) (hzz : okO z = true)
    (h : AI.go P ro s o.dst K (.rdp (.cap3 esz) [x, y, z])) (hs : SRel w0 wk regs St s a w) : o.wp P a w (fun a' w' => ∃ s', K s' ∧ SRel w0 wk regs St s' a' w') Q := by
  refine sound_rdp_of h hs fun Imm v h1 h2 h3 hv => ?_
  have hX := h2.eval x (okO_sc hx)
  have hY := h2.eval y (okO_sc hy)
  have hZ := h2.eval z (okO_sc hzz)
  have hb : ∀ (n c : Nat) (code : BoundsCode), n ≤ c → (Instr.sliceBound (.int .i64 n) c code).run P w = .ok n w := fun n c code hnc => by
    simp only [Instr.sliceBound, asIntOf, Sem.run_bind, Sem.run_pure, Result.andThen_ok]
    rw [if_pos (by omega)]
    rfl
  have hk : ∀ (A : Option Addr) (n c : Nat), a.eval x = .slice A n c → a.eval y = .int .i64 n → a.eval z = .int .i64 n → n ≤ c → (execOp a.eval o).run P w = .ok (.value (.slice (if n = 0 then A else A.map (·.add (0 * esz))) n n)) w := fun A n c e1 e2 e3 hnc => by
    have : (Instr.sliceAt t (a.eval x) none (some (a.eval y)) (some (a.eval z))).run P w = .ok (.slice (if n = 0 then A else A.map (·.add (0 * esz))) n n) w := by
      simp only [Instr.sliceAt, Instr.slice, Instr.sliceBounds, Sem.run_bind, run_underlying ht, Result.andThen_ok, e1, e2, e3]
      rw [hb n c _ hnc]
      simp [hb n n _ (Nat.le_refl n), run_sizeOf' hz]
    simp only [execOp, ho, Option.map_none, Option.map_some, Sem.run_bind]
    rw [this]
    rfl
  simp only [List.map_cons, List.map_nil, rdA, rdB] at hv
  split at hv <;> try (cases hv; done)
  · rename_i X Y Z b g o' n c hh m hxe hye hze
    split at hv <;> try (cases hv; done)
    rename_i hc
    obtain ⟨rfl, rfl, hnc⟩ := hc
    cases hv
    rw [hxe] at hX
    rw [hye] at hY
    rw [hze] at hZ
    have e1 : a.eval x = .slice (some ⟨g, o', none⟩) n c := by
      rcases hX with hX | ⟨cs, hX, eX⟩
      · cases hX
      · cases hX; exact eX
    refine ⟨_, hk _ n c e1 hY.lit.1 hZ.lit.1 hnc, .inr ⟨_, .view _ _ _ _ _ _ _ _, ?_⟩⟩
    have : (if n = 0 then (some (⟨g, o', none⟩ : Addr)) else (some (⟨g, o', none⟩ : Addr)).map (·.add (0 * esz))) = some ⟨g, o' + 0, none⟩ := by
      split
      · rfl
      · simp [add_none]
    rw [this]
    rfl
  · rename_i X Y Z b hh m hxe hye hze
    split at hv <;> try (cases hv; done)
    rename_i hc
    obtain ⟨rfl, rfl⟩ := hc
    cases hv
    rw [hxe] at hX
    rw [hye] at hY
    rw [hze] at hZ
    have e1 : a.eval x = .slice none 0 0 := by
      rcases hX with hX | ⟨cs, hX, eX⟩
      · cases hX
      · cases hX; exact eX
    exact ⟨_, hk _ 0 0 e1 hY.lit.1 hZ.lit.1 (Nat.le_refl _), Rel.mkLit rfl⟩
theorem listB_sound {blk : Nat → Option Blk} {esz : Nat} {v : AV} {V : Value} {els : List AV} (hb : ∀ b x, blk b = some x → s.blk b = some x) (h3 : HeapOk w0 regs Imm s.hp w) (h1 : ∀ b o, Imm b o → (w.cell? ⟨b, o, none⟩).isSome = true) (hl : listB blk esz v = some els) (hv : Rel Imm w v V) :
    ∃ cs, R Imm w (.arr esz els) cs ∧ cs.length = els.length * esz ∧ (∀ y ∈ cs, sc y = true) ∧ ((∃ sb : ByteArray, v = .lit (.string sb) ∧ V = .string sb ∧ esz = 1 ∧ cs = sb.data.toList.map fun x => Value.int .u8 x.toNat) ∨ (els = [] ∧ ∃ a0, V = .slice a0 0 0) ∨ ∃ b o c, V = .slice (some ⟨b, o, none⟩) els.length c ∧ ∀ j u, cs[j]? = some u → w.cell? ⟨b, o + j, none⟩ = some u) := by
  have fin : ∀ {cs : List Value}, R Imm w (.arr esz els) cs → cs.length = els.length * esz ∧ ∀ y ∈ cs, sc y = true := fun {cs} hR => ⟨by have := hR.len rfl; simpa [AV.sz] using this, hR.scs rfl⟩
  unfold listB at hl
  split at hl
  · cases hl
    obtain ⟨e, _⟩ := hv.lit
    exact ⟨[], .arr0 _, by simp, by simp, .inr (.inl ⟨rfl, none, e⟩)⟩
  · rename_i sb
    split at hl <;> try (cases hl; done)
    rename_i he
    subst he
    cases hl
    obtain ⟨e, _⟩ := hv.lit
    have hR : ∀ l : List UInt8, R Imm w (.arr 1 (l.map fun x => AV.lit (.int .u8 x.toNat))) (l.map fun x => Value.int .u8 x.toNat) := by
      intro l
      induction l with
      | nil => exact .arr0 1
      | cons x l ih => exact .arr1 1 _ _ [_] _ (.lit _ rfl) rfl (by simp [sc]) ih
    obtain ⟨g1, g2⟩ := fin (hR _)
    exact ⟨_, hR _, g1, g2, .inl ⟨sb, rfl, e, rfl, rfl⟩⟩
  · split at hl <;> try (cases hl; done)
    rename_i he
    subst he
    cases hl
    rcases R.slLen hv with ⟨a0, e1, rfl⟩ | ⟨b, off, cap, cs, e1, _, hR, hat⟩
    · exact ⟨[], .arr0 _, by simp, by simp, .inr (.inl ⟨rfl, a0, e1⟩)⟩
    · obtain ⟨g1, g2⟩ := fin hR
      exact ⟨cs, hR, g1, g2, .inr (.inr ⟨b, off, cap, e1, fun j u hu => (hat j u hu).1⟩)⟩
  · rename_i b V0
    split at hl <;> try (cases hl; done)
    rename_i e' V' k els' sl hblk
    split at hl <;> try (cases hl; done)
    rename_i hc
    obtain ⟨rfl, rfl⟩ := hc
    cases hl
    obtain ⟨hok, _⟩ := h3.ok _ _ (hb _ _ hblk)
    obtain ⟨cs, hR, hown, hsc, hsl, hm⟩ := hok
    obtain ⟨g1, g2⟩ := fin hR
    rcases hv with hv | ⟨cs', hv, e⟩
    · cases hv
    cases hv
    have eV : V = V' := e
    rcases hown.2 with ⟨rfl, hn⟩ | ⟨g, cap, cur, rfl, _, hg, hnc, hcm, hcs, htake⟩
    · have : els = [] := List.eq_nil_of_length_eq_zero hn
      exact ⟨cs, hR, g1, g2, .inr (.inl ⟨this, _, eV⟩)⟩
    · refine ⟨cs, hR, g1, g2, .inr (.inr ⟨g, 0, cap, eV, fun j u hu => ?_⟩)⟩
      rw [Nat.zero_add, cell_of_row w g j cur e' (0, 0) hg]
      rw [← htake, List.getElem?_take] at hu
      split at hu
      · simpa using hu
      · cases hu
  · rename_i b l off p k lo len cap
    split at hl <;> try (cases hl; done)
    rename_i he
    subst he
    split at hl <;> try (cases hl; done)
    rename_i x hblk
    split at hl <;> try (cases hl; done)
    rename_i hloc
    split at hl <;> try (cases hl; done)
    rename_i o m k' els' hnav
    split at hl <;> try (cases hl; done)
    rename_i hc
    obtain ⟨rfl, rfl, hle⟩ := hc
    cases hl
    obtain ⟨hok, _⟩ := h3.ok _ _ (hb _ _ hblk)
    obtain ⟨cs, hcR, hcl, hcs, hcell⟩ := hok.cells
    obtain ⟨pre, c, post, e, ho, hcm, huR, hus, _⟩ := R.nav p _ 0 _ o m _ cs hcR hcs hcl hnav
    obtain ⟨hR1, _⟩ := R_arr_drop lo huR
    obtain ⟨_, hR2⟩ := R_arr_drop len hR1
    obtain ⟨g1, g2⟩ := fin hR2
    have hlen : ((els'.drop lo).take len).length = len := by simp; omega
    rcases hv with hv | ⟨cs', hv, eV⟩
    · cases hv
    cases hv
    refine ⟨_, hR2, g1, g2, .inr (.inr ⟨l.1, l.2 + (o + lo * k'), cap, by rw [hlen]; exact eV, fun j u hu => ?_⟩)⟩
    rw [List.getElem?_take] at hu
    split at hu <;> try (cases hu; done)
    rw [List.getElem?_drop] at hu
    have h6 : cs[pre.length + (lo * k' + j)]? = some u := by
      rw [e, List.append_assoc, List.getElem?_append_right (by omega), Nat.add_sub_cancel_left, List.getElem?_append_left (List.getElem?_eq_some_iff.1 hu).1]
      exact hu
    have h7 := hcell _ _ h6
    rw [hloc] at h7
    rwa [show l.2 + (o + lo * k') + j = l.2 + (pre.length + (lo * k' + j)) by omega]
  · cases hl
theorem sound_b2sv {t d e : TypeId} {x : Operand} (ho : o.op = .convert t d x) (ht : P.underlying t = some (.slice e)) (he : P.underlying e = some (.int .u8)) (hd : P.underlying d = some .string) (hx : okO x = true)
    (h : AI.go P ro s o.dst K (.rd .b2sv [x])) (hs : SRel w0 wk regs St s a w) : o.wp P a w (fun a' w' => ∃ s', K s' ∧ SRel w0 wk regs St s' a' w') Q := by
  refine sound_rd_of h hs fun Imm v h1 h2 h3 hv => ?_
  have hX := h2.eval x (okO_sc hx)
  simp only [List.map_cons, List.map_nil, rdA, rdB] at hv
  split at hv <;> try (cases hv; done)
  rename_i hlit
  obtain ⟨els, hl, hv⟩ := Option.bind_eq_some_iff.1 hv
  obtain ⟨ns, hn, rfl⟩ := Option.map_eq_some_iff.1 hv
  obtain ⟨cs, hR, hlen, hsc, hval⟩ := listB_sound (w0 := w0) (regs := regs) (s := s) (fun b y hb => by split at hb <;> first | exact hb | cases hb) h3 h1.there hl hX
  obtain ⟨hcs, hnl⟩ := bytes_cells hn hR
  have fin : ∀ A c, a.eval x = .slice A els.length c → (∀ b, A = some b → (loadCells b els.length).run P w = .ok (ns.map (Value.int .u8)).toArray w) → (A = none → ns = []) →
      ∃ V, (execOp a.eval o).run P w = .ok (.value V) w ∧ Rel Imm w (.lit (strOf ns)) V := fun A c eA hload hnone => by
    refine ⟨strOf ns, ?_, Rel.mkLit rfl⟩
    have : (convert t d (a.eval x)).run P w = .ok (strOf ns) w := by
      rw [eA, run_convert_bytes_string w t d e _ _ _ ht he hd]
      cases A with
      | none => rw [hnone rfl]; simp [Conv.bytesToString, strOf]
      | some b => rw [run_bytesToString w _ _ _ ns (hload b rfl)]; rfl
    simp [execOp, ho, this]
  rcases hval with ⟨sb, eL, _, _, _⟩ | ⟨hnil, a0, eV⟩ | ⟨b, o', c, eV, hcell⟩
  · rw [eL] at hlit; simp [AV.isLit] at hlit
  · subst hnil
    have hn0 : ns = [] := by simpa using hnl.symm
    subst hn0
    exact fin a0 0 eV (fun b _ => run_loadCells_list (P := P) w b [] (fun j y hj => by simp at hj)) (fun _ => rfl)
  · refine fin (some ⟨b, o', none⟩) c eV (fun b' hb => ?_) (fun h => by cases h)
    cases hb
    have := run_loadCells_list (P := P) w ⟨b, o', none⟩ cs (fun j y hj => by rw [add_none]; exact hcell j y hj)
    rw [hcs] at this
    rwa [List.length_map, ← hnl] at this
theorem lookS_find {t : ByteArray} : ∀ (es : List (Value × Value × Nat)) (i : Nat) (r : Option (Nat × Value × Nat)), lookS t es i = some r →
    Instr.findNow .string (.string t) (es.map fun e => (⟨e.1, e.2.1, e.2.2⟩ : MapEntry)) i = some (r.map fun x => (x.1, x.2.1)) ∧ (∀ x, r = some x → i ≤ x.1 ∧ es[x.1 - i]? = some (.string t, x.2.1, x.2.2))
  | [], i, r, h => by simp only [lookS, Option.some.injEq] at h; subst h; exact ⟨rfl, by simp⟩
  | (k, v, n) :: es, i, r, h => by
    cases k <;> try (simp [lookS] at h; done)
    rename_i u
    simp only [lookS] at h
    simp only [List.map_cons, Instr.findNow, Instr.sameNow]
    by_cases he : t == u
    · rw [if_pos he] at h
      simp only [Option.some.injEq] at h
      subst h
      have : t = u := (MapKept.bytes_beq t u).1 he
      subst this
      exact ⟨by rw [he]; rfl, fun x hx => by cases hx; simp⟩
    · rw [if_neg he] at h
      obtain ⟨g1, g2⟩ := lookS_find es (i + 1) r h
      have hf : (t == u) = false := by simpa using he
      refine ⟨by simp only [hf]; exact g1, fun x hx => ?_⟩
      obtain ⟨g3, g4⟩ := g2 x hx
      refine ⟨by omega, ?_⟩
      rw [show x.1 - i = (x.1 - (i + 1)) + 1 by omega]
      exact g4
theorem sound_lookup {t kt et : TypeId} {x i : Operand} {inf : TypeInfo} {zero : Value} (ho : o.op = .lookup t x i true) (ht : P.underlying t = some (.map kt et)) (hk : P.underlying kt = some .string) (hi : P.info? et = some inf) (hz : inf.zero = some zero) (hsz : sc zero = true) (hx : okO x = true) (hix : okO i = true)
    (h : AI.go P ro s o.dst K (.rd (.lookup zero) [x, i])) (hs : SRel w0 wk regs St s a w) : o.wp P a w (fun a' w' => ∃ s', K s' ∧ SRel w0 wk regs St s' a' w') Q := by
  refine sound_rd_of h hs fun Imm v h1 h2 h3 hv => ?_
  have hX := h2.eval x (okO_sc hx)
  have hI := h2.eval i (okO_sc hix)
  simp only [List.map_cons, List.map_nil] at hv
  replace hv : lookA (fun b => if ro b = true then s.blk b else none) zero (s.ev x) (s.ev i) = some v := hv
  generalize s.ev x = X at *
  generalize s.ev i = I at *
  unfold lookA at hv
  split at hv <;> try (cases hv; done)
  rename_i key
  split at hv <;> try (cases hv; done)
  rename_i b V
  split at hv <;> try (cases hv; done)
  rename_i r es clock hb
  split at hv <;> try (cases hv; done)
  rename_i hV
  subst hV
  have hb' : s.blk b = some (.map r es clock) := by
    simp only at hb
    split at hb <;> first | exact hb | cases hb
  obtain ⟨hok, _⟩ := h3.ok _ _ hb'
  obtain ⟨⟨hg, hent, _⟩, _⟩ := hok
  obtain ⟨eI, _⟩ := hI.lit
  have eX : a.eval x = .map (some r) := by
    rcases hX with hX | ⟨cs, hX, e⟩
    · cases hX
    · cases hX; exact e
  have hkey : MapKept.IsKey .string (.string key) := trivial
  have hck : ∀ e, (Instr.checkKey e 10000 kt (.string key)).run P w = .ok () w := fun e => MapKept.run_checkKey hk hkey _ _
  split at hv
  · rename_i j v' n hlk
    cases hv
    obtain ⟨g1, g2⟩ := lookS_find _ _ _ hlk
    have hf := MapKept.run_findKey (P := P) (w := w) hk g1
    obtain ⟨_, g4⟩ := g2 _ rfl
    have hsv : sc v' = true := (hent _ (List.mem_of_getElem? g4)).2.2
    refine ⟨.tuple #[v', .bool true], ?_, .inr ⟨_, .tup1 _ _ _ _ (.lit _ hsv) (.tup1 _ _ _ _ (.lit _ rfl) .tup0), by simp [asVal]⟩⟩
    simp [execOp, ho, eX, eI, Instr.lookup, run_underlying ht, MapKept.run_getObj_map hg, hck, hf]
  · rename_i hlk
    cases hv
    obtain ⟨g1, _⟩ := lookS_find _ _ _ hlk
    have hf := MapKept.run_findKey (P := P) (w := w) hk g1
    refine ⟨.tuple #[zero, .bool false], ?_, .inr ⟨_, .tup1 _ _ _ _ (.lit _ hsz) (.tup1 _ _ _ _ (.lit _ rfl) .tup0), by simp [asVal]⟩⟩
    simp [execOp, ho, eX, eI, Instr.lookup, run_underlying ht, MapKept.run_getObj_map hg, hck, hf, zeroValue, typeInfo, hi, hz]
  · cases hv
end
end Go.Cab
namespace Go.Cab
open Go.RowKit
open Classical
section
variable {P : Program} {w0 wk : World} {regs : List (Nat × Nat × Nat)} {St Imm : Nat → Nat → Prop} {s : AS} {a : Act} {w : World} {o : Oper} {K : AS → Prop} {Q : Exit → Act → World → Prop} {ro : Nat → Bool}
def setMap (w : World) (r : Nat) (es : List (Value × Value × Nat)) (clock : Nat) : World := { w with heap := w.heap.setIfInBounds r (.map (es.map fun e => ⟨e.1, e.2.1, e.2.2⟩).toArray clock) }
theorem SRel.setMap (hs : SRel w0 wk regs St s a w) (h1 : ImmOk w0 wk St Imm w) (h2 : TmOk Imm w s.tm a.tmps) (h3 : HeapOk w0 regs Imm s.hp w) {b r : Nat} {es es' : List (Value × Value × Nat)} {clock clock' : Nat} (hb : (s.hp[b]?).join = some (.map r es clock))
    (hes : ∀ e ∈ es', e.2.2 < clock' ∧ sc e.1 = true ∧ sc e.2.1 = true) (hp : es'.Pairwise fun a b => a.2.2 ≠ b.2.2) {dst : Option Tmp} {v : AV} {V : Value} (hv : dst = none ∨ Rel Imm (setMap w r es' clock') v V) :
    SRel w0 wk regs St { s.put dst v with hp := s.hp.set b (some (.map r es' clock')) } (a.put dst V) (Cab.setMap w r es' clock') := by
  obtain ⟨hok, hfoot⟩ := h3.ok _ _ hb
  obtain ⟨⟨hg, _⟩, hI⟩ := hok
  have hlt : r < w.heap.size := (Array.getElem?_eq_some_iff.1 hg).1
  have hoth : ∀ k, k ≠ r → (Cab.setMap w r es' clock').heap[k]? = w.heap[k]? := fun k hk => by
    show (w.heap.setIfInBounds r _)[k]? = _
    rw [Array.getElem?_setIfInBounds, if_neg (Ne.symm hk)]
  have hself : (Cab.setMap w r es' clock').heap[r]? = some (.map (es'.map fun e => (⟨e.1, e.2.1, e.2.2⟩ : MapEntry)).toArray clock') := by
    show (w.heap.setIfInBounds r _)[r]? = _
    rw [Array.getElem?_setIfInBounds, if_pos rfl, if_pos hlt]
  have hcell : ∀ k o, k ≠ r → (Cab.setMap w r es' clock').cell? ⟨k, o, none⟩ = w.cell? ⟨k, o, none⟩ := fun k o hk => by
    simp only [World.cell?, hoth k hk]
  have hfro : ∀ k o, (Cab.setMap w r es' clock').frozen? ⟨k, o, none⟩ = w.frozen? ⟨k, o, none⟩ := fun k o => by
    by_cases hk : k = r
    · subst hk; simp only [World.frozen?, hself, hg]
    · simp only [World.frozen?, hoth k hk]
  have hImm : ∀ b o, Imm b o → (Cab.setMap w r es' clock').cell? ⟨b, o, none⟩ = w.cell? ⟨b, o, none⟩ := fun b o hb => hcell b o (fun he => hI o (he ▸ hb))
  have hsize : (Cab.setMap w r es' clock').heap.size = w.heap.size := by simp [Cab.setMap]
  have hreg : r < w0.heap.size → ∀ o, inReg regs r o := fun h o => (hfoot r o rfl).2.resolve_left (by omega)
  have hfr : Fr regs w0 (Cab.setMap w r es' clock') := by
    refine ⟨hs.frame.os, hs.frame.tape, hs.frame.output, by rw [hsize]; exact hs.frame.size, fun k hk hr => ?_, fun b o hlb hn => ?_, fun b o hlb => by rw [hfro]; exact hs.frame.frozen b o hlb⟩
    · rw [hoth k (fun he => ?_)]
      · exact hs.frame.block k hk hr
      · subst he
        obtain ⟨q, hq, e, _⟩ := hreg hk 0
        exact hr q hq e.symm
    · rw [hcell b o (fun he => ?_)]
      · exact hs.frame.cell b o hlb hn
      · subst he; exact hn (hreg hlb o)
  refine ⟨by rw [aput_defers]; exact hs.defers, by rw [aput_size, put_len]; exact hs.tsize, hs.tab, hfr, Imm, ⟨h1.sub, h1.old, fun b o hb => by rw [hImm b o hb]; exact h1.there b o hb, fun b o hb => by rw [hImm b o (h1.sub b o hb)]; exact h1.val b o hb⟩, h2.put hs.tsize (fun _ _ h => h) hImm hv, ⟨fun k x hx => ?_, fun k k' x y hne hx hy => ?_⟩⟩
  · rcases hp_set hx with ⟨rfl, rfl⟩ | ⟨hkb, hx'⟩
    · refine ⟨⟨⟨hself, hes, hp⟩, hI⟩, fun b' o hf => ?_⟩
      have hf' : b' = r := hf
      subst hf'
      rw [hsize]
      exact hfoot b' o rfl
    · obtain ⟨hxo, hxf⟩ := h3.ok k x hx'
      have hne : ∀ b' o, x.foot b' o → b' ≠ r := fun b' o hf he => by
        subst he
        exact h3.apart k b x _ hkb hx' hb b' o hf rfl
      refine ⟨hxo.keep (fun _ _ h => h) hImm (fun _ _ _ h => h) (fun b' o hf => hcell b' o (hne b' o hf)) (fun b' o _ => hfro b' o) (fun b' hw => hoth b' (hne b' 0 (Blk.whole_foot hw 0))), fun b' o hf => by rw [hsize]; exact hxf b' o hf⟩
  · intro b' o hf hf'
    rcases hp_set hx with ⟨rfl, rfl⟩ | ⟨hkb, hx'⟩
    · rcases hp_set hy with ⟨rfl, rfl⟩ | ⟨hkb', hy'⟩
      · exact hne rfl
      · exact h3.apart k k' _ y hne hb hy' b' o (show Blk.foot (.map r es clock) b' o from hf) hf'
    · rcases hp_set hy with ⟨rfl, rfl⟩ | ⟨hkb', hy'⟩
      · exact h3.apart k k' x _ hne hx' hb b' o hf (show Blk.foot (.map r es clock) b' o from hf')
      · exact h3.apart k k' x y hne hx' hy' b' o hf hf'
theorem own_map {b : Nat} {V U : Value} (hX : Rel Imm w (.own b V) U) : U = V := by
  rcases hX with hX | ⟨cs, hX, e⟩
  · cases hX
  · cases hX; exact e
theorem setMap_self {r : Nat} {es : List (Value × Value × Nat)} {clock : Nat} (hg : w.heap[r]? = some (.map (es.map fun e => (⟨e.1, e.2.1, e.2.2⟩ : MapEntry)).toArray clock)) : setMap w r es clock = w := by
  unfold setMap
  have : w.heap.setIfInBounds r (.map (es.map fun e => (⟨e.1, e.2.1, e.2.2⟩ : MapEntry)).toArray clock) = w.heap := by
    apply Array.ext_getElem?
    intro k
    rw [Array.getElem?_setIfInBounds]
    split
    · rename_i hk
      subst hk
      split
      · exact hg.symm
      · rename_i h; rw [Array.getElem?_eq_none (by omega)]
    · rfl
  rw [this]
theorem sound_mapEntry {t kt et : TypeId} {x i : Operand} {inf : TypeInfo} {zero : Value} (ho : o.op = .mapEntry t x i) (ht : P.underlying t = some (.map kt et)) (hk : P.underlying kt = some .string) (hi : P.info? et = some inf) (hz : inf.zero = some zero) (hsz : sc zero = true) (hx : okO x = true) (hix : okO i = true)
    (h : AI.go P ro s o.dst K (.ef (.mapEntry zero) [x, i])) (hs : SRel w0 wk regs St s a w) : o.wp P a w (fun a' w' => ∃ s', K s' ∧ SRel w0 wk regs St s' a' w') Q := by
  obtain ⟨Imm, h1, h2, h3⟩ := hs.ex
  have hX := h2.eval x (okO_sc hx)
  have hI := h2.eval i (okO_sc hix)
  simp only [AI.go] at h
  obtain ⟨r0, hp', hv, hK⟩ := h undef
  replace hv : entryA s.hp zero (s.ev x) (s.ev i) = some (r0, hp') := hv
  generalize s.ev x = X at *
  generalize s.ev i = I at *
  unfold entryA at hv
  split at hv <;> try (cases hv; done)
  rename_i key
  split at hv <;> try (cases hv; done)
  rename_i b V
  split at hv <;> try (cases hv; done)
  rename_i r es clock hb
  split at hv <;> try (cases hv; done)
  rename_i hV
  subst hV
  obtain ⟨hok, _⟩ := h3.ok _ _ hb
  obtain ⟨⟨hg, hent, hpw⟩, _⟩ := hok
  obtain ⟨eI, _⟩ := hI.lit
  have eX : a.eval x = .map (some r) := own_map hX
  have hkey : MapKept.IsKey .string (.string key) := trivial
  have hck : ∀ e, (Instr.checkKey e 10000 kt (.string key)).run P w = .ok () w := fun e => MapKept.run_checkKey hk hkey _ _
  split at hv
  · rename_i j v' n hlk
    cases hv
    obtain ⟨g1, g2⟩ := lookS_find _ _ _ hlk
    have hf := MapKept.run_findKey (P := P) (w := w) hk g1
    obtain ⟨_, g4⟩ := g2 _ rfl
    simp only [Nat.sub_zero] at g4
    have hsv : sc v' = true := (hent _ (List.mem_of_getElem? g4)).2.2
    have hstay := MapKept.run_keyThatStays (P := P) (w := w) hkey
    have hset := MapKept.run_setObj_map (P := P) (.map (es.map fun e => (⟨e.1, e.2.1, e.2.2⟩ : MapEntry)).toArray clock) hg
    have hself := setMap_self hg
    unfold setMap at hself
    rw [hself] at hset
    have hmod : ((es.map fun e => (⟨e.1, e.2.1, e.2.2⟩ : MapEntry)).modify j fun e => { e with key := .string key }) = (es.map fun e => (⟨e.1, e.2.1, e.2.2⟩ : MapEntry)) := by
      apply List.ext_getElem?
      intro k
      rw [List.getElem?_modify]
      by_cases hjk : j = k
      · subst hjk
        simp [g4]
      · simp [hjk]
    have hput := hs.put0 (dst := o.dst) (v := .tup [.lit v', .lit (.int .i64 n)]) (V := .tuple #[v', .int .i64 n]) h1 h2 h3 (.inr ⟨_, .tup1 _ _ _ _ (.lit _ hsv) (.tup1 _ _ _ _ (.lit _ rfl) .tup0), by simp [asVal]⟩)
    refine upon_of_run (V := .tuple #[v', .int .i64 n]) (w' := w) ?_ ⟨_, hK, ?_⟩
    · simp [execOp, ho, eX, eI, Instr.mapEntry, run_underlying ht, MapKept.run_getObj_map hg, hck, hf, g4, hstay, hmod, hset, goInt]
    · have : ({ s.put o.dst (.tup [.lit v', .lit (.int .i64 n)]) with hp := s.hp } : AS) = s.put o.dst (.tup [.lit v', .lit (.int .i64 n)]) := by cases o.dst <;> rfl
      rw [this]; exact hput
  · rename_i hlk
    cases hv
    obtain ⟨g1, _⟩ := lookS_find _ _ _ hlk
    have hf := MapKept.run_findKey (P := P) (w := w) hk g1
    have hset := MapKept.run_setObj_map (P := P) (.map ((es ++ [(Value.string key, zero, clock)]).map fun e => (⟨e.1, e.2.1, e.2.2⟩ : MapEntry)).toArray (clock + 1)) hg
    have hput := SRel.setMap (dst := o.dst) (es' := es ++ [(Value.string key, zero, clock)]) (clock' := clock + 1) (v := .tup [.lit zero, .lit (.int .i64 clock)]) (V := .tuple #[zero, .int .i64 clock]) hs h1 h2 h3 hb (fun e he => by
      rcases List.mem_append.1 he with he | he
      · obtain ⟨q1, q2, q3⟩ := hent e he
        exact ⟨by omega, q2, q3⟩
      · simp only [List.mem_singleton] at he
        subst he
        exact ⟨by simp, rfl, hsz⟩) (List.pairwise_append.2 ⟨hpw, by simp, fun e he e' he' => by
        simp only [List.mem_singleton] at he'
        subst he'
        have := (hent e he).1
        simp only; omega⟩) (.inr (.inr ⟨_, .tup1 _ _ _ _ (.lit _ hsz) (.tup1 _ _ _ _ (.lit _ rfl) .tup0), by simp [asVal]⟩))
    refine upon_of_run (V := .tuple #[zero, .int .i64 clock]) (w' := setMap w r (es ++ [(Value.string key, zero, clock)]) (clock + 1)) ?_ ⟨_, hK, hput⟩
    have hpush : (es.map fun e => (⟨e.1, e.2.1, e.2.2⟩ : MapEntry)).toArray.push ⟨.string key, zero, clock⟩ = ((es ++ [(Value.string key, zero, clock)]).map fun e => (⟨e.1, e.2.1, e.2.2⟩ : MapEntry)).toArray := by simp
    simp [execOp, ho, eX, eI, Instr.mapEntry, run_underlying ht, MapKept.run_getObj_map hg, hck, hf, zeroValue, typeInfo, hi, hz, goInt]
    simp at hset
    rw [hset]
    simp [setMap]
  · cases hv
theorem sound_entryStore {t : TypeId} {x st v : Operand} (ho : o.op = .entryStore t x st v) (hx : okO x = true) (hst : okO st = true) (hvo : okO v = true)
    (h : AI.go P ro s o.dst K (.ef .entryStore [x, st, v])) (hs : SRel w0 wk regs St s a w) : o.wp P a w (fun a' w' => ∃ s', K s' ∧ SRel w0 wk regs St s' a' w') Q := by
  obtain ⟨Imm, h1, h2, h3⟩ := hs.ex
  have hX := h2.eval x (okO_sc hx)
  have hS := h2.eval st (okO_sc hst)
  have hV := h2.eval v (okO_sc hvo)
  simp only [AI.go] at h
  obtain ⟨r0, hp', hv, hK⟩ := h undef
  replace hv : stampA s.hp (s.ev x) (s.ev st) (s.ev v) = some (r0, hp') := hv
  generalize s.ev x = X at *
  generalize s.ev st = T at *
  generalize s.ev v = U at *
  unfold stampA at hv
  split at hv <;> try (cases hv; done)
  rename_i kk n
  split at hv <;> try (cases hv; done)
  rename_i val
  split at hv <;> try (cases hv; done)
  rename_i b W
  split at hv <;> try (cases hv; done)
  rename_i r es clock hb
  split at hv <;> try (cases hv; done)
  rename_i hc
  obtain ⟨rfl, hsv, hany⟩ := hc
  cases hv
  obtain ⟨hok, _⟩ := h3.ok _ _ hb
  obtain ⟨⟨hg, hent, hpw⟩, _⟩ := hok
  obtain ⟨eS, _⟩ := hS.lit
  obtain ⟨eV, _⟩ := hV.lit
  have eX : a.eval x = .map (some r) := own_map hX
  generalize hes' : (es.map fun e => if (e.2.2 : Int) = n then (e.1, val, e.2.2) else e) = es' at *
  have hput := SRel.setMap (dst := o.dst) (es' := es') (clock' := clock) (v := .any) (V := undef) hs h1 h2 h3 hb (fun e he => by
      rw [← hes'] at he
      obtain ⟨e0, he0, rfl⟩ := List.mem_map.1 he
      obtain ⟨q1, q2, q3⟩ := hent e0 he0
      split
      · exact ⟨q1, q2, hsv⟩
      · exact ⟨q1, q2, q3⟩) (by
      rw [← hes', List.pairwise_map]
      refine hpw.imp fun {p q} hpq => ?_
      split <;> split <;> exact hpq) (.inr (.inl rfl))
  refine upon_of_skip (w' := setMap w r es' clock) ?_ ⟨_, hK, hput⟩
  have hfind : ∃ j, (es.map fun e => (⟨e.1, e.2.1, e.2.2⟩ : MapEntry)).toArray.findIdx? (fun e => (e.born : Int) == n) = some j ∧
      ((es.map fun e => (⟨e.1, e.2.1, e.2.2⟩ : MapEntry)).toArray.modify j fun e => { e with val := val }) = (es'.map fun e => (⟨e.1, e.2.1, e.2.2⟩ : MapEntry)).toArray := by
    obtain ⟨e0, he0, hn0⟩ := List.any_eq_true.1 hany
    have hsome : ((es.map fun e => (⟨e.1, e.2.1, e.2.2⟩ : MapEntry)).toArray.findIdx? (fun e => (e.born : Int) == n)).isSome = true := by
      rw [Array.findIdx?_isSome]
      simp only [List.size_toArray, List.any_toArray', List.any_map]
      exact List.any_eq_true.2 ⟨e0, he0, hn0⟩
    obtain ⟨j, hj⟩ := Option.isSome_iff_exists.1 hsome
    refine ⟨j, hj, ?_⟩
    rw [Array.findIdx?_eq_some_iff_getElem] at hj
    obtain ⟨hjl, hjp, _⟩ := hj
    simp only [List.getElem_toArray, List.getElem_map] at hjp
    have hjl' : j < es.length := by simpa using hjl
    apply Array.ext_getElem?
    intro k
    rw [Array.getElem?_modify]
    simp only [List.getElem?_toArray, List.getElem?_map, ← hes']
    by_cases hjk : j = k
    · subst hjk
      have hn1 : ((es[j].2.2 : Nat) : Int) = n := by simpa using hjp
      simp [hjl', hn1]
    · rw [if_neg hjk]
      cases hk : es[k]? with
      | none => simp
      | some ek =>
        have hkl : k < es.length := (List.getElem?_eq_some_iff.1 hk).1
        have hek : es[k] = ek := (List.getElem?_eq_some_iff.1 hk).2
        have hne : ¬ ((ek.2.2 : Nat) : Int) = n := fun h => by
          have hn1 : ((es[j].2.2 : Nat) : Int) = n := by simpa using hjp
          have hd : es[j].2.2 ≠ es[k].2.2 := by
            rcases Nat.lt_or_gt_of_ne hjk with hlt | hlt
            · exact List.pairwise_iff_getElem.1 hpw j k hjl' hkl hlt
            · exact (List.pairwise_iff_getElem.1 hpw k j hkl hjl' hlt).symm
          rw [hek] at hd
          omega
        simp [hne]
  obtain ⟨j, hj, hmod⟩ := hfind
  have hset := MapKept.run_setObj_map (P := P) (.map (es'.map fun e => (⟨e.1, e.2.1, e.2.2⟩ : MapEntry)).toArray clock) hg
  simp only [execOp, ho, eX, eS, eV, Instr.entryStore, Sem.run_bind, MapKept.run_getObj_map hg, Result.andThen_ok, asInt, asIntOf, Sem.run_pure, hj, hmod, hset]
  rfl
theorem run_appendS (base : Nat) (t u ty e : TypeId) (i : TypeInfo) (z : Value) (ht : P.underlying t = some (.slice e)) (hu : P.underlying u = some .string) (hi : P.info? e = some i) (hz : i.zero = some z)
    (hsize : i.size = 1) (bytes : Nat) (hby : i.bytes = bytes) (hzs : z.cells.size = 1)
    (v : Value) (n : Nat) (xs : List Value) (hown : w.ownsRow base e 1 v n xs) (hv : sc v = true) (sb : ByteArray)
    (h63 : n + sb.size ≤ maxLen) (hbytes : (n + sb.size) * bytes ≤ 140737488355328) (hbase : base ≤ w.heap.size) :
    ∃ v' w', (Builtin.append_ #[t, u] ty #[v, .string sb]).run P w = .ok v' w' ∧ Appended w w' base e 1 v v' n (n + sb.size) (xs ++ Lib.strCells sb) := by
  subst hby
  have hsmall : n + sb.size ≤ 9223372036854775807 := by simp only [maxLen] at h63; omega
  have hxl : xs.length = n := by simpa using hown.1
  have hnl := Lib.strCells_length sb
  have hlen : (xs ++ Lib.strCells sb).length = (n + sb.size) * 1 := by rw [List.length_append, hxl, hnl, Nat.mul_one]
  have grown : ∀ (old : Nat), Appended w (w.drew.alloc (.cells (xs.toArray ++ (Lib.strCells sb).toArray ++ Builtin.zeroCells z.cells (grownCap w (n + sb.size) old e - (n + sb.size))) e)) base e 1 v
      (.slice (some ⟨w.heap.size, 0, none⟩) (n + sb.size) (grownCap w (n + sb.size) old e)) n (n + sb.size) (xs ++ Lib.strCells sb) := by
    intro old
    have hge := grownCap_ge w (n + sb.size) old e
    have hcm : grownCap w (n + sb.size) old e ≤ maxLen := grownCap_le_maxLen w (n + sb.size) old e h63
    have := Appended.alloc (w := w) (base := base) (e := e) (size := 1) (k := n + sb.size) (n := n) (v := v) (cap := grownCap w (n + sb.size) old e) (xs := xs ++ Lib.strCells sb)
      (rest := (Builtin.zeroCells z.cells (grownCap w (n + sb.size) old e - (n + sb.size))).toList) hlen (by
        rw [List.length_append, hlen, Array.length_toList, size_zeroCells, hzs, ← Nat.add_mul]; congr 1; omega) hge hcm hbase
    have e1 : (xs.toArray ++ (Lib.strCells sb).toArray ++ Builtin.zeroCells z.cells (grownCap w (n + sb.size) old e - (n + sb.size))) = (xs ++ Lib.strCells sb ++ (Builtin.zeroCells z.cells (grownCap w (n + sb.size) old e - (n + sb.size))).toList).toArray := by
      apply Array.ext'; simp
    rw [e1]; exact this
  rcases hown.2 with ⟨rfl, rfl⟩ | ⟨g, cap, cur, rfl, hbg, hg, hnc, hcm, hcs, htake⟩
  · have hx : xs = [] := List.eq_nil_of_length_eq_zero hxl
    subst hx
    by_cases hm : sb.size = 0
    · have hn : Lib.strCells sb = [] := List.eq_nil_of_length_eq_zero (by rw [hnl, hm])
      rw [hn, hm]
      refine ⟨.slice none 0 0, w, ?_, ⟨World.ownsRow_nil w base e 1, rfl, rfl, rfl, Nat.le_refl _, fun _ _ _ => rfl, fun _ _ _ _ => rfl, fun _ _ => rfl, .inl rfl, rfl⟩⟩
      have hf := Lib.run_firstCells_string (P := P) w 1 sb
      rw [hm, hn] at hf
      simp [Builtin.append_, run_underlying ht, run_underlying hu, sizeOf, typeInfo, hi, hsize, Builtin.lenOf, hm, hf]
    · have hr := run_append_nil_string (P := P) w t u ty e i z ht hu hi hz sb (by omega) (by omega) (by have hb := hbytes; simp only [Nat.zero_add] at hb; omega)
      have hgr := grown 0
      have e0 : (Lib.strCells sb).toArray = sb.data.map fun b => Value.int .u8 b.toNat := by apply Array.ext'; simp [Lib.strCells]
      simp only [Nat.zero_add, List.nil_append, Array.empty_append, e0] at hgr ⊢
      exact ⟨_, _, hr, hgr⟩
  · by_cases hroom : n + sb.size ≤ cap
    · have hfit : n + sb.size ≤ cur.size := by rw [hcs]; omega
      have hr := Lib.run_append_room_string (P := P) w t u ty e i ht hu hi hsize g n cap cur hg sb hroom hfit
      refine ⟨_, _, hr, ⟨⟨hlen, .inr ⟨g, cap, _, rfl, hbg, setRow_heap w g cur _ e _ hg, hroom, hcm, ?_, ?_⟩⟩, rfl, rfl, rfl, by simp, fun k _ hk => setRow_other w g k _ (fun e => hk (by simp [Value.ownBlock, e])), fun b' o' hb' ho' => ?_, fun a' ha' => ?_, .inl rfl, rfl⟩⟩
      · simp only [List.size_toArray, List.length_append, List.length_take, List.length_drop, Array.length_toList, hnl]
        omega
      · rw [Nat.mul_one] at htake
        rw [htake, ← hlen]
        exact List.take_left
      · rw [Nat.mul_one] at htake
        by_cases hbg' : b' = g
        · subst hbg'
          have ho'' : o' < n := by have := ho' rfl; omega
          rw [cell_of_row _ b' o' _ e (0, 0) (setRow_heap w b' cur _ e _ hg), cell_of_row _ b' o' _ e (0, 0) hg]
          have hxl2 : (List.take n cur.toList).length = n := by rw [htake]; exact hxl
          simp only [List.getElem?_toArray]
          rw [List.append_assoc, List.getElem?_append_left (by omega), List.getElem?_take, if_pos ho'']
          simp
        · simp only [World.cell?]
          rw [setRow_other w g b' _ hbg']
      · by_cases hbg' : a'.block = g
        · simp only [World.frozen?]
          rw [hbg', setRow_heap w g cur _ e _ hg, hg]
        · simp only [World.frozen?]
          rw [setRow_other w g a'.block _ hbg']
    · have holds : ∀ j u, xs[j]? = some u → w.cell? ((⟨g, 0, none⟩ : Addr).add j) = some u := hown.cells (g := g) rfl
      have hr := Lib.run_append_grow_string (P := P) w t u ty e i z ht hu hi hz ⟨g, 0, none⟩ n cap xs (by rw [hsize]; exact hown.1) holds sb (by omega) (by omega) (growslice_fits (by omega) hbytes)
      exact ⟨_, _, hr, grown cap⟩
theorem SRel.appended (hs : SRel w0 wk regs St s a w) (h1 : ImmOk w0 wk St Imm w) (h2 : TmOk Imm w s.tm a.tmps) (h3 : HeapOk w0 regs Imm s.hp w) {X : AV} {e : TypeId} {esz : Nat} {ob : Option Nat} {els ys : List AV} {sl : Nat} (hrow : rowB s.hp e esz X = some (ob, els, sl)) {V0 : Value} (hX : Rel Imm w X V0) {news : List Value} (hnR : R Imm w (.arr esz ys) news)
    {F : Value → World → Prop} (hrun : ∀ xs, w.ownsRow 0 e esz V0 els.length xs → sc V0 = true → ∃ v' w', F v' w' ∧ Appended w w' 0 e esz V0 v' els.length (els.length + ys.length) (xs ++ news)) {dst : Option Tmp} :
    ∃ V' w', F V' w' ∧ SRel w0 wk regs St { s.put dst (.own (s.slot dst) V') with hp := (hpDrop s.hp ob).set (s.slot dst) (some (.row e V' esz (els ++ ys) sl)) } (a.put dst V') w' := by
  obtain ⟨xs, hxR, hown, hscV, hsl, hm, hnew0⟩ : ∃ xs, R Imm w (.arr esz els) xs ∧ w.ownsRow 0 e esz V0 els.length xs ∧ sc V0 = true ∧ sl ≤ els.length ∧ (∀ g, V0.ownBlock = some g → ∀ o, sl * esz ≤ o → ¬ Imm g o) ∧
      ((V0.ownBlock = none) ∨ ∃ b, ob = some b ∧ (s.hp[b]?).join = some (.row e V0 esz els sl)) := by
    unfold rowB at hrow
    split at hrow
    · simp only [Option.some.injEq, Prod.mk.injEq] at hrow
      obtain ⟨rfl, rfl, rfl⟩ := hrow
      obtain ⟨e1, _⟩ := hX.lit
      subst e1
      exact ⟨[], .arr0 _, World.ownsRow_nil w 0 e esz, rfl, by simp, by simp [Value.ownBlock], .inl rfl⟩
    · rename_i b V
      split at hrow <;> try (cases hrow; done)
      rename_i e' V' esz2 els2 sl2 hblk
      split at hrow <;> try (cases hrow; done)
      rename_i hcond
      obtain ⟨rfl, rfl, rfl⟩ := hcond
      simp only [Option.some.injEq, Prod.mk.injEq] at hrow
      obtain ⟨rfl, rfl, rfl⟩ := hrow
      have e1 := own_map hX
      subst e1
      obtain ⟨hok, _⟩ := h3.ok b _ hblk
      obtain ⟨cs, hR, hown, hsc, hsl, hm⟩ := hok
      exact ⟨cs, hR, hown, hsc, hsl, fun g hg o ho => hm g o hg ho, .inr ⟨b, rfl, hblk⟩⟩
    · cases hrow
  have hVnew : ∀ g, V0.ownBlock = some g → w0.heap.size ≤ g ∧ g < w.heap.size := fun g hg => by
    rcases hnew0 with h' | ⟨b, rfl, hb⟩
    · rw [h'] at hg; cases hg
    · exact h3.rowNew hb hg
  obtain ⟨V', w', hF, hap⟩ := hrun xs hown hscV
  have hImmW : ∀ b o, Imm b o → w'.cell? ⟨b, o, none⟩ = w.cell? ⟨b, o, none⟩ := fun b o hi => by
    refine hap.cell b o (h1.lt hi) fun he => ?_
    rcases Nat.lt_or_ge o (els.length * esz) with hlt | hge
    · exact hlt
    · exact absurd hi (hm b he.symm o (Nat.le_trans (Nat.mul_le_mul_right _ hsl) hge))
  have hI' : ImmOk w0 wk St Imm w' := ⟨h1.sub, h1.old, fun b o hb => by rw [hImmW b o hb]; exact h1.there b o hb, fun b o hb => by rw [hImmW b o (h1.sub b o hb)]; exact h1.val b o hb⟩
  have hV'lt : ∀ g, V'.ownBlock = some g → g < w'.heap.size ∧ w0.heap.size ≤ g := fun g hg => by
    rcases hap.where_ with h' | ⟨g', h', hge, hlt⟩
    · rw [h'] at hg
      have := hVnew g hg
      exact ⟨Nat.lt_of_lt_of_le this.2 hap.hsize, this.1⟩
    · rw [hg] at h'; cases h'
      exact ⟨hlt, Nat.le_trans hs.frame.size hge⟩
  have hfr : Fr regs w0 w' := run_frame_of hap (fun g hg => (hVnew g hg).1) hs.frame
  have hother : ∀ (k : Nat) (x : Blk), ((hpDrop s.hp ob)[k]?).join = some x → x.ok Imm w' ∧ (∀ b o, x.foot b o → b < w'.heap.size ∧ (w0.heap.size ≤ b ∨ inReg regs b o)) ∧ (∀ g o, V0.ownBlock = some g → ¬ x.foot g o) ∧ (∀ b o, x.foot b o → b < w.heap.size) := by
    intro k x hx
    have hx' : (s.hp[k]?).join = some x ∧ ∀ b, ob = some b → k ≠ b := by
      cases ob with
      | none => exact ⟨hx, by simp⟩
      | some b => exact ⟨(hp_set_none hx).2, fun b' hb' => by cases hb'; exact (hp_set_none hx).1⟩
    obtain ⟨hok, hf⟩ := h3.ok k x hx'.1
    have hdis : ∀ g o, V0.ownBlock = some g → ¬ x.foot g o := fun g o hg hfx => by
      rcases hnew0 with h' | ⟨b, hb, hblk⟩
      · rw [h'] at hg; cases hg
      · exact h3.apart b k _ x (Ne.symm (hx'.2 b hb)) hblk hx'.1 g o hg hfx
    have hne : ∀ b o, x.foot b o → some b ≠ V0.ownBlock := fun b o hfx he => hdis b o he.symm hfx
    refine ⟨hok.keep (fun _ _ h => h) hImmW (fun _ _ _ h => h) (fun b o hfx => hap.cell b o (hf b o hfx).1 (fun he => absurd he (hne b o hfx))) (fun b o hfx => hap.frozen _ (hf b o hfx).1) ?_, fun b o hfx => ⟨Nat.lt_of_lt_of_le (hf b o hfx).1 hap.hsize, (hf b o hfx).2⟩, hdis, fun b o hfx => (hf b o hfx).1⟩
    intro b hb
    have hb := Blk.whole_foot hb 0
    exact hap.block b (hf b 0 hb).1 (hne b 0 hb)
  have hbase : HeapOk w0 regs Imm (hpDrop s.hp ob) w' := ⟨fun k x hx => ⟨(hother k x hx).1, (hother k x hx).2.1⟩, fun k k' x y hne hx hy => by
    cases ob with
    | none => exact h3.apart k k' x y hne hx hy
    | some b => exact (h3.drop b).apart k k' x y hne hx hy⟩
  have hnewRow : (Blk.row e V' esz (els ++ ys) sl).ok Imm w' := by
    refine Blk.rowOk ((hxR.app hnR).mono (fun _ _ h => h) hImmW) (by rw [List.length_append]; exact hap.own) hap.sc (by rw [List.length_append]; omega) fun g hg o ho hi => ?_
    rcases hap.where_ with h' | ⟨g', h', hge, _⟩
    · rw [h'] at hg; exact hm g hg o ho hi
    · rw [hg] at h'; cases h'
      have := h1.lt hi
      omega
  have hH : HeapOk w0 regs Imm ((hpDrop s.hp ob).set (s.slot dst) (some (.row e V' esz (els ++ ys) sl))) w' := by
    refine hbase.lay hnewRow (fun b o hf => hV'lt b hf) fun k y hk hy b o hf hfy => ?_
    obtain ⟨_, _, hd, hlt⟩ := hother k y hy
    rcases hap.where_ with h' | ⟨g', h', hge, _⟩
    · simp only [Blk.foot] at hf
      rw [h'] at hf
      exact hd b o hf hfy
    · simp only [Blk.foot] at hf
      rw [hf] at h'; cases h'
      have := hlt b o hfy
      omega
  exact ⟨V', w', hF, by rw [aput_defers]; exact hs.defers, by rw [aput_size, put_len]; exact hs.tsize, hs.tab, hfr, Imm, hI', h2.put hs.tsize (fun _ _ h => h) hImmW (.inr (.inr ⟨_, .own _ V' hap.sc, rfl⟩)), hH⟩
theorem sound_app {t t' e : TypeId} {esz bytes : Nat} {i : TypeInfo} {z : Value} {x y : Operand} {c : Call} {str : Bool} (ho : o.op = .call c) (hc : c.callee = .builtin .append) (ha : c.args.toList = [x, y]) (hty : c.argTypes.toList = [t, t'])
    (htt : if str then P.underlying t' = some .string ∧ esz = 1 else t' = t)
    (ht : P.underlying t = some (.slice e)) (hi : P.info? e = some i) (hz : i.zero = some z) (hsize : i.size = esz) (hby : i.bytes = bytes) (hzs : z.cells.size = esz) (hx : okO x = true) (hy : okO y = true)
    (h : AI.go P ro s o.dst K (.ef (.app e esz bytes str) [x, y])) (hs : SRel w0 wk regs St s a w) : o.wp P a w (fun a' w' => ∃ s', K s' ∧ SRel w0 wk regs St s' a' w') Q := by
  obtain ⟨Imm, h1, h2, h3⟩ := hs.ex
  have hX := h2.eval x (okO_sc hx)
  have hY := h2.eval y (okO_sc hy)
  have ha' : c.args = #[x, y] := by rw [← Array.toArray_toList (xs := c.args), ha]
  have ht' : c.argTypes = #[t, t'] := by rw [← Array.toArray_toList (xs := c.argTypes), hty]
  simp only [AI.go] at h
  have key : ∃ ob els sl ys, rowB s.hp e esz (s.ev x) = some (ob, els, sl) ∧ listB (fun b => (s.hp[b]?).join) esz (s.ev y) = some ys ∧ (s.ev y).isText = str ∧ els.length + ys.length ≤ maxLen ∧ (els.length + ys.length) * bytes ≤ 140737488355328 ∧
      ∀ V, K { s.put o.dst (.own (s.slot o.dst) V) with hp := (hpDrop s.hp ob).set (s.slot o.dst) (some (.row e V esz (els ++ ys) sl)) } := by
    have hd : ∀ V, efA (s.slot o.dst) V s.hp (.app e esz bytes str) ([x, y].map fun x => s.ev x) = match rowB s.hp e esz (s.ev x), listB (fun b => (s.hp[b]?).join) esz (s.ev y) with
      | some (ob, els, sl), some ys => if (s.ev y).isText = str ∧ els.length + ys.length ≤ maxLen ∧ (els.length + ys.length) * bytes ≤ 140737488355328 then
          some (.own (s.slot o.dst) V, (hpDrop s.hp ob).set (s.slot o.dst) (some (.row e V esz (els ++ ys) sl))) else none
      | _, _ => none := fun V => rfl
    obtain ⟨r, hp', e1, _⟩ := h undef
    rw [hd] at e1
    split at e1 <;> try (cases e1; done)
    rename_i ob els sl ys hr hl
    split at e1 <;> try (cases e1; done)
    rename_i hcnd
    refine ⟨ob, els, sl, ys, hr, hl, hcnd.1, hcnd.2.1, hcnd.2.2, fun V => ?_⟩
    obtain ⟨r, hp', e2, hK⟩ := h V
    rw [hd, hr, hl] at e2
    simp only at e2
    rw [if_pos hcnd] at e2
    cases e2
    exact hK
  obtain ⟨ob, els, sl, ys, hrow, hlst, htext, h63, hbytes, hK⟩ := key
  obtain ⟨news, hnR, hnl, hns, hsrc⟩ := listB_sound (w0 := w0) (regs := regs) (s := s) (fun b x hb => hb) h3 h1.there hlst hY
  have hrun : ∀ xs, w.ownsRow 0 e esz (a.eval x) els.length xs → sc (a.eval x) = true → ∃ v' w', (Builtin.append_ #[t, t'] o.type #[a.eval x, a.eval y]).run P w = .ok v' w' ∧ Appended w w' 0 e esz (a.eval x) v' els.length (els.length + ys.length) (xs ++ news) := by
    intro xs hown hsc
    cases str with
    | true =>
      simp only [if_true] at htt
      obtain ⟨hu, rfl⟩ := htt
      rcases hsrc with ⟨sb, eL, eV, _, hcs⟩ | ⟨hnil, a0, eV⟩ | ⟨b, o', c', eV, hcell⟩
      · rw [eL] at hlst
        have hysl : ys.length = sb.size := by
          simp only [listB, if_true, Option.some.injEq] at hlst
          rw [← hlst]
          simp
        obtain ⟨v', w', r1, r2⟩ := run_appendS (P := P) (w := w) 0 t t' o.type e i z ht hu hi hz hsize bytes hby hzs (a.eval x) els.length xs hown hsc sb (by rw [← hysl]; exact h63) (by rw [← hysl]; exact hbytes) (Nat.zero_le _)
        rw [hysl, hcs, eV]
        exact ⟨v', w', r1, r2⟩
      · exfalso
        cases hv : s.ev y with
        | lit u =>
          rw [hv] at hY htext
          have := hY.lit.1
          cases u <;> simp [AV.isText] at htext
          rw [eV] at this; cases this
        | _ => rw [hv] at htext; simp [AV.isText] at htext
      · exfalso
        cases hv : s.ev y with
        | lit u =>
          rw [hv] at hY htext
          have := hY.lit.1
          cases u <;> simp [AV.isText] at htext
          rw [eV] at this; cases this
        | _ => rw [hv] at htext; simp [AV.isText] at htext
    | false =>
      simp only [Bool.false_eq_true, if_false] at htt
      subst htt
      have hys : (∃ a0, a.eval y = .slice a0 0 0 ∧ ys.length = 0) ∨ ∃ b o c, a.eval y = .slice (some ⟨b, o, none⟩) ys.length c ∧ ∀ j u, news[j]? = some u → w.cell? ⟨b, o + j, none⟩ = some u := by
        rcases hsrc with ⟨sb, eL, eV, _, hcs⟩ | ⟨hnil, a0, eV⟩ | h
        · rw [eL] at htext; simp [AV.isText] at htext
        · exact .inl ⟨a0, eV, by rw [hnil]; rfl⟩
        · exact .inr h
      obtain ⟨v', w', r1, r2⟩ := run_append (P := P) (w := w) 0 t' o.type e i z esz bytes ht hi hz hsize hby hzs (a.eval x) els.length xs hown hsc (a.eval y) ys.length news hnl hns hys h63 hbytes (Nat.zero_le _)
      exact ⟨v', w', r1, r2⟩
  obtain ⟨V', w', hF, hS⟩ := hs.appended h1 h2 h3 hrow hX hnR (F := fun v' w' => (Builtin.append_ #[t, t'] o.type #[a.eval x, a.eval y]).run P w = .ok v' w') (fun xs p q => let ⟨v', w', r1, r2⟩ := hrun xs p q; ⟨v', w', r1, r2⟩) (dst := o.dst)
  refine upon_of_run (V := V') (w' := w') ?_ ⟨_, hK V', hS⟩
  simp [execOp, ho, resolve, hc, invoke, builtin, ha', ht', hF]
end
end Go.Cab