/- Part twelve: calls that turn a variable; fields of values; and one theorem for all operations. -/
import Derived.Test.YtjkckdiepdbfeaaCabK
set_option linter.unusedSimpArgs false
set_option linter.unusedVariables false
set_option linter.unusedSectionVars false
namespace Go.Cab
open Go.RowKit
open Classical

section
variable {P : Program} {w0 : World} {regs : List (Nat × Nat × Nat)} {St Imm : Nat → Nat → Prop} {s : AS} {a : Act} {w : World} {o : Oper} {K : AS → Prop} {Q : Exit → Act → World → Prop} {ro : Nat → Bool}

theorem sound_icall {f : FuncId} {x : Operand} {args : List Operand} {c : Call} (ho : o.op = .call c) (hc : c.callee = .value (.func f)) (ha : c.args.toList = x :: args) (hf : callable P f = true) (hok : (x :: args).all okO = true)
    (h : AI.go P ro s o.dst K (.icall f x args)) (hs : SRel w0 regs St s a w) : o.wp P a w (fun a' w' => ∃ s', K s' ∧ SRel w0 regs St s' a' w') Q := by
  obtain ⟨Imm, h1, h2, h3, hseal⟩ := hs.seals
  simp only [List.all_cons, Bool.and_eq_true] at hok
  have hX := h2.eval x (okO_sc hok.1)
  simp only [AI.go] at h
  split at h <;> try exact h.elim
  rename_i b blk p m u hpart
  obtain ⟨r, u', hP, hu't, hK⟩ := h
  unfold AS.part at hpart
  split at hpart <;> try (cases hpart; done)
  rename_i b0 l off p0 hex
  split at hpart <;> try (cases hpart; done)
  rename_i l' n v hblk
  split at hpart <;> try (cases hpart; done)
  rename_i hl
  subst hl
  split at hpart <;> try (cases hpart; done)
  rename_i o1 m1 u1 hnav
  split at hpart <;> try (cases hpart; done)
  rename_i hoff
  obtain ⟨rfl, hm0⟩ := hoff
  simp only [Option.some.injEq, Prod.mk.injEq] at hpart
  obtain ⟨rfl, rfl, rfl, rfl, rfl⟩ := hpart
  have hm1 : 0 < m1 := Nat.pos_of_ne_zero hm0
  rw [hex] at hX
  rcases hX with hX | ⟨cs', hX, eX⟩
  · cases hX
  cases hX
  have eX' : a.eval x = .pointer (some ⟨l'.1, l'.2 + o1, none⟩) := eX
  obtain ⟨hbok, hbfoot⟩ := h3.ok b0 _ hblk
  obtain ⟨⟨cs, hR, hln, hscs, hcell⟩, hnot⟩ := hbok
  obtain ⟨pre, c0, post, e1, ho1, hc0, hu0, hc0s, _⟩ := R.nav p0 v 0 n o1 m1 u1 cs hR hscs hln hnav
  have hlen : pre.length + m1 ≤ n := by rw [← hln, e1]; simp; omega
  have hregok : Blk.ok Imm w (.box (l'.1, l'.2 + o1) m1 u1) := by
    refine ⟨⟨c0, hu0, hc0, hc0s, fun i y hy => ?_⟩, fun i hi => ?_⟩
    · have hi := (List.getElem?_eq_some_iff.1 hy).1
      have := hcell (o1 + i) y (by rw [e1, List.append_assoc, List.getElem?_append_right (by omega), show o1 + i - pre.length = i from by omega, List.getElem?_append_left hi]; exact hy)
      rw [show l'.2 + o1 + i = l'.2 + (o1 + i) from by omega]; exact this
    · have := hnot (o1 + i) (by omega)
      rw [show l'.2 + o1 + i = l'.2 + (o1 + i) from by omega]; exact this
  have hargs : ArgsOk Imm w (.ptr 0 (l'.1, l'.2 + o1) 0 [] :: args.map fun x => s.coe ro (s.ev x)) (a.eval x :: args.map a.eval) :=
    ⟨.inr ⟨_, .ptr _ _ _ _, by rw [eX']; rfl⟩, argsOk h3 hseal h2 args hok.2⟩
  have hcall := hP w Imm (l'.1, l'.2 + o1) _ h1.there hregok hargs
  have e2 : (a.eval x :: args.map a.eval).toArray = c.args.map a.eval := by apply Array.ext'; simp [ha]
  rw [e2] at hcall
  unfold Oper.wp Oper.upon
  rw [run_call ho hc rfl hf]
  refine Calls.mono hcall fun e w' ⟨V, Imm', he, hfr, hI', hr, hrany, hu'ok⟩ => ?_
  subst he
  have hinreg : ∀ b o, inReg [(l'.1, l'.2 + o1, m1)] b o ↔ (b = l'.1 ∧ l'.2 + o1 ≤ o ∧ o < l'.2 + o1 + m1) := fun b o => by simp [inReg]
  have hImmOut : ∀ b o, Imm b o → ¬ inReg [(l'.1, l'.2 + o1, m1)] b o := fun b o hi hr => by
    obtain ⟨rfl, h4, h5⟩ := (hinreg b o).1 hr
    have := (hnot (o - l'.2) (by omega)).2
    rw [show l'.2 + (o - l'.2) = o from by omega] at this
    exact this hi
  have hk : ∀ b o, Imm b o → w'.cell? ⟨b, o, none⟩ = w.cell? ⟨b, o, none⟩ := fun b o hi => hfr.cell b o (h1.lt hi) (hImmOut b o hi)
  have hII := hI'.sub
  have hnew := hI'.old
  have hI2 : ImmOk w0 St Imm' w' := ⟨fun b o hb => hII _ _ (h1.sub b o hb), fun b o hb hlt => h1.old b o (hnew b o hb (Nat.lt_of_lt_of_le hlt hs.frame.size)) hlt, hI'.there⟩
  obtain ⟨⟨c', hu'R, hc'l, hc's, hc'cell⟩, _⟩ := hu'ok
  obtain ⟨pre2, c2, post2, e3, ho2, hc2, _, _, hset⟩ := R.nav p0 v 0 n o1 m1 u1 cs (hR.mono hII hk) hscs hln hnav
  have hpp : pre2.length = pre.length := by omega
  have hbw : l'.1 < w.heap.size := by
    obtain ⟨y, hy⟩ : ∃ y, cs[0]? = some y := ⟨_, List.getElem?_eq_getElem (by omega)⟩
    exact World.block_lt_of_cell? w _ (hcell 0 y hy)
  have hbox : (Blk.box l' n (v.upd p0 u')).ok Imm' w' := by
    refine ⟨⟨_, hset u' c' hu'R hc'l hc's, ?_, ?_, fun i y hy => ?_⟩, fun i hi => ⟨?_, fun hm => ?_⟩⟩
    · rw [← hln, e3]; simp; omega
    · intro y hy
      rcases List.mem_append.1 hy with hy | hy
      · rcases List.mem_append.1 hy with hy | hy
        · exact hscs y (by rw [e3]; simp [hy])
        · exact hc's y hy
      · exact hscs y (by rw [e3]; simp [hy])
    · by_cases h4 : i < o1
      · rw [hfr.cell l'.1 (l'.2 + i) hbw (fun hr => by have := ((hinreg _ _).1 hr).2.1; omega)]
        exact hcell i y (by rw [e3, List.append_assoc, List.getElem?_append_left (by omega)]; rw [List.append_assoc, List.getElem?_append_left (by omega)] at hy; exact hy)
      · by_cases h5 : i < o1 + m1
        · have := hc'cell (i - o1) y (by rw [List.append_assoc, List.getElem?_append_right (by omega), List.getElem?_append_left (by omega)] at hy; rwa [show i - o1 = i - pre2.length from by omega])
          rwa [show l'.2 + o1 + (i - o1) = l'.2 + i from by omega] at this
        · rw [hfr.cell l'.1 (l'.2 + i) hbw (fun hr => by have := ((hinreg _ _).1 hr).2.2; omega)]
          refine hcell i y ?_
          rw [List.getElem?_append_right (by simp; omega)] at hy
          rw [e3, List.getElem?_append_right (by simp; omega)]
          rw [← hy]; congr 1; simp; omega
    · rw [hfr.frozen l'.1 (l'.2 + i) hbw]; exact (hnot i hi).1
    · exact (hnot i hi).2 (hnew _ _ hm hbw)
  have hfoot : ∀ i, i < m1 → Blk.foot (.box l' n v) l'.1 (l'.2 + o1 + i) := fun i hi => ⟨rfl, by omega, by omega⟩
  have hother : ∀ (k : Nat) (y : Blk), k ≠ b0 → (s.hp[k]?).join = some y → y.ok Imm' w' := fun k y hkb hy => by
    obtain ⟨hyok, hyf⟩ := h3.ok k y hy
    have hdis : ∀ b o, y.foot b o → ¬ inReg [(l'.1, l'.2 + o1, m1)] b o := fun b o hfy hr => by
      obtain ⟨rfl, h4, h5⟩ := (hinreg b o).1 hr
      have := hfoot (o - (l'.2 + o1)) (by omega)
      rw [show l'.2 + o1 + (o - (l'.2 + o1)) = o from by omega] at this
      exact h3.apart k b0 y _ hkb hy hblk _ _ hfy this
    refine hyok.keep hII hk (fun b o hfy hi => hnew b o hi (hyf b o hfy).1) (fun b o hfy => hfr.cell b o (hyf b o hfy).1 (hdis b o hfy)) (fun b o hfy => hfr.frozen b o (hyf b o hfy).1) ?_
    intro e1 V1 esz1 els1 s1 he b hb
    subst he
    refine hfr.block b (hyf b 0 hb).1 fun r hr => ?_
    simp only [List.mem_singleton] at hr
    subst hr
    intro he
    have : Blk.foot (Blk.row e1 V1 esz1 els1 s1) l'.1 (l'.2 + o1 + 0) := by show V1.ownBlock = some l'.1; rw [he]; exact hb
    exact h3.apart k b0 _ _ hkb hy hblk _ _ this (hfoot 0 (by omega))
  have hH : HeapOk w0 regs Imm' (s.hp.set b0 (some (.box l' n (v.upd p0 u')))) w' := by
    refine ⟨fun k y hy => ?_, fun k k' y z hne hy hz b o hfy => ?_⟩
    · rcases hp_set hy with ⟨rfl, rfl⟩ | ⟨hkb, hy'⟩
      · exact ⟨hbox, fun b o hf => ⟨Nat.lt_of_lt_of_le (hbfoot b o hf).1 hfr.size, (hbfoot b o hf).2⟩⟩
      · exact ⟨hother k y hkb hy', fun b o hf => ⟨Nat.lt_of_lt_of_le ((h3.ok k y hy').2 b o hf).1 hfr.size, ((h3.ok k y hy').2 b o hf).2⟩⟩
    · rcases hp_set hy with ⟨rfl, rfl⟩ | ⟨hkb, hy'⟩
      · rcases hp_set hz with ⟨rfl, rfl⟩ | ⟨hkb', hz'⟩
        · exact absurd rfl hne
        · exact h3.apart k k' (.box l' n v) z hne hblk hz' b o hfy
      · rcases hp_set hz with ⟨rfl, rfl⟩ | ⟨hkb', hz'⟩
        · exact h3.apart k k' y (.box l' n v) hne hy' hblk b o hfy
        · exact h3.apart k k' y z hne hy' hz' b o hfy
  have hF : Fr regs w0 w' := by
    have hwhere : w0.heap.size ≤ l'.1 ∨ ∀ i, i < m1 → inReg regs l'.1 (l'.2 + o1 + i) := by
      rcases Nat.lt_or_ge l'.1 w0.heap.size with h | h
      · exact .inr fun i hi => ((hbfoot _ _ (hfoot i hi)).2).resolve_left (by omega)
      · exact .inl h
    have hsz := hs.frame.size
    refine ⟨hfr.os.trans hs.frame.os, hfr.tape.trans hs.frame.tape, hfr.output.trans hs.frame.output, Nat.le_trans hs.frame.size hfr.size, fun k hk' hr => ?_, fun b o hb hr => ?_, fun b o hb => ?_⟩
    · rw [hfr.block k (by omega) (fun q hq => by
        simp only [List.mem_singleton] at hq
        subst hq
        intro he
        rcases hwhere with h | h
        · simp only at he; omega
        · obtain ⟨q, hq1, hq2, _⟩ := h 0 (by omega)
          exact hr q hq1 (by rw [← hq2]; exact he))]
      exact hs.frame.block k hk' hr
    · rw [hfr.cell b o (by omega) (fun hq => by
        obtain ⟨rfl, h4, h5⟩ := (hinreg b o).1 hq
        rcases hwhere with h | h
        · omega
        · have := h (o - (l'.2 + o1)) (by omega)
          rw [show l'.2 + o1 + (o - (l'.2 + o1)) = o from by omega] at this
          exact hr this)]
      exact hs.frame.cell b o hb hr
    · rw [hfr.frozen b o (by omega)]; exact hs.frame.frozen b o hb
  show ∃ s', K s' ∧ SRel w0 regs St s' (a.put o.dst V) w'
  refine ⟨_, hK, ?_⟩
  have e5 : (s.setBlk b0 (some ((Blk.box l' n v).upd p0 u'))).put o.dst r = { s.put o.dst r with hp := s.hp.set b0 (some (.box l' n (v.upd p0 u'))) } := by cases o.dst <;> rfl
  rw [e5]
  exact ⟨by rw [aput_defers]; exact hs.defers, by rw [aput_size, put_len]; exact hs.tsize, hF, Imm', hI2, h2.put hs.tsize hII hk (.inr hr), hH⟩

theorem R.fieldPart {t : TypeId} {ns : List Nat} {fs : List AV} {cs : List Value} {idx n : Nat} {v : AV} (h : R Imm w (.st ns fs) cs) (hn : ns[idx]? = some n) (hv : fs[idx]? = some v) (ht : (P.underlying t).isSome = true) (hsz : szOf P t = some n) (hagg : v.isAgg = aggT P t) (h1n : aggT P t = true ∨ n = 1) (htup : v.isTup = false) :
    ∃ c, R Imm w v c ∧ (part t cs.toArray (ns.take idx).sum).run P w = .ok (asVal v c) w := by
  obtain ⟨pre, c, post, e, hp, hc, hvR, hcs, _⟩ := h.field idx n v hn hv
  refine ⟨c, hvR, ?_⟩
  cases hA : aggT P t with
  | true =>
    simp only [part, Sem.run_bind, run_isAgg ht, hA, Result.andThen_ok, if_true, run_sizeOf' hsz]
    have : (cs.toArray.extract (ns.take idx).sum ((ns.take idx).sum + n)) = c.toArray := by
      apply Array.ext'
      rw [Array.toList_extract]
      simp only [List.extract]
      rw [e, ← hp, List.append_assoc, List.drop_left', Nat.add_sub_cancel_left, ← hc, List.take_left']
      · rfl
      · rfl
    simp only [Sem.run_pure, this]
    rw [hA] at hagg
    cases v <;> simp [AV.isAgg] at hagg <;> rfl
  | false =>
    have hn1 : n = 1 := by rcases h1n with h' | h' <;> simp_all
    subst hn1
    rw [hA] at hagg
    match c, hc with
    | [y], _ =>
      have : cs.toArray[(ns.take idx).sum]? = some y := by
        simp only [List.getElem?_toArray]
        rw [e, ← hp, List.append_assoc, List.getElem?_append_right (Nat.le_refl _)]; simp
      simp only [part, Sem.run_bind, run_isAgg ht, hA, Result.andThen_ok, Bool.false_eq_true, if_false, this, Sem.run_pure]
      cases v <;> simp [AV.isAgg, AV.isTup] at hagg htup <;> rfl

theorem sound_fieldv {t : TypeId} {fields : Array Field} {fd : Field} {idx n : Nat} {x : Operand} (ho : o.op = .field t x idx) (ht : P.underlying t = some (.struct fields)) (hf : fields[idx]? = some fd) (hu : (P.underlying fd.type).isSome = true) (hx : okO x = true)
    (h1n : aggT P fd.type = true ∨ n = 1) (hn : szOf P fd.type = some n)
    (h : AI.go P ro s o.dst K (.fieldv fd.offset idx n (aggT P fd.type) x)) (hs : SRel w0 regs St s a w) : o.wp P a w (fun a' w' => ∃ s', K s' ∧ SRel w0 regs St s' a' w') Q := by
  obtain ⟨Imm, h1, h2, h3⟩ := hs.ex
  have hX := h2.eval x (okO_sc hx)
  simp only [AI.go] at h
  split at h <;> try exact h.elim
  rename_i ns fs hex
  rw [hex] at hX
  obtain ⟨hsum, hns, h⟩ := h
  split at h <;> try exact h.elim
  rename_i v hv
  obtain ⟨hagg, htup, hK⟩ := h
  rcases hX with hX | ⟨cs, hX, eX⟩
  · cases hX
  obtain ⟨c, hc, hrun⟩ := R.fieldPart (P := P) hX hns hv hu hn hagg h1n htup
  refine upon_of_run (V := asVal v c) (w' := w) ?_ ⟨_, hK, hs.put0 h1 h2 h3 (.inr ⟨c, hc, rfl⟩)⟩
  rw [hsum] at hrun
  simp [execOp, ho, Instr.field, run_underlying ht, hf, eX, asVal, asAgg, hrun]

end
end Go.Cab
