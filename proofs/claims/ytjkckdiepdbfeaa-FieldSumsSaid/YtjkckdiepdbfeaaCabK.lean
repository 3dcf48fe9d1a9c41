/- Part eleven: that literals, append, make, equality and calls do what their rules say. -/
import Derived.Test.YtjkckdiepdbfeaaCabJ
set_option linter.unusedSimpArgs false
set_option linter.unusedVariables false
set_option linter.unusedSectionVars false
namespace Go.Cab
open Go.RowKit
open Classical

section
variable {P : Program} {w0 : World} {regs : List (Nat × Nat × Nat)} {St Imm : Nat → Nat → Prop} {s : AS} {a : Act} {w : World} {o : Oper} {K : AS → Prop} {Q : Exit → Act → World → Prop} {ro : Nat → Bool}

theorem okParts {parts : List (Nat × Operand)} (h : parts.all (fun p => okO p.2) = true) : ∀ p ∈ parts, okO p.2 = true := by simpa using h

/-- What the program must say of a struct's or an array's parts. -/
def buildOk (P : Program) (t : TypeId) : AV → Bool
  | .st ns _ => match P.underlying t with | some (.struct fields) => fieldsOk P fields.toList ns 0 | _ => false
  | .arr esz _ => match P.underlying t with | some (.array _ e) => szOf P e == some esz | _ => false
  | _ => false

theorem sound_build {t : TypeId} {n : Nat} {z : AV} {parts : Array (Nat × Operand)} (ho : o.op = .build t parts) (hz : zeroOf P t = some (n, z)) (hb : buildOk P t z = true) (hp : parts.toList.all (fun p => okO p.2) = true)
    (h : AI.go P ro s o.dst K (.build z parts.toList)) (hs : SRel w0 regs St s a w) : o.wp P a w (fun a' w' => ∃ s', K s' ∧ SRel w0 regs St s' a' w') Q := by
  obtain ⟨Imm, h1, h2, h3⟩ := hs.ex
  obtain ⟨i, v, hi, hzv, hn, ht, hl, hR⟩ := zeroOf_spec hz
  simp only [AI.go] at h
  split at h
  · rename_i z' hf
    have hscs := (hR Imm w).scs ht
    cases z <;> simp only [buildOk] at hb <;> try (cases hb; done)
    case st ns fs =>
      split at hb
      · rename_i fields hu
        obtain ⟨hlen, hsome⟩ := fieldsOk_len hb
        obtain ⟨cells', hfill, hR', hs', _, hst, _⟩ := fill_sound (s := s) (a := a) (Imm := Imm) (w := w) (((fields.toList.map fun f => (f.offset, (szOf P f.type).getD 0)).toArray)[·]?) parts.toList (.st ns fs) z' v.cells
          (by
            intro i m hm
            obtain ⟨f, hf1, hf2, hf3⟩ := fieldsOk_get hb i m hm
            simp only [List.getElem?_toArray, List.getElem?_map, hf1, Option.map_some, hf2, hf3, Option.getD_some, Nat.zero_add])
          (hR Imm w) hscs (okParts hp) h2 hf
        obtain ⟨fs', rfl⟩ := hst ns fs rfl
        refine upon_of_run (V := .agg cells') (w' := w) ?_ ⟨_, h, hs.put0 h1 h2 h3 (.inr ⟨_, hR', by simp [asVal]⟩)⟩
        have hpl := run_places (P := P) w fields.toList hsome
        have hpl' : (fields.mapM (m := Sem) fun f => do pure (f.offset, ← sizeOf f.type)).run P w = .ok (fields.toList.map fun f => (f.offset, (szOf P f.type).getD 0)).toArray w := by
          rw [← Array.toArray_toList (xs := fields), List.mapM_toArray]
          simp only [Sem.run_map, hpl, Result.andThen_ok]
        simp only [execOp, ho, Instr.build, zeroValue, typeInfo, Sem.run_bind, run_program, Result.andThen_ok, hi, hzv, Sem.run_pure, run_underlying hu, hpl', Array.toList_map]
        rw [hfill]
        simp
      · cases hb
    case arr esz els =>
      split at hb
      · rename_i ln e hu
        simp only [beq_iff_eq] at hb
        obtain ⟨cells', hfill, hR', hs', _, _, harr⟩ := fill_sound (s := s) (a := a) (Imm := Imm) (w := w) (fun i => some (i * esz, esz)) parts.toList (.arr esz els) z' v.cells
          (fun i => rfl) (hR Imm w) hscs (okParts hp) h2 hf
        obtain ⟨els', rfl, _⟩ := harr esz els rfl
        refine upon_of_run (V := .agg cells') (w' := w) ?_ ⟨_, h, hs.put0 h1 h2 h3 (.inr ⟨_, hR', by simp [asVal]⟩)⟩
        simp only [execOp, ho, Instr.build, zeroValue, typeInfo, Sem.run_bind, run_program, Result.andThen_ok, hi, hzv, Sem.run_pure, run_underlying hu, run_sizeOf' hb, Array.toList_map]
        rw [hfill]
        simp
      · cases hb
  · exact h.elim

theorem reps_len (c : List Value) : ∀ n, (reps c n).length = n * c.length
  | 0 => by simp [reps]
  | n + 1 => by simp [reps, reps_len c n, Nat.add_mul, Nat.add_comm]

theorem reps_get (c : List Value) : ∀ (n m : Nat), m < n * c.length → (reps c n)[m]? = c[m % c.length]?
  | 0, m, h => by simp at h
  | n + 1, m, h => by
    simp only [reps]
    by_cases h1 : m < c.length
    · rw [List.getElem?_append_left h1, Nat.mod_eq_of_lt h1]
    · rw [List.getElem?_append_right (by omega), reps_get c n (m - c.length) (by rw [Nat.add_mul] at h; omega)]
      congr 1
      rw [← Nat.mod_eq_sub_mod (by omega)]

theorem range_reps (z : Array Value) (n k : Nat) (hk : z.size = k) : ((Array.range (n * k)).map (fun i => z[i % z.size]!)).toList = reps z.toList n := by
  apply List.ext_getElem?
  intro m
  by_cases hm : m < n * k
  · rw [reps_get _ _ _ (by simpa [hk] using hm)]
    have hpos : 0 < z.size := by
      rcases Nat.eq_zero_or_pos z.size with h0 | h0
      · rw [hk] at h0; subst h0; simp at hm
      · exact h0
    have hlt : m % z.size < z.size := Nat.mod_lt _ hpos
    simp [hm, Array.length_toList, getElem!_pos, hlt]
  · rw [List.getElem?_eq_none (by simp; omega), List.getElem?_eq_none (by rw [reps_len]; simp [hk]; omega)]

theorem sound_bslice {t e : TypeId} {n esz : Nat} {z : AV} {parts : Array (Nat × Operand)} (ho : o.op = .buildSlice t n parts) (ht : P.underlying t = some (.slice e)) (hz : zeroOf P e = some (esz, z)) (hsmall : n * esz ≤ 16777216) (hp : parts.toList.all (fun p => okO p.2) = true)
    (h : AI.go P ro s o.dst K (.bslice esz z n parts.toList)) (hs : SRel w0 regs St s a w) : o.wp P a w (fun a' w' => ∃ s', K s' ∧ SRel w0 regs St s' a' w') Q := by
  obtain ⟨Imm, h1, h2, h3⟩ := hs.ex
  obtain ⟨i, v, hi, hzv, hn, htup, hl, hR⟩ := zeroOf_spec hz
  simp only [AI.go] at h
  split at h
  · rename_i k els hf
    have hzR := hR Imm w
    have hreps : R Imm w (.arr esz (List.replicate n z)) (reps v.cells.toList n) := reps_R hzR hl (hzR.scs htup) n
    have hsz : v.cells.size = esz := by rw [← Array.length_toList]; exact hl
    let cells : Array Value := (Array.range (n * esz)).map ((if n * esz = 0 then #[] else v.cells)[· % (if n * esz = 0 then #[] else v.cells).size]!)
    have hcells : cells.toList = reps v.cells.toList n := by
      by_cases h0 : n * esz = 0
      · have e1 : cells.toList = [] := by simp [cells, h0]
        rw [e1]
        have : (reps v.cells.toList n).length = 0 := by rw [reps_len, hl]; exact h0
        exact (List.eq_nil_of_length_eq_zero this).symm
      · simp only [cells, if_neg h0]
        exact range_reps v.cells n esz hsz
    obtain ⟨cells', hfill, hR', hs', _, _, harr⟩ := fill_sound (s := s) (a := a) (Imm := Imm) (w := w) (fun i => some (i * esz, esz)) parts.toList (.arr esz (List.replicate n z)) (.arr k els) cells
      (fun i => rfl) (by rw [hcells]; exact hreps) (by rw [hcells]; exact hreps.scs rfl) (okParts hp) h2 hf
    obtain ⟨els', heq, hlen⟩ := harr esz _ rfl
    cases heq
    have hlen' : els.length = n := by rw [hlen]; simp
    have hnew := SRel.newList (dst := o.dst) hs h1 h2 h3 (rest := []) hR' e n (by omega) (fr := (0, 0))
    simp only [List.append_nil, Array.toArray_toList, hlen'] at hnew
    refine upon_of_run (V := .slice (some ⟨w.heap.size, 0, none⟩) n n) (w' := w.alloc (.cells cells' e)) ?_ ⟨_, h, hnew⟩
    have hsm : ¬ (n * esz > 16777216) := by omega
    have hsm' : ¬ (16777216 < n * esz) := by omega
    have hsize := run_sizeOf' (P := P) (w := w) (t := e) (n := esz) (by simp [szOf, hi, hn])
    by_cases h0 : n * esz = 0
    · simp only [cells, if_pos h0] at hfill
      simp only [execOp, ho, Instr.buildSlice, Sem.run_bind, run_underlying ht, Result.andThen_ok, hsize]
      simp [hsm', h0, newRow]
      simp only [h0] at hfill
      simp at hfill
      rw [hfill]
      simp
    · simp only [cells, if_neg h0] at hfill
      simp only [execOp, ho, Instr.buildSlice, Sem.run_bind, run_underlying ht, Result.andThen_ok, hsize]
      simp [hsm', h0, newRow, zeroValue, typeInfo, hi, hzv, hfill]
  · exact h.elim

/-- A row is laid into the heap. -/
theorem Blk.rowOk {w' : World} {e : TypeId} {V : Value} {esz sl : Nat} {els : List AV} {cs : List Value} (hR : R Imm w' (.arr esz els) cs) (hown : w'.ownsRow 0 e esz V els.length cs) (hsc : sc V = true) (hsl : sl ≤ els.length)
    (hm : ∀ g, V.ownBlock = some g → ∀ o, sl * esz ≤ o → ¬ Imm g o) : (Blk.row e V esz els sl).ok Imm w' := ⟨cs, hR, hown, hsc, hsl, fun b o hb ho => hm b hb o ho⟩

theorem ownsRow_base {w : World} {b b' : Nat} {e : TypeId} {size : Nat} {v : Value} {n : Nat} {xs : List Value} (h : w.ownsRow b e size v n xs) (hb : ∀ g, v.ownBlock = some g → b' ≤ g) : w.ownsRow b' e size v n xs := by
  refine ⟨h.1, ?_⟩
  rcases h.2 with hn | ⟨g, cap, cur, rfl, _, rest⟩
  · exact .inl hn
  · exact .inr ⟨g, cap, cur, rfl, hb g rfl, rest⟩

theorem ImmOk.lt (h : ImmOk w0 St Imm w) {b o : Nat} (hb : Imm b o) : b < w.heap.size := by
  obtain ⟨y, hy⟩ := Option.isSome_iff_exists.1 (h.there b o hb)
  exact World.block_lt_of_cell? w _ hy

theorem sound_append {t e : TypeId} {esz bytes : Nat} {i : TypeInfo} {z : Value} {x y : Operand} {c : Call} (ho : o.op = .call c) (hc : c.callee = .builtin .append) (ha : c.args.toList = [x, y]) (hty : c.argTypes.toList = [t, t])
    (ht : P.underlying t = some (.slice e)) (hi : P.info? e = some i) (hz : i.zero = some z) (hsize : i.size = esz) (hby : i.bytes = bytes) (hzs : z.cells.size = esz) (hx : okO x = true) (hy : okO y = true)
    (h : AI.go P ro s o.dst K (.append e esz bytes x y)) (hs : SRel w0 regs St s a w) : o.wp P a w (fun a' w' => ∃ s', K s' ∧ SRel w0 regs St s' a' w') Q := by
  obtain ⟨Imm, h1, h2, h3, hseal⟩ := hs.seals
  have hX := h2.eval x (okO_sc hx)
  have hY := coe_sound (ro := ro) h3 hseal (h2.eval y (okO_sc hy))
  have ha' : c.args = #[x, y] := by rw [← Array.toArray_toList (xs := c.args), ha]
  have ht' : c.argTypes = #[t, t] := by rw [← Array.toArray_toList (xs := c.argTypes), hty]
  simp only [AI.go] at h
  split at h <;> try exact h.elim
  rename_i ob els sl esz' ys hrow hcoe
  obtain ⟨rfl, h63, hbytes, hK⟩ := h
  rw [hcoe] at hY
  -- the source
  obtain ⟨news, hnR, hnl, hns, hysrc⟩ : ∃ news, R Imm w (.arr esz' ys) news ∧ news.length = ys.length * esz' ∧ (∀ u ∈ news, sc u = true) ∧
      ((a.eval y = .slice none 0 0 ∧ ys.length = 0) ∨ ∃ b o c, a.eval y = .slice (some ⟨b, o, none⟩) ys.length c ∧ ∀ j u, news[j]? = some u → w.cell? ⟨b, o + j, none⟩ = some u) := by
    rcases R.slLen hY with ⟨e1, rfl⟩ | ⟨b, off, cap, cs, e1, _, hR, hat⟩
    · exact ⟨[], .arr0 _, by simp, by simp, .inl ⟨e1, rfl⟩⟩
    · refine ⟨cs, hR, ?_, hR.scs rfl, .inr ⟨b, off, cap, e1, fun j u hu => (hat j u hu).1⟩⟩
      have := hR.len rfl
      simpa [AV.sz] using this
  -- the target
  obtain ⟨xs, V0, hV0, hxR, hown, hscV, hsl, hm, hnew0⟩ : ∃ xs V0, a.eval x = V0 ∧ R Imm w (.arr esz' els) xs ∧ w.ownsRow 0 e esz' V0 els.length xs ∧ sc V0 = true ∧ sl ≤ els.length ∧ (∀ g, V0.ownBlock = some g → ∀ o, sl * esz' ≤ o → ¬ Imm g o) ∧
      ((V0.ownBlock = none) ∨ ∃ b, ob = some b ∧ (s.hp[b]?).join = some (.row e V0 esz' els sl)) := by
    unfold AS.rowOf at hrow
    split at hrow
    · rename_i hex
      simp only [Option.some.injEq, Prod.mk.injEq] at hrow
      obtain ⟨rfl, rfl, rfl⟩ := hrow
      rw [hex] at hX
      obtain ⟨e1, _⟩ := hX.lit
      exact ⟨[], _, e1, .arr0 _, World.ownsRow_nil w 0 e esz', rfl, by simp, by simp [Value.ownBlock], .inl rfl⟩
    · rename_i b V hex
      split at hrow <;> try (cases hrow; done)
      rename_i e' V' esz2 els2 sl2 hblk
      split at hrow <;> try (cases hrow; done)
      rename_i hcond
      obtain ⟨rfl, rfl, rfl⟩ := hcond
      simp only [Option.some.injEq, Prod.mk.injEq] at hrow
      obtain ⟨rfl, rfl, rfl⟩ := hrow
      rw [hex] at hX
      rcases hX with hX | ⟨cs', hX, e1⟩
      · cases hX
      cases hX
      obtain ⟨hok, _⟩ := h3.ok b _ hblk
      obtain ⟨cs, hR, hown, hsc, hsl, hm⟩ := hok
      exact ⟨cs, V', e1, hR, hown, hsc, hsl, fun g hg o ho => hm g o hg ho, .inr ⟨b, rfl, hblk⟩⟩
    · cases hrow
  have hVnew : ∀ g, V0.ownBlock = some g → w0.heap.size ≤ g ∧ g < w.heap.size := fun g hg => by
    rcases hnew0 with h' | ⟨b, rfl, hb⟩
    · rw [h'] at hg; cases hg
    · exact h3.rowNew hb hg
  obtain ⟨V', w', hrun, hap⟩ := run_append (P := P) (w := w) 0 t o.type e i z esz' bytes ht hi hz hsize hby hzs V0 els.length xs hown hscV (a.eval y) ys.length news hnl hns hysrc h63 hbytes (Nat.zero_le _)
  have hImmW : ∀ b o, Imm b o → w'.cell? ⟨b, o, none⟩ = w.cell? ⟨b, o, none⟩ := fun b o hi => by
    refine hap.cell b o (h1.lt hi) fun he => ?_
    rcases Nat.lt_or_ge o (els.length * esz') with hlt | hge
    · exact hlt
    · exact absurd hi (hm b he.symm o (Nat.le_trans (Nat.mul_le_mul_right _ hsl) hge))
  have hI' : ImmOk w0 St Imm w' := ⟨h1.sub, h1.old, fun b o hb => by rw [hImmW b o hb]; exact h1.there b o hb⟩
  have hV'lt : ∀ g, V'.ownBlock = some g → g < w'.heap.size ∧ w0.heap.size ≤ g := fun g hg => by
    rcases hap.where_ with h' | ⟨g', h', hge, hlt⟩
    · rw [h'] at hg
      have := hVnew g hg
      exact ⟨Nat.lt_of_lt_of_le this.2 hap.hsize, this.1⟩
    · rw [hg] at h'; cases h'
      exact ⟨hlt, Nat.le_trans hs.frame.size hge⟩
  have hfr : Fr regs w0 w' := run_frame_of hap (fun g hg => (hVnew g hg).1) hs.frame
  -- the other blocks
  have hother : ∀ (k : Nat) (x : Blk), ((hpDrop s.hp ob)[k]?).join = some x → x.ok Imm w' ∧ (∀ b o, x.foot b o → b < w'.heap.size ∧ (w0.heap.size ≤ b ∨ inReg regs b o)) ∧ (∀ g o, V0.ownBlock = some g → ¬ x.foot g o) ∧ (∀ b o, x.foot b o → b < w.heap.size) := by
    intro k x hx
    have hx' : (s.hp[k]?).join = some x ∧ ∀ b, ob = some b → k ≠ b := by
      cases ob with
      | none => exact ⟨hx, by simp⟩
      | some b => exact ⟨(hp_set_none hx).2, fun b' hb' => by cases hb'; exact (hp_set_none hx).1⟩
    obtain ⟨hok, hf⟩ := h3.ok k x hx'.1
    have hdis : ∀ g o, V0.ownBlock = some g → ¬ x.foot g o := fun g o hg hfx => by
      rcases hnew0 with h' | ⟨b, hb, hblk⟩
      · rw [h'] at hg; cases hg
      · exact h3.apart b k _ x (Ne.symm (hx'.2 b hb)) hblk hx'.1 g o hg hfx
    have hne : ∀ b o, x.foot b o → some b ≠ V0.ownBlock := fun b o hfx he => hdis b o he.symm hfx
    refine ⟨hok.keep (fun _ _ h => h) hImmW (fun _ _ _ h => h) (fun b o hfx => hap.cell b o (hf b o hfx).1 (fun he => absurd he (hne b o hfx))) (fun b o hfx => hap.frozen _ (hf b o hfx).1) ?_, fun b o hfx => ⟨Nat.lt_of_lt_of_le (hf b o hfx).1 hap.hsize, (hf b o hfx).2⟩, hdis, fun b o hfx => (hf b o hfx).1⟩
    intro e1 V1 esz1 els1 s1 he b hb
    subst he
    exact hap.block b (hf b 0 hb).1 (hne b 0 hb)
  have hbase : HeapOk w0 regs Imm (hpDrop s.hp ob) w' := ⟨fun k x hx => ⟨(hother k x hx).1, (hother k x hx).2.1⟩, fun k k' x y hne hx hy => by
    cases ob with
    | none => exact h3.apart k k' x y hne hx hy
    | some b => exact (h3.drop b).apart k k' x y hne hx hy⟩
  have hnewRow : (Blk.row e V' esz' (els ++ ys) sl).ok Imm w' := by
    refine Blk.rowOk ((hxR.app hnR).mono (fun _ _ h => h) hImmW) (by rw [List.length_append]; exact hap.own) hap.sc (by rw [List.length_append]; omega) fun g hg o ho hi => ?_
    rcases hap.where_ with h' | ⟨g', h', hge, _⟩
    · rw [h'] at hg; exact hm g hg o ho hi
    · rw [hg] at h'; cases h'
      have := h1.lt hi
      omega
  have hH : HeapOk w0 regs Imm ((hpDrop s.hp ob).set (s.slot o.dst) (some (.row e V' esz' (els ++ ys) sl))) w' := by
    refine hbase.lay hnewRow (fun b o hf => hV'lt b hf) fun k y hk hy b o hf hfy => ?_
    obtain ⟨_, _, hd, hlt⟩ := hother k y hy
    rcases hap.where_ with h' | ⟨g', h', hge, _⟩
    · simp only [Blk.foot] at hf
      rw [h'] at hf
      exact hd b o hf hfy
    · simp only [Blk.foot] at hf
      rw [hf] at h'; cases h'
      have := hlt b o hfy
      omega
  refine upon_of_run (V := V') (w' := w') ?_ ⟨_, hK V', ?_⟩
  · simp [execOp, ho, resolve, hc, invoke, builtin, ha', ht', hV0, hrun]
  · exact ⟨by rw [aput_defers]; exact hs.defers, by rw [aput_size, put_len]; exact hs.tsize, hfr, Imm, hI', h2.put hs.tsize (fun _ _ h => h) hImmW (.inr (.inr ⟨_, .own _ V' hap.sc, rfl⟩)), hH⟩

theorem sound_mkslice {t e : TypeId} {esz bytes : Nat} {i : TypeInfo} {z : AV} {l c : Operand} (ho : o.op = .makeSlice t l c) (ht : P.underlying t = some (.slice e)) (hz : zeroOf P e = some (esz, z)) (hi : P.info? e = some i) (hby : i.bytes = bytes) (hl : okO l = true) (hc : okO c = true)
    (h : AI.go P ro s o.dst K (.mkslice e esz bytes z l c)) (hs : SRel w0 regs St s a w) : o.wp P a w (fun a' w' => ∃ s', K s' ∧ SRel w0 regs St s' a' w') Q := by
  obtain ⟨Imm, h1, h2, h3⟩ := hs.ex
  have hL := h2.eval l (okO_sc hl)
  have hC := h2.eval c (okO_sc hc)
  obtain ⟨i', v, hi', hzv, hn, htup, hlz, hR⟩ := zeroOf_spec hz
  have : i' = i := by rw [hi] at hi'; exact (Option.some.inj hi').symm
  subst this
  simp only [AI.go] at h
  split at h <;> try exact h.elim
  rename_i k1 n k2 m hl1 hc1
  obtain ⟨h0, hnm, hmax, hb, hK⟩ := h
  rw [hl1] at hL; rw [hc1] at hC
  obtain ⟨eL, _⟩ := hL.lit
  obtain ⟨eC, _⟩ := hC.lit
  have hm63 : m ≤ 9223372036854775807 := by simp only [maxLen] at hmax; omega
  have hrun := run_make (P := P) w t e i' v ht hi hzv k1 k2 n m h0 hnm (by rw [hby]; omega) hm63
  let w' := w.alloc (.cells (madeCells v.cells (m.toNat * i'.size)) e)
  have hfr : Fr [] w w' := Fr.alloc [] w _
  have hk := hfr.keepImm h1
  have hI' := h1.grow hfr
  have hzR := hR Imm w'
  have hsz : v.cells.size = esz := by rw [← Array.length_toList]; exact hlz
  have hcells : (madeCells v.cells (m.toNat * i'.size)).toList = reps v.cells.toList m.toNat := by
    rw [hn]; exact range_reps v.cells m.toNat esz hsz
  have hreps : R Imm w' (.arr esz (List.replicate n.toNat z)) (reps v.cells.toList n.toNat) := reps_R hzR hlz (hzR.scs htup) _
  have htake : (reps v.cells.toList m.toNat).take (n.toNat * esz) = reps v.cells.toList n.toNat := by
    apply List.ext_getElem?
    intro j
    rw [List.getElem?_take]
    have hle : n.toNat * v.cells.toList.length ≤ m.toNat * v.cells.toList.length := Nat.mul_le_mul_right _ (by omega)
    split
    · rename_i hj
      rw [reps_get _ _ _ (by rw [hlz] at *; omega), reps_get _ _ _ (by rw [hlz]; omega)]
    · rename_i hj
      rw [List.getElem?_eq_none (by rw [reps_len, hlz]; omega)]
  have hrow : (Blk.row e (.slice (some ⟨w.heap.size, 0, none⟩) n.toNat m.toNat) esz (List.replicate n.toNat z) 0).ok Imm w' := by
    refine Blk.rowOk hreps ⟨by rw [reps_len, hlz]; simp, .inr ⟨w.heap.size, m.toNat, _, by simp, Nat.zero_le _, heap_alloc_new w _, by simp; omega, hmax, ?_, ?_⟩⟩ rfl (Nat.zero_le _) ?_
    · rw [size_madeCells, hn]
    · rw [hcells, List.length_replicate]; exact htake
    · intro g hg o _ hi
      cases hg
      exact absurd (h1.lt hi) (Nat.lt_irrefl _)
  refine upon_of_run (V := .slice (some ⟨w.heap.size, 0, none⟩) n.toNat m.toNat) (w' := w') ?_ ⟨_, hK (.slice (some ⟨w.heap.size, 0, none⟩) n.toNat m.toNat), ?_⟩
  · simp [execOp, ho, eL, eC, hrun, w']
  · refine hs.put (Imm' := Imm) (hfr.any _) h2 (fun _ _ h => h) hk hI' ?_ (.inr (.inr ⟨_, .own _ _ rfl, rfl⟩))
    refine HeapOk.lay (h3.grow hfr (fun _ _ h => h) (fun _ _ h _ => h) h1.there) hrow ?_ ?_
    · rintro b o hf
      cases hf
      exact ⟨by simp [w'], hs.frame.size⟩
    · rintro k y hk' hy b o hf hfy
      cases hf
      have := ((h3.ok k y hy).2 _ _ hfy).1
      simp at this

theorem sound_eqv {t u : TypeId} {neg : Bool} {x y : Operand} (ho : o.op = .binOp (if neg then .neq else .eql) t x y u) (hk : P.keyTypeAt 12 t = true) (hg : P.eqGuardType P.depth t = false) (hx : okO x = true) (hy : okO y = true)
    (h : AI.go P ro s o.dst K (.eqv t neg x y)) (hs : SRel w0 regs St s a w) : o.wp P a w (fun a' w' => ∃ s', K s' ∧ SRel w0 regs St s' a' w') Q := by
  obtain ⟨Imm, h1, h2, h3⟩ := hs.ex
  have hX := h2.eval x (okO_sc hx)
  have hY := h2.eval y (okO_sc hy)
  simp only [AI.go] at h
  obtain ⟨b, hb, hxa, hya, hK⟩ := h
  rcases hX with hX | ⟨cs, hX, eX⟩
  · rw [hX] at hxa; simp [AV.isAgg] at hxa
  rcases hY with hY | ⟨cs', hY, eY⟩
  · rw [hY] at hya; simp [AV.isAgg] at hya
  obtain ⟨D, D', la, lb, f1, f2, k1, k2, hiff⟩ := hb Imm w cs cs' hX hY
  have hvx : ∃ xs : Array Value, asVal (s.ev x) cs = .agg xs := by cases hsx : s.ev x <;> simp_all [AV.isAgg, asVal]
  have hvy : ∃ ys : Array Value, asVal (s.ev y) cs' = .agg ys := by cases hsy : s.ev y <;> simp_all [AV.isAgg, asVal]
  have htx : (s.ev x).isTup = false := by cases hsx : s.ev x <;> simp_all [AV.isAgg, AV.isTup]
  have hty : (s.ev y).isTup = false := by cases hsy : s.ev y <;> simp_all [AV.isAgg, AV.isTup]
  obtain ⟨r, hr, hriff⟩ := run_equalIn_deep (P := P) (10000 - 12) 12 t hk w D D' (asVal (s.ev x) cs) (asVal (s.ev y) cs') la lb f1 f2 (by rw [hX.cells htx]; simpa using k1) (by rw [hY.cells hty]; simpa using k2)
  have hrb : r = b := by
    cases r <;> cases b <;> simp_all
  subst hrb
  obtain ⟨xs, hxs⟩ := hvx
  obtain ⟨ys, hys⟩ := hvy
  rw [hxs, hys] at hr
  have hg' : ∀ op, (eqGuard op t x y (.agg xs) (.agg ys)).run P w = .ok () w := fun op => run_eqGuard_agg w op t x y xs ys hg
  refine upon_of_run (V := .bool (if neg then !r else r)) (w' := w) ?_ ⟨_, hK, hs.put0 h1 h2 h3 (Rel.mkLit rfl)⟩
  have r1 := run_eql_struct (P := P) w t xs ys
  have r2 := run_neq_struct (P := P) w t xs ys
  have hr' : (Op.equalIn 10000 t (.agg xs) (.agg ys)).run P w = .ok r w := hr
  rw [hr'] at r1 r2
  cases neg <;> simp [execOp, ho, eX, eY, hxs, hys, hg', r1, r2]

/-- A function that the machine enters. -/
def callable (P : Program) (f : FuncId) : Bool :=
  match P.funcs[f]? with
  | some fn => fn.name != "runtime.NumGoroutine" && fn.body.isSome
  | none => false

theorem run_call {f : FuncId} {args : Array Operand} {c : Call} (ho : o.op = .call c) (hc : c.callee = .value (.func f)) (ha : c.args = args) (hf : callable P f = true) :
    (execOp a.eval o).run P w = .ok (.enter f (args.map a.eval)) w := by
  unfold callable at hf
  split at hf
  · rename_i fn hfn
    simp only [Bool.and_eq_true, bne_iff_ne, ne_eq, Option.isSome_iff_exists] at hf
    obtain ⟨hname, body, hbody⟩ := hf
    simp [execOp, ho, resolve, hc, ha, Deferred.ofValue, Act.eval, invoke, callFunc, hfn, hname, hbody]
  · cases hf

theorem argsOk {Imm : Nat → Nat → Prop} (h3 : HeapOk w0 regs Imm s.hp w)
    (hrow : ∀ (k : Nat) e V esz els, s.blk k = some (.row e V esz els els.length) → ∃ cs, R Imm w (.arr esz els) cs ∧ ∀ g cap, V = .slice (some ⟨g, 0, none⟩) els.length cap → At Imm w g 0 cs)
    (h2 : TmOk Imm w s.tm a.tmps) : ∀ (args : List Operand), args.all okO = true → ArgsOk Imm w (args.map fun x => s.coe ro (s.ev x)) (args.map a.eval)
  | [], _ => trivial
  | x :: xs, h => by
    simp only [List.all_cons, Bool.and_eq_true] at h
    exact ⟨coe_sound h3 hrow (h2.eval x (okO_sc h.1)), argsOk h3 hrow h2 xs h.2⟩

theorem sound_nilc {x : Operand} (ho : o.op = .nilCheck x) (hx : okO x = true)
    (h : AI.go P ro s o.dst K (.nilc x)) (hs : SRel w0 regs St s a w) : o.wp P a w (fun a' w' => ∃ s', K s' ∧ SRel w0 regs St s' a' w') Q := by
  obtain ⟨Imm, h1, h2, h3⟩ := hs.ex
  have hX := h2.eval x (okO_sc hx)
  simp only [AI.go] at h
  split at h
  · rename_i b l off p hex
    rw [hex] at hX
    have hX' := hX
    rcases hX with hX | ⟨cs, hX, e⟩
    · cases hX
    cases hX
    have e' : a.eval x = .pointer (some ⟨l.1, l.2 + off, none⟩) := e
    refine upon_of_run (V := a.eval x) (w' := w) (by simp [execOp, ho, e']) ⟨_, h, hs.put0 h1 h2 h3 hX'⟩
  · rename_i n v hex
    rw [hex] at hX
    have hX' := hX
    rcases hX with hX | ⟨cs, hX, e⟩
    · cases hX
    cases hX with
    | cptr _ _ cs b off _ _ _ _ =>
      have e' : a.eval x = .pointer (some ⟨b, off, none⟩) := e
      refine upon_of_run (V := a.eval x) (w' := w) (by simp [execOp, ho, e']) ⟨_, h, hs.put0 h1 h2 h3 hX'⟩
  · exact h.elim

/-- A function that the model itself stands in for, by its name. -/
def externFn (P : Program) (f : FuncId) (name : String) : Bool :=
  match P.funcs[f]? with
  | some fn => fn.name == name && fn.origin == "" && fn.body.isNone
  | none => false

theorem find_add64 {fn : Func} (hn : fn.name = "math/bits.Add64") : Extern.find fn = some add64Entry := by
  have h1 : Extern.allGenericRows.lookup "math/bits.Add64" = none := by kernel_rfl
  have h2 : Extern.allTypedRows.lookup "math/bits.Add64" = none := by kernel_rfl
  have h3 : Extern.allRows.lookup "math/bits.Add64" = some add64Entry := by kernel_rfl
  simp only [Extern.find, hn, h1, h2, h3]
  rfl

theorem findNext_add64 {fn : Func} (hn : fn.name = "math/bits.Add64") (ho : fn.origin = "") : Extern.findNext fn = none := by
  have h1 : Extern.allNextRows.lookup "math/bits.Add64" = none := by kernel_rfl
  have h2 : Extern.allNextRows.lookup "" = none := by kernel_rfl
  simp only [Extern.findNext, hn, ho, h1, h2]
  rfl

theorem sound_add64 {f : FuncId} {x y z : Operand} {c : Call} (ho : o.op = .call c) (hc : c.callee = .value (.func f)) (ha : c.args.toList = [x, y, z]) (hf : externFn P f "math/bits.Add64" = true) (hok : (okO x && okO y && okO z) = true)
    (h : AI.go P ro s o.dst K (.add64 x y z)) (hs : SRel w0 regs St s a w) : o.wp P a w (fun a' w' => ∃ s', K s' ∧ SRel w0 regs St s' a' w') Q := by
  obtain ⟨Imm, h1, h2, h3⟩ := hs.ex
  simp only [Bool.and_eq_true] at hok
  have hX := h2.eval x (okO_sc hok.1.1)
  have hY := h2.eval y (okO_sc hok.1.2)
  have hZ := h2.eval z (okO_sc hok.2)
  simp only [AI.go] at h
  split at h <;> try exact h.elim
  rename_i p q r hp hq hr
  rw [hp] at hX; rw [hq] at hY; rw [hr] at hZ
  obtain ⟨eX, _⟩ := hX.lit
  obtain ⟨eY, _⟩ := hY.lit
  obtain ⟨eZ, _⟩ := hZ.lit
  split at h <;> try exact h.elim
  rename_i hb
  obtain ⟨b1, b2, b3, b4⟩ := hb
  have ha' : c.args = #[x, y, z] := by rw [← Array.toArray_toList (xs := c.args), ha]
  unfold externFn at hf
  split at hf <;> try (cases hf; done)
  rename_i fn hfn
  simp only [Bool.and_eq_true, beq_iff_eq] at hf
  obtain ⟨⟨hn, horig⟩, hbody⟩ := hf
  have hrun : (add64Entry #[.int .u64 p, .int .u64 q, .int .u64 r]).run P w = .ok (.tuple #[.int .u64 ((p + q + r) % 18446744073709551616), .int .u64 ((p + q + r) / 18446744073709551616)]) w := by
    obtain ⟨p', rfl⟩ := Int.eq_ofNat_of_zero_le b1
    obtain ⟨q', rfl⟩ := Int.eq_ofNat_of_zero_le b2
    obtain ⟨r', rfl⟩ := Int.eq_ofNat_of_zero_le b3
    have : r' = 0 ∨ r' = 1 := by omega
    rcases this with rfl | rfl <;> rfl
  have hcall := run_callFunc_extern (P := P) hfn (by rw [hn]; rfl) hbody (findNext_add64 hn horig) (find_add64 hn) #[.int .u64 p, .int .u64 q, .int .u64 r] w
  rw [hrun] at hcall
  refine upon_of_run (V := .tuple #[.int .u64 ((p + q + r) % 18446744073709551616), .int .u64 ((p + q + r) / 18446744073709551616)]) (w' := w) ?_ ⟨_, h, hs.put0 h1 h2 h3 (.inr ⟨[.int .u64 ((p + q + r) % 18446744073709551616), .int .u64 ((p + q + r) / 18446744073709551616)], ?_, rfl⟩)⟩
  · simp only [execOp, ho, resolve, hc, ha', Deferred.ofValue, Act.eval, invoke]
    simp [eX, eY, eZ, hcall]
  · exact .tup1 _ _ _ _ (.lit _ rfl) (.tup1 _ _ _ _ (.lit _ rfl) .tup0)

theorem seal1_tm (s : AS) (b : Nat) : (s.seal1 b).tm = s.tm := by unfold AS.seal1; split <;> rfl
theorem seal1_nr (s : AS) (b : Nat) : (s.seal1 b).nr = s.nr := by unfold AS.seal1; split <;> rfl
theorem seals_tm : ∀ (bs : List Nat) (s : AS), (s.seals bs).tm = s.tm
  | [], _ => rfl
  | b :: bs, s => by rw [AS.seals, seals_tm bs, seal1_tm]
theorem seals_nr : ∀ (bs : List Nat) (s : AS), (s.seals bs).nr = s.nr
  | [], _ => rfl
  | b :: bs, s => by rw [AS.seals, seals_nr bs, seal1_nr]

theorem SRel.seal1 (h : SRel w0 regs St s a w) (b : Nat) : SRel w0 regs St (s.seal1 b) a w := by
  unfold AS.seal1
  split
  · rename_i e V esz els sl hblk
    obtain ⟨Imm, h1, h2, h3⟩ := h.ex
    have hb : b < s.hp.length := by
      rcases Nat.lt_or_ge b s.hp.length with h' | h'
      · exact h'
      · simp [AS.blk, List.getElem?_eq_none h'] at hblk
    refine ⟨h.defers, h.tsize, h.frame, Imm, h1, h2, ⟨fun k x hx => ?_, fun k k' x y hne hx hy b' o' hf => ?_⟩⟩
    · rcases hp_set hx with ⟨rfl, rfl⟩ | ⟨hk, hx'⟩
      · obtain ⟨⟨cs, hR, hown, hsc, hsl, hm⟩, hf⟩ := h3.ok k _ hblk
        exact ⟨⟨cs, hR, hown, hsc, Nat.le_refl _, fun b o hb ho => hm b o hb (Nat.le_trans (Nat.mul_le_mul_right _ hsl) ho)⟩, hf⟩
      · exact h3.ok k x hx'
    · rcases hp_set hx with ⟨rfl, rfl⟩ | ⟨hk, hx'⟩
      · rcases hp_set hy with ⟨rfl, rfl⟩ | ⟨hk', hy'⟩
        · exact absurd rfl hne
        · exact h3.apart k k' _ y hne hblk hy' b' o' hf
      · rcases hp_set hy with ⟨rfl, rfl⟩ | ⟨hk', hy'⟩
        · exact h3.apart k k' x _ hne hx' hblk b' o' hf
        · exact h3.apart k k' x y hne hx' hy' b' o' hf
  · exact h

theorem SRel.sealsAll : ∀ (bs : List Nat) {s : AS}, SRel w0 regs St s a w → SRel w0 regs St (s.seals bs) a w
  | [], _, h => h
  | b :: bs, _, h => SRel.sealsAll bs (h.seal1 b)

theorem sound_call0 {f : FuncId} {args : Array Operand} {c : Call} (ho : o.op = .call c) (hc : c.callee = .value (.func f)) (ha : c.args = args) (hf : callable P f = true) (hok : args.toList.all okO = true)
    (h : ∃ r, PCall P f (args.toList.map fun x => s.coe ro (s.ev x)) r ∧ (match r with
      | .val v => K (s.put o.dst v)
      | .row e esz els => ∀ V, K { s.put o.dst (.own (s.slot o.dst) V) with hp := s.hp.set (s.slot o.dst) (some (.row e V esz els 0)) })) (hs : SRel w0 regs St s a w) : o.wp P a w (fun a' w' => ∃ s', K s' ∧ SRel w0 regs St s' a' w') Q := by
  obtain ⟨Imm, h1, h2, h3, hseal⟩ := hs.seals
  obtain ⟨r, hP, hK⟩ := h
  unfold Oper.wp Oper.upon
  rw [run_call ho hc ha hf]
  have hargs := argsOk (ro := ro) h3 hseal h2 args.toList hok
  have hcall := hP w Imm _ h1.there hargs
  have e1 : (args.toList.map a.eval).toArray = args.map a.eval := by apply Array.ext'; simp
  rw [e1] at hcall
  refine Calls.mono hcall fun e w' ⟨V, Imm', he, hfr, hI', hr⟩ => ?_
  subst he
  have hk := hfr.keepImm h1
  have hII : ∀ b o, Imm b o → Imm' b o := hI'.sub
  have hnew : ∀ b o, Imm' b o → b < w.heap.size → Imm b o := hI'.old
  have hI2 : ImmOk w0 St Imm' w' := ⟨fun b o hb => hII _ _ (h1.sub b o hb), fun b o hb hlt => h1.old b o (hnew b o hb (Nat.lt_of_lt_of_le hlt hs.frame.size)) hlt, hI'.there⟩
  have hH := h3.grow hfr hII hnew h1.there
  show ∃ s', K s' ∧ SRel w0 regs St s' (a.put o.dst V) w'
  cases r with
  | val v =>
    refine ⟨_, hK, ?_⟩
    have := hs.put (dst := o.dst) (v := v) (V := V) (hp' := s.hp) (Imm' := Imm') (hfr.any _) h2 hII hk hI2 hH (.inr hr.1)
    rw [← put_hp s o.dst v] at this
    exact this
  | row e esz els =>
    obtain ⟨hsc, cs, hR, hown, hm⟩ := hr
    refine ⟨_, hK V, ?_⟩
    have hg : ∀ g, V.ownBlock = some g → w.heap.size ≤ g ∧ g < w'.heap.size := fun g hg => hown.lt g hg
    refine hs.put (dst := o.dst) (V := V) (Imm' := Imm') (hfr.any _) h2 hII hk hI2 ?_ (.inr (.inr ⟨_, .own _ V hsc, rfl⟩))
    refine hH.lay (Blk.rowOk hR (ownsRow_base hown (fun _ _ => Nat.zero_le _)) hsc (Nat.zero_le _) fun g hg' o _ => hm g hg' o) (fun b o hf => ⟨(hg b hf).2, Nat.le_trans hs.frame.size (hg b hf).1⟩) fun k y _ hy b o hf hfy => ?_
    have := ((h3.ok k y hy).2 b o hfy).1
    have := (hg b hf).1
    omega

theorem sound_call {f : FuncId} {args : Array Operand} {c : Call} (ho : o.op = .call c) (hc : c.callee = .value (.func f)) (ha : c.args = args) (hf : callable P f = true) (hok : args.toList.all okO = true)
    (h : AI.go P ro s o.dst K (.call f args.toList)) (hs : SRel w0 regs St s a w) : o.wp P a w (fun a' w' => ∃ s', K s' ∧ SRel w0 regs St s' a' w') Q := by
  simp only [AI.go] at h
  obtain ⟨bs, r, hP, hK⟩ := h
  have hslot : (s.seals bs).slot o.dst = s.slot o.dst := by simp only [AS.slot, seals_nr]
  refine sound_call0 (s := s.seals bs) ho hc ha hf hok ⟨r, hP, ?_⟩ (SRel.sealsAll bs hs)
  cases r with
  | val v => exact hK
  | row e esz els => rw [hslot]; exact hK

theorem sound_callv {f : FuncId} {args : Array Operand} {c : Call} (ho : o.op = .call c) (hc : c.callee = .value (.func f)) (ha : c.args = args) (hf : callable P f = true) (hok : args.toList.all okO = true)
    (h : AI.go P ro s o.dst K (.callv f args.toList)) (hs : SRel w0 regs St s a w) : o.wp P a w (fun a' w' => ∃ s', K s' ∧ SRel w0 regs St s' a' w') Q := by
  simp only [AI.go] at h
  obtain ⟨v, hP, hK⟩ := h
  exact sound_call ho hc ha hf hok (by simp only [AI.go]; exact ⟨[], .val v, hP, hK⟩) hs

/-- What holds no address stands for the same anywhere. -/
theorem R.flat {Imm Imm' : Nat → Nat → Prop} {w w' : World} {v : AV} {cs : List Value} (hv : v.flat = true) (h : R Imm w v cs) : R Imm' w' v cs := by
  cases v <;> simp only [AV.flat] at hv <;> try (cases hv; done)
  case lit x => cases h with | lit _ hs => exact .lit x hs
  case arr esz els =>
    induction els generalizing cs with
    | nil => cases h; exact .arr0 esz
    | cons e els ih =>
      simp only [List.all_cons, Bool.and_eq_true] at hv
      cases h with
      | arr1 _ _ _ c d he hc hs hd =>
        refine .arr1 esz e els c d ?_ hc hs (ih hv.2 hd)
        cases e
        case lit x => cases he with | lit _ hs2 => exact .lit _ hs2
        all_goals exact absurd hv.1 (by simp [AV.isLit])

theorem R.plain {Imm Imm' : Nat → Nat → Prop} {w w' : World} {v : AV} {cs : List Value} (hv : v.plain = true) (h : R Imm w v cs) : R Imm' w' v cs := by
  cases v
  case lit x => exact h.flat rfl
  case arr esz els => exact h.flat hv
  case st ns fs =>
    simp only [AV.plain] at hv
    induction fs generalizing cs ns with
    | nil => cases h; exact .st0
    | cons f fs ih =>
      simp only [List.all_cons, Bool.and_eq_true] at hv
      cases h with
      | st1 n ns _ _ c d he hc hs hd => exact .st1 n ns f fs c d (he.flat hv.1) hc hs (ih _ hv.2 hd)
  all_goals exact absurd hv (by simp [AV.plain])

/-- A list that is lent: all that stands in memory stays. -/
theorem lend_sound {Imm : Nat → Nat → Prop} (h1 : ImmOk w0 St Imm w) (h3 : HeapOk w0 regs Imm s.hp w) {v : AV} {V : Value} (hv : Rel Imm w v V) :
    Rel (fun b o => (w.cell? ⟨b, o, none⟩).isSome = true) w (s.lend ro v) V := by
  have hup : Rel (fun b o => (w.cell? ⟨b, o, none⟩).isSome = true) w v V := hv.mono h1.there (fun _ _ _ => rfl)
  unfold AS.lend
  split
  · rename_i b V'
    split
    · split
      · rename_i e V'' esz els sl hk
        split
        · rename_i hc
          subst hc
          obtain ⟨⟨cs, hR, hown, _⟩, _⟩ := h3.ok b _ hk
          rcases hv with hv | ⟨c, hv, e'⟩
          · cases hv
          cases hv
          rcases hown.2 with ⟨rfl, hn⟩ | ⟨g', cap', cur, rfl, _, hgg, hnc, _, _, htake⟩
          · have : els = [] := List.eq_nil_of_length_eq_zero hn
            subst this
            exact .inr ⟨_, .slnil esz, e'⟩
          · refine .inr ⟨_, .sl esz els cs g' 0 cap' (hR.mono h1.there (fun _ _ _ => rfl)) (fun i y hy => ?_) hnc, e'⟩
            have hcell : w.cell? ⟨g', 0 + i, none⟩ = some y := by
              rw [Nat.zero_add, cell_of_row w g' i cur e (0, 0) hgg]
              rw [← htake, List.getElem?_take] at hy
              split at hy
              · simpa using hy
              · cases hy
            exact ⟨hcell, by rw [hcell]; rfl⟩
        · exact .inl rfl
      · exact .inl rfl
    · exact .inl rfl
  · exact hup

theorem lendsOk {Imm : Nat → Nat → Prop} (h1 : ImmOk w0 St Imm w) (h3 : HeapOk w0 regs Imm s.hp w) (h2 : TmOk Imm w s.tm a.tmps) :
    ∀ (args : List Operand), args.all okO = true → ArgsOk (fun b o => (w.cell? ⟨b, o, none⟩).isSome = true) w (args.map fun x => s.lend ro (s.ev x)) (args.map a.eval)
  | [], _ => trivial
  | x :: xs, h => by
    simp only [List.all_cons, Bool.and_eq_true] at h
    exact ⟨lend_sound h1 h3 (h2.eval x (okO_sc h.1)), lendsOk h1 h3 h2 xs h.2⟩

theorem sound_lcall {f : FuncId} {args : Array Operand} {c : Call} (ho : o.op = .call c) (hc : c.callee = .value (.func f)) (ha : c.args = args) (hf : callable P f = true) (hok : args.toList.all okO = true)
    (h : AI.go P ro s o.dst K (.lcall f args.toList)) (hs : SRel w0 regs St s a w) : o.wp P a w (fun a' w' => ∃ s', K s' ∧ SRel w0 regs St s' a' w') Q := by
  simp only [AI.go] at h
  obtain ⟨v, hpl, hP, hK⟩ := h
  obtain ⟨Imm, h1, h2, h3⟩ := hs.ex
  unfold Oper.wp Oper.upon
  rw [run_call ho hc ha hf]
  have hargs := lendsOk (ro := ro) h1 h3 h2 args.toList hok
  have hcall := hP w _ _ (fun _ _ h => h) hargs
  have e1 : (args.toList.map a.eval).toArray = args.map a.eval := by apply Array.ext'; simp
  rw [e1] at hcall
  refine Calls.mono hcall fun e w' ⟨V, Imm', he, hfr, hI', hr⟩ => ?_
  subst he
  have hk := hfr.keepImm h1
  have hI2 : ImmOk w0 St Imm w' := ⟨h1.sub, h1.old, fun b o hb => by rw [hk b o hb]; exact h1.there b o hb⟩
  have hH := h3.grow hfr (fun _ _ h => h) (fun _ _ h _ => h) h1.there
  show ∃ s', K s' ∧ SRel w0 regs St s' (a.put o.dst V) w'
  refine ⟨_, hK, ?_⟩
  have hrel : Rel Imm w' v V := by
    rcases hr.1 with h | ⟨cs, hR, e⟩
    · exact absurd h hr.2
    · exact .inr ⟨cs, hR.plain hpl, e⟩
  have := hs.put (dst := o.dst) (v := v) (V := V) (hp' := s.hp) (Imm' := Imm) (hfr.any _) h2 (fun _ _ h => h) hk hI2 hH (.inr hrel)
  rw [← put_hp s o.dst v] at this
  exact this

end
end Go.Cab
