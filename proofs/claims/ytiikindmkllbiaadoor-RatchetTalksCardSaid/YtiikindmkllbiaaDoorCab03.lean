/- Part 3 of what the proof stands on: LD, LE, M, N. -/
import Derived.Test.YtiikindmkllbiaaDoorCab02
import Derived.Lib.SliceRun
import Derived.Lib.LazyBuf
set_option linter.unusedSimpArgs false
set_option linter.unnecessarySimpa false
set_option linter.unusedVariables false
set_option linter.unusedSectionVars false
namespace Go.Cab
open Go.RowKit
open Classical
section
variable {P : Program} {w0 wk : World} {regs : List (Nat × Nat × Nat)} {St Imm : Nat → Nat → Prop} {s : AS} {a : Act} {w : World} {o : Oper} {K : AS → Prop} {Q : Exit → Act → World → Prop} {ro : Nat → Bool}
theorem sound_mkmap {t : TypeId} (ho : o.op = .makeMap t none)
    (h : AI.go P ro s o.dst K (.ef .mkmap [])) (hs : SRel w0 wk regs St s a w) : o.wp P a w (fun a' w' => ∃ s', K s' ∧ SRel w0 wk regs St s' a' w') Q := by
  obtain ⟨Imm, h1, h2, h3⟩ := hs.ex
  simp only [AI.go] at h
  obtain ⟨r, hp', e1, hK⟩ := h (.map (some w.heap.size))
  have e2 : efA (s.slot o.dst) (.map (some w.heap.size)) s.hp .mkmap ([].map fun x => s.ev x) = some (.own (s.slot o.dst) (.map (some w.heap.size)), s.hp.set (s.slot o.dst) (some (.map w.heap.size [] 0))) := rfl
  rw [e2] at e1
  cases e1
  have hfr : Fr [] w (w.alloc (.map #[] 0)) := Fr.alloc [] w _
  have hk := hfr.keepImm h1
  have hlt : ∀ b' o', Imm b' o' → b' < w.heap.size := fun b' o' hi => h1.lt hi
  refine upon_of_run (V := .map (some w.heap.size)) (w' := w.alloc (.map #[] 0)) ?_ ⟨_, hK, ?_⟩
  · simp [execOp, ho, Instr.makeMap]
  · refine hs.put (Imm' := Imm) (hfr.any _) h2 (fun _ _ h => h) hk (h1.grow hfr) ?_ (.inr (.inr ⟨_, .own _ _ rfl, rfl⟩))
    refine HeapOk.lay (h3.grow hfr (fun _ _ h => h) (fun _ _ h _ => h) h1.there) ⟨⟨heap_alloc_new w _, by simp, .nil⟩, fun o hi => by have := hlt _ _ hi; simp at this⟩ ?_ ?_
    · rintro b o hf
      have hf' : b = w.heap.size := hf
      subst hf'
      exact ⟨by simp, hs.frame.size⟩
    · rintro k y hk' hy b o hf hfy
      have hf' : b = w.heap.size := hf
      subst hf'
      have := ((h3.ok k y hy).2 _ _ hfy).1
      simp at this
theorem fillV_eq : ∀ (parts : List (Nat × Operand)) (z : AV), fillV z (parts.map fun p => (p.1, s.ev p.2)) = fillAV s z parts
  | [], _ => rfl
  | (i, x) :: rest, z => by
    simp only [List.map_cons, fillV, fillAV]
    split
    · split
      · exact fillV_eq rest _
      · rfl
    · rfl
theorem zip_parts (f : Operand → AV) : ∀ l : List (Nat × Operand), (l.map (·.1)).zip ((l.map (·.2)).map f) = l.map fun p => (p.1, f p.2)
  | [] => rfl
  | p :: l => by simp only [List.map_cons, List.zip_cons_cons, zip_parts f l]
theorem sound_aown {t : TypeId} {n esz : Nat} {els : List AV} (ho : o.op = .alloc t) (hz : zeroOf P t = some (n, .arr esz els)) (hl63 : els.length ≤ maxLen)
    (h : AI.go P ro s o.dst K (.ef (.aown t esz els) [])) (hs : SRel w0 wk regs St s a w) : o.wp P a w (fun a' w' => ∃ s', K s' ∧ SRel w0 wk regs St s' a' w') Q := by
  obtain ⟨Imm, h1, h2, h3⟩ := hs.ex
  obtain ⟨i, v, hi, hzv, hn, htup, hl, hR⟩ := zeroOf_spec hz
  simp only [AI.go] at h
  obtain ⟨r, hp', e1, hK⟩ := h (.slice (some ⟨w.heap.size, 0, none⟩) 0 0)
  have e2 : efA (s.slot o.dst) (.slice (some ⟨w.heap.size, 0, none⟩) 0 0) s.hp (.aown t esz els) ([].map fun x => s.ev x) = some (.ptr (s.slot o.dst) (w.heap.size, 0) 0 [], s.hp.set (s.slot o.dst) (some (.row t (allV w.heap.size els.length) esz els 0))) := rfl
  rw [e2] at e1
  cases e1
  have hfr : Fr [] w (w.alloc (.cells v.cells t)) := Fr.alloc [] w _
  have hk := hfr.keepImm h1
  have hzR := hR Imm w
  have hcl : v.cells.size = els.length * esz := by have := hzR.len rfl; simpa [AV.sz] using this
  have hrow : (Blk.row t (allV w.heap.size els.length) esz els 0).ok Imm (w.alloc (.cells v.cells t)) := by
    refine Blk.rowOk (hzR.mono (fun _ _ h => h) hk) ⟨by rw [Array.length_toList, hcl], .inr ⟨w.heap.size, els.length, v.cells, rfl, Nat.zero_le _, heap_alloc_new w _, Nat.le_refl _, hl63, hcl, ?_⟩⟩ rfl (Nat.zero_le _) ?_
    · rw [← hcl, ← Array.length_toList, List.take_length]
    · intro g hg o _ hi
      cases hg
      exact absurd (h1.lt hi) (Nat.lt_irrefl _)
  refine upon_of_run (V := .pointer (some ⟨w.heap.size, 0, none⟩)) (w' := w.alloc (.cells v.cells t)) ?_ ⟨_, hK, ?_⟩
  · simp [execOp, ho, Instr.alloc, zeroValue, typeInfo, hi, hzv, newVar, newRow]
  · refine hs.put (Imm' := Imm) (hfr.any _) h2 (fun _ _ h => h) hk (h1.grow hfr) ?_ (.inr (.inr ⟨_, .ptr _ (w.heap.size, 0) 0 [], rfl⟩))
    refine HeapOk.lay (h3.grow hfr (fun _ _ h => h) (fun _ _ h _ => h) h1.there) hrow ?_ ?_
    · rintro b o hf
      have hf' : w.heap.size = b := by simpa [Blk.foot, allV, Value.ownBlock] using hf
      subst hf'
      exact ⟨by simp, hs.frame.size⟩
    · rintro k y hk' hy b o hf hfy
      have hf' : w.heap.size = b := by simpa [Blk.foot, allV, Value.ownBlock] using hf
      subst hf'
      have := ((h3.ok k y hy).2 _ _ hfy).1
      simp at this
theorem sound_bown {t e : TypeId} {n esz : Nat} {z : AV} {parts : Array (Nat × Operand)} (ho : o.op = .buildSlice t n parts) (ht : P.underlying t = some (.slice e)) (hz : zeroOf P e = some (esz, z)) (hsmall : n * esz ≤ 16777216) (hn63 : n ≤ maxLen) (hp : parts.toList.all (fun p => okO p.2) = true)
    (h : AI.go P ro s o.dst K (.ef (.bown e esz z n (parts.toList.map (·.1))) (parts.toList.map (·.2)))) (hs : SRel w0 wk regs St s a w) : o.wp P a w (fun a' w' => ∃ s', K s' ∧ SRel w0 wk regs St s' a' w') Q := by
  obtain ⟨Imm, h1, h2, h3⟩ := hs.ex
  obtain ⟨i, v, hi, hzv, hn, htup, hl, hR⟩ := zeroOf_spec hz
  simp only [AI.go] at h
  have hd : ∀ V, efA (s.slot o.dst) V s.hp (.bown e esz z n (parts.toList.map (·.1))) ((parts.toList.map (·.2)).map fun x => s.ev x) = match fillAV s (.arr esz (List.replicate n z)) parts.toList with
      | some (.arr _ els) => some (.own (s.slot o.dst) V, s.hp.set (s.slot o.dst) (some (.row e V esz els 0)))
      | _ => none := fun V => by
    rw [← fillV_eq]
    have := zip_parts (fun x => s.ev x) parts.toList
    show (match fillV _ (_ : List (Nat × AV)) with | some (.arr _ els) => _ | _ => none) = _
    rw [this]
  obtain ⟨r0, hp0, e0, _⟩ := h undef
  rw [hd] at e0
  split at e0 <;> try (cases e0; done)
  rename_i k els hf
  have hzR := hR Imm w
  have hreps : R Imm w (.arr esz (List.replicate n z)) (reps v.cells.toList n) := reps_R hzR hl (hzR.scs htup) n
  have hsz : v.cells.size = esz := by rw [← Array.length_toList]; exact hl
  let cells : Array Value := (Array.range (n * esz)).map ((if n * esz = 0 then #[] else v.cells)[· % (if n * esz = 0 then #[] else v.cells).size]!)
  have hcells : cells.toList = reps v.cells.toList n := by
    by_cases h0 : n * esz = 0
    · have e1 : cells.toList = [] := by simp [cells, h0]
      rw [e1]
      have : (reps v.cells.toList n).length = 0 := by rw [reps_len, hl]; exact h0
      exact (List.eq_nil_of_length_eq_zero this).symm
    · simp only [cells, if_neg h0]
      exact range_reps v.cells n esz hsz
  obtain ⟨cells', hfill, hR', hs', _, _, harr⟩ := fill_sound (s := s) (a := a) (Imm := Imm) (w := w) (fun i => some (i * esz, esz)) parts.toList (.arr esz (List.replicate n z)) (.arr k els) cells
    (fun i => rfl) (by rw [hcells]; exact hreps) (by rw [hcells]; exact hreps.scs rfl) (okParts hp) h2 hf
  obtain ⟨els', heq, hlen⟩ := harr esz _ rfl
  cases heq
  have hlen' : els.length = n := by rw [hlen]; simp
  have hcl : cells'.size = n * esz := by have := hR'.len rfl; simp only [AV.sz, hlen', Array.length_toList] at this; exact this
  have hfr : Fr [] w (w.alloc (.cells cells' e)) := Fr.alloc [] w _
  have hk := hfr.keepImm h1
  have hlt : ∀ b' o', Imm b' o' → b' < w.heap.size := fun b' o' hi => h1.lt hi
  have hrow : (Blk.row e (.slice (some ⟨w.heap.size, 0, none⟩) n n) esz els 0).ok Imm (w.alloc (.cells cells' e)) := by
    refine Blk.rowOk (hR'.mono (fun _ _ h => h) hk) ⟨by rw [Array.length_toList, hcl, hlen'], .inr ⟨w.heap.size, n, cells', by rw [hlen'], Nat.zero_le _, heap_alloc_new w _, by omega, hn63, hcl, ?_⟩⟩ rfl (Nat.zero_le _) ?_
    · rw [hlen', ← hcl, ← Array.length_toList, List.take_length]
    · intro g hg o _ hi
      cases hg
      exact absurd (h1.lt hi) (Nat.lt_irrefl _)
  obtain ⟨r1, hp1, e1, hK⟩ := h (.slice (some ⟨w.heap.size, 0, none⟩) n n)
  rw [hd, hf] at e1
  cases e1
  refine upon_of_run (V := .slice (some ⟨w.heap.size, 0, none⟩) n n) (w' := w.alloc (.cells cells' e)) ?_ ⟨_, hK, ?_⟩
  · have hsm : ¬ (n * esz > 16777216) := by omega
    have hsm' : ¬ (16777216 < n * esz) := by omega
    have hsize := run_sizeOf' (P := P) (w := w) (t := e) (n := esz) (by simp [szOf, hi, hn])
    by_cases h0 : n * esz = 0
    · simp only [cells, if_pos h0] at hfill
      simp only [execOp, ho, Instr.buildSlice, Sem.run_bind, run_underlying ht, Result.andThen_ok, hsize]
      simp [hsm', h0, newRow]
      simp only [h0] at hfill
      simp at hfill
      rw [hfill]
      simp
    · simp only [cells, if_neg h0] at hfill
      simp only [execOp, ho, Instr.buildSlice, Sem.run_bind, run_underlying ht, Result.andThen_ok, hsize]
      simp [hsm', h0, newRow, zeroValue, typeInfo, hi, hzv, hfill]
  · refine hs.put (Imm' := Imm) (hfr.any _) h2 (fun _ _ h => h) hk (h1.grow hfr) ?_ (.inr (.inr ⟨_, .own _ _ rfl, rfl⟩))
    refine HeapOk.lay (h3.grow hfr (fun _ _ h => h) (fun _ _ h _ => h) h1.there) hrow ?_ ?_
    · rintro b o hf
      cases hf
      exact ⟨by simp, hs.frame.size⟩
    · rintro k y hk' hy b o hf hfy
      cases hf
      have := ((h3.ok k y hy).2 _ _ hfy).1
      simp at this
theorem setCell_same {b o : Nat} {v : Value} (h : w.cell? ⟨b, o, none⟩ = some v) : w.setCell ⟨b, o, none⟩ v = w := by
  have : (w.heap.modify b fun
      | .cells c elem frozen => .cells (if (none : Option Nat).isSome then c else c.setIfInBounds o v) elem frozen
      | o => o) = w.heap := by
    apply Array.ext_getElem?
    intro k
    rw [Array.getElem?_modify]
    split
    · rename_i hk
      subst hk
      simp only [World.cell?] at h
      cases hb : w.heap[b]? with
      | none => rfl
      | some ob =>
        rw [hb] at h
        cases ob <;> simp only at h <;> try (cases h; done)
        rename_i c e fr
        simp only [Option.isSome_none, Bool.false_eq_true, if_false] at h
        simp only [Option.map_some, Option.isSome_none, Bool.false_eq_true, if_false, Option.some.injEq, Obj.cells.injEq, and_true]
        apply Array.ext_getElem?
        intro j
        rw [Array.getElem?_setIfInBounds]
        split
        · rename_i hj
          subst hj
          split
          · exact h.symm
          · rename_i hn; rw [Array.getElem?_eq_none (by omega)]
        · rfl
    · rfl
  unfold World.setCell
  rw [show w = { w with heap := w.heap } from rfl]
  congr 1
theorem setCells_same (b : Nat) : ∀ (vs : List Value) (o : Nat) (w : World), (∀ i v, vs[i]? = some v → w.cell? ⟨b, o + i, none⟩ = some v) → setCells b o vs w = w
  | [], _, _, _ => rfl
  | v :: vs, o, w, h => by
    have h0 := h 0 v rfl
    rw [Nat.add_zero] at h0
    rw [setCells, setCell_same h0]
    exact setCells_same b vs (o + 1) w fun i u hu => by
      have := h (i + 1) u (by simpa using hu)
      rwa [show o + (i + 1) = o + 1 + i by omega] at this
theorem setCells_app (b : Nat) : ∀ (xs ys : List Value) (o : Nat) (w : World), setCells b o (xs ++ ys) w = setCells b (o + xs.length) ys (setCells b o xs w)
  | [], _, _, _ => rfl
  | x :: xs, ys, o, w => by
    rw [List.cons_append, setCells, setCells, setCells_app b xs ys (o + 1), List.length_cons, show o + 1 + xs.length = o + (xs.length + 1) by omega]
theorem run_firstN {esz n : Nat} {V : Value} {els : List AV} {cs : List Value} (hlen : cs.length = els.length * esz) (hn : n ≤ els.length)
    (hsrc : (∃ sb : ByteArray, V = .string sb ∧ esz = 1 ∧ cs = sb.data.toList.map fun x => Value.int .u8 x.toNat) ∨ (els = [] ∧ ∃ a0, V = .slice a0 0 0) ∨ ∃ b o c, V = .slice (some ⟨b, o, none⟩) els.length c ∧ ∀ j u, cs[j]? = some u → w.cell? ⟨b, o + j, none⟩ = some u) :
    (Builtin.lenOf V).run P w = .ok els.length w ∧ (Builtin.firstCells esz n V).run P w = .ok (cs.take (n * esz)).toArray w := by
  rcases hsrc with ⟨sb, rfl, rfl, rfl⟩ | ⟨rfl, a0, rfl⟩ | ⟨b, o, c, rfl, hcell⟩
  · have hl : els.length = sb.size := by
      simp only [List.length_map, Nat.mul_one] at hlen
      rw [← hlen]; rfl
    refine ⟨by simp [Builtin.lenOf, hl], ?_⟩
    simp only [Builtin.firstCells, Sem.run_pure]
    congr 1
    apply Array.ext'
    simp [ByteArray.data_extract, List.map_take]
  · have : n = 0 := by simpa using hn
    subst this
    exact ⟨by simp [Builtin.lenOf], by cases a0 <;> simp [Builtin.firstCells, loadCells, loadCellsFrom]⟩
  · refine ⟨by simp [Builtin.lenOf], ?_⟩
    refine run_firstCells_some (P := P) w esz n ⟨b, o, none⟩ els.length c (cs.take (n * esz)) ?_ (fun j v hj => ?_)
    · rw [List.length_take, hlen]
      have := Nat.mul_le_mul_right esz hn
      omega
    · rw [List.getElem?_take] at hj
      split at hj <;> try (cases hj; done)
      rw [add_none]; exact hcell j v hj
theorem sound_copy {t t' e : TypeId} {esz : Nat} {x y : Operand} {c : Call} (ho : o.op = .call c) (hc : c.callee = .builtin .copy) (ha : c.args.toList = [x, y]) (hty : c.argTypes.toList = [t, t'])
    (ht : P.underlying t = some (.slice e)) (hz : szOf P e = some esz) (hx : okO x = true) (hy : okO y = true)
    (h : AI.go P ro s o.dst K (.ef (.copy esz) [x, y])) (hs : SRel w0 wk regs St s a w) : o.wp P a w (fun a' w' => ∃ s', K s' ∧ SRel w0 wk regs St s' a' w') Q := by
  obtain ⟨Imm, h1, h2, h3⟩ := hs.ex
  have hX := h2.eval x (okO_sc hx)
  have hY := h2.eval y (okO_sc hy)
  have ha' : c.args = #[x, y] := by rw [← Array.toArray_toList (xs := c.args), ha]
  have ht' : c.argTypes = #[t, t'] := by rw [← Array.toArray_toList (xs := c.argTypes), hty]
  simp only [AI.go] at h
  obtain ⟨r0, hp', hv, hK⟩ := h undef
  replace hv : copyA s.hp esz (s.ev x) (s.ev y) = some (r0, hp') := hv
  unfold copyA at hv
  split at hv <;> try (cases hv; done)
  rename_i b l off p k lo len cap hxe
  split at hv <;> try (cases hv; done)
  rename_i src hsrcL
  split at hv <;> try (cases hv; done)
  rename_i l' n v hb
  split at hv <;> try (cases hv; done)
  rename_i hlk
  obtain ⟨rfl, rfl⟩ := hlk
  split at hv <;> try (cases hv; done)
  rename_i o1 m k' els hnav
  split at hv <;> try (cases hv; done)
  rename_i hcnd
  obtain ⟨rfl, rfl, hle⟩ := hcnd
  cases hv
  obtain ⟨scs, hsR, hsl, hss, hsv⟩ := listB_sound (w0 := w0) (regs := regs) (s := s) (fun b x hb => hb) h3 h1.there hsrcL hY
  rw [hxe] at hX
  have eX : a.eval x = .slice (some ⟨l'.1, l'.2 + (o1 + lo * k'), none⟩) len cap := by
    rcases hX with hX | ⟨cs', hX, e'⟩
    · cases hX
    · cases hX; exact e'
  obtain ⟨hok, hfoot⟩ := h3.ok _ _ hb
  obtain ⟨⟨bcs, hbR, hbl, hbs, hbcell⟩, hbn⟩ := hok
  obtain ⟨pre, ac, post, e1, ho1, hacl, hacR, hacs, hset⟩ := R.nav p v 0 n o1 m _ bcs hbR hbs hbl hnav
  have hacl2 : ac.length = els.length * k' := by have := hacR.len rfl; simpa [AV.sz] using this
  obtain ⟨mn, hmn⟩ : ∃ mn, mn = min len src.length := ⟨_, rfl⟩
  have hmn1 : mn ≤ len := by omega
  have hmn2 : mn ≤ src.length := by omega
  have htk : src.take len = src.take mn := by
    rw [hmn]
    by_cases hll : len ≤ src.length
    · rw [Nat.min_eq_left hll]
    · rw [Nat.min_eq_right (by omega), List.take_of_length_le (by omega), List.take_of_length_le (Nat.le_refl _)]
  rw [htk, ← hmn] at hK
  have hA := (R_arr_drop lo hacR).2
  have hB := (R_arr_drop mn hsR).2
  have hC := (R_arr_drop (lo + mn) hacR).1
  have hnewR := (hA.app hB).app hC
  generalize hnew : els.take lo ++ src.take mn ++ els.drop (lo + mn) = newels at *
  have hnewl : newels.length = els.length := by rw [← hnew]; simp; omega
  have hm : m = els.length * k' := by rw [← hacl, hacl2]
  have hpoke : s.poke m (.arr k' newels) (.ptr b l' o1 p) = some (s.setBlk b (some (.box l' n (v.upd p (.arr k' newels))))) := by
    have hb' : s.blk b = some (.box l' n v) := hb
    simp only [AS.poke, hb', Blk.loc, if_true, Blk.cont, Blk.n, hnav]
    rw [if_pos ⟨trivial, trivial, rfl, by simp only [AV.sz, hnewl, hm], rfl⟩]
    rfl
  obtain ⟨pb, po, pcs, q1, q2, q3, q4, q5, q6, q7, q8, q9, q10, q11⟩ := poke_sound (a := a) hpoke (.inr ⟨_, .ptr b l' o1 p, rfl⟩) (V := .pointer (some ⟨l'.1, l'.2 + o1, none⟩)) (U := .agg _) (.inr ⟨_, hnewR, rfl⟩) h3 h1 h2 hs.frame
  simp only [Value.pointer.injEq, Option.some.injEq, Addr.mk.injEq, and_true] at q1
  obtain ⟨rfl, rfl⟩ := q1
  have hpcs : pcs = ac.take (lo * k') ++ scs.take (mn * k') ++ ac.drop ((lo + mn) * k') := by
    have := congrArg Array.toList q2
    simpa [Value.cells] using this.symm
  have hcellA : ∀ i y, ac[i]? = some y → w.cell? ⟨l'.1, l'.2 + o1 + i, none⟩ = some y := fun i y hy => by
    have h6 : bcs[pre.length + i]? = some y := by
      rw [e1, List.append_assoc, List.getElem?_append_right (by omega), Nat.add_sub_cancel_left, List.getElem?_append_left (List.getElem?_eq_some_iff.1 hy).1]
      exact hy
    have := hbcell _ _ h6
    rwa [show l'.2 + (pre.length + i) = l'.2 + o1 + i by omega] at this
  have hlo : (ac.take (lo * k')).length = lo * k' := by
    rw [List.length_take, hacl2]
    have := Nat.mul_le_mul_right k' (show lo ≤ els.length by omega)
    omega
  have hmid : (scs.take (mn * k')).length = mn * k' := by
    rw [List.length_take, hsl]
    have := Nat.mul_le_mul_right k' hmn2
    omega
  have hw : setCells l'.1 (l'.2 + o1) pcs w = setCells l'.1 (l'.2 + (o1 + lo * k')) (scs.take (mn * k')) w := by
    rw [hpcs, setCells_app, setCells_app, hlo, setCells_same l'.1 (ac.take (lo * k')) (l'.2 + o1) w (fun i y hy => by
      rw [List.getElem?_take] at hy
      split at hy <;> try (cases hy; done)
      exact hcellA i y hy), show l'.2 + o1 + lo * k' = l'.2 + (o1 + lo * k') by omega]
    apply setCells_same
    intro i y hy
    rw [List.getElem?_drop] at hy
    rw [setCells_out _ _ _ _ _ _ (by rw [List.length_append, hlo, hmid]; omega), List.length_append, hlo, hmid]
    have := hcellA _ _ hy
    rwa [show l'.2 + o1 + ((lo + mn) * k' + i) = l'.2 + o1 + (lo * k' + mn * k') + i by rw [Nat.add_mul]; omega] at this
  obtain ⟨r1, r2⟩ := run_firstN (P := P) (w := w) (n := mn) hsl hmn2 (by
    rcases hsv with ⟨sb, _, g⟩ | g | g
    · exact .inl ⟨sb, g⟩
    · exact .inr (.inl g)
    · exact .inr (.inr g))
  have hst : (storeCells ⟨l'.1, l'.2 + (o1 + lo * k'), none⟩ (scs.take (mn * k'))).run P w = .ok () (setCells l'.1 (l'.2 + (o1 + lo * k')) (scs.take (mn * k')) w) := by
    have := run_storeCells (P := P) l'.1 (l'.2 + (o1 + lo * k')) (scs.take (mn * k')) 0 w (fun y hy => hss y (List.mem_of_mem_take hy)) (fun j hj => by
      rw [hmid] at hj
      have hlt : lo * k' + j < m := by
        rw [hm]
        have := Nat.mul_le_mul_right k' (show lo + mn ≤ els.length by omega)
        rw [Nat.add_mul] at this
        omega
      have := q5 (lo * k' + j) hlt
      rwa [show l'.2 + o1 + (lo * k' + j) = l'.2 + (o1 + lo * k') + 0 + j by omega] at this)
    rwa [Nat.add_zero] at this
  rw [hw] at q8 q9 q10 q11
  refine upon_of_run (V := .int .i64 (mn : Nat)) (w' := setCells l'.1 (l'.2 + (o1 + lo * k')) (scs.take (mn * k')) w) ?_ ⟨_, hK, ?_⟩
  · have hmin : Nat.min src.length len = mn := by rw [hmn]; exact Nat.min_comm _ _
    have hk : (Builtin.copy_ #[t, t'] o.type #[a.eval x, a.eval y]).run P w = .ok (.int .i64 (mn : Nat)) (setCells l'.1 (l'.2 + (o1 + lo * k')) (scs.take (mn * k')) w) := by
      simp only [Builtin.copy_]
      simp [run_underlying ht, eX, r1, run_sizeOf' hz, goInt]
      have hmin' : min src.length len = mn := hmin
      rw [hmin, r2]
      simp [hst]
    simp [execOp, ho, resolve, hc, invoke, builtin, ha', ht', hk]
  · exact ⟨by rw [aput_defers]; exact hs.defers, by rw [aput_size, put_len]; exact hs.tsize, hs.tab, q11, Imm, q8, by
      have := (show TmOk Imm _ s.tm a.tmps from q9)
      exact TmOk.put (w := setCells l'.1 (l'.2 + (o1 + lo * k')) (scs.take (mn * k')) w) this hs.tsize (fun _ _ h => h) (fun _ _ _ => rfl) (.inr (Rel.mkLit rfl)), q10⟩
end
end Go.Cab
namespace Go.Cab
open Go.RowKit
open Classical
section
variable {P : Program} {w0 wk : World} {regs : List (Nat × Nat × Nat)} {St Imm : Nat → Nat → Prop} {s : AS} {a : Act} {w : World} {o : Oper} {K : AS → Prop} {Q : Exit → Act → World → Prop} {ro : Nat → Bool}
theorem run_enter {f : FuncId} (hf : callable P f = true) (args : Array Value) : (callFunc f args).run P w = .ok (.enter f args) w := by
  unfold callable at hf
  split at hf
  · rename_i fn hfn
    simp only [Bool.and_eq_true, bne_iff_ne, ne_eq, Option.isSome_iff_exists] at hf
    obtain ⟨hname, body, hbody⟩ := hf
    simp [callFunc, hfn, hname, hbody]
  · cases hf
theorem sound_xc {g : XT} {xs : List Operand} {keep fresh : List Tmp} {rc : Option Tmp → Value → Act} (h : AI.go P ro s o.dst K (.xc g xs keep fresh)) (hs : SRel w0 wk regs St s a w)
    (hrun : ∀ Imm f vs, TmOk Imm w s.tm a.tmps → tgtB P g (xs.map fun x => s.ev x) = some (f, vs) → ∃ Vs, ArgsOk Imm w vs Vs ∧ (callable P f = true → (execOp a.eval o).run P w = .ok (.enter f Vs.toArray) w))
    (hrunP : ∀ Imm f vs, TmOk Imm w s.tm a.tmps → HeapOk w0 regs Imm s.hp w → tgtP P s.hp g (xs.map fun x => s.ev x) = some (f, vs) → ∃ Vs, ArgsOk Imm w vs Vs ∧ (execOp a.eval o).run P w = .ok (.enter f Vs.toArray) w) :
    o.wp P a w (fun a' w' => ∃ s', K s' ∧ SRel w0 wk regs St s' a' w') Q := by
  obtain ⟨Imm, h1, h2, h3⟩ := hs.ex
  simp only [AI.go] at h
  obtain ⟨f, vs, ht, K', hfam, _, _, _, hK⟩ := h
  have hX' : XCall P f vs s.hp K' := by
    have := hfam [] (by simp)
    intro w0 w regs Imm0 Vs a1 a2 a3 a4
    exact Calls.mono (this w0 w regs Imm0 Vs a1 a2 a3 a4) fun e w' ⟨V, r, hp', Imm', he, ⟨hp2, hk, e2⟩, rest⟩ => by
      have e3 : hp' = hp2 := e2
      subst e3
      exact ⟨V, r, hp', Imm', he, hk, rest⟩
  obtain ⟨Vs, hargs, hr⟩ : ∃ Vs, ArgsOk Imm w vs Vs ∧ (execOp a.eval o).run P w = .ok (.enter f Vs.toArray) w := by
    have ht0 : tgtH P s.hp g (xs.map fun x => s.ev x) = some (f, vs) := ht [] (by simp)
    unfold tgtH at ht0
    split at ht0
    · rename_i x hx
      cases ht0
      unfold tgtA at hx
      obtain ⟨⟨f', vs'⟩, ht', hc⟩ := Option.bind_eq_some_iff.1 hx
      split at hc <;> try (cases hc; done)
      rename_i hcl
      cases hc
      obtain ⟨Vs, hargs, hr⟩ := hrun Imm _ _ h2 ht'
      exact ⟨Vs, hargs, hr hcl⟩
    · exact hrunP Imm f vs h2 h3 ht0
  have hcall := hX' w0 w regs Imm _ hs.frame ⟨h1.there, hs.tab⟩ h3 hargs
  unfold Oper.wp Oper.upon
  rw [hr]
  refine Calls.mono hcall fun e w' ⟨V, r, hp', Imm', he, hk', hfr, hI', hrV, _, hH⟩ => ?_
  subst he
  show ∃ s', K s' ∧ SRel w0 wk regs St s' (a.put o.dst V) w'
  refine ⟨_, hK r hp' hk', ?_⟩
  have hkeep : ∀ b o, Imm b o → w'.cell? ⟨b, o, none⟩ = w.cell? ⟨b, o, none⟩ := hI'.val
  have hI2 : ImmOk w0 wk St Imm' w' := ⟨fun b o hb => hI'.sub _ _ (h1.sub b o hb), fun b o hb hlt => h1.old b o (hI'.old b o hb hlt) hlt, hI'.there, fun b o hb => by rw [hkeep b o (h1.sub b o hb)]; exact h1.val b o hb⟩
  exact ⟨by rw [aput_defers]; exact hs.defers, by rw [aput_size, put_len]; exact hs.tsize, hs.tab, hfr, Imm', hI2, h2.put hs.tsize hI'.sub hkeep (.inr hrV), hH⟩
theorem sound_xdir {f : FuncId} {xs : List Operand} {keep fresh : List Tmp} {c : Call} (ho : o.op = .call c) (hc : c.callee = .value (.func f)) (ha : c.args.toList = xs) (hok : xs.all okO = true)
    (h : AI.go P ro s o.dst K (.xc (.dir f) xs keep fresh)) (hs : SRel w0 wk regs St s a w) : o.wp P a w (fun a' w' => ∃ s', K s' ∧ SRel w0 wk regs St s' a' w') Q := by
  refine sound_xc (rc := fun _ _ => a) h hs (fun Imm f' vs h2 ht => ?_) (fun Imm f vs h2 _ ht => by simp [tgtP] at ht)
  simp only [tgtB, Option.some.injEq, Prod.mk.injEq] at ht
  obtain ⟨rfl, rfl⟩ := ht
  refine ⟨xs.map a.eval, argsOk_map h2 hok, fun hcl => ?_⟩
  have e2 : (xs.map a.eval).toArray = c.args.map a.eval := by apply Array.ext'; simp [ha]
  rw [e2]
  have := run_enter (w := w) hcl (c.args.map a.eval)
  simp only [execOp, ho, resolve, hc, Deferred.ofValue, Act.eval, invoke, Sem.run_bind, Sem.run_pure, Result.andThen_ok]
  simpa using this
theorem sound_xinv {name : String} {x : Operand} {xs : List Operand} {keep fresh : List Tmp} {c : Call} (ho : o.op = .call c) (hc : c.callee = .invoke x name) (ha : c.args.toList = xs) (hok : (x :: xs).all okO = true)
    (h : AI.go P ro s o.dst K (.xc (.inv name) (x :: xs) keep fresh)) (hs : SRel w0 wk regs St s a w) : o.wp P a w (fun a' w' => ∃ s', K s' ∧ SRel w0 wk regs St s' a' w') Q := by
  refine sound_xc (rc := fun _ _ => a) h hs (fun Imm f' vs h2 ht => ?_) (fun Imm f' vs h2 h3 ht => ?_)
  · simp only [List.all_cons, Bool.and_eq_true] at hok
    have hX := h2.eval x (okO_sc hok.1)
    simp only [List.map_cons] at ht
    generalize s.ev x = X at *
    unfold tgtB at ht
    split at ht <;> try (first | (cases ht; done) | contradiction)
    · rename_i nm t v xs' hg hxs
      cases hg
      simp only [List.cons.injEq] at hxs
      obtain ⟨rfl, rfl⟩ := hxs
      obtain ⟨⟨f0, u⟩, hm, he⟩ := Option.map_eq_some_iff.1 ht
      simp only [Prod.mk.injEq] at he
      obtain ⟨rfl, rfl⟩ := he
      rcases hX with hX | ⟨cs, hX, e⟩
      · cases hX
      cases hX with
      | ifc _ _ cs' hR =>
        obtain ⟨U, k1, _, k3⟩ := meth_sound _ _ _ _ _ _ _ hm (.inr ⟨cs', hR, rfl⟩)
        have eX : a.eval x = .iface t (asVal v cs') := e
        refine ⟨U :: xs.map a.eval, ⟨k3, argsOk_map h2 hok.2⟩, fun hcl => ?_⟩
        have hen := run_enter (w := w) hcl (U :: xs.map a.eval).toArray
        have e2 : (c.args.map a.eval) = (xs.map a.eval).toArray := by apply Array.ext'; simp [ha]
        simp only [execOp, ho, resolve, hc, invoke, Sem.run_bind, Sem.run_pure, Result.andThen_ok, eX, e2]
        have e3 : (xs.map a.eval).take xs.length = xs.map a.eval := List.take_of_length_le (by simp)
        simp [callMethod, k1, e3]
        simpa using hen
  · simp only [List.all_cons, Bool.and_eq_true] at hok
    have hX := h2.eval x (okO_sc hok.1)
    simp only [List.map_cons] at ht
    generalize s.ev x = X at *
    unfold tgtP at ht
    split at ht <;> try (first | (cases ht; done) | contradiction)
    rename_i nm t b l off p xs' hg hxs
    cases hg
    simp only [List.cons.injEq] at hxs
    obtain ⟨rfl, rfl⟩ := hxs
    split at ht <;> try (cases ht; done)
    rename_i hvia
    split at ht <;> try (cases ht; done)
    rename_i m1 t' v' hpk
    obtain ⟨⟨f0, u⟩, hm, he⟩ := Option.bind_eq_some_iff.1 ht
    simp only at he
    split at he <;> try (cases he; done)
    rename_i hcl
    cases he
    rcases hX with hX | ⟨cs, hX, e⟩
    · cases hX
    cases hX with
    | ifc _ _ cs' hR =>
      cases hR
      have eX : a.eval x = .iface t (.pointer (some ⟨l.1, l.2 + off, none⟩)) := e
      have hp0 : Rel Imm w (.ptr b l off (p ++ [0])) (.pointer (some ⟨l.1, l.2 + off, none⟩)) := .inr ⟨_, .ptr _ _ _ _, rfl⟩
      obtain ⟨b', o', cs2, eV, hR2, hl2, hsc2, hcell2⟩ := peek_sound (s := ⟨0, [], s.hp⟩) hpk hp0 h3
      simp only [Value.pointer.injEq, Option.some.injEq, Addr.mk.injEq, and_true] at eV
      obtain ⟨rfl, rfl⟩ := eV
      cases hR2 with
      | ifc _ _ cs3 hR3 =>
        have hcell := hcell2 0 _ rfl
        rw [Nat.add_zero] at hcell
        obtain ⟨U, k1, _, k3⟩ := meth_sound _ _ _ _ _ _ _ hm (.inr ⟨cs3, hR3, rfl⟩)
        have hmeth : (method (P.types.size + Made.depth) t (.pointer (some ⟨l.1, l.2 + off, none⟩)) name).run P w = .ok (f', U) w := by
          obtain ⟨n, hn⟩ : ∃ n, P.types.size + Made.depth = n + 1 := by
            cases hk : P.types.size + Made.depth with
            | zero => rw [hk] at hm; simp [methA] at hm
            | succ n => exact ⟨n, rfl⟩
          rw [hn] at k1 ⊢
          rw [Nat.add_sub_cancel] at k1
          unfold viaB at hvia
          split at hvia <;> try (cases hvia; done)
          rename_i m hmm
          cases hi : P.info? t with
          | none => rw [hi] at hmm; cases hmm
          | some i =>
            rw [hi] at hmm
            simp only [Option.bind_some] at hmm
            simp only [Bool.and_eq_true] at hvia
            obtain ⟨hfn, hvia⟩ := hvia
            split at hvia <;> try (cases hvia; done)
            rename_i st hpath
            simp only [Bool.and_eq_true] at hvia
            obtain ⟨⟨hd, hix⟩, hvia⟩ := hvia
            split at hvia <;> try (cases hvia; done)
            rename_i fields hu
            split at hvia <;> try (cases hvia; done)
            rename_i fd hfd
            simp only [Bool.and_eq_true, beq_iff_eq, Bool.not_eq_true'] at hvia
            obtain ⟨⟨⟨ho0, hus⟩, hsz⟩, hag⟩ := hvia
            have hmf : m.func = none := by simpa using hfn
            have hs1 : szOf P fd.type = some 1 := hsz
            simp [method, typeInfo, hi, hmm, hpath, follow, run_underlying hu, hfd, hd, asAddr, Place.get, fieldPlace, run_sizeOf' hs1, ho0, hmf, loadVar, run_isAgg hus, hag, hcell, k1, Addr.add]
        refine ⟨U :: xs.map a.eval, ⟨k3, argsOk_map h2 hok.2⟩, ?_⟩
        have hen := run_enter (w := w) hcl (U :: xs.map a.eval).toArray
        have e2 : (c.args.map a.eval) = (xs.map a.eval).toArray := by apply Array.ext'; simp [ha]
        simp only [execOp, ho, resolve, hc, invoke, Sem.run_bind, Sem.run_pure, Result.andThen_ok, eX, e2]
        have e3 : (xs.map a.eval).take xs.length = xs.map a.eval := List.take_of_length_le (by simp)
        simp [callMethod, hmeth, e3]
        simpa using hen
theorem sound_xval {x : Operand} {xs : List Operand} {keep fresh : List Tmp} {c : Call} (ho : o.op = .call c) (hc : c.callee = .value x) (ha : c.args.toList = xs) (hok : (x :: xs).all okO = true)
    (h : AI.go P ro s o.dst K (.xc .val (x :: xs) keep fresh)) (hs : SRel w0 wk regs St s a w) : o.wp P a w (fun a' w' => ∃ s', K s' ∧ SRel w0 wk regs St s' a' w') Q := by
  refine sound_xc (rc := fun _ _ => a) h hs (fun Imm f' vs h2 ht => ?_) (fun Imm f vs h2 _ ht => by simp [tgtP] at ht)
  simp only [List.all_cons, Bool.and_eq_true] at hok
  have hX := h2.eval x (okO_sc hok.1)
  have hA := argsOk_map h2 hok.2
  have e2 : (c.args.map a.eval) = (xs.map a.eval).toArray := by apply Array.ext'; simp [ha]
  simp only [List.map_cons] at ht
  generalize s.ev x = X at *
  unfold tgtB at ht
  split at ht <;> try (first | (cases ht; done) | contradiction)
  · rename_i f first caps xs' _ hxs
    simp only [List.cons.injEq] at hxs
    obtain ⟨rfl, rfl⟩ := hxs
    cases ht
    rcases hX with hX | ⟨cs, hX, e⟩
    · cases hX
    cases hX with
    | fnv _ _ _ c' d hc' hd =>
      have eX : a.eval x = .func (.func f') c'.toArray d.toArray := e
      refine ⟨c' ++ xs.map a.eval ++ d, argsOk_app (argsOk_app (tup_args hc') hA) (tup_args hd), fun hcl => ?_⟩
      have hen := run_enter (w := w) hcl (c' ++ xs.map a.eval ++ d).toArray
      simp only [execOp, ho, resolve, hc, eX, Deferred.ofValue, invoke, Sem.run_bind, Sem.run_pure, Result.andThen_ok, e2]
      simpa using hen
  · rename_i name t v xs' _ hxs
    simp only [List.cons.injEq] at hxs
    obtain ⟨rfl, rfl⟩ := hxs
    obtain ⟨⟨f0, u⟩, hm, he⟩ := Option.map_eq_some_iff.1 ht
    simp only [Prod.mk.injEq] at he
    obtain ⟨rfl, rfl⟩ := he
    rcases hX with hX | ⟨cs, hX, e⟩
    · cases hX
    cases hX with
    | fnv _ _ _ c' d hc' hd =>
      cases hd
      cases hc' with
      | tup1 _ _ cc dd h4 h5 =>
        cases h5
        cases h4 with
        | ifc _ _ cs' hR =>
          obtain ⟨U, k1, _, k3⟩ := meth_sound _ _ _ _ _ _ _ hm (.inr ⟨cs', hR, rfl⟩)
          have eX : a.eval x = .func (.method name) #[.iface t (asVal v cs')] #[] := e
          refine ⟨U :: xs.map a.eval, ⟨k3, hA⟩, fun hcl => ?_⟩
          have hen := run_enter (w := w) hcl (U :: xs.map a.eval).toArray
          simp only [execOp, ho, resolve, hc, eX, Deferred.ofValue, invoke, Sem.run_bind, Sem.run_pure, Result.andThen_ok, e2]
          have e3 : (xs.map a.eval).take xs.length = xs.map a.eval := List.take_of_length_le (by simp)
          simp [callMethod, k1, e3]
          simpa using hen
theorem find_bcmp {fn : Func} (hn : fn.name = "internal/bytealg.Compare") : Extern.find fn = some Extern.BytealgCompare.compare := by
  have h1 : Extern.allGenericRows.lookup "internal/bytealg.Compare" = none := by kernel_rfl
  have h2 : Extern.allTypedRows.lookup "internal/bytealg.Compare" = none := by kernel_rfl
  have h3 : Extern.allRows.lookup "internal/bytealg.Compare" = some Extern.BytealgCompare.compare := by kernel_rfl
  simp only [Extern.find, hn, h1, h2, h3]
  rfl
theorem findNext_bcmp {fn : Func} (hn : fn.name = "internal/bytealg.Compare") (ho : fn.origin = "") : Extern.findNext fn = none := by
  have h1 : Extern.allNextRows.lookup "internal/bytealg.Compare" = none := by kernel_rfl
  have h2 : Extern.allNextRows.lookup "" = none := by kernel_rfl
  simp only [Extern.findNext, hn, ho, h1, h2]
  rfl
theorem bytesOf_run {blk : Nat → Option Blk} {v : AV} {V : Value} {ns : List Int} (hb : ∀ b x, blk b = some x → s.blk b = some x) (h3 : HeapOk w0 regs Imm s.hp w) (h1 : ∀ b o, Imm b o → (w.cell? ⟨b, o, none⟩).isSome = true) (hlit : v.isLit = false)
    (hl : (listB blk 1 v).bind bytesAV = some ns) (hv : Rel Imm w v V) : (Extern.Bytes.bytesOf V).run P w = .ok ⟨(Lib.bytesOf ns).toArray⟩ w := by
  obtain ⟨els, hl, hn⟩ := Option.bind_eq_some_iff.1 hl
  obtain ⟨cs, hR, hlen, hsc, hval⟩ := listB_sound (s := s) hb h3 h1 hl hv
  obtain ⟨hcs, hnl⟩ := bytes_cells hn hR
  rcases hval with ⟨sb, eL, _, _, _⟩ | ⟨hnil, eV⟩ | ⟨b, o', c, eV, hcell⟩
  · rw [eL] at hlit; cases hlit
  · subst hnil
    have hn0 : ns = [] := by simpa using hnl.symm
    subst hn0
    obtain ⟨a0, eV⟩ := eV
    rw [eV]
    cases a0 <;> rfl
  · rw [eV, hnl]
    have := Lib.run_loadBytesX (P := P) w ns ⟨b, o', none⟩ .empty (fun j x hj => by
      rw [add_none]
      exact hcell j _ (by rw [hcs, List.getElem?_map, hj]; rfl))
    show (Extern.Bytes.loadBytes ⟨b, o', none⟩ ns.length .empty).run P w = _
    rw [this]
    congr 1
    apply ByteArray.ext
    show (#[] : Array UInt8) ++ _ = _
    simp
theorem sound_bcmp {f : FuncId} {x y : Operand} {c : Call} (ho : o.op = .call c) (hc : c.callee = .value (.func f)) (ha : c.args.toList = [x, y]) (hf : externFn P f "internal/bytealg.Compare" = true) (hok : (okO x && okO y) = true)
    (h : AI.go P ro s o.dst K (.rd .bcmp [x, y])) (hs : SRel w0 wk regs St s a w) : o.wp P a w (fun a' w' => ∃ s', K s' ∧ SRel w0 wk regs St s' a' w') Q := by
  simp only [Bool.and_eq_true] at hok
  have ha' : c.args = #[x, y] := by rw [← Array.toArray_toList (xs := c.args), ha]
  unfold externFn at hf
  split at hf <;> try (cases hf; done)
  rename_i fn hfn
  simp only [Bool.and_eq_true, beq_iff_eq] at hf
  obtain ⟨⟨hn, horig⟩, hbody⟩ := hf
  refine sound_rd_of h hs fun Imm v h1 h2 h3 hv => ?_
  have hX := h2.eval x (okO_sc hok.1)
  have hY := h2.eval y (okO_sc hok.2)
  simp only [List.map_cons, List.map_nil, rdA, rdB] at hv
  split at hv <;> try (cases hv; done)
  rename_i p q hp hq
  split at hv <;> try (cases hv; done)
  rename_i hlit
  cases hv
  simp only [Bool.or_eq_true, not_or, Bool.not_eq_true] at hlit
  have hb : ∀ b z, (fun b => if ro b = true then s.blk b else none) b = some z → s.blk b = some z := fun b z hb => by simp only at hb; split at hb <;> first | exact hb | cases hb
  have r1 := bytesOf_run (P := P) hb h3 h1.there hlit.1 hp hX
  have r2 := bytesOf_run (P := P) hb h3 h1.there hlit.2 hq hY
  have hcall := run_callFunc_extern (P := P) hfn (by rw [hn]; rfl) hbody (findNext_bcmp hn horig) (find_bcmp hn) #[a.eval x, a.eval y] w
  have hrun : (Extern.BytealgCompare.compare #[a.eval x, a.eval y]).run P w = .ok (.int .i64 (Lib.compareBytes (Lib.bytesOf p) (Lib.bytesOf q))) w := by
    have e : Extern.BytealgCompare.compare #[a.eval x, a.eval y] = (do pure (goInt (Extern.BytealgCompare.cmp (← Extern.Bytes.bytesOf (a.eval x)) (← Extern.Bytes.bytesOf (a.eval y))))) := rfl
    rw [e]
    simp only [Sem.run_bind, r1, r2, Result.andThen_ok, Sem.run_pure, Lib.cmp_eq]
    rfl
  rw [hrun] at hcall
  refine ⟨_, ?_, Rel.mkLit rfl⟩
  simp only [execOp, ho, resolve, hc, ha', Deferred.ofValue, Act.eval, invoke]
  simp [hcall]
theorem nilA_sound {x : AV} {V : Value} (h : Rel Imm w x V) (W : Value) {b : Bool} (hb : nilA W x = some b) : ∃ a n c, V = .slice a n c ∧ ∀ W', W' = Value.bool a.isNone → nilA W' x = some a.isNone := by
  rcases h with rfl | ⟨cs, h, rfl⟩
  · simp [nilA] at hb
  · cases h with
    | lit v hs =>
      unfold nilA at hb
      split at hb <;> try (cases hb; done)
      · rename_i he
        cases he
        exact ⟨none, 0, 0, rfl, fun _ _ => rfl⟩
      · rename_i he; cases he
      · rename_i he; cases he
    | slnil esz a0 => exact ⟨a0, 0, 0, rfl, fun _ e => by rw [e]; rfl⟩
    | sl esz els cs b o cap _ _ _ =>
      refine ⟨some ⟨b, o, none⟩, els.length, cap, rfl, fun W' e => ?_⟩
      cases els with
      | nil => rw [e]; rfl
      | cons e es => rfl
    | _ => simp [nilA] at hb
theorem sound_isnil {neg : Bool} {t u e : TypeId} {x : Operand} (ho : o.op = .binOp (if neg then .neq else .eql) t x (.const (.slice none 0 0)) u) (ht : P.underlying t = some (.slice e)) (hx : okO x = true)
    (h : AI.go P ro s o.dst K (.ef (.isnil neg) [x])) (hs : SRel w0 wk regs St s a w) : o.wp P a w (fun a' w' => ∃ s', K s' ∧ SRel w0 wk regs St s' a' w') Q := by
  obtain ⟨Imm, h1, h2, h3⟩ := hs.ex
  have hX := h2.eval x (okO_sc hx)
  simp only [AI.go] at h
  have h0 : ∃ b, nilA (.bool true) (s.ev x) = some b := by
    obtain ⟨r, hp', e1, _⟩ := h (.bool true)
    simp only [efA, List.map_cons, List.map_nil] at e1
    obtain ⟨b, hb, _⟩ := Option.map_eq_some_iff.1 e1
    exact ⟨b, hb⟩
  obtain ⟨b, hb⟩ := h0
  obtain ⟨ao, n, c, hV, hW⟩ := nilA_sound hX _ hb
  obtain ⟨r, hp', e1, hK⟩ := h (.bool ao.isNone)
  simp only [efA, List.map_cons, List.map_nil, hW _ rfl, Option.map_some, Option.some.injEq, Prod.mk.injEq] at e1
  obtain ⟨rfl, rfl⟩ := e1
  refine upon_of_run (V := .bool (if neg then !ao.isNone else ao.isNone)) (w' := w) ?_ ⟨_, hK, ?_⟩
  · have e1 := Go.Lib.run_eql_slice_nil w t e ao n c 0 0 ht
    have e2 := Go.run_neq_slice_nil w t e ao n c ht
    have eC : a.eval (.const (.slice none 0 0)) = .slice none 0 0 := rfl
    cases neg
    · simp only [Bool.false_eq_true, if_false] at ho ⊢
      simp [execOp, ho, hV, eC, eqGuard, e1]
    · simp only [if_true] at ho ⊢
      simp [execOp, ho, hV, eC, eqGuard, e2]
  · exact hs.put (Imm' := Imm) (Fr.refl _ _) h2 (fun _ _ h => h) (fun _ _ _ => rfl) h1 h3 (.inr (Rel.mkLit (v := .bool _) rfl))
theorem run_ptr_nil {te t : TypeId} (w : World) (neg : Bool) (p : Option Addr) (hp : P.underlying t = some (.pointer te)) :
    (binOp (if neg then .neq else .eql) t (.pointer p) (.pointer none)).run P w = .ok (.bool (if neg then p.isSome else p.isNone)) w := by
  have h : ∀ d : Nat, (Op.equalIn (d + 1) t (.pointer p) (.pointer none)).run P w = .ok p.isNone w := fun d => by
    cases p <;> simp [Op.equalIn, run_underlying hp]
  cases neg <;> cases p <;> simp only [binOp] <;> simp [Op.equal, Op.maxDepth, h 9999]
theorem sound_pnil {neg : Bool} {t u e : TypeId} {x : Operand} (ho : o.op = .binOp (if neg then .neq else .eql) t x (.const (.pointer none)) u) (ht : P.underlying t = some (.pointer e)) (hx : okO x = true)
    (h : AI.go P ro s o.dst K (.rdp (.pnil neg) [x])) (hs : SRel w0 wk regs St s a w) : o.wp P a w (fun a' w' => ∃ s', K s' ∧ SRel w0 wk regs St s' a' w') Q := by
  refine sound_rdp_of h hs fun Imm v h1 h2 h3 hv => ?_
  have hX := h2.eval x (okO_sc hx)
  simp only [List.map_cons, List.map_nil, rdA, rdB] at hv
  have key : ∃ p, a.eval x = .pointer p ∧ v = .lit (.bool (if neg then p.isSome else p.isNone)) := by
    generalize s.ev x = y at hX hv
    cases y with
    | ptr b l off path =>
      cases hv
      rcases hX with hX | ⟨cs, hX, e⟩
      · cases hX
      · cases hX; exact ⟨_, e, by cases neg <;> rfl⟩
    | cptr n z =>
      cases hv
      rcases hX with hX | ⟨cs, hX, e⟩
      · cases hX
      · cases hX; exact ⟨_, e, by cases neg <;> rfl⟩
    | lit z =>
      cases z <;> try (cases hv; done)
      rename_i p
      cases p with
      | none => cases hv; exact ⟨none, hX.lit.1, by cases neg <;> rfl⟩
      | some p => cases hv
    | _ => cases hv
  obtain ⟨p, e1, rfl⟩ := key
  refine ⟨_, ?_, Rel.mkLit rfl⟩
  have eC : a.eval (.const (.pointer none)) = .pointer none := rfl
  have r := run_ptr_nil (P := P) w neg p ht
  cases neg
  · simp only [Bool.false_eq_true, if_false] at ho r ⊢
    simp [execOp, ho, e1, eC, eqGuard, r]
  · simp only [if_true] at ho r ⊢
    simp [execOp, ho, e1, eC, eqGuard, r]
theorem R.elemPart {t : TypeId} {esz : Nat} {els : List AV} {cs : List Value} {i : Nat} {v : AV} (h : R Imm w (.arr esz els) cs) (hv : els[i]? = some v) (ht : (P.underlying t).isSome = true) (hsz : szOf P t = some esz) (hagg : v.isAgg = aggT P t) (h1n : aggT P t = true ∨ esz = 1) (htup : v.isTup = false) :
    ∃ c, R Imm w v c ∧ (part t cs.toArray (i * esz)).run P w = .ok (asVal v c) w := by
  obtain ⟨pre, c, post, e, hp, hc, hvR, hcs, _⟩ := h.elem i v hv
  refine ⟨c, hvR, ?_⟩
  cases hA : aggT P t with
  | true =>
    simp only [part, Sem.run_bind, run_isAgg ht, hA, Result.andThen_ok, if_true, run_sizeOf' hsz]
    have : (cs.toArray.extract (i * esz) (i * esz + esz)) = c.toArray := by
      apply Array.ext'
      rw [Array.toList_extract]
      simp only [List.extract]
      rw [e, ← hp, List.append_assoc, List.drop_left', Nat.add_sub_cancel_left, ← hc, List.take_left']
      · rfl
      · rfl
    simp only [Sem.run_pure, this]
    rw [hA] at hagg
    cases v <;> simp [AV.isAgg] at hagg <;> rfl
  | false =>
    have hn1 : esz = 1 := by rcases h1n with h' | h' <;> simp_all
    subst hn1
    rw [hA] at hagg
    match c, hc with
    | [y], _ =>
      have : cs.toArray[i * 1]? = some y := by
        simp only [List.getElem?_toArray]
        rw [e, ← hp, List.append_assoc, List.getElem?_append_right (Nat.le_refl _)]; simp
      simp only [part, Sem.run_bind, run_isAgg ht, hA, Result.andThen_ok, Bool.false_eq_true, if_false, this, Sem.run_pure]
      cases v <;> simp [AV.isAgg, AV.isTup] at hagg htup <;> rfl
theorem sound_aix {t e : TypeId} {n esz : Nat} {x i : Operand} (ho : o.op = .index t x i) (ht : P.underlying t = some (.array n e)) (hz : szOf P e = some esz) (hu : (P.underlying e).isSome = true) (hx : okO x = true) (hi : okO i = true) (h1n : aggT P e = true ∨ esz = 1)
    (h : AI.go P ro s o.dst K (.rdp (.aix esz n (aggT P e)) [x, i])) (hs : SRel w0 wk regs St s a w) : o.wp P a w (fun a' w' => ∃ s', K s' ∧ SRel w0 wk regs St s' a' w') Q := by
  refine sound_rdp_of h hs fun Imm v h1 h2 h3 hv => ?_
  have hX := h2.eval x (okO_sc hx)
  have hI := h2.eval i (okO_sc hi)
  simp only [List.map_cons, List.map_nil, rdA, rdB] at hv
  split at hv <;> try (cases hv; done)
  rename_i k els k' j he hj
  split at hv <;> try (cases hv; done)
  rename_i hc
  obtain ⟨rfl, hlen, h0⟩ := hc
  obtain ⟨u, hu', hv⟩ := Option.bind_eq_some_iff.1 hv
  split at hv <;> try (cases hv; done)
  rename_i hag
  cases hv
  rw [he] at hX
  rw [hj] at hI
  rcases hX with hX | ⟨cs, hX, eX⟩
  · cases hX
  obtain ⟨c, hc, hrun⟩ := R.elemPart (P := P) hX hu' hu hz hag.1 h1n hag.2
  have hlt : j.toNat < els.length := (List.getElem?_eq_some_iff.1 hu').1
  have hjn : 0 ≤ j ∧ j < (n : Int) := ⟨h0, by omega⟩
  refine ⟨asVal v c, ?_, .inr ⟨c, hc, rfl⟩⟩
  have eV : asVal (.arr k els) cs = .agg cs.toArray := rfl
  rw [eV] at eX
  simp [execOp, ho, Instr.index, hI.lit.1, asIntOf, run_underlying ht, eX, hjn, run_sizeOf' hz, hrun]
end
end Go.Cab
namespace Go.Cab
open Go.RowKit
open Classical
structure AOp where
  dst : Option Tmp
  guard : Option (Tmp × Bool)
  ai : AI
  forb : List Tmp := []
  own : Option Tmp := none
  deriving Inhabited
def AOp.ro (x : AOp) (nr : Nat) : Nat → Bool := fun b => x.forb.all fun t => b != nr + t
def AOp.leaves (x : AOp) (s : AS) (v : AV) : Prop :=
  ∀ t ∈ x.forb, ∀ b, (s.ev (.tmp t)).place = some b → b ≠ s.slot x.dst ∧ ∀ b' V, v = .own b' V → b' ≠ b
def AOp.mine (x : AOp) (s : AS) : Prop :=
  match x.own, x.ai with
  | some t, .store _ p _ => ∃ l off path, s.ev p = .ptr (s.nr + t) l off path
  | some t, .load _ _ p => ∀ b l off path, s.ev p = .ptr b l off path → (s.ev (.tmp t)).place = some b
  | some t, .len _ p => ∀ b V, s.ev p = .own b V → (s.ev (.tmp t)).place = some b
  | some t, .iaddrS _ p _ => ∀ b V, s.ev p = .own b V → (s.ev (.tmp t)).place = some b
  | some _, .callv _ ps => ∀ p ∈ ps, ∀ b V, s.ev p ≠ .own b V
  | _, .append _ _ _ p _ => x.leaves s (s.ev p)
  | _, .ef (.app ..) [p, _] => x.leaves s (s.ev p)
  | _, .ef (.bown ..) _ => x.leaves s .any
  | _, _ => True
noncomputable def AOp.go (P : Program) (s : AS) (K : AS → Prop) (x : AOp) : Prop :=
  match x.guard with
  | none => x.mine s ∧ x.ai.go P (x.ro s.nr) s x.dst K
  | some (t, want) => match s.ev (.tmp t) with
    | .lit (.bool b) => if b = want then x.mine s ∧ x.ai.go P (x.ro s.nr) s x.dst K else K (s.put x.dst (.tup []))
    | .tup [] => K (s.put x.dst (.tup []))
    | _ => False
noncomputable def AReg (P : Program) : List AOp → AS → (AS → Prop) → Prop
  | [], s, K => K s
  | x :: xs, s, K => x.go P s fun s' => AReg P xs s' K
def AI.ops : AI → List Operand
  | .mov x | .un _ x | .cvt _ x | .box _ x | .load _ _ x | .faddr _ _ x | .fieldv _ _ _ _ x | .len _ x | .ext x _ | .nilc x | .b2s x => [x]
  | .pick c a b | .add64 c a b => [c, a, b]
  | .bin _ x y | .beq _ x y | .store _ x y | .iaddrA _ _ x y | .iaddrS _ x y | .append _ _ _ x y | .mkslice _ _ _ _ x y | .eqv _ _ x y => [x, y]
  | .alloc _ _ => []
  | .build _ ps | .bslice _ _ _ ps => ps.map (·.2)
  | .call _ xs | .callv _ xs | .lcall _ xs => xs
  | .icall _ x xs => x :: xs
  | .prim _ xs | .rdp _ xs | .rd _ xs | .ef _ xs => xs
  | .xc _ xs keep _ => xs ++ keep.map .tmp
def AI.cls : AI → Nat
  | .mov _ | .pick .. | .bin .. | .beq .. | .un .. | .cvt .. | .build .. | .bslice .. | .ext .. | .faddr .. | .iaddrA .. | .fieldv .. | .nilc _ | .add64 .. | .prim .. | .rdp .. => 0
  | .load .. | .len .. | .iaddrS .. | .callv .. | .lcall .. | .eqv .. | .b2s .. | .rd .. => 1
  | _ => 2
section
variable {P : Program} {ro : Nat → Bool} {s : AS} {K K' : AS → Prop} {dst : Option Tmp}
noncomputable def AI.val (P : Program) (ro : Nat → Bool) (s : AS) : AI → AV → Prop
  | .mov x, v => v = s.ev x
  | .pick c a b, v => ∃ t, s.ev c = .lit (.bool t) ∧ v = if t then s.ev a else s.ev b
  | .bin op x y, v => ∃ a b u, s.ev x = .lit a ∧ s.ev y = .lit b ∧ binVal op a b = some u ∧ v = .lit u
  | .beq neg x y, v => ∃ p q, s.ev x = .lit (.bool p) ∧ s.ev y = .lit (.bool q) ∧ v = .lit (.bool (if neg then !(p == q) else p == q))
  | .un op x, v => ∃ a u, s.ev x = .lit a ∧ unVal op a = some u ∧ v = .lit u
  | .cvt k x, v => ∃ k' n, s.ev x = .lit (.int k' n) ∧ v = .lit (.int k (k.wrap n))
  | .build z parts, v => fillAV s z parts = some v
  | .bslice esz z n parts, v => ∃ k els, fillAV s (.arr esz (List.replicate n z)) parts = some (.arr k els) ∧ v = .sl esz els
  | .ext x i, v => ∃ vs, s.ev x = .tup vs ∧ vs[i]? = some v
  | .nilc x, v => v = s.ev x ∧ ((∃ b l off p, s.ev x = .ptr b l off p) ∨ ∃ n u, s.ev x = .cptr n u)
  | .add64 x y c, v => ∃ a b d, s.ev x = .lit (.int .u64 a) ∧ s.ev y = .lit (.int .u64 b) ∧ s.ev c = .lit (.int .u64 d) ∧ (0 ≤ a ∧ 0 ≤ b ∧ 0 ≤ d ∧ d ≤ 1) ∧
      v = .tup [.lit (.int .u64 ((a + b + d) % 18446744073709551616)), .lit (.int .u64 ((a + b + d) / 18446744073709551616))]
  | .faddr off idx x, v => AS.fieldAddr off idx (s.ev x) = some v
  | .b2s x, v => ∃ u, s.textOf ro (s.ev x) = some u ∧ v = .lit u
  | .rdp g xs, v => rdA P (fun _ => none) g (xs.map fun x => s.ev x) = some v
  | .rd g xs, v => rdA P (fun b => if ro b then s.blk b else none) g (xs.map fun x => s.ev x) = some v
  | .prim p xs, v => ∃ vs u, s.lits xs = some vs ∧ primVal p vs = some u ∧ v = .lit u
  | .iaddrA ln esz x i, v => ∃ k n, s.ev i = .lit (.int k n) ∧ AS.idxAddr ln esz n (s.ev x) = some v
  | .fieldv off idx n agg x, v => ∃ ns fs, s.ev x = .st ns fs ∧ (ns.take idx).sum = off ∧ ns[idx]? = some n ∧ fs[idx]? = some v ∧ v.isAgg = agg ∧ v.isTup = false
  | .load agg n x, v => s.peek ro (s.ev x) = some (n, v) ∧ v.isAgg = agg ∧ v.isTup = false
  | .len str x, v => ∃ n, s.lenOf ro str (s.ev x) = some n ∧ v = .lit (.int .i64 n)
  | .iaddrS esz x i, v => ∃ k n, s.ev i = .lit (.int k n) ∧ s.elemAddr ro esz n (s.ev x) = some v
  | .callv f args, v => PCall P f (args.map fun x => s.coe ro (s.ev x)) (.val v)
  | .lcall f args, v => v.plain = true ∧ PCall P f (args.map fun x => s.lend ro (s.ev x)) (.val v)
  | .eqv t neg x y, v => ∃ b, EqAV P t (s.ev x) (s.ev y) b ∧ (s.ev x).isAgg = true ∧ (s.ev y).isAgg = true ∧ v = .lit (.bool (if neg then !b else b))
  | _, _ => False
theorem AI.go_val {ai : AI} (h : ai.cls < 2) : ai.go P ro s dst K ↔ ∃ v, ai.val P ro s v ∧ K (s.put dst v) := by
  cases ai <;> simp only [AI.cls] at h <;> try omega
  all_goals simp only [AI.go, AI.val]
  case mov x => simp
  case pick c a b =>
    constructor
    · intro h; split at h
      · rename_i t ht; exact ⟨_, ⟨t, ht, rfl⟩, h⟩
      · exact h.elim
    · rintro ⟨v, ⟨t, ht, rfl⟩, hK⟩; rw [ht]; exact hK
  case rdp g xs =>
    constructor
    · intro h; split at h
      · rename_i v hv; exact ⟨v, hv, h⟩
      · exact h.elim
    · rintro ⟨v, hv, hK⟩; rw [hv]; exact hK
  case rd g xs =>
    constructor
    · intro h; split at h
      · rename_i v hv; exact ⟨v, hv, h⟩
      · exact h.elim
    · rintro ⟨v, hv, hK⟩; rw [hv]; exact hK
  case prim p xs =>
    constructor
    · intro h; split at h
      · rename_i vs hvs
        split at h
        · rename_i u hu; exact ⟨_, ⟨vs, u, hvs, hu, rfl⟩, h⟩
        · exact h.elim
      · exact h.elim
    · rintro ⟨v, ⟨vs, u, hvs, hu, rfl⟩, hK⟩; rw [hvs]; simp only [hu]; exact hK
  case bin op x y =>
    constructor
    · intro h; split at h
      · rename_i p q hp hq
        split at h
        · rename_i u hu; exact ⟨_, ⟨p, q, u, hp, hq, hu, rfl⟩, h⟩
        · exact h.elim
      · exact h.elim
    · rintro ⟨v, ⟨p, q, u, hp, hq, hu, rfl⟩, hK⟩; rw [hp, hq]; simp only [hu]; exact hK
  case beq neg x y =>
    constructor
    · intro h; split at h
      · rename_i p q hp hq; exact ⟨_, ⟨p, q, hp, hq, rfl⟩, h⟩
      · exact h.elim
    · rintro ⟨v, ⟨p, q, hp, hq, rfl⟩, hK⟩; rw [hp, hq]; exact hK
  case un op x =>
    constructor
    · intro h; split at h
      · rename_i p hp
        split at h
        · rename_i u hu; exact ⟨_, ⟨p, u, hp, hu, rfl⟩, h⟩
        · exact h.elim
      · exact h.elim
    · rintro ⟨v, ⟨p, u, hp, hu, rfl⟩, hK⟩; rw [hp]; simp only [hu]; exact hK
  case cvt k x =>
    constructor
    · intro h; split at h
      · rename_i k' n hn; exact ⟨_, ⟨k', n, hn, rfl⟩, h⟩
      · exact h.elim
    · rintro ⟨v, ⟨k', n, hn, rfl⟩, hK⟩; rw [hn]; exact hK
  case build z parts =>
    constructor
    · intro h; split at h
      · rename_i v hv; exact ⟨v, hv, h⟩
      · exact h.elim
    · rintro ⟨v, hv, hK⟩; rw [hv]; exact hK
  case bslice esz z n parts =>
    constructor
    · intro h; split at h
      · rename_i k els hv; exact ⟨_, ⟨k, els, hv, rfl⟩, h⟩
      · exact h.elim
    · rintro ⟨v, ⟨k, els, hv, rfl⟩, hK⟩; rw [hv]; exact hK
  case load agg n x =>
    constructor
    · intro h; split at h
      · rename_i m u hp; obtain ⟨rfl, h1, h2, hK⟩ := h; exact ⟨u, ⟨hp, h1, h2⟩, hK⟩
      · exact h.elim
    · rintro ⟨v, ⟨hp, h1, h2⟩, hK⟩; rw [hp]; exact ⟨rfl, h1, h2, hK⟩
  case faddr off idx x =>
    constructor
    · intro h; split at h
      · rename_i v hv; exact ⟨v, hv, h⟩
      · exact h.elim
    · rintro ⟨v, hv, hK⟩; rw [hv]; exact hK
  case iaddrA ln esz x i =>
    constructor
    · intro h; split at h
      · rename_i k n hn
        split at h
        · rename_i v hv; exact ⟨v, ⟨k, n, hn, hv⟩, h⟩
        · exact h.elim
      · exact h.elim
    · rintro ⟨v, ⟨k, n, hn, hv⟩, hK⟩; rw [hn]; simp only [hv]; exact hK
  case iaddrS esz x i =>
    constructor
    · intro h; split at h
      · rename_i k n hn
        split at h
        · rename_i v hv; exact ⟨v, ⟨k, n, hn, hv⟩, h⟩
        · exact h.elim
      · exact h.elim
    · rintro ⟨v, ⟨k, n, hn, hv⟩, hK⟩; rw [hn]; simp only [hv]; exact hK
  case fieldv off idx n agg x =>
    constructor
    · intro h; split at h
      · rename_i ns fs hx
        obtain ⟨h1, h2, h⟩ := h
        split at h
        · rename_i v hv; exact ⟨v, ⟨ns, fs, hx, h1, h2, hv, h.1, h.2.1⟩, h.2.2⟩
        · exact h.elim
      · exact h.elim
    · rintro ⟨v, ⟨ns, fs, hx, h1, h2, hv, h3, h4⟩, hK⟩; rw [hx]; exact ⟨h1, h2, by rw [hv]; exact ⟨h3, h4, hK⟩⟩
  case b2s x =>
    constructor
    · intro h; split at h
      · rename_i u hu; exact ⟨_, ⟨u, hu, rfl⟩, h⟩
      · exact h.elim
    · rintro ⟨v, ⟨u, hu, rfl⟩, hK⟩; rw [hu]; exact hK
  case len str x =>
    constructor
    · intro h; split at h
      · rename_i n hn; exact ⟨_, ⟨n, hn, rfl⟩, h⟩
      · exact h.elim
    · rintro ⟨v, ⟨n, hn, rfl⟩, hK⟩; rw [hn]; exact hK
  case ext x i =>
    constructor
    · intro h; split at h
      · rename_i vs hvs
        split at h
        · rename_i v hv; exact ⟨v, ⟨vs, hvs, hv⟩, h⟩
        · exact h.elim
      · exact h.elim
    · rintro ⟨v, ⟨vs, hvs, hv⟩, hK⟩; rw [hvs]; simp only [hv]; exact hK
  case nilc x =>
    constructor
    · intro h; split at h
      · rename_i b l off p hx; exact ⟨_, ⟨rfl, .inl ⟨b, l, off, p, hx⟩⟩, by rw [hx]; exact h⟩
      · rename_i n u hx; exact ⟨_, ⟨rfl, .inr ⟨n, u, hx⟩⟩, by rw [hx]; exact h⟩
      · exact h.elim
    · rintro ⟨v, ⟨rfl, h⟩, hK⟩
      rcases h with ⟨b, l, off, p, hx⟩ | ⟨n, u, hx⟩
      · rw [hx] at hK ⊢; exact hK
      · rw [hx] at hK ⊢; exact hK
  case add64 x y c =>
    constructor
    · intro h; split at h
      · rename_i a b d h1 h2 h3
        split at h
        · rename_i hb; exact ⟨_, ⟨a, b, d, h1, h2, h3, hb, rfl⟩, h⟩
        · exact h.elim
      · exact h.elim
    · rintro ⟨v, ⟨a, b, d, h1, h2, h3, hb, rfl⟩, hK⟩
      rw [h1, h2, h3]; simp only [if_pos hb]; exact hK
  case lcall f args => simp only [and_assoc]
  case eqv t neg x y =>
    constructor
    · rintro ⟨b, h1, h2, h3, hK⟩; exact ⟨_, ⟨b, h1, h2, h3, rfl⟩, hK⟩
    · rintro ⟨v, ⟨b, h1, h2, h3, rfl⟩, hK⟩; exact ⟨b, h1, h2, h3, hK⟩
end
end Go.Cab
namespace Go.Cab
open Go.RowKit
open Classical
section
variable {P : Program} {ro : Nat → Bool} {s : AS} {K K' : AS → Prop} {dst od : Option Tmp} {v : AV}
def offT (od : Option Tmp) (xs : List Operand) : Prop := ∀ d, od = some d → .tmp d ∉ xs
theorem ev_put {x : Operand} (h : ∀ d, od = some d → x ≠ .tmp d) : (s.put od v).ev x = s.ev x := by
  cases od with
  | none => rfl
  | some d =>
    cases x with
    | tmp t =>
      have hne : d ≠ t := fun e => h d rfl (e ▸ rfl)
      simp [AS.ev, AS.put, List.getD, List.getElem?_set, hne]
    | _ => rfl
theorem offT.ev {xs : List Operand} (h : offT od xs) {x : Operand} (hx : x ∈ xs) : (s.put od v).ev x = s.ev x := ev_put fun d hd he => h d hd (he ▸ hx)
theorem blk_put (b : Nat) : (s.put od v).blk b = s.blk b := by cases od <;> rfl
theorem slot_put : (s.put od v).slot dst = s.slot dst := by cases od <;> rfl
theorem put_put {u : AV} (h : ∀ d, od = some d → dst ≠ some d) : (s.put dst u).put od v = (s.put od v).put dst u := by
  cases od with
  | none => rfl
  | some d =>
    cases dst with
    | none => rfl
    | some e =>
      have hne : e ≠ d := fun he => h d rfl (he ▸ rfl)
      simp [AS.put, List.set_comm _ _ hne]
theorem swap_hp {u : AV} {hp : List (Option Blk)} (h : ∀ d, od = some d → dst ≠ some d) : AS.put { s.put dst u with hp := hp } od v = { (s.put od v).put dst u with hp := hp } := by
  have := put_put (s := s) (u := u) (v := v) h
  cases od with
  | none => rfl
  | some d =>
    rw [← this]
    cases dst <;> rfl
theorem fillAV_congr {s s' : AS} : ∀ (ps : List (Nat × Operand)) (z : AV), (∀ p ∈ ps, s.ev p.2 = s'.ev p.2) → fillAV s z ps = fillAV s' z ps
  | [], _, _ => rfl
  | (i, x) :: ps, z, h => by
    have hx := h (i, x) (by simp)
    simp only at hx
    simp only [fillAV, hx]
    split
    · split
      · exact fillAV_congr ps _ fun p hp => h p (by simp [hp])
      · rfl
    · rfl
theorem peek_put {X : AV} : (s.put od v).peek ro X = s.peek ro X := by cases X <;> simp [AS.peek, blk_put]
theorem lenOf_put {X : AV} {str : Bool} : (s.put od v).lenOf ro str X = s.lenOf ro str X := by cases X <;> simp [AS.lenOf, blk_put]
theorem elemAddr_put {X : AV} {esz : Nat} {n : Int} : (s.put od v).elemAddr ro esz n X = s.elemAddr ro esz n X := by cases X <;> simp [AS.elemAddr, blk_put]
theorem coe_put {X : AV} : (s.put od v).coe ro X = s.coe ro X := by cases X <;> simp [AS.coe, blk_put]
theorem lendF_put {X : AV} : (s.put od v).lendF ro X = s.lendF ro X := by cases X <;> simp [AS.lendF, blk_put]
theorem lend_put {X : AV} : (s.put od v).lend ro X = s.lend ro X := by cases X <;> simp [AS.lend, lendF_put, blk_put]
theorem textOf_put {X : AV} : (s.put od v).textOf ro X = s.textOf ro X := by unfold AS.textOf; rw [lend_put]
theorem rowOf_put {X : AV} {e : TypeId} {esz : Nat} : (s.put od v).rowOf e esz X = s.rowOf e esz X := by cases X <;> simp [AS.rowOf, blk_put]
theorem part_put {X : AV} : (s.put od v).part X = s.part X := by cases X <;> simp [AS.part, blk_put]
theorem poke_put {X u : AV} {n : Nat} : (s.put od v).poke n u X = (s.poke n u X).map fun s' => s'.put od v := by
  cases X <;> simp only [AS.poke, Option.map_none]
  simp only [blk_put]
  split
  · split
    · split
      · split
        · simp [setBlk_put]
        · rfl
      · rfl
    · rfl
  · rfl
theorem poke_tm {s' : AS} {X u : AV} {n : Nat} (h : s.poke n u X = some s') : ∃ hp, s' = { s with hp := hp } := by
  cases X <;> simp only [AS.poke] at h <;> try (cases h; done)
  split at h <;> try (cases h; done)
  split at h <;> try (cases h; done)
  split at h <;> try (cases h; done)
  split at h <;> try (cases h; done)
  simp only [Option.some.injEq] at h
  exact ⟨_, h.symm⟩
theorem seal1_put (b : Nat) : (s.put od v).seal1 b = (s.seal1 b).put od v := by
  unfold AS.seal1
  rw [blk_put]
  split
  · rw [setBlk_put]
  · rfl
theorem seals_put : ∀ (bs : List Nat) {s : AS}, (s.put od v).seals bs = (s.seals bs).put od v
  | [], _ => rfl
  | b :: bs, s => by rw [AS.seals, seal1_put, seals_put bs, AS.seals]
theorem seals_hp (bs : List Nat) : ∃ hp, s.seals bs = { s with hp := hp } := by
  refine ⟨(s.seals bs).hp, ?_⟩
  have h1 := seals_tm bs s
  have h2 := seals_nr bs s
  generalize s.seals bs = t at *
  cases t; cases s; simp_all
theorem seals_ev (bs : List Nat) (x : Operand) : (s.seals bs).ev x = s.ev x := by
  obtain ⟨hp, e⟩ := seals_hp (s := s) bs
  rw [e]; cases x <;> rfl
theorem map_coe_put {xs : List Operand} (h : offT od xs) : (xs.map fun x => (s.put od v).coe ro ((s.put od v).ev x)) = xs.map fun x => s.coe ro (s.ev x) :=
  List.map_congr_left fun x hx => by rw [h.ev hx, coe_put]
theorem map_lend_put {xs : List Operand} (h : offT od xs) : (xs.map fun x => (s.put od v).lend ro ((s.put od v).ev x)) = xs.map fun x => s.lend ro (s.ev x) :=
  List.map_congr_left fun x hx => by rw [h.ev hx, lend_put]
theorem AI.go_put {ai : AI} (hl : offT od ai.ops) (hd : ∀ d, od = some d → dst ≠ some d) : ai.go P ro s dst (fun s1 => K (s1.put od v)) ↔ ai.go P ro (s.put od v) dst K := by
  have E : ∀ x ∈ ai.ops, (s.put od v).ev x = s.ev x := fun x hx => hl.ev hx
  have S : ∀ u, (s.put dst u).put od v = (s.put od v).put dst u := fun u => put_put hd
  have H : ∀ (u : AV) (hp : List (Option Blk)), AS.put { s.put dst u with hp := hp } od v = { (s.put od v).put dst u with hp := hp } := fun u hp => swap_hp hd
  cases ai <;> simp only [AI.ops, List.mem_cons, List.not_mem_nil, or_false, forall_eq_or_imp, forall_eq, false_or] at E hl <;> simp only [AI.go]
  case mov x => rw [S, E]
  case pick c a b => obtain ⟨e1, e2, e3⟩ := E; rw [e1, e2, e3]; split <;> simp [S]
  case bin op x y => obtain ⟨e1, e2⟩ := E; rw [e1, e2]; split; rotate_left; (rfl); split <;> simp [S]
  case beq neg x y => obtain ⟨e1, e2⟩ := E; rw [e1, e2]; split <;> simp [S]
  case un op x => rw [E]; split; rotate_left; (rfl); split <;> simp [S]
  case cvt k x => rw [E]; split <;> simp [S]
  case alloc n z => simp only [slot_put, put_hp, H]
  case box n x => simp only [E, slot_put, put_hp, H]
  case build z parts =>
    rw [fillAV_congr (s := s.put od v) (s' := s) parts z fun p hp => hl.ev (List.mem_map_of_mem hp)]; split <;> simp [S]
  case bslice esz z n parts =>
    rw [fillAV_congr (s := s.put od v) (s' := s) parts _ fun p hp => hl.ev (List.mem_map_of_mem hp)]; split <;> simp [S]
  case load agg n x => rw [E, peek_put]; split <;> simp [S]
  case store n x u =>
    obtain ⟨e1, e2⟩ := E
    rw [e1, e2, poke_put]
    cases hp : s.poke n (s.ev u) (s.ev x) with
    | none => simp
    | some s' =>
      obtain ⟨hp', rfl⟩ := poke_tm hp
      simp only [Option.map_some]
      have : AS.put (AS.put { s with hp := hp' } dst .any) od v = AS.put (AS.put { s with hp := hp' } od v) dst .any := put_put hd
      rw [this]
  case rdp g xs => have hm : (xs.map fun x => (s.put od v).ev x) = xs.map fun x => s.ev x := List.map_congr_left fun x hx => E x hx; rw [hm]; split <;> simp [S]
  case rd g xs => have hm : (xs.map fun x => (s.put od v).ev x) = xs.map fun x => s.ev x := List.map_congr_left fun x hx => E x hx; have hb : (fun b => if ro b then (s.put od v).blk b else none) = fun b => if ro b then s.blk b else none := funext fun b => by rw [blk_put]
                  rw [hm, hb]; split <;> simp [S]
  case ef g xs => have hm : (xs.map fun x => (s.put od v).ev x) = xs.map fun x => s.ev x := List.map_congr_left fun x hx => E x hx; simp only [hm, slot_put, put_hp, H]
  case xc g xs keep fresh =>
    have hm : (xs.map fun x => (s.put od v).ev x) = xs.map fun x => s.ev x := List.map_congr_left fun x hx => hl.ev (List.mem_append_left _ hx)
    have hk : ∀ hp', keepOk (s.put od v) keep hp' ↔ keepOk s keep hp' := fun hp' => by
      unfold keepOk
      rw [put_hp]
      refine forall_congr' fun t => forall_congr' fun ht => ?_
      rw [hl.ev (List.mem_append_right _ (List.mem_map_of_mem ht))]
    have hnr : (s.put od v).nr = s.nr := put_nr _ _ _
    simp only [hm, put_hp, hnr, H, hk]
  case prim p xs => rw [lits_congr (s := s) (s' := s.put od v) E]; split; rotate_left; (rfl); split <;> simp [S]
  case faddr off idx x => rw [E]; split <;> simp [S]
  case iaddrA ln esz x i => obtain ⟨e1, e2⟩ := E; rw [e1, e2]; split; rotate_left; (rfl); split <;> simp [S]
  case iaddrS esz x i => obtain ⟨e1, e2⟩ := E; rw [e1, e2]; split; rotate_left; (rfl); rw [elemAddr_put]; split <;> simp [S]
  case fieldv off idx n agg x => rw [E]; split; rotate_left; (rfl); split <;> simp [S]
  case b2s x => rw [E, textOf_put]; split <;> simp [S]
  case len str x => rw [E, lenOf_put]; split <;> simp [S]
  case ext x i => rw [E]; split; rotate_left; (rfl); split <;> simp [S]
  case nilc x => rw [E]; split <;> simp [S]
  case add64 x y c => obtain ⟨e1, e2, e3⟩ := E; rw [e1, e2, e3]; split; rotate_left; (rfl); split <;> simp [S]
  case append e esz bytes x y => obtain ⟨e1, e2⟩ := E; rw [e1, e2, rowOf_put, coe_put]; split; rotate_left; (rfl); simp only [slot_put, put_hp, H]
  case mkslice e esz bytes z l c => obtain ⟨e1, e2⟩ := E; rw [e1, e2]; split; rotate_left; (rfl); simp only [slot_put, put_hp, H]
  case eqv t neg x y => obtain ⟨e1, e2⟩ := E; rw [e1, e2]; simp only [S]
  case call f args =>
    refine exists_congr fun bs => exists_congr fun r => and_congr ?_ ?_
    · have : (args.map fun x => ((s.put od v).seals bs).coe ro (((s.put od v).seals bs).ev x)) = args.map fun x => (s.seals bs).coe ro ((s.seals bs).ev x) :=
        List.map_congr_left fun x hx => by rw [seals_ev, seals_ev, hl.ev hx, seals_put, coe_put]
      rw [this]
    · have S' : ∀ u, ((s.seals bs).put dst u).put od v = ((s.seals bs).put od v).put dst u := fun u => put_put hd
      have H' : ∀ (u : AV) (hp : List (Option Blk)), AS.put { (s.seals bs).put dst u with hp := hp } od v = { ((s.seals bs).put od v).put dst u with hp := hp } := fun u hp => swap_hp hd
      cases r <;> simp only [S', seals_put, slot_put, put_hp, H']
  case callv f args => rw [map_coe_put hl]; simp only [S]
  case lcall f args => rw [map_lend_put hl]; simp only [S]
  case icall f x args =>
    have e1 := E.1
    refine or_congr ?_ ?_
    rotate_left
    · have hx : ((x :: args).map fun y => (s.put od v).ev y) = (x :: args).map fun y => s.ev y := List.map_congr_left fun y hy => by
        rcases List.mem_cons.1 hy with rfl | hy
        · exact e1
        · exact E.2 y hy
      rw [hx, put_hp]
      refine exists_congr fun K' => and_congr Iff.rfl (and_congr Iff.rfl ?_)
      refine forall_congr' fun r => forall_congr' fun hp' => ?_
      rw [H]
    rw [e1, part_put]
    have hm : (args.map fun x => (s.put od v).coe ro ((s.put od v).ev x)) = args.map fun x => s.coe ro (s.ev x) := List.map_congr_left fun x hx => by rw [E.2 x hx, coe_put]
    rw [hm]
    split; rotate_left; (rfl)
    refine exists_congr fun r => exists_congr fun u' => and_congr Iff.rfl (and_congr Iff.rfl ?_)
    have e2 : ∀ (b : Nat) (x : Option Blk) (r : AV), AS.put ((s.setBlk b x).put dst r) od v = ((s.put od v).setBlk b x).put dst r := fun b x r => by
      rw [put_put hd, setBlk_put]
    rw [e2]
theorem AI.go_mono {ai : AI} (h : ∀ s, K s → K' s) : ai.go P ro s dst K → ai.go P ro s dst K' := by
  cases ai <;> simp only [AI.go]
  case mov x => exact h _
  case alloc n z => exact fun g l => h _ (g l)
  case box n x => exact fun ⟨a, b, g⟩ => ⟨a, b, fun l => h _ (g l)⟩
  case load agg n x => (split; (exact fun ⟨a, b, c, g⟩ => ⟨a, b, c, h _ g⟩); (exact id))
  case fieldv off idx n agg x => split; rotate_left; (exact id); rintro ⟨a, b, g⟩; refine ⟨a, b, ?_⟩; revert g; (split; (exact fun ⟨a, b, g⟩ => ⟨a, b, h _ g⟩); (exact id))
  case append e esz bytes x y => (split; (exact fun ⟨a, b, c, g⟩ => ⟨a, b, c, fun V => h _ (g V)⟩); (exact id))
  case mkslice e esz bytes z l c => (split; (exact fun ⟨a, b, c, d, g⟩ => ⟨a, b, c, d, fun V => h _ (g V)⟩); (exact id))
  case eqv t neg x y => exact fun ⟨b, a1, a2, a3, g⟩ => ⟨b, a1, a2, a3, h _ g⟩
  case call f args => rintro ⟨bs, r, a1, g⟩; refine ⟨bs, r, a1, ?_⟩; (cases r; (exact h _ g); (exact fun V => h _ (g V)))
  case callv f args => exact fun ⟨v, a, g⟩ => ⟨v, a, h _ g⟩
  case lcall f args => exact fun ⟨v, a, b, g⟩ => ⟨v, a, b, h _ g⟩
  case icall f x args => exact Or.imp (by split; (exact fun ⟨r, u, a, b, g⟩ => ⟨r, u, a, b, h _ g⟩); (exact id)) (fun ⟨K', a, b, g⟩ => ⟨K', a, b, fun r hp' k => h _ (g r hp' k)⟩)
  case rdp g xs => (split; (exact h _); (exact id))
  case rd g xs => (split; (exact h _); (exact id))
  case ef g xs => exact fun g V => let ⟨r, hp', e, k⟩ := g V; ⟨r, hp', e, h _ k⟩
  case xc g xs keep fresh => exact fun ⟨f, vs, e, K', a, b, c, d, g⟩ => ⟨f, vs, e, K', a, b, c, d, fun r hp' k => h _ (g r hp' k)⟩
  case pick c a b => (split; (exact h _); (exact id))
  case bin op x y => split; rotate_left; (exact id); (split; (exact h _); (exact id))
  case beq neg x y => (split; (exact h _); (exact id))
  case un op x => split; rotate_left; (exact id); (split; (exact h _); (exact id))
  case cvt k x => (split; (exact h _); (exact id))
  case build z parts => (split; (exact h _); (exact id))
  case bslice esz z n parts => (split; (exact h _); (exact id))
  case store n x v => (split; (exact h _); (exact id))
  case prim p xs => split; rotate_left; (exact id); (split; (exact h _); (exact id))
  case faddr off idx x => (split; (exact h _); (exact id))
  case iaddrA ln esz x i => split; rotate_left; (exact id); (split; (exact h _); (exact id))
  case iaddrS esz x i => split; rotate_left; (exact id); (split; (exact h _); (exact id))
  case b2s x => (split; (exact h _); (exact id))
  case len str x => (split; (exact h _); (exact id))
  case ext x i => split; rotate_left; (exact id); (split; (exact h _); (exact id))
  case nilc x => (split; (exact h _); (exact h _); (exact id))
  case add64 x y c => split; rotate_left; (exact id); (split; (exact h _); (exact id))
def Behind (s : AS) (dst : Option Tmp) (s1 : AS) : Prop := ∃ v hp, s1 = { s.put dst v with hp := hp }
theorem behind_put (v : AV) : Behind s dst (s.put dst v) := ⟨v, s.hp, by cases dst <;> rfl⟩
theorem behind_seals (bs : List Nat) (v : AV) : Behind s dst ((s.seals bs).put dst v) := by
  obtain ⟨hp, e⟩ := seals_hp (s := s) bs
  rw [e]
  exact ⟨v, hp, by cases dst <;> rfl⟩
theorem behind_seals' (bs : List Nat) (v : AV) (hp : List (Option Blk)) : Behind s dst { (s.seals bs).put dst v with hp := hp } := by
  obtain ⟨hp', e⟩ := seals_hp (s := s) bs
  rw [e]
  exact ⟨v, hp, by cases dst <;> rfl⟩
theorem behind_set (b : Nat) (x : Option Blk) (r : AV) : Behind s dst ((s.setBlk b x).put dst r) := ⟨r, s.hp.set b x, by cases dst <;> rfl⟩
theorem AI.go_post {ai : AI} : ai.go P ro s dst K → ai.go P ro s dst fun s1 => K s1 ∧ Behind s dst s1 := by
  cases ai <;> simp only [AI.go]
  case mov x => exact fun g => ⟨g, behind_put _⟩
  case alloc n z => exact fun g l => ⟨g l, _, _, rfl⟩
  case box n x => exact fun ⟨a, b, g⟩ => ⟨a, b, fun l => ⟨g l, _, _, rfl⟩⟩
  case load agg n x => (split; (exact fun ⟨a, b, c, g⟩ => ⟨a, b, c, g, behind_put _⟩); (exact id))
  case fieldv off idx n agg x => split; rotate_left; (exact id); rintro ⟨a, b, g⟩; refine ⟨a, b, ?_⟩; revert g; (split; (exact fun ⟨a, b, g⟩ => ⟨a, b, g, behind_put _⟩); (exact id))
  case append e esz bytes x y => (split; (exact fun ⟨a, b, c, g⟩ => ⟨a, b, c, fun V => ⟨g V, _, _, rfl⟩⟩); (exact id))
  case mkslice e esz bytes z l c => (split; (exact fun ⟨a, b, c, d, g⟩ => ⟨a, b, c, d, fun V => ⟨g V, _, _, rfl⟩⟩); (exact id))
  case eqv t neg x y => exact fun ⟨b, a1, a2, a3, g⟩ => ⟨b, a1, a2, a3, g, behind_put _⟩
  case call f args => rintro ⟨bs, r, a1, g⟩; refine ⟨bs, r, a1, ?_⟩; (cases r; (exact ⟨g, behind_seals _ _⟩); (exact fun V => ⟨g V, behind_seals' _ _ _⟩))
  case callv f args => exact fun ⟨v, a, g⟩ => ⟨v, a, g, behind_put _⟩
  case lcall f args => exact fun ⟨v, a, b, g⟩ => ⟨v, a, b, g, behind_put _⟩
  case icall f x args => exact Or.imp (by split; (exact fun ⟨r, u, a, b, g⟩ => ⟨r, u, a, b, g, behind_set _ _ _⟩); (exact id)) (fun ⟨K', a, b, g⟩ => ⟨K', a, b, fun r hp' k => ⟨g r hp' k, _, _, rfl⟩⟩)
  case rdp g xs => (split; (exact fun g => ⟨g, behind_put _⟩); (exact id))
  case rd g xs => (split; (exact fun g => ⟨g, behind_put _⟩); (exact id))
  case ef g xs => exact fun g V => let ⟨r, hp', e, k⟩ := g V; ⟨r, hp', e, k, _, _, rfl⟩
  case xc g xs keep fresh => exact fun ⟨f, vs, e, K', a, b, c, d, g⟩ => ⟨f, vs, e, K', a, b, c, d, fun r hp' k => ⟨g r hp' k, _, _, rfl⟩⟩
  case pick c a b => (split; (exact fun g => ⟨g, behind_put _⟩); (exact id))
  case bin op x y => split; rotate_left; (exact id); (split; (exact fun g => ⟨g, behind_put _⟩); (exact id))
  case beq neg x y => (split; (exact fun g => ⟨g, behind_put _⟩); (exact id))
  case un op x => split; rotate_left; (exact id); (split; (exact fun g => ⟨g, behind_put _⟩); (exact id))
  case cvt k x => (split; (exact fun g => ⟨g, behind_put _⟩); (exact id))
  case build z parts => (split; (exact fun g => ⟨g, behind_put _⟩); (exact id))
  case bslice esz z n parts => (split; (exact fun g => ⟨g, behind_put _⟩); (exact id))
  case store n x v =>
    split; rotate_left; (exact id)
    rename_i s' hp
    obtain ⟨hp', rfl⟩ := poke_tm hp
    exact fun g => ⟨g, .any, hp', by cases dst <;> rfl⟩
  case prim p xs => split; rotate_left; (exact id); (split; (exact fun g => ⟨g, behind_put _⟩); (exact id))
  case faddr off idx x => (split; (exact fun g => ⟨g, behind_put _⟩); (exact id))
  case iaddrA ln esz x i => split; rotate_left; (exact id); (split; (exact fun g => ⟨g, behind_put _⟩); (exact id))
  case iaddrS esz x i => split; rotate_left; (exact id); (split; (exact fun g => ⟨g, behind_put _⟩); (exact id))
  case b2s x => (split; (exact fun g => ⟨g, behind_put _⟩); (exact id))
  case len str x => (split; (exact fun g => ⟨g, behind_put _⟩); (exact id))
  case ext x i => split; rotate_left; (exact id); (split; (exact fun g => ⟨g, behind_put _⟩); (exact id))
  case nilc x => (split; (exact fun g => ⟨g, behind_put _⟩); (exact fun g => ⟨g, behind_put _⟩); (exact id))
  case add64 x y c => split; rotate_left; (exact id); (split; (exact fun g => ⟨g, behind_put _⟩); (exact id))
theorem AI.go_ex {ai : AI} : ai.go P ro s dst K → ∃ s1, K s1 := by
  cases ai <;> simp only [AI.go]
  case mov x => exact fun g => ⟨_, g⟩
  case alloc n z => exact fun g => ⟨_, g (0, 0)⟩
  case box n x => exact fun ⟨a, b, g⟩ => ⟨_, g (0, 0)⟩
  case load agg n x => (split; (exact fun ⟨a, b, c, g⟩ => ⟨_, g⟩); (exact False.elim))
  case fieldv off idx n agg x => split; rotate_left; (exact False.elim); rintro ⟨a, b, g⟩; revert g; (split; (exact fun ⟨a, b, g⟩ => ⟨_, g⟩); (exact False.elim))
  case append e esz bytes x y => (split; (exact fun ⟨a, b, c, g⟩ => ⟨_, g undef⟩); (exact False.elim))
  case mkslice e esz bytes z l c => (split; (exact fun ⟨a, b, c, d, g⟩ => ⟨_, g undef⟩); (exact False.elim))
  case eqv t neg x y => exact fun ⟨b, a1, a2, a3, g⟩ => ⟨_, g⟩
  case call f args => rintro ⟨bs, r, a1, g⟩; (cases r; (exact ⟨_, g⟩); (exact ⟨_, g undef⟩))
  case callv f args => exact fun ⟨v, a, g⟩ => ⟨_, g⟩
  case lcall f args => exact fun ⟨v, a, b, g⟩ => ⟨_, g⟩
  case icall f x args => exact fun h => h.elim (by split; (exact fun ⟨r, u, a, b, g⟩ => ⟨_, g⟩); (exact False.elim)) (fun ⟨K', a, ⟨r, hp', k⟩, g⟩ => ⟨_, g r hp' k⟩)
  case rdp g xs => (split; (exact fun g => ⟨_, g⟩); (exact False.elim))
  case rd g xs => (split; (exact fun g => ⟨_, g⟩); (exact False.elim))
  case ef g xs => exact fun g => let ⟨_, _, _, k⟩ := g undef; ⟨_, k⟩
  case xc g xs keep fresh => exact fun ⟨f, vs, e, K', a, ⟨r, hp', k⟩, c, d, g⟩ => ⟨_, g r hp' k⟩
  case pick c a b => (split; (exact fun g => ⟨_, g⟩); (exact False.elim))
  case bin op x y => split; rotate_left; (exact False.elim); (split; (exact fun g => ⟨_, g⟩); (exact False.elim))
  case beq neg x y => (split; (exact fun g => ⟨_, g⟩); (exact False.elim))
  case un op x => split; rotate_left; (exact False.elim); (split; (exact fun g => ⟨_, g⟩); (exact False.elim))
  case cvt k x => (split; (exact fun g => ⟨_, g⟩); (exact False.elim))
  case build z parts => (split; (exact fun g => ⟨_, g⟩); (exact False.elim))
  case bslice esz z n parts => (split; (exact fun g => ⟨_, g⟩); (exact False.elim))
  case store n x v => (split; (exact fun g => ⟨_, g⟩); (exact False.elim))
  case prim p xs => split; rotate_left; (exact False.elim); (split; (exact fun g => ⟨_, g⟩); (exact False.elim))
  case faddr off idx x => (split; (exact fun g => ⟨_, g⟩); (exact False.elim))
  case iaddrA ln esz x i => split; rotate_left; (exact False.elim); (split; (exact fun g => ⟨_, g⟩); (exact False.elim))
  case iaddrS esz x i => split; rotate_left; (exact False.elim); (split; (exact fun g => ⟨_, g⟩); (exact False.elim))
  case b2s x => (split; (exact fun g => ⟨_, g⟩); (exact False.elim))
  case len str x => (split; (exact fun g => ⟨_, g⟩); (exact False.elim))
  case ext x i => split; rotate_left; (exact False.elim); (split; (exact fun g => ⟨_, g⟩); (exact False.elim))
  case nilc x => (split; (exact fun g => ⟨_, g⟩); (exact fun g => ⟨_, g⟩); (exact False.elim))
  case add64 x y c => split; rotate_left; (exact False.elim); (split; (exact fun g => ⟨_, g⟩); (exact False.elim))
theorem Behind.ev {s1 : AS} (h : Behind s dst s1) {xs : List Operand} (hl : offT dst xs) : ∀ x ∈ xs, s1.ev x = s.ev x := by
  obtain ⟨v, hp, rfl⟩ := h
  intro x hx
  have : ({ s.put dst v with hp := hp } : AS).ev x = (s.put dst v).ev x := by cases x <;> rfl
  rw [this]; exact hl.ev hx
theorem AI.val_congr {ai : AI} (h0 : ai.cls = 0) {s' : AS} (h : ∀ x ∈ ai.ops, s'.ev x = s.ev x) {u : AV} : ai.val P ro s' u ↔ ai.val P ro s u := by
  cases ai <;> simp only [AI.cls] at h0 <;> try omega
  all_goals simp only [AI.ops, List.mem_cons, List.not_mem_nil, or_false, forall_eq_or_imp, forall_eq] at h
  all_goals simp only [AI.val]
  case mov x => rw [h]
  case pick c a b => obtain ⟨e1, e2, e3⟩ := h; rw [e1, e2, e3]
  case bin op x y => obtain ⟨e1, e2⟩ := h; rw [e1, e2]
  case beq neg x y => obtain ⟨e1, e2⟩ := h; rw [e1, e2]
  case un op x => rw [h]
  case cvt k x => rw [h]
  case build z parts => rw [fillAV_congr (s := s') (s' := s) parts z fun p hp => h _ (List.mem_map_of_mem hp)]
  case bslice esz z n parts => rw [fillAV_congr (s := s') (s' := s) parts _ fun p hp => h _ (List.mem_map_of_mem hp)]
  case rdp g xs => rw [List.map_congr_left h]
  case prim p xs => rw [lits_congr h]
  case faddr off idx x => rw [h]
  case iaddrA ln esz x i => obtain ⟨e1, e2⟩ := h; rw [e1, e2]
  case fieldv off idx n agg x => rw [h]
  case ext x i => rw [h]
  case nilc x => rw [h]
  case add64 x y c => obtain ⟨e1, e2, e3⟩ := h; rw [e1, e2, e3]
theorem AI.val_fun {ai : AI} (h0 : ai.cls = 0) {u u' : AV} (h : ai.val P ro s u) (h' : ai.val P ro s u') : u = u' := by
  cases ai <;> simp only [AI.cls] at h0 <;> try omega
  all_goals simp only [AI.val] at h h'
  case mov x => rw [h, h']
  case pick c a b => obtain ⟨t, e1, rfl⟩ := h; obtain ⟨t', e2, rfl⟩ := h'; rw [e1] at e2; simp at e2; rw [e2]
  case bin op x y => obtain ⟨a, b, u, e1, e2, e3, rfl⟩ := h; obtain ⟨a', b', u', e4, e5, e6, rfl⟩ := h'; simp_all
  case beq neg x y => obtain ⟨p, q, e1, e2, rfl⟩ := h; obtain ⟨p', q', e3, e4, rfl⟩ := h'; simp_all
  case un op x => obtain ⟨a, u, e1, e2, rfl⟩ := h; obtain ⟨a', u', e3, e4, rfl⟩ := h'; simp_all
  case cvt k x => obtain ⟨k', n, e1, rfl⟩ := h; obtain ⟨k'', n', e2, rfl⟩ := h'; simp_all
  case build z parts => simp_all
  case bslice esz z n parts => obtain ⟨k, els, e1, rfl⟩ := h; obtain ⟨k', els', e2, rfl⟩ := h'; simp_all
  case rdp g xs => rw [h] at h'; exact Option.some.inj h'
  case prim p xs => obtain ⟨vs, u, e1, e2, rfl⟩ := h; obtain ⟨vs', u', e3, e4, rfl⟩ := h'; simp_all
  case faddr off idx x => simp_all
  case iaddrA ln esz x i => obtain ⟨k, n, e1, e2⟩ := h; obtain ⟨k', n', e3, e4⟩ := h'; simp_all
  case fieldv off idx n agg x => obtain ⟨ns, fs, e1, _, _, e2, _⟩ := h; obtain ⟨ns', fs', e3, _, _, e4, _⟩ := h'; simp_all
  case ext x i => obtain ⟨vs, e1, e2⟩ := h; obtain ⟨vs', e3, e4⟩ := h'; simp_all
  case nilc x => rw [h.1, h'.1]
  case add64 x y c => obtain ⟨a, b, d, e1, e2, e3, _, rfl⟩ := h; obtain ⟨a', b', d', e4, e5, e6, _, rfl⟩ := h'; simp_all
theorem AI.val_put {ai : AI} (h2 : ai.cls < 2) (hl : offT od ai.ops) {u : AV} : ai.val P ro (s.put od v) u ↔ ai.val P ro s u := by
  have h := @AI.go_put P ro s (fun s1 => s1 = (s.put od v).put none u) none od v ai hl (by simp)
  have E : ∀ x ∈ ai.ops, (s.put od v).ev x = s.ev x := fun x hx => hl.ev hx
  by_cases h0 : ai.cls = 0
  · exact AI.val_congr h0 E
  · have h1 : ai.cls = 1 := by omega
    clear h0 h2 h
    cases ai <;> simp only [AI.cls] at h1 <;> try (cases h1; done)
    all_goals simp only [AI.ops, List.mem_cons, List.not_mem_nil, or_false, forall_eq_or_imp, forall_eq] at E
    all_goals simp only [AI.val]
    case load agg n x => rw [E, peek_put]
    case iaddrS esz x i => obtain ⟨e1, e2⟩ := E; simp only [e1, e2, elemAddr_put]
    case rd g xs =>
      have hb : (fun b => if ro b then (s.put od v).blk b else none) = fun b => if ro b then s.blk b else none := funext fun b => by rw [blk_put]
      rw [List.map_congr_left E, hb]
    case b2s x => simp only [E, textOf_put]
    case len str x => simp only [E, lenOf_put]
    case eqv t neg x y => obtain ⟨e1, e2⟩ := E; rw [e1, e2]
    case callv f args => have hl' : offT od args := hl; rw [map_coe_put hl']
    case lcall f args => have hl' : offT od args := hl; rw [map_lend_put hl']
def BehindW (s : AS) (dst : Option Tmp) (b : Nat) (s1 : AS) : Prop := ∃ v x, s1 = { s.put dst v with hp := s.hp.set b x }
theorem BehindW.behind {b : Nat} {s1 : AS} (h : BehindW s dst b s1) : Behind s dst s1 := by obtain ⟨v, x, e⟩ := h; exact ⟨v, _, e⟩
theorem BehindW.blk {b k : Nat} {s1 : AS} (h : BehindW s dst b s1) (hk : k ≠ b) : s1.blk k = s.blk k := by
  obtain ⟨v, x, rfl⟩ := h
  simp [AS.blk, List.getElem?_set, Ne.symm hk]
theorem behindW_set (b : Nat) (x : Option Blk) (r : AV) : BehindW s dst b ((s.setBlk b x).put dst r) := ⟨r, x, by cases dst <;> rfl⟩
def AI.wr (dst own : Option Tmp) : AI → Option Tmp
  | .alloc _ _ | .box _ _ => some (dst.getD 0)
  | .store _ _ _ => own
  | _ => none
def AI.isNew : AI → Bool
  | .alloc _ _ | .box _ _ => true
  | _ => false
theorem AI.go_postW {ai : AI} {own : Option Tmp} {t : Tmp} (hw : ai.wr dst own = some t) (hm : ∀ n p u, ai = .store n p u → ∃ l off path, s.ev p = .ptr (s.nr + t) l off path) :
    ai.go P ro s dst K → ai.go P ro s dst fun s1 => K s1 ∧ BehindW s dst (s.nr + t) s1 := by
  cases ai <;> simp only [AI.wr] at hw <;> try (cases hw; done)
  case alloc n z =>
    cases hw
    simp only [AI.go]
    exact fun g l => ⟨g l, _, _, rfl⟩
  case box n x =>
    cases hw
    simp only [AI.go]
    exact fun ⟨a, b, g⟩ => ⟨a, b, fun l => ⟨g l, _, _, rfl⟩⟩
  case store n p u =>
    obtain ⟨l, off, path, e⟩ := hm n p u rfl
    simp only [AI.go, e]
    split
    · rename_i s' hp
      intro g
      refine ⟨g, ?_⟩
      simp only [AS.poke] at hp
      split at hp <;> try (cases hp; done)
      split at hp <;> try (cases hp; done)
      split at hp <;> try (cases hp; done)
      split at hp <;> try (cases hp; done)
      cases hp
      exact behindW_set _ _ _
    · exact id
theorem peek_w {b : Nat} {s1 : AS} (h : BehindW s dst b s1) (hr : ro b = false) {X : AV} : s1.peek ro X = s.peek ro X := by
  cases X
  case ptr k l off p =>
    simp only [AS.peek]
    by_cases hk : k = b
    · subst hk; simp [hr]
    · rw [h.blk hk]
  all_goals rfl
theorem lenOf_w {b : Nat} {s1 : AS} (h : BehindW s dst b s1) (hr : ro b = false) {X : AV} {str : Bool} : s1.lenOf ro str X = s.lenOf ro str X := by
  cases X
  case own k V =>
    simp only [AS.lenOf]
    by_cases hk : k = b
    · subst hk; simp [hr]
    · rw [h.blk hk]
  case lit v =>
    unfold AS.lenOf
    split <;> first | rfl | (rename_i hx; cases hx) | simp_all
  all_goals rfl
theorem elemAddr_w {b : Nat} {s1 : AS} (h : BehindW s dst b s1) (hr : ro b = false) {X : AV} {esz : Nat} {n : Int} : s1.elemAddr ro esz n X = s.elemAddr ro esz n X := by
  cases X
  case own k V =>
    simp only [AS.elemAddr]
    by_cases hk : k = b
    · subst hk; simp [hr]
    · rw [h.blk hk]
  all_goals simp only [AS.elemAddr]
theorem coe_w {b : Nat} {s1 : AS} (h : BehindW s dst b s1) (hr : ro b = false) {X : AV} : s1.coe ro X = s.coe ro X := by
  cases X
  case own k V =>
    simp only [AS.coe]
    by_cases hk : k = b
    · subst hk; simp [hr]
    · rw [h.blk hk]
  all_goals simp only [AS.coe]
theorem lendF_w {b : Nat} {s1 : AS} (h : BehindW s dst b s1) (hr : ro b = false) {X : AV} : s1.lendF ro X = s.lendF ro X := by
  cases X
  case own k V =>
    simp only [AS.lendF]
    by_cases hk : k = b
    · subst hk; simp [hr]
    · rw [h.blk hk]
  all_goals simp only [AS.lendF]
theorem lend_w {b : Nat} {s1 : AS} (h : BehindW s dst b s1) (hr : ro b = false) {X : AV} : s1.lend ro X = s.lend ro X := by
  cases X
  case own k V =>
    simp only [AS.lend]
    by_cases hk : k = b
    · subst hk; simp [hr]
    · rw [h.blk hk]
  all_goals simp only [AS.lend, lendF_w h hr]
theorem textOf_w {b : Nat} {s1 : AS} (h : BehindW s dst b s1) (hr : ro b = false) {X : AV} : s1.textOf ro X = s.textOf ro X := by unfold AS.textOf; rw [lend_w h hr]
theorem AI.val_w {ai : AI} (h1 : ai.cls = 1) {b : Nat} {s1 : AS} (h : BehindW s dst b s1) (hr : ro b = false) (hl : offT dst ai.ops) {u : AV} : ai.val P ro s1 u ↔ ai.val P ro s u := by
  have E := h.behind.ev hl
  cases ai <;> simp only [AI.cls] at h1 <;> try (cases h1; done)
  all_goals simp only [AI.ops, List.mem_cons, List.not_mem_nil, or_false, forall_eq_or_imp, forall_eq] at E
  all_goals simp only [AI.val]
  case load agg n x => rw [E, peek_w h hr]
  case iaddrS esz x i => obtain ⟨e1, e2⟩ := E; simp only [e1, e2, elemAddr_w h hr]
  case rd g xs =>
    have hb : (fun b' => if ro b' then s1.blk b' else none) = fun b' => if ro b' then s.blk b' else none := funext fun b' => by
      by_cases hk : b' = b
      · subst hk; simp [hr]
      · rw [h.blk hk]
    rw [List.map_congr_left E, hb]
  case b2s x => simp only [E, textOf_w h hr]
  case len str x => simp only [E, lenOf_w h hr]
  case eqv t neg x y => obtain ⟨e1, e2⟩ := E; rw [e1, e2]
  case callv f args =>
    have : (args.map fun x => s1.coe ro (s1.ev x)) = args.map fun x => s.coe ro (s.ev x) := List.map_congr_left fun x hx => by rw [E x hx, coe_w h hr]
    rw [this]
  case lcall f args =>
    have : (args.map fun x => s1.lend ro (s1.ev x)) = args.map fun x => s.lend ro (s.ev x) := List.map_congr_left fun x hx => by rw [E x hx, lend_w h hr]
    rw [this]
def AI.fn1 : AI → Bool
  | .load .. | .len .. | .iaddrS .. => true
  | _ => false
theorem AI.val_fun1 {ai : AI} (h0 : ai.fn1 = true) {u u' : AV} (h : ai.val P ro s u) (h' : ai.val P ro s u') : u = u' := by
  cases ai <;> simp only [AI.fn1] at h0 <;> try (cases h0; done)
  all_goals simp only [AI.val] at h h'
  case load agg n x => have := h.1.symm.trans h'.1; simp at this; exact this
  case iaddrS esz x i => obtain ⟨k, n, e1, e2⟩ := h; obtain ⟨k', n', e3, e4⟩ := h'; simp_all
  case len str x => obtain ⟨n, e1, rfl⟩ := h; obtain ⟨n', e2, rfl⟩ := h'; simp_all
def BehindK (s : AS) (dst : Option Tmp) (keep : List Tmp) (s1 : AS) : Prop := ∃ r hp', s1 = { s.put dst r with hp := hp' } ∧ keepOk s keep hp'
theorem BehindK.behind {keep : List Tmp} {s1 : AS} (h : BehindK s dst keep s1) : Behind s dst s1 := by obtain ⟨r, hp', e, _⟩ := h; exact ⟨r, hp', e⟩
theorem AI.go_postK {g : XT} {xs : List Operand} {keep fresh : List Tmp} : (AI.xc g xs keep fresh).go P ro s dst K → (AI.xc g xs keep fresh).go P ro s dst fun s1 => K s1 ∧ BehindK s dst keep s1 := by
  simp only [AI.go]
  exact fun ⟨f, vs, e, K', a, b, c, d, g⟩ => ⟨f, vs, e, K', a, b, c, d, fun r hp' k => ⟨g r hp' k, r, hp', rfl, (c r hp' k).1⟩⟩
theorem keepOk_of {s : AS} {keep : List Tmp} {slot : Nat} {v : AV} {ob : Option Nat} {x : Option Blk} (h : ∀ t ∈ keep, ∀ b, (s.ev (.tmp t)).place = some b → b ≠ slot ∧ ∀ b' V, v = .own b' V → b' ≠ b) (ho : ∀ b, ob = some b → ∃ V, v = .own b V) : keepOk s keep ((hpDrop s.hp ob).set slot x) := by
  intro t ht b e
  obtain ⟨h1, h2⟩ := h t ht b e
  rw [List.getElem?_set_ne (Ne.symm h1)]
  cases ob with
  | none => rfl
  | some c =>
    obtain ⟨V, hV⟩ := ho c rfl
    show ((s.hp.set c none)[b]?).join = _
    rw [List.getElem?_set_ne (h2 c V hV)]
theorem AI.go_postA {e : TypeId} {esz bytes : Nat} {p q : Operand} {keep : List Tmp} (h : ∀ t ∈ keep, ∀ b, (s.ev (.tmp t)).place = some b → b ≠ s.slot dst ∧ ∀ b' V, s.ev p = .own b' V → b' ≠ b) :
    (AI.append e esz bytes p q).go P ro s dst K → (AI.append e esz bytes p q).go P ro s dst fun s1 => K s1 ∧ BehindK s dst keep s1 := by
  simp only [AI.go]
  split
  · rename_i ob els sl esz' ys hr _
    refine fun ⟨a, b, c, g⟩ => ⟨a, b, c, fun V => ⟨g V, _, _, rfl, keepOk_of h fun b' hb' => ?_⟩⟩
    subst hb'
    unfold AS.rowOf at hr
    split at hr <;> try (cases hr; done)
    rename_i b0 V0 he
    split at hr <;> try (cases hr; done)
    split at hr <;> try (cases hr; done)
    cases hr
    exact ⟨V0, he⟩
  · exact id
theorem AI.go_postE {e : TypeId} {esz bytes : Nat} {str : Bool} {p q : Operand} {keep : List Tmp} (h : ∀ t ∈ keep, ∀ b, (s.ev (.tmp t)).place = some b → b ≠ s.slot dst ∧ ∀ b' V, s.ev p = .own b' V → b' ≠ b) :
    (AI.ef (.app e esz bytes str) [p, q]).go P ro s dst K → (AI.ef (.app e esz bytes str) [p, q]).go P ro s dst fun s1 => K s1 ∧ BehindK s dst keep s1 := by
  simp only [AI.go]
  refine fun g V => ?_
  obtain ⟨r, hp', e1, hk⟩ := g V
  refine ⟨r, hp', e1, hk, r, hp', rfl, ?_⟩
  have hd : efA (s.slot dst) V s.hp (.app e esz bytes str) ([p, q].map fun x => s.ev x) = match rowB s.hp e esz (s.ev p), listB (fun b => (s.hp[b]?).join) esz (s.ev q) with
    | some (ob, els, sl), some ys => if (s.ev q).isText = str ∧ els.length + ys.length ≤ maxLen ∧ (els.length + ys.length) * bytes ≤ 140737488355328 then
        some (.own (s.slot dst) V, (hpDrop s.hp ob).set (s.slot dst) (some (.row e V esz (els ++ ys) sl))) else none
    | _, _ => none := rfl
  rw [hd] at e1
  split at e1 <;> try (cases e1; done)
  rename_i ob els sl ys hr _
  split at e1 <;> try (cases e1; done)
  cases e1
  refine keepOk_of h fun b' hb' => ?_
  subst hb'
  unfold rowB at hr
  split at hr <;> try (cases hr; done)
  rename_i b0 V0 he
  split at hr <;> try (cases hr; done)
  split at hr <;> try (cases hr; done)
  cases hr
  exact ⟨V0, he⟩
theorem AI.go_postB {e : TypeId} {esz n : Nat} {z : AV} {idx : List Nat} {xs : List Operand} {keep : List Tmp} (h : ∀ t ∈ keep, ∀ b, (s.ev (.tmp t)).place = some b → b ≠ s.slot dst ∧ ∀ b' V, (AV.any) = .own b' V → b' ≠ b) :
    (AI.ef (.bown e esz z n idx) xs).go P ro s dst K → (AI.ef (.bown e esz z n idx) xs).go P ro s dst fun s1 => K s1 ∧ BehindK s dst keep s1 := by
  simp only [AI.go]
  refine fun g V => ?_
  obtain ⟨r, hp', e1, hk⟩ := g V
  refine ⟨r, hp', e1, hk, r, hp', rfl, ?_⟩
  have hd : efA (s.slot dst) V s.hp (.bown e esz z n idx) (xs.map fun x => s.ev x) = match fillV (.arr esz (List.replicate n z)) (idx.zip (xs.map fun x => s.ev x)) with
    | some (.arr _ els) => some (.own (s.slot dst) V, s.hp.set (s.slot dst) (some (.row e V esz els 0)))
    | _ => none := rfl
  rw [hd] at e1
  split at e1 <;> try (cases e1; done)
  cases e1
  exact keepOk_of (ob := none) h (by simp)
theorem AI.go_xnew {g : XT} {xs : List Operand} {keep fresh : List Tmp} {y : AI} {e : Tmp} {od : Option Tmp} (hy : y.isNew = true) (he : e ∈ fresh) (hd : od ≠ some e) (h1 : offT od y.ops) (h2 : offT (some e) (xs ++ keep.map .tmp))
    (G : (AI.xc g xs keep fresh).go P ro s od fun s1 => y.go P ro s1 (some e) K) : y.go P ro s (some e) fun s2 => (AI.xc g xs keep fresh).go P ro s2 od K := by
  simp only [AI.go] at G
  obtain ⟨f, vs, ht, K', hfam, hex, hko, hlt, hK⟩ := G
  have hlen : ∀ r hp', K' r hp' → s.hp.length ≤ hp'.length := fun r hp' k => ((hko r hp' k).2).resolve_left (fun h => by rw [h] at he; cases he)
  have hsl : s.nr + e < s.hp.length := hlt e he
  have key : ∀ (l : Nat × Nat) (B : Blk), (∀ r hp', K' r hp' → K { AS.put { s.put od r with hp := hp' } (some e) (.ptr (s.nr + e) l 0 []) with hp := hp'.set (s.nr + e) (some B) }) →
      (AI.xc g xs keep fresh).go P ro { s.put (some e) (.ptr (s.nr + e) l 0 []) with hp := s.hp.set (s.nr + e) (some B) } od K := by
    intro l B hB
    simp only [AI.go]
    have hm : ∀ x ∈ xs ++ keep.map .tmp, ({ s.put (some e) (.ptr (s.nr + e) l 0 []) with hp := s.hp.set (s.nr + e) (some B) } : AS).ev x = s.ev x := fun x hx => by
      have : ({ s.put (some e) (.ptr (s.nr + e) l 0 []) with hp := s.hp.set (s.nr + e) (some B) } : AS).ev x = (s.put (some e) (.ptr (s.nr + e) l 0 [])).ev x := by cases x <;> rfl
      rw [this]; exact h2.ev hx
    refine ⟨f, vs, ?_, fun r H => ∃ hp', K' r hp' ∧ H = hp'.set (s.nr + e) (some B), fun E hE => ?_, ?_, ?_, ?_, ?_⟩
    · intro E hE
      rw [List.map_congr_left fun x hx => hm x (List.mem_append_left _ hx)]
      exact ht ((e, B) :: E) (fun x hx => by
        rcases List.mem_cons.1 hx with rfl | hx
        · exact he
        · exact hE x hx)
    · have := hfam ((e, B) :: E) (fun x hx => by
        rcases List.mem_cons.1 hx with rfl | hx
        · exact he
        · exact hE x hx)
      intro w0 w regs Imm0 Vs a1 a2 a3 a4
      exact Calls.mono (this w0 w regs Imm0 Vs a1 a2 a3 a4) fun e' w' ⟨V, r, hp', Imm', he', ⟨hp2, hk, e2⟩, rest⟩ => ⟨V, r, hp', Imm', he', ⟨_, ⟨hp2, hk, rfl⟩, e2⟩, rest⟩
    · obtain ⟨r, hp', k⟩ := hex
      exact ⟨r, _, hp', k, rfl⟩
    · rintro r H ⟨hp', k, rfl⟩
      refine ⟨fun t ht b e' => ?_, .inr (by simp; exact hlen r hp' k)⟩
      rw [hm _ (List.mem_append_right _ (List.mem_map_of_mem ht))] at e'
      have h3 := (hko r hp' k).1 t ht b e'
      have h4 := hlen r hp' k
      by_cases hb : s.nr + e = b
      · subst hb
        rw [List.getElem?_set_self (by omega), List.getElem?_set_self hsl]
      · rw [List.getElem?_set_ne hb, List.getElem?_set_ne hb]; exact h3
    · intro t ht
      show (s.put (some e) (.ptr (s.nr + e) l 0 [])).nr + t < (s.hp.set (s.nr + e) (some B)).length
      rw [put_nr, List.length_set]; exact hlt t ht
    · rintro r H ⟨hp', k, rfl⟩
      have h5 := hB r hp' k
      have h6 : ({ AS.put { s.put (some e) (.ptr (s.nr + e) l 0 []) with hp := s.hp.set (s.nr + e) (some B) } od r with hp := hp'.set (s.nr + e) (some B) } : AS) = { AS.put { s.put od r with hp := hp' } (some e) (.ptr (s.nr + e) l 0 []) with hp := hp'.set (s.nr + e) (some B) } := by
        cases od with
        | none => rfl
        | some d =>
          have hne : d ≠ e := fun h => hd (by rw [h])
          simp only [AS.put]
          congr 1
          exact List.set_comm _ _ (Ne.symm hne)
      rw [h6]; exact h5
  cases y <;> simp only [AI.isNew] at hy <;> try (cases hy; done)
  case alloc n z =>
    simp only [AI.go]
    intro l
    refine key l (.box l n z) fun r hp' k => ?_
    have := hK r hp' k
    simp only [AI.go] at this
    have h7 := this l
    have hs1 : ({ s.put od r with hp := hp' } : AS).slot (some e) = s.nr + e := by cases od <;> rfl
    rw [hs1] at h7
    exact h7
  case box n x =>
    have hx : ∀ r hp', ({ s.put od r with hp := hp' } : AS).ev x = s.ev x := fun r hp' => by
      have : ({ s.put od r with hp := hp' } : AS).ev x = (s.put od r).ev x := by cases x <;> rfl
      rw [this]; exact h1.ev (by simp [AI.ops])
    simp only [AI.go]
    obtain ⟨r0, hp0, k0⟩ := hex
    have h0 := hK r0 hp0 k0
    simp only [AI.go, hx] at h0
    refine ⟨h0.1, h0.2.1, fun l => ?_⟩
    refine key l (.box l n (s.ev x)) fun r hp' k => ?_
    have := hK r hp' k
    simp only [AI.go, hx] at this
    have h7 := this.2.2 l
    have hs1 : ({ s.put od r with hp := hp' } : AS).slot (some e) = s.nr + e := by cases od <;> rfl
    rw [hs1] at h7
    exact h7
def AI.calm (own : Option Tmp) (s : AS) : AI → Prop
  | .load _ _ p => ∀ t, own = some t → ∀ b l off path, s.ev p = .ptr b l off path → (s.ev (.tmp t)).place = some b
  | .len _ p => ∀ t, own = some t → ∀ b V, s.ev p = .own b V → (s.ev (.tmp t)).place = some b
  | .iaddrS _ p _ => ∀ t, own = some t → ∀ b V, s.ev p = .own b V → (s.ev (.tmp t)).place = some b
  | .callv _ ps => ∀ p ∈ ps, ∀ b V, s.ev p ≠ .own b V
  | _ => False
theorem AI.val_k {ai : AI} {own : Option Tmp} {t : Tmp} (ho : own = some t) {keep : List Tmp} (ht : t ∈ keep ∨ (match ai with | .callv .. => True | _ => False)) {s1 : AS} (h : BehindK s dst keep s1) (hc : ai.calm own s) (hl : offT dst ai.ops) {u : AV} : ai.val P ro s1 u ↔ ai.val P ro s u := by
  have E := h.behind.ev hl
  obtain ⟨r, hp', rfl, hk⟩ := h
  cases ai <;> simp only [AI.calm] at hc <;> try (exact hc.elim)
  all_goals simp only [AI.ops, List.mem_cons, List.not_mem_nil, or_false, forall_eq_or_imp, forall_eq] at E
  all_goals simp only [AI.val]
  case load agg n p =>
    have ht' : t ∈ keep := ht.resolve_right id
    rw [E]
    have : ({ s.put dst r with hp := hp' } : AS).peek ro (s.ev p) = s.peek ro (s.ev p) := by
      generalize hX : s.ev p = X
      cases X
      case ptr b l off path =>
        have := hk t ht' b (hc t ho b l off path hX)
        simp only [AS.peek, AS.blk, this]
      all_goals rfl
    rw [this]
  case len str p =>
    have ht' : t ∈ keep := ht.resolve_right id
    rw [E]
    have : ({ s.put dst r with hp := hp' } : AS).lenOf ro str (s.ev p) = s.lenOf ro str (s.ev p) := by
      generalize hX : s.ev p = X
      cases X
      case own b V =>
        have := hk t ht' b (hc t ho b V hX)
        simp only [AS.lenOf, AS.blk, this]
      case lit v =>
        unfold AS.lenOf
        split <;> first | rfl | (rename_i hx; cases hx) | simp_all
      all_goals rfl
    rw [this]
  case iaddrS esz p i =>
    have ht' : t ∈ keep := ht.resolve_right id
    obtain ⟨e1, e2⟩ := E
    rw [e1, e2]
    have : ∀ n, ({ s.put dst r with hp := hp' } : AS).elemAddr ro esz n (s.ev p) = s.elemAddr ro esz n (s.ev p) := fun n => by
      generalize hX : s.ev p = X
      cases X
      case own b V =>
        have := hk t ht' b (hc t ho b V hX)
        simp only [AS.elemAddr, AS.blk, this]
      all_goals rfl
    simp only [this]
  case callv f ps =>
    have e : ps.map (fun x => ({ s.put dst r with hp := hp' } : AS).coe ro (({ s.put dst r with hp := hp' } : AS).ev x)) = ps.map (fun x => s.coe ro (s.ev x)) := by
      refine List.map_congr_left fun x hx => ?_
      rw [E x hx]
      have := hc x hx
      generalize s.ev x = X at *
      cases X
      case own b V => exact absurd rfl (this b V)
      all_goals rfl
    rw [e]
theorem AI.go_store_ex {n : Nat} {p x : Operand} {V : AV → Prop} {F : AV → AS → Prop} (g : (AI.store n p x).go P ro s dst fun s1 => ∃ v, V v ∧ F v s1) : ∃ v, V v ∧ (AI.store n p x).go P ro s dst (F v) := by
  simp only [AI.go] at g ⊢
  split at g
  · exact g
  · exact g.elim
theorem AI.go_new {x y : AI} {d e : Tmp} (hx : x.isNew = true) (hy : y.isNew = true) (hne : d ≠ e) (h1 : offT (some d) y.ops) (h2 : offT (some e) x.ops)
    (g : x.go P ro s (some d) fun s1 => y.go P ro s1 (some e) K) : y.go P ro s (some e) fun s2 => x.go P ro s2 (some d) K := by
  have key : ∀ (l l' : Nat × Nat) (A B : Option Blk), ({ AS.put { s.put (some d) (.ptr (s.nr + d) l 0 []) with hp := s.hp.set (s.nr + d) A } (some e) (.ptr (s.nr + e) l' 0 []) with hp := (s.hp.set (s.nr + d) A).set (s.nr + e) B } : AS) =
      { AS.put { s.put (some e) (.ptr (s.nr + e) l' 0 []) with hp := s.hp.set (s.nr + e) B } (some d) (.ptr (s.nr + d) l 0 []) with hp := (s.hp.set (s.nr + e) B).set (s.nr + d) A } := by
    intro l l' A B
    simp only [AS.put]
    rw [List.set_comm _ _ hne, List.set_comm _ _ (show s.nr + d ≠ s.nr + e from fun h => hne (Nat.add_left_cancel h))]
  have evp : ∀ (z : Operand) (f : Tmp) (v : AV) (nr : Nat) (hp : List (Option Blk)), z ≠ .tmp f → AS.ev ⟨nr, (s.put (some f) v).tm, hp⟩ z = s.ev z := by
    intro z f v nr hp hz
    have := ev_put (s := s) (od := some f) (v := v) (x := z) (fun d' he h => by cases he; exact hz h)
    rw [← this]; cases z <;> rfl
  cases x <;> simp only [AI.isNew] at hx <;> try (cases hx; done)
  · cases y <;> simp only [AI.isNew] at hy <;> try (cases hy; done)
    · simp only [AI.go, AS.slot, Option.getD_some, put_nr] at g ⊢
      intro l' l
      exact Eq.mp (congrArg K (key l l' _ _)) (g l l')
    · rename_i n z m y
      have hyz : y ≠ .tmp d := fun h => h1 d rfl (by simp [AI.ops, h])
      simp only [AI.go, AS.slot, Option.getD_some, put_nr, evp _ _ _ _ _ hyz] at g ⊢
      obtain ⟨g1, g2, _⟩ := g (0, 0)
      refine ⟨g1, g2, fun l' l => ?_⟩
      exact Eq.mp (congrArg K (key l l' _ _)) ((g l).2.2 l')
  · rename_i n x
    have hxz : x ≠ .tmp e := fun h => h2 e rfl (by simp [AI.ops, h])
    cases y <;> simp only [AI.isNew] at hy <;> try (cases hy; done)
    · simp only [AI.go, AS.slot, Option.getD_some, put_nr, evp _ _ _ _ _ hxz] at g ⊢
      obtain ⟨g1, g2, g3⟩ := g
      intro l'
      refine ⟨g1, g2, fun l => ?_⟩
      exact Eq.mp (congrArg K (key l l' _ _)) (g3 l l')
    · rename_i m y
      have hyz : y ≠ .tmp d := fun h => h1 d rfl (by simp [AI.ops, h])
      simp only [AI.go, AS.slot, Option.getD_some, put_nr, evp _ _ _ _ _ hxz, evp _ _ _ _ _ hyz] at g ⊢
      obtain ⟨g1, g2, g3⟩ := g
      obtain ⟨g4, g5, _⟩ := g3 (0, 0)
      refine ⟨g4, g5, fun l' => ⟨g1, g2, fun l => ?_⟩⟩
      exact Eq.mp (congrArg K (key l l' _ _)) ((g3 l).2.2 l')
end
end Go.Cab