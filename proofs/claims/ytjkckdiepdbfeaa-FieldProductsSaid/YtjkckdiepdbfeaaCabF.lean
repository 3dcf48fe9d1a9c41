/- Part six: reading and writing a part of memory. -/
import Derived.Test.YtjkckdiepdbfeaaCabE
set_option linter.unusedSimpArgs false
set_option linter.unusedVariables false
set_option linter.unusedSectionVars false
namespace Go.Cab
open Go.RowKit
open Classical

/-- Cells one behind the other, written. -/
def setCells (b : Nat) : Nat → List Value → World → World
  | _, [], w => w
  | o, v :: vs, w => setCells b (o + 1) vs (w.setCell ⟨b, o, none⟩ v)

theorem setCells_heap_other (b : Nat) : ∀ (vs : List Value) (o : Nat) (w : World) (k : Nat), k ≠ b → (setCells b o vs w).heap[k]? = w.heap[k]?
  | [], _, _, _, _ => rfl
  | v :: vs, o, w, k, h => by rw [setCells, setCells_heap_other b vs _ _ k h, heap_setCell_other _ _ _ _ h]

theorem setCells_heap_same (b : Nat) : ∀ (vs : List Value) (o : Nat) (w : World) (cur : Array Value) (e : TypeId) (fr : Nat × Nat), w.heap[b]? = some (.cells cur e fr) →
    ∃ cur', (setCells b o vs w).heap[b]? = some (.cells cur' e fr) ∧ cur'.size = cur.size
  | [], _, _, cur, e, fr, h => ⟨cur, h, rfl⟩
  | v :: vs, o, w, cur, e, fr, h => by
    have h1 : (w.setCell ⟨b, o, none⟩ v).heap[b]? = some (.cells (cur.setIfInBounds o v) e fr) := by
      simp [World.setCell, Array.getElem?_modify, h]
    obtain ⟨cur', h2, h3⟩ := setCells_heap_same b vs (o + 1) _ _ e fr h1
    exact ⟨cur', h2, by rw [h3]; simp⟩

theorem setCells_size (b : Nat) : ∀ (vs : List Value) (o : Nat) (w : World), (setCells b o vs w).heap.size = w.heap.size
  | [], _, _ => rfl
  | v :: vs, o, w => by rw [setCells, setCells_size b vs]; simp

theorem setCells_os (b : Nat) : ∀ (vs : List Value) (o : Nat) (w : World), (setCells b o vs w).os = w.os ∧ (setCells b o vs w).tape = w.tape ∧ (setCells b o vs w).output = w.output
  | [], _, _ => ⟨rfl, rfl, rfl⟩
  | v :: vs, o, w => by obtain ⟨h1, h2, h3⟩ := setCells_os b vs (o + 1) (w.setCell ⟨b, o, none⟩ v); exact ⟨h1, h2, h3⟩

theorem setCells_frozen (b : Nat) : ∀ (vs : List Value) (o : Nat) (w : World) (a : Addr), (setCells b o vs w).frozen? a = w.frozen? a
  | [], _, _, _ => rfl
  | v :: vs, o, w, a => by rw [setCells, setCells_frozen b vs]; simp

theorem setCells_out (b : Nat) : ∀ (vs : List Value) (o : Nat) (w : World) (k j : Nat), (k ≠ b ∨ j < o ∨ o + vs.length ≤ j) → (setCells b o vs w).cell? ⟨k, j, none⟩ = w.cell? ⟨k, j, none⟩
  | [], _, _, _, _, _ => rfl
  | v :: vs, o, w, k, j, h => by
    rw [setCells, setCells_out b vs (o + 1) _ k j (by simp only [List.length_cons] at h; omega)]
    exact World.cell?_setCell_other _ _ _ _ (by intro e; simp only [List.length_cons] at h; injection e with h1 h2 h3; omega)

theorem setCells_in (b : Nat) : ∀ (vs : List Value) (o : Nat) (w : World), (∀ i, i < vs.length → (w.cell? ⟨b, o + i, none⟩).isSome = true) →
    ∀ i v, vs[i]? = some v → (setCells b o vs w).cell? ⟨b, o + i, none⟩ = some v
  | [], _, _, _, _, _, h => by simp at h
  | u :: vs, o, w, hex, i, v, h => by
    rw [setCells]
    cases i with
    | zero =>
      simp only [List.getElem?_cons_zero, Option.some.injEq] at h
      subst h
      rw [setCells_out b vs (o + 1) _ b (o + 0) (by omega)]
      obtain ⟨x, hx⟩ := Option.isSome_iff_exists.1 (hex 0 (by simp))
      exact World.cell?_setCell_same _ _ _ hx
    | succ i =>
      simp only [List.getElem?_cons_succ] at h
      have := setCells_in b vs (o + 1) (w.setCell ⟨b, o, none⟩ u) (fun i hi => by
        have h0 := hex (i + 1) (by simpa using hi)
        rw [World.cell?_setCell_other _ _ _ _ (by intro e; injection e with h1 h2 h3; omega)]
        rw [show o + 1 + i = o + (i + 1) from by omega]
        exact h0) i v h
      rw [show o + (i + 1) = o + 1 + i from by omega]
      exact this

theorem add_none (b o i : Nat) : (⟨b, o, none⟩ : Addr).add i = ⟨b, o + i, none⟩ := by
  unfold Addr.add; split <;> simp_all

theorem oneCell_of_sc {v : Value} (h : sc v = true) : v.oneCell' = true := by cases v <;> simp_all [sc, Value.oneCell']

theorem run_storeCells {P : Program} (b o : Nat) : ∀ (vs : List Value) (i : Nat) (w : World), (∀ v ∈ vs, sc v = true) →
    (∀ j, j < vs.length → (w.cell? ⟨b, o + i + j, none⟩).isSome = true ∧ w.frozen? ⟨b, o + i + j, none⟩ = false) →
    (storeCells ⟨b, o, none⟩ vs i).run P w = .ok () (setCells b (o + i) vs w)
  | [], _, _, _, _ => by simp [storeCells, setCells]
  | v :: vs, i, w, hs, h => by
    obtain ⟨h1, h2⟩ := h 0 (by simp)
    obtain ⟨x, hx⟩ := Option.isSome_iff_exists.1 h1
    simp only [Nat.add_zero] at hx h2
    have hrun : (store (⟨b, o + i, none⟩ : Addr) v).run P w = .ok () (w.setCell ⟨b, o + i, none⟩ v) := by
      rw [run_store P w _ v _ (oneCell_of_sc (hs v (by simp)))]
      simp [hx, h2]
    have ih := run_storeCells (P := P) b o vs (i + 1) (w.setCell ⟨b, o + i, none⟩ v) (fun u hu => hs u (by simp [hu])) (fun j hj => by
      obtain ⟨h3, h4⟩ := h (j + 1) (by simpa using hj)
      rw [show o + (i + 1) + j = o + i + (j + 1) from by omega]
      refine ⟨?_, by simpa using h4⟩
      rw [World.cell?_setCell_other _ _ _ _ (by intro e; injection e with a1 a2 a3; omega)]
      exact h3)
    simp only [storeCells, add_none, Sem.run_bind, hrun, Result.andThen_ok]
    rw [ih, setCells, show o + i + 1 = o + (i + 1) from by omega]

section
variable {w0 : World} {regs : List (Nat × Nat × Nat)} {St Imm : Nat → Nat → Prop} {s : AS} {a : Act} {w : World}

/-- What a block's content is, in cells. -/
theorem Blk.ok.cells {x : Blk} (h : x.ok Imm w) : ∃ cs, R Imm w x.cont cs ∧ cs.length = x.n ∧ (∀ y ∈ cs, sc y = true) ∧ ∀ i y, cs[i]? = some y → w.cell? ⟨x.loc.1, x.loc.2 + i, none⟩ = some y := by
  cases x with
  | box l n v =>
    obtain ⟨⟨cs, h1, h2, h3, h4⟩, _⟩ := h
    exact ⟨cs, h1, h2, h3, h4⟩
  | row e V esz els s =>
    obtain ⟨cs, h1, h2, h3, h4, h5⟩ := h
    refine ⟨cs, h1, by have := h1.len rfl; simpa [AV.sz, Blk.n] using this, h1.scs rfl, fun i y hy => ?_⟩
    rcases h2.2 with ⟨rfl, hn⟩ | ⟨g, cap, cur, rfl, _, hg, _, _, _, htake⟩
    · have := h1.len rfl
      simp only [AV.sz, hn] at this
      have : cs = [] := List.eq_nil_of_length_eq_zero (by simpa using this)
      subst this; simp at hy
    · simp only [Blk.loc, locOf, Value.ownBlock, Option.map_some, Option.getD_some, Nat.zero_add]
      rw [cell_of_row w g i cur e (0, 0) hg]
      rw [← htake, List.getElem?_take] at hy
      split at hy
      · simpa using hy
      · cases hy

theorem peek_sound {ro : Nat → Bool} {X u : AV} {V : Value} {m : Nat} (hp : s.peek ro X = some (m, u)) (hX : Rel Imm w X V) (hh : HeapOk w0 regs Imm s.hp w) :
    ∃ b o cs, V = .pointer (some ⟨b, o, none⟩) ∧ R Imm w u cs ∧ cs.length = m ∧ (∀ y ∈ cs, sc y = true) ∧ ∀ i y, cs[i]? = some y → w.cell? ⟨b, o + i, none⟩ = some y := by
  cases X <;> simp only [AS.peek] at hp <;> try (cases hp; done)
  case ptr b l off p =>
    split at hp <;> try (cases hp; done)
    split at hp <;> try (cases hp; done)
    rename_i x hx
    split at hp <;> try (cases hp; done)
    rename_i hloc
    split at hp <;> try (cases hp; done)
    rename_i o m' u' hnav
    split at hp <;> try (cases hp; done)
    rename_i hoff
    simp only [Option.some.injEq, Prod.mk.injEq] at hp
    obtain ⟨rfl, rfl⟩ := hp
    obtain ⟨hok, _⟩ := hh.ok b x hx
    obtain ⟨cs, hc, hl, hs, hcell⟩ := hok.cells
    obtain ⟨pre, c, post, e, ho, hcl, hu, hcs, _⟩ := R.nav p _ 0 _ o m' u' cs hc hs hl hnav
    rcases hX with hX | ⟨cs', hX, e'⟩
    · cases hX
    cases hX
    refine ⟨l.1, l.2 + off, c, by rw [e']; rfl, hu, hcl, hcs, fun i y hy => ?_⟩
    have : cs[pre.length + i]? = some y := by
      rw [e, List.append_assoc, List.getElem?_append_right (by omega), Nat.add_sub_cancel_left, List.getElem?_append_left (List.getElem?_eq_some_iff.1 hy).1]
      exact hy
    have h2 := hcell _ _ this
    rw [hloc] at h2
    rw [show l.2 + off + i = l.2 + (pre.length + i) from by omega]
    exact h2
  case cptr n v =>
    simp only [Option.some.injEq, Prod.mk.injEq] at hp
    obtain ⟨rfl, rfl⟩ := hp
    rcases hX with hX | ⟨cs', hX, e'⟩
    · cases hX
    cases hX with
    | cptr _ _ cs b o h1 h2 h3 h4 =>
      exact ⟨b, o, cs, by rw [e']; rfl, h1, h2, h3, fun i y hy => (h4 i y hy).1⟩

theorem foot_cont {x : Blk} (h : x.ok Imm w) {i : Nat} (hi : i < x.n) : x.foot x.loc.1 (x.loc.2 + i) := by
  cases x with
  | box l n v => exact ⟨rfl, by simp [Blk.loc], by simpa [Blk.loc, Blk.n] using hi⟩
  | row e V esz els s =>
    obtain ⟨cs, h1, h2, h3, h4, h5⟩ := h
    rcases h2.2 with ⟨rfl, hn⟩ | ⟨g, cap, cur, rfl, _, hg, _, _, _, htake⟩
    · simp [Blk.n, hn] at hi
    · simp [Blk.foot, Blk.loc, locOf, Value.ownBlock]

theorem poke_sound {X u : AV} {V U : Value} {n : Nat} {s' : AS} (hp : s.poke n u X = some s') (hX : Rel Imm w X V) (hU : Rel Imm w u U) (hh : HeapOk w0 regs Imm s.hp w) (hI : ImmOk w0 St Imm w) (h3 : TmOk Imm w s.tm a.tmps)
    (hfr : Fr regs w0 w) :
    ∃ b o cs, V = .pointer (some ⟨b, o, none⟩) ∧ U.cells = cs.toArray ∧ cs.length = n ∧ (∀ y ∈ cs, sc y = true) ∧
      (∀ i, i < n → (w.cell? ⟨b, o + i, none⟩).isSome = true ∧ w.frozen? ⟨b, o + i, none⟩ = false) ∧
      s'.tm = s.tm ∧ s'.nr = s.nr ∧ ImmOk w0 St Imm (setCells b o cs w) ∧ TmOk Imm (setCells b o cs w) s.tm a.tmps ∧ HeapOk w0 regs Imm s'.hp (setCells b o cs w) ∧ Fr regs w0 (setCells b o cs w) := by
  cases X <;> simp only [AS.poke] at hp <;> try (cases hp; done)
  case ptr b l off p =>
    split at hp <;> try (cases hp; done)
    rename_i x hx
    split at hp <;> try (cases hp; done)
    rename_i hloc
    split at hp <;> try (cases hp; done)
    rename_i o m' u' hnav
    split at hp <;> try (cases hp; done)
    rename_i hcond
    obtain ⟨rfl, rfl, htup, hsz, hmay⟩ := hcond
    simp only [Option.some.injEq] at hp
    subst hp
    obtain ⟨hok, hfoot⟩ := hh.ok b x hx
    obtain ⟨cs, hc, hl, hs, hcell⟩ := hok.cells
    obtain ⟨pre, c, post, e, ho, hcl, hu, hcs, hset⟩ := R.nav p _ 0 _ o m' u' cs hc hs hl hnav
    rcases hX with hX | ⟨cs', hX, e'⟩
    · cases hX
    cases hX
    rcases hU with hU | ⟨c', hU, eU⟩
    · subst hU; simp [AV.isTup] at htup
    have hc'l : c'.length = m' := by rw [hU.len htup, hsz]
    have hc's := hU.scs htup
    have hlen : pre.length + m' ≤ cs.length := by rw [e]; simp; omega
    have hin : ∀ i, i < m' → x.foot l.1 (l.2 + o + i) := fun i hi => by
      have := foot_cont hok (i := o + i) (by rw [← hl]; omega)
      rw [hloc] at this
      rwa [show l.2 + o + i = l.2 + (o + i) from by omega]
    have hcellE : ∀ i, i < cs.length → (w.cell? ⟨l.1, l.2 + i, none⟩).isSome = true := fun i hi => by
      have := hcell i _ (List.getElem?_eq_getElem hi)
      rw [hloc] at this
      simp [this]
    have hnotImm : ∀ i, i < m' → ¬ Imm l.1 (l.2 + o + i) ∧ w.frozen? ⟨l.1, l.2 + o + i, none⟩ = false := fun i hi => by
      cases x with
      | box l0 n0 v0 =>
        simp only [Blk.loc] at hloc
        subst hloc
        obtain ⟨_, h'⟩ := hok
        simp only [Blk.n] at hl
        obtain ⟨h1, h2⟩ := h' (o + i) (by omega)
        rw [show l0.2 + o + i = l0.2 + (o + i) from by omega]
        exact ⟨h2, h1⟩
      | row e0 V0 esz0 els0 s0 =>
        obtain ⟨cs0, h1, h2, h3, h4, h5⟩ := hok
        simp only [Blk.may, Bool.and_eq_true, decide_eq_true_eq] at hmay
        simp only [Blk.loc, locOf] at hloc
        rcases h2.2 with ⟨rfl, hn⟩ | ⟨g, cap, cur, rfl, _, hg, _, _, _, htake⟩
        · simp only [Blk.n, hn, Nat.zero_mul] at hl
          omega
        · simp only [Value.ownBlock, Option.map_some, Option.getD_some] at hloc
          subst hloc
          simp only [Nat.zero_add]
          exact ⟨h5 g _ rfl (by omega), frozen_of_row w g _ cur e0 hg⟩
    have hImmNot : ∀ b' o', Imm b' o' → (b' ≠ l.1 ∨ o' < l.2 + o ∨ l.2 + o + c'.length ≤ o') := fun b' o' hi => by
      rcases Nat.lt_or_ge o' (l.2 + o) with h | h
      · exact .inr (.inl h)
      · rcases Nat.lt_or_ge o' (l.2 + o + c'.length) with h' | h'
        · refine .inl fun he => ?_
          subst he
          have := (hnotImm (o' - (l.2 + o)) (by omega)).1
          rw [show l.2 + o + (o' - (l.2 + o)) = o' from by omega] at this
          exact this hi
        · exact .inr (.inr h')
    have hkeep : ∀ b' o', Imm b' o' → (setCells l.1 (l.2 + o) c' w).cell? ⟨b', o', none⟩ = w.cell? ⟨b', o', none⟩ := fun b' o' hi => setCells_out _ _ _ _ _ _ (hImmNot b' o' hi)
    have hex : ∀ i, i < m' → (w.cell? ⟨l.1, l.2 + o + i, none⟩).isSome = true := fun i hi => by
      have := hcellE (o + i) (by omega)
      rwa [show l.2 + o + i = l.2 + (o + i) from by omega]
    refine ⟨l.1, l.2 + o, c', by rw [e']; rfl, by rw [eU]; exact hU.cells htup, hc'l, hc's, fun i hi => ⟨hex i hi, (hnotImm i hi).2⟩, rfl, rfl, ?_, ?_, ?_, ?_⟩
    · exact ⟨hI.sub, hI.old, fun b' o' hi => by rw [hkeep _ _ hi]; exact hI.there b' o' hi⟩
    · exact fun t v ht => (h3 t v ht).mono (fun _ _ h => h) hkeep
    · -- the blocks
      have hblock_lt : l.1 < w.heap.size ∨ m' = 0 := by
        rcases Nat.eq_zero_or_pos m' with h | h
        · exact .inr h
        · obtain ⟨y, hy⟩ := Option.isSome_iff_exists.1 (hex 0 h)
          exact .inl (World.block_lt_of_cell? w _ hy)
      have hfoot' : ∀ b' o', (x.upd p u).foot b' o' ↔ x.foot b' o' := fun b' o' => by cases x <;> simp [Blk.upd, Blk.foot]
      have hget : ∀ k y, ((s.setBlk b (some (x.upd p u))).hp[k]?).join = some y → (k = b ∧ y = x.upd p u) ∨ (k ≠ b ∧ (s.hp[k]?).join = some y) := fun k y hy => by
        simp only [AS.setBlk, List.getElem?_set] at hy
        by_cases hk : b = k
        · subst hk
          simp only [if_true] at hy
          split at hy
          · simp at hy; exact .inl ⟨rfl, hy.symm⟩
          · simp at hy
        · rw [if_neg hk] at hy; exact .inr ⟨Ne.symm hk, hy⟩
      refine ⟨fun k y hy => ?_, fun k k' y z hne hy hz b' o' hf => ?_⟩
      · rcases hget k y hy with ⟨rfl, rfl⟩ | ⟨hk, hy'⟩
        · refine ⟨?_, fun b' o' hf => by rw [setCells_size]; exact hfoot b' o' ((hfoot' b' o').1 hf)⟩
          have hcell' : ∀ i y, (pre ++ c' ++ post)[i]? = some y → (setCells l.1 (l.2 + o) c' w).cell? ⟨l.1, l.2 + i, none⟩ = some y := fun i y hy => by
            by_cases h1 : i < o
            · rw [setCells_out _ _ _ _ _ _ (by omega)]
              have h2 := hcell i y (by rw [e, List.append_assoc, List.getElem?_append_left (by omega)]; rw [List.append_assoc, List.getElem?_append_left (by omega)] at hy; exact hy)
              rwa [hloc] at h2
            · by_cases h2 : i < o + m'
              · have := setCells_in l.1 c' (l.2 + o) w (fun j hj => hex j (by omega)) (i - o) y (by
                  rw [List.append_assoc, List.getElem?_append_right (by omega), List.getElem?_append_left (by omega)] at hy
                  rwa [show i - o = i - pre.length from by omega])
                rwa [show l.2 + o + (i - o) = l.2 + i from by omega] at this
              · rw [setCells_out _ _ _ _ _ _ (by omega)]
                have h3 := hcell i y (by
                  rw [List.getElem?_append_right (by simp; omega)] at hy
                  rw [e, List.getElem?_append_right (by simp; omega)]
                  rw [← hy]; congr 1; simp; omega)
                rwa [hloc] at h3
          have hR := (hset u c' hU hc'l hc's).mono (fun _ _ h => h) hkeep
          have hsc' : ∀ y ∈ pre ++ c' ++ post, sc y = true := fun y hy => by
            rcases List.mem_append.1 hy with hy | hy
            · rcases List.mem_append.1 hy with hy | hy
              · exact hs y (by rw [e]; simp [hy])
              · exact hc's y hy
            · exact hs y (by rw [e]; simp [hy])
          cases x with
          | box l0 n0 v0 =>
            simp only [Blk.loc] at hloc
            subst hloc
            obtain ⟨_, h'⟩ := hok
            refine ⟨⟨_, hR, ?_, hsc', hcell'⟩, fun i hi => ⟨by rw [setCells_frozen]; exact (h' i hi).1, (h' i hi).2⟩⟩
            simp only [Blk.n] at hl
            rw [← hl, e]; simp; omega
          | row e0 V0 esz0 els0 s0 =>
            obtain ⟨cs0, h1, h2, h3, h4, h5⟩ := hok
            simp only [Blk.may, Bool.and_eq_true, decide_eq_true_eq] at hmay
            cases p with
            | nil => simp at hmay
            | cons i p =>
              simp only [Blk.cont, AV.upd] at hR
              have hlen2 : (els0.set i ((els0.getD i .any).upd p u)).length = els0.length := by simp
              refine ⟨_, hR, ?_, h3, by rw [hlen2]; exact h4, h5⟩
              simp only [Blk.n] at hl
              have hlen3 : (pre ++ c' ++ post).length = els0.length * esz0 := by rw [← hl, e]; simp; omega
              refine ⟨by rw [hlen2]; exact hlen3, ?_⟩
              rcases h2.2 with ⟨rfl, hn⟩ | ⟨g, cap, cur, rfl, hb0, hg, hnc, hcm, hcs0, htake⟩
              · refine .inl ⟨rfl, by rw [hlen2]; exact hn⟩
              · simp only [Blk.loc, locOf, Value.ownBlock, Option.map_some, Option.getD_some] at hloc
                subst hloc
                obtain ⟨cur', hg', hsz'⟩ := setCells_heap_same g c' (0 + o) w cur e0 (0, 0) hg
                refine .inr ⟨g, cap, cur', ?_, hb0, hg', by rw [hlen2]; exact hnc, hcm, by rw [hsz', hcs0], ?_⟩
                · rw [hlen2]
                · rw [hlen2, ← hlen3]
                  apply List.ext_getElem?
                  intro j
                  rw [List.getElem?_take]
                  split
                  · rename_i hj
                    have h6 := hcell' j _ (List.getElem?_eq_getElem hj)
                    simp only [Nat.zero_add] at h6 hg'
                    rw [cell_of_row _ g j cur' e0 (0, 0) hg'] at h6
                    rw [List.getElem?_eq_getElem hj]
                    simpa using h6
                  · rename_i hj
                    rw [List.getElem?_eq_none (by omega)]
        · obtain ⟨hy1, hy2⟩ := hh.ok k y hy'
          have hdis : ∀ b' o', y.foot b' o' → (b' ≠ l.1 ∨ o' < l.2 + o ∨ l.2 + o + c'.length ≤ o') := fun b' o' hf => by
            rcases Nat.lt_or_ge o' (l.2 + o) with h | h
            · exact .inr (.inl h)
            · rcases Nat.lt_or_ge o' (l.2 + o + c'.length) with h' | h'
              · refine .inl fun he => ?_
                subst he
                have h7 := hin (o' - (l.2 + o)) (by omega)
                rw [show l.2 + o + (o' - (l.2 + o)) = o' from by omega] at h7
                exact hh.apart k b y x hk hy' hx _ _ hf h7
              · exact .inr (.inr h')
          refine ⟨hy1.keep (fun _ _ h => h) hkeep (fun _ _ _ h => h) (fun b' o' hf => setCells_out _ _ _ _ _ _ (hdis b' o' hf)) (fun b' o' _ => setCells_frozen _ _ _ _ _) ?_, fun b' o' hf => by rw [setCells_size]; exact hy2 b' o' hf⟩
          intro e1 V1 esz1 els1 s1 he b' hb'
          subst he
          rcases Nat.eq_zero_or_pos m' with h0 | h0
          · have : c' = [] := List.eq_nil_of_length_eq_zero (by omega)
            subst this; rfl
          · have hne : b' ≠ l.1 := fun he => by
              subst he
              exact hh.apart k b _ x hk hy' hx _ _ (show Blk.foot _ l.1 (l.2 + o + 0) from hb') (hin 0 h0)
            exact setCells_heap_other _ _ _ _ _ hne
      · rcases hget k y hy with ⟨rfl, rfl⟩ | ⟨hk, hy'⟩
        · rcases hget k' z hz with ⟨rfl, rfl⟩ | ⟨hk', hz'⟩
          · exact absurd rfl hne
          · exact hh.apart k k' x z hne hx hz' b' o' ((hfoot' b' o').1 hf)
        · rcases hget k' z hz with ⟨rfl, rfl⟩ | ⟨hk', hz'⟩
          · exact fun hf' => hh.apart k k' y x hne hy' hx b' o' hf ((hfoot' b' o').1 hf')
          · exact hh.apart k k' y z hne hy' hz' b' o' hf
    · -- the frame
      obtain ⟨q1, q2, q3⟩ := setCells_os l.1 c' (l.2 + o) w
      rcases Nat.eq_zero_or_pos m' with h0 | h0
      · have : c' = [] := List.eq_nil_of_length_eq_zero (by omega)
        subst this; exact hfr
      have hwhere : w0.heap.size ≤ l.1 ∨ ∀ i, i < m' → inReg regs l.1 (l.2 + o + i) := by
        rcases Nat.lt_or_ge l.1 w0.heap.size with h | h
        · exact .inr fun i hi => ((hfoot _ _ (hin i hi)).2).resolve_left (by omega)
        · exact .inl h
      refine ⟨q1.trans hfr.os, q2.trans hfr.tape, q3.trans hfr.output, by rw [setCells_size]; exact hfr.size, fun k hk hr => ?_, fun b' o' hb' hr => ?_, fun b' o' hb' => by rw [setCells_frozen]; exact hfr.frozen b' o' hb'⟩
      · rw [setCells_heap_other _ _ _ _ _ (fun he => by
          subst he
          rcases hwhere with h | h
          · omega
          · obtain ⟨r, hr1, hr2, _⟩ := h 0 h0
            exact hr r hr1 hr2.symm)]
        exact hfr.block k hk hr
      · rw [setCells_out _ _ _ _ _ _ (by
          rcases hwhere with h | h
          · exact .inl (by omega)
          · rcases Nat.lt_or_ge o' (l.2 + o) with h1 | h1
            · exact .inr (.inl h1)
            · rcases Nat.lt_or_ge o' (l.2 + o + c'.length) with h2 | h2
              · refine .inl fun he => hr ?_
                subst he
                have := h (o' - (l.2 + o)) (by omega)
                rwa [show l.2 + o + (o' - (l.2 + o)) = o' from by omega] at this
              · exact .inr (.inr h2))]
        exact hfr.cell b' o' hb' hr

end
end Go.Cab
