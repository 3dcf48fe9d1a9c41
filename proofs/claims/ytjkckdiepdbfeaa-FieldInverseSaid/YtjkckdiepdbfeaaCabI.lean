/- Part nine: lists: append, make, and literals. -/
import Derived.Test.YtjkckdiepdbfeaaCabH
set_option linter.unusedSimpArgs false
set_option linter.unusedVariables false
set_option linter.unusedSectionVars false
namespace Go.Cab
open Go.RowKit
open Classical

section
variable {P : Program} {w0 : World} {regs : List (Nat × Nat × Nat)} {St Imm : Nat → Nat → Prop} {s : AS} {a : Act} {w : World} {o : Oper} {K : AS → Prop} {Q : Exit → Act → World → Prop} {ro : Nat → Bool}

theorem R.app {esz : Nat} {l1 l2 : List AV} {c1 c2 : List Value} (h1 : R Imm w (.arr esz l1) c1) (h2 : R Imm w (.arr esz l2) c2) : R Imm w (.arr esz (l1 ++ l2)) (c1 ++ c2) := by
  generalize hv : AV.arr esz l1 = v at h1
  induction h1 generalizing l1 with
  | arr0 => cases hv; simpa using h2
  | arr1 esz' e els c d hg hc hs hr ih1 ih2 =>
    cases hv
    have := R.arr1 _ e _ c _ hg hc hs (ih2 rfl)
    simpa using this
  | _ => cases hv

/-- What an append leaves. -/
structure Appended (w w' : World) (base : Nat) (e : TypeId) (size : Nat) (v v' : Value) (n k : Nat) (xs : List Value) : Prop where
  own : w'.ownsRow base e size v' k xs
  os : w'.os = w.os
  tape : w'.tape = w.tape
  output : w'.output = w.output
  hsize : w.heap.size ≤ w'.heap.size
  block : ∀ k, k < w.heap.size → some k ≠ v.ownBlock → w'.heap[k]? = w.heap[k]?
  cell : ∀ b o, b < w.heap.size → (some b = v.ownBlock → o < n * size) → w'.cell? ⟨b, o, none⟩ = w.cell? ⟨b, o, none⟩
  frozen : ∀ a : Addr, a.block < w.heap.size → w'.frozen? a = w.frozen? a
  where_ : v'.ownBlock = v.ownBlock ∨ ∃ g, v'.ownBlock = some g ∧ w.heap.size ≤ g ∧ g < w'.heap.size
  sc : sc v' = true

theorem Appended.alloc {base : Nat} {e : TypeId} {size k n cap : Nat} {v : Value} {xs rest : List Value} (hx : xs.length = k * size) (hc : (xs ++ rest).length = cap * size) (hk : k ≤ cap) (hcm : cap ≤ maxLen) (hb : base ≤ w.heap.size) :
    Appended w (w.drew.alloc (.cells (xs ++ rest).toArray e)) base e size v (.slice (some ⟨w.heap.size, 0, none⟩) k cap) n k xs := by
  refine ⟨⟨hx, .inr ⟨w.heap.size, cap, _, rfl, hb, heap_alloc_new w.drew _, hk, hcm, by simpa using hc, ?_⟩⟩, rfl, rfl, rfl, by simp, fun k hk _ => Below.heap_alloc w.drew _ k hk, fun b o hb _ => ?_, fun a ha => ?_, .inr ⟨w.heap.size, rfl, Nat.le_refl _, by simp⟩, rfl⟩
  · simp [← hx]
  · exact World.cell?_alloc_lt w.drew _ _ hb
  · exact World.frozen?_alloc_old w.drew _ a (Nat.ne_of_lt ha)

theorem run_append (base : Nat) (t ty e : TypeId) (i : TypeInfo) (z : Value) (size bytes : Nat) (ht : P.underlying t = some (.slice e)) (hi : P.info? e = some i) (hz : i.zero = some z)
    (hsize : i.size = size) (hby : i.bytes = bytes) (hzs : z.cells.size = size)
    (v : Value) (n : Nat) (xs : List Value) (hown : w.ownsRow base e size v n xs) (hv : sc v = true)
    (y : Value) (m : Nat) (news : List Value) (hl : news.length = m * size) (h1 : ∀ u ∈ news, sc u = true)
    (hy : (y = .slice none 0 0 ∧ m = 0) ∨ ∃ b o c, y = .slice (some ⟨b, o, none⟩) m c ∧ ∀ j u, news[j]? = some u → w.cell? ⟨b, o + j, none⟩ = some u)
    (h63 : n + m ≤ maxLen) (hbytes : (n + m) * bytes ≤ 140737488355328) (hbase : base ≤ w.heap.size) :
    ∃ v' w', (Builtin.append_ #[t, t] ty #[v, y]).run P w = .ok v' w' ∧ Appended w w' base e size v v' n (n + m) (xs ++ news) := by
  subst hsize
  subst hby
  have hsmall : n + m ≤ 9223372036854775807 := by simp only [maxLen] at h63; omega
  rcases hy with ⟨rfl, rfl⟩ | ⟨b, o, c, rfl, hnews⟩
  · have hn : news = [] := List.eq_nil_of_length_eq_zero (by simpa using hl)
    subst hn
    refine ⟨v, w, ?_, ⟨by simpa using hown, rfl, rfl, rfl, Nat.le_refl _, fun _ _ _ => rfl, fun _ _ _ _ => rfl, fun _ _ => rfl, .inl rfl, hv⟩⟩
    rcases hown.2 with ⟨rfl, rfl⟩ | ⟨g, cap, cur, rfl, hbg, hg, hnc, hcm, hcs, htake⟩
    · simp [Builtin.append_, run_underlying ht, sizeOf, typeInfo, hi, Builtin.lenOf, Builtin.firstCells]
    · simp [Builtin.append_, run_underlying ht, sizeOf, typeInfo, hi, Builtin.lenOf, Builtin.firstCells, hnc, storeCells]
  · have hnews' : ∀ j u, news[j]? = some u → w.cell? ((⟨b, o, none⟩ : Addr).add j) = some u := fun j u hu => by rw [add_none]; exact hnews j u hu
    have h1' : ∀ u ∈ news, u.oneCell' = true := fun u hu => oneCell_of_sc (h1 u hu)
    have hlen : (xs ++ news).length = (n + m) * i.size := by rw [List.length_append, hown.1, hl, Nat.add_mul]
    have grown : ∀ (old : Nat), Appended w (w.drew.alloc (.cells (xs.toArray ++ news.toArray ++ Builtin.zeroCells z.cells (grownCap w (n + m) old e - (n + m))) e)) base e i.size v
        (.slice (some ⟨w.heap.size, 0, none⟩) (n + m) (grownCap w (n + m) old e)) n (n + m) (xs ++ news) := by
      intro old
      have hge := grownCap_ge w (n + m) old e
      have hcm : grownCap w (n + m) old e ≤ maxLen := grownCap_le_maxLen w (n + m) old e h63
      have := Appended.alloc (w := w) (base := base) (e := e) (size := i.size) (k := n + m) (n := n) (v := v) (cap := grownCap w (n + m) old e) (xs := xs ++ news)
        (rest := (Builtin.zeroCells z.cells (grownCap w (n + m) old e - (n + m))).toList) hlen (by
          rw [List.length_append, hlen, Array.length_toList, size_zeroCells, hzs, ← Nat.add_mul]; congr 1; omega) hge hcm hbase
      have e1 : (xs.toArray ++ news.toArray ++ Builtin.zeroCells z.cells (grownCap w (n + m) old e - (n + m))) = (xs ++ news ++ (Builtin.zeroCells z.cells (grownCap w (n + m) old e - (n + m))).toList).toArray := by
        apply Array.ext'; simp
      rw [e1]; exact this
    rcases hown.2 with ⟨rfl, rfl⟩ | ⟨g, cap, cur, rfl, hbg, hg, hnc, hcm, hcs, htake⟩
    · have hx : xs = [] := List.eq_nil_of_length_eq_zero (by simpa using hown.1)
      subst hx
      by_cases hm : m = 0
      · subst hm
        have hn : news = [] := List.eq_nil_of_length_eq_zero (by simpa using hl)
        subst hn
        refine ⟨.slice none 0 0, w, ?_, ⟨World.ownsRow_nil w base e i.size, rfl, rfl, rfl, Nat.le_refl _, fun _ _ _ => rfl, fun _ _ _ _ => rfl, fun _ _ => rfl, .inl rfl, rfl⟩⟩
        simp [Builtin.append_, run_underlying ht, sizeOf, typeInfo, hi, Builtin.lenOf, Builtin.firstCells, loadCells, loadCellsFrom]
      · have hr := run_append_nil (P := P) w t ty e i z ht hi hz ⟨b, o, none⟩ m c news hl hnews' (by omega) (by omega) (by have hb := hbytes; simp only [Nat.zero_add] at hb; omega)
        have hgr := grown 0
        simp only [Nat.zero_add, List.nil_append, Array.empty_append] at hgr ⊢
        exact ⟨_, _, hr, hgr⟩
    · by_cases hroom : n + m ≤ cap
      · have hfit : n * i.size + news.length ≤ cur.size := by rw [hl, hcs, ← Nat.add_mul]; exact Nat.mul_le_mul_right _ hroom
        have hr := run_append_room (P := P) w t ty e i ht hi g n cap cur hg ⟨b, o, none⟩ m c news hl hnews' h1' hroom hfit
        refine ⟨_, _, hr, ⟨⟨hlen, .inr ⟨g, cap, _, rfl, hbg, setRow_heap w g cur _ e _ hg, hroom, hcm, ?_, ?_⟩⟩, rfl, rfl, rfl, by simp, fun k _ hk => setRow_other w g k _ (fun e => hk (by simp [Value.ownBlock, e])), fun b' o' hb' ho' => ?_, fun a' ha' => ?_, .inl rfl, rfl⟩⟩
        · simp only [List.size_toArray, List.length_append, List.length_take, List.length_drop, Array.length_toList]
          omega
        · rw [htake, ← hlen]
          exact List.take_left
        · by_cases hbg' : b' = g
          · subst hbg'
            have ho'' := ho' rfl
            rw [cell_of_row _ b' o' _ e (0, 0) (setRow_heap w b' cur _ e _ hg), cell_of_row _ b' o' _ e (0, 0) hg]
            have hxl : (List.take (n * i.size) cur.toList).length = n * i.size := by rw [htake]; exact hown.1
            simp only [List.getElem?_toArray]
            rw [List.append_assoc, List.getElem?_append_left (by omega), List.getElem?_take, if_pos ho'']
            simp
          · simp only [World.cell?]
            rw [setRow_other w g b' _ hbg']
        · by_cases hbg' : a'.block = g
          · simp only [World.frozen?]
            rw [hbg', setRow_heap w g cur _ e _ hg, hg]
          · simp only [World.frozen?]
            rw [setRow_other w g a'.block _ hbg']
      · have holds : ∀ j u, xs[j]? = some u → w.cell? ((⟨g, 0, none⟩ : Addr).add j) = some u := hown.cells (g := g) rfl
        have hr := run_append_grow (P := P) w t ty e i z ht hi hz ⟨g, 0, none⟩ n cap xs hown.1 holds ⟨b, o, none⟩ m c news hl hnews' (by omega) (by omega) (growslice_fits (by omega) hbytes)
        exact ⟨_, _, hr, grown cap⟩

/-- The call's own rows lie in new blocks. -/
theorem HeapOk.rowNew {hp : List (Option Blk)} (hh : HeapOk w0 regs Imm hp w) {k : Nat} {e : TypeId} {V : Value} {esz : Nat} {els : List AV} {sl g : Nat} (hk : (hp[k]?).join = some (.row e V esz els sl)) (hg : V.ownBlock = some g) :
    w0.heap.size ≤ g ∧ g < w.heap.size := by
  obtain ⟨_, hf⟩ := hh.ok k _ hk
  have h1 := hf g ((regs.map fun r => r.2.1 + r.2.2).sum) hg
  refine ⟨h1.2.resolve_right ?_, h1.1⟩
  rintro ⟨r, hr, _, _, hlt⟩
  have : ∀ (l : List (Nat × Nat × Nat)), r ∈ l → r.2.1 + r.2.2 ≤ (l.map fun r => r.2.1 + r.2.2).sum := by
    intro l
    induction l with
    | nil => intro h; cases h
    | cons x l ih =>
      intro h
      simp only [List.map_cons, List.sum_cons]
      rcases List.mem_cons.1 h with rfl | h
      · omega
      · have := ih h; omega
  have := this regs hr
  omega

theorem run_frame_of {w' : World} {base : Nat} {e : TypeId} {size n k : Nat} {v v' : Value} {xs : List Value} (h : Appended w w' base e size v v' n k xs) (hv : ∀ g, v.ownBlock = some g → w0.heap.size ≤ g) (hfr : Fr regs w0 w) : Fr regs w0 w' := by
  have hs := hfr.size
  refine ⟨h.os.trans hfr.os, h.tape.trans hfr.tape, h.output.trans hfr.output, Nat.le_trans hfr.size h.hsize, fun k hk hr => ?_, fun b o hb hr => ?_, fun b o hb => ?_⟩
  · rw [h.block k (by omega) (fun he => by have := hv k he.symm; omega)]; exact hfr.block k hk hr
  · rw [h.cell b o (by omega) (fun he => by have := hv b he.symm; omega)]; exact hfr.cell b o hb hr
  · rw [h.frozen ⟨b, o, none⟩ (by show b < _; omega)]; exact hfr.frozen b o hb

/-- All rows that are sealed to their end may be read as lists that nobody writes. -/
theorem SRel.seals (h : SRel w0 regs St s a w) : ∃ Imm, ImmOk w0 St Imm w ∧ TmOk Imm w s.tm a.tmps ∧ HeapOk w0 regs Imm s.hp w ∧
    ∀ (k : Nat) e V esz els, s.blk k = some (.row e V esz els els.length) → ∃ cs, R Imm w (.arr esz els) cs ∧ ∀ g cap, V = .slice (some ⟨g, 0, none⟩) els.length cap → At Imm w g 0 cs := by
  obtain ⟨Imm, h1, h2, h3⟩ := h.ex
  let J : Nat → Nat → Prop := fun b o => Imm b o ∨ ∃ (k : Nat) (e : TypeId) (V : Value) (esz : Nat) (els : List AV), s.blk k = some (.row e V esz els els.length) ∧ V.ownBlock = some b ∧ o < els.length * esz
  have hJ : ∀ b o, Imm b o → J b o := fun b o h => .inl h
  have hrow : ∀ (k : Nat) e V esz els sl, s.blk k = some (.row e V esz els sl) → ∀ g, V.ownBlock = some g → ∃ cs cap cur, V = .slice (some ⟨g, 0, none⟩) els.length cap ∧ R Imm w (.arr esz els) cs ∧ w.heap[g]? = some (.cells cur e (0, 0)) ∧
      (∀ i y, cs[i]? = some y → w.cell? ⟨g, i, none⟩ = some y) ∧ cs.length = els.length * esz ∧ ∀ o, sl * esz ≤ o → ¬ Imm g o := by
    intro k e V esz els sl hk g hg
    obtain ⟨hok, _⟩ := h3.ok k _ hk
    have hc := hok.cells
    obtain ⟨cs, hR, hown, _, hsl, hm⟩ := hok
    rcases hown.2 with ⟨rfl, _⟩ | ⟨g', cap, cur, rfl, _, hgg, hnc, hcm, hcs, htake⟩
    · simp [Value.ownBlock] at hg
    · simp only [Value.ownBlock, Option.map_some, Option.some.injEq] at hg
      subst hg
      refine ⟨cs, cap, cur, rfl, hR, hgg, fun i y hy => ?_, by have := hR.len rfl; simpa [AV.sz] using this, fun o ho => hm g' o rfl ho⟩
      rw [cell_of_row w g' i cur e (0, 0) hgg]
      rw [← htake, List.getElem?_take] at hy
      split at hy
      · simpa using hy
      · cases hy
  refine ⟨J, ⟨fun b o hb => .inl (h1.sub b o hb), fun b o hb hlt => ?_, fun b o hb => ?_⟩, h2.grow hJ (fun _ _ _ => rfl), ⟨fun k x hx => ⟨?_, (h3.ok k x hx).2⟩, h3.apart⟩, fun k e V esz els hk => ?_⟩
  · rcases hb with hb | ⟨k, e, V, esz, els, hk, hV, _⟩
    · exact h1.old b o hb hlt
    · have := (h3.rowNew hk hV).1; omega
  · rcases hb with hb | ⟨k, e, V, esz, els, hk, hV, ho⟩
    · exact h1.there b o hb
    · obtain ⟨cs, cap, cur, _, _, _, hcell, hl, _⟩ := hrow k e V esz els _ hk b hV
      rw [hcell o _ (List.getElem?_eq_getElem (by omega))]; rfl
  · have hok := (h3.ok k x hx).1
    cases x with
    | box l n v =>
      obtain ⟨⟨cs, hc, h⟩, h'⟩ := hok
      refine ⟨⟨cs, hc.mono hJ (fun _ _ _ => rfl), h⟩, fun i hi => ⟨(h' i hi).1, fun hm => ?_⟩⟩
      rcases hm with hm | ⟨k', e, V, esz, els, hk', hV, _⟩
      · exact (h' i hi).2 hm
      · by_cases hkk : k = k'
        · subst hkk; simp only [AS.blk] at hk'; rw [hx] at hk'; cases hk'
        · exact h3.apart k k' _ _ hkk hx hk' l.1 (l.2 + i) ⟨rfl, by omega, by omega⟩ hV
    | row e V esz els sl =>
      obtain ⟨cs, hR, hown, hsc, hsl, hm⟩ := hok
      refine ⟨cs, hR.mono hJ (fun _ _ _ => rfl), hown, hsc, hsl, fun b o hb ho hi => ?_⟩
      rcases hi with hi | ⟨k', e', V', esz', els', hk', hV', ho'⟩
      · exact hm b o hb ho hi
      · by_cases hkk : k = k'
        · subst hkk
          simp only [AS.blk] at hk'
          rw [hx] at hk'
          simp only [Option.some.injEq, Blk.row.injEq] at hk'
          obtain ⟨rfl, rfl, rfl, rfl, rfl⟩ := hk'
          omega
        · exact h3.apart k k' _ _ hkk hx hk' b o hb hV'
  · obtain ⟨hok, _⟩ := h3.ok k _ hk
    obtain ⟨cs0, hR0, hown0, _⟩ := hok
    refine ⟨cs0, hR0.mono hJ (fun _ _ _ => rfl), fun g cap hV => ?_⟩
    subst hV
    intro i y hy
    rw [Nat.zero_add]
    rcases hown0.2 with ⟨hn, _⟩ | ⟨g', cap', cur, hV', _, hgg, hnc, hcm, hcs, htake⟩
    · cases hn
    · cases hV'
      refine ⟨?_, .inr ⟨k, e, _, esz, els, hk, rfl, ?_⟩⟩
      · rw [cell_of_row w g i cur e (0, 0) hgg]
        rw [← htake, List.getElem?_take] at hy
        split at hy
        · simpa using hy
        · cases hy
      · have := (List.getElem?_eq_some_iff.1 hy).1
        rw [hown0.1] at this; exact this

/-- What is handed on, of such rows. -/
theorem coe_sound {Imm : Nat → Nat → Prop} (h3 : HeapOk w0 regs Imm s.hp w)
    (hrow : ∀ (k : Nat) e V esz els, s.blk k = some (.row e V esz els els.length) → ∃ cs, R Imm w (.arr esz els) cs ∧ ∀ g cap, V = .slice (some ⟨g, 0, none⟩) els.length cap → At Imm w g 0 cs)
    {v : AV} {V : Value} (hv : Rel Imm w v V) : Rel Imm w (s.coe ro v) V := by
  unfold AS.coe
  split
  · rename_i b V'
    split
    · split
      · rename_i e V'' esz els sl hk
        split
        · rename_i hc
          obtain ⟨rfl, rfl⟩ := hc
          obtain ⟨hok, _⟩ := h3.ok b _ hk
          obtain ⟨cs, hR, hat⟩ := hrow b e V'' esz els hk
          obtain ⟨cs', hR', hown, _⟩ := hok
          rcases hv with hv | ⟨c, hv, e'⟩
          · cases hv
          cases hv
          rcases hown.2 with ⟨rfl, hn⟩ | ⟨g', cap', cur, rfl, _, hgg, hnc, _⟩
          · have : els = [] := List.eq_nil_of_length_eq_zero hn
            subst this
            exact .inr ⟨_, .slnil esz, e'⟩
          · exact .inr ⟨_, .sl esz els cs g' 0 cap' hR (hat g' cap' rfl) hnc, e'⟩
        · exact .inl rfl
      · exact .inl rfl
    · exact .inl rfl
  · exact hv

end
end Go.Cab
