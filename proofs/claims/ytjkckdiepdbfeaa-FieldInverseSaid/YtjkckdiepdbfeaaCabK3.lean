/- The row's arguments: lists. -/
import Derived.Test.YtjkckdiepdbfeaaCabK2
import Derived.Deep.Slices
set_option linter.unusedSimpArgs false
set_option linter.unusedVariables false
set_option linter.unusedSectionVars false
namespace Go.Cab
open Go.ChangeShapes Go.WideShapes Go.RowKit

section
variable {H : Type} {enc : TypeId × Value → H} {P : Program} {W : World} {base : Nat} {sp : Nat → Bool} {held : Bool}

theorem At.app {Imm : Nat → Nat → Prop} {w : World} {b o : Nat} {c d : List Value} (h : At Imm w b o c) (k : At Imm w b (o + c.length) d) : At Imm w b o (c ++ d) := by
  intro i v hv
  by_cases hi : i < c.length
  · rw [List.getElem?_append_left hi] at hv; exact h i v hv
  · rw [List.getElem?_append_right (by omega)] at hv
    have := k (i - c.length) v hv
    rwa [show o + c.length + (i - c.length) = o + i by omega] at this

/-- The cells that the row's reading met, and that are there. -/
def StOf (W : World) (ps : List MemPlace) (b o : Nat) : Prop := MemPlace.cell b o ∈ ps ∧ (W.cell? ⟨b, o, none⟩).isSome = true

/-- A list that the row lets in. 'G': what is told of each element. -/
theorem open_sl {t k : TypeId} {c : Nat} (ht : P.underlying t = some (.slice k)) (hc : P.cellsOf k = c) (G : AV → Prop)
    (hel : ∀ (n : Nat) (cs : List Value) (x : DataW H × List MemPlace), DataW.trod enc P W base sp held n k cs = some x → cs.length = c → ∃ v, G v ∧ R (StOf W x.2) W v cs ∧ ∀ y ∈ cs, sc y = true)
    {r : Reach} {b0 : Nat} {v : Value} (hval : Value.okWide P W r b0 t v) {d : DataW H} {ps : List MemPlace} (hd : DataW.Trod enc P W base sp held t v d ps) :
    ∃ vs : List AV, (∀ u ∈ vs, G u) ∧ Rel (StOf W ps) W (.sl c vs) v := by
  obtain ⟨fuel, hf⟩ := hd
  have hv : (∃ a len cap, v = .slice a len cap) := by
    cases v <;> simp [Value.okWide, Cell.okWide, Cell.ok, ht] at hval ⊢
  obtain ⟨a0, len0, cap0, rfl⟩ := hv
  have hcs : (Value.slice a0 len0 cap0).cells.toList = [.slice a0 len0 cap0] := rfl
  rw [hcs] at hf
  rcases Go.Deep.open_slice ht hf with ⟨h1, h2⟩ | ⟨a, len, cap, m, n, D, Pl, h1, _, hle, _, hm, h2, hall⟩
  · cases h1
    exact ⟨[], by simp, .inr ⟨_, .slnil c, rfl⟩⟩
  · cases h1
    have hspot : a.spot = none := by
      simp only [Value.okWide, Cell.okWide, Cell.ok, ht] at hval
      exact hval.2.2.2.1
    have hps : ps = MemPlace.row a (m * P.cellsOf k) ++ (List.range m).flatMap Pl := congrArg Prod.snd h2
    rw [hc] at hps hall
    have hlm : len0 ≤ m := by rw [hm]; split <;> omega
    -- from the tail on
    have key : ∀ q, q ≤ len0 → ∃ (vs : List AV) (cs : List Value), (∀ u ∈ vs, G u) ∧ vs.length = q ∧ cs.length = q * c ∧ R (StOf W ps) W (.arr c vs) cs ∧ At (StOf W ps) W a.block (a.off + (len0 - q) * c) cs := by
      intro q
      induction q with
      | zero => exact fun _ => ⟨[], [], by simp, rfl, by simp, .arr0 c, fun i v hv => by simp at hv⟩
      | succ q ih =>
        intro hq
        obtain ⟨vs, cs, g1, g2, g3, g4, g5⟩ := ih (by omega)
        have hi : len0 - (q + 1) < m := by omega
        obtain ⟨cs', k1, k2⟩ := hall (len0 - (q + 1)) hi
        obtain ⟨_, hl', hget⟩ := World.cells?_some k1
        obtain ⟨u, u1, u2, u3⟩ := hel n cs' _ k2 hl'
        refine ⟨u :: vs, cs' ++ cs, ?_, by simp [g2], by rw [List.length_append, hl', g3, Nat.succ_mul]; omega, .arr1 c u vs cs' cs (u2.mono (fun b o hb => ?_) (fun _ _ _ => rfl)) hl' u3 g4, At.app ?_ ?_⟩
        · intro x hx
          rcases List.mem_cons.1 hx with rfl | hx
          · exact u1
          · exact g1 x hx
        · rw [hps]
          exact ⟨List.mem_append_right _ (List.mem_flatMap.2 ⟨_, List.mem_range.2 hi, hb.1⟩), hb.2⟩
        · intro j y hy
          have hj : j < c := by rw [← hl']; exact (List.getElem?_eq_some_iff.1 hy).1
          have h3 := hget j hj
          rw [Go.Deep.add_add] at h3
          have e1 : a.add ((len0 - (q + 1)) * c + j) = ⟨a.block, a.off + (len0 - (q + 1)) * c + j, none⟩ := by
            unfold Addr.add
            split
            · rename_i h0
              obtain ⟨b, o, s⟩ := a
              simp only at hspot ⊢
              rw [hspot]; congr 1; omega
            · rw [Nat.add_assoc]
          rw [e1] at h3
          refine ⟨by rw [h3]; exact hy, ?_, by rw [h3, hy]; rfl⟩
          rw [hps]
          refine List.mem_append_left _ (MemPlace.mem_row.2 ⟨(len0 - (q + 1)) * c + j, ?_, by rw [Nat.add_assoc]⟩)
          have := Nat.mul_le_mul_right c (show len0 - (q + 1) + 1 ≤ m by omega)
          rw [Nat.succ_mul] at this
          omega
        · rw [hl']
          have e2 : a.off + (len0 - (q + 1)) * c + c = a.off + (len0 - q) * c := by
            have e3 : len0 - q = (len0 - (q + 1)) + 1 := by omega
            rw [e3, Nat.succ_mul]; omega
          rw [e2]
          exact g5
    obtain ⟨vs, cs, g1, g2, g3, g4, g5⟩ := key len0 (Nat.le_refl _)
    rw [Nat.sub_self, Nat.zero_mul, Nat.add_zero] at g5
    have ea : a = ⟨a.block, a.off, none⟩ := by obtain ⟨b, o, s⟩ := a; simp only at hspot; rw [hspot]
    refine ⟨vs, g1, .inr ⟨_, .sl c vs cs a.block a.off cap0 g4 g5 (by omega), ?_⟩⟩
    show Value.slice (some a) len0 cap0 = Value.slice (some ⟨a.block, a.off, none⟩) vs.length cap0
    rw [g2, ← ea]

theorem map_of_each {α β : Type} {f : α → β} : ∀ {l : List β}, (∀ u ∈ l, ∃ n, u = f n) → ∃ ks : List α, l = ks.map f
  | [], _ => ⟨[], rfl⟩
  | u :: l, h => by
    obtain ⟨n, rfl⟩ := h u (by simp)
    obtain ⟨ks, e⟩ := map_of_each (l := l) (fun x hx => h x (List.mem_cons_of_mem _ hx))
    exact ⟨n :: ks, by rw [e]; rfl⟩

/-- A key's cells. -/
theorem key_cells {k e : TypeId} (hu : P.underlying k = some (.array 32 e)) (he : P.underlying e = some (.int .u8)) (h1 : P.cellsOf e = 1) (hk : P.cellsOf k = 32) {n : Nat} {cs : List Value} {x : DataW H × List MemPlace}
    (hf : DataW.trod enc P W base sp held n k cs = some x) (hn : cs.length = 32) : ∃ f : Nat → Nat, (∀ i, f i < 256) ∧ cs = (List.range 32).map fun i => bn (f i) := by
  have hval : Value.okWide P W .any 0 k (.agg cs.toArray) ∨ True := .inr trivial
  cases n with
  | zero => simp [DataW.trod] at hf
  | succ m =>
    rw [DataW.trod_step] at hf
    unfold DataW.trodStep at hf
    simp only [hu] at hf
    rw [if_pos (by rw [hk]; exact hn)] at hf
    simp only [Option.map_eq_some_iff] at hf
    obtain ⟨ys, hy, _⟩ := hf
    have h := trods_u8 he _ ys hy
    have hg : ∀ i, ∃ a : Nat, a < 256 ∧ (i < 32 → cs[i]? = some (bn a)) := by
      intro i
      by_cases hi : i < 32
      · obtain ⟨a, ha, e1⟩ := h i (by simpa using hi)
        refine ⟨a, ha, fun _ => ?_⟩
        rw [h1, Nat.mul_one] at e1
        have := congrArg (fun l => l[0]?) e1
        simpa using this
      · exact ⟨0, by decide, fun h => absurd h hi⟩
    obtain ⟨f, hfs⟩ : ∃ f : Nat → Nat, ∀ i, f i < 256 ∧ (i < 32 → cs[i]? = some (bn (f i))) := ⟨fun i => Classical.choose (hg i), fun i => Classical.choose_spec (hg i)⟩
    refine ⟨f, fun i => (hfs i).1, ?_⟩
    apply List.ext_getElem?
    intro i
    by_cases hi : i < 32
    · rw [(hfs i).2 hi]; simp [hi]
    · simp [hi, hn]

theorem R_key_cells {Imm : Nat → Nat → Prop} {w : World} (f : Nat → Nat) (hf : ∀ i, f i < 256) : R Imm w (keyAV (valL ((List.range 32).map f))) ((List.range 32).map fun i => bn (f i)) := by
  rcases R_key (Imm := Imm) (w := w) f hf with h | ⟨cs, h1, h2⟩
  · cases h
  · have : cs = (List.range 32).map fun i => bn (f i) := by
      have := congrArg (fun v => match v with | Value.agg a => a.toList | _ => []) h2
      simpa [asVal, keyAV] using this.symm
    rw [← this]; exact h1

/-- A list of keys. -/
theorem open_keys {t k e : TypeId} (ht : P.underlying t = some (.slice k)) (hu : P.underlying k = some (.array 32 e)) (he : P.underlying e = some (.int .u8)) (h1 : P.cellsOf e = 1) (hk : P.cellsOf k = 32)
    {r : Reach} {b0 : Nat} {v : Value} (hval : Value.okWide P W r b0 t v) {d : DataW H} {ps : List MemPlace} (hd : DataW.Trod enc P W base sp held t v d ps) :
    ∃ ks : List Nat, Rel (StOf W ps) W (.sl 32 (ks.map keyAV)) v := by
  obtain ⟨vs, g1, g2⟩ := open_sl ht hk (fun u => ∃ n, u = keyAV n) (fun n cs x hx hl => by
    obtain ⟨f, hf, rfl⟩ := key_cells hu he h1 hk hx hl
    exact ⟨_, ⟨_, rfl⟩, R_key_cells f hf, fun y hy => by obtain ⟨i, _, rfl⟩ := List.mem_map.1 hy; rfl⟩) hval hd
  obtain ⟨ks, rfl⟩ := map_of_each g1
  exact ⟨ks, g2⟩

/-- A list of bytes. -/
theorem open_bytes {t e : TypeId} (ht : P.underlying t = some (.slice e)) (he : P.underlying e = some (.int .u8)) (h1 : P.cellsOf e = 1)
    {r : Reach} {b0 : Nat} {v : Value} (hval : Value.okWide P W r b0 t v) {d : DataW H} {ps : List MemPlace} (hd : DataW.Trod enc P W base sp held t v d ps) :
    ∃ bs : List Nat, (∀ n ∈ bs, n < 256) ∧ Rel (StOf W ps) W (.sl 1 (bs.map fun n => .lit (bn n))) v := by
  obtain ⟨vs, g1, g2⟩ := open_sl ht h1 (fun u => ∃ n : {n : Nat // n < 256}, u = .lit (bn n.1)) (fun n cs x hx hl => by
    obtain ⟨a, rfl, _, wa⟩ := DataW.trod_int he hx
    simp [Lit.wf, IntKind.min, IntKind.max, IntKind.signed, IntKind.bits] at wa
    refine ⟨_, ⟨⟨a.toNat, by omega⟩, rfl⟩, ?_, fun y hy => by simp at hy; rw [hy]; rfl⟩
    have : Value.int .u8 a = bn a.toNat := by unfold bn; rw [Int.toNat_of_nonneg (by omega)]
    rw [this]
    exact .lit _ rfl) hval hd
  obtain ⟨ks, rfl⟩ := map_of_each (f := fun n : {n : Nat // n < 256} => AV.lit (bn n.1)) g1
  refine ⟨ks.map (·.1), fun n hn => ?_, by rw [List.map_map]; exact g2⟩
  obtain ⟨a, _, rfl⟩ := List.mem_map.1 hn
  exact a.2
end
end Go.Cab
