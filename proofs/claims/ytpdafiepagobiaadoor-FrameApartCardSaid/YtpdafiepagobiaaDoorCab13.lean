/- Part 13 of what the proof stands on: KO, KP, Q22, Q23. -/
import Derived.Test.YtpdafiepagobiaaDoorCab12
import Derived.OpenShut
import Derived.Test.YtpdafiepagobiaaDoorCab11
set_option linter.unusedSimpArgs false
set_option linter.unnecessarySimpa false
set_option linter.unusedVariables false
set_option linter.unusedSectionVars false
namespace Go.Cab
open Go.ChangeShapes Go.WideShapes Go.RowKit Go.ChangeAt
section
variable {H : Type} {enc : TypeId × Value → H} {P : Program} {W : World} {base : Nat} {held : Bool}
def Opens (enc : TypeId × Value → H) (P : Program) (W : World) (base : Nat) (held : Bool) (t : TypeId) (c : Nat) (G : AV → Prop) : Prop :=
  P.cellsOf t = c ∧ ∀ (n : Nat) (cs : List Value) (x : DataW H × List MemPlace), DataW.trod enc P W base (fun _ => true) held n t cs = some x →
    ∃ v, G v ∧ R (StOf W x.2) W v cs ∧ cs.length = c ∧ ∀ y ∈ cs, sc y = true
theorem Opens.mono {t : TypeId} {c : Nat} {G G' : AV → Prop} (h : Opens enc P W base held t c G) (k : ∀ v, G v → G' v) : Opens enc P W base held t c G' :=
  ⟨h.1, fun n cs x hx => by obtain ⟨v, h1, h2⟩ := h.2 n cs x hx; exact ⟨v, k v h1, h2⟩⟩
theorem Opens.int {t : TypeId} {k : IntKind} (ht : P.underlying t = some (.int k)) (hc : P.cellsOf t = 1) : Opens enc P W base held t 1 fun v => ∃ n : Int, (Lit.int k n).wf = true ∧ v = .lit (.int k n) :=
  ⟨hc, fun n cs x hx => by
    obtain ⟨a, rfl, _, wa⟩ := DataW.trod_int ht hx
    exact ⟨_, ⟨a, wa, rfl⟩, .lit _ rfl, rfl, fun y hy => by simp at hy; rw [hy]; rfl⟩⟩
theorem Opens.bool {t : TypeId} (ht : P.underlying t = some .bool) (hc : P.cellsOf t = 1) : Opens enc P W base held t 1 fun v => ∃ b : Bool, v = .lit (.bool b) :=
  ⟨hc, fun n cs x hx => by
    obtain ⟨a, rfl, _⟩ := DataW.trod_bool ht hx
    exact ⟨_, ⟨a, rfl⟩, .lit _ rfl, rfl, fun y hy => by simp at hy; rw [hy]; rfl⟩⟩
theorem Opens.text {t : TypeId} (ht : P.underlying t = some .string) (hc : P.cellsOf t = 1) : Opens enc P W base held t 1 fun v => ∃ s : List UInt8, s.length < 9223372036854775808 ∧ v = .lit (tx s) :=
  ⟨hc, fun n cs x hx => by
    obtain ⟨s, rfl, _, hs⟩ := DataW.trod_string ht hx
    refine ⟨_, ⟨s.data.toList, ?_, rfl⟩, .lit _ rfl, rfl, fun y hy => by simp at hy; rw [hy]; rfl⟩
    have e : s.data.toList.length = s.size := by rw [Array.length_toList]; rfl
    rw [e]
    unfold maxLen at hs
    omega⟩
theorem stOf_sub {ps qs : List MemPlace} (h : ∀ p ∈ ps, p ∈ qs) {v : AV} {cs : List Value} (k : R (StOf W ps) W v cs) : R (StOf W qs) W v cs :=
  k.mono (fun _ _ hb => ⟨h _ hb.1, hb.2⟩) (fun _ _ _ => rfl)
theorem Opens.arr {t e : TypeId} {n c : Nat} {G : AV → Prop} (ht : P.underlying t = some (.array n e)) (hc : P.cellsOf t = n * c) (he : Opens enc P W base held e c G) :
    Opens enc P W base held t (n * c) fun v => ∃ vs : List AV, vs.length = n ∧ (∀ u ∈ vs, G u) ∧ v = .arr c vs := by
  refine ⟨hc, fun N cs x hx => ?_⟩
  obtain ⟨xs, m, _, rfl, hl, hxl, hel⟩ := DataW.trod_array ht hx
  rw [hc] at hl
  rw [he.1] at hel
  have key : ∀ q, q ≤ n → ∃ vs : List AV, vs.length = q ∧ (∀ u ∈ vs, G u) ∧ R (StOf W (xs.flatMap (·.2))) W (.arr c vs) (cs.drop ((n - q) * c)) ∧ ∀ y ∈ cs.drop ((n - q) * c), sc y = true := by
    intro q
    induction q with
    | zero => 
      intro _
      have e : cs.drop ((n - 0) * c) = [] := List.drop_eq_nil_of_le (by rw [hl]; exact Nat.le_refl _)
      rw [e]
      exact ⟨[], rfl, by simp, .arr0 c, by simp⟩
    | succ q ih =>
      intro hq
      obtain ⟨vs, g1, g2, g3, g4⟩ := ih (by omega)
      have hi : n - (q + 1) < n := by omega
      have h1 := hel _ hi
      rw [List.getElem?_eq_getElem (by omega)] at h1
      obtain ⟨u, u1, u2, u3, u4⟩ := he.2 _ _ _ h1
      have e1 : n - q = (n - (q + 1)) + 1 := by omega
      have e2 : cs.drop ((n - (q + 1)) * c) = (cs.drop ((n - (q + 1)) * c)).take c ++ cs.drop ((n - q) * c) := by
        rw [e1, Nat.succ_mul, ← List.drop_drop, List.take_append_drop]
      rw [e2]
      refine ⟨u :: vs, by simp [g1], fun y hy => ?_, .arr1 c u vs _ _ (stOf_sub (fun p hp => List.mem_flatMap.2 ⟨_, List.getElem_mem _, hp⟩) u2) u3 u4 g3, fun y hy => ?_⟩
      · rcases List.mem_cons.1 hy with rfl | hy
        · exact u1
        · exact g2 y hy
      · rcases List.mem_append.1 hy with hy | hy
        · exact u4 y hy
        · exact g4 y hy
  obtain ⟨vs, g1, g2, g3, g4⟩ := key n (Nat.le_refl _)
  rw [Nat.sub_self, Nat.zero_mul, List.drop_zero] at g3 g4
  exact ⟨_, ⟨vs, g1, g2, rfl⟩, g3, hl, g4⟩
theorem Opens.list {t e : TypeId} {c : Nat} {G : AV → Prop} (ht : P.underlying t = some (.slice e)) (hc : P.cellsOf t = 1) (h0 : 0 < c) (he : Opens enc P W base held e c G) :
    Opens enc P W base held t 1 fun v => ∃ vs : List AV, vs.length < 9223372036854775808 ∧ (∀ u ∈ vs, G u) ∧ v = .sl c vs := by
  refine ⟨hc, fun N cs x hx => ?_⟩
  rcases Go.Deep.open_slice ht hx with ⟨rfl, rfl⟩ | ⟨a, len, cap, m, n, D, Pl, rfl, _, hle, hcm, hm, rfl, hall⟩
  · exact ⟨_, ⟨[], by simp, by simp, rfl⟩, .slnil c, rfl, fun y hy => by simp at hy; rw [hy]; rfl⟩
  · simp only [if_true] at hm
    subst hm
    by_cases hcap : m = 0
    · subst hcap
      have : len = 0 := by omega
      subst this
      exact ⟨_, ⟨[], by simp, by simp, rfl⟩, .slnil c (some a), rfl, fun y hy => by simp at hy; rw [hy]; rfl⟩
    have hspot : a.spot = none := by
      obtain ⟨cs', k1, _⟩ := hall 0 (by omega)
      obtain ⟨_, hl', hget⟩ := World.cells?_some k1
      rw [he.1] at hl' hget
      have h1 := hget 0 h0
      rw [List.getElem?_eq_getElem (by omega)] at h1
      unfold World.cell? at h1
      split at h1
      · split at h1
        · cases h1
        · rename_i hs
          rw [Go.Deep.add_add, Nat.zero_mul] at hs
          unfold Addr.add at hs
          simpa using hs
      · cases h1
    rw [he.1] at hall
    have key : ∀ q, q ≤ len → ∃ (vs : List AV) (cs : List Value), (∀ u ∈ vs, G u) ∧ vs.length = q ∧ cs.length = q * c ∧ R (StOf W (MemPlace.row a (m * c) ++ (List.range m).flatMap Pl)) W (.arr c vs) cs ∧ At (StOf W (MemPlace.row a (m * c) ++ (List.range m).flatMap Pl)) W a.block (a.off + (len - q) * c) cs := by
      intro q
      induction q with
      | zero => exact fun _ => ⟨[], [], by simp, rfl, by simp, .arr0 c, fun i v hv => by simp at hv⟩
      | succ q ih =>
        intro hq
        obtain ⟨vs, cs, g1, g2, g3, g4, g5⟩ := ih (by omega)
        have hi : len - (q + 1) < m := by omega
        obtain ⟨cs', k1, k2⟩ := hall (len - (q + 1)) hi
        obtain ⟨_, hl', hget⟩ := World.cells?_some k1
        obtain ⟨u, u1, u2, _, u3⟩ := he.2 n cs' _ k2
        refine ⟨u :: vs, cs' ++ cs, ?_, by simp [g2], by rw [List.length_append, hl', g3, Nat.succ_mul]; omega, .arr1 c u vs cs' cs (stOf_sub (fun p hp => List.mem_append_right _ (List.mem_flatMap.2 ⟨_, List.mem_range.2 hi, hp⟩)) u2) hl' u3 g4, At.app ?_ ?_⟩
        · intro x hx
          rcases List.mem_cons.1 hx with rfl | hx
          · exact u1
          · exact g1 x hx
        · intro j y hy
          have hj : j < c := by rw [← hl']; exact (List.getElem?_eq_some_iff.1 hy).1
          have h3 := hget j hj
          rw [Go.Deep.add_add] at h3
          have e1 : a.add ((len - (q + 1)) * c + j) = ⟨a.block, a.off + (len - (q + 1)) * c + j, none⟩ := by
            unfold Addr.add
            split
            · rename_i h0
              obtain ⟨b, o, s⟩ := a
              simp only at hspot ⊢
              rw [hspot]; congr 1; omega
            · rw [Nat.add_assoc]
          rw [e1] at h3
          refine ⟨by rw [h3]; exact hy, ?_, by rw [h3, hy]; rfl⟩
          refine List.mem_append_left _ (MemPlace.mem_row.2 ⟨(len - (q + 1)) * c + j, ?_, by rw [Nat.add_assoc]⟩)
          have := Nat.mul_le_mul_right c (show len - (q + 1) + 1 ≤ m by omega)
          rw [Nat.succ_mul] at this
          omega
        · rw [hl']
          have e2 : a.off + (len - (q + 1)) * c + c = a.off + (len - q) * c := by
            have e3 : len - q = (len - (q + 1)) + 1 := by omega
            rw [e3, Nat.succ_mul]; omega
          rw [e2]
          exact g5
    obtain ⟨vs, cs, g1, g2, g3, g4, g5⟩ := key len (Nat.le_refl _)
    rw [Nat.sub_self, Nat.zero_mul, Nat.add_zero] at g5
    have ea : a = ⟨a.block, a.off, none⟩ := by obtain ⟨b, o, s⟩ := a; simp only at hspot; rw [hspot]
    refine ⟨_, ⟨vs, by unfold maxLen at hcm; omega, g1, rfl⟩, ?_, rfl, fun y hy => by simp at hy; rw [hy]; rfl⟩
    have := R.sl (Imm := StOf W (MemPlace.row a (m * c) ++ (List.range m).flatMap Pl)) (w := W) c vs cs a.block a.off m g4 g5 (by omega)
    rw [g2, ← ea] at this
    rw [he.1]
    exact this
def FieldsOk (enc : TypeId × Value → H) (P : Program) (W : World) (base : Nat) (held : Bool) : List Field → Nat → List (Nat × (AV → Prop)) → Prop
  | [], _, [] => True
  | f :: fs, o, l :: ls => f.offset = o ∧ Opens enc P W base held f.type l.1 l.2 ∧ FieldsOk enc P W base held fs (o + l.1) ls
  | _, _, _ => False
def FG : List (Nat × (AV → Prop)) → List AV → Prop
  | [], [] => True
  | l :: ls, v :: vs => l.2 v ∧ FG ls vs
  | _, _ => False
theorem fields_open {n : Nat} {cs : List Value} : ∀ (fs : List Field) (o : Nat) (ls : List (Nat × (AV → Prop))) (xs : List (DataW H × List MemPlace)), FieldsOk enc P W base held fs o ls → xs.length = fs.length →
    (∀ (i : Nat) (f : Field), fs[i]? = some f → DataW.trod enc P W base (fun _ => true) held n f.type ((cs.drop f.offset).take (P.cellsOf f.type)) = xs[i]?) →
    ∃ vs, FG ls vs ∧ R (StOf W (xs.flatMap (·.2))) W (.st (ls.map (·.1)) vs) ((cs.drop o).take (ls.map (·.1)).sum) ∧ ∀ y ∈ (cs.drop o).take (ls.map (·.1)).sum, sc y = true
  | [], o, [], xs, _, _, _ => ⟨[], trivial, by simpa using R.st0, by simp⟩
  | [], _, _ :: _, _, h, _, _ => h.elim
  | _ :: _, _, [], _, h, _, _ => h.elim
  | f :: fs, o, l :: ls, [], _, h, _ => by simp at h
  | f :: fs, o, l :: ls, x :: xs, ⟨h1, h2, h3⟩, hl, hx => by
    obtain ⟨vs, g1, g2, g3⟩ := fields_open fs (o + l.1) ls xs h3 (by simpa using hl) (fun i f' hf => hx (i + 1) f' hf)
    have h4 := hx 0 f rfl
    rw [h1, h2.1] at h4
    obtain ⟨v, u1, u2, u3, u4⟩ := h2.2 _ _ _ h4
    have e : (cs.drop o).take ((l :: ls).map (·.1)).sum = (cs.drop o).take l.1 ++ (cs.drop (o + l.1)).take (ls.map (·.1)).sum := by
      rw [List.map_cons, List.sum_cons, List.take_add, List.drop_drop]
    rw [e]
    refine ⟨v :: vs, ⟨u1, g1⟩, .st1 l.1 _ v vs _ _ (stOf_sub (fun p hp => List.mem_append_left _ hp) u2) u3 u4 (stOf_sub (fun p hp => List.mem_append_right _ hp) g2), fun y hy => ?_⟩
    rcases List.mem_append.1 hy with hy | hy
    · exact u4 y hy
    · exact g3 y hy
theorem Opens.struct {t : TypeId} {fs : Array Field} {c : Nat} {ls : List (Nat × (AV → Prop))} (ht : P.underlying t = some (.struct fs)) (hc : P.cellsOf t = c) (hs : (ls.map (·.1)).sum = c) (hF : FieldsOk enc P W base held fs.toList 0 ls) :
    Opens enc P W base held t c fun v => ∃ vs, FG ls vs ∧ v = .st (ls.map (·.1)) vs := by
  refine ⟨hc, fun N cs x hx => ?_⟩
  obtain ⟨xs, n, _, rfl, hl, hxl, hel⟩ := DataW.trod_struct ht hx
  obtain ⟨vs, g1, g2, g3⟩ := fields_open (n := n) (cs := cs) fs.toList 0 ls xs hF (by simpa using hxl) (fun i f hf => hel i f (by simpa using hf))
  have e : (cs.drop 0).take (ls.map (·.1)).sum = cs := by rw [List.drop_zero, hs, List.take_of_length_le (by omega)]
  rw [e] at g2 g3
  exact ⟨_, ⟨vs, g1, rfl⟩, g2, by omega, g3⟩
theorem Opens.agg {t : TypeId} {c : Nat} {G : AV → Prop} (h : Opens enc P W base held t c G) (hG : ∀ v, G v → v.isAgg = true) {r : Reach} {b0 : Nat} {v : Value} (hval : Value.okWide P W r b0 t v)
    (hu : (∃ fs, P.underlying t = some (.struct fs)) ∨ ∃ n e, P.underlying t = some (.array n e)) {d : DataW H} {ps : List MemPlace} (hd : DataW.Trod enc P W base (fun _ => true) held t v d ps) :
    ∃ u, G u ∧ Rel (StOf W ps) W u v := by
  obtain ⟨fuel, hf⟩ := hd
  obtain ⟨u, h1, h2, _⟩ := h.2 _ _ _ hf
  obtain ⟨cs, rfl⟩ : ∃ cs, v = .agg cs := by
    unfold Value.okWide at hval
    rcases hu with ⟨fs, hu⟩ | ⟨n, e, hu⟩ <;> rw [hu] at hval <;> obtain ⟨cs, rfl, _⟩ := hval <;> exact ⟨cs, rfl⟩
  refine ⟨u, h1, .inr ⟨_, h2, ?_⟩⟩
  have hg := hG u h1
  cases u <;> simp [AV.isAgg] at hg <;> rfl
theorem Opens.slice {t e : TypeId} {c : Nat} {G : AV → Prop} (h : Opens enc P W base held t 1 fun v => ∃ vs : List AV, vs.length < 9223372036854775808 ∧ (∀ u ∈ vs, G u) ∧ v = .sl c vs) (ht : P.underlying t = some (.slice e)) {r : Reach} {b0 : Nat} {v : Value} (hval : Value.okWide P W r b0 t v)
    {d : DataW H} {ps : List MemPlace} (hd : DataW.Trod enc P W base (fun _ => true) held t v d ps) :
    ∃ vs : List AV, vs.length < 9223372036854775808 ∧ (∀ u ∈ vs, G u) ∧ Rel (StOf W ps) W (.sl c vs) v := by
  obtain ⟨fuel, hf⟩ := hd
  obtain ⟨_, ⟨vs, h0, h1, rfl⟩, h2, _⟩ := h.2 _ _ _ hf
  have hv : (∃ a len cap, v = .slice a len cap) := by
    cases v <;> simp [Value.okWide, Cell.okWide, Cell.ok, ht] at hval ⊢
  obtain ⟨a0, len0, cap0, rfl⟩ := hv
  exact ⟨vs, h0, h1, .inr ⟨_, h2, rfl⟩⟩
end
section
variable {H : Type} {enc : TypeId × Value → H} {P : Program} {W : World}
theorem trodAll_five {t0 t1 t2 t3 t4 : TypeId} {args : Array Value} {ds : List (DataW H)} {ps : List MemPlace} {base : Nat} {spare : Nat → Bool} {held : Bool} (h : DataW.TrodAll enc P W base spare held [t0, t1, t2, t3, t4] args.toList ds ps) :
    ∃ v0 v1 v2 v3 v4 d0 d1 d2 d3 d4 p0 p1 p2 p3 p4, args = #[v0, v1, v2, v3, v4] ∧ ds = [d0, d1, d2, d3, d4] ∧ ps = p0 ++ p1 ++ p2 ++ p3 ++ p4 ∧ DataW.Trod enc P W base spare held t0 v0 d0 p0 ∧ DataW.Trod enc P W base spare held t1 v1 d1 p1 ∧ DataW.Trod enc P W base spare held t2 v2 d2 p2 ∧ DataW.Trod enc P W base spare held t3 v3 d3 p3 ∧ DataW.Trod enc P W base spare held t4 v4 d4 p4 := by
  obtain ⟨v0, vs0, d0, ds0, p0, q0, hargs, rfl, rfl, hd0, hr0⟩ := trodAll_cons h
  obtain ⟨v1, vs1, d1, ds1, p1, q1, rfl, rfl, rfl, hd1, hr1⟩ := trodAll_cons hr0
  obtain ⟨v2, vs2, d2, ds2, p2, q2, rfl, rfl, rfl, hd2, hr2⟩ := trodAll_cons hr1
  obtain ⟨v3, vs3, d3, ds3, p3, q3, rfl, rfl, rfl, hd3, hr3⟩ := trodAll_cons hr2
  obtain ⟨v4, vs4, d4, ds4, p4, q4, rfl, rfl, rfl, hd4, hr4⟩ := trodAll_cons hr3
  obtain ⟨rfl, rfl, rfl⟩ := trodAll_nil hr4
  exact ⟨v0, v1, v2, v3, v4, d0, d1, d2, d3, d4, p0, p1, p2, p3, p4, by cases args; simp_all, rfl, by simp, hd0, hd1, hd2, hd3, hd4⟩
theorem trodAll_mk5 {t0 t1 t2 t3 t4 : TypeId} {v0 v1 v2 v3 v4 : Value} {d0 d1 d2 d3 d4 : DataW H} {p0 p1 p2 p3 p4 : List MemPlace} {base : Nat} {spare : Nat → Bool} {held : Bool} (h0 : DataW.Trod enc P W base spare held t0 v0 d0 p0) (h1 : DataW.Trod enc P W base spare held t1 v1 d1 p1) (h2 : DataW.Trod enc P W base spare held t2 v2 d2 p2) (h3 : DataW.Trod enc P W base spare held t3 v3 d3 p3) (h4 : DataW.Trod enc P W base spare held t4 v4 d4 p4) : DataW.TrodAll enc P W base spare held [t0, t1, t2, t3, t4] [v0, v1, v2, v3, v4] [d0, d1, d2, d3, d4] (p0 ++ (p1 ++ (p2 ++ (p3 ++ (p4))))) := trodAll_cons_mk h0 (trodAll_mk4 h1 h2 h3 h4)
theorem trodAll_six {t0 t1 t2 t3 t4 t5 : TypeId} {args : Array Value} {ds : List (DataW H)} {ps : List MemPlace} {base : Nat} {spare : Nat → Bool} {held : Bool} (h : DataW.TrodAll enc P W base spare held [t0, t1, t2, t3, t4, t5] args.toList ds ps) :
    ∃ v0 v1 v2 v3 v4 v5 d0 d1 d2 d3 d4 d5 p0 p1 p2 p3 p4 p5, args = #[v0, v1, v2, v3, v4, v5] ∧ ds = [d0, d1, d2, d3, d4, d5] ∧ ps = p0 ++ p1 ++ p2 ++ p3 ++ p4 ++ p5 ∧ DataW.Trod enc P W base spare held t0 v0 d0 p0 ∧ DataW.Trod enc P W base spare held t1 v1 d1 p1 ∧ DataW.Trod enc P W base spare held t2 v2 d2 p2 ∧ DataW.Trod enc P W base spare held t3 v3 d3 p3 ∧ DataW.Trod enc P W base spare held t4 v4 d4 p4 ∧ DataW.Trod enc P W base spare held t5 v5 d5 p5 := by
  obtain ⟨v0, vs0, d0, ds0, p0, q0, hargs, rfl, rfl, hd0, hr0⟩ := trodAll_cons h
  obtain ⟨v1, vs1, d1, ds1, p1, q1, rfl, rfl, rfl, hd1, hr1⟩ := trodAll_cons hr0
  obtain ⟨v2, vs2, d2, ds2, p2, q2, rfl, rfl, rfl, hd2, hr2⟩ := trodAll_cons hr1
  obtain ⟨v3, vs3, d3, ds3, p3, q3, rfl, rfl, rfl, hd3, hr3⟩ := trodAll_cons hr2
  obtain ⟨v4, vs4, d4, ds4, p4, q4, rfl, rfl, rfl, hd4, hr4⟩ := trodAll_cons hr3
  obtain ⟨v5, vs5, d5, ds5, p5, q5, rfl, rfl, rfl, hd5, hr5⟩ := trodAll_cons hr4
  obtain ⟨rfl, rfl, rfl⟩ := trodAll_nil hr5
  exact ⟨v0, v1, v2, v3, v4, v5, d0, d1, d2, d3, d4, d5, p0, p1, p2, p3, p4, p5, by cases args; simp_all, rfl, by simp, hd0, hd1, hd2, hd3, hd4, hd5⟩
theorem trodAll_mk6 {t0 t1 t2 t3 t4 t5 : TypeId} {v0 v1 v2 v3 v4 v5 : Value} {d0 d1 d2 d3 d4 d5 : DataW H} {p0 p1 p2 p3 p4 p5 : List MemPlace} {base : Nat} {spare : Nat → Bool} {held : Bool} (h0 : DataW.Trod enc P W base spare held t0 v0 d0 p0) (h1 : DataW.Trod enc P W base spare held t1 v1 d1 p1) (h2 : DataW.Trod enc P W base spare held t2 v2 d2 p2) (h3 : DataW.Trod enc P W base spare held t3 v3 d3 p3) (h4 : DataW.Trod enc P W base spare held t4 v4 d4 p4) (h5 : DataW.Trod enc P W base spare held t5 v5 d5 p5) : DataW.TrodAll enc P W base spare held [t0, t1, t2, t3, t4, t5] [v0, v1, v2, v3, v4, v5] [d0, d1, d2, d3, d4, d5] (p0 ++ (p1 ++ (p2 ++ (p3 ++ (p4 ++ (p5)))))) := trodAll_cons_mk h0 (trodAll_mk5 h1 h2 h3 h4 h5)
end
end Go.Cab
namespace Go.Cab
open Go.ChangeShapes Go.WideShapes Go.RowKit Go.ChangeAt
def I64 (n : Int) : Prop := -9223372036854775808 ≤ n ∧ n < 9223372036854775808
theorem map_of_G {α : Type} {p : α → Prop} {f : α → AV} : ∀ {vs : List AV}, (∀ u ∈ vs, ∃ a, p a ∧ u = f a) → ∃ l : List α, (∀ a ∈ l, p a) ∧ l.length = vs.length ∧ vs = l.map f
  | [], _ => ⟨[], by simp, rfl, rfl⟩
  | u :: vs, h => by
    obtain ⟨a, ha, rfl⟩ := h u (by simp)
    obtain ⟨l, h1, h2, h3⟩ := map_of_G (vs := vs) (fun x hx => h x (List.mem_cons_of_mem _ hx))
    refine ⟨a :: l, fun x hx => ?_, by simp [h2], by rw [h3]; rfl⟩
    rcases List.mem_cons.1 hx with rfl | hx
    · exact ha
    · exact h1 x hx
theorem FG.cons {l : Nat × (AV → Prop)} {ls : List (Nat × (AV → Prop))} {vs : List AV} (h : FG (l :: ls) vs) : ∃ v vs', vs = v :: vs' ∧ l.2 v ∧ FG ls vs' := by
  cases vs with
  | nil => exact h.elim
  | cons v vs => exact ⟨v, vs, rfl, h.1, h.2⟩
theorem FG.nil {vs : List AV} (h : FG [] vs) : vs = [] := by
  cases vs with
  | nil => rfl
  | cons v vs => exact h.elim
structure OpRaw (o : OpV) : Prop where
  seq : o.seq < 4294967296
  parents : o.parents.length < 9223372036854775808
  p32 : ∀ k ∈ o.parents, k.length = 32
  who : o.who.length < 9223372036854775808
  ofk : o.ofk.length = 32
  check : o.check.length = 32
  text : o.text.length < 9223372036854775808
  boxes : o.boxes.length < 9223372036854775808
  bok : ∀ b ∈ o.boxes, BoxOk b ∧ b.body.length < 9223372036854775808
structure FrRaw (f : FrameV) : Prop where
  op : OpRaw f.op
  ids : ∀ k ∈ f.ids, k.length = 32
  il : f.ids.length < 9223372036854775808
structure Ty (P : Program) : Prop where
  u5 : P.underlying 5 = some (.int .u8)
  c5 : P.cellsOf 5 = 1
  u3 : P.underlying 3 = some (.int .i64)
  c3 : P.cellsOf 3 = 1
  u4 : P.underlying 4 = some .bool
  c4 : P.cellsOf 4 = 1
  u9 : P.underlying 9 = some .string
  c9 : P.cellsOf 9 = 1
  u22 : P.underlying 22 = some (.int .u32)
  c22 : P.cellsOf 22 = 1
  u26 : P.underlying 26 = some (.array 32 5)
  c26 : P.cellsOf 26 = 32
  u49 : P.underlying 49 = some (.struct #[⟨"Pub", 26, 0, false, "", "", 0⟩, ⟨"N", 22, 32, false, "", "", 32⟩, ⟨"Prev", 22, 33, false, "", "", 36⟩])
  c49 : P.cellsOf 49 = 34
  u51 : P.underlying 51 = some (.struct #[⟨"To", 3, 0, false, "", "", 0⟩, ⟨"Head", 49, 1, false, "", "", 8⟩, ⟨"Body", 9, 35, false, "", "", 48⟩])
  c51 : P.cellsOf 51 = 36
  u23 : P.underlying 23 = some (.slice 26)
  c23 : P.cellsOf 23 = 1
  u24 : P.underlying 24 = some (.slice 3)
  c24 : P.cellsOf 24 = 1
  u27 : P.underlying 27 = some (.slice 51)
  c27 : P.cellsOf 27 = 1
  u29 : P.underlying 29 = some (.struct #[⟨"Author", 3, 0, false, "", "", 0⟩, ⟨"Seq", 22, 1, false, "", "", 8⟩, ⟨"Parents", 23, 2, false, "", "", 16⟩, ⟨"Kind", 3, 3, false, "", "", 40⟩, ⟨"Who", 24, 4, false, "", "", 48⟩, ⟨"Of", 26, 5, false, "", "", 72⟩, ⟨"Check", 26, 37, false, "", "", 104⟩, ⟨"Text", 9, 69, false, "", "", 136⟩, ⟨"Boxes", 27, 70, false, "", "", 152⟩])
  c29 : P.cellsOf 29 = 71
  u39 : P.underlying 39 = some (.struct #[⟨"Kind", 3, 0, false, "", "", 0⟩, ⟨"From", 3, 1, false, "", "", 8⟩, ⟨"Op", 29, 2, false, "", "", 16⟩, ⟨"Ids", 23, 73, false, "", "", 192⟩])
  c39 : P.cellsOf 39 = 74
section
variable {H : Type} {enc : TypeId × Value → H} {P : Program} {W : World} {base : Nat} {held : Bool}
theorem kp_u8 (T : Ty P) : Opens enc P W base held 5 1 fun v => ∃ b : UInt8, v = .lit (bn b.toNat) :=
  (Opens.int T.u5 T.c5).mono fun v h => by
    obtain ⟨n, hn, e⟩ := h
    simp [Lit.wf, IntKind.min, IntKind.max, IntKind.signed, IntKind.bits] at hn
    refine ⟨UInt8.ofNat n.toNat, ?_⟩
    subst e
    have : (UInt8.ofNat n.toNat).toNat = n.toNat := by rw [UInt8.toNat_ofNat']; omega
    rw [this]
    unfold bn
    rw [Int.toNat_of_nonneg (by omega)]
theorem kp_int (T : Ty P) : Opens enc P W base held 3 1 fun v => ∃ n : Int, I64 n ∧ v = .lit (ji n) :=
  (Opens.int T.u3 T.c3).mono fun v h => by
    obtain ⟨n, hn, e⟩ := h
    simp [Lit.wf, IntKind.min, IntKind.max, IntKind.signed, IntKind.bits] at hn
    exact ⟨n, by unfold I64; omega, e⟩
theorem kp_u32 (T : Ty P) : Opens enc P W base held 22 1 fun v => ∃ n : Nat, n < 4294967296 ∧ v = .lit (wn n) :=
  (Opens.int T.u22 T.c22).mono fun v h => by
    obtain ⟨n, hn, e⟩ := h
    simp [Lit.wf, IntKind.min, IntKind.max, IntKind.signed, IntKind.bits] at hn
    refine ⟨n.toNat, by omega, ?_⟩
    rw [e]
    unfold wn
    rw [Int.toNat_of_nonneg (by omega)]
theorem kp_bool (T : Ty P) : Opens enc P W base held 4 1 fun v => ∃ b : Bool, v = .lit (.bool b) := Opens.bool T.u4 T.c4
theorem kp_text (T : Ty P) : Opens enc P W base held 9 1 fun v => ∃ s : List UInt8, s.length < 9223372036854775808 ∧ v = .lit (tx s) := Opens.text T.u9 T.c9
theorem kp_key (T : Ty P) : Opens enc P W base held 26 32 fun v => ∃ k : List UInt8, k.length = 32 ∧ v = keyA k :=
  (Opens.arr (n := 32) (c := 1) T.u26 T.c26 (kp_u8 T)).mono fun v h => by
    obtain ⟨vs, h1, h2, e⟩ := h
    obtain ⟨l, _, g2, g3⟩ := map_of_G (p := fun _ => True) (f := fun b : UInt8 => AV.lit (bn b.toNat)) fun u hu => by obtain ⟨b, e⟩ := h2 u hu; exact ⟨b, trivial, e⟩
    exact ⟨l, by omega, by rw [e, g3]; rfl⟩
theorem kp_head (T : Ty P) : Opens enc P W base held 49 34 fun v => ∃ (p : List UInt8) (n m : Nat), (p.length = 32 ∧ n < 4294967296 ∧ m < 4294967296) ∧ v = .st [32, 1, 1] [keyA p, .lit (wn n), .lit (wn m)] :=
  (Opens.struct (ls := [(32, _), (1, _), (1, _)]) T.u49 T.c49 rfl ⟨rfl, kp_key T, rfl, kp_u32 T, rfl, kp_u32 T, trivial⟩).mono fun v h => by
    obtain ⟨vs, h, e⟩ := h
    obtain ⟨_, vs, rfl, ⟨k, hk, e1⟩, h⟩ := h.cons
    obtain ⟨_, vs, rfl, ⟨n, hn, e2⟩, h⟩ := h.cons
    obtain ⟨_, vs, rfl, ⟨m, hm, e3⟩, h⟩ := h.cons
    obtain rfl := h.nil
    subst e1 e2 e3
    exact ⟨k, n, m, ⟨hk, hn, hm⟩, e⟩
theorem kp_box (T : Ty P) : Opens enc P W base held 51 36 fun v => ∃ b : BoxV, (BoxOk b ∧ b.body.length < 9223372036854775808) ∧ v = boxA b :=
  (Opens.struct (ls := [(1, _), (34, _), (1, _)]) T.u51 T.c51 rfl ⟨rfl, kp_int T, rfl, kp_head T, rfl, kp_text T, trivial⟩).mono fun v h => by
    obtain ⟨vs, h, e⟩ := h
    obtain ⟨_, vs, rfl, ⟨t, _, e1⟩, h⟩ := h.cons
    obtain ⟨_, vs, rfl, ⟨p, n, m, ⟨hp, hn, hm⟩, e2⟩, h⟩ := h.cons
    obtain ⟨_, vs, rfl, ⟨s, hs, e3⟩, h⟩ := h.cons
    obtain rfl := h.nil
    subst e1 e2 e3
    exact ⟨⟨t, p, n, m, s⟩, ⟨⟨hp, hn, hm⟩, hs⟩, e⟩
theorem kp_klist (T : Ty P) : Opens enc P W base held 23 1 fun v => ∃ vs : List AV, vs.length < 9223372036854775808 ∧ (∀ u ∈ vs, ∃ k : List UInt8, k.length = 32 ∧ u = keyA k) ∧ v = .sl 32 vs := Opens.list (c := 32) T.u23 T.c23 (by decide) (kp_key T)
theorem kp_ilist (T : Ty P) : Opens enc P W base held 24 1 fun v => ∃ vs : List AV, vs.length < 9223372036854775808 ∧ (∀ u ∈ vs, ∃ n : Int, I64 n ∧ u = .lit (ji n)) ∧ v = .sl 1 vs := Opens.list (c := 1) T.u24 T.c24 (by decide) (kp_int T)
theorem kp_blist (T : Ty P) : Opens enc P W base held 27 1 fun v => ∃ vs : List AV, vs.length < 9223372036854775808 ∧ (∀ u ∈ vs, ∃ b : BoxV, (BoxOk b ∧ b.body.length < 9223372036854775808) ∧ u = boxA b) ∧ v = .sl 36 vs := Opens.list (c := 36) T.u27 T.c27 (by decide) (kp_box T)
theorem kp_op (T : Ty P) : Opens enc P W base held 29 71 fun v => ∃ o : OpV, OpRaw o ∧ v = opA o :=
  (Opens.struct (ls := [(1, _), (1, _), (1, _), (1, _), (1, _), (32, _), (32, _), (1, _), (1, _)]) T.u29 T.c29 rfl
    ⟨rfl, kp_int T, rfl, kp_u32 T, rfl, kp_klist T, rfl, kp_int T, rfl, kp_ilist T, rfl, kp_key T, rfl, kp_key T, rfl, kp_text T, rfl, kp_blist T, trivial⟩).mono fun v h => by
    obtain ⟨vs, h, e⟩ := h
    obtain ⟨_, vs, rfl, ⟨a, _, e1⟩, h⟩ := h.cons
    obtain ⟨_, vs, rfl, ⟨s, hs, e2⟩, h⟩ := h.cons
    obtain ⟨_, vs, rfl, ⟨pv, p0, p1, e3⟩, h⟩ := h.cons
    obtain ⟨_, vs, rfl, ⟨k, _, e4⟩, h⟩ := h.cons
    obtain ⟨_, vs, rfl, ⟨wv, w0, w1, e5⟩, h⟩ := h.cons
    obtain ⟨_, vs, rfl, ⟨of_, ho, e6⟩, h⟩ := h.cons
    obtain ⟨_, vs, rfl, ⟨ck, hc, e7⟩, h⟩ := h.cons
    obtain ⟨_, vs, rfl, ⟨tx', ht, e8⟩, h⟩ := h.cons
    obtain ⟨_, vs, rfl, ⟨bv, b0, b1, e9⟩, h⟩ := h.cons
    obtain rfl := h.nil
    subst e1 e2 e3 e4 e5 e6 e7 e8 e9
    obtain ⟨ps, g1, g2, rfl⟩ := map_of_G p1
    obtain ⟨ws, k1, k2, rfl⟩ := map_of_G w1
    obtain ⟨bs, l1, l2, rfl⟩ := map_of_G b1
    exact ⟨⟨a, s, ps, k, ws, of_, ck, tx', bs⟩, ⟨hs, by simpa using p0, g1, by simpa using w0, ho, hc, ht, by simpa using b0, l1⟩, e⟩
theorem kp_frame (T : Ty P) : Opens enc P W base held 39 74 fun v => ∃ f : FrameV, FrRaw f ∧ v = frameA f :=
  (Opens.struct (ls := [(1, _), (1, _), (71, _), (1, _)]) T.u39 T.c39 rfl ⟨rfl, kp_int T, rfl, kp_int T, rfl, kp_op T, rfl, kp_klist T, trivial⟩).mono fun v h => by
    obtain ⟨vs, h, e⟩ := h
    obtain ⟨_, vs, rfl, ⟨a, _, e1⟩, h⟩ := h.cons
    obtain ⟨_, vs, rfl, ⟨b, _, e2⟩, h⟩ := h.cons
    obtain ⟨_, vs, rfl, ⟨q, ho, e3⟩, h⟩ := h.cons
    obtain ⟨_, vs, rfl, ⟨kv, k0, k1, e4⟩, h⟩ := h.cons
    obtain rfl := h.nil
    subst e1 e2 e3 e4
    obtain ⟨ks, g1, g2, rfl⟩ := map_of_G k1
    exact ⟨⟨a, b, q, ks⟩, ⟨ho, g1, by simpa using k0⟩, e⟩
variable {r : Reach} {b0 : Nat} {v : Value} {d : DataW H} {ps : List MemPlace}
theorem op_arg (T : Ty P) (hval : Value.okWide P W r b0 29 v) (hd : DataW.Trod enc P W base (fun _ => true) held 29 v d ps) : ∃ o : OpV, OpRaw o ∧ Rel (StOf W ps) W (opA o) v := by
  obtain ⟨u, ⟨o, h, rfl⟩, hr⟩ := (kp_op T).agg (fun u ⟨o, _, e⟩ => by rw [e]; rfl) hval (.inl ⟨_, T.u29⟩) hd
  exact ⟨o, h, hr⟩
theorem frame_arg (T : Ty P) (hval : Value.okWide P W r b0 39 v) (hd : DataW.Trod enc P W base (fun _ => true) held 39 v d ps) : ∃ f : FrameV, FrRaw f ∧ Rel (StOf W ps) W (frameA f) v := by
  obtain ⟨u, ⟨f, h, rfl⟩, hr⟩ := (kp_frame T).agg (fun u ⟨f, _, e⟩ => by rw [e]; rfl) hval (.inl ⟨_, T.u39⟩) hd
  exact ⟨f, h, hr⟩
theorem key_arg (T : Ty P) (hval : Value.okWide P W r b0 26 v) (hd : DataW.Trod enc P W base (fun _ => true) held 26 v d ps) : ∃ k : List UInt8, k.length = 32 ∧ Rel (StOf W ps) W (keyA k) v := by
  obtain ⟨u, ⟨k, h, rfl⟩, hr⟩ := (kp_key T).agg (fun u ⟨_, _, e⟩ => by rw [e]; rfl) hval (.inr ⟨32, 5, T.u26⟩) hd
  exact ⟨k, h, hr⟩
theorem klist_arg (T : Ty P) (hval : Value.okWide P W r b0 23 v) (hd : DataW.Trod enc P W base (fun _ => true) held 23 v d ps) : ∃ ks : List (List UInt8), ks.length < 9223372036854775808 ∧ (∀ k ∈ ks, k.length = 32) ∧ Rel (StOf W ps) W (.sl 32 (klA ks)) v := by
  obtain ⟨vs, h0, h1, hr⟩ := (kp_klist T).slice T.u23 hval hd
  obtain ⟨ks, g1, g2, rfl⟩ := map_of_G h1
  exact ⟨ks, by omega, g1, hr⟩
end
theorem ty_try : Ty Go.Proofs.Tryd.prog := ⟨by kernel_rfl, by kernel_rfl, by kernel_rfl, by kernel_rfl, by kernel_rfl, by kernel_rfl, by kernel_rfl, by kernel_rfl, by kernel_rfl, by kernel_rfl, by kernel_rfl, by kernel_rfl, by kernel_rfl, by kernel_rfl, by kernel_rfl, by kernel_rfl, by kernel_rfl, by kernel_rfl, by kernel_rfl, by kernel_rfl, by kernel_rfl, by kernel_rfl, by kernel_rfl, by kernel_rfl, by kernel_rfl, by kernel_rfl⟩
end Go.Cab
namespace Go.Cab
open Go.RowKit
open Classical
def fb801 : AC := (.seq (.reg [⟨some 2, none, .box 74 (.tmp 0), [], none⟩, ⟨some 4, none, .mov (.const (.bool false)), [], none⟩]) (.seq (.seq (.reg [⟨some 13, none, .call 5 [], [], none⟩, ⟨some 14, none, .un .not (.tmp 13), [], none⟩]) (.cond (.tmp 14) (.seq (.reg [⟨some 4, none, .mov (.const (.bool false)), [], none⟩]) .ret) .skip)) (.seq (.seq (.reg [⟨some 15, none, .faddr 2 2 (.tmp 2), [], none⟩, ⟨some 16, none, .load true 71 (.tmp 15), [], none⟩, ⟨some 17, none, .call 6 [.tmp 16], [], none⟩, ⟨some 18, none, .mov (.tmp 17), [], none⟩, ⟨some 19, some (18, false), .faddr 73 3 (.tmp 2), [], none⟩, ⟨some 20, some (18, false), .load false 1 (.tmp 19), [], none⟩, ⟨some 21, some (18, false), .len false (.tmp 20), [], none⟩, ⟨some 22, some (18, false), .bin .gtr (.tmp 21) (.const (jn 50)), [], none⟩, ⟨some 23, none, .pick (.tmp 18) (.const (.bool true)) (.tmp 22), [], none⟩, ⟨some 24, none, .mov (.tmp 23), [], none⟩, ⟨some 25, some (24, false), .mov (.tmp 1), [], none⟩, ⟨some 26, some (24, false), .len true (.tmp 25), [], none⟩, ⟨some 27, some (24, false), .bin .gtr (.tmp 26) (.const (jn 6000)), [], none⟩, ⟨some 28, none, .pick (.tmp 24) (.const (.bool true)) (.tmp 27), [], none⟩]) (.cond (.tmp 28) (.seq (.reg [⟨some 29, none, .call 5 [], [], none⟩, ⟨some 4, none, .mov (.tmp 29), [], none⟩]) .ret) .skip)) (.seq (.reg [⟨some 31, none, .load true 74 (.tmp 2), [], none⟩, ⟨some 32, none, .call 11 [.tmp 31], [], none⟩, ⟨some 30, none, .mov (.tmp 32), [], none⟩, ⟨some 33, none, .ext (.tmp 30) 0, [], none⟩, ⟨some 34, none, .ext (.tmp 30) 1, [], none⟩, ⟨some 5, none, .mov (.tmp 33), [], none⟩, ⟨some 6, none, .mov (.tmp 34), [], none⟩]) (.seq (.seq (.reg [⟨some 35, none, .mov (.tmp 6), [], none⟩, ⟨some 36, none, .bin .eql (.tmp 35) (.const (jn 0)), [], none⟩]) (.cond (.tmp 36) (.seq (.reg [⟨some 38, none, .mov (.tmp 5), [], none⟩, ⟨some 39, none, .call 12 [.tmp 38], [], none⟩, ⟨some 37, none, .mov (.tmp 39), [], none⟩, ⟨some 40, none, .ext (.tmp 37) 0, [], none⟩, ⟨some 41, none, .ext (.tmp 37) 1, [], none⟩, ⟨some 7, none, .alloc 74 (.st [1, 1, 71, 1] [(.lit (jn 0)), (.lit (jn 0)), (.st [1, 1, 1, 1, 1, 32, 32, 1, 1] [(.lit (jn 0)), (.lit (wn 0)), (.lit (.slice .none 0 0)), (.lit (jn 0)), (.lit (.slice .none 0 0)), (.arr 1 (List.replicate 32 (.lit (bn 0)))), (.arr 1 (List.replicate 32 (.lit (bn 0)))), (.lit (tx [])), (.lit (.slice .none 0 0))]), (.lit (.slice .none 0 0))]), [], none⟩, ⟨none, none, .store 74 (.tmp 7) (.tmp 40), [], none⟩, ⟨some 8, none, .mov (.tmp 41), [], none⟩]) (.seq (.reg [⟨some 42, none, .mov (.tmp 8), [], none⟩, ⟨some 43, none, .bin .neq (.tmp 42) (.const (jn 0)), [], none⟩, ⟨some 44, none, .mov (.tmp 43), [], none⟩, ⟨some 45, some (44, false), .load true 74 (.tmp 2), [], none⟩, ⟨some 46, some (44, false), .load true 74 (.tmp 7), [], none⟩, ⟨some 47, some (44, false), .call 13 [.tmp 45, .tmp 46], [], none⟩, ⟨some 48, some (44, false), .un .not (.tmp 47), [], none⟩, ⟨some 49, none, .pick (.tmp 44) (.const (.bool true)) (.tmp 48), [], none⟩]) (.cond (.tmp 49) (.seq (.reg [⟨some 4, none, .mov (.const (.bool false)), [], none⟩]) .ret) .skip))) .skip)) (.seq (.reg [⟨some 51, none, .mov (.tmp 1), [], none⟩, ⟨some 52, none, .call 12 [.tmp 51], [], none⟩, ⟨some 50, none, .mov (.tmp 52), [], none⟩, ⟨some 53, none, .ext (.tmp 50) 0, [], none⟩, ⟨some 54, none, .ext (.tmp 50) 1, [], none⟩, ⟨some 9, none, .alloc 74 (.st [1, 1, 71, 1] [(.lit (jn 0)), (.lit (jn 0)), (.st [1, 1, 1, 1, 1, 32, 32, 1, 1] [(.lit (jn 0)), (.lit (wn 0)), (.lit (.slice .none 0 0)), (.lit (jn 0)), (.lit (.slice .none 0 0)), (.arr 1 (List.replicate 32 (.lit (bn 0)))), (.arr 1 (List.replicate 32 (.lit (bn 0)))), (.lit (tx [])), (.lit (.slice .none 0 0))]), (.lit (.slice .none 0 0))]), [], none⟩, ⟨none, none, .store 74 (.tmp 9) (.tmp 53), [], none⟩, ⟨some 10, none, .mov (.tmp 54), [], none⟩]) (.seq (.seq (.reg [⟨some 55, none, .mov (.tmp 10), [], none⟩, ⟨some 56, none, .bin .neq (.tmp 55) (.const (jn 0)), [], none⟩]) (.cond (.tmp 56) (.seq (.reg [⟨some 57, none, .call 5 [], [], none⟩, ⟨some 58, none, .mov (.tmp 57), [], none⟩, ⟨some 59, some (58, true), .load true 74 (.tmp 9), [], none⟩, ⟨some 60, some (58, true), .build (.st [1, 1, 71, 1] [(.lit (jn 0)), (.lit (jn 0)), (.st [1, 1, 1, 1, 1, 32, 32, 1, 1] [(.lit (jn 0)), (.lit (wn 0)), (.lit (.slice .none 0 0)), (.lit (jn 0)), (.lit (.slice .none 0 0)), (.arr 1 (List.replicate 32 (.lit (bn 0)))), (.arr 1 (List.replicate 32 (.lit (bn 0)))), (.lit (tx [])), (.lit (.slice .none 0 0))]), (.lit (.slice .none 0 0))]) [], [], none⟩, ⟨some 61, some (58, true), .call 13 [.tmp 59, .tmp 60], [], none⟩, ⟨some 62, none, .pick (.tmp 58) (.tmp 61) (.const (.bool false)), [], none⟩, ⟨some 4, none, .mov (.tmp 62), [], none⟩]) .ret) .skip)) (.seq (.reg [⟨some 64, none, .load true 74 (.tmp 9), [], none⟩, ⟨some 65, none, .call 11 [.tmp 64], [], none⟩, ⟨some 63, none, .mov (.tmp 65), [], none⟩, ⟨some 66, none, .ext (.tmp 63) 0, [], none⟩, ⟨some 67, none, .ext (.tmp 63) 1, [], none⟩, ⟨some 11, none, .mov (.tmp 66), [], none⟩, ⟨some 12, none, .mov (.tmp 67), [], none⟩]) (.seq (.reg [⟨some 68, none, .call 5 [], [], none⟩, ⟨some 69, none, .mov (.tmp 68), [], none⟩, ⟨some 70, some (69, true), .mov (.tmp 12), [], none⟩, ⟨some 71, some (69, true), .bin .eql (.tmp 70) (.const (jn 0)), [], none⟩, ⟨some 72, none, .pick (.tmp 69) (.tmp 71) (.const (.bool false)), [], none⟩, ⟨some 73, none, .mov (.tmp 72), [], none⟩, ⟨some 74, some (73, true), .mov (.tmp 11), [], none⟩, ⟨some 75, some (73, true), .mov (.tmp 1), [], none⟩, ⟨some 76, some (73, true), .bin .eql (.tmp 74) (.tmp 75), [], none⟩, ⟨some 77, none, .pick (.tmp 73) (.tmp 76) (.const (.bool false)), [], none⟩, ⟨some 4, none, .mov (.tmp 77), [], none⟩]) .ret)))))))))
def fc801 : FC := ⟨2, 78, [(.tmp 4)], fb801⟩
theorem fc801_eq : compF Go.Proofs.Tryd.prog 4 = some fc801 := by kernel_rfl
attribute [local irreducible] AReg
theorem raw_ok {o : OpV} (h : OpRaw o) (hg : greatO o = false) : OpOk o := by
  unfold greatO at hg
  simp only [Bool.or_eq_false_iff, decide_eq_false_iff_not] at hg
  obtain ⟨h1, h2, h3, _, _⟩ := hg
  exact ⟨h.seq, by omega, h.p32, by omega, h.ofk, h.check, h.text, by omega, fun b hb => (h.bok b hb).1⟩
theorem numB_le5 (n : Nat) : (numB n).length ≤ 5 := by
  have h : ∀ k, (hiB n k).length ≤ 1 := fun k => by unfold hiB; split <;> simp
  have h1 := h 268435456
  have h2 := h 2097152
  have h3 := h 16384
  have h4 := h 128
  unfold numB
  simp only [List.length_append, List.length_cons, List.length_nil]
  omega
theorem flatQ_len {α : Type} {f : α → List UInt8} {c : Nat} : ∀ {l : List α}, (∀ x ∈ l, (f x).length ≤ c) → (l.flatMap f).length ≤ l.length * c
  | [], _ => by simp
  | x :: l, h => by
    have h1 := h x (by simp)
    have h2 := flatQ_len (l := l) fun y hy => h y (List.mem_cons_of_mem _ hy)
    simp only [List.flatMap_cons, List.length_append, List.length_cons]
    rw [Nat.add_mul]
    omega
theorem encOp_len {o : OpV} (w : OpW o) : (encOp o).length < 100000 := by
  have a1 := numB_le5 o.kind.toNat
  have a2 := numB_le5 o.author.toNat
  have a3 := numB_le5 o.seq
  have a4 := numB_le5 o.parents.length
  have a5 := numB_le5 (o.who.map Int.toNat).length
  have a6 := numB_le5 o.text.length
  have a7 := numB_le5 (o.boxes.map fun b => b.to.toNat).length
  have b1 := flatQ_len (f := fun k : List UInt8 => k) (c := 32) (l := o.parents) fun k hk => by rw [w.parents.2 k hk]; exact Nat.le_refl _
  have b2 := flatQ_len (f := numB) (c := 5) (l := o.who.map Int.toNat) fun k _ => numB_le5 k
  have b3 := flatQ_len (f := numB) (c := 5) (l := o.boxes.map fun b => b.to.toNat) fun k _ => numB_le5 k
  have b4 := flatQ_len (f := fun b => encRest (restOf b)) (c := 400) (l := o.boxes) fun b hb => by
    have q := w.boxes.2 b hb
    have c1 := numB_le5 b.n
    have c2 := numB_le5 b.prev
    have c3 := numB_le5 b.body.length
    have c4 := q.pub
    have c5 := q.body
    simp only [encRest, restOf, List.length_append]
    omega
  have d1 := w.parents.1
  have d2 := w.who.1
  have d3 := w.boxes.1
  have d4 := w.ofk
  have d5 := w.check
  have d6 := w.text
  rw [List.length_map] at b2 b3
  unfold encOp encKs encNs encBs encNs
  simp only [List.length_append]
  omega
theorem fr_w {f : FrameV} (hf : OpOk f.op) (h : okF f = true) : (f.kind = 1 → OpW f.op) ∧ ∀ x ∈ f.op.boxes, BoxW x := by
  obtain ⟨_, _, k3, k4⟩ := kind_of h
  refine ⟨fun hk => opW_of hf (k3 hk).1, fun x hx => ?_⟩
  by_cases hk : f.kind = 1
  · exact (opW_of hf (k3 hk).1).boxes.2 x hx
  · rw [(k4 hk).1] at hx
    simp [op0] at hx
theorem encF_len {f : FrameV} (hf : OpOk f.op) (hi : ∀ k ∈ f.ids, k.length = 32) (h : okF f = true) : (encF f).length < 1000000 := by
  have a1 := numB_le5 f.kind.toNat
  have a2 := numB_le5 f.from_.toNat
  have w := (fr_w hf h).1
  obtain ⟨_, _, _, k4⟩ := kind_of h
  unfold encF
  simp only [List.length_append]
  split
  · rename_i hk
    have := encOp_len (w hk)
    omega
  · rename_i hk
    have b1 := flatQ_len (f := fun k : List UInt8 => k) (c := 32) (l := f.ids) fun k hk => by rw [hi k hk]; exact Nat.le_refl _
    have b2 := (k4 hk).2
    have b3 := numB_le5 f.ids.length
    unfold encKs
    simp only [List.length_append]
    omega
theorem frok_of {f : FrameV} (hf : FrameOk f) (h : okF f = true) : FrOk f := by
  obtain ⟨_, _, k3, k4⟩ := kind_of h
  refine ⟨hf.op, fun b hb => ?_, hf.ids, ?_⟩
  · have := ((fr_w hf.op h).2 b hb).body
    omega
  · by_cases hk : f.kind = 1
    · rw [(k3 hk).2]; simp
    · have := (k4 hk).2; omega
theorem FrL.of {f : FrameV} (h : FrOk f) : FrL f := ⟨OpL.of h.op, h.ids, by have := h.il; omega⟩
theorem frame0_l : FrL frame0 := ⟨op0_l, by simp [frame0], by simp [frame0]⟩
theorem readF_zero {s : List UInt8} (h : (readF s).2 ≠ 0) : (readF s).1 = frame0 := by
  unfold readF at h ⊢
  simp only at h ⊢
  split
  · rfl
  · rename_i h1
    rw [if_neg h1] at h
    split
    · rename_i h2
      rw [if_pos h2] at h
      exact absurd rfl h
    · rfl
theorem fr_of_raw {f : FrameV} (h : FrRaw f) (hg : greatO f.op = false) (hl : ¬ 50 < f.ids.length) : FrOk f := ⟨raw_ok h.op hg, fun b hb => (h.op.bok b hb).2, h.ids, by omega⟩
def fbS (F : AV) (s : List UInt8) (l2 : Nat × Nat) : AS :=
  ⟨0, [.any, .lit (tx s), .ptr 2 l2 0 [], .any, .lit (.bool false)] ++ List.replicate 73 .any, [none, none, some (.box l2 74 F)] ++ List.replicate 75 none⟩
set_option maxRecDepth 20000 in
set_option maxHeartbeats 64000000 in
theorem frameBack_call {f : FrameV} (hf : FrRaw f) (s : List UInt8) : PCall Go.Proofs.Tryd.prog 4 [frameA f, .lit (tx s)] (.val (.lit (.bool true))) := by
  have h801 := fc801_eq
  have al := alF_call
  have cg := great_call ⟨hf.op.ofk, hf.op.check⟩ hf.op.text (fun b hb => (hf.op.bok b hb).2)
  have o5 := hf.op.ofk; have o6 := hf.op.check
  have z1 : (opA f.op).sz = 71 := by simp [opA, AV.sz, keyA, o5, o6]
  have z2 : (frameA f).sz = 74 := by simp [frameA, AV.sz]
  have il : (klA f.ids).length = f.ids.length := klA_len _
  refine PCall.of h801 rfl ?_; show AC.wp _ fb801 (AS.init [frameA f, .lit (tx s)] 2 78) (fun x s => match x with | .exit _ => False | _ => Fin [(.tmp 4)] s _); unfold fb801 AS.init
  refine wp_sg (areg_bx rfl (by simp only [AS.ev, AS.put]; exact z2) fun l2 => areg_end (by simp [push_cast]; exact rfl) ?_)
  refine wp_seq' (wp_seq' (wp_rg ?_))
  refine areg_ca (by simp [AS.ev, AS.coe, AS.put] <;> exact rfl) al ?_
  refine areg_end (by simp [push_cast]; exact rfl) ?_
  refine wp_cond_f rfl (wp_skip' ?_)
  refine wp_seq' (wp_seq' (wp_rg ?_))
  refine areg_run 2 (by simp [push_cast, frameA, opA, o5, o6]; exact rfl) ?_
  refine areg_ca (vs := [opA f.op]) (by simp [AS.ev, AS.coe, AS.put, opA, keyA]) cg ?_
  cases hg : greatO f.op with
  | true =>
    refine areg_end (by simp [push_cast, hg]; exact rfl) ?_
    refine wp_cond_t (by simp [AS.ev]) (wp_sg ?_)
    refine areg_ca (by simp [AS.ev, AS.coe, AS.put] <;> exact rfl) al ?_
    refine areg_end (by simp [push_cast]; exact rfl) (wp_ret' ?_)
    exact fin_tmp (by simp [RVal, AS.ev, AS.coe]) (by simp)
  | false =>
  by_cases hi : 50 < f.ids.length
  · refine areg_end (by simp [push_cast, hg, frameA, opA, o5, o6, il, hi]; exact rfl) ?_
    refine wp_cond_t (by simp [AS.ev]) (wp_sg ?_)
    refine areg_ca (by simp [AS.ev, AS.coe, AS.put] <;> exact rfl) al ?_
    refine areg_end (by simp [push_cast]; exact rfl) (wp_ret' ?_)
    exact fin_tmp (by simp [RVal, AS.ev, AS.coe]) (by simp)
  by_cases hsl : 6000 < s.length
  · refine areg_end (by simp [push_cast, hg, frameA, opA, o5, o6, il, hi, hsl]; exact rfl) ?_
    refine wp_cond_t (by simp [AS.ev]) (wp_sg ?_)
    refine areg_ca (by simp [AS.ev, AS.coe, AS.put] <;> exact rfl) al ?_
    refine areg_end (by simp [push_cast]; exact rfl) (wp_ret' ?_)
    exact fin_tmp (by simp [RVal, AS.ev, AS.coe]) (by simp)
  refine areg_end (by simp [push_cast, hg, frameA, opA, o5, o6, il, hi, hsl]; exact rfl) ?_
  refine wp_cond_f (by simp [AS.ev]) (wp_skip' ?_)
  have fo := fr_of_raw hf hg hi
  have cw : ∃ w e, PCall Go.Proofs.Tryd.prog 11 [frameA f] (.val (.tup [.lit (tx w), .lit (jn e)])) ∧ ((okF f = true ∧ w = encF f ∧ e = 0) ∨ e = 1) := by
    have c := write_call fo
    by_cases hok : okF f = true
    · rw [if_pos hok] at c
      exact ⟨_, _, c, .inl ⟨hok, rfl, rfl⟩⟩
    · rw [if_neg hok] at c
      exact ⟨_, _, c, .inr rfl⟩
  obtain ⟨w, e, cw, hwe⟩ := cw
  have F1 : (frameA f).isAgg = true := rfl
  have F2 : (frameA f).isTup = false := rfl
  have hs2 : s.length < 1000000 := by omega
  have cr := read_call hs2
  have hG : FrL (readF s).1 := by
    by_cases he : (readF s).2 = 0
    · have hp : readF s = ((readF s).1, 0) := by rw [← he]
      obtain ⟨r1, r2, _⟩ := read_write hp
      exact FrL.of (frok_of r2 r1)
    · rw [readF_zero he]; exact frame0_l
  have G0 : (frameA (readF s).1).sz = 74 := by
    have g5 := hG.op.ofk; have g6 := hG.op.check
    simp [frameA, opA, AV.sz, keyA, g5, g6]
  refine wp_seqM (fun _ : Unit => ⟨0, [.any, .lit (tx s), .ptr 2 l2 0 [], .any, .lit (.bool false), .lit (tx w), .lit (jn e)] ++ List.replicate 71 .any, [none, none, some (.box l2 74 (frameA f))] ++ List.replicate 75 none⟩) (fun _ => True) (fun _ _ => ?_) ?_
  rotate_left
  · refine wp_rg ?_
    refine areg_run 1 (by simp [push_cast, frameA, opA, o5, o6]; exact rfl) ?_
    refine areg_ca (vs := [frameA f]) (by simp [AS.ev, AS.coe, AS.put, frameA, opA, keyA]) cw ?_
    refine areg_end (by simp [push_cast]; exact rfl) ?_
    exact ⟨(), trivial, Le.mk rfl (by simp [leT]) (by simp [leH, frameA, opA, keyA])⟩
  refine wp_seqM (fun _ : Unit => fbS (frameA f) s l2) (fun _ => True) (fun _ _ => ?_) ?_
  rotate_left
  · rcases hwe with ⟨hok, rfl, rfl⟩ | rfl
    · have cr1 := read_call (encF_len fo.op fo.ids hok)
      rw [write_read ⟨fo.op, fo.ids⟩ hok] at cr1
      simp only at cr1
      have cs := sameF_call (FrL.of fo) (FrL.of fo) (.inl rfl) (fun x hx => .inl ((fr_w fo.op hok).2 x hx))
      rw [decide_eq_true rfl] at cs
      refine wp_seq' (wp_r (by simp [push_cast]; exact rfl) ?_)
      refine wp_cond_t (by simp [AS.ev]) (wp_sg ?_)
      refine areg_run 1 (by simp [push_cast]; exact rfl) ?_
      refine areg_ca (by simp [AS.ev, AS.coe, AS.put] <;> exact rfl) cr1 ?_
      refine areg_run 3 (by simp [push_cast]; exact rfl) ?_
      refine areg_al' (z' := z0F) rfl fun l7 => areg_end (by simp [push_cast, z0F, z0A, zk_len, z2, F1, F2]; exact rfl) ?_
      refine wp_seq' (wp_rg ?_)
      refine areg_run 3 (by simp [push_cast]; exact rfl) ?_
      refine areg_run 1 (by simp [push_cast, z2]; exact rfl) ?_
      refine areg_run 1 (by simp [push_cast, z2]; exact rfl) ?_
      refine areg_g (by simp [AS.ev, AS.put]) (areg_ca (by simp [AS.ev, AS.coe, AS.put, frameA, z0F]) cs ?_)
      refine areg_end (by simp [push_cast]; exact rfl) ?_
      refine wp_cond_f (by simp [AS.ev]) (wp_skip' ?_)
      exact ⟨(), trivial, Le.mk rfl (by simp [fbS, leT]) (by simp [fbS, leH])⟩
    · refine wp_seq' (wp_r (by simp [push_cast]; exact rfl) ?_)
      refine wp_cond_f (by simp [AS.ev]) (wp_skip' ?_)
      exact ⟨(), trivial, Le.mk rfl (by simp [fbS, leT]) (by simp [fbS, leH])⟩
  unfold fbS
  clear cw hwe cg
  obtain ⟨g, e2, hg2⟩ : ∃ g e2, readF s = (g, e2) := ⟨_, _, rfl⟩
  have hgz := readF_zero (s := s)
  have hrw := fun f h => read_write (s := s) (f := f) h
  rw [hg2] at cr hG G0 hgz hrw
  simp only at cr hG G0 hgz
  have G1 : (frameA g).isAgg = true := rfl
  have G2 : (frameA g).isTup = false := rfl
  refine wp_sg ?_
  refine areg_run 1 (by simp [push_cast]; exact rfl) ?_
  refine areg_ca (by simp [AS.ev, AS.coe, AS.put] <;> exact rfl) cr ?_
  refine areg_run 3 (by simp [push_cast]; exact rfl) ?_
  refine areg_al' (z' := z0F) rfl fun l9 => areg_end (by simp [push_cast, z0F, z0A, zk_len, G0, G1, G2]; exact rfl) ?_
  refine wp_seq' ?_
  by_cases he : e2 = 0
  · subst he
    obtain ⟨w1, w2, w3⟩ := hrw g rfl
    have cw := write_call (frok_of w2 w1)
    rw [if_pos w1, w3] at cw
    refine wp_seq' (wp_r (by simp [push_cast]; exact rfl) ?_)
    refine wp_cond_f (by simp [AS.ev]) (wp_skip' ?_)
    refine wp_sg ?_
    refine areg_run 1 (by simp [push_cast, G0, G1, G2]; exact rfl) ?_
    refine areg_ca (by simp [AS.ev, AS.coe, AS.put] <;> exact rfl) cw ?_
    refine areg_end (by simp [push_cast]; exact rfl) ?_
    refine wp_sg ?_
    refine areg_ca (by simp [AS.ev, AS.coe, AS.put] <;> exact rfl) al ?_
    refine areg_end (by simp [push_cast]; exact rfl) (wp_ret' ?_)
    exact fin_tmp (by simp [RVal, AS.ev, AS.coe]) (by simp)
  · have hz := hgz he
    subst hz
    have cs := PCall.args (l := [frameA frame0, z0F]) (m := [frameA frame0, frameA frame0]) ⟨RelLe.refl _, RelLe.st z0F_le, trivial⟩ (sameF_call frame0_l frame0_l (.inl rfl) (by simp [frame0, op0]))
    rw [decide_eq_true rfl] at cs
    refine wp_seq' (wp_r (by simp [push_cast, he]; exact rfl) ?_)
    refine wp_cond_t (by simp [AS.ev, he]) (wp_sg ?_)
    refine areg_ca (by simp [AS.ev, AS.coe, AS.put] <;> exact rfl) al ?_
    refine areg_run 1 (by simp [push_cast, G0]; exact rfl) ?_
    refine areg_run 1 (by simp [push_cast, G0]; exact rfl) ?_
    refine areg_g (by simp [AS.ev, AS.put]) (areg_bd (z' := z0F) rfl ?_)
    refine areg_g (by simp [AS.ev, AS.put]) (areg_ca (by simp [AS.ev, AS.coe, AS.put, frameA, z0F]) cs ?_)
    refine areg_end (by simp [push_cast]; exact rfl) (wp_ret' ?_)
    exact fin_tmp (by simp [RVal, AS.ev, AS.coe]) (by simp)
end Go.Cab
namespace Go.Cab
open Go.RowKit
open Classical
def fb870 : AC := (.seq (.reg [⟨some 2, none, .box 71 (.tmp 0), [], none⟩, ⟨some 3, none, .box 71 (.tmp 1), [], none⟩, ⟨some 4, none, .mov (.const (.bool false)), [], none⟩]) (.seq (.seq (.reg [⟨some 8, none, .faddr 0 0 (.tmp 2), [], none⟩, ⟨some 9, none, .load false 1 (.tmp 8), [], none⟩, ⟨some 10, none, .faddr 0 0 (.tmp 3), [], none⟩, ⟨some 11, none, .load false 1 (.tmp 10), [], none⟩, ⟨some 12, none, .bin .neq (.tmp 9) (.tmp 11), [], none⟩, ⟨some 13, none, .mov (.tmp 12), [], none⟩, ⟨some 14, some (13, false), .faddr 1 1 (.tmp 2), [], none⟩, ⟨some 15, some (13, false), .load false 1 (.tmp 14), [], none⟩, ⟨some 16, some (13, false), .faddr 1 1 (.tmp 3), [], none⟩, ⟨some 17, some (13, false), .load false 1 (.tmp 16), [], none⟩, ⟨some 18, some (13, false), .bin .neq (.tmp 15) (.tmp 17), [], none⟩, ⟨some 19, none, .pick (.tmp 13) (.const (.bool true)) (.tmp 18), [], none⟩, ⟨some 20, none, .mov (.tmp 19), [], none⟩, ⟨some 21, some (20, false), .faddr 3 3 (.tmp 2), [], none⟩, ⟨some 22, some (20, false), .load false 1 (.tmp 21), [], none⟩, ⟨some 23, some (20, false), .faddr 3 3 (.tmp 3), [], none⟩, ⟨some 24, some (20, false), .load false 1 (.tmp 23), [], none⟩, ⟨some 25, some (20, false), .bin .neq (.tmp 22) (.tmp 24), [], none⟩, ⟨some 26, none, .pick (.tmp 20) (.const (.bool true)) (.tmp 25), [], none⟩, ⟨some 27, none, .mov (.tmp 26), [], none⟩, ⟨some 28, some (27, false), .faddr 5 5 (.tmp 2), [], none⟩, ⟨some 29, some (27, false), .load true 32 (.tmp 28), [], none⟩, ⟨some 30, some (27, false), .faddr 5 5 (.tmp 3), [], none⟩, ⟨some 31, some (27, false), .load true 32 (.tmp 30), [], none⟩, ⟨some 32, some (27, false), .eqv 26 true (.tmp 29) (.tmp 31), [], none⟩, ⟨some 33, none, .pick (.tmp 27) (.const (.bool true)) (.tmp 32), [], none⟩, ⟨some 34, none, .mov (.tmp 33), [], none⟩, ⟨some 35, some (34, false), .faddr 37 6 (.tmp 2), [], none⟩, ⟨some 36, some (34, false), .load true 32 (.tmp 35), [], none⟩, ⟨some 37, some (34, false), .faddr 37 6 (.tmp 3), [], none⟩, ⟨some 38, some (34, false), .load true 32 (.tmp 37), [], none⟩, ⟨some 39, some (34, false), .eqv 26 true (.tmp 36) (.tmp 38), [], none⟩, ⟨some 40, none, .pick (.tmp 34) (.const (.bool true)) (.tmp 39), [], none⟩, ⟨some 41, none, .mov (.tmp 40), [], none⟩, ⟨some 42, some (41, false), .faddr 69 7 (.tmp 2), [], none⟩, ⟨some 43, some (41, false), .load false 1 (.tmp 42), [], none⟩, ⟨some 44, some (41, false), .faddr 69 7 (.tmp 3), [], none⟩, ⟨some 45, some (41, false), .load false 1 (.tmp 44), [], none⟩, ⟨some 46, some (41, false), .bin .neq (.tmp 43) (.tmp 45), [], none⟩, ⟨some 47, none, .pick (.tmp 41) (.const (.bool true)) (.tmp 46), [], none⟩, ⟨some 48, none, .mov (.tmp 47), [], none⟩, ⟨some 49, some (48, false), .faddr 2 2 (.tmp 2), [], none⟩, ⟨some 50, some (48, false), .load false 1 (.tmp 49), [], none⟩, ⟨some 51, some (48, false), .len false (.tmp 50), [], none⟩, ⟨some 52, some (48, false), .faddr 2 2 (.tmp 3), [], none⟩, ⟨some 53, some (48, false), .load false 1 (.tmp 52), [], none⟩, ⟨some 54, some (48, false), .len false (.tmp 53), [], none⟩, ⟨some 55, some (48, false), .bin .neq (.tmp 51) (.tmp 54), [], none⟩, ⟨some 56, none, .pick (.tmp 48) (.const (.bool true)) (.tmp 55), [], none⟩, ⟨some 57, none, .mov (.tmp 56), [], none⟩, ⟨some 58, some (57, false), .faddr 4 4 (.tmp 2), [], none⟩, ⟨some 59, some (57, false), .load false 1 (.tmp 58), [], none⟩, ⟨some 60, some (57, false), .len false (.tmp 59), [], none⟩, ⟨some 61, some (57, false), .faddr 4 4 (.tmp 3), [], none⟩, ⟨some 62, some (57, false), .load false 1 (.tmp 61), [], none⟩, ⟨some 63, some (57, false), .len false (.tmp 62), [], none⟩, ⟨some 64, some (57, false), .bin .neq (.tmp 60) (.tmp 63), [], none⟩, ⟨some 65, none, .pick (.tmp 57) (.const (.bool true)) (.tmp 64), [], none⟩, ⟨some 66, none, .mov (.tmp 65), [], none⟩, ⟨some 67, some (66, false), .faddr 70 8 (.tmp 2), [], none⟩, ⟨some 68, some (66, false), .load false 1 (.tmp 67), [], none⟩, ⟨some 69, some (66, false), .len false (.tmp 68), [], none⟩, ⟨some 70, some (66, false), .faddr 70 8 (.tmp 3), [], none⟩, ⟨some 71, some (66, false), .load false 1 (.tmp 70), [], none⟩, ⟨some 72, some (66, false), .len false (.tmp 71), [], none⟩, ⟨some 73, some (66, false), .bin .neq (.tmp 69) (.tmp 72), [], none⟩, ⟨some 74, none, .pick (.tmp 66) (.const (.bool true)) (.tmp 73), [], none⟩]) (.cond (.tmp 74) (.seq (.reg [⟨some 4, none, .mov (.const (.bool false)), [], none⟩]) .ret) .skip)) (.seq (.seq (.reg [⟨some 5, none, .mov (.const (jn 0)), [], none⟩]) (.block 0 (.loop (.seq (.seq (.reg [⟨some 75, none, .mov (.tmp 5), [], none⟩, ⟨some 76, none, .faddr 2 2 (.tmp 2), [], none⟩, ⟨some 77, none, .load false 1 (.tmp 76), [], none⟩, ⟨some 78, none, .len false (.tmp 77), [], none⟩, ⟨some 79, none, .bin .lss (.tmp 75) (.tmp 78), [], none⟩]) (.cond (.tmp 79) .skip (.exit 0))) (.seq (.block 1 (.seq (.reg [⟨some 82, none, .faddr 2 2 (.tmp 2), [], none⟩, ⟨some 83, none, .load false 1 (.tmp 82), [], none⟩, ⟨some 84, none, .mov (.tmp 5), [], none⟩, ⟨some 85, none, .iaddrS 32 (.tmp 83) (.tmp 84), [], none⟩, ⟨some 86, none, .load true 32 (.tmp 85), [], none⟩, ⟨some 87, none, .faddr 2 2 (.tmp 3), [], none⟩, ⟨some 88, none, .load false 1 (.tmp 87), [], none⟩, ⟨some 89, none, .mov (.tmp 5), [], none⟩, ⟨some 90, none, .iaddrS 32 (.tmp 88) (.tmp 89), [], none⟩, ⟨some 91, none, .load true 32 (.tmp 90), [], none⟩, ⟨some 92, none, .eqv 26 true (.tmp 86) (.tmp 91), [], none⟩]) (.cond (.tmp 92) (.seq (.reg [⟨some 4, none, .mov (.const (.bool false)), [], none⟩]) .ret) .skip))) (.reg [⟨some 80, none, .mov (.tmp 5), [], none⟩, ⟨some 81, none, .bin .add (.tmp 80) (.const (jn 1)), [], none⟩, ⟨some 5, none, .mov (.tmp 81), [], none⟩])))))) (.seq (.seq (.reg [⟨some 6, none, .mov (.const (jn 0)), [], none⟩]) (.block 2 (.loop (.seq (.seq (.reg [⟨some 93, none, .mov (.tmp 6), [], none⟩, ⟨some 94, none, .faddr 4 4 (.tmp 2), [], none⟩, ⟨some 95, none, .load false 1 (.tmp 94), [], none⟩, ⟨some 96, none, .len false (.tmp 95), [], none⟩, ⟨some 97, none, .bin .lss (.tmp 93) (.tmp 96), [], none⟩]) (.cond (.tmp 97) .skip (.exit 2))) (.seq (.block 3 (.seq (.reg [⟨some 100, none, .faddr 4 4 (.tmp 2), [], none⟩, ⟨some 101, none, .load false 1 (.tmp 100), [], none⟩, ⟨some 102, none, .mov (.tmp 6), [], none⟩, ⟨some 103, none, .iaddrS 1 (.tmp 101) (.tmp 102), [], none⟩, ⟨some 104, none, .load false 1 (.tmp 103), [], none⟩, ⟨some 105, none, .faddr 4 4 (.tmp 3), [], none⟩, ⟨some 106, none, .load false 1 (.tmp 105), [], none⟩, ⟨some 107, none, .mov (.tmp 6), [], none⟩, ⟨some 108, none, .iaddrS 1 (.tmp 106) (.tmp 107), [], none⟩, ⟨some 109, none, .load false 1 (.tmp 108), [], none⟩, ⟨some 110, none, .bin .neq (.tmp 104) (.tmp 109), [], none⟩]) (.cond (.tmp 110) (.seq (.reg [⟨some 4, none, .mov (.const (.bool false)), [], none⟩]) .ret) .skip))) (.reg [⟨some 98, none, .mov (.tmp 6), [], none⟩, ⟨some 99, none, .bin .add (.tmp 98) (.const (jn 1)), [], none⟩, ⟨some 6, none, .mov (.tmp 99), [], none⟩])))))) (.seq (.seq (.reg [⟨some 7, none, .mov (.const (jn 0)), [], none⟩]) (.block 4 (.loop (.seq (.seq (.reg [⟨some 111, none, .mov (.tmp 7), [], none⟩, ⟨some 112, none, .faddr 70 8 (.tmp 2), [], none⟩, ⟨some 113, none, .load false 1 (.tmp 112), [], none⟩, ⟨some 114, none, .len false (.tmp 113), [], none⟩, ⟨some 115, none, .bin .lss (.tmp 111) (.tmp 114), [], none⟩]) (.cond (.tmp 115) .skip (.exit 4))) (.seq (.block 5 (.seq (.reg [⟨some 118, none, .faddr 70 8 (.tmp 2), [], none⟩, ⟨some 119, none, .load false 1 (.tmp 118), [], none⟩, ⟨some 120, none, .mov (.tmp 7), [], none⟩, ⟨some 121, none, .iaddrS 36 (.tmp 119) (.tmp 120), [], none⟩, ⟨some 122, none, .load true 36 (.tmp 121), [], none⟩, ⟨some 123, none, .faddr 70 8 (.tmp 3), [], none⟩, ⟨some 124, none, .load false 1 (.tmp 123), [], none⟩, ⟨some 125, none, .mov (.tmp 7), [], none⟩, ⟨some 126, none, .iaddrS 36 (.tmp 124) (.tmp 125), [], none⟩, ⟨some 127, none, .load true 36 (.tmp 126), [], none⟩, ⟨some 128, none, .eqv 51 true (.tmp 122) (.tmp 127), [], none⟩]) (.cond (.tmp 128) (.seq (.reg [⟨some 4, none, .mov (.const (.bool false)), [], none⟩]) .ret) .skip))) (.reg [⟨some 116, none, .mov (.tmp 7), [], none⟩, ⟨some 117, none, .bin .add (.tmp 116) (.const (jn 1)), [], none⟩, ⟨some 7, none, .mov (.tmp 117), [], none⟩])))))) (.seq (.reg [⟨some 4, none, .mov (.const (.bool true)), [], none⟩]) .ret))))))
def fc870 : FC := ⟨2, 129, [(.tmp 4)], fb870⟩
theorem fc870_eq : compF Go.Proofs.Tryd.prog 10 = some fc870 := by kernel_rfl
attribute [local irreducible] AReg
def sdA (A B : AV) (l2 l3 : Nat × Nat) (v : List AV) (n : Nat) : AS :=
  ⟨0, [.any, .any, .ptr 2 l2 0 [], .ptr 3 l3 0 [], .lit (.bool false)] ++ v ++ List.replicate n .any, [none, none, some (.box l2 71 A), some (.box l3 71 B)] ++ List.replicate 125 none⟩
set_option maxRecDepth 20000 in
set_option maxHeartbeats 32000000 in
theorem sameD_no1 {a b : OpV} (ha : OpL a) (hb : OpL b) (ha0 : a.boxes = []) (hb0 : b.boxes = [])  (n1 : ¬ a.author = b.author) :
    PCall Go.Proofs.Tryd.prog 10 [opA a, opA b] (.val (.lit (.bool false))) := by
  have h870 := fc870_eq
  have a5 := ha.ofk; have a6 := ha.check; have b5 := hb.ofk; have b6 := hb.check
  have e5 := eq_key a5 b5
  have e6 := eq_key a6 b6
  have p32 := ha.p32; have r32 := hb.p32; have pl := ha.pl; have wl := ha.wl
  have hA : opA a = .st [1, 1, 1, 1, 1, 32, 32, 1, 1] [.lit (ji a.author), .lit (wn a.seq), .sl 32 (a.parents.map fun x => keyA x), .lit (ji a.kind), .sl 1 (a.who.map fun x => AV.lit (ji x)), keyA a.ofk, keyA a.check, .lit (tx a.text), .sl 36 []] := by unfold opA; rw [ha0]; rfl
  have hB : opA b = .st [1, 1, 1, 1, 1, 32, 32, 1, 1] [.lit (ji b.author), .lit (wn b.seq), .sl 32 (b.parents.map fun x => keyA x), .lit (ji b.kind), .sl 1 (b.who.map fun x => AV.lit (ji x)), keyA b.ofk, keyA b.check, .lit (tx b.text), .sl 36 []] := by unfold opA; rw [hb0]; rfl
  rw [hA, hB]
  have lx : (a.parents.map fun x => keyA x).length = a.parents.length := List.length_map _
  have ly : (b.parents.map fun x => keyA x).length = b.parents.length := List.length_map _
  have gx : ∀ (i : Nat) (x : (List UInt8)), a.parents[i]? = some x → (a.parents.map fun x => keyA x)[i]? = some (keyA x) := fun i x h => by rw [List.getElem?_map, h]; rfl
  have gy : ∀ (i : Nat) (x : (List UInt8)), b.parents[i]? = some x → (b.parents.map fun x => keyA x)[i]? = some (keyA x) := fun i x h => by rw [List.getElem?_map, h]; rfl
  have lu : (a.who.map fun x => AV.lit (ji x)).length = a.who.length := List.length_map _
  have lv : (b.who.map fun x => AV.lit (ji x)).length = b.who.length := List.length_map _
  have gu : ∀ (i : Nat) (x : Int), a.who[i]? = some x → (a.who.map fun x => AV.lit (ji x))[i]? = some (.lit (ji x)) := fun i x h => by rw [List.getElem?_map, h]; rfl
  have gv : ∀ (i : Nat) (x : Int), b.who[i]? = some x → (b.who.map fun x => AV.lit (ji x))[i]? = some (.lit (ji x)) := fun i x h => by rw [List.getElem?_map, h]; rfl
  generalize (a.parents.map fun x => keyA x) = T1 at *
  generalize (b.parents.map fun x => keyA x) = T2 at *
  generalize (a.who.map fun x => AV.lit (ji x)) = W1 at *
  generalize (b.who.map fun x => AV.lit (ji x)) = W2 at *
  refine PCall.of h870 rfl ?_; show AC.wp _ fb870 (AS.init [.st [1, 1, 1, 1, 1, 32, 32, 1, 1] [.lit (ji a.author), .lit (wn a.seq), .sl 32 T1, .lit (ji a.kind), .sl 1 W1, keyA a.ofk, keyA a.check, .lit (tx a.text), .sl 36 []], .st [1, 1, 1, 1, 1, 32, 32, 1, 1] [.lit (ji b.author), .lit (wn b.seq), .sl 32 T2, .lit (ji b.kind), .sl 1 W2, keyA b.ofk, keyA b.check, .lit (tx b.text), .sl 36 []]] 2 129) (fun x s => match x with | .exit _ => False | _ => Fin [(.tmp 4)] s _); unfold fb870 AS.init
  refine wp_sg (areg_bx rfl (by simp [AS.ev, AV.sz, keyA, bl_len, a5, a6]) fun l2 => areg_bx rfl (by simp [AS.ev, AS.put, AV.sz, keyA, bl_len, b5, b6]) fun l3 => areg_end (by simp [push_cast]; exact rfl) ?_)
  refine wp_seq' (wp_seq' (wp_rg ?_))
  refine areg_end (by simp [push_cast, bin_neqii, bin_neqw, n1, a5, a6, b5, b6]; exact rfl) ?_
  refine wp_cond_t (by simp [AS.ev]) (wp_sr (by simp [push_cast]; exact rfl) (wp_ret' ?_))
  exact fin_tmp (by simp [RVal, AS.ev, AS.coe]) (by simp)
set_option maxRecDepth 20000 in
set_option maxHeartbeats 32000000 in
theorem sameD_no2 {a b : OpV} (ha : OpL a) (hb : OpL b) (ha0 : a.boxes = []) (hb0 : b.boxes = []) (h1 : a.author = b.author) (n2 : ¬ a.seq = b.seq) :
    PCall Go.Proofs.Tryd.prog 10 [opA a, opA b] (.val (.lit (.bool false))) := by
  have h870 := fc870_eq
  have a5 := ha.ofk; have a6 := ha.check; have b5 := hb.ofk; have b6 := hb.check
  have e5 := eq_key a5 b5
  have e6 := eq_key a6 b6
  have p32 := ha.p32; have r32 := hb.p32; have pl := ha.pl; have wl := ha.wl
  have hA : opA a = .st [1, 1, 1, 1, 1, 32, 32, 1, 1] [.lit (ji a.author), .lit (wn a.seq), .sl 32 (a.parents.map fun x => keyA x), .lit (ji a.kind), .sl 1 (a.who.map fun x => AV.lit (ji x)), keyA a.ofk, keyA a.check, .lit (tx a.text), .sl 36 []] := by unfold opA; rw [ha0]; rfl
  have hB : opA b = .st [1, 1, 1, 1, 1, 32, 32, 1, 1] [.lit (ji b.author), .lit (wn b.seq), .sl 32 (b.parents.map fun x => keyA x), .lit (ji b.kind), .sl 1 (b.who.map fun x => AV.lit (ji x)), keyA b.ofk, keyA b.check, .lit (tx b.text), .sl 36 []] := by unfold opA; rw [hb0]; rfl
  rw [hA, hB]
  have lx : (a.parents.map fun x => keyA x).length = a.parents.length := List.length_map _
  have ly : (b.parents.map fun x => keyA x).length = b.parents.length := List.length_map _
  have gx : ∀ (i : Nat) (x : (List UInt8)), a.parents[i]? = some x → (a.parents.map fun x => keyA x)[i]? = some (keyA x) := fun i x h => by rw [List.getElem?_map, h]; rfl
  have gy : ∀ (i : Nat) (x : (List UInt8)), b.parents[i]? = some x → (b.parents.map fun x => keyA x)[i]? = some (keyA x) := fun i x h => by rw [List.getElem?_map, h]; rfl
  have lu : (a.who.map fun x => AV.lit (ji x)).length = a.who.length := List.length_map _
  have lv : (b.who.map fun x => AV.lit (ji x)).length = b.who.length := List.length_map _
  have gu : ∀ (i : Nat) (x : Int), a.who[i]? = some x → (a.who.map fun x => AV.lit (ji x))[i]? = some (.lit (ji x)) := fun i x h => by rw [List.getElem?_map, h]; rfl
  have gv : ∀ (i : Nat) (x : Int), b.who[i]? = some x → (b.who.map fun x => AV.lit (ji x))[i]? = some (.lit (ji x)) := fun i x h => by rw [List.getElem?_map, h]; rfl
  generalize (a.parents.map fun x => keyA x) = T1 at *
  generalize (b.parents.map fun x => keyA x) = T2 at *
  generalize (a.who.map fun x => AV.lit (ji x)) = W1 at *
  generalize (b.who.map fun x => AV.lit (ji x)) = W2 at *
  refine PCall.of h870 rfl ?_; show AC.wp _ fb870 (AS.init [.st [1, 1, 1, 1, 1, 32, 32, 1, 1] [.lit (ji a.author), .lit (wn a.seq), .sl 32 T1, .lit (ji a.kind), .sl 1 W1, keyA a.ofk, keyA a.check, .lit (tx a.text), .sl 36 []], .st [1, 1, 1, 1, 1, 32, 32, 1, 1] [.lit (ji b.author), .lit (wn b.seq), .sl 32 T2, .lit (ji b.kind), .sl 1 W2, keyA b.ofk, keyA b.check, .lit (tx b.text), .sl 36 []]] 2 129) (fun x s => match x with | .exit _ => False | _ => Fin [(.tmp 4)] s _); unfold fb870 AS.init
  refine wp_sg (areg_bx rfl (by simp [AS.ev, AV.sz, keyA, bl_len, a5, a6]) fun l2 => areg_bx rfl (by simp [AS.ev, AS.put, AV.sz, keyA, bl_len, b5, b6]) fun l3 => areg_end (by simp [push_cast]; exact rfl) ?_)
  refine wp_seq' (wp_seq' (wp_rg ?_))
  refine areg_end (by simp [push_cast, bin_neqii, bin_neqw, h1, n2, a5, a6, b5, b6]; exact rfl) ?_
  refine wp_cond_t (by simp [AS.ev]) (wp_sr (by simp [push_cast]; exact rfl) (wp_ret' ?_))
  exact fin_tmp (by simp [RVal, AS.ev, AS.coe]) (by simp)
set_option maxRecDepth 20000 in
set_option maxHeartbeats 32000000 in
theorem sameD_no3 {a b : OpV} (ha : OpL a) (hb : OpL b) (ha0 : a.boxes = []) (hb0 : b.boxes = []) (h1 : a.author = b.author) (h2 : a.seq = b.seq) (n3 : ¬ a.kind = b.kind) :
    PCall Go.Proofs.Tryd.prog 10 [opA a, opA b] (.val (.lit (.bool false))) := by
  have h870 := fc870_eq
  have a5 := ha.ofk; have a6 := ha.check; have b5 := hb.ofk; have b6 := hb.check
  have e5 := eq_key a5 b5
  have e6 := eq_key a6 b6
  have p32 := ha.p32; have r32 := hb.p32; have pl := ha.pl; have wl := ha.wl
  have hA : opA a = .st [1, 1, 1, 1, 1, 32, 32, 1, 1] [.lit (ji a.author), .lit (wn a.seq), .sl 32 (a.parents.map fun x => keyA x), .lit (ji a.kind), .sl 1 (a.who.map fun x => AV.lit (ji x)), keyA a.ofk, keyA a.check, .lit (tx a.text), .sl 36 []] := by unfold opA; rw [ha0]; rfl
  have hB : opA b = .st [1, 1, 1, 1, 1, 32, 32, 1, 1] [.lit (ji b.author), .lit (wn b.seq), .sl 32 (b.parents.map fun x => keyA x), .lit (ji b.kind), .sl 1 (b.who.map fun x => AV.lit (ji x)), keyA b.ofk, keyA b.check, .lit (tx b.text), .sl 36 []] := by unfold opA; rw [hb0]; rfl
  rw [hA, hB]
  have lx : (a.parents.map fun x => keyA x).length = a.parents.length := List.length_map _
  have ly : (b.parents.map fun x => keyA x).length = b.parents.length := List.length_map _
  have gx : ∀ (i : Nat) (x : (List UInt8)), a.parents[i]? = some x → (a.parents.map fun x => keyA x)[i]? = some (keyA x) := fun i x h => by rw [List.getElem?_map, h]; rfl
  have gy : ∀ (i : Nat) (x : (List UInt8)), b.parents[i]? = some x → (b.parents.map fun x => keyA x)[i]? = some (keyA x) := fun i x h => by rw [List.getElem?_map, h]; rfl
  have lu : (a.who.map fun x => AV.lit (ji x)).length = a.who.length := List.length_map _
  have lv : (b.who.map fun x => AV.lit (ji x)).length = b.who.length := List.length_map _
  have gu : ∀ (i : Nat) (x : Int), a.who[i]? = some x → (a.who.map fun x => AV.lit (ji x))[i]? = some (.lit (ji x)) := fun i x h => by rw [List.getElem?_map, h]; rfl
  have gv : ∀ (i : Nat) (x : Int), b.who[i]? = some x → (b.who.map fun x => AV.lit (ji x))[i]? = some (.lit (ji x)) := fun i x h => by rw [List.getElem?_map, h]; rfl
  generalize (a.parents.map fun x => keyA x) = T1 at *
  generalize (b.parents.map fun x => keyA x) = T2 at *
  generalize (a.who.map fun x => AV.lit (ji x)) = W1 at *
  generalize (b.who.map fun x => AV.lit (ji x)) = W2 at *
  refine PCall.of h870 rfl ?_; show AC.wp _ fb870 (AS.init [.st [1, 1, 1, 1, 1, 32, 32, 1, 1] [.lit (ji a.author), .lit (wn a.seq), .sl 32 T1, .lit (ji a.kind), .sl 1 W1, keyA a.ofk, keyA a.check, .lit (tx a.text), .sl 36 []], .st [1, 1, 1, 1, 1, 32, 32, 1, 1] [.lit (ji b.author), .lit (wn b.seq), .sl 32 T2, .lit (ji b.kind), .sl 1 W2, keyA b.ofk, keyA b.check, .lit (tx b.text), .sl 36 []]] 2 129) (fun x s => match x with | .exit _ => False | _ => Fin [(.tmp 4)] s _); unfold fb870 AS.init
  refine wp_sg (areg_bx rfl (by simp [AS.ev, AV.sz, keyA, bl_len, a5, a6]) fun l2 => areg_bx rfl (by simp [AS.ev, AS.put, AV.sz, keyA, bl_len, b5, b6]) fun l3 => areg_end (by simp [push_cast]; exact rfl) ?_)
  refine wp_seq' (wp_seq' (wp_rg ?_))
  refine areg_end (by simp [push_cast, bin_neqii, bin_neqw, h1, h2, n3, a5, a6, b5, b6]; exact rfl) ?_
  refine wp_cond_t (by simp [AS.ev]) (wp_sr (by simp [push_cast]; exact rfl) (wp_ret' ?_))
  exact fin_tmp (by simp [RVal, AS.ev, AS.coe]) (by simp)
set_option maxRecDepth 20000 in
set_option maxHeartbeats 32000000 in
theorem sameD_no4 {a b : OpV} (ha : OpL a) (hb : OpL b) (ha0 : a.boxes = []) (hb0 : b.boxes = []) (h1 : a.author = b.author) (h2 : a.seq = b.seq) (h3 : a.kind = b.kind) (n4 : ¬ a.ofk = b.ofk) :
    PCall Go.Proofs.Tryd.prog 10 [opA a, opA b] (.val (.lit (.bool false))) := by
  have h870 := fc870_eq
  have a5 := ha.ofk; have a6 := ha.check; have b5 := hb.ofk; have b6 := hb.check
  have e5 := eq_key a5 b5
  have e6 := eq_key a6 b6
  have p32 := ha.p32; have r32 := hb.p32; have pl := ha.pl; have wl := ha.wl
  have hA : opA a = .st [1, 1, 1, 1, 1, 32, 32, 1, 1] [.lit (ji a.author), .lit (wn a.seq), .sl 32 (a.parents.map fun x => keyA x), .lit (ji a.kind), .sl 1 (a.who.map fun x => AV.lit (ji x)), keyA a.ofk, keyA a.check, .lit (tx a.text), .sl 36 []] := by unfold opA; rw [ha0]; rfl
  have hB : opA b = .st [1, 1, 1, 1, 1, 32, 32, 1, 1] [.lit (ji b.author), .lit (wn b.seq), .sl 32 (b.parents.map fun x => keyA x), .lit (ji b.kind), .sl 1 (b.who.map fun x => AV.lit (ji x)), keyA b.ofk, keyA b.check, .lit (tx b.text), .sl 36 []] := by unfold opA; rw [hb0]; rfl
  rw [hA, hB]
  have lx : (a.parents.map fun x => keyA x).length = a.parents.length := List.length_map _
  have ly : (b.parents.map fun x => keyA x).length = b.parents.length := List.length_map _
  have gx : ∀ (i : Nat) (x : (List UInt8)), a.parents[i]? = some x → (a.parents.map fun x => keyA x)[i]? = some (keyA x) := fun i x h => by rw [List.getElem?_map, h]; rfl
  have gy : ∀ (i : Nat) (x : (List UInt8)), b.parents[i]? = some x → (b.parents.map fun x => keyA x)[i]? = some (keyA x) := fun i x h => by rw [List.getElem?_map, h]; rfl
  have lu : (a.who.map fun x => AV.lit (ji x)).length = a.who.length := List.length_map _
  have lv : (b.who.map fun x => AV.lit (ji x)).length = b.who.length := List.length_map _
  have gu : ∀ (i : Nat) (x : Int), a.who[i]? = some x → (a.who.map fun x => AV.lit (ji x))[i]? = some (.lit (ji x)) := fun i x h => by rw [List.getElem?_map, h]; rfl
  have gv : ∀ (i : Nat) (x : Int), b.who[i]? = some x → (b.who.map fun x => AV.lit (ji x))[i]? = some (.lit (ji x)) := fun i x h => by rw [List.getElem?_map, h]; rfl
  generalize (a.parents.map fun x => keyA x) = T1 at *
  generalize (b.parents.map fun x => keyA x) = T2 at *
  generalize (a.who.map fun x => AV.lit (ji x)) = W1 at *
  generalize (b.who.map fun x => AV.lit (ji x)) = W2 at *
  refine PCall.of h870 rfl ?_; show AC.wp _ fb870 (AS.init [.st [1, 1, 1, 1, 1, 32, 32, 1, 1] [.lit (ji a.author), .lit (wn a.seq), .sl 32 T1, .lit (ji a.kind), .sl 1 W1, keyA a.ofk, keyA a.check, .lit (tx a.text), .sl 36 []], .st [1, 1, 1, 1, 1, 32, 32, 1, 1] [.lit (ji b.author), .lit (wn b.seq), .sl 32 T2, .lit (ji b.kind), .sl 1 W2, keyA b.ofk, keyA b.check, .lit (tx b.text), .sl 36 []]] 2 129) (fun x s => match x with | .exit _ => False | _ => Fin [(.tmp 4)] s _); unfold fb870 AS.init
  refine wp_sg (areg_bx rfl (by simp [AS.ev, AV.sz, keyA, bl_len, a5, a6]) fun l2 => areg_bx rfl (by simp [AS.ev, AS.put, AV.sz, keyA, bl_len, b5, b6]) fun l3 => areg_end (by simp [push_cast]; exact rfl) ?_)
  refine wp_seq' (wp_seq' (wp_rg ?_))
  refine areg_run 6 (by simp [push_cast, bin_neqii, h1, a5, a6, b5, b6]; exact rfl) ?_
  refine areg_run 7 (by simp [push_cast, bin_neqw, h2, a5, a6, b5, b6]; exact rfl) ?_
  refine areg_run 7 (by simp [push_cast, bin_neqii, h3, a5, a6, b5, b6]; exact rfl) ?_
  refine areg_run 4 (by simp [push_cast, a5, a6, b5, b6]; exact rfl) ?_
  refine areg_g (by simp [AS.ev, AS.put]) (areg_eq (by simp [AS.ev, AS.put] <;> exact rfl) (by simp [AS.ev, AS.put] <;> exact rfl) e5 rfl rfl ?_)
  refine areg_end (by simp [push_cast, n4]; exact rfl) ?_
  refine wp_cond_t (by simp [AS.ev]) (wp_sr (by simp [push_cast]; exact rfl) (wp_ret' ?_))
  exact fin_tmp (by simp [RVal, AS.ev, AS.coe]) (by simp)
set_option maxRecDepth 20000 in
set_option maxHeartbeats 32000000 in
theorem sameD_no5 {a b : OpV} (ha : OpL a) (hb : OpL b) (ha0 : a.boxes = []) (hb0 : b.boxes = []) (h1 : a.author = b.author) (h2 : a.seq = b.seq) (h3 : a.kind = b.kind) (h4 : a.ofk = b.ofk) (n5 : ¬ a.check = b.check) :
    PCall Go.Proofs.Tryd.prog 10 [opA a, opA b] (.val (.lit (.bool false))) := by
  have h870 := fc870_eq
  have a5 := ha.ofk; have a6 := ha.check; have b5 := hb.ofk; have b6 := hb.check
  have e5 := eq_key a5 b5
  have e6 := eq_key a6 b6
  have p32 := ha.p32; have r32 := hb.p32; have pl := ha.pl; have wl := ha.wl
  have hA : opA a = .st [1, 1, 1, 1, 1, 32, 32, 1, 1] [.lit (ji a.author), .lit (wn a.seq), .sl 32 (a.parents.map fun x => keyA x), .lit (ji a.kind), .sl 1 (a.who.map fun x => AV.lit (ji x)), keyA a.ofk, keyA a.check, .lit (tx a.text), .sl 36 []] := by unfold opA; rw [ha0]; rfl
  have hB : opA b = .st [1, 1, 1, 1, 1, 32, 32, 1, 1] [.lit (ji b.author), .lit (wn b.seq), .sl 32 (b.parents.map fun x => keyA x), .lit (ji b.kind), .sl 1 (b.who.map fun x => AV.lit (ji x)), keyA b.ofk, keyA b.check, .lit (tx b.text), .sl 36 []] := by unfold opA; rw [hb0]; rfl
  rw [hA, hB]
  have lx : (a.parents.map fun x => keyA x).length = a.parents.length := List.length_map _
  have ly : (b.parents.map fun x => keyA x).length = b.parents.length := List.length_map _
  have gx : ∀ (i : Nat) (x : (List UInt8)), a.parents[i]? = some x → (a.parents.map fun x => keyA x)[i]? = some (keyA x) := fun i x h => by rw [List.getElem?_map, h]; rfl
  have gy : ∀ (i : Nat) (x : (List UInt8)), b.parents[i]? = some x → (b.parents.map fun x => keyA x)[i]? = some (keyA x) := fun i x h => by rw [List.getElem?_map, h]; rfl
  have lu : (a.who.map fun x => AV.lit (ji x)).length = a.who.length := List.length_map _
  have lv : (b.who.map fun x => AV.lit (ji x)).length = b.who.length := List.length_map _
  have gu : ∀ (i : Nat) (x : Int), a.who[i]? = some x → (a.who.map fun x => AV.lit (ji x))[i]? = some (.lit (ji x)) := fun i x h => by rw [List.getElem?_map, h]; rfl
  have gv : ∀ (i : Nat) (x : Int), b.who[i]? = some x → (b.who.map fun x => AV.lit (ji x))[i]? = some (.lit (ji x)) := fun i x h => by rw [List.getElem?_map, h]; rfl
  generalize (a.parents.map fun x => keyA x) = T1 at *
  generalize (b.parents.map fun x => keyA x) = T2 at *
  generalize (a.who.map fun x => AV.lit (ji x)) = W1 at *
  generalize (b.who.map fun x => AV.lit (ji x)) = W2 at *
  refine PCall.of h870 rfl ?_; show AC.wp _ fb870 (AS.init [.st [1, 1, 1, 1, 1, 32, 32, 1, 1] [.lit (ji a.author), .lit (wn a.seq), .sl 32 T1, .lit (ji a.kind), .sl 1 W1, keyA a.ofk, keyA a.check, .lit (tx a.text), .sl 36 []], .st [1, 1, 1, 1, 1, 32, 32, 1, 1] [.lit (ji b.author), .lit (wn b.seq), .sl 32 T2, .lit (ji b.kind), .sl 1 W2, keyA b.ofk, keyA b.check, .lit (tx b.text), .sl 36 []]] 2 129) (fun x s => match x with | .exit _ => False | _ => Fin [(.tmp 4)] s _); unfold fb870 AS.init
  refine wp_sg (areg_bx rfl (by simp [AS.ev, AV.sz, keyA, bl_len, a5, a6]) fun l2 => areg_bx rfl (by simp [AS.ev, AS.put, AV.sz, keyA, bl_len, b5, b6]) fun l3 => areg_end (by simp [push_cast]; exact rfl) ?_)
  refine wp_seq' (wp_seq' (wp_rg ?_))
  refine areg_run 6 (by simp [push_cast, bin_neqii, h1, a5, a6, b5, b6]; exact rfl) ?_
  refine areg_run 7 (by simp [push_cast, bin_neqw, h2, a5, a6, b5, b6]; exact rfl) ?_
  refine areg_run 7 (by simp [push_cast, bin_neqii, h3, a5, a6, b5, b6]; exact rfl) ?_
  refine areg_run 4 (by simp [push_cast, a5, a6, b5, b6]; exact rfl) ?_
  refine areg_g (by simp [AS.ev, AS.put]) (areg_eq (by simp [AS.ev, AS.put] <;> exact rfl) (by simp [AS.ev, AS.put] <;> exact rfl) e5 rfl rfl ?_)
  refine areg_run 2 (by simp [push_cast, h4]; exact rfl) ?_
  refine areg_run 4 (by simp [push_cast, a5, a6, b5, b6]; exact rfl) ?_
  refine areg_g (by simp [AS.ev, AS.put]) (areg_eq (by simp [AS.ev, AS.put] <;> exact rfl) (by simp [AS.ev, AS.put] <;> exact rfl) e6 rfl rfl ?_)
  refine areg_end (by simp [push_cast, n5]; exact rfl) ?_
  refine wp_cond_t (by simp [AS.ev]) (wp_sr (by simp [push_cast]; exact rfl) (wp_ret' ?_))
  exact fin_tmp (by simp [RVal, AS.ev, AS.coe]) (by simp)
set_option maxRecDepth 20000 in
set_option maxHeartbeats 32000000 in
theorem sameD_no6 {a b : OpV} (ha : OpL a) (hb : OpL b) (ha0 : a.boxes = []) (hb0 : b.boxes = []) (h1 : a.author = b.author) (h2 : a.seq = b.seq) (h3 : a.kind = b.kind) (h4 : a.ofk = b.ofk) (h5 : a.check = b.check) (n6 : ¬ a.text = b.text) :
    PCall Go.Proofs.Tryd.prog 10 [opA a, opA b] (.val (.lit (.bool false))) := by
  have h870 := fc870_eq
  have a5 := ha.ofk; have a6 := ha.check; have b5 := hb.ofk; have b6 := hb.check
  have e5 := eq_key a5 b5
  have e6 := eq_key a6 b6
  have p32 := ha.p32; have r32 := hb.p32; have pl := ha.pl; have wl := ha.wl
  have hA : opA a = .st [1, 1, 1, 1, 1, 32, 32, 1, 1] [.lit (ji a.author), .lit (wn a.seq), .sl 32 (a.parents.map fun x => keyA x), .lit (ji a.kind), .sl 1 (a.who.map fun x => AV.lit (ji x)), keyA a.ofk, keyA a.check, .lit (tx a.text), .sl 36 []] := by unfold opA; rw [ha0]; rfl
  have hB : opA b = .st [1, 1, 1, 1, 1, 32, 32, 1, 1] [.lit (ji b.author), .lit (wn b.seq), .sl 32 (b.parents.map fun x => keyA x), .lit (ji b.kind), .sl 1 (b.who.map fun x => AV.lit (ji x)), keyA b.ofk, keyA b.check, .lit (tx b.text), .sl 36 []] := by unfold opA; rw [hb0]; rfl
  rw [hA, hB]
  have lx : (a.parents.map fun x => keyA x).length = a.parents.length := List.length_map _
  have ly : (b.parents.map fun x => keyA x).length = b.parents.length := List.length_map _
  have gx : ∀ (i : Nat) (x : (List UInt8)), a.parents[i]? = some x → (a.parents.map fun x => keyA x)[i]? = some (keyA x) := fun i x h => by rw [List.getElem?_map, h]; rfl
  have gy : ∀ (i : Nat) (x : (List UInt8)), b.parents[i]? = some x → (b.parents.map fun x => keyA x)[i]? = some (keyA x) := fun i x h => by rw [List.getElem?_map, h]; rfl
  have lu : (a.who.map fun x => AV.lit (ji x)).length = a.who.length := List.length_map _
  have lv : (b.who.map fun x => AV.lit (ji x)).length = b.who.length := List.length_map _
  have gu : ∀ (i : Nat) (x : Int), a.who[i]? = some x → (a.who.map fun x => AV.lit (ji x))[i]? = some (.lit (ji x)) := fun i x h => by rw [List.getElem?_map, h]; rfl
  have gv : ∀ (i : Nat) (x : Int), b.who[i]? = some x → (b.who.map fun x => AV.lit (ji x))[i]? = some (.lit (ji x)) := fun i x h => by rw [List.getElem?_map, h]; rfl
  generalize (a.parents.map fun x => keyA x) = T1 at *
  generalize (b.parents.map fun x => keyA x) = T2 at *
  generalize (a.who.map fun x => AV.lit (ji x)) = W1 at *
  generalize (b.who.map fun x => AV.lit (ji x)) = W2 at *
  refine PCall.of h870 rfl ?_; show AC.wp _ fb870 (AS.init [.st [1, 1, 1, 1, 1, 32, 32, 1, 1] [.lit (ji a.author), .lit (wn a.seq), .sl 32 T1, .lit (ji a.kind), .sl 1 W1, keyA a.ofk, keyA a.check, .lit (tx a.text), .sl 36 []], .st [1, 1, 1, 1, 1, 32, 32, 1, 1] [.lit (ji b.author), .lit (wn b.seq), .sl 32 T2, .lit (ji b.kind), .sl 1 W2, keyA b.ofk, keyA b.check, .lit (tx b.text), .sl 36 []]] 2 129) (fun x s => match x with | .exit _ => False | _ => Fin [(.tmp 4)] s _); unfold fb870 AS.init
  refine wp_sg (areg_bx rfl (by simp [AS.ev, AV.sz, keyA, bl_len, a5, a6]) fun l2 => areg_bx rfl (by simp [AS.ev, AS.put, AV.sz, keyA, bl_len, b5, b6]) fun l3 => areg_end (by simp [push_cast]; exact rfl) ?_)
  refine wp_seq' (wp_seq' (wp_rg ?_))
  refine areg_run 6 (by simp [push_cast, bin_neqii, h1, a5, a6, b5, b6]; exact rfl) ?_
  refine areg_run 7 (by simp [push_cast, bin_neqw, h2, a5, a6, b5, b6]; exact rfl) ?_
  refine areg_run 7 (by simp [push_cast, bin_neqii, h3, a5, a6, b5, b6]; exact rfl) ?_
  refine areg_run 4 (by simp [push_cast, a5, a6, b5, b6]; exact rfl) ?_
  refine areg_g (by simp [AS.ev, AS.put]) (areg_eq (by simp [AS.ev, AS.put] <;> exact rfl) (by simp [AS.ev, AS.put] <;> exact rfl) e5 rfl rfl ?_)
  refine areg_run 2 (by simp [push_cast, h4]; exact rfl) ?_
  refine areg_run 4 (by simp [push_cast, a5, a6, b5, b6]; exact rfl) ?_
  refine areg_g (by simp [AS.ev, AS.put]) (areg_eq (by simp [AS.ev, AS.put] <;> exact rfl) (by simp [AS.ev, AS.put] <;> exact rfl) e6 rfl rfl ?_)
  refine areg_run 2 (by simp [push_cast, h5]; exact rfl) ?_
  refine areg_end (by simp [push_cast, n6, a5, a6, b5, b6]; exact rfl) ?_
  refine wp_cond_t (by simp [AS.ev]) (wp_sr (by simp [push_cast]; exact rfl) (wp_ret' ?_))
  exact fin_tmp (by simp [RVal, AS.ev, AS.coe]) (by simp)
set_option maxRecDepth 20000 in
set_option maxHeartbeats 32000000 in
theorem sameD_no7 {a b : OpV} (ha : OpL a) (hb : OpL b) (ha0 : a.boxes = []) (hb0 : b.boxes = []) (h1 : a.author = b.author) (h2 : a.seq = b.seq) (h3 : a.kind = b.kind) (h4 : a.ofk = b.ofk) (h5 : a.check = b.check) (h6 : a.text = b.text) (n7 : ¬ a.parents.length = b.parents.length) :
    PCall Go.Proofs.Tryd.prog 10 [opA a, opA b] (.val (.lit (.bool false))) := by
  have h870 := fc870_eq
  have a5 := ha.ofk; have a6 := ha.check; have b5 := hb.ofk; have b6 := hb.check
  have e5 := eq_key a5 b5
  have e6 := eq_key a6 b6
  have p32 := ha.p32; have r32 := hb.p32; have pl := ha.pl; have wl := ha.wl
  have hA : opA a = .st [1, 1, 1, 1, 1, 32, 32, 1, 1] [.lit (ji a.author), .lit (wn a.seq), .sl 32 (a.parents.map fun x => keyA x), .lit (ji a.kind), .sl 1 (a.who.map fun x => AV.lit (ji x)), keyA a.ofk, keyA a.check, .lit (tx a.text), .sl 36 []] := by unfold opA; rw [ha0]; rfl
  have hB : opA b = .st [1, 1, 1, 1, 1, 32, 32, 1, 1] [.lit (ji b.author), .lit (wn b.seq), .sl 32 (b.parents.map fun x => keyA x), .lit (ji b.kind), .sl 1 (b.who.map fun x => AV.lit (ji x)), keyA b.ofk, keyA b.check, .lit (tx b.text), .sl 36 []] := by unfold opA; rw [hb0]; rfl
  rw [hA, hB]
  have lx : (a.parents.map fun x => keyA x).length = a.parents.length := List.length_map _
  have ly : (b.parents.map fun x => keyA x).length = b.parents.length := List.length_map _
  have gx : ∀ (i : Nat) (x : (List UInt8)), a.parents[i]? = some x → (a.parents.map fun x => keyA x)[i]? = some (keyA x) := fun i x h => by rw [List.getElem?_map, h]; rfl
  have gy : ∀ (i : Nat) (x : (List UInt8)), b.parents[i]? = some x → (b.parents.map fun x => keyA x)[i]? = some (keyA x) := fun i x h => by rw [List.getElem?_map, h]; rfl
  have lu : (a.who.map fun x => AV.lit (ji x)).length = a.who.length := List.length_map _
  have lv : (b.who.map fun x => AV.lit (ji x)).length = b.who.length := List.length_map _
  have gu : ∀ (i : Nat) (x : Int), a.who[i]? = some x → (a.who.map fun x => AV.lit (ji x))[i]? = some (.lit (ji x)) := fun i x h => by rw [List.getElem?_map, h]; rfl
  have gv : ∀ (i : Nat) (x : Int), b.who[i]? = some x → (b.who.map fun x => AV.lit (ji x))[i]? = some (.lit (ji x)) := fun i x h => by rw [List.getElem?_map, h]; rfl
  generalize (a.parents.map fun x => keyA x) = T1 at *
  generalize (b.parents.map fun x => keyA x) = T2 at *
  generalize (a.who.map fun x => AV.lit (ji x)) = W1 at *
  generalize (b.who.map fun x => AV.lit (ji x)) = W2 at *
  refine PCall.of h870 rfl ?_; show AC.wp _ fb870 (AS.init [.st [1, 1, 1, 1, 1, 32, 32, 1, 1] [.lit (ji a.author), .lit (wn a.seq), .sl 32 T1, .lit (ji a.kind), .sl 1 W1, keyA a.ofk, keyA a.check, .lit (tx a.text), .sl 36 []], .st [1, 1, 1, 1, 1, 32, 32, 1, 1] [.lit (ji b.author), .lit (wn b.seq), .sl 32 T2, .lit (ji b.kind), .sl 1 W2, keyA b.ofk, keyA b.check, .lit (tx b.text), .sl 36 []]] 2 129) (fun x s => match x with | .exit _ => False | _ => Fin [(.tmp 4)] s _); unfold fb870 AS.init
  refine wp_sg (areg_bx rfl (by simp [AS.ev, AV.sz, keyA, bl_len, a5, a6]) fun l2 => areg_bx rfl (by simp [AS.ev, AS.put, AV.sz, keyA, bl_len, b5, b6]) fun l3 => areg_end (by simp [push_cast]; exact rfl) ?_)
  refine wp_seq' (wp_seq' (wp_rg ?_))
  refine areg_run 6 (by simp [push_cast, bin_neqii, h1, a5, a6, b5, b6]; exact rfl) ?_
  refine areg_run 7 (by simp [push_cast, bin_neqw, h2, a5, a6, b5, b6]; exact rfl) ?_
  refine areg_run 7 (by simp [push_cast, bin_neqii, h3, a5, a6, b5, b6]; exact rfl) ?_
  refine areg_run 4 (by simp [push_cast, a5, a6, b5, b6]; exact rfl) ?_
  refine areg_g (by simp [AS.ev, AS.put]) (areg_eq (by simp [AS.ev, AS.put] <;> exact rfl) (by simp [AS.ev, AS.put] <;> exact rfl) e5 rfl rfl ?_)
  refine areg_run 2 (by simp [push_cast, h4]; exact rfl) ?_
  refine areg_run 4 (by simp [push_cast, a5, a6, b5, b6]; exact rfl) ?_
  refine areg_g (by simp [AS.ev, AS.put]) (areg_eq (by simp [AS.ev, AS.put] <;> exact rfl) (by simp [AS.ev, AS.put] <;> exact rfl) e6 rfl rfl ?_)
  refine areg_run 2 (by simp [push_cast, h5]; exact rfl) ?_
  refine areg_run 7 (by simp [push_cast, h6, a5, a6, b5, b6]; exact rfl) ?_
  refine areg_end (by simp [push_cast, lx, ly, n7, a5, a6, b5, b6]; exact rfl) ?_
  refine wp_cond_t (by simp [AS.ev]) (wp_sr (by simp [push_cast]; exact rfl) (wp_ret' ?_))
  exact fin_tmp (by simp [RVal, AS.ev, AS.coe]) (by simp)
set_option maxRecDepth 20000 in
set_option maxHeartbeats 32000000 in
theorem sameD_no8 {a b : OpV} (ha : OpL a) (hb : OpL b) (ha0 : a.boxes = []) (hb0 : b.boxes = []) (h1 : a.author = b.author) (h2 : a.seq = b.seq) (h3 : a.kind = b.kind) (h4 : a.ofk = b.ofk) (h5 : a.check = b.check) (h6 : a.text = b.text) (h7 : a.parents.length = b.parents.length) (n8 : ¬ a.who.length = b.who.length) :
    PCall Go.Proofs.Tryd.prog 10 [opA a, opA b] (.val (.lit (.bool false))) := by
  have h870 := fc870_eq
  have a5 := ha.ofk; have a6 := ha.check; have b5 := hb.ofk; have b6 := hb.check
  have e5 := eq_key a5 b5
  have e6 := eq_key a6 b6
  have p32 := ha.p32; have r32 := hb.p32; have pl := ha.pl; have wl := ha.wl
  have hA : opA a = .st [1, 1, 1, 1, 1, 32, 32, 1, 1] [.lit (ji a.author), .lit (wn a.seq), .sl 32 (a.parents.map fun x => keyA x), .lit (ji a.kind), .sl 1 (a.who.map fun x => AV.lit (ji x)), keyA a.ofk, keyA a.check, .lit (tx a.text), .sl 36 []] := by unfold opA; rw [ha0]; rfl
  have hB : opA b = .st [1, 1, 1, 1, 1, 32, 32, 1, 1] [.lit (ji b.author), .lit (wn b.seq), .sl 32 (b.parents.map fun x => keyA x), .lit (ji b.kind), .sl 1 (b.who.map fun x => AV.lit (ji x)), keyA b.ofk, keyA b.check, .lit (tx b.text), .sl 36 []] := by unfold opA; rw [hb0]; rfl
  rw [hA, hB]
  have lx : (a.parents.map fun x => keyA x).length = a.parents.length := List.length_map _
  have ly : (b.parents.map fun x => keyA x).length = b.parents.length := List.length_map _
  have gx : ∀ (i : Nat) (x : (List UInt8)), a.parents[i]? = some x → (a.parents.map fun x => keyA x)[i]? = some (keyA x) := fun i x h => by rw [List.getElem?_map, h]; rfl
  have gy : ∀ (i : Nat) (x : (List UInt8)), b.parents[i]? = some x → (b.parents.map fun x => keyA x)[i]? = some (keyA x) := fun i x h => by rw [List.getElem?_map, h]; rfl
  have lu : (a.who.map fun x => AV.lit (ji x)).length = a.who.length := List.length_map _
  have lv : (b.who.map fun x => AV.lit (ji x)).length = b.who.length := List.length_map _
  have gu : ∀ (i : Nat) (x : Int), a.who[i]? = some x → (a.who.map fun x => AV.lit (ji x))[i]? = some (.lit (ji x)) := fun i x h => by rw [List.getElem?_map, h]; rfl
  have gv : ∀ (i : Nat) (x : Int), b.who[i]? = some x → (b.who.map fun x => AV.lit (ji x))[i]? = some (.lit (ji x)) := fun i x h => by rw [List.getElem?_map, h]; rfl
  generalize (a.parents.map fun x => keyA x) = T1 at *
  generalize (b.parents.map fun x => keyA x) = T2 at *
  generalize (a.who.map fun x => AV.lit (ji x)) = W1 at *
  generalize (b.who.map fun x => AV.lit (ji x)) = W2 at *
  refine PCall.of h870 rfl ?_; show AC.wp _ fb870 (AS.init [.st [1, 1, 1, 1, 1, 32, 32, 1, 1] [.lit (ji a.author), .lit (wn a.seq), .sl 32 T1, .lit (ji a.kind), .sl 1 W1, keyA a.ofk, keyA a.check, .lit (tx a.text), .sl 36 []], .st [1, 1, 1, 1, 1, 32, 32, 1, 1] [.lit (ji b.author), .lit (wn b.seq), .sl 32 T2, .lit (ji b.kind), .sl 1 W2, keyA b.ofk, keyA b.check, .lit (tx b.text), .sl 36 []]] 2 129) (fun x s => match x with | .exit _ => False | _ => Fin [(.tmp 4)] s _); unfold fb870 AS.init
  refine wp_sg (areg_bx rfl (by simp [AS.ev, AV.sz, keyA, bl_len, a5, a6]) fun l2 => areg_bx rfl (by simp [AS.ev, AS.put, AV.sz, keyA, bl_len, b5, b6]) fun l3 => areg_end (by simp [push_cast]; exact rfl) ?_)
  refine wp_seq' (wp_seq' (wp_rg ?_))
  refine areg_run 6 (by simp [push_cast, bin_neqii, h1, a5, a6, b5, b6]; exact rfl) ?_
  refine areg_run 7 (by simp [push_cast, bin_neqw, h2, a5, a6, b5, b6]; exact rfl) ?_
  refine areg_run 7 (by simp [push_cast, bin_neqii, h3, a5, a6, b5, b6]; exact rfl) ?_
  refine areg_run 4 (by simp [push_cast, a5, a6, b5, b6]; exact rfl) ?_
  refine areg_g (by simp [AS.ev, AS.put]) (areg_eq (by simp [AS.ev, AS.put] <;> exact rfl) (by simp [AS.ev, AS.put] <;> exact rfl) e5 rfl rfl ?_)
  refine areg_run 2 (by simp [push_cast, h4]; exact rfl) ?_
  refine areg_run 4 (by simp [push_cast, a5, a6, b5, b6]; exact rfl) ?_
  refine areg_g (by simp [AS.ev, AS.put]) (areg_eq (by simp [AS.ev, AS.put] <;> exact rfl) (by simp [AS.ev, AS.put] <;> exact rfl) e6 rfl rfl ?_)
  refine areg_run 2 (by simp [push_cast, h5]; exact rfl) ?_
  refine areg_run 7 (by simp [push_cast, h6, a5, a6, b5, b6]; exact rfl) ?_
  refine areg_run 9 (by simp [push_cast, lx, ly, h7, a5, a6, b5, b6]; exact rfl) ?_
  refine areg_end (by simp [push_cast, lu, lv, n8, a5, a6, b5, b6]; exact rfl) ?_
  refine wp_cond_t (by simp [AS.ev]) (wp_sr (by simp [push_cast]; exact rfl) (wp_ret' ?_))
  exact fin_tmp (by simp [RVal, AS.ev, AS.coe]) (by simp)
set_option maxRecDepth 20000 in
set_option maxHeartbeats 32000000 in
theorem sameD_yes {a b : OpV} (ha : OpL a) (hb : OpL b) (ha0 : a.boxes = []) (hb0 : b.boxes = []) (h1 : a.author = b.author) (h2 : a.seq = b.seq) (h3 : a.kind = b.kind) (h4 : a.ofk = b.ofk) (h5 : a.check = b.check) (h6 : a.text = b.text) (h7 : a.parents.length = b.parents.length) (h8 : a.who.length = b.who.length) :
    PCall Go.Proofs.Tryd.prog 10 [opA a, opA b] (.val (.lit (.bool (decide (a = b))))) := by
  have h870 := fc870_eq
  have a5 := ha.ofk; have a6 := ha.check; have b5 := hb.ofk; have b6 := hb.check
  have e5 := eq_key a5 b5
  have e6 := eq_key a6 b6
  have p32 := ha.p32; have r32 := hb.p32; have pl := ha.pl; have wl := ha.wl
  have hA : opA a = .st [1, 1, 1, 1, 1, 32, 32, 1, 1] [.lit (ji a.author), .lit (wn a.seq), .sl 32 (a.parents.map fun x => keyA x), .lit (ji a.kind), .sl 1 (a.who.map fun x => AV.lit (ji x)), keyA a.ofk, keyA a.check, .lit (tx a.text), .sl 36 []] := by unfold opA; rw [ha0]; rfl
  have hB : opA b = .st [1, 1, 1, 1, 1, 32, 32, 1, 1] [.lit (ji b.author), .lit (wn b.seq), .sl 32 (b.parents.map fun x => keyA x), .lit (ji b.kind), .sl 1 (b.who.map fun x => AV.lit (ji x)), keyA b.ofk, keyA b.check, .lit (tx b.text), .sl 36 []] := by unfold opA; rw [hb0]; rfl
  rw [hA, hB]
  have lx : (a.parents.map fun x => keyA x).length = a.parents.length := List.length_map _
  have ly : (b.parents.map fun x => keyA x).length = b.parents.length := List.length_map _
  have gx : ∀ (i : Nat) (x : (List UInt8)), a.parents[i]? = some x → (a.parents.map fun x => keyA x)[i]? = some (keyA x) := fun i x h => by rw [List.getElem?_map, h]; rfl
  have gy : ∀ (i : Nat) (x : (List UInt8)), b.parents[i]? = some x → (b.parents.map fun x => keyA x)[i]? = some (keyA x) := fun i x h => by rw [List.getElem?_map, h]; rfl
  have lu : (a.who.map fun x => AV.lit (ji x)).length = a.who.length := List.length_map _
  have lv : (b.who.map fun x => AV.lit (ji x)).length = b.who.length := List.length_map _
  have gu : ∀ (i : Nat) (x : Int), a.who[i]? = some x → (a.who.map fun x => AV.lit (ji x))[i]? = some (.lit (ji x)) := fun i x h => by rw [List.getElem?_map, h]; rfl
  have gv : ∀ (i : Nat) (x : Int), b.who[i]? = some x → (b.who.map fun x => AV.lit (ji x))[i]? = some (.lit (ji x)) := fun i x h => by rw [List.getElem?_map, h]; rfl
  generalize (a.parents.map fun x => keyA x) = T1 at *
  generalize (b.parents.map fun x => keyA x) = T2 at *
  generalize (a.who.map fun x => AV.lit (ji x)) = W1 at *
  generalize (b.who.map fun x => AV.lit (ji x)) = W2 at *
  refine PCall.of h870 rfl ?_; show AC.wp _ fb870 (AS.init [.st [1, 1, 1, 1, 1, 32, 32, 1, 1] [.lit (ji a.author), .lit (wn a.seq), .sl 32 T1, .lit (ji a.kind), .sl 1 W1, keyA a.ofk, keyA a.check, .lit (tx a.text), .sl 36 []], .st [1, 1, 1, 1, 1, 32, 32, 1, 1] [.lit (ji b.author), .lit (wn b.seq), .sl 32 T2, .lit (ji b.kind), .sl 1 W2, keyA b.ofk, keyA b.check, .lit (tx b.text), .sl 36 []]] 2 129) (fun x s => match x with | .exit _ => False | _ => Fin [(.tmp 4)] s _); unfold fb870 AS.init
  refine wp_sg (areg_bx rfl (by simp [AS.ev, AV.sz, keyA, bl_len, a5, a6]) fun l2 => areg_bx rfl (by simp [AS.ev, AS.put, AV.sz, keyA, bl_len, b5, b6]) fun l3 => areg_end (by simp [push_cast]; exact rfl) ?_)
  refine wp_seqM (fun _ : Unit => sdA (.st [1, 1, 1, 1, 1, 32, 32, 1, 1] [.lit (ji a.author), .lit (wn a.seq), .sl 32 T1, .lit (ji a.kind), .sl 1 W1, keyA a.ofk, keyA a.check, .lit (tx a.text), .sl 36 []]) (.st [1, 1, 1, 1, 1, 32, 32, 1, 1] [.lit (ji b.author), .lit (wn b.seq), .sl 32 T2, .lit (ji b.kind), .sl 1 W2, keyA b.ofk, keyA b.check, .lit (tx b.text), .sl 36 []]) l2 l3 [] 124)
    (fun _ => True) (fun _ _ => ?_) ?_
  rotate_left
  · skip
    refine wp_seq' (wp_rg ?_)
    refine areg_run 6 (by simp [push_cast, bin_neqii, h1, a5, a6, b5, b6]; exact rfl) ?_
    refine areg_run 7 (by simp [push_cast, bin_neqw, h2, a5, a6, b5, b6]; exact rfl) ?_
    refine areg_run 7 (by simp [push_cast, bin_neqii, h3, a5, a6, b5, b6]; exact rfl) ?_
    refine areg_run 4 (by simp [push_cast, a5, a6, b5, b6]; exact rfl) ?_
    refine areg_g (by simp [AS.ev, AS.put]) (areg_eq (by simp [AS.ev, AS.put] <;> exact rfl) (by simp [AS.ev, AS.put] <;> exact rfl) e5 rfl rfl ?_)
    refine areg_run 2 (by simp [push_cast, h4]; exact rfl) ?_
    refine areg_run 4 (by simp [push_cast, a5, a6, b5, b6]; exact rfl) ?_
    refine areg_g (by simp [AS.ev, AS.put]) (areg_eq (by simp [AS.ev, AS.put] <;> exact rfl) (by simp [AS.ev, AS.put] <;> exact rfl) e6 rfl rfl ?_)
    refine areg_run 2 (by simp [push_cast, h5]; exact rfl) ?_
    refine areg_run 7 (by simp [push_cast, h6, a5, a6, b5, b6]; exact rfl) ?_
    refine areg_run 9 (by simp [push_cast, lx, ly, h7, a5, a6, b5, b6]; exact rfl) ?_
    refine areg_end (by simp [push_cast, lu, lv, h8, a5, a6, b5, b6]; exact rfl) ?_
    refine wp_cond_f (by simp [AS.ev]) (wp_skip' ?_)
    exact ⟨(), trivial, Le.mk rfl (by simp [sdA, leT]) (by simp [sdA, leH, keyA, h1, h2, h3, h4, h5, h6])⟩
  unfold sdA
  refine wp_seq' (wp_seq' (wp_r (by simp [push_cast]; exact rfl) ?_))
  refine wp_block' (wp_loop_m (fun i => sdA (.st [1, 1, 1, 1, 1, 32, 32, 1, 1] [.lit (ji a.author), .lit (wn a.seq), .sl 32 T1, .lit (ji a.kind), .sl 1 W1, keyA a.ofk, keyA a.check, .lit (tx a.text), .sl 36 []]) (.st [1, 1, 1, 1, 1, 32, 32, 1, 1] [.lit (ji b.author), .lit (wn b.seq), .sl 32 T2, .lit (ji b.kind), .sl 1 W2, keyA b.ofk, keyA b.check, .lit (tx b.text), .sl 36 []]) l2 l3 [.lit (jn i)] 123) (fun i => a.parents.length - i) (fun i => i ≤ a.parents.length ∧ a.parents.take i = b.parents.take i) 0 ?_ (by simp) ?_)
  · exact Le.mk rfl (by simp [sdA, leT]) (by simp [sdA, leH, keyA])
  rintro i ⟨hi, heq⟩
  simp only at hi heq ⊢
  unfold sdA
  by_cases hlt : i < a.parents.length
  · have hlty : i < b.parents.length := by omega
    obtain ⟨x, hx⟩ : ∃ x, a.parents[i]? = some x := ⟨_, List.getElem?_eq_getElem hlt⟩
    obtain ⟨y, hy⟩ : ∃ y, b.parents[i]? = some y := ⟨_, List.getElem?_eq_getElem hlty⟩
    have x1 := gx i x hx
    have x2 : ∀ h, T1[i]'h = keyA x := fun h => by rw [List.getElem?_eq_getElem h] at x1; exact Option.some.inj x1
    have y1 := gy i y hy
    have y2 : ∀ h, T2[i]'h = keyA y := fun h => by rw [List.getElem?_eq_getElem h] at y1; exact Option.some.inj y1
    have q9 : i + 1 < 9223372036854775808 := by omega
    refine wp_seq' (wp_sr (by simp [push_cast, lx, hlt, a5, a6]; exact rfl) ?_)
    refine wp_cond_t (by simp [AS.ev]) (wp_skip' ?_)
    have a32 := p32 x (List.mem_of_getElem? hx)
    have b32 := r32 y (List.mem_of_getElem? hy)
    refine wp_seq' (wp_block' (wp_sg ?_))
    refine areg_run 10 (by simp [push_cast, x1, x2, y1, y2, lx, ly, hlt, hlty, a32, b32, a5, a6, b5, b6]; exact rfl) ?_
    refine areg_eq rfl rfl (eq_key a32 b32) rfl rfl ?_
    by_cases hab : x = y
    · refine areg_end (by simp [push_cast, hab]; exact rfl) ?_
      refine wp_cond_f (by simp [AS.ev]) (wp_skip' ?_)
      refine wp_r (by simp [push_cast, q9]; exact rfl) ?_
      refine ⟨i + 1, ⟨by omega, ?_⟩, by omega, Le.mk rfl (by simp [sdA, leT]) (by simp [sdA, leH, keyA])⟩
      rw [List.take_add_one, List.take_add_one, heq, hx, hy, hab]
    · have hne : a ≠ b := fun e => hab (by rw [e, hy] at hx; exact (Option.some.inj hx).symm)
      refine areg_end (by simp [push_cast, hab]; exact rfl) ?_
      refine wp_cond_t (by simp [AS.ev]) (wp_sr (by simp [push_cast]; exact rfl) (wp_ret' ?_))
      exact fin_tmp (by simp [RVal, AS.ev, AS.coe, hne]) (by simp)
  have hin : i = a.parents.length := by omega
  have hall_parents : a.parents = b.parents := by
    have e := heq
    rw [hin, List.take_length] at e
    rw [e, h7, List.take_length]
  refine wp_seq' (wp_sr (by simp [push_cast, lx, hlt, a5, a6]; exact rfl) ?_)
  refine wp_cond_f (by simp [AS.ev]) (wp_exit' (if_hit rfl ?_))
  clear heq
  refine wp_seq' (wp_seq' (wp_r (by simp [push_cast]; exact rfl) ?_))
  refine wp_block' (wp_loop_m (fun i => sdA (.st [1, 1, 1, 1, 1, 32, 32, 1, 1] [.lit (ji a.author), .lit (wn a.seq), .sl 32 T1, .lit (ji a.kind), .sl 1 W1, keyA a.ofk, keyA a.check, .lit (tx a.text), .sl 36 []]) (.st [1, 1, 1, 1, 1, 32, 32, 1, 1] [.lit (ji b.author), .lit (wn b.seq), .sl 32 T2, .lit (ji b.kind), .sl 1 W2, keyA b.ofk, keyA b.check, .lit (tx b.text), .sl 36 []]) l2 l3 [.any, .lit (jn i)] 122) (fun i => a.who.length - i) (fun i => i ≤ a.who.length ∧ a.who.take i = b.who.take i) 0 ?_ (by simp) ?_)
  · exact Le.mk rfl (by simp [sdA, leT]) (by simp [sdA, leH, keyA])
  rintro i ⟨hi, heq⟩
  simp only at hi heq ⊢
  unfold sdA
  by_cases hlt : i < a.who.length
  · have hlty : i < b.who.length := by omega
    obtain ⟨x, hx⟩ : ∃ x, a.who[i]? = some x := ⟨_, List.getElem?_eq_getElem hlt⟩
    obtain ⟨y, hy⟩ : ∃ y, b.who[i]? = some y := ⟨_, List.getElem?_eq_getElem hlty⟩
    have x1 := gu i x hx
    have x2 : ∀ h, W1[i]'h = .lit (ji x) := fun h => by rw [List.getElem?_eq_getElem h] at x1; exact Option.some.inj x1
    have y1 := gv i y hy
    have y2 : ∀ h, W2[i]'h = .lit (ji y) := fun h => by rw [List.getElem?_eq_getElem h] at y1; exact Option.some.inj y1
    have q9 : i + 1 < 9223372036854775808 := by omega
    refine wp_seq' (wp_sr (by simp [push_cast, lu, hlt, a5, a6]; exact rfl) ?_)
    refine wp_cond_t (by simp [AS.ev]) (wp_skip' ?_)
    refine wp_seq' (wp_block' (wp_seq' ?_))
    by_cases hab : x = y
    · refine wp_r (by simp [push_cast, x1, x2, y1, y2, bin_neqii, hab, lu, lv, hlt, hlty, a5, a6, b5, b6]; exact rfl) ?_
      refine wp_cond_f (by simp [AS.ev]) (wp_skip' ?_)
      refine wp_r (by simp [push_cast, q9]; exact rfl) ?_
      refine ⟨i + 1, ⟨by omega, ?_⟩, by omega, Le.mk rfl (by simp [sdA, leT]) (by simp [sdA, leH, keyA])⟩
      rw [List.take_add_one, List.take_add_one, heq, hx, hy, hab]
    · have hne : a ≠ b := fun e => hab (by rw [e, hy] at hx; exact (Option.some.inj hx).symm)
      refine wp_r (by simp [push_cast, x1, x2, y1, y2, bin_neqii, hab, lu, lv, hlt, hlty, a5, a6, b5, b6]; exact rfl) ?_
      refine wp_cond_t (by simp [AS.ev]) (wp_sr (by simp [push_cast]; exact rfl) (wp_ret' ?_))
      exact fin_tmp (by simp [RVal, AS.ev, AS.coe, hne]) (by simp)
  have hin : i = a.who.length := by omega
  have hall_who : a.who = b.who := by
    have e := heq
    rw [hin, List.take_length] at e
    rw [e, h8, List.take_length]
  refine wp_seq' (wp_sr (by simp [push_cast, lu, hlt, a5, a6]; exact rfl) ?_)
  refine wp_cond_f (by simp [AS.ev]) (wp_exit' (if_hit rfl ?_))
  clear heq
  refine wp_seq' (wp_seq' (wp_r (by simp [push_cast]; exact rfl) ?_))
  refine wp_block' (wp_loop_m (fun _ : Unit => sdA (.st [1, 1, 1, 1, 1, 32, 32, 1, 1] [.lit (ji a.author), .lit (wn a.seq), .sl 32 T1, .lit (ji a.kind), .sl 1 W1, keyA a.ofk, keyA a.check, .lit (tx a.text), .sl 36 []]) (.st [1, 1, 1, 1, 1, 32, 32, 1, 1] [.lit (ji b.author), .lit (wn b.seq), .sl 32 T2, .lit (ji b.kind), .sl 1 W2, keyA b.ofk, keyA b.check, .lit (tx b.text), .sl 36 []]) l2 l3 [.any, .any, .lit (jn 0)] 121) (fun _ => 0) (fun _ => True) () ?_ trivial ?_)
  · exact Le.mk rfl (by simp [sdA, leT]) (by simp [sdA, leH, keyA])
  rintro _ _
  unfold sdA
  refine wp_seq' (wp_sr (by simp [push_cast, a5, a6]; exact rfl) ?_)
  refine wp_cond_f (by simp [AS.ev]) (wp_exit' (if_hit rfl ?_))
  refine wp_sr (by simp [push_cast]; exact rfl) (wp_ret' ?_)
  have heq : a = b := op_ext h1 h2 hall_parents h3 hall_who h4 h5 h6 (by rw [ha0, hb0])
  exact fin_tmp (by simp [RVal, AS.ev, AS.coe, heq]) (by simp)
theorem sameD_call {a b : OpV} (ha : OpL a) (hb : OpL b) (ha0 : a.boxes = []) (hb0 : b.boxes = []) :
    PCall Go.Proofs.Tryd.prog 10 [opA a, opA b] (.val (.lit (.bool (decide (a = b))))) := by
  by_cases h1 : a.author = b.author
  rotate_left
  · rw [show decide (a = b) = false from decide_eq_false fun e => h1 (by rw [e])]
    exact sameD_no1 ha hb ha0 hb0  h1
  by_cases h2 : a.seq = b.seq
  rotate_left
  · rw [show decide (a = b) = false from decide_eq_false fun e => h2 (by rw [e])]
    exact sameD_no2 ha hb ha0 hb0 h1 h2
  by_cases h3 : a.kind = b.kind
  rotate_left
  · rw [show decide (a = b) = false from decide_eq_false fun e => h3 (by rw [e])]
    exact sameD_no3 ha hb ha0 hb0 h1 h2 h3
  by_cases h4 : a.ofk = b.ofk
  rotate_left
  · rw [show decide (a = b) = false from decide_eq_false fun e => h4 (by rw [e])]
    exact sameD_no4 ha hb ha0 hb0 h1 h2 h3 h4
  by_cases h5 : a.check = b.check
  rotate_left
  · rw [show decide (a = b) = false from decide_eq_false fun e => h5 (by rw [e])]
    exact sameD_no5 ha hb ha0 hb0 h1 h2 h3 h4 h5
  by_cases h6 : a.text = b.text
  rotate_left
  · rw [show decide (a = b) = false from decide_eq_false fun e => h6 (by rw [e])]
    exact sameD_no6 ha hb ha0 hb0 h1 h2 h3 h4 h5 h6
  by_cases h7 : a.parents.length = b.parents.length
  rotate_left
  · rw [show decide (a = b) = false from decide_eq_false fun e => h7 (by rw [e])]
    exact sameD_no7 ha hb ha0 hb0 h1 h2 h3 h4 h5 h6 h7
  by_cases h8 : a.who.length = b.who.length
  rotate_left
  · rw [show decide (a = b) = false from decide_eq_false fun e => h8 (by rw [e])]
    exact sameD_no8 ha hb ha0 hb0 h1 h2 h3 h4 h5 h6 h7 h8
  exact sameD_yes ha hb ha0 hb0 h1 h2 h3 h4 h5 h6 h7 h8
end Go.Cab