/- Part ten: literals, append, make, equality, calls: what they do to a state. -/
import Derived.Test.YtjkckdiepdbfeaaCabI
import Derived.DeepKeys
import Derived.Laws.MakeOwn
set_option linter.unusedSimpArgs false
set_option linter.unusedVariables false
set_option linter.unusedSectionVars false
namespace Go.Cab
open Go.RowKit
open Classical

section
variable {P : Program} {w0 : World} {regs : List (Nat × Nat × Nat)} {St Imm : Nat → Nat → Prop} {s : AS} {a : Act} {w : World} {o : Oper} {K : AS → Prop} {Q : Exit → Act → World → Prop} {ro : Nat → Bool}

/-! ### A part put in its place -/

theorem foldl_set_get (off : Nat) : ∀ (c : List Value) (k : Nat) (cells : Array Value), off + k + c.length ≤ cells.size → ∀ m,
    ((c.zipIdx k).foldl (fun cs (x : Value × Nat) => cs.setIfInBounds (off + x.2) x.1) cells)[m]? = if off + k ≤ m ∧ m < off + k + c.length then c[m - (off + k)]? else cells[m]?
  | [], k, cells, h, m => by
    have : ¬ (off + k ≤ m ∧ m < off + k + ([] : List Value).length) := by simp only [List.length_nil]; omega
    rw [if_neg this]; rfl
  | x :: c, k, cells, h, m => by
    simp only [List.zipIdx_cons, List.foldl_cons]
    rw [foldl_set_get off c (k + 1) _ (by simp only [List.length_cons] at h; simp only [Array.size_setIfInBounds]; omega) m]
    simp only [List.length_cons] at h ⊢
    by_cases h1 : off + (k + 1) ≤ m ∧ m < off + (k + 1) + c.length
    · rw [if_pos h1, if_pos (by omega), show m - (off + k) = (m - (off + (k + 1))) + 1 from by omega, List.getElem?_cons_succ]
    · rw [if_neg h1]
      by_cases h2 : m = off + k
      · subst h2
        rw [if_pos (by omega)]
        simp [Array.getElem?_setIfInBounds]; omega
      · rw [if_neg (by omega), Array.getElem?_setIfInBounds, if_neg (by omega)]

theorem foldl_set (c' pre c post : List Value) (cells : Array Value) (e : cells.toList = pre ++ c ++ post) (hl : c'.length = c.length) :
    (c'.toArray.zipIdx.foldl (fun cs (x : Value × Nat) => cs.setIfInBounds (pre.length + x.2) x.1) cells).toList = pre ++ c' ++ post := by
  have hsz : cells.size = pre.length + c.length + post.length := by rw [← Array.length_toList, e]; simp only [List.length_append]
  have e1 : (c'.toArray.zipIdx.foldl (fun cs (x : Value × Nat) => cs.setIfInBounds (pre.length + x.2) x.1) cells) = (c'.zipIdx 0).foldl (fun cs (x : Value × Nat) => cs.setIfInBounds (pre.length + x.2) x.1) cells := by
    rw [← Array.foldl_toList]; simp
  rw [e1]
  apply List.ext_getElem?
  intro m
  rw [Array.getElem?_toList, foldl_set_get pre.length c' 0 cells (by omega) m]
  simp only [Nat.add_zero]
  by_cases h1 : pre.length ≤ m ∧ m < pre.length + c'.length
  · rw [if_pos h1, List.append_assoc, List.getElem?_append_right h1.1, List.getElem?_append_left (by omega)]
  · rw [if_neg h1, ← Array.getElem?_toList, e]
    by_cases h2 : m < pre.length
    · rw [List.append_assoc, List.getElem?_append_left h2, List.append_assoc, List.getElem?_append_left h2]
    · rw [List.getElem?_append_right (by simp; omega), List.getElem?_append_right (by simp; omega)]
      congr 1; simp; omega

/-- Where the parts of a value of this shape stand. -/
def placesOk (place : Nat → Option (Nat × Nat)) : AV → Prop
  | .st ns _ => ∀ (i n : Nat), ns[i]? = some n → place i = some ((ns.take i).sum, n)
  | .arr esz _ => ∀ i, place i = some (i * esz, esz)
  | _ => True

theorem fill_sound (place : Nat → Option (Nat × Nat)) : ∀ (parts : List (Nat × Operand)) (z z' : AV) (cells : Array Value), placesOk place z → R Imm w z cells.toList → (∀ x ∈ cells.toList, sc x = true) →
    (∀ p ∈ parts, okO p.2 = true) → TmOk Imm w s.tm a.tmps → fillAV s z parts = some z' →
    ∃ cells', Instr.fill place cells (parts.map fun p => (p.1, a.eval p.2)) = some cells' ∧ R Imm w z' cells'.toList ∧ (∀ x ∈ cells'.toList, sc x = true) ∧ (z.isTup = false → z'.isTup = false) ∧ (∀ ns fs, z = .st ns fs → ∃ fs', z' = .st ns fs') ∧ (∀ e els, z = .arr e els → ∃ els', z' = .arr e els' ∧ els'.length = els.length)
  | [], z, z', cells, _, hR, hs, _, _, h => by
    simp only [fillAV, Option.some.injEq] at h
    subst h
    exact ⟨cells, rfl, hR, hs, fun h => h, fun ns fs h => ⟨fs, h⟩, fun e els h => ⟨els, h, rfl⟩⟩
  | (i, x) :: rest, z, z', cells, hp, hR, hs, hok, hT, h => by
    simp only [fillAV] at h
    split at h
    · rename_i n u hsub
      split at h
      · rename_i hc
        obtain ⟨htup, hsz⟩ := hc
        have hX := hT.eval x (okO_sc (hok (i, x) (by simp)))
        rcases hX with hX | ⟨c', hX, e⟩
        · rw [hX] at htup; simp [AV.isTup] at htup
        have hc'l : c'.length = n := by rw [hX.len htup, hsz]
        have hc's := hX.scs htup
        have hcells : (a.eval x).cells = c'.toArray := by rw [e]; exact hX.cells htup
        have step : ∃ pre c post, cells.toList = pre ++ c ++ post ∧ place i = some (pre.length, n) ∧ c.length = n ∧ R Imm w (z.upd [i] (s.ev x)) (pre ++ c' ++ post) ∧ placesOk place (z.upd [i] (s.ev x)) := by
          unfold AV.sub at hsub
          split at hsub
          · rename_i ns fs
            split at hsub
            · rename_i k f hk hf
              simp only [Option.some.injEq, Prod.mk.injEq] at hsub
              obtain ⟨rfl, rfl⟩ := hsub
              obtain ⟨pre, c, post, e1, hpre, hcl, hfR, hfs, hset⟩ := hR.field i k f hk hf
              refine ⟨pre, c, post, e1, by rw [hp i k hk, hpre], hcl, ?_, ?_⟩
              · simp only [AV.upd]; exact hset _ _ hX hc'l hc's
              · simpa [AV.upd, placesOk] using hp
            · cases hsub
          · rename_i esz els
            split at hsub
            · rename_i f hf
              simp only [Option.some.injEq, Prod.mk.injEq] at hsub
              obtain ⟨rfl, rfl⟩ := hsub
              obtain ⟨pre, c, post, e1, hpre, hcl, hfR, hfs, hset⟩ := hR.elem i f hf
              refine ⟨pre, c, post, e1, by rw [hp i, hpre], hcl, ?_, ?_⟩
              · simp only [AV.upd]; exact hset _ _ hX hc'l hc's
              · simpa [AV.upd, placesOk] using hp
            · cases hsub
          · cases hsub
        obtain ⟨pre, c, post, e1, hpl, hcl, hR', hp'⟩ := step
        have hfold := foldl_set c' pre c post cells e1 (by omega)
        have hs' : ∀ y ∈ pre ++ c' ++ post, sc y = true := fun y hy => by
          rcases List.mem_append.1 hy with hy | hy
          · rcases List.mem_append.1 hy with hy | hy
            · exact hs y (by rw [e1]; simp [hy])
            · exact hc's y hy
          · exact hs y (by rw [e1]; simp [hy])
        obtain ⟨cells', h1, h2, h3, h4, h5, h6⟩ := fill_sound place rest (z.upd [i] (s.ev x)) z' (c'.toArray.zipIdx.foldl (fun cs (x : Value × Nat) => cs.setIfInBounds (pre.length + x.2) x.1) cells) hp' (by rw [hfold]; exact hR') (by rw [hfold]; exact hs')
          (fun p hp => hok p (by simp [hp])) hT h
        refine ⟨cells', ?_, h2, h3, ?_, ?_, ?_⟩
        · simp only [List.map_cons, Instr.fill, hpl, hcells]
          have hb : ¬ (pre.length + c'.length > cells.size) := by rw [← Array.length_toList, e1]; simp; omega
          simp only [List.size_toArray, hc'l, ne_eq, not_true_eq_false, decide_false, Bool.false_or]
          rw [if_neg (by simpa [hc'l] using hb)]
          exact h1
        · intro hz
          refine h4 ?_
          cases z <;> simp [AV.isTup, AV.upd] at hz ⊢
        · intro ns fs hz
          subst hz
          obtain ⟨fs', h⟩ := h5 ns _ (by simp only [AV.upd]; rfl)
          exact ⟨fs', h⟩
        · intro e els hz
          subst hz
          obtain ⟨els', h, hl⟩ := h6 e _ (by simp only [AV.upd]; rfl)
          exact ⟨els', h, by rw [hl]; simp⟩
      · cases h
    · cases h

/-- The fields of a struct's type stand where its zero value's parts stand. -/
def fieldsOk (P : Program) : List Field → List Nat → Nat → Bool
  | [], [], _ => true
  | f :: fs, n :: ns, off => f.offset == off && szOf P f.type == some n && fieldsOk P fs ns (off + n)
  | _, _, _ => false

theorem fieldsOk_get {P : Program} : ∀ {fs : List Field} {ns : List Nat} {off : Nat}, fieldsOk P fs ns off = true → ∀ (i n : Nat), ns[i]? = some n → ∃ f, fs[i]? = some f ∧ f.offset = off + (ns.take i).sum ∧ szOf P f.type = some n
  | [], [], _, _, i, n, h => by simp at h
  | f :: fs, m :: ns, off, h, i, n, hn => by
    simp only [fieldsOk, Bool.and_eq_true, beq_iff_eq] at h
    cases i with
    | zero =>
      simp only [List.getElem?_cons_zero, Option.some.injEq] at hn
      subst hn
      exact ⟨f, rfl, by simpa using h.1.1, h.1.2⟩
    | succ i =>
      simp only [List.getElem?_cons_succ] at hn
      obtain ⟨g, h1, h2, h3⟩ := fieldsOk_get h.2 i n hn
      exact ⟨g, h1, by rw [h2]; simp; omega, h3⟩
  | [], _ :: _, _, h, _, _, _ => by simp [fieldsOk] at h
  | _ :: _, [], _, h, _, _, _ => by simp [fieldsOk] at h

theorem fieldsOk_len {P : Program} : ∀ {fs : List Field} {ns : List Nat} {off : Nat}, fieldsOk P fs ns off = true → fs.length = ns.length ∧ ∀ f ∈ fs, (szOf P f.type).isSome = true
  | [], [], _, _ => by simp
  | f :: fs, m :: ns, off, h => by
    simp only [fieldsOk, Bool.and_eq_true, beq_iff_eq] at h
    obtain ⟨h1, h2⟩ := fieldsOk_len h.2
    refine ⟨by simp [h1], fun g hg => ?_⟩
    rcases List.mem_cons.1 hg with rfl | hg
    · rw [h.1.2]; rfl
    · exact h2 g hg
  | [], _ :: _, _, h => by simp [fieldsOk] at h
  | _ :: _, [], _, h => by simp [fieldsOk] at h

/-- What stands for the fields' sizes. -/
theorem run_places {P : Program} (w : World) : ∀ (fs : List Field), (∀ f ∈ fs, (szOf P f.type).isSome = true) →
    (fs.mapM (m := Sem) fun f => do pure (f.offset, ← sizeOf f.type)).run P w = .ok (fs.map fun f => (f.offset, (szOf P f.type).getD 0)) w
  | [], _ => by simp
  | f :: fs, h => by
    obtain ⟨n, hn⟩ := Option.isSome_iff_exists.1 (h f (by simp))
    have ih := run_places (P := P) w fs (fun g hg => h g (by simp [hg]))
    simp only [List.mapM_cons, Sem.run_bind, run_sizeOf' hn, Result.andThen_ok, Sem.run_pure, ih, List.map_cons, hn, Option.getD_some]

end
end Go.Cab
