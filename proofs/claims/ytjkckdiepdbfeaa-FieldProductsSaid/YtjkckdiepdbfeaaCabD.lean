/- Part four: parts of values. -/
import Derived.Test.YtjkckdiepdbfeaaCabC
set_option linter.unusedSimpArgs false
set_option linter.unusedVariables false
set_option linter.unusedSectionVars false
namespace Go.Cab
open Go.RowKit
open Classical

section
variable {Imm : Nat → Nat → Prop} {w : World}

theorem R.scs {v : AV} {cs : List Value} (h : R Imm w v cs) (ht : v.isTup = false) : ∀ x ∈ cs, sc x = true := by
  induction h with
  | lit v hv => simpa using hv
  | ptr b l off p => simp [sc]
  | cptr n v cs b o _ hn hs ha ih => simp [sc]
  | slnil esz => simp [sc]
  | sl esz els cs b o cap _ ha hl ih => simp [sc]
  | own b V hV => simpa using hV
  | ifc t v cs _ ih => simp [sc]
  | st0 => simp
  | st1 n ns f fs c d _ hc hs _ ih1 ih2 =>
    intro x hx
    rcases List.mem_append.1 hx with hx | hx
    · exact hs x hx
    · exact ih2 rfl x hx
  | arr0 esz => simp
  | arr1 esz e els c d _ hc hs _ ih1 ih2 =>
    intro x hx
    rcases List.mem_append.1 hx with hx | hx
    · exact hs x hx
    · exact ih2 rfl x hx
  | tup0 => simp [AV.isTup] at ht
  | tup1 v vs c d _ _ ih1 ih2 => simp [AV.isTup] at ht

theorem R.len {v : AV} {cs : List Value} (h : R Imm w v cs) (ht : v.isTup = false) : cs.length = v.sz := by
  induction h with
  | st1 n ns f fs c d _ hc hs _ ih1 ih2 =>
    have := ih2 rfl
    simp only [AV.sz] at this
    simp [AV.sz, hc, this]
  | arr1 esz e els c d _ hc hs _ ih1 ih2 =>
    have := ih2 rfl
    simp only [AV.sz] at this
    simp [AV.sz, hc, this, Nat.add_mul, Nat.add_comm]
  | tup0 => simp [AV.isTup] at ht
  | tup1 v vs c d _ _ ih1 ih2 => simp [AV.isTup] at ht
  | _ => simp [AV.sz]

theorem R.cells {v : AV} {cs : List Value} (h : R Imm w v cs) (ht : v.isTup = false) : (asVal v cs).cells = cs.toArray := by
  cases v with
  | st ns fs => rfl
  | arr esz els => rfl
  | tup vs => simp [AV.isTup] at ht
  | any => simp [AV.isTup] at ht
  | _ =>
    have hl := h.len rfl
    have hs := h.scs rfl
    simp only [AV.sz] at hl
    match cs, hl with
    | [x], _ =>
      have hx := hs x (by simp)
      simp only [asVal, List.headD_cons]
      cases x <;> simp [sc] at hx <;> rfl

theorem R.notAny {cs : List Value} (h : R Imm w .any cs) : False := by cases h

/-- A field of a struct, and what it is with another one. -/
theorem R.field {ns : List Nat} {fs : List AV} {cs : List Value} (h : R Imm w (.st ns fs) cs) : ∀ (i n : Nat) (f : AV), ns[i]? = some n → fs[i]? = some f →
    ∃ pre c post, cs = pre ++ c ++ post ∧ pre.length = (ns.take i).sum ∧ c.length = n ∧ R Imm w f c ∧ (∀ x ∈ c, sc x = true) ∧
      ∀ f' c', R Imm w f' c' → c'.length = n → (∀ x ∈ c', sc x = true) → R Imm w (.st ns (fs.set i f')) (pre ++ c' ++ post) := by
  generalize hv : AV.st ns fs = v at h
  induction h generalizing ns fs with
  | st0 => cases hv; intro i n f h; simp at h
  | st1 m ms g gs c d hg hc hs hr ih1 ih2 =>
    cases hv
    intro i n f hn hf
    cases i with
    | zero =>
      simp only [List.getElem?_cons_zero, Option.some.injEq] at hn hf
      subst hn; subst hf
      exact ⟨[], c, d, by simp, by simp, hc, hg, hs, fun f' c' h1 h2 h3 => by simpa using R.st1 _ _ _ _ _ _ h1 h2 h3 hr⟩
    | succ i =>
      simp only [List.getElem?_cons_succ] at hn hf
      obtain ⟨pre, c1, post, e, hp, hc1, hf1, hs1, hset⟩ := ih2 rfl i n f hn hf
      refine ⟨c ++ pre, c1, post, by rw [e]; simp, by simp [hc, hp], hc1, hf1, hs1, fun f' c' h1 h2 h3 => ?_⟩
      have := R.st1 m ms g _ c _ hg hc hs (hset f' c' h1 h2 h3)
      simpa using this
  | _ => cases hv

theorem R.elem {esz : Nat} {els : List AV} {cs : List Value} (h : R Imm w (.arr esz els) cs) : ∀ (i : Nat) (f : AV), els[i]? = some f →
    ∃ pre c post, cs = pre ++ c ++ post ∧ pre.length = i * esz ∧ c.length = esz ∧ R Imm w f c ∧ (∀ x ∈ c, sc x = true) ∧
      ∀ f' c', R Imm w f' c' → c'.length = esz → (∀ x ∈ c', sc x = true) → R Imm w (.arr esz (els.set i f')) (pre ++ c' ++ post) := by
  generalize hv : AV.arr esz els = v at h
  induction h generalizing esz els with
  | arr0 => cases hv; intro i f h; simp at h
  | arr1 esz' g gs c d hg hc hs hr ih1 ih2 =>
    cases hv
    intro i f hf
    cases i with
    | zero =>
      simp only [List.getElem?_cons_zero, Option.some.injEq] at hf
      subst hf
      exact ⟨[], c, d, by simp, by simp, hc, hg, hs, fun f' c' h1 h2 h3 => by simpa using R.arr1 _ _ _ _ _ h1 h2 h3 hr⟩
    | succ i =>
      simp only [List.getElem?_cons_succ] at hf
      obtain ⟨pre, c1, post, e, hp, hc1, hf1, hs1, hset⟩ := ih2 rfl i f hf
      refine ⟨c ++ pre, c1, post, by rw [e]; simp, by simp [hc, hp, Nat.add_mul, Nat.add_comm], hc1, hf1, hs1, fun f' c' h1 h2 h3 => ?_⟩
      have := R.arr1 _ g _ c _ hg hc hs (hset f' c' h1 h2 h3)
      simpa using this
  | _ => cases hv

/-- The part at a path, and the value with another part there. -/
theorem R.nav : ∀ (p : List Nat) (v : AV) (acc n o m : Nat) (u : AV) (cs : List Value), R Imm w v cs → (∀ x ∈ cs, sc x = true) → cs.length = n → v.nav acc n p = some (o, m, u) →
    ∃ pre c post, cs = pre ++ c ++ post ∧ o = acc + pre.length ∧ c.length = m ∧ R Imm w u c ∧ (∀ x ∈ c, sc x = true) ∧
      ∀ u' c', R Imm w u' c' → c'.length = m → (∀ x ∈ c', sc x = true) → R Imm w (v.upd p u') (pre ++ c' ++ post)
  | [], v, acc, n, o, m, u, cs, h, hs, hl, hn => by
    simp only [AV.nav, Option.some.injEq, Prod.mk.injEq] at hn
    obtain ⟨rfl, rfl, rfl⟩ := hn
    exact ⟨[], cs, [], by simp, by simp, hl, h, hs, fun u' c' h1 h2 h3 => by simpa [AV.upd] using h1⟩
  | i :: p, .st ns fs, acc, n, o, m, u, cs, h, hs, hl, hn => by
    simp only [AV.nav] at hn
    split at hn
    · rename_i k f hk hf
      obtain ⟨pre, c, post, e, hp, hc, hf1, hs1, hset⟩ := h.field i k f hk hf
      obtain ⟨pre', c', post', e', ho, hc', hu, hs', hset'⟩ := R.nav p f _ k o m u c hf1 hs1 hc hn
      refine ⟨pre ++ pre', c', post' ++ post, by rw [e, e']; simp, by simp [ho, hp]; omega, hc', hu, hs', fun u' c2 h1 h2 h3 => ?_⟩
      have hlen : (pre' ++ c2 ++ post').length = k := by rw [← hc, e']; simp [h2, hc']
      have h4 := hset _ _ (hset' u' c2 h1 h2 h3) hlen (by
        intro x hx
        rcases List.mem_append.1 hx with hx | hx
        · rcases List.mem_append.1 hx with hx | hx
          · exact hs1 x (by rw [e']; simp [hx])
          · exact h3 x hx
        · exact hs1 x (by rw [e']; simp [hx]))
      have hg : fs.getD i .any = f := by simp [List.getD, hf]
      rw [AV.upd, hg]
      simpa using h4
    · cases hn
  | i :: p, .arr esz els, acc, n, o, m, u, cs, h, hs, hl, hn => by
    simp only [AV.nav] at hn
    split at hn
    · rename_i f hf
      obtain ⟨pre, c, post, e, hp, hc, hf1, hs1, hset⟩ := h.elem i f hf
      obtain ⟨pre', c', post', e', ho, hc', hu, hs', hset'⟩ := R.nav p f _ esz o m u c hf1 hs1 hc hn
      refine ⟨pre ++ pre', c', post' ++ post, by rw [e, e']; simp, by simp [ho, hp]; omega, hc', hu, hs', fun u' c2 h1 h2 h3 => ?_⟩
      have hlen : (pre' ++ c2 ++ post').length = esz := by rw [← hc, e']; simp [h2, hc']
      have h4 := hset _ _ (hset' u' c2 h1 h2 h3) hlen (by
        intro x hx
        rcases List.mem_append.1 hx with hx | hx
        · rcases List.mem_append.1 hx with hx | hx
          · exact hs1 x (by rw [e']; simp [hx])
          · exact h3 x hx
        · exact hs1 x (by rw [e']; simp [hx]))
      have hg : els.getD i .any = f := by simp [List.getD, hf]
      rw [AV.upd, hg]
      simpa using h4
    · cases hn
  | i :: p, .lit _, _, _, _, _, _, _, _, _, _, hn => by simp [AV.nav] at hn
  | i :: p, .ptr _ _ _ _, _, _, _, _, _, _, _, _, _, hn => by simp [AV.nav] at hn
  | i :: p, .cptr _ _, _, _, _, _, _, _, _, _, _, hn => by simp [AV.nav] at hn
  | i :: p, .sl _ _, _, _, _, _, _, _, _, _, _, hn => by simp [AV.nav] at hn
  | i :: p, .own _ _, _, _, _, _, _, _, _, _, _, hn => by simp [AV.nav] at hn
  | i :: p, .ifc _ _, _, _, _, _, _, _, _, _, _, hn => by simp [AV.nav] at hn
  | i :: p, .tup _, _, _, _, _, _, _, _, _, _, hn => by simp [AV.nav] at hn
  | i :: p, .any, _, _, _, _, _, _, _, _, _, hn => by simp [AV.nav] at hn

end
end Go.Cab
