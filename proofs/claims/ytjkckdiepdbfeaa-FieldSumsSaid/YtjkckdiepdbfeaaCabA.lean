/- Part one of a small calculus for pure Go functions over abstract values: the values, what they stand for in a world, and that this lasts. -/
import Derived.WalkKit
import Derived.WalkSpells
set_option linter.unusedSimpArgs false
set_option linter.unusedVariables false
set_option linter.unusedSectionVars false
namespace Go.Cab

/-- Abstract values. -/
inductive AV where
  | lit (v : Value)
  | ptr (b : Nat) (l : Nat × Nat) (off : Nat) (path : List Nat)
  | cptr (n : Nat) (v : AV)
  | sl (esz : Nat) (els : List AV)
  | own (b : Nat) (V : Value)
  | ifc (t : TypeId) (v : AV)
  | st (ns : List Nat) (fs : List AV)
  | arr (esz : Nat) (els : List AV)
  | tup (vs : List AV)
  | any
  deriving Inhabited

abbrev AV.int (k : IntKind) (n : Int) : AV := .lit (.int k n)
abbrev AV.bool (b : Bool) : AV := .lit (.bool b)

/-- Is it the value of one cell? -/
def sc : Value → Bool
  | .agg _ | .tuple _ => false
  | _ => true

def asVal : AV → List Value → Value
  | .st _ _, cs | .arr _ _, cs => .agg cs.toArray
  | .tup _, cs => .tuple cs.toArray
  | _, cs => cs.headD undef

/-- The cells from (b, o) on hold these values, and are among those that nobody writes any more. -/
def At (Imm : Nat → Nat → Prop) (w : World) (b o : Nat) (cs : List Value) : Prop :=
  ∀ i v, cs[i]? = some v → w.cell? ⟨b, o + i, none⟩ = some v ∧ Imm b (o + i)

inductive R (Imm : Nat → Nat → Prop) (w : World) : AV → List Value → Prop
  | lit (v : Value) : sc v = true → R Imm w (.lit v) [v]
  | ptr (b : Nat) (l : Nat × Nat) (off : Nat) (p : List Nat) : R Imm w (.ptr b l off p) [.pointer (some ⟨l.1, l.2 + off, none⟩)]
  | cptr (n : Nat) (v : AV) (cs : List Value) (b o : Nat) : R Imm w v cs → cs.length = n → (∀ x ∈ cs, sc x = true) → At Imm w b o cs → R Imm w (.cptr n v) [.pointer (some ⟨b, o, none⟩)]
  | slnil (esz : Nat) : R Imm w (.sl esz []) [.slice none 0 0]
  | sl (esz : Nat) (els : List AV) (cs : List Value) (b o cap : Nat) : R Imm w (.arr esz els) cs → At Imm w b o cs → els.length ≤ cap →
      R Imm w (.sl esz els) [.slice (some ⟨b, o, none⟩) els.length cap]
  | own (b : Nat) (V : Value) : sc V = true → R Imm w (.own b V) [V]
  | ifc (t : TypeId) (v : AV) (cs : List Value) : R Imm w v cs → R Imm w (.ifc t v) [.iface t (asVal v cs)]
  | st0 : R Imm w (.st [] []) []
  | st1 (n : Nat) (ns : List Nat) (f : AV) (fs : List AV) (c d : List Value) : R Imm w f c → c.length = n → (∀ x ∈ c, sc x = true) → R Imm w (.st ns fs) d → R Imm w (.st (n :: ns) (f :: fs)) (c ++ d)
  | arr0 (esz : Nat) : R Imm w (.arr esz []) []
  | arr1 (esz : Nat) (e : AV) (els : List AV) (c d : List Value) : R Imm w e c → c.length = esz → (∀ x ∈ c, sc x = true) → R Imm w (.arr esz els) d → R Imm w (.arr esz (e :: els)) (c ++ d)
  | tup0 : R Imm w (.tup []) []
  | tup1 (v : AV) (vs : List AV) (c d : List Value) : R Imm w v c → R Imm w (.tup vs) d → R Imm w (.tup (v :: vs)) (asVal v c :: d)

/-- What a temporary may hold. -/
def Rel (Imm : Nat → Nat → Prop) (w : World) (v : AV) (V : Value) : Prop := v = .any ∨ ∃ cs, R Imm w v cs ∧ V = asVal v cs

theorem At.mono {Imm Imm' : Nat → Nat → Prop} {w w' : World} {b o : Nat} {cs : List Value} (h : At Imm w b o cs) (hi : ∀ b o, Imm b o → Imm' b o)
    (hw : ∀ b o, Imm b o → w'.cell? ⟨b, o, none⟩ = w.cell? ⟨b, o, none⟩) : At Imm' w' b o cs := fun i v hv => by
  obtain ⟨h1, h2⟩ := h i v hv
  exact ⟨by rw [hw _ _ h2]; exact h1, hi _ _ h2⟩

theorem R.mono {Imm Imm' : Nat → Nat → Prop} {w w' : World} {v : AV} {cs : List Value} (h : R Imm w v cs) (hi : ∀ b o, Imm b o → Imm' b o)
    (hw : ∀ b o, Imm b o → w'.cell? ⟨b, o, none⟩ = w.cell? ⟨b, o, none⟩) : R Imm' w' v cs := by
  induction h with
  | lit v hv => exact .lit v hv
  | ptr b l off p => exact .ptr b l off p
  | cptr n v cs b o _ hn hs ha ih => exact .cptr n v cs b o ih hn hs (ha.mono hi hw)
  | slnil esz => exact .slnil esz
  | sl esz els cs b o cap _ ha hl ih => exact .sl esz els cs b o cap ih (ha.mono hi hw) hl
  | own b V hV => exact .own b V hV
  | ifc t v cs _ ih => exact .ifc t v cs ih
  | st0 => exact .st0
  | st1 n ns f fs c d _ hc hs _ ih1 ih2 => exact .st1 n ns f fs c d ih1 hc hs ih2
  | arr0 esz => exact .arr0 esz
  | arr1 esz e els c d _ hc hs _ ih1 ih2 => exact .arr1 esz e els c d ih1 hc hs ih2
  | tup0 => exact .tup0
  | tup1 v vs c d _ _ ih1 ih2 => exact .tup1 v vs c d ih1 ih2

theorem Rel.mono {Imm Imm' : Nat → Nat → Prop} {w w' : World} {v : AV} {V : Value} (h : Rel Imm w v V) (hi : ∀ b o, Imm b o → Imm' b o)
    (hw : ∀ b o, Imm b o → w'.cell? ⟨b, o, none⟩ = w.cell? ⟨b, o, none⟩) : Rel Imm' w' v V := by
  rcases h with h | ⟨cs, h, e⟩
  · exact .inl h
  · exact .inr ⟨cs, h.mono hi hw, e⟩

/-- Only one thing may stand for a literal. -/
theorem Rel.lit {Imm : Nat → Nat → Prop} {w : World} {v V : Value} (h : Rel Imm w (.lit v) V) : V = v ∧ sc v = true := by
  rcases h with h | ⟨cs, h, e⟩
  · cases h
  · cases h with
    | lit _ hs => exact ⟨e, hs⟩

theorem Rel.mkLit {Imm : Nat → Nat → Prop} {w : World} {v : Value} (h : sc v = true) : Rel Imm w (.lit v) v := .inr ⟨[v], .lit v h, rfl⟩

/-! ### Blocks -/

inductive Blk where
  | box (l : Nat × Nat) (n : Nat) (v : AV)
  | row (e : TypeId) (V : Value) (esz : Nat) (els : List AV) (seal_ : Nat)
  deriving Inhabited

/-- Whose cells may it write? -/
def Blk.foot : Blk → Nat → Nat → Prop
  | .box l n _, b, o => b = l.1 ∧ l.2 ≤ o ∧ o < l.2 + n
  | .row _ V _ _ _, b, _ => V.ownBlock = some b

def Blk.ok (Imm : Nat → Nat → Prop) (w : World) : Blk → Prop
  | .box l n v => (∃ cs, R Imm w v cs ∧ cs.length = n ∧ (∀ x ∈ cs, sc x = true) ∧ ∀ i x, cs[i]? = some x → w.cell? ⟨l.1, l.2 + i, none⟩ = some x) ∧
      ∀ i, i < n → w.frozen? ⟨l.1, l.2 + i, none⟩ = false ∧ ¬ Imm l.1 (l.2 + i)
  | .row e V esz els s => ∃ cs, R Imm w (.arr esz els) cs ∧ w.ownsRow 0 e esz V els.length cs ∧ sc V = true ∧ s ≤ els.length ∧ ∀ b o, V.ownBlock = some b → s * esz ≤ o → ¬ Imm b o

end Go.Cab
