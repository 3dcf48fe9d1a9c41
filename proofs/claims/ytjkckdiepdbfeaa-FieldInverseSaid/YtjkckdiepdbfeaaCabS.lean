/- Part seventeen: code, functions. -/
import Derived.Test.YtjkckdiepdbfeaaCabQ
import Derived.Deep.LoopGhost
set_option linter.unusedSimpArgs false
set_option linter.unusedVariables false
set_option linter.unusedSectionVars false
namespace Go.Cab
open Go.RowKit
open Classical

inductive AC where
  | skip
  | reg (xs : List AOp)
  | seq (a b : AC)
  | cond (c : Operand) (x y : AC)
  | block (id : Nat) (b : AC)
  | loop (b : AC)
  | exit (id : Nat)
  | ret
  deriving Inhabited

/-- How a piece of code ends. -/
inductive AX where
  | normal
  | exit (id : Nat)
  | ret

def AX.toExit : AX → Exit
  | .normal => .normal
  | .exit id => .exit id
  | .ret => .ret

/-- s' says no more than s. -/
def Le (s s' : AS) : Prop := ∀ w0 regs St a w, SRel w0 regs St s a w → SRel w0 regs St s' a w

theorem Le.refl (s : AS) : Le s s := fun _ _ _ _ _ h => h
theorem Le.trans {s t u : AS} (h : Le s t) (k : Le t u) : Le s u := fun w0 regs St a w x => k w0 regs St a w (h w0 regs St a w x)
theorem Le.seals (s : AS) (bs : List Nat) : Le s (s.seals bs) := fun _ _ _ _ _ h => SRel.sealsAll bs h

def leT : List AV → List AV → Prop
  | [], [] => True
  | v :: vs, u :: us => (u = .any ∨ u = v) ∧ leT vs us
  | _, _ => False
def leH : List (Option Blk) → List (Option Blk) → Prop
  | [], [] => True
  | v :: vs, u :: us => (u = none ∨ u = v) ∧ leH vs us
  | _, _ => False

theorem leT_get : ∀ {x y : List AV}, leT x y → x.length = y.length ∧ ∀ (t : Nat) (u : AV), y[t]? = some u → u = .any ∨ x[t]? = some u
  | [], [], _ => ⟨rfl, by simp⟩
  | v :: vs, u :: us, h => by
    obtain ⟨h1, h2⟩ := leT_get h.2
    refine ⟨by simp [h1], fun t w hw => ?_⟩
    cases t with
    | zero => simp only [List.getElem?_cons_zero, Option.some.injEq] at hw ⊢; subst hw; exact h.1.imp id fun e => by rw [e]
    | succ t => simpa using h2 t w (by simpa using hw)
  | [], _ :: _, h => h.elim
  | _ :: _, [], h => h.elim

theorem leH_get : ∀ {x y : List (Option Blk)}, leH x y → ∀ (t : Nat) (u : Blk), (y[t]?).join = some u → (x[t]?).join = some u
  | [], [], _, t, u, h => by simp at h
  | v :: vs, u :: us, h, t, w, hw => by
    cases t with
    | zero =>
      rcases h.1 with e | e
      · subst e; simp at hw
      · subst e; simpa using hw
    | succ t => simpa using leH_get h.2 t w (by simpa using hw)
  | [], _ :: _, h, _, _, _ => h.elim
  | _ :: _, [], h, _, _, _ => h.elim

theorem Le.mk {s s' : AS} (hn : s'.nr = s.nr) (ht : leT s.tm s'.tm) (hh : leH s.hp s'.hp) : Le s s' := fun w0 regs St a w h => by
  obtain ⟨Imm, h1, h2, h3⟩ := h.ex
  obtain ⟨hl, hg⟩ := leT_get ht
  refine ⟨h.defers, by rw [h.tsize, hl], h.frame, Imm, h1, fun t v hv => ?_, ⟨fun k x hx => h3.ok k x (leH_get hh k x hx), fun k k' x y hne hx hy => h3.apart k k' x y hne (leH_get hh k x hx) (leH_get hh k' y hy)⟩⟩
  rcases hg t v hv with e | e
  · exact .inl e
  · exact h2 t v e

/-- A nil list may be taken for one of the call's own. -/
theorem Le.nilRow {s : AS} {t b : Nat} (ht : s.tm[t]? = some (.lit (.slice none 0 0))) (hb : s.blk b = none) (e : TypeId) (esz : Nat) :
    Le s { s with tm := s.tm.set t (.own b (.slice none 0 0)), hp := s.hp.set b (some (.row e (.slice none 0 0) esz [] 0)) } := fun w0 regs St a w h => by
  obtain ⟨Imm, h1, h2, h3⟩ := h.ex
  refine ⟨h.defers, by simpa using h.tsize, h.frame, Imm, h1, fun t' v hv => ?_, ?_⟩
  · simp only [List.getElem?_set] at hv
    by_cases e1 : t = t'
    · subst e1
      simp only [if_true] at hv
      split at hv
      · cases hv
        have := (h2 t _ ht).lit.1
        exact .inr ⟨[.slice none 0 0], .own _ _ rfl, by rw [this]; rfl⟩
      · cases hv
    · rw [if_neg e1] at hv; exact h2 t' v hv
  · refine h3.lay ⟨[], .arr0 _, World.ownsRow_nil w 0 e esz, rfl, Nat.le_refl _, fun b o hb => by cases hb⟩ (fun b o hf => by cases hf) (fun k y _ _ b o hf => by cases hf)

noncomputable def AC.wp (P : Program) : AC → AS → (AX → AS → Prop) → Prop
  | .skip, s, Q => Q .normal s
  | .reg xs, s, Q => AReg P xs s (Q .normal)
  | .seq a b, s, Q => a.wp P s fun x s' => match x with | .normal => b.wp P s' Q | x => Q x s'
  | .cond c x y, s, Q => match s.ev c with
    | .lit (.bool t) => if t then x.wp P s Q else y.wp P s Q
    | _ => False
  | .block id c, s, Q => c.wp P s fun x s' => match x with | .exit i => if i = id then Q .normal s' else Q (.exit i) s' | x => Q x s'
  | .loop c, s, Q => ∃ (I : Nat → AS → Prop) (n : Nat), (∃ s0, Le s s0 ∧ I n s0) ∧ ∀ n s, I n s → c.wp P s fun x s' => match x with
    | .normal => ∃ m, m < n ∧ ∃ s0, Le s' s0 ∧ I m s0
    | x => Q x s'
  | .exit id, s, Q => Q (.exit id) s
  | .ret, s, Q => Q .ret s

def compC (P : Program) : Code → Option AC
  | .skip => some .skip
  | .region _ ops draw => match compOs P draw ops ops.toList with
    | some xs => if draw then (if P.follows .mixedOrders && lexA ops (annot ops xs) then some (.reg (annot ops xs)) else none) else some (.reg xs)
    | none => none
  | .seq a b => match compC P a, compC P b with | some x, some y => some (.seq x y) | _, _ => none
  | .cond c a b => if okO c then (match compC P a, compC P b with | some x, some y => some (.cond c x y) | _, _ => none) else none
  | .block id c => match compC P c with | some x => some (.block id x) | none => none
  | .loop c => match compC P c with | some x => some (.loop x) | none => none
  | .exit id => some (.exit id)
  | .ret => some .ret
  | _ => none

section
variable {P : Program} {w0 : World} {regs : List (Nat × Nat × Nat)} {St : Nat → Nat → Prop}

theorem AC.sound : ∀ (c : Code) (ac : AC) (s : AS) (Q : AX → AS → Prop) (a : Act) (w : World), compC P c = some ac → ac.wp P s Q → SRel w0 regs St s a w →
    c.wp P (fun e a' w' => ∃ x s', e = AX.toExit x ∧ Q x s' ∧ SRel w0 regs St s' a' w') a w
  | .skip, ac, s, Q, a, w, hc, h, hs => by
    cases hc
    exact wp_skip ⟨.normal, s, rfl, h, hs⟩
  | .region id ops draw, ac, s, Q, a, w, hc, h, hs => by
    simp only [compC] at hc
    split at hc <;> try (cases hc; done)
    rename_i xs hxs
    cases draw with
    | false =>
      simp only [Bool.false_eq_true, if_false] at hc
      cases hc
      exact Code.wp_mono (fun e a' w' ⟨he, s', hk, hs'⟩ => ⟨.normal, s', he, hk, hs'⟩) (wp_region_A (.inl rfl) hxs (.inl rfl) h hs)
    | true =>
      simp only [if_true] at hc
      split at hc <;> try (cases hc; done)
      rename_i hok
      simp only [Bool.and_eq_true] at hok
      cases hc
      exact Code.wp_mono (fun e a' w' ⟨he, s', hk, hs'⟩ => ⟨.normal, s', he, hk, hs'⟩) (wp_region_A (.inr hok.1) hxs (.inr hok.2) h hs)
  | .seq x y, ac, s, Q, a, w, hc, h, hs => by
    simp only [compC] at hc
    split at hc <;> try (cases hc; done)
    rename_i x' y' hx hy
    cases hc
    refine wp_seq (Code.wp_mono (fun e a' w' ⟨ex, s', he, hk, hs'⟩ => ?_) (AC.sound x x' s _ a w hx h hs))
    subst he
    cases ex with
    | normal => exact AC.sound y y' s' Q a' w' hy hk hs'
    | exit id => exact ⟨.exit id, s', rfl, hk, hs'⟩
    | ret => exact ⟨.ret, s', rfl, hk, hs'⟩
  | .cond c x y, ac, s, Q, a, w, hc, h, hs => by
    simp only [compC] at hc
    split at hc <;> try (cases hc; done)
    rename_i hok
    split at hc <;> try (cases hc; done)
    rename_i x' y' hx hy
    cases hc
    simp only [AC.wp] at h
    split at h <;> try exact h.elim
    rename_i t ht
    obtain ⟨Imm, h1, h2, h3⟩ := hs.ex
    have hC := h2.eval c (okO_sc hok)
    rw [ht] at hC
    refine wp_cond hC.lit.1 ?_
    cases t
    · exact AC.sound y y' s Q a w hy h hs
    · exact AC.sound x x' s Q a w hx h hs
  | .block id c, ac, s, Q, a, w, hc, h, hs => by
    simp only [compC] at hc
    split at hc <;> try (cases hc; done)
    rename_i x' hx
    cases hc
    refine wp_block (Code.wp_mono (fun e a' w' ⟨ex, s', he, hk, hs'⟩ => ?_) (AC.sound c x' s _ a w hx h hs))
    subst he
    cases ex with
    | normal => exact ⟨.normal, s', rfl, hk, hs'⟩
    | exit i =>
      simp only [AX.toExit, Exit.inBlock]
      simp only at hk
      split
      · rename_i hi; rw [if_pos hi] at hk; exact ⟨.normal, s', rfl, hk, hs'⟩
      · rename_i hi; rw [if_neg hi] at hk; exact ⟨.exit i, s', rfl, hk, hs'⟩
    | ret => exact ⟨.ret, s', rfl, hk, hs'⟩
  | .loop c, ac, s, Q, a, w, hc, h, hs => by
    simp only [compC] at hc
    split at hc <;> try (cases hc; done)
    rename_i x' hx
    cases hc
    simp only [AC.wp] at h
    obtain ⟨I, n, ⟨s0, hle, hI⟩, hstep⟩ := h
    refine wp_loop_ghost (fun n a w => ∃ s, I n s ∧ SRel w0 regs St s a w) n ⟨s0, hI, hle _ _ _ _ _ hs⟩ ?_
    rintro m a' w' ⟨s1, hI1, hs1⟩
    refine Code.wp_mono (fun e a2 w2 ⟨ex, s', he, hk, hs'⟩ => ?_) (AC.sound c x' s1 _ a' w' hx (hstep m s1 hI1) hs1)
    subst he
    cases ex with
    | normal =>
      obtain ⟨m', hlt, s2, hle2, hI2⟩ := hk
      exact ⟨m', hlt, s2, hI2, hle2 _ _ _ _ _ hs'⟩
    | exit i => exact ⟨.exit i, s', rfl, hk, hs'⟩
    | ret => exact ⟨.ret, s', rfl, hk, hs'⟩
  | .exit id, ac, s, Q, a, w, hc, h, hs => by
    cases hc
    exact wp_exit ⟨.exit id, s, rfl, h, hs⟩
  | .ret, ac, s, Q, a, w, hc, h, hs => by
    cases hc
    exact wp_ret ⟨.ret, s, rfl, h, hs⟩
  | .rangeFunc .., ac, s, Q, a, w, hc, h, hs => by simp [compC] at hc
  | .scope .., ac, s, Q, a, w, hc, h, hs => by simp [compC] at hc
  | .label .., ac, s, Q, a, w, hc, h, hs => by simp [compC] at hc
  | .goto .., ac, s, Q, a, w, hc, h, hs => by simp [compC] at hc
  | .refuse .., ac, s, Q, a, w, hc, h, hs => by simp [compC] at hc

end
end Go.Cab
