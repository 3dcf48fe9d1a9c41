/- Part thirteen: regions: one walk in the order of the text serves every order that the program leaves open. -/
import Derived.Test.YtjkckdiepdbfeaaCabL
set_option linter.unusedSimpArgs false
set_option linter.unusedVariables false
set_option linter.unusedSectionVars false
namespace Go.Cab
open Go.RowKit
open Classical

/-- An operation with its guard and its place. -/
structure AOp where
  dst : Option Tmp
  guard : Option (Tmp × Bool)
  ai : AI
  /-- Whose places it must not read: those that another operation may write before it, or behind it. -/
  forb : List Tmp := []
  /-- The place that it writes, where an order is left open. -/
  own : Option Tmp := none
  deriving Inhabited

def AOp.ro (x : AOp) (nr : Nat) : Nat → Bool := fun b => x.forb.all fun t => b != nr + t

/-- It writes where it says. -/
def AOp.mine (x : AOp) (s : AS) : Prop :=
  match x.own, x.ai with
  | some t, .store _ p _ => ∃ l off path, s.ev p = .ptr (s.nr + t) l off path
  | _, _ => True

noncomputable def AOp.go (P : Program) (s : AS) (K : AS → Prop) (x : AOp) : Prop :=
  match x.guard with
  | none => x.mine s ∧ x.ai.go P (x.ro s.nr) s x.dst K
  | some (t, want) => match s.ev (.tmp t) with
    | .lit (.bool b) => if b = want then x.mine s ∧ x.ai.go P (x.ro s.nr) s x.dst K else K (s.put x.dst (.tup []))
    | .tup [] => K (s.put x.dst (.tup []))
    | _ => False

noncomputable def AReg (P : Program) : List AOp → AS → (AS → Prop) → Prop
  | [], s, K => K s
  | x :: xs, s, K => x.go P s fun s' => AReg P xs s' K

/-- Which operands an operation looks at. -/
def AI.ops : AI → List Operand
  | .mov x | .un _ x | .cvt _ x | .box _ x | .load _ _ x | .faddr _ _ x | .fieldv _ _ _ _ x | .len _ x | .ext x _ | .nilc x => [x]
  | .pick c a b | .add64 c a b => [c, a, b]
  | .bin _ x y | .beq _ x y | .store _ x y | .iaddrA _ _ x y | .iaddrS _ x y | .append _ _ _ x y | .mkslice _ _ _ _ x y | .eqv _ _ x y => [x, y]
  | .alloc _ _ => []
  | .build _ ps | .bslice _ _ _ ps => ps.map (·.2)
  | .call _ xs | .callv _ xs | .lcall _ xs => xs
  | .icall _ x xs => x :: xs

/-- 0: it looks at its operands alone. 1: it reads memory too. 2: it may turn it. -/
def AI.cls : AI → Nat
  | .mov _ | .pick .. | .bin .. | .beq .. | .un .. | .cvt .. | .build .. | .bslice .. | .ext .. | .faddr .. | .iaddrA .. | .fieldv .. | .nilc _ | .add64 .. => 0
  | .load .. | .len .. | .iaddrS .. | .callv .. | .lcall .. | .eqv .. => 1
  | _ => 2

section
variable {P : Program} {ro : Nat → Bool} {s : AS} {K K' : AS → Prop} {dst : Option Tmp}

/-- What an operation of the first two classes answers. -/
noncomputable def AI.val (P : Program) (ro : Nat → Bool) (s : AS) : AI → AV → Prop
  | .mov x, v => v = s.ev x
  | .pick c a b, v => ∃ t, s.ev c = .lit (.bool t) ∧ v = if t then s.ev a else s.ev b
  | .bin op x y, v => ∃ a b u, s.ev x = .lit a ∧ s.ev y = .lit b ∧ binVal op a b = some u ∧ v = .lit u
  | .beq neg x y, v => ∃ p q, s.ev x = .lit (.bool p) ∧ s.ev y = .lit (.bool q) ∧ v = .lit (.bool (if neg then !(p == q) else p == q))
  | .un op x, v => ∃ a u, s.ev x = .lit a ∧ unVal op a = some u ∧ v = .lit u
  | .cvt k x, v => ∃ k' n, s.ev x = .lit (.int k' n) ∧ v = .lit (.int k (k.wrap n))
  | .build z parts, v => fillAV s z parts = some v
  | .bslice esz z n parts, v => ∃ k els, fillAV s (.arr esz (List.replicate n z)) parts = some (.arr k els) ∧ v = .sl esz els
  | .ext x i, v => ∃ vs, s.ev x = .tup vs ∧ vs[i]? = some v
  | .nilc x, v => v = s.ev x ∧ ((∃ b l off p, s.ev x = .ptr b l off p) ∨ ∃ n u, s.ev x = .cptr n u)
  | .add64 x y c, v => ∃ a b d, s.ev x = .lit (.int .u64 a) ∧ s.ev y = .lit (.int .u64 b) ∧ s.ev c = .lit (.int .u64 d) ∧ (0 ≤ a ∧ 0 ≤ b ∧ 0 ≤ d ∧ d ≤ 1) ∧
      v = .tup [.lit (.int .u64 ((a + b + d) % 18446744073709551616)), .lit (.int .u64 ((a + b + d) / 18446744073709551616))]
  | .faddr off idx x, v => AS.fieldAddr off idx (s.ev x) = some v
  | .iaddrA ln esz x i, v => ∃ k n, s.ev i = .lit (.int k n) ∧ AS.idxAddr ln esz n (s.ev x) = some v
  | .fieldv off idx n agg x, v => ∃ ns fs, s.ev x = .st ns fs ∧ (ns.take idx).sum = off ∧ ns[idx]? = some n ∧ fs[idx]? = some v ∧ v.isAgg = agg ∧ v.isTup = false
  | .load agg n x, v => s.peek ro (s.ev x) = some (n, v) ∧ v.isAgg = agg ∧ v.isTup = false
  | .len str x, v => ∃ n, s.lenOf ro str (s.ev x) = some n ∧ v = .lit (.int .i64 n)
  | .iaddrS esz x i, v => ∃ k n, s.ev i = .lit (.int k n) ∧ s.elemAddr ro esz n (s.ev x) = some v
  | .callv f args, v => PCall P f (args.map fun x => s.coe ro (s.ev x)) (.val v)
  | .lcall f args, v => v.plain = true ∧ PCall P f (args.map fun x => s.lend ro (s.ev x)) (.val v)
  | .eqv t neg x y, v => ∃ b, EqAV P t (s.ev x) (s.ev y) b ∧ (s.ev x).isAgg = true ∧ (s.ev y).isAgg = true ∧ v = .lit (.bool (if neg then !b else b))
  | _, _ => False

theorem AI.go_val {ai : AI} (h : ai.cls < 2) : ai.go P ro s dst K ↔ ∃ v, ai.val P ro s v ∧ K (s.put dst v) := by
  cases ai <;> simp only [AI.cls] at h <;> try omega
  all_goals simp only [AI.go, AI.val]
  case mov x => simp
  case pick c a b =>
    constructor
    · intro h; split at h
      · rename_i t ht; exact ⟨_, ⟨t, ht, rfl⟩, h⟩
      · exact h.elim
    · rintro ⟨v, ⟨t, ht, rfl⟩, hK⟩; rw [ht]; exact hK
  case bin op x y =>
    constructor
    · intro h; split at h
      · rename_i p q hp hq
        split at h
        · rename_i u hu; exact ⟨_, ⟨p, q, u, hp, hq, hu, rfl⟩, h⟩
        · exact h.elim
      · exact h.elim
    · rintro ⟨v, ⟨p, q, u, hp, hq, hu, rfl⟩, hK⟩; rw [hp, hq]; simp only [hu]; exact hK
  case beq neg x y =>
    constructor
    · intro h; split at h
      · rename_i p q hp hq; exact ⟨_, ⟨p, q, hp, hq, rfl⟩, h⟩
      · exact h.elim
    · rintro ⟨v, ⟨p, q, hp, hq, rfl⟩, hK⟩; rw [hp, hq]; exact hK
  case un op x =>
    constructor
    · intro h; split at h
      · rename_i p hp
        split at h
        · rename_i u hu; exact ⟨_, ⟨p, u, hp, hu, rfl⟩, h⟩
        · exact h.elim
      · exact h.elim
    · rintro ⟨v, ⟨p, u, hp, hu, rfl⟩, hK⟩; rw [hp]; simp only [hu]; exact hK
  case cvt k x =>
    constructor
    · intro h; split at h
      · rename_i k' n hn; exact ⟨_, ⟨k', n, hn, rfl⟩, h⟩
      · exact h.elim
    · rintro ⟨v, ⟨k', n, hn, rfl⟩, hK⟩; rw [hn]; exact hK
  case build z parts =>
    constructor
    · intro h; split at h
      · rename_i v hv; exact ⟨v, hv, h⟩
      · exact h.elim
    · rintro ⟨v, hv, hK⟩; rw [hv]; exact hK
  case bslice esz z n parts =>
    constructor
    · intro h; split at h
      · rename_i k els hv; exact ⟨_, ⟨k, els, hv, rfl⟩, h⟩
      · exact h.elim
    · rintro ⟨v, ⟨k, els, hv, rfl⟩, hK⟩; rw [hv]; exact hK
  case load agg n x =>
    constructor
    · intro h; split at h
      · rename_i m u hp; obtain ⟨rfl, h1, h2, hK⟩ := h; exact ⟨u, ⟨hp, h1, h2⟩, hK⟩
      · exact h.elim
    · rintro ⟨v, ⟨hp, h1, h2⟩, hK⟩; rw [hp]; exact ⟨rfl, h1, h2, hK⟩
  case faddr off idx x =>
    constructor
    · intro h; split at h
      · rename_i v hv; exact ⟨v, hv, h⟩
      · exact h.elim
    · rintro ⟨v, hv, hK⟩; rw [hv]; exact hK
  case iaddrA ln esz x i =>
    constructor
    · intro h; split at h
      · rename_i k n hn
        split at h
        · rename_i v hv; exact ⟨v, ⟨k, n, hn, hv⟩, h⟩
        · exact h.elim
      · exact h.elim
    · rintro ⟨v, ⟨k, n, hn, hv⟩, hK⟩; rw [hn]; simp only [hv]; exact hK
  case iaddrS esz x i =>
    constructor
    · intro h; split at h
      · rename_i k n hn
        split at h
        · rename_i v hv; exact ⟨v, ⟨k, n, hn, hv⟩, h⟩
        · exact h.elim
      · exact h.elim
    · rintro ⟨v, ⟨k, n, hn, hv⟩, hK⟩; rw [hn]; simp only [hv]; exact hK
  case fieldv off idx n agg x =>
    constructor
    · intro h; split at h
      · rename_i ns fs hx
        obtain ⟨h1, h2, h⟩ := h
        split at h
        · rename_i v hv; exact ⟨v, ⟨ns, fs, hx, h1, h2, hv, h.1, h.2.1⟩, h.2.2⟩
        · exact h.elim
      · exact h.elim
    · rintro ⟨v, ⟨ns, fs, hx, h1, h2, hv, h3, h4⟩, hK⟩; rw [hx]; exact ⟨h1, h2, by rw [hv]; exact ⟨h3, h4, hK⟩⟩
  case len str x =>
    constructor
    · intro h; split at h
      · rename_i n hn; exact ⟨_, ⟨n, hn, rfl⟩, h⟩
      · exact h.elim
    · rintro ⟨v, ⟨n, hn, rfl⟩, hK⟩; rw [hn]; exact hK
  case ext x i =>
    constructor
    · intro h; split at h
      · rename_i vs hvs
        split at h
        · rename_i v hv; exact ⟨v, ⟨vs, hvs, hv⟩, h⟩
        · exact h.elim
      · exact h.elim
    · rintro ⟨v, ⟨vs, hvs, hv⟩, hK⟩; rw [hvs]; simp only [hv]; exact hK
  case nilc x =>
    constructor
    · intro h; split at h
      · rename_i b l off p hx; exact ⟨_, ⟨rfl, .inl ⟨b, l, off, p, hx⟩⟩, by rw [hx]; exact h⟩
      · rename_i n u hx; exact ⟨_, ⟨rfl, .inr ⟨n, u, hx⟩⟩, by rw [hx]; exact h⟩
      · exact h.elim
    · rintro ⟨v, ⟨rfl, h⟩, hK⟩
      rcases h with ⟨b, l, off, p, hx⟩ | ⟨n, u, hx⟩
      · rw [hx] at hK ⊢; exact hK
      · rw [hx] at hK ⊢; exact hK
  case add64 x y c =>
    constructor
    · intro h; split at h
      · rename_i a b d h1 h2 h3
        split at h
        · rename_i hb; exact ⟨_, ⟨a, b, d, h1, h2, h3, hb, rfl⟩, h⟩
        · exact h.elim
      · exact h.elim
    · rintro ⟨v, ⟨a, b, d, h1, h2, h3, hb, rfl⟩, hK⟩
      rw [h1, h2, h3]; simp only [if_pos hb]; exact hK
  case lcall f args => simp only [and_assoc]
  case eqv t neg x y =>
    constructor
    · rintro ⟨b, h1, h2, h3, hK⟩; exact ⟨_, ⟨b, h1, h2, h3, rfl⟩, hK⟩
    · rintro ⟨v, ⟨b, h1, h2, h3, rfl⟩, hK⟩; exact ⟨b, h1, h2, h3, hK⟩

end
end Go.Cab
