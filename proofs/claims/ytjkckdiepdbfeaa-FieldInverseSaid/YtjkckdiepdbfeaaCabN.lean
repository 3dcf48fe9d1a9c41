/- Part fourteen: two operations that are apart may change places. -/
import Derived.Test.YtjkckdiepdbfeaaCabM
set_option linter.unusedSimpArgs false
set_option linter.unusedVariables false
set_option linter.unusedSectionVars false
namespace Go.Cab
open Go.RowKit
open Classical

section
variable {P : Program} {ro : Nat → Bool} {s : AS} {K K' : AS → Prop} {dst od : Option Tmp} {v : AV}

/-- This place is none of those that the operands name. -/
def offT (od : Option Tmp) (xs : List Operand) : Prop := ∀ d, od = some d → .tmp d ∉ xs

theorem ev_put {x : Operand} (h : ∀ d, od = some d → x ≠ .tmp d) : (s.put od v).ev x = s.ev x := by
  cases od with
  | none => rfl
  | some d =>
    cases x with
    | tmp t =>
      have hne : d ≠ t := fun e => h d rfl (e ▸ rfl)
      simp [AS.ev, AS.put, List.getD, List.getElem?_set, hne]
    | _ => rfl

theorem offT.ev {xs : List Operand} (h : offT od xs) {x : Operand} (hx : x ∈ xs) : (s.put od v).ev x = s.ev x := ev_put fun d hd he => h d hd (he ▸ hx)

theorem blk_put (b : Nat) : (s.put od v).blk b = s.blk b := by cases od <;> rfl
theorem slot_put : (s.put od v).slot dst = s.slot dst := by cases od <;> rfl

theorem put_put {u : AV} (h : ∀ d, od = some d → dst ≠ some d) : (s.put dst u).put od v = (s.put od v).put dst u := by
  cases od with
  | none => rfl
  | some d =>
    cases dst with
    | none => rfl
    | some e =>
      have hne : e ≠ d := fun he => h d rfl (he ▸ rfl)
      simp [AS.put, List.set_comm _ _ hne]

theorem swap_hp {u : AV} {hp : List (Option Blk)} (h : ∀ d, od = some d → dst ≠ some d) : AS.put { s.put dst u with hp := hp } od v = { (s.put od v).put dst u with hp := hp } := by
  have := put_put (s := s) (u := u) (v := v) h
  cases od with
  | none => rfl
  | some d =>
    rw [← this]
    cases dst <;> rfl

theorem fillAV_congr {s s' : AS} : ∀ (ps : List (Nat × Operand)) (z : AV), (∀ p ∈ ps, s.ev p.2 = s'.ev p.2) → fillAV s z ps = fillAV s' z ps
  | [], _, _ => rfl
  | (i, x) :: ps, z, h => by
    have hx := h (i, x) (by simp)
    simp only at hx
    simp only [fillAV, hx]
    split
    · split
      · exact fillAV_congr ps _ fun p hp => h p (by simp [hp])
      · rfl
    · rfl

theorem peek_put {X : AV} : (s.put od v).peek ro X = s.peek ro X := by cases X <;> simp [AS.peek, blk_put]
theorem lenOf_put {X : AV} {str : Bool} : (s.put od v).lenOf ro str X = s.lenOf ro str X := by cases X <;> simp [AS.lenOf, blk_put]
theorem elemAddr_put {X : AV} {esz : Nat} {n : Int} : (s.put od v).elemAddr ro esz n X = s.elemAddr ro esz n X := by cases X <;> simp [AS.elemAddr, blk_put]
theorem coe_put {X : AV} : (s.put od v).coe ro X = s.coe ro X := by cases X <;> simp [AS.coe, blk_put]
theorem lend_put {X : AV} : (s.put od v).lend ro X = s.lend ro X := by cases X <;> simp [AS.lend, blk_put]
theorem rowOf_put {X : AV} {e : TypeId} {esz : Nat} : (s.put od v).rowOf e esz X = s.rowOf e esz X := by cases X <;> simp [AS.rowOf, blk_put]
theorem part_put {X : AV} : (s.put od v).part X = s.part X := by cases X <;> simp [AS.part, blk_put]
theorem poke_put {X u : AV} {n : Nat} : (s.put od v).poke n u X = (s.poke n u X).map fun s' => s'.put od v := by
  cases X <;> simp only [AS.poke, Option.map_none]
  simp only [blk_put]
  split
  · split
    · split
      · split
        · simp [setBlk_put]
        · rfl
      · rfl
    · rfl
  · rfl

theorem poke_tm {s' : AS} {X u : AV} {n : Nat} (h : s.poke n u X = some s') : ∃ hp, s' = { s with hp := hp } := by
  cases X <;> simp only [AS.poke] at h <;> try (cases h; done)
  split at h <;> try (cases h; done)
  split at h <;> try (cases h; done)
  split at h <;> try (cases h; done)
  split at h <;> try (cases h; done)
  simp only [Option.some.injEq] at h
  exact ⟨_, h.symm⟩

theorem seal1_put (b : Nat) : (s.put od v).seal1 b = (s.seal1 b).put od v := by
  unfold AS.seal1
  rw [blk_put]
  split
  · rw [setBlk_put]
  · rfl

theorem seals_put : ∀ (bs : List Nat) {s : AS}, (s.put od v).seals bs = (s.seals bs).put od v
  | [], _ => rfl
  | b :: bs, s => by rw [AS.seals, seal1_put, seals_put bs, AS.seals]

theorem seals_hp (bs : List Nat) : ∃ hp, s.seals bs = { s with hp := hp } := by
  refine ⟨(s.seals bs).hp, ?_⟩
  have h1 := seals_tm bs s
  have h2 := seals_nr bs s
  generalize s.seals bs = t at *
  cases t; cases s; simp_all

theorem seals_ev (bs : List Nat) (x : Operand) : (s.seals bs).ev x = s.ev x := by
  obtain ⟨hp, e⟩ := seals_hp (s := s) bs
  rw [e]; cases x <;> rfl

theorem map_coe_put {xs : List Operand} (h : offT od xs) : (xs.map fun x => (s.put od v).coe ro ((s.put od v).ev x)) = xs.map fun x => s.coe ro (s.ev x) :=
  List.map_congr_left fun x hx => by rw [h.ev hx, coe_put]

theorem map_lend_put {xs : List Operand} (h : offT od xs) : (xs.map fun x => (s.put od v).lend ro ((s.put od v).ev x)) = xs.map fun x => s.lend ro (s.ev x) :=
  List.map_congr_left fun x hx => by rw [h.ev hx, lend_put]

/-- What is not looked at may be put before or behind. -/
theorem AI.go_put {ai : AI} (hl : offT od ai.ops) (hd : ∀ d, od = some d → dst ≠ some d) : ai.go P ro s dst (fun s1 => K (s1.put od v)) ↔ ai.go P ro (s.put od v) dst K := by
  have E : ∀ x ∈ ai.ops, (s.put od v).ev x = s.ev x := fun x hx => hl.ev hx
  have S : ∀ u, (s.put dst u).put od v = (s.put od v).put dst u := fun u => put_put hd
  have H : ∀ (u : AV) (hp : List (Option Blk)), AS.put { s.put dst u with hp := hp } od v = { (s.put od v).put dst u with hp := hp } := fun u hp => swap_hp hd
  cases ai <;> simp only [AI.ops, List.mem_cons, List.not_mem_nil, or_false, forall_eq_or_imp, forall_eq, false_or] at E hl <;> simp only [AI.go]
  case mov x => rw [S, E]
  case pick c a b => obtain ⟨e1, e2, e3⟩ := E; rw [e1, e2, e3]; split <;> simp [S]
  case bin op x y => obtain ⟨e1, e2⟩ := E; rw [e1, e2]; split; rotate_left; (rfl); split <;> simp [S]
  case beq neg x y => obtain ⟨e1, e2⟩ := E; rw [e1, e2]; split <;> simp [S]
  case un op x => rw [E]; split; rotate_left; (rfl); split <;> simp [S]
  case cvt k x => rw [E]; split <;> simp [S]
  case alloc n z => simp only [slot_put, put_hp, H]
  case box n x => simp only [E, slot_put, put_hp, H]
  case build z parts =>
    rw [fillAV_congr (s := s.put od v) (s' := s) parts z fun p hp => hl.ev (List.mem_map_of_mem hp)]; split <;> simp [S]
  case bslice esz z n parts =>
    rw [fillAV_congr (s := s.put od v) (s' := s) parts _ fun p hp => hl.ev (List.mem_map_of_mem hp)]; split <;> simp [S]
  case load agg n x => rw [E, peek_put]; split <;> simp [S]
  case store n x u =>
    obtain ⟨e1, e2⟩ := E
    rw [e1, e2, poke_put]
    cases hp : s.poke n (s.ev u) (s.ev x) with
    | none => simp
    | some s' =>
      obtain ⟨hp', rfl⟩ := poke_tm hp
      simp only [Option.map_some]
      have : AS.put (AS.put { s with hp := hp' } dst .any) od v = AS.put (AS.put { s with hp := hp' } od v) dst .any := put_put hd
      rw [this]
  case faddr off idx x => rw [E]; split <;> simp [S]
  case iaddrA ln esz x i => obtain ⟨e1, e2⟩ := E; rw [e1, e2]; split; rotate_left; (rfl); split <;> simp [S]
  case iaddrS esz x i => obtain ⟨e1, e2⟩ := E; rw [e1, e2]; split; rotate_left; (rfl); rw [elemAddr_put]; split <;> simp [S]
  case fieldv off idx n agg x => rw [E]; split; rotate_left; (rfl); split <;> simp [S]
  case len str x => rw [E, lenOf_put]; split <;> simp [S]
  case ext x i => rw [E]; split; rotate_left; (rfl); split <;> simp [S]
  case nilc x => rw [E]; split <;> simp [S]
  case add64 x y c => obtain ⟨e1, e2, e3⟩ := E; rw [e1, e2, e3]; split; rotate_left; (rfl); split <;> simp [S]
  case append e esz bytes x y => obtain ⟨e1, e2⟩ := E; rw [e1, e2, rowOf_put, coe_put]; split; rotate_left; (rfl); simp only [slot_put, put_hp, H]
  case mkslice e esz bytes z l c => obtain ⟨e1, e2⟩ := E; rw [e1, e2]; split; rotate_left; (rfl); simp only [slot_put, put_hp, H]
  case eqv t neg x y => obtain ⟨e1, e2⟩ := E; rw [e1, e2]; simp only [S]
  case call f args =>
    refine exists_congr fun bs => exists_congr fun r => and_congr ?_ ?_
    · have : (args.map fun x => ((s.put od v).seals bs).coe ro (((s.put od v).seals bs).ev x)) = args.map fun x => (s.seals bs).coe ro ((s.seals bs).ev x) :=
        List.map_congr_left fun x hx => by rw [seals_ev, seals_ev, hl.ev hx, seals_put, coe_put]
      rw [this]
    · have S' : ∀ u, ((s.seals bs).put dst u).put od v = ((s.seals bs).put od v).put dst u := fun u => put_put hd
      have H' : ∀ (u : AV) (hp : List (Option Blk)), AS.put { (s.seals bs).put dst u with hp := hp } od v = { ((s.seals bs).put od v).put dst u with hp := hp } := fun u hp => swap_hp hd
      cases r <;> simp only [S', seals_put, slot_put, put_hp, H']
  case callv f args => rw [map_coe_put hl]; simp only [S]
  case lcall f args => rw [map_lend_put hl]; simp only [S]
  case icall f x args =>
    have e1 := E.1
    rw [e1, part_put]
    have hm : (args.map fun x => (s.put od v).coe ro ((s.put od v).ev x)) = args.map fun x => s.coe ro (s.ev x) := List.map_congr_left fun x hx => by rw [E.2 x hx, coe_put]
    rw [hm]
    split; rotate_left; (rfl)
    refine exists_congr fun r => exists_congr fun u' => and_congr Iff.rfl (and_congr Iff.rfl ?_)
    have e2 : ∀ (b : Nat) (x : Option Blk) (r : AV), AS.put ((s.setBlk b x).put dst r) od v = ((s.put od v).setBlk b x).put dst r := fun b x r => by
      rw [put_put hd, setBlk_put]
    rw [e2]

theorem AI.go_mono {ai : AI} (h : ∀ s, K s → K' s) : ai.go P ro s dst K → ai.go P ro s dst K' := by
  cases ai <;> simp only [AI.go]
  case mov x => exact h _
  case alloc n z => exact fun g l => h _ (g l)
  case box n x => exact fun ⟨a, b, g⟩ => ⟨a, b, fun l => h _ (g l)⟩
  case load agg n x => (split; (exact fun ⟨a, b, c, g⟩ => ⟨a, b, c, h _ g⟩); (exact id))
  case fieldv off idx n agg x => split; rotate_left; (exact id); rintro ⟨a, b, g⟩; refine ⟨a, b, ?_⟩; revert g; (split; (exact fun ⟨a, b, g⟩ => ⟨a, b, h _ g⟩); (exact id))
  case append e esz bytes x y => (split; (exact fun ⟨a, b, c, g⟩ => ⟨a, b, c, fun V => h _ (g V)⟩); (exact id))
  case mkslice e esz bytes z l c => (split; (exact fun ⟨a, b, c, d, g⟩ => ⟨a, b, c, d, fun V => h _ (g V)⟩); (exact id))
  case eqv t neg x y => exact fun ⟨b, a1, a2, a3, g⟩ => ⟨b, a1, a2, a3, h _ g⟩
  case call f args => rintro ⟨bs, r, a1, g⟩; refine ⟨bs, r, a1, ?_⟩; (cases r; (exact h _ g); (exact fun V => h _ (g V)))
  case callv f args => exact fun ⟨v, a, g⟩ => ⟨v, a, h _ g⟩
  case lcall f args => exact fun ⟨v, a, b, g⟩ => ⟨v, a, b, h _ g⟩
  case icall f x args => (split; (exact fun ⟨r, u, a, b, g⟩ => ⟨r, u, a, b, h _ g⟩); (exact id))
  case pick c a b => (split; (exact h _); (exact id))
  case bin op x y => split; rotate_left; (exact id); (split; (exact h _); (exact id))
  case beq neg x y => (split; (exact h _); (exact id))
  case un op x => split; rotate_left; (exact id); (split; (exact h _); (exact id))
  case cvt k x => (split; (exact h _); (exact id))
  case build z parts => (split; (exact h _); (exact id))
  case bslice esz z n parts => (split; (exact h _); (exact id))
  case store n x v => (split; (exact h _); (exact id))
  case faddr off idx x => (split; (exact h _); (exact id))
  case iaddrA ln esz x i => split; rotate_left; (exact id); (split; (exact h _); (exact id))
  case iaddrS esz x i => split; rotate_left; (exact id); (split; (exact h _); (exact id))
  case len str x => (split; (exact h _); (exact id))
  case ext x i => split; rotate_left; (exact id); (split; (exact h _); (exact id))
  case nilc x => (split; (exact h _); (exact h _); (exact id))
  case add64 x y c => split; rotate_left; (exact id); (split; (exact h _); (exact id))

/-- What a state is behind an operation: one place is another one, and the blocks may be. -/
def Behind (s : AS) (dst : Option Tmp) (s1 : AS) : Prop := ∃ v hp, s1 = { s.put dst v with hp := hp }

theorem behind_put (v : AV) : Behind s dst (s.put dst v) := ⟨v, s.hp, by cases dst <;> rfl⟩

theorem behind_seals (bs : List Nat) (v : AV) : Behind s dst ((s.seals bs).put dst v) := by
  obtain ⟨hp, e⟩ := seals_hp (s := s) bs
  rw [e]
  exact ⟨v, hp, by cases dst <;> rfl⟩

theorem behind_seals' (bs : List Nat) (v : AV) (hp : List (Option Blk)) : Behind s dst { (s.seals bs).put dst v with hp := hp } := by
  obtain ⟨hp', e⟩ := seals_hp (s := s) bs
  rw [e]
  exact ⟨v, hp, by cases dst <;> rfl⟩

theorem behind_set (b : Nat) (x : Option Blk) (r : AV) : Behind s dst ((s.setBlk b x).put dst r) := ⟨r, s.hp.set b x, by cases dst <;> rfl⟩

theorem AI.go_post {ai : AI} : ai.go P ro s dst K → ai.go P ro s dst fun s1 => K s1 ∧ Behind s dst s1 := by
  cases ai <;> simp only [AI.go]
  case mov x => exact fun g => ⟨g, behind_put _⟩
  case alloc n z => exact fun g l => ⟨g l, _, _, rfl⟩
  case box n x => exact fun ⟨a, b, g⟩ => ⟨a, b, fun l => ⟨g l, _, _, rfl⟩⟩
  case load agg n x => (split; (exact fun ⟨a, b, c, g⟩ => ⟨a, b, c, g, behind_put _⟩); (exact id))
  case fieldv off idx n agg x => split; rotate_left; (exact id); rintro ⟨a, b, g⟩; refine ⟨a, b, ?_⟩; revert g; (split; (exact fun ⟨a, b, g⟩ => ⟨a, b, g, behind_put _⟩); (exact id))
  case append e esz bytes x y => (split; (exact fun ⟨a, b, c, g⟩ => ⟨a, b, c, fun V => ⟨g V, _, _, rfl⟩⟩); (exact id))
  case mkslice e esz bytes z l c => (split; (exact fun ⟨a, b, c, d, g⟩ => ⟨a, b, c, d, fun V => ⟨g V, _, _, rfl⟩⟩); (exact id))
  case eqv t neg x y => exact fun ⟨b, a1, a2, a3, g⟩ => ⟨b, a1, a2, a3, g, behind_put _⟩
  case call f args => rintro ⟨bs, r, a1, g⟩; refine ⟨bs, r, a1, ?_⟩; (cases r; (exact ⟨g, behind_seals _ _⟩); (exact fun V => ⟨g V, behind_seals' _ _ _⟩))
  case callv f args => exact fun ⟨v, a, g⟩ => ⟨v, a, g, behind_put _⟩
  case lcall f args => exact fun ⟨v, a, b, g⟩ => ⟨v, a, b, g, behind_put _⟩
  case icall f x args => (split; (exact fun ⟨r, u, a, b, g⟩ => ⟨r, u, a, b, g, behind_set _ _ _⟩); (exact id))
  case pick c a b => (split; (exact fun g => ⟨g, behind_put _⟩); (exact id))
  case bin op x y => split; rotate_left; (exact id); (split; (exact fun g => ⟨g, behind_put _⟩); (exact id))
  case beq neg x y => (split; (exact fun g => ⟨g, behind_put _⟩); (exact id))
  case un op x => split; rotate_left; (exact id); (split; (exact fun g => ⟨g, behind_put _⟩); (exact id))
  case cvt k x => (split; (exact fun g => ⟨g, behind_put _⟩); (exact id))
  case build z parts => (split; (exact fun g => ⟨g, behind_put _⟩); (exact id))
  case bslice esz z n parts => (split; (exact fun g => ⟨g, behind_put _⟩); (exact id))
  case store n x v =>
    split; rotate_left; (exact id)
    rename_i s' hp
    obtain ⟨hp', rfl⟩ := poke_tm hp
    exact fun g => ⟨g, .any, hp', by cases dst <;> rfl⟩
  case faddr off idx x => (split; (exact fun g => ⟨g, behind_put _⟩); (exact id))
  case iaddrA ln esz x i => split; rotate_left; (exact id); (split; (exact fun g => ⟨g, behind_put _⟩); (exact id))
  case iaddrS esz x i => split; rotate_left; (exact id); (split; (exact fun g => ⟨g, behind_put _⟩); (exact id))
  case len str x => (split; (exact fun g => ⟨g, behind_put _⟩); (exact id))
  case ext x i => split; rotate_left; (exact id); (split; (exact fun g => ⟨g, behind_put _⟩); (exact id))
  case nilc x => (split; (exact fun g => ⟨g, behind_put _⟩); (exact fun g => ⟨g, behind_put _⟩); (exact id))
  case add64 x y c => split; rotate_left; (exact id); (split; (exact fun g => ⟨g, behind_put _⟩); (exact id))

theorem AI.go_ex {ai : AI} : ai.go P ro s dst K → ∃ s1, K s1 := by
  cases ai <;> simp only [AI.go]
  case mov x => exact fun g => ⟨_, g⟩
  case alloc n z => exact fun g => ⟨_, g (0, 0)⟩
  case box n x => exact fun ⟨a, b, g⟩ => ⟨_, g (0, 0)⟩
  case load agg n x => (split; (exact fun ⟨a, b, c, g⟩ => ⟨_, g⟩); (exact False.elim))
  case fieldv off idx n agg x => split; rotate_left; (exact False.elim); rintro ⟨a, b, g⟩; revert g; (split; (exact fun ⟨a, b, g⟩ => ⟨_, g⟩); (exact False.elim))
  case append e esz bytes x y => (split; (exact fun ⟨a, b, c, g⟩ => ⟨_, g undef⟩); (exact False.elim))
  case mkslice e esz bytes z l c => (split; (exact fun ⟨a, b, c, d, g⟩ => ⟨_, g undef⟩); (exact False.elim))
  case eqv t neg x y => exact fun ⟨b, a1, a2, a3, g⟩ => ⟨_, g⟩
  case call f args => rintro ⟨bs, r, a1, g⟩; (cases r; (exact ⟨_, g⟩); (exact ⟨_, g undef⟩))
  case callv f args => exact fun ⟨v, a, g⟩ => ⟨_, g⟩
  case lcall f args => exact fun ⟨v, a, b, g⟩ => ⟨_, g⟩
  case icall f x args => (split; (exact fun ⟨r, u, a, b, g⟩ => ⟨_, g⟩); (exact False.elim))
  case pick c a b => (split; (exact fun g => ⟨_, g⟩); (exact False.elim))
  case bin op x y => split; rotate_left; (exact False.elim); (split; (exact fun g => ⟨_, g⟩); (exact False.elim))
  case beq neg x y => (split; (exact fun g => ⟨_, g⟩); (exact False.elim))
  case un op x => split; rotate_left; (exact False.elim); (split; (exact fun g => ⟨_, g⟩); (exact False.elim))
  case cvt k x => (split; (exact fun g => ⟨_, g⟩); (exact False.elim))
  case build z parts => (split; (exact fun g => ⟨_, g⟩); (exact False.elim))
  case bslice esz z n parts => (split; (exact fun g => ⟨_, g⟩); (exact False.elim))
  case store n x v => (split; (exact fun g => ⟨_, g⟩); (exact False.elim))
  case faddr off idx x => (split; (exact fun g => ⟨_, g⟩); (exact False.elim))
  case iaddrA ln esz x i => split; rotate_left; (exact False.elim); (split; (exact fun g => ⟨_, g⟩); (exact False.elim))
  case iaddrS esz x i => split; rotate_left; (exact False.elim); (split; (exact fun g => ⟨_, g⟩); (exact False.elim))
  case len str x => (split; (exact fun g => ⟨_, g⟩); (exact False.elim))
  case ext x i => split; rotate_left; (exact False.elim); (split; (exact fun g => ⟨_, g⟩); (exact False.elim))
  case nilc x => (split; (exact fun g => ⟨_, g⟩); (exact fun g => ⟨_, g⟩); (exact False.elim))
  case add64 x y c => split; rotate_left; (exact False.elim); (split; (exact fun g => ⟨_, g⟩); (exact False.elim))

theorem Behind.ev {s1 : AS} (h : Behind s dst s1) {xs : List Operand} (hl : offT dst xs) : ∀ x ∈ xs, s1.ev x = s.ev x := by
  obtain ⟨v, hp, rfl⟩ := h
  intro x hx
  have : ({ s.put dst v with hp := hp } : AS).ev x = (s.put dst v).ev x := by cases x <;> rfl
  rw [this]; exact hl.ev hx

/-- The first class looks at its operands alone, and answers one thing. -/
theorem AI.val_congr {ai : AI} (h0 : ai.cls = 0) {s' : AS} (h : ∀ x ∈ ai.ops, s'.ev x = s.ev x) {u : AV} : ai.val P ro s' u ↔ ai.val P ro s u := by
  cases ai <;> simp only [AI.cls] at h0 <;> try omega
  all_goals simp only [AI.ops, List.mem_cons, List.not_mem_nil, or_false, forall_eq_or_imp, forall_eq] at h
  all_goals simp only [AI.val]
  case mov x => rw [h]
  case pick c a b => obtain ⟨e1, e2, e3⟩ := h; rw [e1, e2, e3]
  case bin op x y => obtain ⟨e1, e2⟩ := h; rw [e1, e2]
  case beq neg x y => obtain ⟨e1, e2⟩ := h; rw [e1, e2]
  case un op x => rw [h]
  case cvt k x => rw [h]
  case build z parts => rw [fillAV_congr (s := s') (s' := s) parts z fun p hp => h _ (List.mem_map_of_mem hp)]
  case bslice esz z n parts => rw [fillAV_congr (s := s') (s' := s) parts _ fun p hp => h _ (List.mem_map_of_mem hp)]
  case faddr off idx x => rw [h]
  case iaddrA ln esz x i => obtain ⟨e1, e2⟩ := h; rw [e1, e2]
  case fieldv off idx n agg x => rw [h]
  case ext x i => rw [h]
  case nilc x => rw [h]
  case add64 x y c => obtain ⟨e1, e2, e3⟩ := h; rw [e1, e2, e3]

theorem AI.val_fun {ai : AI} (h0 : ai.cls = 0) {u u' : AV} (h : ai.val P ro s u) (h' : ai.val P ro s u') : u = u' := by
  cases ai <;> simp only [AI.cls] at h0 <;> try omega
  all_goals simp only [AI.val] at h h'
  case mov x => rw [h, h']
  case pick c a b => obtain ⟨t, e1, rfl⟩ := h; obtain ⟨t', e2, rfl⟩ := h'; rw [e1] at e2; simp at e2; rw [e2]
  case bin op x y => obtain ⟨a, b, u, e1, e2, e3, rfl⟩ := h; obtain ⟨a', b', u', e4, e5, e6, rfl⟩ := h'; simp_all
  case beq neg x y => obtain ⟨p, q, e1, e2, rfl⟩ := h; obtain ⟨p', q', e3, e4, rfl⟩ := h'; simp_all
  case un op x => obtain ⟨a, u, e1, e2, rfl⟩ := h; obtain ⟨a', u', e3, e4, rfl⟩ := h'; simp_all
  case cvt k x => obtain ⟨k', n, e1, rfl⟩ := h; obtain ⟨k'', n', e2, rfl⟩ := h'; simp_all
  case build z parts => simp_all
  case bslice esz z n parts => obtain ⟨k, els, e1, rfl⟩ := h; obtain ⟨k', els', e2, rfl⟩ := h'; simp_all
  case faddr off idx x => simp_all
  case iaddrA ln esz x i => obtain ⟨k, n, e1, e2⟩ := h; obtain ⟨k', n', e3, e4⟩ := h'; simp_all
  case fieldv off idx n agg x => obtain ⟨ns, fs, e1, _, _, e2, _⟩ := h; obtain ⟨ns', fs', e3, _, _, e4, _⟩ := h'; simp_all
  case ext x i => obtain ⟨vs, e1, e2⟩ := h; obtain ⟨vs', e3, e4⟩ := h'; simp_all
  case nilc x => rw [h.1, h'.1]
  case add64 x y c => obtain ⟨a, b, d, e1, e2, e3, _, rfl⟩ := h; obtain ⟨a', b', d', e4, e5, e6, _, rfl⟩ := h'; simp_all

/-- Of the first two classes: another place that is not looked at counts for nothing. -/
theorem AI.val_put {ai : AI} (h2 : ai.cls < 2) (hl : offT od ai.ops) {u : AV} : ai.val P ro (s.put od v) u ↔ ai.val P ro s u := by
  have h := @AI.go_put P ro s (fun s1 => s1 = (s.put od v).put none u) none od v ai hl (by simp)
  have E : ∀ x ∈ ai.ops, (s.put od v).ev x = s.ev x := fun x hx => hl.ev hx
  by_cases h0 : ai.cls = 0
  · exact AI.val_congr h0 E
  · have h1 : ai.cls = 1 := by omega
    clear h0 h2 h
    cases ai <;> simp only [AI.cls] at h1 <;> try (cases h1; done)
    all_goals simp only [AI.ops, List.mem_cons, List.not_mem_nil, or_false, forall_eq_or_imp, forall_eq] at E
    all_goals simp only [AI.val]
    case load agg n x => rw [E, peek_put]
    case iaddrS esz x i => obtain ⟨e1, e2⟩ := E; simp only [e1, e2, elemAddr_put]
    case len str x => simp only [E, lenOf_put]
    case eqv t neg x y => obtain ⟨e1, e2⟩ := E; rw [e1, e2]
    case callv f args => have hl' : offT od args := hl; rw [map_coe_put hl']
    case lcall f args => have hl' : offT od args := hl; rw [map_lend_put hl']

/-- Behind a store, or a new variable: one block is another one. -/
def BehindW (s : AS) (dst : Option Tmp) (b : Nat) (s1 : AS) : Prop := ∃ v x, s1 = { s.put dst v with hp := s.hp.set b x }

theorem BehindW.behind {b : Nat} {s1 : AS} (h : BehindW s dst b s1) : Behind s dst s1 := by obtain ⟨v, x, e⟩ := h; exact ⟨v, _, e⟩
theorem BehindW.blk {b k : Nat} {s1 : AS} (h : BehindW s dst b s1) (hk : k ≠ b) : s1.blk k = s.blk k := by
  obtain ⟨v, x, rfl⟩ := h
  simp [AS.blk, List.getElem?_set, Ne.symm hk]

theorem behindW_set (b : Nat) (x : Option Blk) (r : AV) : BehindW s dst b ((s.setBlk b x).put dst r) := ⟨r, x, by cases dst <;> rfl⟩

/-- Which of them are such, and which block. -/
def AI.wr (dst own : Option Tmp) : AI → Option Tmp
  | .alloc _ _ | .box _ _ => some (dst.getD 0)
  | .store _ _ _ => own
  | _ => none

def AI.isNew : AI → Bool
  | .alloc _ _ | .box _ _ => true
  | _ => false

theorem AI.go_postW {ai : AI} {own : Option Tmp} {t : Tmp} (hw : ai.wr dst own = some t) (hm : ∀ n p u, ai = .store n p u → ∃ l off path, s.ev p = .ptr (s.nr + t) l off path) :
    ai.go P ro s dst K → ai.go P ro s dst fun s1 => K s1 ∧ BehindW s dst (s.nr + t) s1 := by
  cases ai <;> simp only [AI.wr] at hw <;> try (cases hw; done)
  case alloc n z =>
    cases hw
    simp only [AI.go]
    exact fun g l => ⟨g l, _, _, rfl⟩
  case box n x =>
    cases hw
    simp only [AI.go]
    exact fun ⟨a, b, g⟩ => ⟨a, b, fun l => ⟨g l, _, _, rfl⟩⟩
  case store n p u =>
    obtain ⟨l, off, path, e⟩ := hm n p u rfl
    simp only [AI.go, e]
    split
    · rename_i s' hp
      intro g
      refine ⟨g, ?_⟩
      simp only [AS.poke] at hp
      split at hp <;> try (cases hp; done)
      split at hp <;> try (cases hp; done)
      split at hp <;> try (cases hp; done)
      split at hp <;> try (cases hp; done)
      cases hp
      exact behindW_set _ _ _
    · exact id

theorem peek_w {b : Nat} {s1 : AS} (h : BehindW s dst b s1) (hr : ro b = false) {X : AV} : s1.peek ro X = s.peek ro X := by
  cases X
  case ptr k l off p =>
    simp only [AS.peek]
    by_cases hk : k = b
    · subst hk; simp [hr]
    · rw [h.blk hk]
  all_goals rfl
theorem lenOf_w {b : Nat} {s1 : AS} (h : BehindW s dst b s1) (hr : ro b = false) {X : AV} {str : Bool} : s1.lenOf ro str X = s.lenOf ro str X := by
  cases X
  case own k V =>
    simp only [AS.lenOf]
    by_cases hk : k = b
    · subst hk; simp [hr]
    · rw [h.blk hk]
  case lit v =>
    unfold AS.lenOf
    split <;> first | rfl | (rename_i hx; cases hx) | simp_all
  all_goals rfl
theorem elemAddr_w {b : Nat} {s1 : AS} (h : BehindW s dst b s1) (hr : ro b = false) {X : AV} {esz : Nat} {n : Int} : s1.elemAddr ro esz n X = s.elemAddr ro esz n X := by
  cases X
  case own k V =>
    simp only [AS.elemAddr]
    by_cases hk : k = b
    · subst hk; simp [hr]
    · rw [h.blk hk]
  all_goals simp only [AS.elemAddr]
theorem coe_w {b : Nat} {s1 : AS} (h : BehindW s dst b s1) (hr : ro b = false) {X : AV} : s1.coe ro X = s.coe ro X := by
  cases X
  case own k V =>
    simp only [AS.coe]
    by_cases hk : k = b
    · subst hk; simp [hr]
    · rw [h.blk hk]
  all_goals simp only [AS.coe]

theorem lend_w {b : Nat} {s1 : AS} (h : BehindW s dst b s1) (hr : ro b = false) {X : AV} : s1.lend ro X = s.lend ro X := by
  cases X
  case own k V =>
    simp only [AS.lend]
    by_cases hk : k = b
    · subst hk; simp [hr]
    · rw [h.blk hk]
  all_goals simp only [AS.lend]

theorem AI.val_w {ai : AI} (h1 : ai.cls = 1) {b : Nat} {s1 : AS} (h : BehindW s dst b s1) (hr : ro b = false) (hl : offT dst ai.ops) {u : AV} : ai.val P ro s1 u ↔ ai.val P ro s u := by
  have E := h.behind.ev hl
  cases ai <;> simp only [AI.cls] at h1 <;> try (cases h1; done)
  all_goals simp only [AI.ops, List.mem_cons, List.not_mem_nil, or_false, forall_eq_or_imp, forall_eq] at E
  all_goals simp only [AI.val]
  case load agg n x => rw [E, peek_w h hr]
  case iaddrS esz x i => obtain ⟨e1, e2⟩ := E; simp only [e1, e2, elemAddr_w h hr]
  case len str x => simp only [E, lenOf_w h hr]
  case eqv t neg x y => obtain ⟨e1, e2⟩ := E; rw [e1, e2]
  case callv f args =>
    have : (args.map fun x => s1.coe ro (s1.ev x)) = args.map fun x => s.coe ro (s.ev x) := List.map_congr_left fun x hx => by rw [E x hx, coe_w h hr]
    rw [this]
  case lcall f args =>
    have : (args.map fun x => s1.lend ro (s1.ev x)) = args.map fun x => s.lend ro (s.ev x) := List.map_congr_left fun x hx => by rw [E x hx, lend_w h hr]
    rw [this]

/-- Those of the second class that answer one thing. -/
def AI.fn1 : AI → Bool
  | .load .. | .len .. | .iaddrS .. => true
  | _ => false

theorem AI.val_fun1 {ai : AI} (h0 : ai.fn1 = true) {u u' : AV} (h : ai.val P ro s u) (h' : ai.val P ro s u') : u = u' := by
  cases ai <;> simp only [AI.fn1] at h0 <;> try (cases h0; done)
  all_goals simp only [AI.val] at h h'
  case load agg n x => have := h.1.symm.trans h'.1; simp at this; exact this
  case iaddrS esz x i => obtain ⟨k, n, e1, e2⟩ := h; obtain ⟨k', n', e3, e4⟩ := h'; simp_all
  case len str x => obtain ⟨n, e1, rfl⟩ := h; obtain ⟨n', e2, rfl⟩ := h'; simp_all

/-- A store's way is one way. -/
theorem AI.go_store_ex {n : Nat} {p x : Operand} {V : AV → Prop} {F : AV → AS → Prop} (g : (AI.store n p x).go P ro s dst fun s1 => ∃ v, V v ∧ F v s1) : ∃ v, V v ∧ (AI.store n p x).go P ro s dst (F v) := by
  simp only [AI.go] at g ⊢
  split at g
  · exact g
  · exact g.elim

/-- Two new variables change places. -/
theorem AI.go_new {x y : AI} {d e : Tmp} (hx : x.isNew = true) (hy : y.isNew = true) (hne : d ≠ e) (h1 : offT (some d) y.ops) (h2 : offT (some e) x.ops)
    (g : x.go P ro s (some d) fun s1 => y.go P ro s1 (some e) K) : y.go P ro s (some e) fun s2 => x.go P ro s2 (some d) K := by
  have key : ∀ (l l' : Nat × Nat) (A B : Option Blk), ({ AS.put { s.put (some d) (.ptr (s.nr + d) l 0 []) with hp := s.hp.set (s.nr + d) A } (some e) (.ptr (s.nr + e) l' 0 []) with hp := (s.hp.set (s.nr + d) A).set (s.nr + e) B } : AS) =
      { AS.put { s.put (some e) (.ptr (s.nr + e) l' 0 []) with hp := s.hp.set (s.nr + e) B } (some d) (.ptr (s.nr + d) l 0 []) with hp := (s.hp.set (s.nr + e) B).set (s.nr + d) A } := by
    intro l l' A B
    simp only [AS.put]
    rw [List.set_comm _ _ hne, List.set_comm _ _ (show s.nr + d ≠ s.nr + e from fun h => hne (Nat.add_left_cancel h))]
  have evp : ∀ (z : Operand) (f : Tmp) (v : AV) (nr : Nat) (hp : List (Option Blk)), z ≠ .tmp f → AS.ev ⟨nr, (s.put (some f) v).tm, hp⟩ z = s.ev z := by
    intro z f v nr hp hz
    have := ev_put (s := s) (od := some f) (v := v) (x := z) (fun d' he h => by cases he; exact hz h)
    rw [← this]; cases z <;> rfl
  cases x <;> simp only [AI.isNew] at hx <;> try (cases hx; done)
  · cases y <;> simp only [AI.isNew] at hy <;> try (cases hy; done)
    · simp only [AI.go, AS.slot, Option.getD_some, put_nr] at g ⊢
      intro l' l
      exact Eq.mp (congrArg K (key l l' _ _)) (g l l')
    · rename_i n z m y
      have hyz : y ≠ .tmp d := fun h => h1 d rfl (by simp [AI.ops, h])
      simp only [AI.go, AS.slot, Option.getD_some, put_nr, evp _ _ _ _ _ hyz] at g ⊢
      obtain ⟨g1, g2, _⟩ := g (0, 0)
      refine ⟨g1, g2, fun l' l => ?_⟩
      exact Eq.mp (congrArg K (key l l' _ _)) ((g l).2.2 l')
  · rename_i n x
    have hxz : x ≠ .tmp e := fun h => h2 e rfl (by simp [AI.ops, h])
    cases y <;> simp only [AI.isNew] at hy <;> try (cases hy; done)
    · simp only [AI.go, AS.slot, Option.getD_some, put_nr, evp _ _ _ _ _ hxz] at g ⊢
      obtain ⟨g1, g2, g3⟩ := g
      intro l'
      refine ⟨g1, g2, fun l => ?_⟩
      exact Eq.mp (congrArg K (key l l' _ _)) (g3 l l')
    · rename_i m y
      have hyz : y ≠ .tmp d := fun h => h1 d rfl (by simp [AI.ops, h])
      simp only [AI.go, AS.slot, Option.getD_some, put_nr, evp _ _ _ _ _ hxz, evp _ _ _ _ _ hyz] at g ⊢
      obtain ⟨g1, g2, g3⟩ := g
      obtain ⟨g4, g5, _⟩ := g3 (0, 0)
      refine ⟨g4, g5, fun l' => ⟨g1, g2, fun l => ?_⟩⟩
      exact Eq.mp (congrArg K (key l l' _ _)) ((g3 l).2.2 l')

end
end Go.Cab
