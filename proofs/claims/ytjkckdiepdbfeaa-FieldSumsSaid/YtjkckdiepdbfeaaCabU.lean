/- Part nineteen: the walk. -/
import Derived.Test.YtjkckdiepdbfeaaCabT
set_option linter.unusedSimpArgs false
set_option linter.unusedVariables false
set_option linter.unusedSectionVars false
namespace Go.Cab
open Go.RowKit
open Classical

/-- What an operation of one answer answers. -/
noncomputable def AI.ex (ro : Nat → Bool) (s : AS) : AI → Option AV
  | .mov x => some (s.ev x)
  | .pick c a b => match s.ev c with
    | .lit (.bool t) => some (if t then s.ev a else s.ev b)
    | _ => none
  | .bin op x y => match s.ev x, s.ev y with
    | .lit a, .lit b => (binVal op a b).map .lit
    | _, _ => none
  | .beq neg x y => match s.ev x, s.ev y with
    | .lit (.bool p), .lit (.bool q) => some (.lit (.bool (if neg then !(p == q) else p == q)))
    | _, _ => none
  | .un op x => match s.ev x with
    | .lit a => (unVal op a).map .lit
    | _ => none
  | .cvt k x => match s.ev x with
    | .lit (.int _ n) => some (.lit (.int k (k.wrap n)))
    | _ => none
  | .load agg n x => match s.peek ro (s.ev x) with
    | some (m, u) => if m = n ∧ u.isAgg = agg ∧ u.isTup = false then some u else none
    | none => none
  | .faddr off idx x => AS.fieldAddr off idx (s.ev x)
  | .iaddrA ln esz x i => match s.ev i with
    | .lit (.int _ n) => AS.idxAddr ln esz n (s.ev x)
    | _ => none
  | .iaddrS esz x i => match s.ev i with
    | .lit (.int _ n) => s.elemAddr ro esz n (s.ev x)
    | _ => none
  | .len str x => (s.lenOf ro str (s.ev x)).map fun n => .lit (.int .i64 n)
  | .ext x i => match s.ev x with
    | .tup vs => vs[i]?
    | _ => none
  | .nilc x => match s.ev x with
    | .ptr b l off p => some (.ptr b l off p)
    | .cptr n v => some (.cptr n v)
    | _ => none
  | .build z parts => fillAV s z parts
  | .bslice esz z n parts => match fillAV s (.arr esz (List.replicate n z)) parts with
    | some (.arr _ els) => some (.sl esz els)
    | _ => none
  | .fieldv off idx n agg x => match s.ev x with
    | .st ns fs => if (ns.take idx).sum = off ∧ ns[idx]? = some n then (match fs[idx]? with
      | some v => if v.isAgg = agg ∧ v.isTup = false then some v else none
      | none => none) else none
    | _ => none
  | .add64 x y c => match s.ev x, s.ev y, s.ev c with
    | .lit (.int .u64 a), .lit (.int .u64 b), .lit (.int .u64 d) => if 0 ≤ a ∧ 0 ≤ b ∧ 0 ≤ d ∧ d ≤ 1 then
        some (.tup [.lit (.int .u64 ((a + b + d) % 18446744073709551616)), .lit (.int .u64 ((a + b + d) / 18446744073709551616))]) else none
    | _, _, _ => none
  | _ => none

def ownOk (nr : Nat) : Option Tmp → AV → Bool
  | none, _ => true
  | some t, .ptr b _ _ _ => b == nr + t
  | _, _ => false

theorem ownOk_spec {nr t : Nat} {v : AV} (h : ownOk nr (some t) v = true) : ∃ l off path, v = .ptr (nr + t) l off path := by
  cases v <;> simp [ownOk] at h
  subst h; exact ⟨_, _, _, rfl⟩

noncomputable def AOp.ex0 (s : AS) (x : AOp) : Option AS :=
  match x.ai with
  | .store n p v => if ownOk s.nr x.own (s.ev p) = true then (s.poke n (s.ev v) (s.ev p)).map fun s' => s'.put x.dst .any else none
  | ai => (ai.ex (x.ro s.nr) s).map fun v => s.put x.dst v

noncomputable def AOp.ex (s : AS) (x : AOp) : Option AS :=
  match x.guard with
  | none => x.ex0 s
  | some (t, want) => match s.ev (.tmp t) with
    | .lit (.bool b) => if b = want then x.ex0 s else some (s.put x.dst (.tup []))
    | .tup [] => some (s.put x.dst (.tup []))
    | _ => none

noncomputable def runPre : List AOp → AS → List AOp × AS
  | [], s => ([], s)
  | x :: xs, s => match x.ex s with
    | some s' => runPre xs s'
    | none => (x :: xs, s)

section
variable {P : Program} {s s' : AS} {K : AS → Prop} {Q Q' : AX → AS → Prop} {x : AOp} {xs ys : List AOp}

theorem AI.ex_val {ai : AI} {ro : Nat → Bool} {v : AV} (h : ai.ex ro s = some v) : ai.cls < 2 ∧ ai.val P ro s v := by
  cases ai <;> simp only [AI.ex] at h <;> try (cases h; done)
  all_goals refine ⟨by simp [AI.cls], ?_⟩
  all_goals simp only [AI.val]
  case mov x => cases h; rfl
  case pick c a b =>
    split at h <;> try (cases h; done)
    rename_i t ht
    cases h; exact ⟨t, ht, rfl⟩
  case bin op x y =>
    split at h <;> try (cases h; done)
    rename_i a b ha hb
    cases hv : binVal op a b with
    | none => rw [hv] at h; cases h
    | some u => rw [hv] at h; cases h; exact ⟨a, b, u, ha, hb, hv, rfl⟩
  case beq neg x y =>
    split at h <;> try (cases h; done)
    rename_i p q hp hq
    cases h; exact ⟨p, q, hp, hq, rfl⟩
  case un op x =>
    split at h <;> try (cases h; done)
    rename_i a ha
    cases hv : unVal op a with
    | none => rw [hv] at h; cases h
    | some u => rw [hv] at h; cases h; exact ⟨a, u, ha, hv, rfl⟩
  case cvt kk x =>
    split at h <;> try (cases h; done)
    rename_i k n hn
    cases h; exact ⟨k, n, hn, rfl⟩
  case load agg n x =>
    split at h <;> try (cases h; done)
    rename_i m u hp
    split at h <;> try (cases h; done)
    rename_i hc
    obtain ⟨rfl, h2, h3⟩ := hc
    cases h; exact ⟨hp, h2, h3⟩
  case faddr off idx x => exact h
  case iaddrA ln esz x i =>
    split at h <;> try (cases h; done)
    rename_i k n hn
    exact ⟨k, n, hn, h⟩
  case iaddrS esz x i =>
    split at h <;> try (cases h; done)
    rename_i k n hn
    exact ⟨k, n, hn, h⟩
  case len str x =>
    cases hv : s.lenOf ro str (s.ev x) with
    | none => rw [hv] at h; cases h
    | some u => rw [hv] at h; cases h; exact ⟨u, rfl, rfl⟩
  case ext x i =>
    split at h <;> try (cases h; done)
    rename_i vs hvs
    exact ⟨vs, hvs, h⟩
  case nilc x =>
    split at h <;> try (cases h; done)
    · rename_i hx; cases h; exact ⟨hx.symm, .inl ⟨_, _, _, _, hx⟩⟩
    · rename_i hx; cases h; exact ⟨hx.symm, .inr ⟨_, _, hx⟩⟩
  case build z parts => exact h
  case bslice esz z n parts =>
    split at h <;> try (cases h; done)
    rename_i k els hv
    cases h; exact ⟨k, els, hv, rfl⟩
  case fieldv off idx n agg x =>
    split at h <;> try (cases h; done)
    rename_i ns fs hx
    split at h <;> try (cases h; done)
    rename_i hc
    split at h <;> try (cases h; done)
    rename_i v' hv'
    split at h <;> try (cases h; done)
    rename_i hc'
    cases h
    exact ⟨ns, fs, hx, hc.1, hc.2, hv', hc'.1, hc'.2⟩
  case add64 x y c =>
    split at h <;> try (cases h; done)
    rename_i a b d h1 h2 h3
    split at h <;> try (cases h; done)
    rename_i hb
    cases h
    exact ⟨a, b, d, h1, h2, h3, hb, rfl⟩

theorem AI.ex_go {ai : AI} {ro : Nat → Bool} {dst : Option Tmp} {v : AV} (h : ai.ex ro s = some v) (k : K (s.put dst v)) : ai.go P ro s dst K :=
  let ⟨h1, h2⟩ := AI.ex_val (P := P) h
  (AI.go_val h1).2 ⟨v, h2, k⟩

theorem AOp.ex0_go (h : x.ex0 s = some s') (k : K s') : x.mine s ∧ x.ai.go P (x.ro s.nr) s x.dst K := by
  unfold AOp.ex0 at h
  split at h
  · rename_i n p v hai
    split at h <;> try (cases h; done)
    rename_i hm
    cases hp : s.poke n (s.ev v) (s.ev p) with
    | none => rw [hp] at h; cases h
    | some s1 =>
      rw [hp] at h
      cases h
      refine ⟨?_, by rw [hai]; simp only [AI.go, hp]; exact k⟩
      unfold AOp.mine
      rw [hai]
      cases ho : x.own with
      | none => trivial
      | some t =>
        rw [ho] at hm
        exact ownOk_spec hm
  · rename_i hns
    cases hv : x.ai.ex (x.ro s.nr) s with
    | none => rw [hv] at h; cases h
    | some v =>
      rw [hv] at h
      cases h
      refine ⟨?_, AI.ex_go hv k⟩
      unfold AOp.mine
      split
      · rename_i hai; exact absurd hai (hns _ _ _)
      · trivial

theorem AOp.ex_go (h : x.ex s = some s') (k : K s') : x.go P s K := by
  rw [AOp.go_mode]
  unfold AOp.mode
  unfold AOp.ex at h
  cases hg : x.guard with
  | none => rw [hg] at h; exact AOp.ex0_go h k
  | some p =>
    obtain ⟨t, want⟩ := p
    rw [hg] at h
    simp only at h ⊢
    split at h <;> try (cases h; done)
    · rename_i b hb
      rw [hb]
      simp only
      split at h
      · rename_i hbw
        simp only [hbw, decide_true]
        exact AOp.ex0_go h k
      · rename_i hbw
        simp only [hbw, decide_false]
        cases h; exact k
    · rename_i hb
      rw [hb]
      simp only
      cases h; exact k

/-- The operations of one answer, carried out. -/
theorem areg_pre : ∀ {xs : List AOp} {s : AS}, runPre xs s = (ys, s') → AReg P ys s' K → AReg P xs s K
  | [], s, h, k => by simp only [runPre, Prod.mk.injEq] at h; obtain ⟨rfl, rfl⟩ := h; exact k
  | x :: xs, s, h, k => by
    simp only [runPre] at h
    split at h
    · rename_i s1 h1; exact AOp.ex_go h1 (areg_pre h k)
    · obtain ⟨rfl, rfl⟩ := Prod.mk.inj h; exact k

theorem areg_nil (k : K s) : AReg P [] s K := k

theorem AReg.mono {K' : AS → Prop} (h : ∀ s, K s → K' s) : ∀ {xs : List AOp} {s : AS}, AReg P xs s K → AReg P xs s K'
  | [], s, g => h s g
  | x :: xs, s, g => AOp.go_mono (fun s1 g1 => AReg.mono h g1) g

theorem AC.mono : ∀ (c : AC) {s : AS} {Q Q' : AX → AS → Prop}, (∀ x s, Q x s → Q' x s) → c.wp P s Q → c.wp P s Q'
  | .skip, s, Q, Q', h, g => h _ _ g
  | .reg xs, s, Q, Q', h, g => AReg.mono (fun s g => h _ _ g) g
  | .seq a b, s, Q, Q', h, g => AC.mono a (fun x s g => by cases x <;> first | exact AC.mono b h g | exact h _ _ g) g
  | .cond c a b, s, Q, Q', h, g => by
    simp only [AC.wp] at g ⊢
    split
    · rename_i t ht
      simp only [ht] at g
      cases t
      · exact AC.mono b h g
      · exact AC.mono a h g
    · rename_i hn
      split at g
      · rename_i t ht; exact absurd ht (hn t)
      · exact g
  | .block id c, s, Q, Q', h, g => AC.mono c (fun x s g => by
      cases x with
      | exit i =>
        simp only at g ⊢
        split
        · rename_i hi; rw [if_pos hi] at g; exact h _ _ g
        · rename_i hi; rw [if_neg hi] at g; exact h _ _ g
      | normal => exact h _ _ g
      | ret => exact h _ _ g) g
  | .loop c, s, Q, Q', h, g => by
    obtain ⟨I, n, h0, hs⟩ := g
    exact ⟨I, n, h0, fun m t ht => AC.mono c (fun x s g => by cases x <;> first | exact g | exact h _ _ g) (hs m t ht)⟩
  | .exit id, s, Q, Q', h, g => h _ _ g
  | .ret, s, Q, Q', h, g => h _ _ g

/-! ### Steps -/

theorem wp_seq' {a b : AC} (h : a.wp P s fun x s' => match x with | .normal => b.wp P s' Q | x => Q x s') : (AC.seq a b).wp P s Q := h
theorem wp_reg {xs : List AOp} (h : AReg P xs s (Q .normal)) : (AC.reg xs).wp P s Q := h
theorem wp_skip' (h : Q .normal s) : AC.skip.wp P s Q := h
theorem wp_exit' {id : Nat} (h : Q (.exit id) s) : (AC.exit id).wp P s Q := h
theorem wp_ret' (h : Q .ret s) : AC.ret.wp P s Q := h
theorem wp_block' {id : Nat} {c : AC} (h : c.wp P s fun x s' => match x with | .exit i => if i = id then Q .normal s' else Q (.exit i) s' | x => Q x s') : (AC.block id c).wp P s Q := h
theorem wp_cond_t {c : Operand} {a b : AC} (hc : s.ev c = .lit (.bool true)) (h : a.wp P s Q) : (AC.cond c a b).wp P s Q := by simp only [AC.wp, hc]; exact h
theorem wp_cond_f {c : Operand} {a b : AC} (hc : s.ev c = .lit (.bool false)) (h : b.wp P s Q) : (AC.cond c a b).wp P s Q := by simp only [AC.wp, hc]; exact h
theorem wp_cond_b {c : Operand} {a b : AC} {t : Bool} (hc : s.ev c = .lit (.bool t)) (h1 : t = true → a.wp P s Q) (h2 : t = false → b.wp P s Q) : (AC.cond c a b).wp P s Q := by
  cases t
  · exact wp_cond_f hc (h2 rfl)
  · exact wp_cond_t hc (h1 rfl)
theorem exit_hit {id : Nat} (h : Q .normal s) : (if id = id then Q .normal s else Q (.exit id) s) := by rw [if_pos rfl]; exact h

/-- A loop of a few rounds, each for itself. -/
noncomputable def loopN (P : Program) (c : AC) (Q : AX → AS → Prop) : Nat → AS → Prop
  | 0, _ => False
  | k + 1, s => c.wp P s fun x s' => match x with | .normal => loopN P c Q k s' | x => Q x s'

theorem wp_loopN {c : AC} (k : Nat) (h : loopN P c Q k s) : (AC.loop c).wp P s Q := by
  refine ⟨fun n t => loopN P c Q n t, k, ⟨s, Le.refl s, h⟩, fun n t ht => ?_⟩
  cases n with
  | zero => exact ht.elim
  | succ n => exact AC.mono c (fun x s g => by cases x <;> first | exact ⟨n, Nat.lt_succ_self n, s, Le.refl s, g⟩ | exact g) ht

theorem loopN_succ {c : AC} {k : Nat} (h : c.wp P s fun x s' => match x with | .normal => loopN P c Q k s' | x => Q x s') : loopN P c Q (k + 1) s := h

/-- A loop with a counter: 'S i' is the state at the head of round i. -/
theorem wp_loop_to {c : AC} (n : Nat) (S : Nat → AS) (h0 : Le s (S 0)) (hstep : ∀ i, i < n → c.wp P (S i) fun x s' => match x with | .normal => Le s' (S (i + 1)) | x => Q x s')
    (hlast : c.wp P (S n) fun x s' => match x with | .normal => False | x => Q x s') : (AC.loop c).wp P s Q := by
  refine ⟨fun m t => ∃ i, i + m = n ∧ t = S i, n, ⟨S 0, h0, 0, by omega, rfl⟩, ?_⟩
  rintro m t ⟨i, him, rfl⟩
  rcases Nat.lt_or_ge i n with hlt | hge
  · exact AC.mono c (fun x s g => by cases x <;> first | exact ⟨m - 1, by omega, S (i + 1), g, i + 1, by omega, rfl⟩ | exact g) (hstep i hlt)
  · have : i = n := by omega
    subst this
    exact AC.mono c (fun x s g => by cases x <;> first | exact g.elim | exact g) hlast

/-! ### Operations of more than one way -/

theorem areg_alloc {d : Tmp} {n : Nat} {z : AV} {fo : List Tmp} {ow : Option Tmp}
    (h : ∀ l, AReg P xs { s.put (some d) (.ptr (s.nr + d) l 0 []) with hp := s.hp.set (s.nr + d) (some (.box l n z)) } K) : AReg P (⟨some d, none, .alloc n z, fo, ow⟩ :: xs) s K := by
  unfold AReg AOp.go AOp.mine
  simp only [AI.go, AS.slot, Option.getD_some]
  exact ⟨trivial, h⟩

theorem areg_box {d : Tmp} {n : Nat} {x : Operand} {fo : List Tmp} {ow : Option Tmp} (h1 : (s.ev x).isTup = false) (h2 : (s.ev x).sz = n)
    (h : ∀ l, AReg P xs { s.put (some d) (.ptr (s.nr + d) l 0 []) with hp := s.hp.set (s.nr + d) (some (.box l n (s.ev x))) } K) : AReg P (⟨some d, none, .box n x, fo, ow⟩ :: xs) s K := by
  unfold AReg AOp.go AOp.mine
  simp only [AI.go, AS.slot, Option.getD_some]
  exact ⟨trivial, h1, h2, h⟩

theorem areg_call {d : Option Tmp} {f : FuncId} {as : List Operand} {fo : List Tmp} {ow : Option Tmp} {v : AV} (hc : PCall P f (as.map fun x => s.coe tt (s.ev x)) (.val v)) (hf : fo = [])
    (h : AReg P xs (s.put d v) K) : AReg P (⟨d, none, .call f as, fo, ow⟩ :: xs) s K := by
  subst hf
  unfold AReg AOp.go AOp.mine
  simp only [AI.go]
  have hro : (AOp.ro ⟨d, none, .call f as, [], ow⟩ s.nr) = tt := by funext b; rfl
  rw [hro]
  exact ⟨trivial, [], .val v, hc, h⟩

theorem areg_callR {d : Tmp} {f : FuncId} {as : List Operand} {fo : List Tmp} {ow : Option Tmp} {e : TypeId} {esz : Nat} {els : List AV} (hc : PCall P f (as.map fun x => s.coe tt (s.ev x)) (.row e esz els)) (hf : fo = [])
    (h : ∀ V, AReg P xs { s.put (some d) (.own (s.nr + d) V) with hp := s.hp.set (s.nr + d) (some (.row e V esz els 0)) } K) : AReg P (⟨some d, none, .call f as, fo, ow⟩ :: xs) s K := by
  subst hf
  unfold AReg AOp.go AOp.mine
  simp only [AI.go]
  have hro : (AOp.ro ⟨some d, none, .call f as, [], ow⟩ s.nr) = tt := by funext b; rfl
  rw [hro]
  exact ⟨trivial, [], .row e esz els, hc, h⟩

theorem areg_callv {d : Option Tmp} {f : FuncId} {as : List Operand} {fo : List Tmp} {ow : Option Tmp} {v : AV} (hc : PCall P f (as.map fun x => s.coe (AOp.ro ⟨d, none, .callv f as, fo, ow⟩ s.nr) (s.ev x)) (.val v))
    (h : AReg P xs (s.put d v) K) : AReg P (⟨d, none, .callv f as, fo, ow⟩ :: xs) s K := by
  unfold AReg AOp.go AOp.mine
  simp only [AI.go]
  exact ⟨trivial, v, hc, h⟩

end
end Go.Cab
