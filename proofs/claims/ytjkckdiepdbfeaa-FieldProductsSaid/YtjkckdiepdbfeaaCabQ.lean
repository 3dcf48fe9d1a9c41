/- Part sixteen: regions. -/
import Derived.Test.YtjkckdiepdbfeaaCabO
import Derived.Still
set_option linter.unusedSimpArgs false
set_option linter.unusedVariables false
set_option linter.unusedSectionVars false
namespace Go.Cab
open Go.RowKit
open Classical

def tmpsOf (xs : List Operand) : List Tmp := xs.filterMap fun | .tmp t => some t | _ => none

/-- Which places it looks at. -/
def AOp.looks (x : AOp) : List Tmp := tmpsOf x.ai.ops ++ (match x.guard with | some (t, _) => [t] | none => [])

def AOp.apart (x y : AOp) : Bool :=
  (match x.dst with | some d => !y.looks.contains d && y.dst != some d | none => true) && (match y.dst with | some d => !x.looks.contains d | none => true)

/-- They may change places. -/
def AOp.swaps (x y : AOp) : Bool := x.apart y &&
  ((x.ai.cls < 2 && y.ai.cls < 2) || x.ai.cls == 0 || y.ai.cls == 0 ||
    (x.ai.cls == 1 && (match y.ai.wr y.dst y.own with | some t => x.forb.contains t | none => false)) ||
    (y.ai.cls == 1 && (match x.ai.wr x.dst x.own with | some t => y.forb.contains t | none => false) && (!x.ai.isNew || y.ai.fn1)) ||
    (x.ai.isNew && y.ai.isNew && x.dst.isSome && y.dst.isSome))

section
variable {P : Program} {s : AS} {K K' : AS → Prop}

theorem mem_tmpsOf {d : Tmp} {xs : List Operand} : d ∈ tmpsOf xs ↔ Operand.tmp d ∈ xs := by
  unfold tmpsOf
  rw [List.mem_filterMap]
  constructor
  · rintro ⟨x, hx, e⟩
    cases x <;> simp at e
    subst e; exact hx
  · exact fun h => ⟨_, h, rfl⟩

theorem AOp.apart_spec {x y : AOp} (h : x.apart y = true) : (∀ d, x.dst = some d → d ∉ y.looks) ∧ (∀ d, x.dst = some d → y.dst ≠ some d) ∧ (∀ d, y.dst = some d → d ∉ x.looks) := by
  refine ⟨fun d hd => ?_, fun d hd => ?_, fun d hd => ?_⟩ <;> simp [AOp.apart, hd] at h
  · exact h.1.1
  · exact h.1.2
  · exact h.2

theorem offT_of {od : Option Tmp} {x : AOp} (h : ∀ d, od = some d → d ∉ x.looks) : offT od x.ai.ops := fun d hd hm => h d hd (List.mem_append_left _ (mem_tmpsOf.2 hm))

/-- How an operation comes up: it is carried out; passed over; or its guard can't be told. -/
noncomputable def AOp.mode (s : AS) (x : AOp) : Option Bool :=
  match x.guard with
  | none => some true
  | some (t, want) => match s.ev (.tmp t) with
    | .lit (.bool b) => some (decide (b = want))
    | .tup [] => some false
    | _ => none

theorem AOp.go_mode {x : AOp} : x.go P s K ↔ match x.mode s with | some true => x.mine s ∧ x.ai.go P (x.ro s.nr) s x.dst K | some false => K (s.put x.dst (.tup [])) | none => False := by
  unfold AOp.go AOp.mode
  cases x.guard with
  | none => rfl
  | some p =>
    obtain ⟨t, want⟩ := p
    simp only
    generalize s.ev (.tmp t) = v
    cases v with
    | lit v =>
      cases v with
      | bool b => by_cases hb : b = want <;> simp [hb]
      | _ => rfl
    | tup vs => cases vs <;> rfl
    | _ => rfl

theorem AOp.mode_put {x : AOp} {od : Option Tmp} {v : AV} (h : ∀ d, od = some d → d ∉ x.looks) : x.mode (s.put od v) = x.mode s := by
  unfold AOp.mode
  split
  · rfl
  · rename_i t want hg
    rw [ev_put fun d hd he => h d hd (by
      cases he
      exact List.mem_append_right _ (by simp [hg]))]

theorem Behind.nr {dst : Option Tmp} {s1 : AS} (h : Behind s dst s1) : s1.nr = s.nr := by obtain ⟨v, hp, rfl⟩ := h; exact put_nr _ _ _

theorem AOp.mine_put {x : AOp} {od : Option Tmp} {v : AV} (h : offT od x.ai.ops) : x.mine (s.put od v) ↔ x.mine s := by
  unfold AOp.mine
  split
  · rename_i hai
    rw [h.ev (by rw [hai]; simp [AI.ops]), put_nr]
  · rfl

theorem AOp.mine_behind {x : AOp} {dst : Option Tmp} {s1 : AS} (hb : Behind s dst s1) (h : offT dst x.ai.ops) : x.mine s1 ↔ x.mine s := by
  have e := hb.ev h
  have hn := hb.nr
  unfold AOp.mine
  split
  · rename_i hai
    rw [e _ (by rw [hai]; simp [AI.ops]), hn]
  · rfl

theorem AOp.mode_behind {x : AOp} {dst : Option Tmp} {s1 : AS} (hb : Behind s dst s1) (h : ∀ d, dst = some d → d ∉ x.looks) : x.mode s1 = x.mode s := by
  obtain ⟨v, hp, rfl⟩ := hb
  rw [← AOp.mode_put (s := s) (od := dst) (v := v) h]
  unfold AOp.mode
  rfl

theorem AOp.go_mono {x : AOp} (h : ∀ s, K s → K' s) (g : x.go P s K) : x.go P s K' := by
  rw [AOp.go_mode] at *
  split
  · rename_i hm; rw [hm] at g; exact ⟨g.1, AI.go_mono h g.2⟩
  · rename_i hm; rw [hm] at g; exact h _ g
  · rename_i hm; rw [hm] at g; exact g

theorem AOp.ro_forb {x : AOp} {t nr : Nat} (h : x.forb.contains t = true) : x.ro nr (nr + t) = false := by
  simp only [AOp.ro, List.all_eq_false]
  exact ⟨t, by simpa using h, by simp⟩

theorem AOp.mine_store {x : AOp} {t : Tmp} (h : x.mine s) (hw : x.ai.wr x.dst x.own = some t) : ∀ n p u, x.ai = .store n p u → ∃ l off path, s.ev p = .ptr (s.nr + t) l off path := by
  intro n p u hai
  rw [hai] at hw
  simp only [AI.wr] at hw
  simp only [AOp.mine, hw, hai] at h
  exact h

/-- TWO OPERATIONS CHANGE PLACES. -/
theorem AOp.swap {x y : AOp} (h : x.swaps y = true) (g : x.go P s fun s1 => y.go P s1 K) : y.go P s fun s2 => x.go P s2 K := by
  simp only [AOp.swaps, Bool.and_eq_true, Bool.or_eq_true, decide_eq_true_eq, beq_iff_eq] at h
  obtain ⟨hap, hcls⟩ := h
  obtain ⟨a1, a2, a3⟩ := AOp.apart_spec hap
  have o1 := offT_of a1
  have o3 := offT_of a3
  have a2' : ∀ d, y.dst = some d → x.dst ≠ some d := fun d hd he => a2 d he hd
  rw [AOp.go_mode] at g ⊢
  cases hx : x.mode s with
  | none => rw [hx] at g; exact g.elim
  | some bx =>
    rw [hx] at g
    cases hy : y.mode s with
    | none =>
      exfalso
      cases bx
      · simp only at g; rw [AOp.go_mode, AOp.mode_put a1, hy] at g; exact g
      · simp only at g
        obtain ⟨s1, hs1, hb⟩ := AI.go_ex (AI.go_post g.2)
        rw [AOp.go_mode, AOp.mode_behind hb a1, hy] at hs1; exact hs1
    | some b =>
      cases bx <;> cases b <;> simp only at g ⊢
      · -- both passed over
        rw [AOp.go_mode, AOp.mode_put a1, hy] at g
        rw [AOp.go_mode, AOp.mode_put a3, hx]
        simp only at g ⊢
        rw [put_put a2]; exact g
      · -- x passed over, y carried out
        rw [AOp.go_mode, AOp.mode_put a1, hy] at g
        simp only [put_nr] at g
        refine ⟨(AOp.mine_put o1).1 g.1, ?_⟩
        have g' := (AI.go_put (ai := y.ai) (dst := y.dst) o1 a2).2 g.2
        refine AI.go_mono ?_ (AI.go_post g')
        rintro s2 ⟨hk, hb⟩
        rw [AOp.go_mode, AOp.mode_behind hb a3, hx]; exact hk
      · -- x carried out, y passed over
        obtain ⟨hmx, g⟩ := g
        have g' : x.ai.go P (x.ro s.nr) s x.dst fun s1 => K (s1.put y.dst (.tup [])) := by
          refine AI.go_mono ?_ (AI.go_post g)
          rintro s1 ⟨hk, hb⟩
          rw [AOp.go_mode, AOp.mode_behind hb a1, hy] at hk; exact hk
        rw [AOp.go_mode, AOp.mode_put a3, hx]
        simp only [put_nr]
        exact ⟨(AOp.mine_put o3).2 hmx, (AI.go_put o3 a2').1 g'⟩
      · -- both carried out
        obtain ⟨hmx, g⟩ := g
        have g1 : x.ai.go P (x.ro s.nr) s x.dst fun s1 => (y.mine s ∧ y.ai.go P (y.ro s.nr) s1 y.dst K) ∧ Behind s x.dst s1 := by
          refine AI.go_mono ?_ (AI.go_post g)
          rintro s1 ⟨hk, hb⟩
          rw [AOp.go_mode, AOp.mode_behind hb a1, hy, hb.nr] at hk
          exact ⟨⟨(AOp.mine_behind hb o1).1 hk.1, hk.2⟩, hb⟩
        have hmy : y.mine s := by obtain ⟨s1, h1⟩ := AI.go_ex g1; exact h1.1.1
        suffices hgoal : y.ai.go P (y.ro s.nr) s y.dst fun s2 => x.ai.go P (x.ro s.nr) s2 x.dst K by
          refine ⟨hmy, AI.go_mono ?_ (AI.go_post hgoal)⟩
          rintro s2 ⟨hk, hb⟩
          rw [AOp.go_mode, AOp.mode_behind hb a3, hx, hb.nr]
          exact ⟨(AOp.mine_behind hb o3).2 hmx, hk⟩
        have g2 : x.ai.go P (x.ro s.nr) s x.dst fun s1 => y.ai.go P (y.ro s.nr) s1 y.dst K := AI.go_mono (fun s1 h => h.1.2) g1
        by_cases hx0 : x.ai.cls = 0
        · obtain ⟨v, hv, hk⟩ := (AI.go_val (by omega)).1 g2
          have g' := (AI.go_put (ai := y.ai) (dst := y.dst) o1 a2).2 hk
          refine AI.go_mono ?_ (AI.go_post g')
          rintro s2 ⟨hk2, hb⟩
          exact (AI.go_val (by omega)).2 ⟨v, (AI.val_congr hx0 (hb.ev o3)).2 hv, hk2⟩
        · by_cases hy0 : y.ai.cls = 0
          · obtain ⟨s1, ⟨⟨_, hs1⟩, hb1⟩⟩ := AI.go_ex g1
            obtain ⟨u, hu, _⟩ := (AI.go_val (by omega)).1 hs1
            have hu0 : y.ai.val P (y.ro s.nr) s u := (AI.val_congr hy0 (hb1.ev o1)).1 hu
            have g' : x.ai.go P (x.ro s.nr) s x.dst fun s1 => K (s1.put y.dst u) := by
              refine AI.go_mono ?_ g1
              rintro s1 ⟨⟨_, hk⟩, hb⟩
              obtain ⟨u', hu', hk'⟩ := (AI.go_val (by omega)).1 hk
              have := AI.val_fun hy0 hu0 ((AI.val_congr hy0 (hb.ev o1)).1 hu')
              subst this; exact hk'
            exact (AI.go_val (by omega)).2 ⟨u, hu0, (AI.go_put o3 a2').1 g'⟩
          · rcases hcls with ((((h | h) | h) | h) | h) | h
            · -- both read
              obtain ⟨v, hv, hk⟩ := (AI.go_val h.1).1 g2
              obtain ⟨u, hu, hk'⟩ := (AI.go_val h.2).1 hk
              refine (AI.go_val h.2).2 ⟨u, (AI.val_put h.2 o1).1 hu, (AI.go_val h.1).2 ⟨v, (AI.val_put h.1 o3).2 hv, ?_⟩⟩
              rw [put_put a2]; exact hk'
            · exact absurd h hx0
            · exact absurd h hy0
            · -- x reads, y writes elsewhere
              obtain ⟨hx1, hf⟩ := h
              split at hf <;> try (cases hf; done)
              rename_i t ht
              obtain ⟨v, hv, hk⟩ := (AI.go_val (by omega)).1 g2
              have g' := (AI.go_put (ai := y.ai) (dst := y.dst) o1 a2).2 hk
              refine AI.go_mono ?_ (AI.go_postW ht (AOp.mine_store hmy ht) g')
              rintro s2 ⟨hk2, hb⟩
              exact (AI.go_val (by omega)).2 ⟨v, (AI.val_w hx1 hb (AOp.ro_forb hf) o3).2 hv, hk2⟩
            · -- y reads, x writes elsewhere
              obtain ⟨⟨hy1, hf⟩, hfun⟩ := h
              split at hf <;> try (cases hf; done)
              rename_i t ht
              have g3 : x.ai.go P (x.ro s.nr) s x.dst fun s1 => ∃ u, y.ai.val P (y.ro s.nr) s u ∧ K (s1.put y.dst u) := by
                refine AI.go_mono ?_ (AI.go_postW ht (AOp.mine_store hmx ht) g2)
                rintro s1 ⟨hk, hb⟩
                obtain ⟨u, hu, hk'⟩ := (AI.go_val (by omega)).1 hk
                exact ⟨u, (AI.val_w hy1 hb (AOp.ro_forb hf) o1).1 hu, hk'⟩
              have g4 : ∃ u, y.ai.val P (y.ro s.nr) s u ∧ x.ai.go P (x.ro s.nr) s x.dst fun s1 => K (s1.put y.dst u) := by
                rcases hfun with hnew | hfn
                · cases hxa : x.ai with
                  | store n p z => rw [hxa] at g3; exact AI.go_store_ex (F := fun u s1 => K (s1.put y.dst u)) g3
                  | alloc n z => rw [hxa] at hnew; simp [AI.isNew] at hnew
                  | box n z => rw [hxa] at hnew; simp [AI.isNew] at hnew
                  | _ => rw [hxa] at ht; simp [AI.wr] at ht
                · obtain ⟨s1, u, hu, _⟩ := AI.go_ex g3
                  refine ⟨u, hu, AI.go_mono ?_ g3⟩
                  rintro s2 ⟨u', hu', hk'⟩
                  have := AI.val_fun1 hfn hu hu'
                  subst this; exact hk'
              obtain ⟨u, hu, g5⟩ := g4
              exact (AI.go_val (by omega)).2 ⟨u, hu, (AI.go_put o3 a2').1 g5⟩
            · -- two new variables
              obtain ⟨⟨⟨hxn, hyn⟩, hxd⟩, hyd⟩ := h
              obtain ⟨d, hd⟩ := Option.isSome_iff_exists.1 hxd
              obtain ⟨e, he⟩ := Option.isSome_iff_exists.1 hyd
              rw [hd, he] at g2
              rw [hd] at o1 a2 ⊢
              rw [he] at o3 ⊢
              have hne : d ≠ e := fun h => a2 d rfl (by rw [he, h])
              have hro : ∀ (r r' : Nat → Bool) (z : AI) (s : AS) (f : Option Tmp) (K : AS → Prop), z.isNew = true → z.go P r s f K → z.go P r' s f K := by
                intro r r' z s f K hz
                cases z <;> simp only [AI.isNew] at hz <;> try (cases hz; done)
                all_goals (simp only [AI.go]; exact id)
              have g3 := AI.go_new hxn hyn hne o1 o3 (AI.go_mono (fun s1 h => hro _ (x.ro s.nr) _ _ _ _ hyn h) g2)
              exact hro _ _ _ _ _ _ hyn g3

/-! ### Every order -/

noncomputable def aOp (P : Program) (xs : List AOp) (i : Nat) (K : AS → Prop) (s : AS) : Prop :=
  match xs[i]? with
  | none => K s
  | some x => x.go P s K

theorem aOp_mono {xs : List AOp} {i : Nat} (h : ∀ s, K s → K' s) (g : aOp P xs i K s) : aOp P xs i K' s := by
  unfold aOp at *
  split
  · rename_i hx; rw [hx] at g; exact h _ g
  · rename_i x hx; rw [hx] at g; exact AOp.go_mono h g

noncomputable def wpAnyA (P : Program) (md : Region.Mode) (ops : Array Oper) (xs : List AOp) (K : AS → Prop) : Nat → Array Bool → AS → Prop
  | 0, listed, s => Region.ready md ops listed = [] ∧ K s
  | fuel + 1, listed, s => (Region.ready md ops listed = [] → K s) ∧ ∀ i ∈ Region.ready md ops listed, aOp P xs i (wpAnyA P md ops xs K fuel (listed.setIfInBounds i true)) s

variable {md : Region.Mode} {ops : Array Oper} {xs : List AOp}

/-- Every other operation that has not come up yet waits for this one, or may change places with it. -/
def freeA (md : Region.Mode) (ops : Array Oper) (xs : List AOp) (listed : Array Bool) (i : Nat) : Bool :=
  match xs[i]? with
  | none => false
  | some xi => (List.range ops.size).all fun j => j == i || listed.getD j true || match ops[j]?, xs[j]? with
      | some oj, some xj => oj.after.any (fun e => Region.binds md e && e.on == i) || xi.swaps xj
      | _, _ => false

theorem freeA_spec {i : Nat} {xi : AOp} {listed : Array Bool} (hi : xs[i]? = some xi) (h : freeA md ops xs listed i = true) (j : Nat) (oj : Oper) (hj : ops[j]? = some oj) (hne : j ≠ i)
    (hun : listed.getD j true = false) (hno : ∀ e ∈ oj.after, Region.binds md e = true → e.on ≠ i) : ∃ xj, xs[j]? = some xj ∧ xi.swaps xj = true := by
  simp only [freeA, hi, List.all_eq_true, List.mem_range] at h
  have h1 := h j (Array.getElem?_eq_some_iff.1 hj).1
  simp only [hj, Bool.or_eq_true, beq_iff_eq, hne, false_or, hun, Bool.false_eq_true] at h1
  cases hx : xs[j]? with
  | none => simp [hx] at h1
  | some xj =>
    simp only [hx, Bool.or_eq_true] at h1
    rcases h1 with h1 | h1
    · obtain ⟨e, he, hb⟩ := Array.any_eq_true'.1 h1
      simp only [Bool.and_eq_true, beq_iff_eq] at hb
      exact absurd hb.2 (hno e he hb.1)
    · exact ⟨xj, rfl, h1⟩

theorem wpAnyA_first {i : Nat} {xi : AOp} (hi : xs[i]? = some xi) : ∀ (fuel : Nat) (listed : Array Bool) (s : AS),
    (∀ j oj, ops[j]? = some oj → j ≠ i → listed.getD j true = false → (∀ e ∈ oj.after, Region.binds md e = true → e.on ≠ i) → ∃ xj, xs[j]? = some xj ∧ xi.swaps xj = true) →
    i ∈ Region.ready md ops listed → xi.go P s (wpAnyA P md ops xs K fuel (listed.setIfInBounds i true)) → wpAnyA P md ops xs K (fuel + 1) listed s := by
  intro fuel
  have hgo : ∀ (K' : AS → Prop) s, xi.go P s K' → aOp P xs i K' s := fun K' s g => by unfold aOp; rw [hi]; exact g
  -- what lies behind 'xi' is reached
  have hex : ∀ (K' : AS → Prop) s, xi.go P s K' → ∃ s', K' s' := fun K' s g => by
    rw [AOp.go_mode] at g
    split at g
    · exact AI.go_ex g.2
    · exact ⟨_, g⟩
    · exact g.elim
  induction fuel with
  | zero =>
    intro listed s _ hr H
    refine ⟨fun h => (by rw [h] at hr; cases hr), fun j hj => ?_⟩
    by_cases hji : j = i
    · subst hji; exact hgo _ _ H
    · have := ready_mono hj hji
      obtain ⟨s', h1, _⟩ := hex _ _ H
      rw [h1] at this
      cases this
  | succ fuel ih =>
    intro listed s hfree hr H
    refine ⟨fun h => (by rw [h] at hr; cases hr), fun j hj => ?_⟩
    by_cases hji : j = i
    · subst hji; exact hgo _ _ H
    · obtain ⟨hjun, oj, hoj, hall⟩ := mem_ready.1 hj
      have hnot : ∀ e ∈ oj.after, Region.binds md e = true → e.on ≠ i := fun e he hb heq => by
        have h1 := hall e he hb
        have h0 := (mem_ready.1 hr).1
        rw [heq] at h1
        rcases Nat.lt_or_ge i listed.size with h' | h'
        · simp [h'] at h0 h1; rw [h0] at h1; cases h1
        · simp [Array.getElem?_eq_none h'] at h1
      obtain ⟨xj, hxj, hsw⟩ := hfree j oj hoj hji hjun hnot
      have H2 : xi.go P s fun s1 => xj.go P s1 (wpAnyA P md ops xs K fuel ((listed.setIfInBounds i true).setIfInBounds j true)) := by
        refine AOp.go_mono (fun s1 h1 => ?_) H
        have := h1.2 j (ready_mono hj hji)
        unfold aOp at this
        rw [hxj] at this
        exact this
      have H3 := AOp.swap hsw H2
      have hfree' : ∀ k ok, ops[k]? = some ok → k ≠ i → (listed.setIfInBounds j true).getD k true = false →
          (∀ e ∈ ok.after, Region.binds md e = true → e.on ≠ i) → ∃ xk, xs[k]? = some xk ∧ xi.swaps xk = true := fun k ok hk hki hun hno => by
        refine hfree k ok hk hki ?_ hno
        by_cases hjk : j = k
        · subst hjk; exact hjun
        · rw [getD_set_ne true hjk] at hun; exact hun
      unfold aOp
      rw [hxj]
      refine AOp.go_mono (fun s2 h3 => ih (listed.setIfInBounds j true) s2 hfree' (ready_mono hr (Ne.symm hji)) ?_) H3
      rw [Array.setIfInBounds_comm _ _ hji]
      exact h3

def lexFromA (md : Region.Mode) (ops : Array Oper) (xs : List AOp) : Nat → Nat → Array Bool → Bool
  | 0, _, listed => (Region.ready md ops listed).isEmpty
  | fuel + 1, k, listed => (Region.ready md ops listed).contains k && freeA md ops xs listed k && lexFromA md ops xs fuel (k + 1) (listed.setIfInBounds k true)

/-- One walk in the order of the text serves every order. -/
def lexA (ops : Array Oper) (xs : List AOp) : Bool := lexFromA .any ops xs xs.length 0 (Array.replicate ops.size false)

theorem wpAnyA_lex : ∀ (l : List AOp) (k : Nat) (listed : Array Bool) (s : AS), (∀ j, l[j]? = xs[k + j]?) → lexFromA md ops xs l.length k listed = true → AReg P l s K → wpAnyA P md ops xs K l.length listed s
  | [], _, _, _, _, hB, h => ⟨by simpa [lexFromA] using hB, h⟩
  | x :: l, k, listed, s, hl, hB, h => by
    have h0 : xs[k]? = some x := by simpa using (hl 0).symm
    simp only [List.length_cons, lexFromA, Bool.and_eq_true] at hB
    obtain ⟨⟨hr, hf⟩, hB'⟩ := hB
    refine wpAnyA_first h0 l.length listed s (freeA_spec h0 hf) (by simpa using hr) (AOp.go_mono (fun s' h' => ?_) h)
    exact wpAnyA_lex l (k + 1) _ _ (fun j => by have := hl (j + 1); simpa [Nat.add_assoc, Nat.add_comm 1 j] using this) hB' h'

end

section
variable {P : Program} {w0 : World} {regs : List (Nat × Nat × Nat)} {St : Nat → Nat → Prop} {s : AS} {a : Act} {w : World} {o : Oper} {K : AS → Prop} {Q : Exit → Act → World → Prop} {draw : Bool} {ops : Array Oper} {xs : List AOp}

/-- The same, but for what is said of orders. -/
def AOp.same (x y : AOp) : Prop := x.dst = y.dst ∧ x.guard = y.guard ∧ x.ai = y.ai

theorem annot1_same (ops : Array Oper) (xs : List AOp) (i : Nat) (x : AOp) : (annot1 ops xs i x).same x := by
  unfold annot1
  split
  · exact ⟨rfl, rfl, rfl⟩
  · split <;> exact ⟨rfl, rfl, rfl⟩
  · exact ⟨rfl, rfl, rfl⟩

theorem annot_get {ops : Array Oper} {xs : List AOp} {i : Nat} {x : AOp} (h : xs[i]? = some x) : ∃ y, (annot ops xs)[i]? = some y ∧ y.same x := by
  refine ⟨annot1 ops xs i x, ?_, annot1_same ops xs i x⟩
  simp [annot, h]

theorem annot_len (ops : Array Oper) (xs : List AOp) : (annot ops xs).length = xs.length := by simp [annot]

theorem compO_dst {x y : AOp} (h : compO P draw ops o = some y) (hxy : x.same y) : x.dst = o.dst ∧ compAI P draw o.op = some x.ai := by
  obtain ⟨e1, _, e3⟩ := hxy
  rw [e1, e3]
  unfold compO at h
  split at h <;> try (cases h; done)
  rename_i ai hai
  split at h
  · cases h; exact ⟨rfl, hai⟩
  · split at h
    · cases h; exact ⟨rfl, hai⟩
    · cases h

/-- Whether it is wanted. -/
theorem compO_guard {x y : AOp} (h : compO P draw ops o = some y) (hxy : x.same y) (hs : SRel w0 regs St s a w) {b : Bool} (hm : x.mode s = some b) : Region.wanted o (yielded ops a.tmps) = b := by
  have hm : y.mode s = some b := by rw [← hm]; unfold AOp.mode; rw [hxy.2.1]
  unfold compO at h
  split at h <;> try (cases h; done)
  split at h
  · rename_i hg
    cases h
    simp only [AOp.mode, Option.some.injEq] at hm
    simp [Region.wanted, hg, hm]
  · rename_i j want hg
    split at h <;> try (cases h; done)
    rename_i t ht
    cases h
    simp only [AOp.mode] at hm
    obtain ⟨Imm, h1, h2, h3⟩ := hs.ex
    have hT := h2.eval (s := s) (.tmp t) (by simp)
    split at hm <;> try (cases hm; done)
    · rename_i c hc
      simp only [Option.some.injEq] at hm
      rw [hc] at hT
      obtain ⟨e, _⟩ := hT.lit
      have hget : a.tmps[t]? = some (.bool c) := by
        simp only [Act.eval] at e
        cases hh : a.tmps[t]? with
        | none => simp [hh, undef] at e
        | some v => simp [hh] at e; rw [e]
      simp only [Region.wanted, hg, yielded, ht, Option.bind_some, hget]
      rw [← hm]
      cases c <;> cases want <;> rfl
    · rename_i hc
      simp only [Option.some.injEq] at hm
      rw [hc] at hT
      rw [← hm]
      have e : a.eval (.tmp t) = .tuple #[] := by
        rcases hT with hT | ⟨cs, hT, e⟩
        · cases hT
        · cases hT; exact e
      have hy : yielded ops a.tmps j = none := by
        simp only [yielded, ht, Option.bind_some]
        simp only [Act.eval] at e
        cases hh : a.tmps[t]? with
        | none => rfl
        | some v => simp [hh] at e; rw [e]
      simp only [Region.wanted, hg, hy]
      rfl

/-- One operation. -/
theorem AOp.sound {x y : AOp} (h : compO P draw ops o = some y) (hxy : x.same y) (g : x.go P s K) (hs : SRel w0 regs St s a w) :
    if Region.wanted o (yielded ops a.tmps) then o.wp P a w (fun a' w' => ∃ s', K s' ∧ SRel w0 regs St s' a' w') Q else ∃ s', K s' ∧ SRel w0 regs St s' (a.put o.dst undef) w := by
  obtain ⟨hd, hai⟩ := compO_dst h hxy
  rw [AOp.go_mode] at g
  split at g
  · rename_i hm
    rw [compO_guard h hxy hs hm]
    rw [hd] at g
    exact compAI_sound hai g.2 hs
  · rename_i hm
    rw [compO_guard h hxy hs hm]
    rw [hd] at g
    simp only [Bool.false_eq_true, if_false]
    obtain ⟨Imm, h1, h2, h3⟩ := hs.ex
    exact ⟨_, g, hs.put0 h1 h2 h3 (.inr ⟨[], .tup0, rfl⟩)⟩
  · exact g.elim

theorem compOs_get : ∀ {os : List Oper} {xs : List AOp}, compOs P draw ops os = some xs → xs.length = os.length ∧ ∀ (i : Nat) (o : Oper), os[i]? = some o → ∃ x, xs[i]? = some x ∧ compO P draw ops o = some x
  | [], xs, h => by
    simp only [compOs, Option.some.injEq] at h
    subst h; simp
  | o :: os, xs, h => by
    simp only [compOs] at h
    split at h <;> try (cases h; done)
    rename_i x ys hx hys
    cases h
    obtain ⟨h1, h2⟩ := compOs_get hys
    refine ⟨by simp [h1], fun i o' ho => ?_⟩
    cases i with
    | zero => simp only [List.getElem?_cons_zero, Option.some.injEq] at ho; subst ho; exact ⟨x, rfl, hx⟩
    | succ i => simpa using h2 i o' (by simpa using ho)

/-- A region whose order is that of the text. -/
theorem wpList_of_AReg : ∀ (os : List Oper) (xs : List AOp) (s : AS) (a : Act) (w : World), compOs P draw ops os = some xs → AReg P xs s K → SRel w0 regs St s a w →
    wpList P ops (fun e a' w' => e = .normal ∧ ∃ s', K s' ∧ SRel w0 regs St s' a' w') os a w
  | [], xs, s, a, w, h, g, hs => by
    simp only [compOs, Option.some.injEq] at h
    subst h
    exact ⟨rfl, s, g, hs⟩
  | o :: os, xs, s, a, w, h, g, hs => by
    simp only [compOs] at h
    split at h <;> try (cases h; done)
    rename_i x ys hx hys
    cases h
    have := AOp.sound (Q := fun e a' w' => e = .normal ∧ ∃ s', K s' ∧ SRel w0 regs St s' a' w') hx ⟨rfl, rfl, rfl⟩ g hs
    unfold wpList
    split
    · rename_i hw
      rw [if_pos hw] at this
      exact .inl (Oper.wp_mono (fun a' w' ⟨s', hk, hs'⟩ => wpList_of_AReg os ys s' a' w' hys hk hs') this)
    · rename_i hw
      rw [if_neg hw] at this
      obtain ⟨s', hk, hs'⟩ := this
      exact wpList_of_AReg os ys s' _ w hys hk hs'

theorem wpAny_of_A (hc : compOs P draw ops ops.toList = some xs) : ∀ (fuel : Nat) (listed : Array Bool) (s : AS) (a : Act) (w : World), wpAnyA P .any ops (annot ops xs) K fuel listed s → SRel w0 regs St s a w →
    wpAny P .any ops (fun e a' w' => e = .normal ∧ ∃ s', K s' ∧ SRel w0 regs St s' a' w') fuel listed a w
  | 0, listed, s, a, w, h, hs => ⟨h.1, rfl, s, h.2, hs⟩
  | fuel + 1, listed, s, a, w, h, hs => by
    refine ⟨fun h0 => ⟨rfl, s, h.1 h0, hs⟩, fun i hi => ?_⟩
    have h1 := h.2 i hi
    unfold wpOp
    split
    · rename_i ho
      obtain ⟨_, o, ho', _⟩ := mem_ready.1 hi
      rw [ho] at ho'; cases ho'
    · rename_i o ho
      obtain ⟨x, hx, hcx⟩ := (compOs_get hc).2 i o (by simpa using ho)
      obtain ⟨y, hy, hyx⟩ := annot_get (ops := ops) hx
      unfold aOp at h1
      rw [hy] at h1
      have := AOp.sound (Q := fun e a' w' => e = .normal ∧ ∃ s', K s' ∧ SRel w0 regs St s' a' w') hcx hyx h1 hs
      split
      · rename_i hw
        rw [if_pos hw] at this
        exact .inl (Oper.wp_mono (fun a' w' ⟨s', hk, hs'⟩ => wpAny_of_A hc fuel _ s' a' w' hk hs') this)
      · rename_i hw
        rw [if_neg hw] at this
        obtain ⟨s', hk, hs'⟩ := this
        exact wpAny_of_A hc fuel _ s' _ w hk hs'

/-- A REGION. -/
theorem wp_region_A {id : Nat} (hm : draw = false ∨ P.follows .mixedOrders = true) (hc : compOs P draw ops ops.toList = some xs) (hl : draw = false ∨ lexA ops (annot ops xs) = true)
    (h : AReg P (if draw then annot ops xs else xs) s K) (hs : SRel w0 regs St s a w) :
    (Code.region id ops draw).wp P (fun e a' w' => e = .normal ∧ ∃ s', K s' ∧ SRel w0 regs St s' a' w') a w := by
  cases draw with
  | false => exact wp_region_list (wpList_of_AReg ops.toList xs s a w hc h hs)
  | true =>
    have hm' := hm.resolve_left (by simp)
    have hl' := hl.resolve_left (by simp)
    refine wp_region_any hm' ?_
    have hlen := (compOs_get hc).1
    have h1 := wpAnyA_lex (md := .any) (ops := ops) (xs := annot ops xs) (annot ops xs) 0 (Array.replicate ops.size false) s (by simp) hl' h
    rw [annot_len, hlen, Array.length_toList] at h1
    exact wpAny_of_A hc _ _ s a _ h1 hs.drew

end
end Go.Cab
