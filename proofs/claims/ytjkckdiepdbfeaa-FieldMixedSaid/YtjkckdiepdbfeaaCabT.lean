/- Part eighteen: functions. -/
import Derived.Test.YtjkckdiepdbfeaaCabS
set_option linter.unusedSimpArgs false
set_option linter.unusedVariables false
set_option linter.unusedSectionVars false
namespace Go.Cab
open Go.RowKit
open Classical

inductive RV where
  | tmp (t : Tmp)
  | cell (a : Tmp) (agg : Bool) (n : Nat)
  deriving Inhabited

structure FC where
  np : Nat
  nt : Nat
  rv : List RV
  body : AC
  deriving Inhabited

def compRV (P : Program) : ResultVar → Option RV
  | .tmp t => some (.tmp t)
  | .cell a t => match szOf P t with
    | some n => if (P.underlying t).isSome && (aggT P t || n == 1) then some (.cell a (aggT P t) n) else none
    | none => none

def compRVs (P : Program) : List ResultVar → Option (List RV)
  | [] => some []
  | r :: rs => match compRV P r, compRVs P rs with | some x, some xs => some (x :: xs) | _, _ => none

def compF (P : Program) (f : FuncId) : Option FC :=
  match P.funcs[f]? with
  | some fn => match fn.body with
    | some c => match compC P c, compRVs P fn.results.toList with
      | some ac, some rv => if fn.params.size ≤ fn.ntmps then some ⟨fn.params.size, fn.ntmps, rv, ac⟩ else none
      | _, _ => none
    | none => none
  | none => none

def tt : Nat → Bool := fun _ => true

noncomputable def RVal (s : AS) : RV → Option AV
  | .tmp t => match s.coe tt (s.ev (.tmp t)) with
    | .any => none
    | v => some v
  | .cell a agg n => match s.peek tt (s.ev (.tmp a)) with
    | some (m, u) => if m = n ∧ u.isAgg = agg ∧ u.isTup = false then some (s.coe tt u) else none
    | none => none

noncomputable def RVals (s : AS) : List RV → Option (List AV)
  | [] => some []
  | r :: rs => match RVal s r, RVals s rs with | some x, some xs => some (x :: xs) | _, _ => none

/-- What a function answers from this state. -/
def Fin (rvs : List RV) (s : AS) : Res → Prop
  | .val v => ∃ bs, (match rvs with
    | [x] => RVal (s.seals bs) x = some v ∧ v ≠ .any
    | xs => ∃ vs, v = .tup vs ∧ RVals (s.seals bs) xs = some vs ∧ ∀ u ∈ vs, u ≠ .any)
  | .row e esz els => ∃ t, rvs = [.tmp t] ∧ ((s.ev (.tmp t) = .lit (.slice none 0 0) ∧ els = []) ∨ ∃ b V, s.ev (.tmp t) = .own b V ∧ s.blk b = some (.row e V esz els 0))

/-- One result. -/
def rvRun (tmps : Array Value) : ResultVar → Sem Value
  | .tmp t => pure (tmps.getD t undef)
  | .cell b t => do loadVar t (← asAddr (tmps.getD b undef))

section
variable {P : Program} {w0 : World} {regs : List (Nat × Nat × Nat)} {St Imm : Nat → Nat → Prop} {s : AS} {a : Act} {w : World}

theorem RVal_sound {rv : ResultVar} {x : RV} {v : AV} (hc : compRV P rv = some x) (hv : RVal s x = some v) (h2 : TmOk Imm w s.tm a.tmps) (h3 : HeapOk w0 regs Imm s.hp w)
    (hrow : ∀ (k : Nat) e V esz els, s.blk k = some (.row e V esz els els.length) → ∃ cs, R Imm w (.arr esz els) cs ∧ ∀ g cap, V = .slice (some ⟨g, 0, none⟩) els.length cap → At Imm w g 0 cs) :
    ∃ V, (rvRun a.tmps rv).run P w = .ok V w ∧ Rel Imm w v V := by
  cases rv with
  | tmp t =>
    simp only [compRV, Option.some.injEq] at hc
    subst hc
    simp only [RVal] at hv
    refine ⟨a.tmps.getD t undef, rfl, ?_⟩
    have := coe_sound (ro := tt) h3 hrow (h2.eval (s := s) (.tmp t) (by simp))
    simp only [Act.eval] at this
    split at hv
    · cases hv
    · cases hv; exact this
  | cell b t =>
    simp only [compRV] at hc
    split at hc <;> try (cases hc; done)
    rename_i n hn
    split at hc <;> try (cases hc; done)
    rename_i hok
    simp only [Bool.and_eq_true, Bool.or_eq_true, beq_iff_eq] at hok
    cases hc
    simp only [RVal] at hv
    split at hv <;> try (cases hv; done)
    rename_i m u hp
    split at hv <;> try (cases hv; done)
    rename_i hcond
    obtain ⟨rfl, hagg, htup⟩ := hcond
    simp only [Option.some.injEq] at hv
    obtain ⟨blk, off, cs, e, hR, hl, hsc, hcell⟩ := peek_sound hp (h2.eval (s := s) (.tmp b) (by simp)) h3
    simp only [Act.eval] at e
    refine ⟨asVal u cs, ?_, ?_⟩
    · simp only [rvRun, e, asAddr, loadVar]
      have hcs : (loadCells ⟨blk, off, none⟩ m).run P w = .ok cs.toArray w := by
        have := run_loadCells_list (P := P) (w := w) ⟨blk, off, none⟩ cs (fun j v hj => by rw [add_none]; exact hcell j v hj)
        rw [hl] at this
        simpa using this
      cases hA : aggT P t with
      | true =>
        rw [hA] at hagg
        simp [run_isAgg hok.1, hA, run_sizeOf' hn, hcs]
        cases u <;> simp [AV.isAgg] at hagg <;> rfl
      | false =>
        have hm1 : m = 1 := by rcases hok.2 with h' | h' <;> simp_all
        rw [hA] at hagg
        match cs, hl with
        | [y], _ =>
          have hy := hcell 0 y (by simp)
          simp only [Nat.add_zero] at hy
          simp [run_isAgg hok.1, hA, hy]
          cases u <;> simp [AV.isAgg, AV.isTup] at hagg htup <;> rfl
        | [], h0 => simp at h0; omega
        | _ :: _ :: _, h0 => simp at h0; omega
    · rw [← hv]
      exact coe_sound (ro := tt) h3 hrow (.inr ⟨cs, hR, rfl⟩)

theorem RVals_sound (h2 : TmOk Imm w s.tm a.tmps) (h3 : HeapOk w0 regs Imm s.hp w)
    (hrow : ∀ (k : Nat) e V esz els, s.blk k = some (.row e V esz els els.length) → ∃ cs, R Imm w (.arr esz els) cs ∧ ∀ g cap, V = .slice (some ⟨g, 0, none⟩) els.length cap → At Imm w g 0 cs) :
    ∀ (rvs : List ResultVar) (xs : List RV) (vs : List AV), compRVs P rvs = some xs → RVals s xs = some vs → (∀ u ∈ vs, u ≠ .any) →
    ∃ Vs, (rvs.mapM (m := Sem) (rvRun a.tmps)).run P w = .ok Vs w ∧ R Imm w (.tup vs) Vs ∧ Vs.length = vs.length
  | [], xs, vs, hc, hv, _ => by
    simp only [compRVs, Option.some.injEq] at hc
    subst hc
    simp only [RVals, Option.some.injEq] at hv
    subst hv
    exact ⟨[], rfl, .tup0, rfl⟩
  | rv :: rvs, xs, vs, hc, hv, hany => by
    simp only [compRVs] at hc
    split at hc <;> try (cases hc; done)
    rename_i x ys hx hys
    cases hc
    simp only [RVals] at hv
    split at hv <;> try (cases hv; done)
    rename_i v us hv1 hus
    cases hv
    obtain ⟨V, hrun, hrel⟩ := RVal_sound hx hv1 h2 h3 hrow
    obtain ⟨Vs, hrun2, hR, hl⟩ := RVals_sound h2 h3 hrow rvs ys us hys hus (fun u hu => hany u (by simp [hu]))
    rcases hrel with hrel | ⟨c, hc, e⟩
    · exact absurd hrel (hany v (by simp))
    · refine ⟨V :: Vs, ?_, by rw [e]; exact .tup1 _ _ _ _ hc hR, by simp [hl]⟩
      simp only [List.mapM_cons, Sem.run_bind]
      rw [hrun]
      simp only [Result.andThen_ok]
      rw [hrun2]
      rfl

theorem results_run {fn : Func} (tmps : Array Value) : (results fn tmps).run P w =
    ((fn.results.toList.mapM (m := Sem) (rvRun tmps)).run P w).andThen fun vs w' => .ok (match vs with | [v] => v | vs => .tuple vs.toArray) w' := by
  have h0 : results fn tmps = (do let vs ← fn.results.mapM (m := Sem) (rvRun tmps); pure (if h : vs.size = 1 then vs[0] else .tuple vs)) := by
    unfold results
    have hm : (fun | .tmp t => pure (tmps.getD t undef) | .cell a t => do loadVar t (← asAddr (tmps.getD a undef)) : ResultVar → Sem Value) = rvRun tmps := by funext x; cases x <;> rfl
    rw [← hm]; rfl
  have h1 : fn.results.mapM (m := Sem) (rvRun tmps) = List.toArray <$> fn.results.toList.mapM (m := Sem) (rvRun tmps) := by
    conv => lhs; rw [← Array.toArray_toList (xs := fn.results)]
    exact List.mapM_toArray
  rw [h0, Sem.run_bind, h1, Sem.run_map]
  generalize (fn.results.toList.mapM (m := Sem) (rvRun tmps)).run P w = r
  cases r with
  | halt h w' => rfl
  | ok vs w' =>
    simp only [Result.andThen_ok, Sem.run_pure]
    match vs with
    | [] => rfl
    | [v] => rfl
    | _ :: _ :: _ => rfl

/-- What the results come to. -/
theorem Fin.sound {fn : Func} {xs : List RV} {r : Res} (hc : compRVs P fn.results.toList = some xs) (h : Fin xs s r) (hs : SRel w0 regs St s a w) :
    ∃ V Imm, (results fn a.tmps).run P w = .ok V w ∧ ImmOk w0 St Imm w ∧ ResOk w0 Imm w V r := by
  rw [results_run]
  cases r with
  | val v =>
    obtain ⟨bs, h⟩ := h
    obtain ⟨Imm, h1, h2, h3, hseal⟩ := (SRel.sealsAll bs hs).seals
    cases hrs : fn.results.toList with
    | nil =>
      rw [hrs] at hc
      simp only [compRVs, Option.some.injEq] at hc
      subst hc
      simp only at h
      obtain ⟨vs, rfl, hvs, hany⟩ := h
      simp only [RVals, Option.some.injEq] at hvs
      subst hvs
      exact ⟨_, Imm, rfl, h1, .inr ⟨[], .tup0, rfl⟩, by simp⟩
    | cons r0 rs =>
      cases rs with
      | nil =>
        rw [hrs] at hc
        simp only [compRVs] at hc
        split at hc <;> try (cases hc; done)
        rename_i x ys hx hys
        simp only [Option.some.injEq] at hys
        subst hys
        cases hc
        simp only at h
        obtain ⟨hv, hany⟩ := h
        obtain ⟨V, hrun, hrel⟩ := RVal_sound hx hv h2 h3 hseal
        refine ⟨V, Imm, ?_, h1, hrel, hany⟩
        simp only [List.mapM_cons, Sem.run_bind]
        rw [hrun]
        simp
      | cons r1 rs =>
        rw [hrs] at hc
        have hxs : ∃ x y zs, xs = x :: y :: zs := by
          simp only [compRVs] at hc
          split at hc <;> try (cases hc; done)
          rename_i x ys hx hys
          split at hys <;> try (cases hys; done)
          cases hys; cases hc
          exact ⟨_, _, _, rfl⟩
        obtain ⟨x, y, zs, rfl⟩ := hxs
        simp only at h
        obtain ⟨vs, rfl, hvs, hany⟩ := h
        obtain ⟨Vs, hrun, hR, hl⟩ := RVals_sound h2 h3 hseal _ _ _ hc hvs hany
        refine ⟨.tuple Vs.toArray, Imm, ?_, h1, .inr ⟨Vs, hR, rfl⟩, by simp⟩
        rw [hrun]
        have hl2 : 2 ≤ vs.length := by
          simp only [RVals] at hvs
          split at hvs <;> try (cases hvs; done)
          rename_i a1 a2 b1 b2
          split at b2 <;> try (cases b2; done)
          cases b2; cases hvs
          simp
        match Vs, hl with
        | [], h0 => simp at h0; omega
        | [_], h0 => simp at h0; omega
        | _ :: _ :: _, _ => rfl
  | row e esz els =>
    obtain ⟨t, rfl, h⟩ := h
    have hrs : fn.results.toList = [.tmp t] := by
      cases hr : fn.results.toList with
      | nil => rw [hr] at hc; simp [compRVs] at hc
      | cons r0 rs =>
        rw [hr] at hc
        simp only [compRVs] at hc
        split at hc <;> try (cases hc; done)
        rename_i x ys hx hys
        simp only [Option.some.injEq, List.cons.injEq] at hc
        obtain ⟨rfl, rfl⟩ := hc
        cases rs with
        | cons r1 rs =>
          simp only [compRVs] at hys
          split at hys <;> cases hys
        | nil =>
          cases r0 with
          | tmp t' => simp only [compRV, Option.some.injEq, RV.tmp.injEq] at hx; subst hx; rfl
          | cell b t' =>
            simp only [compRV] at hx
            split at hx <;> try (cases hx; done)
            split at hx <;> cases hx
    obtain ⟨Imm, h1, h2, h3⟩ := hs.ex
    have hT := h2.eval (s := s) (.tmp t) (by simp)
    simp only [Act.eval] at hT
    refine ⟨a.tmps.getD t undef, Imm, by rw [hrs]; simp [rvRun], h1, ?_⟩
    rcases h with ⟨he, rfl⟩ | ⟨b, V, he, hb⟩
    · rw [he] at hT
      obtain ⟨e1, _⟩ := hT.lit
      rw [e1]
      exact ⟨rfl, [], .arr0 _, World.ownsRow_nil w _ e esz, fun g hg => by cases hg⟩
    · rw [he] at hT
      rcases hT with hT | ⟨cs, hT, e1⟩
      · cases hT
      cases hT
      have e2 : a.tmps.getD t undef = V := e1
      rw [e2]
      obtain ⟨⟨cs, hR, hown, hsc, _, hm⟩, _⟩ := h3.ok b _ hb
      exact ⟨hsc, cs, hR, ownsRow_base hown (fun g hg => (h3.rowNew hb hg).1), fun g hg o => hm g o hg (by simp)⟩

/-- The state in which a function begins. -/
def AS.init (args : List AV) (np nt : Nat) : AS := ⟨0, args ++ List.replicate (nt - np) .any, List.replicate nt none⟩
def AS.init1 (l : Nat × Nat) (n : Nat) (u : AV) (args : List AV) (np nt : Nat) : AS := ⟨1, .ptr 0 l 0 [] :: args ++ List.replicate (nt - np) .any, some (.box l n u) :: List.replicate nt none⟩

theorem argsOk_len : ∀ {vs : List AV} {Vs : List Value}, ArgsOk St w vs Vs → vs.length = Vs.length ∧ ∀ (t : Nat) (v : AV), vs[t]? = some v → ∃ V, Vs[t]? = some V ∧ Rel St w v V
  | [], [], _ => ⟨rfl, by simp⟩
  | v :: vs, V :: Vs, h => by
    obtain ⟨h1, h2⟩ := argsOk_len h.2
    refine ⟨by simp [h1], fun t u hu => ?_⟩
    cases t with
    | zero => simp only [List.getElem?_cons_zero, Option.some.injEq] at hu ⊢; subst hu; exact ⟨V, rfl, h.1⟩
    | succ t => simpa using h2 t u (by simpa using hu)
  | [], _ :: _, h => h.elim
  | _ :: _, [], h => h.elim

theorem tmOk_init {args : List AV} {Vs : List Value} (h : ArgsOk St w args Vs) (k : Nat) : TmOk St w (args ++ List.replicate k .any) (Vs.toArray ++ Array.replicate k undef) := by
  obtain ⟨hl, hg⟩ := argsOk_len h
  intro t v hv
  rcases Nat.lt_or_ge t args.length with hlt | hge
  · rw [List.getElem?_append_left hlt] at hv
    obtain ⟨V, hV, hrel⟩ := hg t v hv
    have : (Vs.toArray ++ Array.replicate k undef).getD t undef = V := by
      have hlt' : t < Vs.length := by omega
      simp [Array.getD_eq_getD_getElem?, Array.getElem?_append, hlt']
      exact (List.getElem?_eq_some_iff.1 hV).2
    rw [this]; exact hrel
  · rw [List.getElem?_append_right hge, List.getElem?_replicate] at hv
    split at hv
    · cases hv; exact .inl rfl
    · cases hv

/-- A FUNCTION's CONTRACT, from its text. -/
theorem PCall.of {f : FuncId} {fc : FC} {args : List AV} {r : Res} (hc : compF P f = some fc) (hlen : args.length = fc.np)
    (h : fc.body.wp P (AS.init args fc.np fc.nt) fun x s => match x with | .exit _ => False | _ => Fin fc.rv s r) : PCall P f args r := by
  intro w St Vs hth hargs
  unfold compF at hc
  split at hc <;> try (cases hc; done)
  rename_i fn hfn
  split at hc <;> try (cases hc; done)
  rename_i c hbody
  split at hc <;> try (cases hc; done)
  rename_i ac rv hac hrv
  split at hc <;> try (cases hc; done)
  rename_i hsz
  cases hc
  obtain ⟨hl, _⟩ := argsOk_len hargs
  simp only at hlen h
  refine calls_of_wp hfn hbody ?_
  have hsize : Vs.toArray.size = fn.params.size := by simp [← hl, hlen]
  have hinit : SRel w [] St (AS.init args fn.params.size fn.ntmps) { tmps := Vs.toArray ++ Array.replicate (fn.ntmps - Vs.toArray.size) undef, defers := [] } w := by
    refine ⟨rfl, ?_, Fr.refl _ _, St, ⟨fun _ _ h => h, fun _ _ h _ => h, hth⟩, ?_, ⟨fun k x hx => ?_, fun k k' x y _ hx _ => ?_⟩⟩
    · simp [AS.init, hl]; omega
    · rw [hsize]; exact tmOk_init hargs _
    · simp [AS.init, List.getElem?_replicate] at hx; split at hx <;> simp at hx
    · simp [AS.init, List.getElem?_replicate] at hx; split at hx <;> simp at hx
  refine Code.wp_mono (fun e a' w' ⟨x, s', he, hk, hs'⟩ => ?_) (AC.sound c ac _ _ _ w hac h hinit)
  subst he
  have key : Fin rv s' r → a'.defers = [] ∧ ∃ v, (results fn a'.tmps).run P w' = .ok v w' ∧ ∃ V Imm, Ending.returned v = .returned V ∧ Fr [] w w' ∧ ImmOk w St Imm w' ∧ ResOk w Imm w' V r := fun hfin => by
    obtain ⟨V, Imm, hrun, hI, hres⟩ := hfin.sound hrv hs'
    exact ⟨hs'.defers, V, hrun, V, Imm, rfl, hs'.frame, hI, hres⟩
  cases x with
  | normal => exact key hk
  | exit id => exact hk.elim
  | ret => exact key hk

theorem ICall.of {f : FuncId} {fc : FC} {n : Nat} {u u' r : AV} {args : List AV} (hc : compF P f = some fc) (hlen : args.length + 1 = fc.np)
    (h : ∀ l, fc.body.wp P (AS.init1 l n u args fc.np fc.nt) fun x s => match x with | .exit _ => False | _ => Fin fc.rv s (.val r) ∧ s.blk 0 = some (.box l n u')) : ICall P f n u args r u' := by
  intro w St l Vs hth hbox hargs
  unfold compF at hc
  split at hc <;> try (cases hc; done)
  rename_i fn hfn
  split at hc <;> try (cases hc; done)
  rename_i c hbody
  split at hc <;> try (cases hc; done)
  rename_i ac rv hac hrv
  split at hc <;> try (cases hc; done)
  rename_i hsz
  cases hc
  obtain ⟨hl, _⟩ := argsOk_len hargs
  simp only at hlen h
  refine calls_of_wp hfn hbody ?_
  simp only [List.length_cons] at hl
  have hsize : Vs.toArray.size = fn.params.size := by simp [← hl, hlen]
  have hget : ∀ (k : Nat) (x : Blk), (((AS.init1 l n u args fn.params.size fn.ntmps).hp[k]?).join = some x) → k = 0 ∧ x = .box l n u := fun k x hx => by
    cases k with
    | zero => simp [AS.init1] at hx; exact ⟨rfl, hx.symm⟩
    | succ k => simp [AS.init1, List.getElem?_replicate] at hx; split at hx <;> simp at hx
  have hinit : SRel w [(l.1, l.2, n)] St (AS.init1 l n u args fn.params.size fn.ntmps) { tmps := Vs.toArray ++ Array.replicate (fn.ntmps - Vs.toArray.size) undef, defers := [] } w := by
    refine ⟨rfl, ?_, Fr.refl _ _, St, ⟨fun _ _ h => h, fun _ _ h _ => h, hth⟩, ?_, ⟨fun k x hx => ?_, fun k k' x y hne hx hy => ?_⟩⟩
    · simp only [AS.init1, Array.size_append, List.size_toArray, Array.size_replicate, List.length_cons, List.length_append, List.length_replicate]; simp only [List.size_toArray] at hsize; omega
    · rw [hsize]; exact tmOk_init hargs _
    · obtain ⟨rfl, rfl⟩ := hget k x hx
      refine ⟨hbox, fun b o hf => ?_⟩
      obtain ⟨rfl, h1, h2⟩ := hf
      refine ⟨?_, .inr ⟨(l.1, l.2, n), by simp, rfl, h1, h2⟩⟩
      obtain ⟨⟨cs, _, hcl, _, hcell⟩, _⟩ := hbox
      have := hcell (o - l.2) _ (List.getElem?_eq_getElem (by omega))
      exact World.block_lt_of_cell? w _ this
    · exact absurd ((hget k x hx).1.trans (hget k' y hy).1.symm) hne
  refine Code.wp_mono (fun e a' w' ⟨x, s', he, hk, hs'⟩ => ?_) (AC.sound c ac _ _ _ w hac (h l) hinit)
  subst he
  have key : Fin rv s' (.val r) ∧ s'.blk 0 = some (.box l n u') → a'.defers = [] ∧ ∃ v, (results fn a'.tmps).run P w' = .ok v w' ∧ ∃ V Imm, Ending.returned v = .returned V ∧ Fr [(l.1, l.2, n)] w w' ∧ ImmOk w St Imm w' ∧ Rel Imm w' r V ∧ r ≠ .any ∧ Blk.ok Imm w' (.box l n u') := fun ⟨hfin, hb0⟩ => by
    -- the results' own sealed rows are not the region
    obtain ⟨bs, hfin'⟩ := hfin
    have hs2 := SRel.sealsAll bs hs'
    have hb2 : (s'.seals bs).blk 0 = some (.box l n u') := by
      have : ∀ (bs : List Nat) (s : AS), s.blk 0 = some (.box l n u') → (s.seals bs).blk 0 = some (.box l n u') := by
        intro bs
        induction bs with
        | nil => exact fun _ h => h
        | cons b bs ih =>
          intro s h
          refine ih _ ?_
          unfold AS.seal1
          split
          · rename_i hb
            by_cases h0 : b = 0
            · subst h0; rw [h] at hb; cases hb
            · simp only [AS.blk, AS.setBlk, List.getElem?_set, if_neg h0]; exact h
          · exact h
      exact this bs s' hb0
    obtain ⟨Imm, h1, h2, h3, hseal⟩ := hs2.seals
    have hfs : ∃ V Imm', (results fn a'.tmps).run P w' = .ok V w' ∧ ImmOk w St Imm' w' ∧ Rel Imm' w' r V ∧ r ≠ .any ∧ Blk.ok Imm' w' (.box l n u') := by
      have hbok := (h3.ok 0 _ hb2).1
      rw [results_run]
      cases hrs : fn.results.toList with
      | nil =>
        rw [hrs] at hrv
        simp only [compRVs, Option.some.injEq] at hrv
        subst hrv
        simp only at hfin'
        obtain ⟨vs, rfl, hvs, hany⟩ := hfin'
        simp only [RVals, Option.some.injEq] at hvs
        subst hvs
        exact ⟨_, Imm, rfl, h1, .inr ⟨[], .tup0, rfl⟩, by simp, hbok⟩
      | cons r0 rs =>
        cases rs with
        | nil =>
          rw [hrs] at hrv
          simp only [compRVs] at hrv
          split at hrv <;> try (cases hrv; done)
          rename_i x ys hx hys
          simp only [Option.some.injEq] at hys
          subst hys
          cases hrv
          simp only at hfin'
          obtain ⟨hv, hany⟩ := hfin'
          obtain ⟨V, hrun, hrel⟩ := RVal_sound hx hv h2 h3 hseal
          refine ⟨V, Imm, ?_, h1, hrel, hany, hbok⟩
          simp only [List.mapM_cons, Sem.run_bind]
          rw [hrun]
          simp
        | cons r1 rs =>
          rw [hrs] at hrv
          have hxs : ∃ x y zs, rv = x :: y :: zs := by
            simp only [compRVs] at hrv
            split at hrv <;> try (cases hrv; done)
            rename_i x ys hx hys
            split at hys <;> try (cases hys; done)
            cases hys; cases hrv
            exact ⟨_, _, _, rfl⟩
          obtain ⟨x, y, zs, rfl⟩ := hxs
          simp only at hfin'
          obtain ⟨vs, rfl, hvs, hany⟩ := hfin'
          obtain ⟨Vs2, hrun, hR, hl2⟩ := RVals_sound h2 h3 hseal _ _ _ hrv hvs hany
          refine ⟨.tuple Vs2.toArray, Imm, ?_, h1, .inr ⟨Vs2, hR, rfl⟩, by simp, hbok⟩
          rw [hrun]
          have hl3 : 2 ≤ vs.length := by
            simp only [RVals] at hvs
            split at hvs <;> try (cases hvs; done)
            rename_i a1 a2 b1 b2
            split at b2 <;> try (cases b2; done)
            cases b2; cases hvs
            simp
          match Vs2, hl2 with
          | [], h0 => simp at h0; omega
          | [_], h0 => simp at h0; omega
          | _ :: _ :: _, _ => rfl
    obtain ⟨V, Imm', hrun, hI, hrel, hany, hbok⟩ := hfs
    exact ⟨hs'.defers, V, hrun, V, Imm', rfl, hs'.frame, hI, hrel, hany, hbok⟩
  cases x with
  | normal => exact key hk
  | exit id => exact hk.elim
  | ret => exact key hk

end
end Go.Cab
