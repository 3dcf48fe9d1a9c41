/- Part 5 of what the proof stands on: T, U, V, W, X, Y. -/
import Derived.Test.YtiikindmkllbiaaDoorCab04
set_option linter.unusedSimpArgs false
set_option linter.unnecessarySimpa false
set_option linter.unusedVariables false
set_option linter.unusedSectionVars false
namespace Go.Cab
open Go.RowKit
open Classical
inductive RV where
  | tmp (t : Tmp)
  | cell (a : Tmp) (agg : Bool) (n : Nat)
  deriving Inhabited
structure FC where
  np : Nat
  nt : Nat
  rv : List RV
  body : AC
  deriving Inhabited
def compRV (P : Program) : ResultVar → Option RV
  | .tmp t => some (.tmp t)
  | .cell a t => match szOf P t with
    | some n => if (P.underlying t).isSome && (aggT P t || n == 1) then some (.cell a (aggT P t) n) else none
    | none => none
def compRVs (P : Program) : List ResultVar → Option (List RV)
  | [] => some []
  | r :: rs => match compRV P r, compRVs P rs with | some x, some xs => some (x :: xs) | _, _ => none
def compF (P : Program) (f : FuncId) : Option FC :=
  match P.funcs[f]? with
  | some fn => match fn.body with
    | some c => match compC P c, compRVs P fn.results.toList with
      | some ac, some rv => if fn.params.size ≤ fn.ntmps then some ⟨fn.params.size, fn.ntmps, rv, ac⟩ else none
      | _, _ => none
    | none => none
  | none => none
def tt : Nat → Bool := fun _ => true
noncomputable def RVal (s : AS) : RV → Option AV
  | .tmp t => match s.coe tt (s.ev (.tmp t)) with
    | .any => none
    | v => some v
  | .cell a agg n => match s.peek tt (s.ev (.tmp a)) with
    | some (m, u) => if m = n ∧ u.isAgg = agg ∧ u.isTup = false then some (s.coe tt u) else none
    | none => none
noncomputable def RVals (s : AS) : List RV → Option (List AV)
  | [] => some []
  | r :: rs => match RVal s r, RVals s rs with | some x, some xs => some (x :: xs) | _, _ => none
def Fin (rvs : List RV) (s : AS) : Res → Prop
  | .val v => ∃ bs, (match rvs with
    | [x] => RVal (s.seals bs) x = some v ∧ v ≠ .any
    | xs => ∃ vs, v = .tup vs ∧ RVals (s.seals bs) xs = some vs ∧ ∀ u ∈ vs, u ≠ .any)
  | .row e esz els => ∃ t, rvs = [.tmp t] ∧ ((s.ev (.tmp t) = .lit (.slice none 0 0) ∧ els = []) ∨ ∃ b V, s.ev (.tmp t) = .own b V ∧ s.blk b = some (.row e V esz els 0))
def rvRun (tmps : Array Value) : ResultVar → Sem Value
  | .tmp t => pure (tmps.getD t undef)
  | .cell b t => do loadVar t (← asAddr (tmps.getD b undef))
section
variable {P : Program} {w0 wk : World} {regs : List (Nat × Nat × Nat)} {St Imm : Nat → Nat → Prop} {s : AS} {a : Act} {w : World}
theorem RVal_sound {rv : ResultVar} {x : RV} {v : AV} (hc : compRV P rv = some x) (hv : RVal s x = some v) (h2 : TmOk Imm w s.tm a.tmps) (h3 : HeapOk w0 regs Imm s.hp w)
    (hrow : ∀ (k : Nat) e V esz els, s.blk k = some (.row e V esz els els.length) → ∃ cs, R Imm w (.arr esz els) cs ∧ ∀ g cap, V = .slice (some ⟨g, 0, none⟩) els.length cap → At Imm w g 0 cs) :
    ∃ V, (rvRun a.tmps rv).run P w = .ok V w ∧ Rel Imm w v V := by
  cases rv with
  | tmp t =>
    simp only [compRV, Option.some.injEq] at hc
    subst hc
    simp only [RVal] at hv
    refine ⟨a.tmps.getD t undef, rfl, ?_⟩
    have := coe_sound (ro := tt) h3 hrow (h2.eval (s := s) (.tmp t) (by simp))
    simp only [Act.eval] at this
    split at hv
    · cases hv
    · cases hv; exact this
  | cell b t =>
    simp only [compRV] at hc
    split at hc <;> try (cases hc; done)
    rename_i n hn
    split at hc <;> try (cases hc; done)
    rename_i hok
    simp only [Bool.and_eq_true, Bool.or_eq_true, beq_iff_eq] at hok
    cases hc
    simp only [RVal] at hv
    split at hv <;> try (cases hv; done)
    rename_i m u hp
    split at hv <;> try (cases hv; done)
    rename_i hcond
    obtain ⟨rfl, hagg, htup⟩ := hcond
    simp only [Option.some.injEq] at hv
    obtain ⟨blk, off, cs, e, hR, hl, hsc, hcell⟩ := peek_sound hp (h2.eval (s := s) (.tmp b) (by simp)) h3
    simp only [Act.eval] at e
    refine ⟨asVal u cs, ?_, ?_⟩
    · simp only [rvRun, e, asAddr, loadVar]
      have hcs : (loadCells ⟨blk, off, none⟩ m).run P w = .ok cs.toArray w := by
        have := run_loadCells_list (P := P) (w := w) ⟨blk, off, none⟩ cs (fun j v hj => by rw [add_none]; exact hcell j v hj)
        rw [hl] at this
        simpa using this
      cases hA : aggT P t with
      | true =>
        rw [hA] at hagg
        simp [run_isAgg hok.1, hA, run_sizeOf' hn, hcs]
        cases u <;> simp [AV.isAgg] at hagg <;> rfl
      | false =>
        have hm1 : m = 1 := by rcases hok.2 with h' | h' <;> simp_all
        rw [hA] at hagg
        match cs, hl with
        | [y], _ =>
          have hy := hcell 0 y (by simp)
          simp only [Nat.add_zero] at hy
          simp [run_isAgg hok.1, hA, hy]
          cases u <;> simp [AV.isAgg, AV.isTup] at hagg htup <;> rfl
        | [], h0 => simp at h0; omega
        | _ :: _ :: _, h0 => simp at h0; omega
    · rw [← hv]
      exact coe_sound (ro := tt) h3 hrow (.inr ⟨cs, hR, rfl⟩)
theorem RVals_sound (h2 : TmOk Imm w s.tm a.tmps) (h3 : HeapOk w0 regs Imm s.hp w)
    (hrow : ∀ (k : Nat) e V esz els, s.blk k = some (.row e V esz els els.length) → ∃ cs, R Imm w (.arr esz els) cs ∧ ∀ g cap, V = .slice (some ⟨g, 0, none⟩) els.length cap → At Imm w g 0 cs) :
    ∀ (rvs : List ResultVar) (xs : List RV) (vs : List AV), compRVs P rvs = some xs → RVals s xs = some vs → (∀ u ∈ vs, u ≠ .any) →
    ∃ Vs, (rvs.mapM (m := Sem) (rvRun a.tmps)).run P w = .ok Vs w ∧ R Imm w (.tup vs) Vs ∧ Vs.length = vs.length
  | [], xs, vs, hc, hv, _ => by
    simp only [compRVs, Option.some.injEq] at hc
    subst hc
    simp only [RVals, Option.some.injEq] at hv
    subst hv
    exact ⟨[], rfl, .tup0, rfl⟩
  | rv :: rvs, xs, vs, hc, hv, hany => by
    simp only [compRVs] at hc
    split at hc <;> try (cases hc; done)
    rename_i x ys hx hys
    cases hc
    simp only [RVals] at hv
    split at hv <;> try (cases hv; done)
    rename_i v us hv1 hus
    cases hv
    obtain ⟨V, hrun, hrel⟩ := RVal_sound hx hv1 h2 h3 hrow
    obtain ⟨Vs, hrun2, hR, hl⟩ := RVals_sound h2 h3 hrow rvs ys us hys hus (fun u hu => hany u (by simp [hu]))
    rcases hrel with hrel | ⟨c, hc, e⟩
    · exact absurd hrel (hany v (by simp))
    · refine ⟨V :: Vs, ?_, by rw [e]; exact .tup1 _ _ _ _ hc hR, by simp [hl]⟩
      simp only [List.mapM_cons, Sem.run_bind]
      rw [hrun]
      simp only [Result.andThen_ok]
      rw [hrun2]
      rfl
theorem results_run {fn : Func} (tmps : Array Value) : (results fn tmps).run P w =
    ((fn.results.toList.mapM (m := Sem) (rvRun tmps)).run P w).andThen fun vs w' => .ok (match vs with | [v] => v | vs => .tuple vs.toArray) w' := by
  have h0 : results fn tmps = (do let vs ← fn.results.mapM (m := Sem) (rvRun tmps); pure (if h : vs.size = 1 then vs[0] else .tuple vs)) := by
    unfold results
    have hm : (fun | .tmp t => pure (tmps.getD t undef) | .cell a t => do loadVar t (← asAddr (tmps.getD a undef)) : ResultVar → Sem Value) = rvRun tmps := by funext x; cases x <;> rfl
    rw [← hm]; rfl
  have h1 : fn.results.mapM (m := Sem) (rvRun tmps) = List.toArray <$> fn.results.toList.mapM (m := Sem) (rvRun tmps) := by
    conv => lhs; rw [← Array.toArray_toList (xs := fn.results)]
    exact List.mapM_toArray
  rw [h0, Sem.run_bind, h1, Sem.run_map]
  generalize (fn.results.toList.mapM (m := Sem) (rvRun tmps)).run P w = r
  cases r with
  | halt h w' => rfl
  | ok vs w' =>
    simp only [Result.andThen_ok, Sem.run_pure]
    match vs with
    | [] => rfl
    | [v] => rfl
    | _ :: _ :: _ => rfl
theorem Fin.sound {fn : Func} {xs : List RV} {r : Res} (hc : compRVs P fn.results.toList = some xs) (h : Fin xs s r) (hs : SRel w0 wk regs St s a w) :
    ∃ V Imm, (results fn a.tmps).run P w = .ok V w ∧ ImmOk w0 wk St Imm w ∧ ResOk w0 Imm w V r := by
  rw [results_run]
  cases r with
  | val v =>
    obtain ⟨bs, h⟩ := h
    obtain ⟨Imm, h1, h2, h3, hseal⟩ := (SRel.sealsAll bs hs).seals
    cases hrs : fn.results.toList with
    | nil =>
      rw [hrs] at hc
      simp only [compRVs, Option.some.injEq] at hc
      subst hc
      simp only at h
      obtain ⟨vs, rfl, hvs, hany⟩ := h
      simp only [RVals, Option.some.injEq] at hvs
      subst hvs
      exact ⟨_, Imm, rfl, h1, .inr ⟨[], .tup0, rfl⟩, by simp⟩
    | cons r0 rs =>
      cases rs with
      | nil =>
        rw [hrs] at hc
        simp only [compRVs] at hc
        split at hc <;> try (cases hc; done)
        rename_i x ys hx hys
        simp only [Option.some.injEq] at hys
        subst hys
        cases hc
        simp only at h
        obtain ⟨hv, hany⟩ := h
        obtain ⟨V, hrun, hrel⟩ := RVal_sound hx hv h2 h3 hseal
        refine ⟨V, Imm, ?_, h1, hrel, hany⟩
        simp only [List.mapM_cons, Sem.run_bind]
        rw [hrun]
        simp
      | cons r1 rs =>
        rw [hrs] at hc
        have hxs : ∃ x y zs, xs = x :: y :: zs := by
          simp only [compRVs] at hc
          split at hc <;> try (cases hc; done)
          rename_i x ys hx hys
          split at hys <;> try (cases hys; done)
          cases hys; cases hc
          exact ⟨_, _, _, rfl⟩
        obtain ⟨x, y, zs, rfl⟩ := hxs
        simp only at h
        obtain ⟨vs, rfl, hvs, hany⟩ := h
        obtain ⟨Vs, hrun, hR, hl⟩ := RVals_sound h2 h3 hseal _ _ _ hc hvs hany
        refine ⟨.tuple Vs.toArray, Imm, ?_, h1, .inr ⟨Vs, hR, rfl⟩, by simp⟩
        rw [hrun]
        have hl2 : 2 ≤ vs.length := by
          simp only [RVals] at hvs
          split at hvs <;> try (cases hvs; done)
          rename_i a1 a2 b1 b2
          split at b2 <;> try (cases b2; done)
          cases b2; cases hvs
          simp
        match Vs, hl with
        | [], h0 => simp at h0; omega
        | [_], h0 => simp at h0; omega
        | _ :: _ :: _, _ => rfl
  | row e esz els =>
    obtain ⟨t, rfl, h⟩ := h
    have hrs : fn.results.toList = [.tmp t] := by
      cases hr : fn.results.toList with
      | nil => rw [hr] at hc; simp [compRVs] at hc
      | cons r0 rs =>
        rw [hr] at hc
        simp only [compRVs] at hc
        split at hc <;> try (cases hc; done)
        rename_i x ys hx hys
        simp only [Option.some.injEq, List.cons.injEq] at hc
        obtain ⟨rfl, rfl⟩ := hc
        cases rs with
        | cons r1 rs =>
          simp only [compRVs] at hys
          split at hys <;> cases hys
        | nil =>
          cases r0 with
          | tmp t' => simp only [compRV, Option.some.injEq, RV.tmp.injEq] at hx; subst hx; rfl
          | cell b t' =>
            simp only [compRV] at hx
            split at hx <;> try (cases hx; done)
            split at hx <;> cases hx
    obtain ⟨Imm, h1, h2, h3⟩ := hs.ex
    have hT := h2.eval (s := s) (.tmp t) (by simp)
    simp only [Act.eval] at hT
    refine ⟨a.tmps.getD t undef, Imm, by rw [hrs]; simp [rvRun], h1, ?_⟩
    rcases h with ⟨he, rfl⟩ | ⟨b, V, he, hb⟩
    · rw [he] at hT
      obtain ⟨e1, _⟩ := hT.lit
      rw [e1]
      exact ⟨rfl, [], .arr0 _, World.ownsRow_nil w _ e esz, fun g hg => by cases hg⟩
    · rw [he] at hT
      rcases hT with hT | ⟨cs, hT, e1⟩
      · cases hT
      cases hT
      have e2 : a.tmps.getD t undef = V := e1
      rw [e2]
      obtain ⟨⟨cs, hR, hown, hsc, _, hm⟩, _⟩ := h3.ok b _ hb
      exact ⟨hsc, cs, hR, ownsRow_base hown (fun g hg => (h3.rowNew hb hg).1), fun g hg o => hm g o hg (by simp)⟩
def AS.init (args : List AV) (np nt : Nat) : AS := ⟨0, args ++ List.replicate (nt - np) .any, List.replicate nt none⟩
def AS.init1 (l : Nat × Nat) (n : Nat) (u : AV) (args : List AV) (np nt : Nat) : AS := ⟨1, .ptr 0 l 0 [] :: args ++ List.replicate (nt - np) .any, some (.box l n u) :: List.replicate nt none⟩
theorem argsOk_len : ∀ {vs : List AV} {Vs : List Value}, ArgsOk St w vs Vs → vs.length = Vs.length ∧ ∀ (t : Nat) (v : AV), vs[t]? = some v → ∃ V, Vs[t]? = some V ∧ Rel St w v V
  | [], [], _ => ⟨rfl, by simp⟩
  | v :: vs, V :: Vs, h => by
    obtain ⟨h1, h2⟩ := argsOk_len h.2
    refine ⟨by simp [h1], fun t u hu => ?_⟩
    cases t with
    | zero => simp only [List.getElem?_cons_zero, Option.some.injEq] at hu ⊢; subst hu; exact ⟨V, rfl, h.1⟩
    | succ t => simpa using h2 t u (by simpa using hu)
  | [], _ :: _, h => h.elim
  | _ :: _, [], h => h.elim
theorem tmOk_init {args : List AV} {Vs : List Value} (h : ArgsOk St w args Vs) (k : Nat) : TmOk St w (args ++ List.replicate k .any) (Vs.toArray ++ Array.replicate k undef) := by
  obtain ⟨hl, hg⟩ := argsOk_len h
  intro t v hv
  rcases Nat.lt_or_ge t args.length with hlt | hge
  · rw [List.getElem?_append_left hlt] at hv
    obtain ⟨V, hV, hrel⟩ := hg t v hv
    have : (Vs.toArray ++ Array.replicate k undef).getD t undef = V := by
      have hlt' : t < Vs.length := by omega
      simp [Array.getD_eq_getD_getElem?, Array.getElem?_append, hlt']
      exact (List.getElem?_eq_some_iff.1 hV).2
    rw [this]; exact hrel
  · rw [List.getElem?_append_right hge, List.getElem?_replicate] at hv
    split at hv
    · cases hv; exact .inl rfl
    · cases hv
theorem PCall.of {f : FuncId} {fc : FC} {args : List AV} {r : Res} (hc : compF P f = some fc) (hlen : args.length = fc.np)
    (h : fc.body.wp P (AS.init args fc.np fc.nt) fun x s => match x with | .exit _ => False | _ => Fin fc.rv s r) : PCall P f args r := by
  intro w St Vs hth hargs
  unfold compF at hc
  split at hc <;> try (cases hc; done)
  rename_i fn hfn
  split at hc <;> try (cases hc; done)
  rename_i c hbody
  split at hc <;> try (cases hc; done)
  rename_i ac rv hac hrv
  split at hc <;> try (cases hc; done)
  rename_i hsz
  cases hc
  obtain ⟨hl, _⟩ := argsOk_len hargs
  simp only at hlen h
  refine calls_of_wp hfn hbody ?_
  have hsize : Vs.toArray.size = fn.params.size := by simp [← hl, hlen]
  have hinit : SRel w w [] St (AS.init args fn.params.size fn.ntmps) { tmps := Vs.toArray ++ Array.replicate (fn.ntmps - Vs.toArray.size) undef, defers := [] } w := by
    refine ⟨rfl, ?_, hth.tab, Fr.refl _ _, St, ⟨fun _ _ h => h, fun _ _ h _ => h, hth.there, fun _ _ _ => rfl⟩, ?_, ⟨fun k x hx => ?_, fun k k' x y _ hx _ => ?_⟩⟩
    · simp [AS.init, hl]; omega
    · rw [hsize]; exact tmOk_init hargs _
    · simp [AS.init, List.getElem?_replicate] at hx; split at hx <;> simp at hx
    · simp [AS.init, List.getElem?_replicate] at hx; split at hx <;> simp at hx
  refine Code.wp_mono (fun e a' w' ⟨x, s', he, hk, hs'⟩ => ?_) (AC.sound c ac _ _ _ w hac h hinit)
  subst he
  have key : Fin rv s' r → a'.defers = [] ∧ ∃ v, (results fn a'.tmps).run P w' = .ok v w' ∧ ∃ V Imm, Ending.returned v = .returned V ∧ Fr [] w w' ∧ ImmOk w w St Imm w' ∧ ResOk w Imm w' V r := fun hfin => by
    obtain ⟨V, Imm, hrun, hI, hres⟩ := hfin.sound hrv hs'
    exact ⟨hs'.defers, V, hrun, V, Imm, rfl, hs'.frame, hI, hres⟩
  cases x with
  | normal => exact key hk
  | exit id => exact hk.elim
  | ret => exact key hk
theorem ICall.of {f : FuncId} {fc : FC} {n : Nat} {u u' r : AV} {args : List AV} (hc : compF P f = some fc) (hlen : args.length + 1 = fc.np)
    (h : ∀ l, fc.body.wp P (AS.init1 l n u args fc.np fc.nt) fun x s => match x with | .exit _ => False | _ => Fin fc.rv s (.val r) ∧ s.blk 0 = some (.box l n u')) : ICall P f n u args r u' := by
  intro w St l Vs hth hbox hargs
  unfold compF at hc
  split at hc <;> try (cases hc; done)
  rename_i fn hfn
  split at hc <;> try (cases hc; done)
  rename_i c hbody
  split at hc <;> try (cases hc; done)
  rename_i ac rv hac hrv
  split at hc <;> try (cases hc; done)
  rename_i hsz
  cases hc
  obtain ⟨hl, _⟩ := argsOk_len hargs
  simp only at hlen h
  refine calls_of_wp hfn hbody ?_
  simp only [List.length_cons] at hl
  have hsize : Vs.toArray.size = fn.params.size := by simp [← hl, hlen]
  have hget : ∀ (k : Nat) (x : Blk), (((AS.init1 l n u args fn.params.size fn.ntmps).hp[k]?).join = some x) → k = 0 ∧ x = .box l n u := fun k x hx => by
    cases k with
    | zero => simp [AS.init1] at hx; exact ⟨rfl, hx.symm⟩
    | succ k => simp [AS.init1, List.getElem?_replicate] at hx; split at hx <;> simp at hx
  have hinit : SRel w w [(l.1, l.2, n)] St (AS.init1 l n u args fn.params.size fn.ntmps) { tmps := Vs.toArray ++ Array.replicate (fn.ntmps - Vs.toArray.size) undef, defers := [] } w := by
    refine ⟨rfl, ?_, hth.tab, Fr.refl _ _, St, ⟨fun _ _ h => h, fun _ _ h _ => h, hth.there, fun _ _ _ => rfl⟩, ?_, ⟨fun k x hx => ?_, fun k k' x y hne hx hy => ?_⟩⟩
    · simp only [AS.init1, Array.size_append, List.size_toArray, Array.size_replicate, List.length_cons, List.length_append, List.length_replicate]; simp only [List.size_toArray] at hsize; omega
    · rw [hsize]; exact tmOk_init hargs _
    · obtain ⟨rfl, rfl⟩ := hget k x hx
      refine ⟨hbox, fun b o hf => ?_⟩
      obtain ⟨rfl, h1, h2⟩ := hf
      refine ⟨?_, .inr ⟨(l.1, l.2, n), by simp, rfl, h1, h2⟩⟩
      obtain ⟨⟨cs, _, hcl, _, hcell⟩, _⟩ := hbox
      have := hcell (o - l.2) _ (List.getElem?_eq_getElem (by omega))
      exact World.block_lt_of_cell? w _ this
    · exact absurd ((hget k x hx).1.trans (hget k' y hy).1.symm) hne
  refine Code.wp_mono (fun e a' w' ⟨x, s', he, hk, hs'⟩ => ?_) (AC.sound c ac _ _ _ w hac (h l) hinit)
  subst he
  have key : Fin rv s' (.val r) ∧ s'.blk 0 = some (.box l n u') → a'.defers = [] ∧ ∃ v, (results fn a'.tmps).run P w' = .ok v w' ∧ ∃ V Imm, Ending.returned v = .returned V ∧ Fr [(l.1, l.2, n)] w w' ∧ ImmOk w w St Imm w' ∧ Rel Imm w' r V ∧ r ≠ .any ∧ Blk.ok Imm w' (.box l n u') := fun ⟨hfin, hb0⟩ => by
    obtain ⟨bs, hfin'⟩ := hfin
    have hs2 := SRel.sealsAll bs hs'
    have hb2 : (s'.seals bs).blk 0 = some (.box l n u') := by
      have : ∀ (bs : List Nat) (s : AS), s.blk 0 = some (.box l n u') → (s.seals bs).blk 0 = some (.box l n u') := by
        intro bs
        induction bs with
        | nil => exact fun _ h => h
        | cons b bs ih =>
          intro s h
          refine ih _ ?_
          unfold AS.seal1
          split
          · rename_i hb
            by_cases h0 : b = 0
            · subst h0; rw [h] at hb; cases hb
            · simp only [AS.blk, AS.setBlk, List.getElem?_set, if_neg h0]; exact h
          · exact h
      exact this bs s' hb0
    obtain ⟨Imm, h1, h2, h3, hseal⟩ := hs2.seals
    have hfs : ∃ V Imm', (results fn a'.tmps).run P w' = .ok V w' ∧ ImmOk w w St Imm' w' ∧ Rel Imm' w' r V ∧ r ≠ .any ∧ Blk.ok Imm' w' (.box l n u') := by
      have hbok := (h3.ok 0 _ hb2).1
      rw [results_run]
      cases hrs : fn.results.toList with
      | nil =>
        rw [hrs] at hrv
        simp only [compRVs, Option.some.injEq] at hrv
        subst hrv
        simp only at hfin'
        obtain ⟨vs, rfl, hvs, hany⟩ := hfin'
        simp only [RVals, Option.some.injEq] at hvs
        subst hvs
        exact ⟨_, Imm, rfl, h1, .inr ⟨[], .tup0, rfl⟩, by simp, hbok⟩
      | cons r0 rs =>
        cases rs with
        | nil =>
          rw [hrs] at hrv
          simp only [compRVs] at hrv
          split at hrv <;> try (cases hrv; done)
          rename_i x ys hx hys
          simp only [Option.some.injEq] at hys
          subst hys
          cases hrv
          simp only at hfin'
          obtain ⟨hv, hany⟩ := hfin'
          obtain ⟨V, hrun, hrel⟩ := RVal_sound hx hv h2 h3 hseal
          refine ⟨V, Imm, ?_, h1, hrel, hany, hbok⟩
          simp only [List.mapM_cons, Sem.run_bind]
          rw [hrun]
          simp
        | cons r1 rs =>
          rw [hrs] at hrv
          have hxs : ∃ x y zs, rv = x :: y :: zs := by
            simp only [compRVs] at hrv
            split at hrv <;> try (cases hrv; done)
            rename_i x ys hx hys
            split at hys <;> try (cases hys; done)
            cases hys; cases hrv
            exact ⟨_, _, _, rfl⟩
          obtain ⟨x, y, zs, rfl⟩ := hxs
          simp only at hfin'
          obtain ⟨vs, rfl, hvs, hany⟩ := hfin'
          obtain ⟨Vs2, hrun, hR, hl2⟩ := RVals_sound h2 h3 hseal _ _ _ hrv hvs hany
          refine ⟨.tuple Vs2.toArray, Imm, ?_, h1, .inr ⟨Vs2, hR, rfl⟩, by simp, hbok⟩
          rw [hrun]
          have hl3 : 2 ≤ vs.length := by
            simp only [RVals] at hvs
            split at hvs <;> try (cases hvs; done)
            rename_i a1 a2 b1 b2
            split at b2 <;> try (cases b2; done)
            cases b2; cases hvs
            simp
          match Vs2, hl2 with
          | [], h0 => simp at h0; omega
          | [_], h0 => simp at h0; omega
          | _ :: _ :: _, _ => rfl
    obtain ⟨V, Imm', hrun, hI, hrel, hany, hbok⟩ := hfs
    exact ⟨hs'.defers, V, hrun, V, Imm', rfl, hs'.frame, hI, hrel, hany, hbok⟩
  cases x with
  | normal => exact key hk
  | exit id => exact hk.elim
  | ret => exact key hk
end
end Go.Cab
namespace Go.Cab
open Go.RowKit
open Classical
noncomputable def AI.ex (ro : Nat → Bool) (s : AS) : AI → Option AV
  | .mov x => some (s.ev x)
  | .pick c a b => match s.ev c with
    | .lit (.bool t) => some (if t then s.ev a else s.ev b)
    | _ => none
  | .bin op x y => match s.ev x, s.ev y with
    | .lit a, .lit b => (binVal op a b).map .lit
    | _, _ => none
  | .beq neg x y => match s.ev x, s.ev y with
    | .lit (.bool p), .lit (.bool q) => some (.lit (.bool (if neg then !(p == q) else p == q)))
    | _, _ => none
  | .un op x => match s.ev x with
    | .lit a => (unVal op a).map .lit
    | _ => none
  | .cvt k x => match s.ev x with
    | .lit (.int _ n) => some (.lit (.int k (k.wrap n)))
    | _ => none
  | .load agg n x => match s.peek ro (s.ev x) with
    | some (m, u) => if m = n ∧ u.isAgg = agg ∧ u.isTup = false then some u else none
    | none => none
  | .faddr off idx x => AS.fieldAddr off idx (s.ev x)
  | .b2s x => (s.textOf ro (s.ev x)).map .lit
  | .rdp g xs => rdB (fun _ => none) g (xs.map fun x => s.ev x)
  | .rd g xs => rdB (fun b => if ro b then s.blk b else none) g (xs.map fun x => s.ev x)
  | .prim p xs => match s.lits xs with
    | some vs => (primVal p vs).map .lit
    | none => none
  | .iaddrA ln esz x i => match s.ev i with
    | .lit (.int _ n) => AS.idxAddr ln esz n (s.ev x)
    | _ => none
  | .iaddrS esz x i => match s.ev i with
    | .lit (.int _ n) => s.elemAddr ro esz n (s.ev x)
    | _ => none
  | .len str x => (s.lenOf ro str (s.ev x)).map fun n => .lit (.int .i64 n)
  | .ext x i => match s.ev x with
    | .tup vs => vs[i]?
    | _ => none
  | .nilc x => match s.ev x with
    | .ptr b l off p => some (.ptr b l off p)
    | .cptr n v => some (.cptr n v)
    | _ => none
  | .build z parts => fillAV s z parts
  | .bslice esz z n parts => match fillAV s (.arr esz (List.replicate n z)) parts with
    | some (.arr _ els) => some (.sl esz els)
    | _ => none
  | .fieldv off idx n agg x => match s.ev x with
    | .st ns fs => if (ns.take idx).sum = off ∧ ns[idx]? = some n then (match fs[idx]? with
      | some v => if v.isAgg = agg ∧ v.isTup = false then some v else none
      | none => none) else none
    | _ => none
  | .add64 x y c => match s.ev x, s.ev y, s.ev c with
    | .lit (.int .u64 a), .lit (.int .u64 b), .lit (.int .u64 d) => if 0 ≤ a ∧ 0 ≤ b ∧ 0 ≤ d ∧ d ≤ 1 then
        some (.tup [.lit (.int .u64 ((a + b + d) % 18446744073709551616)), .lit (.int .u64 ((a + b + d) / 18446744073709551616))]) else none
    | _, _, _ => none
  | _ => none
def ownOk (nr : Nat) : Option Tmp → AV → Bool
  | none, _ => true
  | some t, .ptr b _ _ _ => b == nr + t
  | _, _ => false
theorem ownOk_spec {nr t : Nat} {v : AV} (h : ownOk nr (some t) v = true) : ∃ l off path, v = .ptr (nr + t) l off path := by
  cases v <;> simp [ownOk] at h
  subst h; exact ⟨_, _, _, rfl⟩
def AOp.mineB (x : AOp) (s : AS) : Bool :=
  match x.ai with
  | .append .. => false
  | .ef .. => false
  | .load _ _ p => (match x.own with
    | none => true
    | some t => (match s.ev p with
      | .ptr b _ _ _ => (s.ev (.tmp t)).place == some b
      | _ => true))
  | .len _ p | .iaddrS _ p _ => (match x.own with
    | none => true
    | some t => (match s.ev p with | .own b _ => (s.ev (.tmp t)).place == some b | _ => true))
  | .store _ _ _ => x.own.isNone
  | .callv _ _ => x.own.isNone
  | _ => true
theorem AOp.mineB_spec {x : AOp} {s : AS} (h : x.mineB s = true) : x.mine s := by
  unfold AOp.mineB at h
  unfold AOp.mine
  cases hx : x.ai <;> rw [hx] at h <;> simp only at h
  case append => cases h
  case ef => cases h
  case store => cases ho : x.own <;> rw [ho] at h <;> first | trivial | cases h
  case callv => cases ho : x.own <;> rw [ho] at h <;> first | trivial | cases h
  case load agg n p =>
    cases ho : x.own with
    | none => trivial
    | some t =>
      simp only [ho] at h ⊢
      intro b l off path e
      rw [e] at h
      simpa using h
  case len str p =>
    cases ho : x.own with
    | none => trivial
    | some t =>
      simp only [ho] at h ⊢
      intro b V e
      rw [e] at h
      simpa using h
  case iaddrS esz p i =>
    cases ho : x.own with
    | none => trivial
    | some t =>
      simp only [ho] at h ⊢
      intro b V e
      rw [e] at h
      simpa using h
  all_goals (cases x.own <;> trivial)
noncomputable def AOp.ex0 (s : AS) (x : AOp) : Option AS :=
  match x.ai with
  | .store n p v => if ownOk s.nr x.own (s.ev p) = true then (s.poke n (s.ev v) (s.ev p)).map fun s' => s'.put x.dst .any else none
  | .ef g xs => (efF s.hp g (xs.map fun x => s.ev x)).map fun u => { s.put x.dst u.1 with hp := u.2 }
  | ai => if x.mineB s then (ai.ex (x.ro s.nr) s).map fun v => s.put x.dst v else none
noncomputable def AOp.ex (s : AS) (x : AOp) : Option AS :=
  match x.guard with
  | none => x.ex0 s
  | some (t, want) => match s.ev (.tmp t) with
    | .lit (.bool b) => if b = want then x.ex0 s else some (s.put x.dst (.tup []))
    | .tup [] => some (s.put x.dst (.tup []))
    | _ => none
noncomputable def runPre : List AOp → AS → List AOp × AS
  | [], s => ([], s)
  | x :: xs, s => match x.ex s with
    | some s' => runPre xs s'
    | none => (x :: xs, s)
section
variable {P : Program} {s s' : AS} {K : AS → Prop} {Q Q' : AX → AS → Prop} {x : AOp} {xs ys : List AOp}
theorem AI.ex_val {ai : AI} {ro : Nat → Bool} {v : AV} (h : ai.ex ro s = some v) : ai.cls < 2 ∧ ai.val P ro s v := by
  cases ai <;> simp only [AI.ex] at h <;> try (cases h; done)
  all_goals refine ⟨by simp [AI.cls], ?_⟩
  all_goals simp only [AI.val]
  case mov x => cases h; rfl
  case pick c a b =>
    split at h <;> try (cases h; done)
    rename_i t ht
    cases h; exact ⟨t, ht, rfl⟩
  case bin op x y =>
    split at h <;> try (cases h; done)
    rename_i a b ha hb
    cases hv : binVal op a b with
    | none => rw [hv] at h; cases h
    | some u => rw [hv] at h; cases h; exact ⟨a, b, u, ha, hb, hv, rfl⟩
  case beq neg x y =>
    split at h <;> try (cases h; done)
    rename_i p q hp hq
    cases h; exact ⟨p, q, hp, hq, rfl⟩
  case un op x =>
    split at h <;> try (cases h; done)
    rename_i a ha
    cases hv : unVal op a with
    | none => rw [hv] at h; cases h
    | some u => rw [hv] at h; cases h; exact ⟨a, u, ha, hv, rfl⟩
  case cvt kk x =>
    split at h <;> try (cases h; done)
    rename_i k n hn
    cases h; exact ⟨k, n, hn, rfl⟩
  case load agg n x =>
    split at h <;> try (cases h; done)
    rename_i m u hp
    split at h <;> try (cases h; done)
    rename_i hc
    obtain ⟨rfl, h2, h3⟩ := hc
    cases h; exact ⟨hp, h2, h3⟩
  case rdp g xs => exact rdA_of h
  case rd g xs => exact rdA_of h
  case prim p xs =>
    split at h <;> try (cases h; done)
    rename_i vs hvs
    cases hv : primVal p vs with
    | none => rw [hv] at h; cases h
    | some u => rw [hv] at h; cases h; exact ⟨vs, u, hvs, hv, rfl⟩
  case faddr off idx x => exact h
  case iaddrA ln esz x i =>
    split at h <;> try (cases h; done)
    rename_i k n hn
    exact ⟨k, n, hn, h⟩
  case iaddrS esz x i =>
    split at h <;> try (cases h; done)
    rename_i k n hn
    exact ⟨k, n, hn, h⟩
  case b2s x =>
    cases hv : s.textOf ro (s.ev x) with
    | none => rw [hv] at h; cases h
    | some u => rw [hv] at h; cases h; exact ⟨u, rfl, rfl⟩
  case len str x =>
    cases hv : s.lenOf ro str (s.ev x) with
    | none => rw [hv] at h; cases h
    | some u => rw [hv] at h; cases h; exact ⟨u, rfl, rfl⟩
  case ext x i =>
    split at h <;> try (cases h; done)
    rename_i vs hvs
    exact ⟨vs, hvs, h⟩
  case nilc x =>
    split at h <;> try (cases h; done)
    · rename_i hx; cases h; exact ⟨hx.symm, .inl ⟨_, _, _, _, hx⟩⟩
    · rename_i hx; cases h; exact ⟨hx.symm, .inr ⟨_, _, hx⟩⟩
  case build z parts => exact h
  case bslice esz z n parts =>
    split at h <;> try (cases h; done)
    rename_i k els hv
    cases h; exact ⟨k, els, hv, rfl⟩
  case fieldv off idx n agg x =>
    split at h <;> try (cases h; done)
    rename_i ns fs hx
    split at h <;> try (cases h; done)
    rename_i hc
    split at h <;> try (cases h; done)
    rename_i v' hv'
    split at h <;> try (cases h; done)
    rename_i hc'
    cases h
    exact ⟨ns, fs, hx, hc.1, hc.2, hv', hc'.1, hc'.2⟩
  case add64 x y c =>
    split at h <;> try (cases h; done)
    rename_i a b d h1 h2 h3
    split at h <;> try (cases h; done)
    rename_i hb
    cases h
    exact ⟨a, b, d, h1, h2, h3, hb, rfl⟩
theorem AI.ex_go {ai : AI} {ro : Nat → Bool} {dst : Option Tmp} {v : AV} (h : ai.ex ro s = some v) (k : K (s.put dst v)) : ai.go P ro s dst K :=
  let ⟨h1, h2⟩ := AI.ex_val (P := P) h
  (AI.go_val h1).2 ⟨v, h2, k⟩
theorem AOp.ex0_go (h : x.ex0 s = some s') (k : K s') : x.mine s ∧ x.ai.go P (x.ro s.nr) s x.dst K := by
  unfold AOp.ex0 at h
  split at h
  · rename_i n p v hai
    split at h <;> try (cases h; done)
    rename_i hm
    cases hp : s.poke n (s.ev v) (s.ev p) with
    | none => rw [hp] at h; cases h
    | some s1 =>
      rw [hp] at h
      cases h
      refine ⟨?_, by rw [hai]; simp only [AI.go, hp]; exact k⟩
      unfold AOp.mine
      rw [hai]
      cases ho : x.own with
      | none => trivial
      | some t =>
        rw [ho] at hm
        exact ownOk_spec hm
  · rename_i g xs hai
    obtain ⟨u, hu, rfl⟩ := Option.map_eq_some_iff.1 h
    refine ⟨?_, ?_⟩
    · unfold AOp.mine
      rw [hai]
      cases x.own <;> cases g <;> first | trivial | (simp [efF] at hu; done)
    · rw [hai]
      simp only [AI.go]
      exact fun V => ⟨u.1, u.2, efA_of hu _ V, k⟩
  · split at h <;> try (cases h; done)
    rename_i hm
    cases hv : x.ai.ex (x.ro s.nr) s with
    | none => rw [hv] at h; cases h
    | some v =>
      rw [hv] at h
      cases h
      exact ⟨AOp.mineB_spec hm, AI.ex_go hv k⟩
theorem AOp.ex_go (h : x.ex s = some s') (k : K s') : x.go P s K := by
  rw [AOp.go_mode]
  unfold AOp.mode
  unfold AOp.ex at h
  cases hg : x.guard with
  | none => rw [hg] at h; exact AOp.ex0_go h k
  | some p =>
    obtain ⟨t, want⟩ := p
    rw [hg] at h
    simp only at h ⊢
    split at h <;> try (cases h; done)
    · rename_i b hb
      try rw [hb]
      try simp only
      split at h
      · rename_i hbw
        simp only [hbw, decide_true]
        exact AOp.ex0_go h k
      · rename_i hbw
        simp only [hbw, decide_false]
        cases h; exact k
    · rename_i hb
      try rw [hb]
      try simp only
      cases h; exact k
theorem areg_pre : ∀ {xs : List AOp} {s : AS}, runPre xs s = (ys, s') → AReg P ys s' K → AReg P xs s K
  | [], s, h, k => by simp only [runPre, Prod.mk.injEq] at h; obtain ⟨rfl, rfl⟩ := h; exact k
  | x :: xs, s, h, k => by
    simp only [runPre] at h
    split at h
    · rename_i s1 h1; exact AOp.ex_go h1 (areg_pre h k)
    · obtain ⟨rfl, rfl⟩ := Prod.mk.inj h; exact k
theorem areg_nil (k : K s) : AReg P [] s K := k
theorem AReg.mono {K' : AS → Prop} (h : ∀ s, K s → K' s) : ∀ {xs : List AOp} {s : AS}, AReg P xs s K → AReg P xs s K'
  | [], s, g => h s g
  | x :: xs, s, g => AOp.go_mono (fun s1 g1 => AReg.mono h g1) g
theorem AC.mono : ∀ (c : AC) {s : AS} {Q Q' : AX → AS → Prop}, (∀ x s, Q x s → Q' x s) → c.wp P s Q → c.wp P s Q'
  | .skip, s, Q, Q', h, g => h _ _ g
  | .reg xs, s, Q, Q', h, g => AReg.mono (fun s g => h _ _ g) g
  | .seq a b, s, Q, Q', h, g => AC.mono a (fun x s g => by cases x <;> first | (obtain ⟨s0, hle, g⟩ := g; exact ⟨s0, hle, AC.mono b h g⟩) | exact h _ _ g) g
  | .cond c a b, s, Q, Q', h, g => by
    simp only [AC.wp] at g ⊢
    split
    · rename_i t ht
      simp only [ht] at g
      cases t
      · exact AC.mono b h g
      · exact AC.mono a h g
    · rename_i hn
      split at g
      · rename_i t ht; exact absurd ht (hn t)
      · exact g
  | .block id c, s, Q, Q', h, g => AC.mono c (fun x s g => by
      cases x with
      | exit i =>
        simp only at g ⊢
        split
        · rename_i hi; rw [if_pos hi] at g; exact h _ _ g
        · rename_i hi; rw [if_neg hi] at g; exact h _ _ g
      | normal => exact h _ _ g
      | ret => exact h _ _ g) g
  | .loop c, s, Q, Q', h, g => by
    obtain ⟨I, n, h0, hs⟩ := g
    exact ⟨I, n, h0, fun m t ht => AC.mono c (fun x s g => by cases x <;> first | exact g | exact h _ _ g) (hs m t ht)⟩
  | .exit id, s, Q, Q', h, g => h _ _ g
  | .ret, s, Q, Q', h, g => h _ _ g
  | .jump c l r, s, Q, Q', h, g => AC.mono c (fun x s g => by
      cases x with
      | exit i =>
        simp only at g ⊢
        split
        · rename_i hi
          rw [if_pos hi] at g
          obtain ⟨s0, hle, g⟩ := g
          exact ⟨s0, hle, AC.mono r (fun x s g => by cases x <;> first | exact ⟨g.1, h _ _ g.2⟩ | exact h _ _ g) g⟩
        · rename_i hi; rw [if_neg hi] at g; exact h _ _ g
      | normal => exact h _ _ g
      | ret => exact h _ _ g) g
theorem wp_jump' {c r : AC} {l : Nat} (h : c.wp P s fun x s' => match x with | .exit i => if i = gotoX l then r.wp P s' (fun x s2 => match x with | .exit j => j < 1000000000 ∧ Q (.exit j) s2 | x => Q x s2) else Q (.exit i) s' | x => Q x s') : (AC.jump c l r).wp P s Q :=
  AC.mono c (fun x s g => by
    cases x with
    | exit i =>
      simp only at g ⊢
      split
      · rename_i hi; rw [if_pos hi] at g; exact ⟨s, Le.refl s, g⟩
      · rename_i hi; rw [if_neg hi] at g; exact g
    | normal => exact g
    | ret => exact g) h
theorem wp_seq' {a b : AC} (h : a.wp P s fun x s' => match x with | .normal => b.wp P s' Q | x => Q x s') : (AC.seq a b).wp P s Q :=
  AC.mono a (fun x s g => by cases x <;> first | exact ⟨s, Le.refl s, g⟩ | exact g) h
theorem wp_seqL {a b : AC} (h : a.wp P s fun x s' => match x with | .normal => ∃ s0, Le s' s0 ∧ b.wp P s0 Q | x => Q x s') : (AC.seq a b).wp P s Q := h
theorem wp_reg {xs : List AOp} (h : AReg P xs s (Q .normal)) : (AC.reg xs).wp P s Q := h
theorem wp_skip' (h : Q .normal s) : AC.skip.wp P s Q := h
theorem wp_exit' {id : Nat} (h : Q (.exit id) s) : (AC.exit id).wp P s Q := h
theorem wp_ret' (h : Q .ret s) : AC.ret.wp P s Q := h
theorem wp_block' {id : Nat} {c : AC} (h : c.wp P s fun x s' => match x with | .exit i => if i = id then Q .normal s' else Q (.exit i) s' | x => Q x s') : (AC.block id c).wp P s Q := h
theorem wp_cond_t {c : Operand} {a b : AC} (hc : s.ev c = .lit (.bool true)) (h : a.wp P s Q) : (AC.cond c a b).wp P s Q := by simp only [AC.wp, hc]; exact h
theorem wp_cond_f {c : Operand} {a b : AC} (hc : s.ev c = .lit (.bool false)) (h : b.wp P s Q) : (AC.cond c a b).wp P s Q := by simp only [AC.wp, hc]; exact h
theorem wp_cond_b {c : Operand} {a b : AC} {t : Bool} (hc : s.ev c = .lit (.bool t)) (h1 : t = true → a.wp P s Q) (h2 : t = false → b.wp P s Q) : (AC.cond c a b).wp P s Q := by
  cases t
  · exact wp_cond_f hc (h2 rfl)
  · exact wp_cond_t hc (h1 rfl)
theorem exit_hit {id : Nat} (h : Q .normal s) : (if id = id then Q .normal s else Q (.exit id) s) := by rw [if_pos rfl]; exact h
noncomputable def loopN (P : Program) (c : AC) (Q : AX → AS → Prop) : Nat → AS → Prop
  | 0, _ => False
  | k + 1, s => c.wp P s fun x s' => match x with | .normal => loopN P c Q k s' | x => Q x s'
theorem wp_loopN {c : AC} (k : Nat) (h : loopN P c Q k s) : (AC.loop c).wp P s Q := by
  refine ⟨fun n t => loopN P c Q n t, k, ⟨s, Le.refl s, h⟩, fun n t ht => ?_⟩
  cases n with
  | zero => exact ht.elim
  | succ n => exact AC.mono c (fun x s g => by cases x <;> first | exact ⟨n, Nat.lt_succ_self n, s, Le.refl s, g⟩ | exact g) ht
theorem loopN_succ {c : AC} {k : Nat} (h : c.wp P s fun x s' => match x with | .normal => loopN P c Q k s' | x => Q x s') : loopN P c Q (k + 1) s := h
theorem wp_loop_to {c : AC} (n : Nat) (S : Nat → AS) (h0 : Le s (S 0)) (hstep : ∀ i, i < n → c.wp P (S i) fun x s' => match x with | .normal => Le s' (S (i + 1)) | x => Q x s')
    (hlast : c.wp P (S n) fun x s' => match x with | .normal => False | x => Q x s') : (AC.loop c).wp P s Q := by
  refine ⟨fun m t => ∃ i, i + m = n ∧ t = S i, n, ⟨S 0, h0, 0, by omega, rfl⟩, ?_⟩
  rintro m t ⟨i, him, rfl⟩
  rcases Nat.lt_or_ge i n with hlt | hge
  · exact AC.mono c (fun x s g => by cases x <;> first | exact ⟨m - 1, by omega, S (i + 1), g, i + 1, by omega, rfl⟩ | exact g) (hstep i hlt)
  · have : i = n := by omega
    subst this
    exact AC.mono c (fun x s g => by cases x <;> first | exact g.elim | exact g) hlast
theorem areg_alloc {d : Tmp} {n : Nat} {z : AV} {fo : List Tmp} {ow : Option Tmp}
    (h : ∀ l, AReg P xs { s.put (some d) (.ptr (s.nr + d) l 0 []) with hp := s.hp.set (s.nr + d) (some (.box l n z)) } K) : AReg P (⟨some d, none, .alloc n z, fo, ow⟩ :: xs) s K := by
  unfold AReg AOp.go AOp.mine
  simp only [AI.go, AS.slot, Option.getD_some]
  exact ⟨trivial, h⟩
theorem areg_box {d : Tmp} {n : Nat} {x : Operand} {fo : List Tmp} {ow : Option Tmp} (h1 : (s.ev x).isTup = false) (h2 : (s.ev x).sz = n)
    (h : ∀ l, AReg P xs { s.put (some d) (.ptr (s.nr + d) l 0 []) with hp := s.hp.set (s.nr + d) (some (.box l n (s.ev x))) } K) : AReg P (⟨some d, none, .box n x, fo, ow⟩ :: xs) s K := by
  unfold AReg AOp.go AOp.mine
  simp only [AI.go, AS.slot, Option.getD_some]
  exact ⟨trivial, h1, h2, h⟩
theorem areg_call {d : Option Tmp} {f : FuncId} {as : List Operand} {fo : List Tmp} {ow : Option Tmp} {v : AV} (hc : PCall P f (as.map fun x => s.coe tt (s.ev x)) (.val v)) (hf : fo = [])
    (h : AReg P xs (s.put d v) K) : AReg P (⟨d, none, .call f as, fo, ow⟩ :: xs) s K := by
  subst hf
  unfold AReg AOp.go AOp.mine
  simp only [AI.go]
  have hro : (AOp.ro ⟨d, none, .call f as, [], ow⟩ s.nr) = tt := by funext b; rfl
  rw [hro]
  exact ⟨trivial, [], .val v, hc, h⟩
theorem areg_callR {d : Tmp} {f : FuncId} {as : List Operand} {fo : List Tmp} {ow : Option Tmp} {e : TypeId} {esz : Nat} {els : List AV} (hc : PCall P f (as.map fun x => s.coe tt (s.ev x)) (.row e esz els)) (hf : fo = [])
    (h : ∀ V, AReg P xs { s.put (some d) (.own (s.nr + d) V) with hp := s.hp.set (s.nr + d) (some (.row e V esz els 0)) } K) : AReg P (⟨some d, none, .call f as, fo, ow⟩ :: xs) s K := by
  subst hf
  unfold AReg AOp.go AOp.mine
  simp only [AI.go]
  have hro : (AOp.ro ⟨some d, none, .call f as, [], ow⟩ s.nr) = tt := by funext b; rfl
  rw [hro]
  exact ⟨trivial, [], .row e esz els, hc, h⟩
theorem areg_callv {d : Option Tmp} {f : FuncId} {as : List Operand} {fo : List Tmp} {ow : Option Tmp} {v : AV} (hc : PCall P f (as.map fun x => s.coe (AOp.ro ⟨d, none, .callv f as, fo, ow⟩ s.nr) (s.ev x)) (.val v))
    (hm : AOp.mine ⟨d, none, .callv f as, fo, ow⟩ s) (h : AReg P xs (s.put d v) K) : AReg P (⟨d, none, .callv f as, fo, ow⟩ :: xs) s K := by
  unfold AReg AOp.go
  simp only [AI.go]
  exact ⟨hm, v, hc, h⟩
end
end Go.Cab
namespace Go.Cab
open Go.RowKit
open Classical
def un (n : Nat) : Value := .int .u64 n
def wn (n : Nat) : Value := .int .u32 n
def bn (n : Nat) : Value := .int .u8 n
def jn (n : Nat) : Value := .int .i64 n
theorem sc_un (n : Nat) : sc (un n) = true := rfl
theorem sc_wn (n : Nat) : sc (wn n) = true := rfl
theorem sc_bn (n : Nat) : sc (bn n) = true := rfl
theorem sc_jn (n : Nat) : sc (jn n) = true := rfl
theorem wrap_u64 (n : Nat) : IntKind.u64.wrap (n : Int) = ((n % 18446744073709551616 : Nat) : Int) := by
  simp [IntKind.wrap, IntKind.signed, IntKind.bits]
theorem wrap_u32 (n : Nat) : IntKind.u32.wrap (n : Int) = ((n % 4294967296 : Nat) : Int) := by
  simp [IntKind.wrap, IntKind.signed, IntKind.bits]
theorem wrap_u8 (n : Nat) : IntKind.u8.wrap (n : Int) = ((n % 256 : Nat) : Int) := by
  simp [IntKind.wrap, IntKind.signed, IntKind.bits]
theorem wrap_i64 {n : Int} (h1 : -9223372036854775808 ≤ n) (h2 : n < 9223372036854775808) : IntKind.i64.wrap n = n := by
  simp [IntKind.wrap, IntKind.signed, IntKind.bits, Int.bmod]
  omega
def subm (m a b : Nat) : Nat := (((a : Int) - b) % m).toNat
theorem wrap_sub64 (a b : Nat) : IntKind.u64.wrap ((a : Int) - b) = ((subm 18446744073709551616 a b : Nat) : Int) := by
  simp only [IntKind.wrap, IntKind.signed, IntKind.bits, subm]
  rw [Int.toNat_of_nonneg (Int.emod_nonneg _ (by decide))]
  rfl
theorem bv64 (n : Nat) : (BitVec.ofInt 64 (n : Int)).toNat = n % 18446744073709551616 := by
  simp [BitVec.toNat_ofInt]
theorem bv8 (n : Nat) : (BitVec.ofInt 8 (n : Int)).toNat = n % 256 := by
  simp [BitVec.toNat_ofInt]
theorem un_inj {a b : Nat} : un a = un b ↔ a = b := by
  simp only [un, Value.int.injEq, true_and]; omega
theorem bn_inj {a b : Nat} : bn a = bn b ↔ a = b := by
  simp only [bn, Value.int.injEq, true_and]; omega
theorem bin_add64 (a b : Nat) : binVal .add (un a) (un b) = some (un ((a + b) % 18446744073709551616)) := by
  simp only [binVal, un, ne_eq, not_true_eq_false, if_false]
  rw [← Int.natCast_add, wrap_u64]
theorem bin_mul64 (a b : Nat) : binVal .mul (un a) (un b) = some (un ((a * b) % 18446744073709551616)) := by
  simp only [binVal, un, ne_eq, not_true_eq_false, if_false]
  rw [← Int.natCast_mul, wrap_u64]
theorem bin_sub64 (a b : Nat) : binVal .sub (un a) (un b) = some (un (subm 18446744073709551616 a b)) := by
  simp only [binVal, un, ne_eq, not_true_eq_false, if_false]
  rw [wrap_sub64]
theorem bin_and64 (a b : Nat) : binVal .and (un a) (un b) = some (un ((a &&& b) % 18446744073709551616)) := by
  simp only [binVal, un, ne_eq, not_true_eq_false, if_false]
  rw [show IntKind.u64.bits = 64 from rfl, BitVec.toNat_and, bv64, bv64, wrap_u64]
  congr 3
  have e : (18446744073709551616 : Nat) = 2 ^ 64 := by decide
  rw [e, Nat.and_mod_two_pow, Nat.mod_mod, Nat.mod_mod, ← Nat.and_mod_two_pow]
theorem and_mask (a k : Nat) (hk : k ≤ 64) : (a &&& (2 ^ k - 1)) % 18446744073709551616 = a % 2 ^ k := by
  rw [Nat.and_two_pow_sub_one_eq_mod]
  have e : (18446744073709551616 : Nat) = 2 ^ 64 := by decide
  refine Nat.mod_eq_of_lt (Nat.lt_of_lt_of_le (Nat.mod_lt _ (Nat.two_pow_pos k)) ?_)
  rw [e]; exact Nat.pow_le_pow_right (by decide) hk
theorem bin_and51 (a : Nat) : binVal .and (un a) (un 2251799813685247) = some (un (a % 2251799813685248)) := by
  rw [bin_and64, show (2251799813685247 : Nat) = 2 ^ 51 - 1 by decide, and_mask a 51 (by decide)]
theorem bin_and32 (a : Nat) : binVal .and (un a) (un 4294967295) = some (un (a % 4294967296)) := by
  rw [bin_and64, show (4294967295 : Nat) = 2 ^ 32 - 1 by decide, and_mask a 32 (by decide)]
theorem bin_and1 (a : Nat) : binVal .and (un a) (un 1) = some (un (a % 2)) := by
  rw [bin_and64, show (1 : Nat) = 2 ^ 1 - 1 by decide, and_mask a 1 (by decide)]
theorem bin_or64 (a b : Nat) : binVal .or (un a) (un b) = some (un ((a ||| b) % 18446744073709551616)) := by
  simp only [binVal, un, ne_eq, not_true_eq_false, if_false]
  rw [show IntKind.u64.bits = 64 from rfl, BitVec.toNat_or, bv64, bv64, wrap_u64]
  congr 3
  have e : (18446744073709551616 : Nat) = 2 ^ 64 := by decide
  rw [e, Nat.or_mod_two_pow, Nat.mod_mod, Nat.mod_mod, ← Nat.or_mod_two_pow]
theorem bin_xor64 (a b : Nat) : binVal .xor (un a) (un b) = some (un ((a ^^^ b) % 18446744073709551616)) := by
  simp only [binVal, un, ne_eq, not_true_eq_false, if_false]
  rw [show IntKind.u64.bits = 64 from rfl, BitVec.toNat_xor, bv64, bv64, wrap_u64]
  congr 3
  have e : (18446744073709551616 : Nat) = 2 ^ 64 := by decide
  rw [e, Nat.xor_mod_two_pow, Nat.mod_mod, Nat.mod_mod, ← Nat.xor_mod_two_pow]
theorem bin_and8 (a b : Nat) : binVal .and (bn a) (bn b) = some (bn ((a &&& b) % 256)) := by
  simp only [binVal, bn, ne_eq, not_true_eq_false, if_false]
  rw [show IntKind.u8.bits = 8 from rfl, BitVec.toNat_and, bv8, bv8, wrap_u8]
  congr 3
  have e : (256 : Nat) = 2 ^ 8 := by decide
  rw [e, Nat.and_mod_two_pow, Nat.mod_mod, Nat.mod_mod, ← Nat.and_mod_two_pow]
theorem bin_and8_1 (a : Nat) : binVal .and (bn a) (bn 1) = some (bn (a % 2)) := by
  rw [bin_and8, show (a &&& 1) = a % 2 from Nat.and_one_is_mod a, Nat.mod_eq_of_lt (by omega)]
theorem bin_or8 (a b : Nat) : binVal .or (bn a) (bn b) = some (bn ((a ||| b) % 256)) := by
  simp only [binVal, bn, ne_eq, not_true_eq_false, if_false]
  rw [show IntKind.u8.bits = 8 from rfl, BitVec.toNat_or, bv8, bv8, wrap_u8]
  congr 3
  have e : (256 : Nat) = 2 ^ 8 := by decide
  rw [e, Nat.or_mod_two_pow, Nat.mod_mod, Nat.mod_mod, ← Nat.or_mod_two_pow]
theorem shl_any {k k' : IntKind} (a b : Nat) : binVal .shl (.int k a) (.int k' b) = some (.int k (k.wrap ((a * 2 ^ min b k.bits : Nat) : Int))) := by
  simp only [binVal]
  rw [if_neg (by omega), Int.toNat_natCast, Int.natCast_mul, Int.natCast_pow]
  rfl
theorem shr_any {k k' : IntKind} (a b : Nat) : binVal .shr (.int k a) (.int k' b) = some (.int k ((a / 2 ^ min b k.bits : Nat) : Int)) := by
  simp only [binVal]
  rw [if_neg (by omega), Int.toNat_natCast, Int.natCast_ediv, Int.natCast_pow, Int.fdiv_eq_ediv_of_nonneg _ (Int.pow_nonneg (by decide))]
  rfl
theorem bin_shl64 (a b : Nat) : binVal .shl (un a) (un b) = some (un ((a * 2 ^ min b 64) % 18446744073709551616)) := by
  simp only [un]; rw [shl_any, wrap_u64]; rfl
theorem bin_shl64j (a b : Nat) : binVal .shl (un a) (jn b) = some (un ((a * 2 ^ min b 64) % 18446744073709551616)) := by
  simp only [un, jn]; rw [shl_any, wrap_u64]; rfl
theorem bin_shr64 (a b : Nat) : binVal .shr (un a) (un b) = some (un (a / 2 ^ min b 64)) := by
  simp only [un]; rw [shr_any]; rfl
theorem bin_shr64j (a b : Nat) : binVal .shr (un a) (jn b) = some (un (a / 2 ^ min b 64)) := by
  simp only [un, jn]; rw [shr_any]; rfl
theorem bin_shl8j (a b : Nat) : binVal .shl (bn a) (jn b) = some (bn ((a * 2 ^ min b 8) % 256)) := by
  simp only [bn, jn]; rw [shl_any, wrap_u8]; rfl
theorem bin_shr8j (a b : Nat) : binVal .shr (bn a) (jn b) = some (bn (a / 2 ^ min b 8)) := by
  simp only [bn, jn]; rw [shr_any]; rfl
theorem bin_quo64 (a b : Nat) (h : b ≠ 0) : binVal .quo (un a) (un b) = some (un ((a / b) % 18446744073709551616)) := by
  simp only [binVal, un, ne_eq, not_true_eq_false, if_false]
  rw [if_neg (by omega), ← Int.ofNat_tdiv, wrap_u64]
theorem bin_rem64 (a b : Nat) (h : b ≠ 0) : binVal .rem (un a) (un b) = some (un (a % b)) := by
  simp only [binVal, un, ne_eq, not_true_eq_false, if_false]
  rw [if_neg (by omega), ← Int.ofNat_tmod]
theorem bin_quo32 (a b : Nat) (h : b ≠ 0) : binVal .quo (wn a) (wn b) = some (wn ((a / b) % 4294967296)) := by
  simp only [binVal, wn, ne_eq, not_true_eq_false, if_false]
  rw [if_neg (by omega), ← Int.ofNat_tdiv, wrap_u32]
theorem bin_rem32 (a b : Nat) (h : b ≠ 0) : binVal .rem (wn a) (wn b) = some (wn (a % b)) := by
  simp only [binVal, wn, ne_eq, not_true_eq_false, if_false]
  rw [if_neg (by omega), ← Int.ofNat_tmod]
theorem bin_addj (a b : Nat) (h : a + b < 9223372036854775808) : binVal .add (jn a) (jn b) = some (jn (a + b)) := by
  simp only [binVal, jn, ne_eq, not_true_eq_false, if_false]
  rw [wrap_i64 (by omega) (by omega), ← Int.natCast_add]
theorem bin_subj (a b : Nat) (h : b ≤ a) (h2 : a < 9223372036854775808) : binVal .sub (jn a) (jn b) = some (jn (a - b)) := by
  simp only [binVal, jn, ne_eq, not_true_eq_false, if_false]
  rw [wrap_i64 (by omega) (by omega), Int.ofNat_sub h]
theorem bin_quoj (a b : Nat) (h : b ≠ 0) (h2 : a < 9223372036854775808) : binVal .quo (jn a) (jn b) = some (jn (a / b)) := by
  simp only [binVal, jn, ne_eq, not_true_eq_false, if_false]
  have := Nat.div_le_self a b
  rw [if_neg (by omega), ← Int.ofNat_tdiv, wrap_i64 (by have : (0 : Int) ≤ ((a / b : Nat) : Int) := Int.natCast_nonneg _; omega) (by have : ((a / b : Nat) : Int) ≤ (a : Int) := Int.ofNat_le.2 this; omega)]
theorem bin_remj (a b : Nat) (h : b ≠ 0) : binVal .rem (jn a) (jn b) = some (jn (a % b)) := by
  simp only [binVal, jn, ne_eq, not_true_eq_false, if_false]
  rw [if_neg (by omega), ← Int.ofNat_tmod]
theorem bin_eqlj (a b : Nat) : binVal .eql (jn a) (jn b) = some (.bool (decide (a = b))) := by
  simp only [binVal, jn, ne_eq, not_true_eq_false, if_false, Option.some.injEq, Value.bool.injEq]; rw [Bool.eq_iff_iff]; simp; try omega
theorem bin_neqj (a b : Nat) : binVal .neq (jn a) (jn b) = some (.bool (decide (a ≠ b))) := by
  simp only [binVal, jn, ne_eq, not_true_eq_false, if_false, Option.some.injEq, Value.bool.injEq]; rw [Bool.eq_iff_iff]; simp; try omega
theorem bin_lssj (a b : Nat) : binVal .lss (jn a) (jn b) = some (.bool (decide (a < b))) := by
  simp [binVal, jn]
theorem bin_leqj (a b : Nat) : binVal .leq (jn a) (jn b) = some (.bool (decide (a ≤ b))) := by
  simp [binVal, jn]
theorem bin_gtrj (a b : Nat) : binVal .gtr (jn a) (jn b) = some (.bool (decide (b < a))) := by
  simp [binVal, jn]
theorem bin_geqj (a b : Nat) : binVal .geq (jn a) (jn b) = some (.bool (decide (b ≤ a))) := by
  simp [binVal, jn]
theorem bin_eql64 (a b : Nat) : binVal .eql (un a) (un b) = some (.bool (decide (a = b))) := by
  simp only [binVal, un, ne_eq, not_true_eq_false, if_false, Option.some.injEq, Value.bool.injEq]; rw [Bool.eq_iff_iff]; simp; try omega
theorem bin_lss64 (a b : Nat) : binVal .lss (un a) (un b) = some (.bool (decide (a < b))) := by
  simp [binVal, un]
theorem bin_gtr64 (a b : Nat) : binVal .gtr (un a) (un b) = some (.bool (decide (b < a))) := by
  simp [binVal, un]
theorem bin_eql8 (a b : Nat) : binVal .eql (bn a) (bn b) = some (.bool (decide (a = b))) := by
  simp only [binVal, bn, ne_eq, not_true_eq_false, if_false, Option.some.injEq, Value.bool.injEq]; rw [Bool.eq_iff_iff]; simp; try omega
theorem bin_rem8 (a b : Nat) (h : b ≠ 0) : binVal .rem (bn a) (bn b) = some (bn (a % b)) := by
  simp only [binVal, bn, ne_eq, not_true_eq_false, if_false]
  rw [if_neg (by omega), ← Int.ofNat_tmod]
def add64A : AV → AV → AV → Option AV
  | .lit (.int .u64 a), .lit (.int .u64 b), .lit (.int .u64 d) => if 0 ≤ a ∧ 0 ≤ b ∧ 0 ≤ d ∧ d ≤ 1 then
        some (.tup [.lit (.int .u64 ((a + b + d) % 18446744073709551616)), .lit (.int .u64 ((a + b + d) / 18446744073709551616))]) else none
  | _, _, _ => none
theorem add64A_un (a b d : Nat) (h : d ≤ 1) : add64A (.lit (un a)) (.lit (un b)) (.lit (un d)) = some (.tup [.lit (un ((a + b + d) % 18446744073709551616)), .lit (un ((a + b + d) / 18446744073709551616))]) := by
  simp only [add64A, un]
  rw [if_pos (by omega)]
  rfl
def cvtA (k : IntKind) : AV → Option AV
  | .lit (.int _ n) => some (.lit (.int k (k.wrap n)))
  | _ => none
theorem cvt_64j (n : Nat) : cvtA .u64 (.lit (jn n)) = some (.lit (un (n % 18446744073709551616))) := by simp only [cvtA, jn, wrap_u64]; rfl
theorem cvt_64b (n : Nat) : cvtA .u64 (.lit (bn n)) = some (.lit (un (n % 18446744073709551616))) := by simp only [cvtA, bn, wrap_u64]; rfl
theorem cvt_64w (n : Nat) : cvtA .u64 (.lit (wn n)) = some (.lit (un (n % 18446744073709551616))) := by simp only [cvtA, wn, wrap_u64]; rfl
theorem cvt_8u (n : Nat) : cvtA .u8 (.lit (un n)) = some (.lit (bn (n % 256))) := by simp only [cvtA, un, wrap_u8]; rfl
theorem cvt_8w (n : Nat) : cvtA .u8 (.lit (wn n)) = some (.lit (bn (n % 256))) := by simp only [cvtA, wn, wrap_u8]; rfl
noncomputable def idxA (ln esz : Nat) : AV → AV → Option AV
  | .lit (.int _ n), v => AS.idxAddr ln esz n v
  | _, _ => none
theorem idxA_ptr (ln esz n b : Nat) (l : Nat × Nat) (o : Nat) (p : List Nat) : idxA ln esz (.lit (jn n)) (.ptr b l o p) = if n < ln then some (.ptr b l (o + n * esz) (p ++ [n])) else none := by
  simp only [idxA, jn, AS.idxAddr, Int.toNat_natCast]
  by_cases h : n < ln
  · rw [if_pos h, if_pos (by omega)]
  · rw [if_neg h, if_neg (by omega)]
theorem idxA_cptr (ln esz n m : Nat) (els : List AV) : idxA ln esz (.lit (jn n)) (.cptr m (.arr esz els)) = if n < ln then (els[n]?).map (AV.cptr esz) else none := by
  simp only [idxA, jn, AS.idxAddr, Int.toNat_natCast, true_and]
  by_cases h : n < ln
  · rw [if_pos h, if_pos (by omega)]
  · rw [if_neg h, if_neg (by omega)]
noncomputable def elA (s : AS) (ro : Nat → Bool) (esz : Nat) : AV → AV → Option AV
  | .lit (.int _ n), v => s.elemAddr ro esz n v
  | _, _ => none
theorem elA_sl (s : AS) (ro : Nat → Bool) (esz n : Nat) (els : List AV) : elA s ro esz (.lit (jn n)) (.sl esz els) = (els[n]?).map (AV.cptr esz) := by
  simp only [elA, jn, AS.elemAddr, Int.toNat_natCast, true_and]
  by_cases h : n < els.length
  · rw [if_pos (by omega)]
  · rw [if_neg (by omega)]; simp [h]
noncomputable def elRow (b esz : Nat) (n : Nat) (V : Value) : Option Blk → Option AV
  | some (.row _ V' esz' els _) => if V' = V ∧ esz' = esz ∧ n < els.length then some (.ptr b (locOf V) (0 + n * esz) [n]) else none
  | _ => none
theorem elA_own (s : AS) (ro : Nat → Bool) (esz n b : Nat) (V : Value) : elA s ro esz (.lit (jn n)) (.own b V) = if ro b then elRow b esz n V (s.blk b) else none := by
  simp only [elA, jn, AS.elemAddr, elRow, Int.toNat_natCast]
  have e : ∀ (els : List AV), (0 ≤ (n : Int) ∧ (n : Int) < (els.length : Int)) = (n < els.length) := fun els => by rw [eq_iff_iff]; omega
  simp only [e]
  rfl
theorem elRow_row (b esz n : Nat) (e : TypeId) (V : Value) (els : List AV) (k : Nat) : elRow b esz n V (some (.row e V esz els k)) = if n < els.length then some (.ptr b (locOf V) (n * esz) [n]) else none := by
  simp [elRow]
noncomputable def lenA (s : AS) (ro : Nat → Bool) (str : Bool) (v : AV) : Option AV := (s.lenOf ro str v).map fun n => .lit (.int .i64 n)
theorem lenA_sl (s : AS) (ro : Nat → Bool) (esz : Nat) (els : List AV) : lenA s ro false (.sl esz els) = some (.lit (jn els.length)) := rfl
theorem lenA_nil (s : AS) (ro : Nat → Bool) : lenA s ro false (.lit (.slice none 0 0)) = some (.lit (jn 0)) := rfl
theorem lenA_str (s : AS) (ro : Nat → Bool) (b : ByteArray) : lenA s ro true (.lit (.string b)) = some (.lit (jn b.size)) := rfl
noncomputable def lenRow (V : Value) : Option Blk → Option AV
  | some (.row _ V' _ els _) => if V' = V then some (.lit (jn els.length)) else none
  | _ => none
theorem lenA_own (s : AS) (ro : Nat → Bool) (b : Nat) (V : Value) : lenA s ro false (.own b V) = if ro b then lenRow V (s.blk b) else none := by
  simp only [lenA, AS.lenOf, lenRow]
  cases ro b
  · rfl
  · simp only [if_true, Bool.false_eq_true, if_false]
    generalize s.blk b = x
    cases x with
    | none => rfl
    | some x =>
      cases x with
      | box l n v => rfl
      | row e V' esz els k => by_cases h : V' = V <;> simp [h, jn]
      | map r es clock => rfl
theorem lenRow_row (e : TypeId) (V : Value) (esz : Nat) (els : List AV) (k : Nat) : lenRow V (some (.row e V esz els k)) = some (.lit (jn els.length)) := by
  simp [lenRow]
section
variable {ro : Nat → Bool} {s : AS}
theorem ex_mov (x : Operand) : (AI.mov x).ex ro s = some (s.ev x) := rfl
def binA (op : BinOp) : AV → AV → Option AV
  | .lit a, .lit b => (binVal op a b).map .lit
  | _, _ => none
theorem ex_bin (op : BinOp) (x y : Operand) : (AI.bin op x y).ex ro s = binA op (s.ev x) (s.ev y) := by
  simp only [AI.ex]; generalize s.ev x = p; generalize s.ev y = q; cases p <;> cases q <;> rfl
theorem binA_lit (op : BinOp) (a b : Value) : binA op (.lit a) (.lit b) = (binVal op a b).map .lit := rfl
theorem ex_cvt (k : IntKind) (x : Operand) : (AI.cvt k x).ex ro s = cvtA k (s.ev x) := rfl
theorem ex_iaddrA (ln esz : Nat) (x i : Operand) : (AI.iaddrA ln esz x i).ex ro s = idxA ln esz (s.ev i) (s.ev x) := by
  simp only [AI.ex]; generalize s.ev i = p; cases p <;> first | rfl | (rename_i v; cases v <;> rfl)
theorem ex_iaddrS (esz : Nat) (x i : Operand) : (AI.iaddrS esz x i).ex ro s = elA s ro esz (s.ev i) (s.ev x) := by
  simp only [AI.ex]; generalize s.ev i = p; cases p <;> first | rfl | (rename_i v; cases v <;> rfl)
theorem ex_faddr (off idx : Nat) (x : Operand) : (AI.faddr off idx x).ex ro s = AS.fieldAddr off idx (s.ev x) := rfl
def ldA (agg : Bool) (n : Nat) : Option (Nat × AV) → Option AV
  | some (m, u) => if m = n ∧ u.isAgg = agg ∧ u.isTup = false then some u else none
  | none => none
theorem ex_load (agg : Bool) (n : Nat) (x : Operand) : (AI.load agg n x).ex ro s = ldA agg n (s.peek ro (s.ev x)) := rfl
theorem ex_ext (x : Operand) (i : Nat) : (AI.ext x i).ex ro s = match s.ev x with | .tup vs => vs[i]? | _ => none := rfl
theorem ex_add64 (x y c : Operand) : (AI.add64 x y c).ex ro s = add64A (s.ev x) (s.ev y) (s.ev c) := rfl
theorem ex_pick (c a b : Operand) : (AI.pick c a b).ex ro s = match s.ev c with | .lit (.bool t) => some (if t then s.ev a else s.ev b) | _ => none := rfl
theorem ex_beq (neg : Bool) (x y : Operand) : (AI.beq neg x y).ex ro s = match s.ev x, s.ev y with | .lit (.bool p), .lit (.bool q) => some (.lit (.bool (if neg then !(p == q) else p == q))) | _, _ => none := rfl
theorem ex_un (op : UnOp) (x : Operand) : (AI.un op x).ex ro s = match s.ev x with | .lit a => (unVal op a).map .lit | _ => none := rfl
theorem ex_len (str : Bool) (x : Operand) : (AI.len str x).ex ro s = lenA s ro str (s.ev x) := rfl
theorem ex_nilc (x : Operand) : (AI.nilc x).ex ro s = match s.ev x with | .ptr b l off p => some (.ptr b l off p) | .cptr n v => some (.cptr n v) | _ => none := rfl
theorem ex_build (z : AV) (parts : List (Nat × Operand)) : (AI.build z parts).ex ro s = fillAV s z parts := rfl
theorem ex_bslice (esz : Nat) (z : AV) (n : Nat) (parts : List (Nat × Operand)) : (AI.bslice esz z n parts).ex ro s = match fillAV s (.arr esz (List.replicate n z)) parts with | some (.arr _ els) => some (.sl esz els) | _ => none := rfl
theorem ex_fieldv (off idx n : Nat) (agg : Bool) (x : Operand) : (AI.fieldv off idx n agg x).ex ro s = match s.ev x with
    | .st ns fs => if (ns.take idx).sum = off ∧ ns[idx]? = some n then (match fs[idx]? with
      | some v => if v.isAgg = agg ∧ v.isTup = false then some v else none
      | none => none) else none
    | _ => none := rfl
variable {P : Program} {K : AS → Prop} {Q : AX → AS → Prop} {xs : List AOp} {s' : AS} {b : AC}
theorem wp_sr (h : runPre xs s = ([], s')) (k : b.wp P s' Q) : (AC.seq (.reg xs) b).wp P s Q := wp_seq' (wp_reg (areg_pre (K := fun s' => b.wp P s' Q) h k))
theorem wp_r (h : runPre xs s = ([], s')) (k : Q .normal s') : (AC.reg xs).wp P s Q := areg_pre (K := Q .normal) h k
theorem wp_sg (h : AReg P xs s fun s' => b.wp P s' Q) : (AC.seq (.reg xs) b).wp P s Q := wp_seq' (wp_reg h)
theorem wp_sgL (h : AReg P xs s fun s' => ∃ s0, Le s' s0 ∧ b.wp P s0 Q) : (AC.seq (.reg xs) b).wp P s Q := h
theorem areg_al {d : Tmp} {n : Nat} {z : AV} {fo : List Tmp} {ow : Option Tmp}
    (h : ∀ l, AReg P xs ⟨s.nr, s.tm.set d (.ptr (s.nr + d) l 0 []), s.hp.set (s.nr + d) (some (.box l n z))⟩ K) : AReg P (⟨some d, none, .alloc n z, fo, ow⟩ :: xs) s K := areg_alloc h
theorem areg_bx {d : Tmp} {n : Nat} {x : Operand} {fo : List Tmp} {ow : Option Tmp} (h1 : (s.ev x).isTup = false) (h2 : (s.ev x).sz = n)
    (h : ∀ l, AReg P xs ⟨s.nr, s.tm.set d (.ptr (s.nr + d) l 0 []), s.hp.set (s.nr + d) (some (.box l n (s.ev x)))⟩ K) : AReg P (⟨some d, none, .box n x, fo, ow⟩ :: xs) s K := areg_box h1 h2 h
theorem areg_end (h : runPre xs s = ([], s')) (k : K s') : AReg P xs s K := areg_pre h k
theorem fin_row {rt : Tmp} {b : Nat} {V : Value} {e : TypeId} {esz : Nat} {els : List AV} (h : s.ev (.tmp rt) = .own b V) (hb : s.blk b = some (.row e V esz els 0)) : Fin [.tmp rt] s (.row e esz els) := ⟨rt, rfl, .inr ⟨b, V, h, hb⟩⟩
theorem fin_tup {x y : RV} {rs : List RV} {vs : List AV} (h : RVals s (x :: y :: rs) = some vs) (hv : ∀ u ∈ vs, u ≠ .any) : Fin (x :: y :: rs) s (.val (.tup vs)) := ⟨[], vs, rfl, h, hv⟩
theorem areg_ic {d : Option Tmp} {f : FuncId} {x : Operand} {as : List Operand} {ow : Option Tmp} {b m : Nat} {blk : Blk} {p : List Nat} {u r u' : AV} {fo : List Tmp} {vs : List AV} (hp : s.part (s.ev x) = some (b, blk, p, m, u))
    (ha : (as.map fun x => s.coe (AOp.ro ⟨d, none, .icall f x as, fo, ow⟩ s.nr) (s.ev x)) = vs) (hc : ICall P f m u vs r u') (hu : u'.isTup = false) (h : AReg P xs ((s.setBlk b (some (blk.upd p u'))).put d r) K) : AReg P (⟨d, none, .icall f x as, fo, ow⟩ :: xs) s K := by
  subst ha
  unfold AReg AOp.go AOp.mine
  simp only [AI.go, hp]
  exact ⟨trivial, .inl ⟨r, u', hc, hu, h⟩⟩
theorem areg_al' {d : Tmp} {n : Nat} {z z' : AV} {fo : List Tmp} {ow : Option Tmp} (hz : z = z')
    (h : ∀ l, AReg P xs ⟨s.nr, s.tm.set d (.ptr (s.nr + d) l 0 []), s.hp.set (s.nr + d) (some (.box l n z'))⟩ K) : AReg P (⟨some d, none, .alloc n z, fo, ow⟩ :: xs) s K := by subst hz; exact areg_alloc h
theorem wp_rg (h : AReg P xs s (Q .normal)) : (AC.reg xs).wp P s Q := h
theorem areg_cv {d : Option Tmp} {f : FuncId} {as : List Operand} {fo : List Tmp} {ow : Option Tmp} {v : AV} {vs : List AV} (ha : (as.map fun x => s.coe (AOp.ro ⟨d, none, .callv f as, fo, ow⟩ s.nr) (s.ev x)) = vs) (hc : PCall P f vs (.val v))
    (h : AReg P xs (s.put d v) K) (hm : AOp.mine ⟨d, none, .callv f as, fo, ow⟩ s := by trivial) : AReg P (⟨d, none, .callv f as, fo, ow⟩ :: xs) s K := by subst ha; exact areg_callv hc hm h
theorem areg_lc {d : Option Tmp} {f : FuncId} {as : List Operand} {fo : List Tmp} {ow : Option Tmp} {v : AV} {vs : List AV} (ha : (as.map fun x => s.lend (AOp.ro ⟨d, none, .lcall f as, fo, ow⟩ s.nr) (s.ev x)) = vs) (hp : v.plain = true) (hc : PCall P f vs (.val v))
    (h : AReg P xs (s.put d v) K) : AReg P (⟨d, none, .lcall f as, fo, ow⟩ :: xs) s K := by
  subst ha
  unfold AReg AOp.go AOp.mine
  simp only [AI.go]
  exact ⟨trivial, v, hp, hc, h⟩
theorem areg_ca {d : Option Tmp} {f : FuncId} {as : List Operand} {ow : Option Tmp} {v : AV} {vs : List AV} (ha : (as.map fun x => s.coe tt (s.ev x)) = vs) (hc : PCall P f vs (.val v))
    (h : AReg P xs (s.put d v) K) : AReg P (⟨d, none, .call f as, [], ow⟩ :: xs) s K := by subst ha; exact areg_call hc rfl h
theorem areg_cr {d : Tmp} {f : FuncId} {as : List Operand} {ow : Option Tmp} {e : TypeId} {esz : Nat} {els : List AV} {vs : List AV} (ha : (as.map fun x => s.coe tt (s.ev x)) = vs) (hc : PCall P f vs (.row e esz els))
    (h : ∀ V, AReg P xs ⟨s.nr, s.tm.set d (.own (s.nr + d) V), s.hp.set (s.nr + d) (some (.row e V esz els 0))⟩ K) : AReg P (⟨some d, none, .call f as, [], ow⟩ :: xs) s K := by subst ha; exact areg_callR hc rfl h
theorem areg_cs {d : Option Tmp} {f : FuncId} {as : List Operand} {ow : Option Tmp} {v : AV} {vs : List AV} (bs : List Nat) (s1 : AS) (h1 : s.seals bs = s1) (ha : (as.map fun x => s1.coe tt (s1.ev x)) = vs) (hc : PCall P f vs (.val v))
    (h : AReg P xs (s1.put d v) K) : AReg P (⟨d, none, .call f as, [], ow⟩ :: xs) s K := by
  subst h1 ha
  unfold AReg AOp.go AOp.mine
  simp only [AI.go]
  have hro : (AOp.ro ⟨d, none, .call f as, [], ow⟩ s.nr) = tt := by funext b; rfl
  rw [hro]
  exact ⟨trivial, bs, .val v, hc, h⟩
theorem areg_csr {d : Tmp} {f : FuncId} {as : List Operand} {ow : Option Tmp} {e : TypeId} {esz : Nat} {els : List AV} {vs : List AV} (bs : List Nat) (s1 : AS) (h1 : s.seals bs = s1) (ha : (as.map fun x => s1.coe tt (s1.ev x)) = vs) (hc : PCall P f vs (.row e esz els))
    (h : ∀ V, AReg P xs ⟨s1.nr, s1.tm.set d (.own (s.nr + d) V), s1.hp.set (s.nr + d) (some (.row e V esz els 0))⟩ K) : AReg P (⟨some d, none, .call f as, [], ow⟩ :: xs) s K := by
  subst h1 ha
  unfold AReg AOp.go AOp.mine
  simp only [AI.go]
  have hro : (AOp.ro ⟨some d, none, .call f as, [], ow⟩ s.nr) = tt := by funext b; rfl
  rw [hro]
  exact ⟨trivial, bs, .row e esz els, hc, h⟩
theorem areg_run (n : Nat) (h : runPre (xs.take n) s = ([], s')) (k : AReg P (xs.drop n) s' K) : AReg P xs s K := by
  have : ∀ (as bs : List AOp) (s : AS), AReg P (as ++ bs) s K = AReg P as s fun s => AReg P bs s K := by
    intro as bs
    induction as with
    | nil => intro s; rfl
    | cons a as ih =>
      intro s
      show a.go P s _ = a.go P s _
      congr 1; funext s1; exact ih s1
  rw [← List.take_append_drop n xs, this]
  exact areg_pre h k
theorem fin_cell {rt : Tmp} {agg : Bool} {n : Nat} {v : AV} (h : RVal s (.cell rt agg n) = some v) (hv : v ≠ .any) : Fin [.cell rt agg n] s (.val v) := ⟨[], h, hv⟩
theorem fin_tmp {rt : Tmp} {v : AV} (h : RVal s (.tmp rt) = some v) (hv : v ≠ .any) : Fin [.tmp rt] s (.val v) := ⟨[], h, hv⟩
theorem if_hit {p : Prop} [Decidable p] {A B : Prop} (h : p) (k : A) : if p then A else B := by rw [if_pos h]; exact k
end
theorem loop_counts {P : Program} {c : AC} {s : AS} {Q : AX → AS → Prop} (n : Nat) (S : Nat → AS) (h0 : Le s (S 0)) (hstep : ∀ i, i < n → c.wp P (S i) fun x s' => match x with | .normal => Le s' (S (i + 1)) | x => Q x s')
    (hlast : c.wp P (S n) fun x s' => match x with | .normal => False | x => Q x s') : (AC.loop c).wp P s Q := wp_loop_to n S h0 hstep hlast
end Go.Cab
namespace Go.Cab
open Go.RowKit
open Classical
section
variable {P : Program} {s s' : AS} {K : AS → Prop} {Q : AX → AS → Prop} {xs : List AOp}
theorem areg_ap {d : Tmp} {e : TypeId} {esz bytes : Nat} {x y : Operand} {fo : List Tmp} {ow : Option Tmp} {b : Nat} {V : Value} {els ys : List AV} {sl : Nat} (hx : s.ev x = .own b V) (hb : s.blk b = some (.row e V esz els sl))
    (hy : s.coe (AOp.ro ⟨some d, none, .append e esz bytes x y, fo, ow⟩ s.nr) (s.ev y) = .sl esz ys) (h1 : els.length + ys.length ≤ maxLen) (h2 : (els.length + ys.length) * bytes ≤ 140737488355328)
    (h : ∀ V', AReg P xs ⟨s.nr, s.tm.set d (.own (s.nr + d) V'), (s.hp.set b none).set (s.nr + d) (some (.row e V' esz (els ++ ys) sl))⟩ K) (hl : AOp.leaves ⟨some d, none, .append e esz bytes x y, fo, ow⟩ s (.own b V) := by intro t ht; cases ht) : AReg P (⟨some d, none, .append e esz bytes x y, fo, ow⟩ :: xs) s K := by
  unfold AReg AOp.go AOp.mine
  simp only [AI.go, hx, AS.rowOf, hb, hy, if_true, and_self]
  exact ⟨by cases ow <;> exact hl, trivial, h1, h2, h⟩
theorem areg_mk {d : Tmp} {e : TypeId} {esz bytes : Nat} {z : AV} {x y : Operand} {fo : List Tmp} {ow : Option Tmp} {n : Nat} (hx : s.ev x = .lit (jn n)) (hy : s.ev y = .lit (jn n)) (h1 : n ≤ maxLen) (h2 : bytes * n ≤ 140737488355328)
    (h : ∀ V, AReg P xs ⟨s.nr, s.tm.set d (.own (s.nr + d) V), s.hp.set (s.nr + d) (some (.row e V esz (List.replicate n z) 0))⟩ K) : AReg P (⟨some d, none, .mkslice e esz bytes z x y, fo, ow⟩ :: xs) s K := by
  unfold AReg AOp.go AOp.mine
  simp only [AI.go, hx, hy, jn, Int.toNat_natCast]
  exact ⟨trivial, by omega, by omega, h1, by rw [← Int.natCast_mul]; omega, h⟩
theorem wp_loop_v {c : AC} (n : Nat) (S : Nat → Value → AS) (h0 : ∃ V, Le s (S 0 V)) (hstep : ∀ i V, i < n → c.wp P (S i V) fun x s' => match x with | .normal => ∃ V', Le s' (S (i + 1) V') | x => Q x s')
    (hlast : ∀ V, c.wp P (S n V) fun x s' => match x with | .normal => False | x => Q x s') : (AC.loop c).wp P s Q := by
  obtain ⟨V0, h0⟩ := h0
  refine ⟨fun m t => ∃ i V, i + m = n ∧ t = S i V, n, ⟨S 0 V0, h0, 0, V0, by omega, rfl⟩, ?_⟩
  rintro m t ⟨i, V, him, rfl⟩
  rcases Nat.lt_or_ge i n with hlt | hge
  · refine AC.mono c (fun x s g => ?_) (hstep i V hlt)
    cases x with
    | normal => obtain ⟨V', g⟩ := g; exact ⟨m - 1, by omega, S (i + 1) V', g, i + 1, V', by omega, rfl⟩
    | exit id => exact g
    | ret => exact g
  · have : i = n := by omega
    subst this
    exact AC.mono c (fun x s g => by cases x <;> first | exact g.elim | exact g) (hlast V)
theorem wp_loop_ret {c : AC} (n : Nat) (S : Nat → AS) (Inv : Nat → Prop) (h0 : Le s (S 0)) (hI : Inv 0) (hstep : ∀ i, i ≤ n → Inv i → c.wp P (S i) fun x s' => match x with | .normal => i < n ∧ Inv (i + 1) ∧ Le s' (S (i + 1)) | x => Q x s') : (AC.loop c).wp P s Q := by
  refine ⟨fun m t => ∃ i, i + m = n ∧ Inv i ∧ t = S i, n, ⟨S 0, h0, 0, by omega, hI, rfl⟩, ?_⟩
  rintro m t ⟨i, him, hIi, rfl⟩
  refine AC.mono c (fun x s g => ?_) (hstep i (by omega) hIi)
  cases x with
  | normal => obtain ⟨g1, g2, g3⟩ := g; exact ⟨m - 1, by omega, S (i + 1), g3, i + 1, by omega, g2, rfl⟩
  | exit id => exact g
  | ret => exact g
theorem wp_loop_retv {c : AC} (n : Nat) (S : Nat → Value → AS) (Inv : Nat → Prop) (h0 : ∃ V, Le s (S 0 V)) (hI : Inv 0) (hstep : ∀ i V, i ≤ n → Inv i → c.wp P (S i V) fun x s' => match x with | .normal => i < n ∧ Inv (i + 1) ∧ ∃ V', Le s' (S (i + 1) V') | x => Q x s') : (AC.loop c).wp P s Q := by
  obtain ⟨V0, h0⟩ := h0
  refine ⟨fun m t => ∃ i V, i + m = n ∧ Inv i ∧ t = S i V, n, ⟨S 0 V0, h0, 0, V0, by omega, hI, rfl⟩, ?_⟩
  rintro m t ⟨i, V, him, hIi, rfl⟩
  refine AC.mono c (fun x s g => ?_) (hstep i V (by omega) hIi)
  cases x with
  | normal => obtain ⟨g1, g2, V', g3⟩ := g; exact ⟨m - 1, by omega, S (i + 1) V', g3, i + 1, V', by omega, g2, rfl⟩
  | exit id => exact g
  | ret => exact g
theorem Le.unown {t b : Nat} {e : TypeId} {V : Value} {esz : Nat} {els : List AV} (ht : s.tm[t]? = some (.own b V)) (hb : s.blk b = some (.row e V esz els els.length)) : Le s { s with tm := s.tm.set t (.sl esz els) } := fun w0 wk regs St a w h => by
  obtain ⟨Imm, h1, h2, h3, hseal⟩ := h.seals
  refine ⟨h.defers, by simpa using h.tsize, h.tab, h.frame, Imm, h1, fun t' v hv => ?_, h3⟩
  simp only [List.getElem?_set] at hv
  by_cases e1 : t = t'
  · subst e1
    simp only [if_true] at hv
    split at hv
    · cases hv
      have := coe_sound (ro := tt) h3 hseal (h2 t _ ht)
      simpa [AS.coe, tt, hb] using this
    · cases hv
  · rw [if_neg e1] at hv; exact h2 t' v hv
theorem wp_loop_m {X : Type} {c : AC} (S : X → AS) (μ : X → Nat) (Inv : X → Prop) (x0 : X) (h0 : Le s (S x0)) (hI : Inv x0)
    (hstep : ∀ x, Inv x → c.wp P (S x) fun ex s' => match ex with | .normal => ∃ y, Inv y ∧ μ y < μ x ∧ Le s' (S y) | ex => Q ex s') : (AC.loop c).wp P s Q := by
  refine ⟨fun m t => ∃ x, μ x = m ∧ Inv x ∧ t = S x, μ x0, ⟨S x0, h0, x0, rfl, hI, rfl⟩, ?_⟩
  rintro m t ⟨x, rfl, hx, rfl⟩
  refine AC.mono c (fun ex s g => ?_) (hstep x hx)
  cases ex with
  | normal => obtain ⟨y, g1, g2, g3⟩ := g; exact ⟨μ y, g2, S y, g3, y, rfl, g1, rfl⟩
  | exit id => exact g
  | ret => exact g
def dl (l : List Nat) : List AV := l.map fun n => .lit (un n)
theorem dl_len (l : List Nat) : (dl l).length = l.length := by simp [dl]
theorem dl_get {l : List Nat} {i : Nat} : (dl l)[i]? = (l[i]?).map fun n => .lit (un n) := by simp [dl]
theorem dl_app (l m : List Nat) : dl l ++ dl m = dl (l ++ m) := by simp [dl]
theorem dl_set (l : List Nat) (i n : Nat) : (dl l).set i (.lit (un n)) = dl (l.set i n) := by simp [dl, List.map_set]
theorem dl_one (n : Nat) : [AV.lit (un n)] = dl [n] := rfl
end
end Go.Cab
namespace Go.Cab
open Go.RowKit
open Classical
theorem PCall.sealed {P : Program} {f : FuncId} {args : List AV} {e : TypeId} {esz : Nat} {els : List AV} (h : PCall P f args (.row e esz els)) : PCall P f args (.val (.sl esz els)) := by
  intro w St Vs hth hargs
  refine Calls.mono (h w St Vs hth hargs) fun ex w' ⟨V, Imm, he, hfr, hI, hsc, cs, hR, hown, hm⟩ => ?_
  have hcell : ∀ g, V.ownBlock = some g → ∀ i y, cs[i]? = some y → w'.cell? ⟨g, i, none⟩ = some y := by
    intro g hg i y hy
    rcases hown.2 with ⟨rfl, hn⟩ | ⟨g', cap', cur, rfl, _, hgg, hnc, _, _, htake⟩
    · cases hg
    · simp only [Value.ownBlock, Option.map_some, Option.some.injEq] at hg
      subst hg
      rw [cell_of_row w' g' i cur e (0, 0) hgg]
      rw [← htake, List.getElem?_take] at hy
      split at hy
      · simpa using hy
      · cases hy
  refine ⟨V, fun b o => Imm b o ∨ (V.ownBlock = some b ∧ o < cs.length), he, hfr, ⟨fun b o hb => .inl (hI.sub b o hb), fun b o hb hlt => ?_, fun b o hb => ?_, hI.val⟩, ?_, by simp⟩
  · rcases hb with hb | ⟨hb, _⟩
    · exact hI.old b o hb hlt
    · have := (hown.lt b hb).1; omega
  · rcases hb with hb | ⟨hb, ho⟩
    · exact hI.there b o hb
    · rw [hcell b hb o _ (List.getElem?_eq_getElem ho)]; rfl
  · rcases hown.2 with ⟨rfl, hn⟩ | ⟨g', cap', cur, rfl, _, hgg, hnc, _, _, htake⟩
    · have : els = [] := List.eq_nil_of_length_eq_zero hn
      subst this
      exact .inr ⟨_, .slnil esz, rfl⟩
    · refine .inr ⟨_, .sl esz els cs g' 0 cap' (hR.mono (fun b o hb => .inl hb) (fun _ _ _ => rfl)) (fun i y hy => ?_) hnc, rfl⟩
      rw [Nat.zero_add]
      exact ⟨hcell g' rfl i y hy, .inr ⟨rfl, (List.getElem?_eq_some_iff.1 hy).1⟩⟩
section
variable {P : Program} {s : AS} {K : AS → Prop} {xs : List AOp}
theorem areg_g {d : Option Tmp} {t : Tmp} {b : Bool} {ai : AI} {fo : List Tmp} {ow : Option Tmp} (hg : s.ev (.tmp t) = .lit (.bool b)) (h : AReg P (⟨d, none, ai, fo, ow⟩ :: xs) s K) : AReg P (⟨d, some (t, b), ai, fo, ow⟩ :: xs) s K := by
  unfold AReg AOp.go at h ⊢
  simp only [hg, if_true] at h ⊢
  exact h
theorem areg_eq {d : Option Tmp} {t : TypeId} {neg : Bool} {x y : Operand} {fo : List Tmp} {ow : Option Tmp} {u v : AV} (hx : s.ev x = u) (hy : s.ev y = v) {b : Bool} (he : EqAV P t u v b) (h1 : u.isAgg = true) (h2 : v.isAgg = true)
    (h : AReg P xs (s.put d (.lit (.bool (if neg then !b else b)))) K) : AReg P (⟨d, none, .eqv t neg x y, fo, ow⟩ :: xs) s K := by
  subst hx hy
  unfold AReg AOp.go AOp.mine
  simp only [AI.go]
  exact ⟨trivial, b, he, h1, h2, h⟩
end
end Go.Cab
namespace Go.Cab
open Go.RowKit
open Classical
def FinX (rvs : List RV) (s : AS) (K : AV → List (Option Blk) → Prop) : Prop :=
  ∃ bs r, (match rvs with
    | [x] => RVal (s.seals bs) x = some r ∧ r ≠ .any
    | xs => ∃ vs, r = .tup vs ∧ RVals (s.seals bs) xs = some vs ∧ ∀ u ∈ vs, u ≠ .any) ∧ K r (s.seals bs).hp
theorem XCall.ofC {P : Program} {f : FuncId} {fc : FC} {args : List AV} {hp : List (Option Blk)} {K : AV → List (Option Blk) → Prop} (hc : compF P f = some fc) (hlen : args.length ≤ fc.nt)
    (h : fc.body.wp P ⟨hp.length, args ++ List.replicate (fc.nt - args.length) .any, hp ++ List.replicate fc.nt none⟩ fun x s => match x with | .exit _ => False | _ => ∃ s1, Le s s1 ∧ FinX fc.rv s1 K) : XCall P f args hp K := by
  intro w0 w regs Imm0 Vs hfr0 hth hheap hargs
  unfold compF at hc
  split at hc <;> try (cases hc; done)
  rename_i fn hfn
  split at hc <;> try (cases hc; done)
  rename_i c hbody
  split at hc <;> try (cases hc; done)
  rename_i ac rv hac hrv
  split at hc <;> try (cases hc; done)
  rename_i hsz
  cases hc
  obtain ⟨hl, _⟩ := argsOk_len hargs
  simp only at hlen h
  refine calls_of_wp hfn hbody ?_
  have hsize : Vs.toArray.size = args.length := by simp [← hl]
  have hget : ∀ (k : Nat) (x : Blk), ((hp ++ List.replicate fn.ntmps none)[k]?).join = some x → (hp[k]?).join = some x := fun k x hx => by
    by_cases hk : k < hp.length
    · rwa [List.getElem?_append_left hk] at hx
    · rw [List.getElem?_append_right (by omega), List.getElem?_replicate] at hx
      split at hx <;> simp at hx
  have hinit : SRel w0 w regs Imm0 ⟨hp.length, args ++ List.replicate (fn.ntmps - args.length) .any, hp ++ List.replicate fn.ntmps none⟩ { tmps := Vs.toArray ++ Array.replicate (fn.ntmps - Vs.toArray.size) undef, defers := [] } w := by
    refine ⟨rfl, ?_, hth.tab, hfr0, Imm0, ⟨fun _ _ h => h, fun _ _ h _ => h, hth.there, fun _ _ _ => rfl⟩, ?_, ⟨fun k x hx => hheap.ok k x (hget k x hx), fun k k' x y hne hx hy => hheap.apart k k' x y hne (hget k x hx) (hget k' y hy)⟩⟩
    · simp [hl] <;> omega
    · rw [hsize]; exact tmOk_init hargs _
  refine Code.wp_mono (fun e a' w' ⟨x, s', he, hk, hs'⟩ => ?_) (AC.sound c ac _ _ _ w hac h hinit)
  subst he
  have key : (∃ s1, Le s' s1 ∧ FinX rv s1 K) → a'.defers = [] ∧ ∃ v, (results fn a'.tmps).run P w' = .ok v w' ∧ ∃ V r hp' Imm', Ending.returned v = .returned V ∧ K r hp' ∧ Fr regs w0 w' ∧ ImmOk w0 w Imm0 Imm' w' ∧ Rel Imm' w' r V ∧ r ≠ .any ∧ HeapOk w0 regs Imm' hp' w' := by
    rintro ⟨s1, hle, bs, r, hfin', hK⟩
    have hs1 := hle _ _ _ _ _ _ hs'
    have hs2 := SRel.sealsAll bs hs1
    obtain ⟨Imm, h1, h2, h3, hseal⟩ := hs2.seals
    have hfs : ∃ V, (results fn a'.tmps).run P w' = .ok V w' ∧ Rel Imm w' r V ∧ r ≠ .any := by
      rw [results_run]
      cases hrs : fn.results.toList with
      | nil =>
        rw [hrs] at hrv
        simp only [compRVs, Option.some.injEq] at hrv
        subst hrv
        simp only at hfin'
        obtain ⟨vs, rfl, hvs, hany⟩ := hfin'
        simp only [RVals, Option.some.injEq] at hvs
        subst hvs
        exact ⟨_, rfl, .inr ⟨[], .tup0, rfl⟩, by simp⟩
      | cons r0 rs =>
        cases rs with
        | nil =>
          rw [hrs] at hrv
          simp only [compRVs] at hrv
          split at hrv <;> try (cases hrv; done)
          rename_i x ys hx hys
          simp only [Option.some.injEq] at hys
          subst hys
          cases hrv
          simp only at hfin'
          obtain ⟨hv, hany⟩ := hfin'
          obtain ⟨V, hrun, hrel⟩ := RVal_sound hx hv h2 h3 hseal
          refine ⟨V, ?_, hrel, hany⟩
          simp only [List.mapM_cons, Sem.run_bind]
          rw [hrun]
          simp
        | cons r1 rs =>
          rw [hrs] at hrv
          have hxs : ∃ x y zs, rv = x :: y :: zs := by
            simp only [compRVs] at hrv
            split at hrv <;> try (cases hrv; done)
            rename_i x ys hx hys
            split at hys <;> try (cases hys; done)
            cases hys; cases hrv
            exact ⟨_, _, _, rfl⟩
          obtain ⟨x, y, zs, rfl⟩ := hxs
          simp only at hfin'
          obtain ⟨vs, rfl, hvs, hany⟩ := hfin'
          obtain ⟨Vs2, hrun, hR, hl2⟩ := RVals_sound h2 h3 hseal _ _ _ hrv hvs hany
          refine ⟨.tuple Vs2.toArray, ?_, .inr ⟨Vs2, hR, rfl⟩, by simp⟩
          rw [hrun]
          have hl3 : 2 ≤ vs.length := by
            simp only [RVals] at hvs
            split at hvs <;> try (cases hvs; done)
            rename_i a1 a2 b1 b2
            split at b2 <;> try (cases b2; done)
            cases b2; cases hvs
            simp
          match Vs2, hl2 with
          | [], h0 => simp at h0; omega
          | [_], h0 => simp at h0; omega
          | _ :: _ :: _, _ => rfl
    obtain ⟨V, hrun, hrel, hany⟩ := hfs
    exact ⟨hs'.defers, V, hrun, V, r, _, Imm, rfl, hK, hs'.frame, h1, hrel, hany, h3⟩
  cases x with
  | normal => exact key hk
  | exit id => exact hk.elim
  | ret => exact key hk
theorem compF_le {P : Program} {f : FuncId} {fc : FC} (hc : compF P f = some fc) : fc.np ≤ fc.nt := by
  unfold compF at hc
  split at hc <;> try (cases hc; done)
  split at hc <;> try (cases hc; done)
  split at hc <;> try (cases hc; done)
  split at hc <;> try (cases hc; done)
  rename_i hsz
  cases hc
  exact hsz
theorem XCall.of {P : Program} {f : FuncId} {fc : FC} {args : List AV} {hp : List (Option Blk)} {K : AV → List (Option Blk) → Prop} (hc : compF P f = some fc) (hlen : args.length = fc.np)
    (h : fc.body.wp P ⟨hp.length, args ++ List.replicate (fc.nt - fc.np) .any, hp ++ List.replicate fc.nt none⟩ fun x s => match x with | .exit _ => False | _ => ∃ s1, Le s s1 ∧ FinX fc.rv s1 K) : XCall P f args hp K := by
  refine XCall.ofC hc (by rw [hlen]; exact compF_le hc) ?_
  rw [hlen]; exact h
def AVle (v v' : AV) : Prop := ∀ (Imm : Nat → Nat → Prop) (w : World) (cs : List Value), R Imm w v cs → R Imm w v' cs
theorem AVle.refl (v : AV) : AVle v v := fun _ _ _ h => h
theorem AVle.own (i j : Nat) (V : Value) : AVle (.own i V) (.own j V) := fun _ _ _ h => by
  cases h with | own _ _ hs => exact .own j V hs
theorem AVle.nil (j : Nat) : AVle (.lit (.slice none 0 0)) (.own j (.slice none 0 0)) := fun _ _ _ h => by
  cases h with | lit _ hs => exact .own j _ hs
theorem AVle.st0 : AVle (.st [] []) (.st [] []) := AVle.refl _
theorem AVle.st1 {n : Nat} {ns : List Nat} {f f' : AV} {fs fs' : List AV} (h : AVle f f') (k : AVle (.st ns fs) (.st ns fs')) : AVle (.st (n :: ns) (f :: fs)) (.st (n :: ns) (f' :: fs')) := fun Imm w cs hr => by
  cases hr with
  | st1 _ _ _ _ c d he hc hs hd => exact .st1 n ns f' fs' c d (h _ _ _ he) hc hs (k _ _ _ hd)
def BlkLe (x y : Blk) : Prop := ∀ (Imm : Nat → Nat → Prop) (w : World), x.ok Imm w → y.ok Imm w ∧ ∀ b o, y.foot b o → x.foot b o
theorem BlkLe.refl (x : Blk) : BlkLe x x := fun _ _ h => ⟨h, fun _ _ h => h⟩
theorem BlkLe.box {l : Nat × Nat} {n : Nat} {v v' : AV} (h : AVle v v') : BlkLe (.box l n v) (.box l n v') := fun Imm w ⟨⟨cs, h1, h2⟩, h3⟩ => ⟨⟨⟨cs, h _ _ _ h1, h2⟩, h3⟩, fun _ _ h => h⟩
theorem Le.gen {s s' : AS} (hl : s'.tm.length = s.tm.length) (ht : ∀ (t : Nat) (v' : AV), s'.tm[t]? = some v' → v' = .any ∨ s.tm[t]? = some v' ∨ ∃ i j V, s.tm[t]? = some (.own i V) ∧ v' = .own j V) (m : Nat → Nat)
    (hinj : ∀ k k' x y, (s'.hp[k]?).join = some x → (s'.hp[k']?).join = some y → m k = m k' → k = k')
    (hh : ∀ k x', (s'.hp[k]?).join = some x' → ∃ x, (s.hp[m k]?).join = some x ∧ BlkLe x x') : Le s s' := fun w0 wk regs St a w h => by
  obtain ⟨Imm, h1, h2, h3⟩ := h.ex
  refine ⟨h.defers, by rw [hl]; exact h.tsize, h.tab, h.frame, Imm, h1, fun t v hv => ?_, ⟨fun k x hx => ?_, fun k k' x y hne hx hy b o hf => ?_⟩⟩
  · rcases ht t v hv with rfl | hu | ⟨i, j, V, hu, rfl⟩
    · exact .inl rfl
    · exact h2 t v hu
    · rcases h2 t _ hu with h | ⟨cs, hR, e⟩
      · cases h
      · exact .inr ⟨cs, AVle.own i j V _ _ _ hR, e⟩
  · obtain ⟨y, hy, hle⟩ := hh k x hx
    obtain ⟨g1, g2⟩ := h3.ok _ y hy
    obtain ⟨g3, g4⟩ := hle Imm w g1
    exact ⟨g3, fun b o hf => g2 b o (g4 b o hf)⟩
  · obtain ⟨u, hu, hle⟩ := hh k x hx
    obtain ⟨v, hv, hle'⟩ := hh k' y hy
    obtain ⟨g1, _⟩ := h3.ok _ u hu
    obtain ⟨g2, _⟩ := h3.ok _ v hv
    refine fun hf' => h3.apart (m k) (m k') u v (fun he => hne (hinj k k' x y hx hy he)) hu hv b o ((hle Imm w g1).2 b o hf) ((hle' Imm w g2).2 b o hf')
theorem Le.nilField {s : AS} {b j n : Nat} {l : Nat × Nat} {v v' : AV} (hb : s.blk b = some (.box l n v)) (hv : AVle v v') (hj : s.blk j = none) (hlt : j < s.hp.length) (hbl : b < s.hp.length) (e : TypeId) (esz : Nat) :
    Le s { s with hp := (s.hp.set b (some (.box l n v'))).set j (some (.row e (.slice none 0 0) esz [] 0)) } := fun w0 wk regs St a w h => by
  obtain ⟨Imm, h1, h2, h3⟩ := h.ex
  have hbj : b ≠ j := fun he => by subst he; rw [hb] at hj; cases hj
  have hrow : Blk.ok Imm w (.row e (.slice none 0 0) esz [] 0) := by
    refine ⟨[], .arr0 esz, ?_, rfl, Nat.le_refl _, fun b o hb => by simp [Value.ownBlock] at hb⟩
    exact ⟨by simp, .inl ⟨rfl, rfl⟩⟩
  have hfoot : ∀ b o, ¬ Blk.foot (.row e (.slice none 0 0) esz [] 0) b o := fun b o hf => by simp [Blk.foot, Value.ownBlock] at hf
  have hget : ∀ (k : Nat) (x : Blk), (((s.hp.set b (some (.box l n v'))).set j (some (.row e (.slice none 0 0) esz [] 0)))[k]?).join = some x →
      (k = j ∧ x = .row e (.slice none 0 0) esz [] 0) ∨ ∃ y, (s.hp[k]?).join = some y ∧ BlkLe y x := fun k x hx => by
    rcases hp_set hx with ⟨rfl, rfl⟩ | ⟨_, hx⟩
    · exact .inl ⟨rfl, rfl⟩
    · rcases hp_set hx with ⟨rfl, rfl⟩ | ⟨_, hx⟩
      · exact .inr ⟨_, hb, BlkLe.box hv⟩
      · exact .inr ⟨_, hx, BlkLe.refl _⟩
  refine ⟨h.defers, h.tsize, h.tab, h.frame, Imm, h1, h2, ⟨fun k x hx => ?_, fun k k' x y hne hx hy b o hf => ?_⟩⟩
  · rcases hget k x hx with ⟨_, rfl⟩ | ⟨y, hy, hle⟩
    · exact ⟨hrow, fun b o hf => absurd hf (hfoot b o)⟩
    · obtain ⟨g1, g2⟩ := h3.ok _ y hy
      obtain ⟨g3, g4⟩ := hle Imm w g1
      exact ⟨g3, fun b o hf => g2 b o (g4 b o hf)⟩
  · rcases hget k x hx with ⟨_, rfl⟩ | ⟨u, hu, hle⟩
    · exact absurd hf (hfoot b o)
    · rcases hget k' y hy with ⟨_, rfl⟩ | ⟨u', hu', hle'⟩
      · exact hfoot b o
      · obtain ⟨g1, _⟩ := h3.ok _ u hu
        obtain ⟨g2, _⟩ := h3.ok _ u' hu'
        exact fun hf' => h3.apart k k' u u' hne hu hu' b o ((hle Imm w g1).2 b o hf) ((hle' Imm w g2).2 b o hf')
section
variable {P : Program} {s : AS} {K : AS → Prop} {xs : List AOp}
theorem areg_xc {d : Option Tmp} {f : FuncId} {x : Operand} {as : List Operand} {ow : Option Tmp} {fo : List Tmp} {vs : List AV} {K' : AV → List (Option Blk) → Prop} (ha : ((x :: as).map fun y => s.ev y) = vs) (hc : XCall P f vs s.hp K') (hn : ∃ r hp', K' r hp')
    (h : ∀ r hp', K' r hp' → AReg P xs { s.put d r with hp := hp' } K) : AReg P (⟨d, none, .icall f x as, fo, ow⟩ :: xs) s K := by
  subst ha
  unfold AReg AOp.go AOp.mine
  simp only [AI.go]
  exact ⟨trivial, .inr ⟨K', hc, hn, h⟩⟩
end
end Go.Cab