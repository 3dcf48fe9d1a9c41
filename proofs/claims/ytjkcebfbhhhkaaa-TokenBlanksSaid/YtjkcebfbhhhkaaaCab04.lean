/- Part 4 of what the proof stands on: X, Y. -/
import Derived.Test.YtjkcebfbhhhkaaaCab03
set_option linter.unusedSimpArgs false
set_option linter.unnecessarySimpa false
set_option linter.unusedVariables false
set_option linter.unusedSectionVars false
/- Part twenty-two: a list that is answered, taken as a value. -/
namespace Go.Cab
open Go.RowKit
open Classical

theorem PCall.sealed {P : Program} {f : FuncId} {args : List AV} {e : TypeId} {esz : Nat} {els : List AV} (h : PCall P f args (.row e esz els)) : PCall P f args (.val (.sl esz els)) := by
  intro w St Vs hth hargs
  refine Calls.mono (h w St Vs hth hargs) fun ex w' ⟨V, Imm, he, hfr, hI, hsc, cs, hR, hown, hm⟩ => ?_
  have hcell : ∀ g, V.ownBlock = some g → ∀ i y, cs[i]? = some y → w'.cell? ⟨g, i, none⟩ = some y := by
    intro g hg i y hy
    rcases hown.2 with ⟨rfl, hn⟩ | ⟨g', cap', cur, rfl, _, hgg, hnc, _, _, htake⟩
    · cases hg
    · simp only [Value.ownBlock, Option.map_some, Option.some.injEq] at hg
      subst hg
      rw [cell_of_row w' g' i cur e (0, 0) hgg]
      rw [← htake, List.getElem?_take] at hy
      split at hy
      · simpa using hy
      · cases hy
  refine ⟨V, fun b o => Imm b o ∨ (V.ownBlock = some b ∧ o < cs.length), he, hfr, ⟨fun b o hb => .inl (hI.sub b o hb), fun b o hb hlt => ?_, fun b o hb => ?_, hI.val⟩, ?_, by simp⟩
  · rcases hb with hb | ⟨hb, _⟩
    · exact hI.old b o hb hlt
    · have := (hown.lt b hb).1; omega
  · rcases hb with hb | ⟨hb, ho⟩
    · exact hI.there b o hb
    · rw [hcell b hb o _ (List.getElem?_eq_getElem ho)]; rfl
  · rcases hown.2 with ⟨rfl, hn⟩ | ⟨g', cap', cur, rfl, _, hgg, hnc, _, _, htake⟩
    · have : els = [] := List.eq_nil_of_length_eq_zero hn
      subst this
      exact .inr ⟨_, .slnil esz, rfl⟩
    · refine .inr ⟨_, .sl esz els cs g' 0 cap' (hR.mono (fun b o hb => .inl hb) (fun _ _ _ => rfl)) (fun i y hy => ?_) hnc, rfl⟩
      rw [Nat.zero_add]
      exact ⟨hcell g' rfl i y hy, .inr ⟨rfl, (List.getElem?_eq_some_iff.1 hy).1⟩⟩

section
variable {P : Program} {s : AS} {K : AS → Prop} {xs : List AOp}

/-- A guard that holds. -/
theorem areg_g {d : Option Tmp} {t : Tmp} {b : Bool} {ai : AI} {fo : List Tmp} {ow : Option Tmp} (hg : s.ev (.tmp t) = .lit (.bool b)) (h : AReg P (⟨d, none, ai, fo, ow⟩ :: xs) s K) : AReg P (⟨d, some (t, b), ai, fo, ow⟩ :: xs) s K := by
  unfold AReg AOp.go at h ⊢
  simp only [hg, if_true] at h ⊢
  exact h

theorem areg_eq {d : Option Tmp} {t : TypeId} {neg : Bool} {x y : Operand} {fo : List Tmp} {ow : Option Tmp} {u v : AV} (hx : s.ev x = u) (hy : s.ev y = v) {b : Bool} (he : EqAV P t u v b) (h1 : u.isAgg = true) (h2 : v.isAgg = true)
    (h : AReg P xs (s.put d (.lit (.bool (if neg then !b else b)))) K) : AReg P (⟨d, none, .eqv t neg x y, fo, ow⟩ :: xs) s K := by
  subst hx hy
  unfold AReg AOp.go AOp.mine
  simp only [AI.go]
  exact ⟨trivial, b, he, h1, h2, h⟩
end
end Go.Cab

/- Part twenty-three: functions whose call is carried out upon the caller's own blocks. -/
namespace Go.Cab
open Go.RowKit
open Classical

/-- What a call upon the caller's blocks answers. -/
def FinX (rvs : List RV) (s : AS) (K : AV → List (Option Blk) → Prop) : Prop :=
  ∃ bs r, (match rvs with
    | [x] => RVal (s.seals bs) x = some r ∧ r ≠ .any
    | xs => ∃ vs, r = .tup vs ∧ RVals (s.seals bs) xs = some vs ∧ ∀ u ∈ vs, u ≠ .any) ∧ K r (s.seals bs).hp

theorem XCall.of {P : Program} {f : FuncId} {fc : FC} {args : List AV} {hp : List (Option Blk)} {K : AV → List (Option Blk) → Prop} (hc : compF P f = some fc) (hlen : args.length = fc.np)
    (h : fc.body.wp P ⟨hp.length, args ++ List.replicate (fc.nt - fc.np) .any, hp ++ List.replicate fc.nt none⟩ fun x s => match x with | .exit _ => False | _ => ∃ s1, Le s s1 ∧ FinX fc.rv s1 K) : XCall P f args hp K := by
  intro w0 w regs Imm0 Vs hfr0 hth hheap hargs
  unfold compF at hc
  split at hc <;> try (cases hc; done)
  rename_i fn hfn
  split at hc <;> try (cases hc; done)
  rename_i c hbody
  split at hc <;> try (cases hc; done)
  rename_i ac rv hac hrv
  split at hc <;> try (cases hc; done)
  rename_i hsz
  cases hc
  obtain ⟨hl, _⟩ := argsOk_len hargs
  simp only at hlen h
  refine calls_of_wp hfn hbody ?_
  have hsize : Vs.toArray.size = fn.params.size := by simp [← hl, hlen]
  have hget : ∀ (k : Nat) (x : Blk), ((hp ++ List.replicate fn.ntmps none)[k]?).join = some x → (hp[k]?).join = some x := fun k x hx => by
    by_cases hk : k < hp.length
    · rwa [List.getElem?_append_left hk] at hx
    · rw [List.getElem?_append_right (by omega), List.getElem?_replicate] at hx
      split at hx <;> simp at hx
  have hinit : SRel w0 w regs Imm0 ⟨hp.length, args ++ List.replicate (fn.ntmps - fn.params.size) .any, hp ++ List.replicate fn.ntmps none⟩ { tmps := Vs.toArray ++ Array.replicate (fn.ntmps - Vs.toArray.size) undef, defers := [] } w := by
    refine ⟨rfl, ?_, hfr0, Imm0, ⟨fun _ _ h => h, fun _ _ h _ => h, hth, fun _ _ _ => rfl⟩, ?_, ⟨fun k x hx => hheap.ok k x (hget k x hx), fun k k' x y hne hx hy => hheap.apart k k' x y hne (hget k x hx) (hget k' y hy)⟩⟩
    · simp [hl]; omega
    · rw [hsize]; exact tmOk_init hargs _
  refine Code.wp_mono (fun e a' w' ⟨x, s', he, hk, hs'⟩ => ?_) (AC.sound c ac _ _ _ w hac h hinit)
  subst he
  have key : (∃ s1, Le s' s1 ∧ FinX rv s1 K) → a'.defers = [] ∧ ∃ v, (results fn a'.tmps).run P w' = .ok v w' ∧ ∃ V r hp' Imm', Ending.returned v = .returned V ∧ K r hp' ∧ Fr regs w0 w' ∧ ImmOk w0 w Imm0 Imm' w' ∧ Rel Imm' w' r V ∧ r ≠ .any ∧ HeapOk w0 regs Imm' hp' w' := by
    rintro ⟨s1, hle, bs, r, hfin', hK⟩
    have hs1 := hle _ _ _ _ _ _ hs'
    have hs2 := SRel.sealsAll bs hs1
    obtain ⟨Imm, h1, h2, h3, hseal⟩ := hs2.seals
    have hfs : ∃ V, (results fn a'.tmps).run P w' = .ok V w' ∧ Rel Imm w' r V ∧ r ≠ .any := by
      rw [results_run]
      cases hrs : fn.results.toList with
      | nil =>
        rw [hrs] at hrv
        simp only [compRVs, Option.some.injEq] at hrv
        subst hrv
        simp only at hfin'
        obtain ⟨vs, rfl, hvs, hany⟩ := hfin'
        simp only [RVals, Option.some.injEq] at hvs
        subst hvs
        exact ⟨_, rfl, .inr ⟨[], .tup0, rfl⟩, by simp⟩
      | cons r0 rs =>
        cases rs with
        | nil =>
          rw [hrs] at hrv
          simp only [compRVs] at hrv
          split at hrv <;> try (cases hrv; done)
          rename_i x ys hx hys
          simp only [Option.some.injEq] at hys
          subst hys
          cases hrv
          simp only at hfin'
          obtain ⟨hv, hany⟩ := hfin'
          obtain ⟨V, hrun, hrel⟩ := RVal_sound hx hv h2 h3 hseal
          refine ⟨V, ?_, hrel, hany⟩
          simp only [List.mapM_cons, Sem.run_bind]
          rw [hrun]
          simp
        | cons r1 rs =>
          rw [hrs] at hrv
          have hxs : ∃ x y zs, rv = x :: y :: zs := by
            simp only [compRVs] at hrv
            split at hrv <;> try (cases hrv; done)
            rename_i x ys hx hys
            split at hys <;> try (cases hys; done)
            cases hys; cases hrv
            exact ⟨_, _, _, rfl⟩
          obtain ⟨x, y, zs, rfl⟩ := hxs
          simp only at hfin'
          obtain ⟨vs, rfl, hvs, hany⟩ := hfin'
          obtain ⟨Vs2, hrun, hR, hl2⟩ := RVals_sound h2 h3 hseal _ _ _ hrv hvs hany
          refine ⟨.tuple Vs2.toArray, ?_, .inr ⟨Vs2, hR, rfl⟩, by simp⟩
          rw [hrun]
          have hl3 : 2 ≤ vs.length := by
            simp only [RVals] at hvs
            split at hvs <;> try (cases hvs; done)
            rename_i a1 a2 b1 b2
            split at b2 <;> try (cases b2; done)
            cases b2; cases hvs
            simp
          match Vs2, hl2 with
          | [], h0 => simp at h0; omega
          | [_], h0 => simp at h0; omega
          | _ :: _ :: _, _ => rfl
    obtain ⟨V, hrun, hrel, hany⟩ := hfs
    exact ⟨hs'.defers, V, hrun, V, r, _, Imm, rfl, hK, hs'.frame, h1, hrel, hany, h3⟩
  cases x with
  | normal => exact key hk
  | exit id => exact hk.elim
  | ret => exact key hk

/-- What stands for a value stands for it under another name of the call's own blocks, too. -/
def AVle (v v' : AV) : Prop := ∀ (Imm : Nat → Nat → Prop) (w : World) (cs : List Value), R Imm w v cs → R Imm w v' cs
theorem AVle.refl (v : AV) : AVle v v := fun _ _ _ h => h
theorem AVle.own (i j : Nat) (V : Value) : AVle (.own i V) (.own j V) := fun _ _ _ h => by
  cases h with | own _ _ hs => exact .own j V hs
theorem AVle.nil (j : Nat) : AVle (.lit (.slice none 0 0)) (.own j (.slice none 0 0)) := fun _ _ _ h => by
  cases h with | lit _ hs => exact .own j _ hs
theorem AVle.st0 : AVle (.st [] []) (.st [] []) := AVle.refl _
theorem AVle.st1 {n : Nat} {ns : List Nat} {f f' : AV} {fs fs' : List AV} (h : AVle f f') (k : AVle (.st ns fs) (.st ns fs')) : AVle (.st (n :: ns) (f :: fs)) (.st (n :: ns) (f' :: fs')) := fun Imm w cs hr => by
  cases hr with
  | st1 _ _ _ _ c d he hc hs hd => exact .st1 n ns f' fs' c d (h _ _ _ he) hc hs (k _ _ _ hd)

/-- A block, under other names. -/
def BlkLe (x y : Blk) : Prop := ∀ (Imm : Nat → Nat → Prop) (w : World), x.ok Imm w → y.ok Imm w ∧ ∀ b o, y.foot b o → x.foot b o
theorem BlkLe.refl (x : Blk) : BlkLe x x := fun _ _ h => ⟨h, fun _ _ h => h⟩
theorem BlkLe.box {l : Nat × Nat} {n : Nat} {v v' : AV} (h : AVle v v') : BlkLe (.box l n v) (.box l n v') := fun Imm w ⟨⟨cs, h1, h2⟩, h3⟩ => ⟨⟨⟨cs, h _ _ _ h1, h2⟩, h3⟩, fun _ _ h => h⟩

/-- A state with its blocks in other places. -/
theorem Le.gen {s s' : AS} (hl : s'.tm.length = s.tm.length) (ht : ∀ (t : Nat) (v' : AV), s'.tm[t]? = some v' → v' = .any ∨ s.tm[t]? = some v' ∨ ∃ i j V, s.tm[t]? = some (.own i V) ∧ v' = .own j V) (m : Nat → Nat)
    (hinj : ∀ k k' x y, (s'.hp[k]?).join = some x → (s'.hp[k']?).join = some y → m k = m k' → k = k')
    (hh : ∀ k x', (s'.hp[k]?).join = some x' → ∃ x, (s.hp[m k]?).join = some x ∧ BlkLe x x') : Le s s' := fun w0 wk regs St a w h => by
  obtain ⟨Imm, h1, h2, h3⟩ := h.ex
  refine ⟨h.defers, by rw [hl]; exact h.tsize, h.frame, Imm, h1, fun t v hv => ?_, ⟨fun k x hx => ?_, fun k k' x y hne hx hy b o hf => ?_⟩⟩
  · rcases ht t v hv with rfl | hu | ⟨i, j, V, hu, rfl⟩
    · exact .inl rfl
    · exact h2 t v hu
    · rcases h2 t _ hu with h | ⟨cs, hR, e⟩
      · cases h
      · exact .inr ⟨cs, AVle.own i j V _ _ _ hR, e⟩
  · obtain ⟨y, hy, hle⟩ := hh k x hx
    obtain ⟨g1, g2⟩ := h3.ok _ y hy
    obtain ⟨g3, g4⟩ := hle Imm w g1
    exact ⟨g3, fun b o hf => g2 b o (g4 b o hf)⟩
  · obtain ⟨u, hu, hle⟩ := hh k x hx
    obtain ⟨v, hv, hle'⟩ := hh k' y hy
    obtain ⟨g1, _⟩ := h3.ok _ u hu
    obtain ⟨g2, _⟩ := h3.ok _ v hv
    refine fun hf' => h3.apart (m k) (m k') u v (fun he => hne (hinj k k' x y hx hy he)) hu hv b o ((hle Imm w g1).2 b o hf) ((hle' Imm w g2).2 b o hf')

/-- A list that is nothing yet, in a variable's field, gets a place of its own. -/
theorem Le.nilField {s : AS} {b j n : Nat} {l : Nat × Nat} {v v' : AV} (hb : s.blk b = some (.box l n v)) (hv : AVle v v') (hj : s.blk j = none) (hlt : j < s.hp.length) (hbl : b < s.hp.length) (e : TypeId) (esz : Nat) :
    Le s { s with hp := (s.hp.set b (some (.box l n v'))).set j (some (.row e (.slice none 0 0) esz [] 0)) } := fun w0 wk regs St a w h => by
  obtain ⟨Imm, h1, h2, h3⟩ := h.ex
  have hbj : b ≠ j := fun he => by subst he; rw [hb] at hj; cases hj
  have hrow : Blk.ok Imm w (.row e (.slice none 0 0) esz [] 0) := by
    refine ⟨[], .arr0 esz, ?_, rfl, Nat.le_refl _, fun b o hb => by simp [Value.ownBlock] at hb⟩
    exact ⟨by simp, .inl ⟨rfl, rfl⟩⟩
  have hfoot : ∀ b o, ¬ Blk.foot (.row e (.slice none 0 0) esz [] 0) b o := fun b o hf => by simp [Blk.foot, Value.ownBlock] at hf
  have hget : ∀ (k : Nat) (x : Blk), (((s.hp.set b (some (.box l n v'))).set j (some (.row e (.slice none 0 0) esz [] 0)))[k]?).join = some x →
      (k = j ∧ x = .row e (.slice none 0 0) esz [] 0) ∨ ∃ y, (s.hp[k]?).join = some y ∧ BlkLe y x := fun k x hx => by
    rcases hp_set hx with ⟨rfl, rfl⟩ | ⟨_, hx⟩
    · exact .inl ⟨rfl, rfl⟩
    · rcases hp_set hx with ⟨rfl, rfl⟩ | ⟨_, hx⟩
      · exact .inr ⟨_, hb, BlkLe.box hv⟩
      · exact .inr ⟨_, hx, BlkLe.refl _⟩
  refine ⟨h.defers, h.tsize, h.frame, Imm, h1, h2, ⟨fun k x hx => ?_, fun k k' x y hne hx hy b o hf => ?_⟩⟩
  · rcases hget k x hx with ⟨_, rfl⟩ | ⟨y, hy, hle⟩
    · exact ⟨hrow, fun b o hf => absurd hf (hfoot b o)⟩
    · obtain ⟨g1, g2⟩ := h3.ok _ y hy
      obtain ⟨g3, g4⟩ := hle Imm w g1
      exact ⟨g3, fun b o hf => g2 b o (g4 b o hf)⟩
  · rcases hget k x hx with ⟨_, rfl⟩ | ⟨u, hu, hle⟩
    · exact absurd hf (hfoot b o)
    · rcases hget k' y hy with ⟨_, rfl⟩ | ⟨u', hu', hle'⟩
      · exact hfoot b o
      · obtain ⟨g1, _⟩ := h3.ok _ u hu
        obtain ⟨g2, _⟩ := h3.ok _ u' hu'
        exact fun hf' => h3.apart k k' u u' hne hu hu' b o ((hle Imm w g1).2 b o hf) ((hle' Imm w g2).2 b o hf')

section
variable {P : Program} {s : AS} {K : AS → Prop} {xs : List AOp}
/-- A call upon the caller's own blocks. -/
theorem areg_xc {d : Option Tmp} {f : FuncId} {x : Operand} {as : List Operand} {ow : Option Tmp} {fo : List Tmp} {vs : List AV} {K' : AV → List (Option Blk) → Prop} (ha : ((x :: as).map fun y => s.ev y) = vs) (hc : XCall P f vs s.hp K') (hn : ∃ r hp', K' r hp')
    (h : ∀ r hp', K' r hp' → AReg P xs { s.put d r with hp := hp' } K) : AReg P (⟨d, none, .icall f x as, fo, ow⟩ :: xs) s K := by
  subst ha
  unfold AReg AOp.go AOp.mine
  simp only [AI.go]
  exact ⟨trivial, .inr ⟨K', hc, hn, h⟩⟩
end
end Go.Cab
