/- Part twenty-two: a list that is answered, taken as a value. -/
import Derived.Test.YtjkckdiepdbfeaaCabW
set_option linter.unusedSimpArgs false
set_option linter.unusedVariables false
set_option linter.unusedSectionVars false
namespace Go.Cab
open Go.RowKit
open Classical

theorem PCall.sealed {P : Program} {f : FuncId} {args : List AV} {e : TypeId} {esz : Nat} {els : List AV} (h : PCall P f args (.row e esz els)) : PCall P f args (.val (.sl esz els)) := by
  intro w St Vs hth hargs
  refine Calls.mono (h w St Vs hth hargs) fun ex w' ⟨V, Imm, he, hfr, hI, hsc, cs, hR, hown, hm⟩ => ?_
  have hcell : ∀ g, V.ownBlock = some g → ∀ i y, cs[i]? = some y → w'.cell? ⟨g, i, none⟩ = some y := by
    intro g hg i y hy
    rcases hown.2 with ⟨rfl, hn⟩ | ⟨g', cap', cur, rfl, _, hgg, hnc, _, _, htake⟩
    · cases hg
    · simp only [Value.ownBlock, Option.map_some, Option.some.injEq] at hg
      subst hg
      rw [cell_of_row w' g' i cur e (0, 0) hgg]
      rw [← htake, List.getElem?_take] at hy
      split at hy
      · simpa using hy
      · cases hy
  refine ⟨V, fun b o => Imm b o ∨ (V.ownBlock = some b ∧ o < cs.length), he, hfr, ⟨fun b o hb => .inl (hI.sub b o hb), fun b o hb hlt => ?_, fun b o hb => ?_⟩, ?_, by simp⟩
  · rcases hb with hb | ⟨hb, _⟩
    · exact hI.old b o hb hlt
    · have := (hown.lt b hb).1; omega
  · rcases hb with hb | ⟨hb, ho⟩
    · exact hI.there b o hb
    · rw [hcell b hb o _ (List.getElem?_eq_getElem ho)]; rfl
  · rcases hown.2 with ⟨rfl, hn⟩ | ⟨g', cap', cur, rfl, _, hgg, hnc, _, _, htake⟩
    · have : els = [] := List.eq_nil_of_length_eq_zero hn
      subst this
      exact .inr ⟨_, .slnil esz, rfl⟩
    · refine .inr ⟨_, .sl esz els cs g' 0 cap' (hR.mono (fun b o hb => .inl hb) (fun _ _ _ => rfl)) (fun i y hy => ?_) hnc, rfl⟩
      rw [Nat.zero_add]
      exact ⟨hcell g' rfl i y hy, .inr ⟨rfl, (List.getElem?_eq_some_iff.1 hy).1⟩⟩

section
variable {P : Program} {s : AS} {K : AS → Prop} {xs : List AOp}

/-- A guard that holds. -/
theorem areg_g {d : Option Tmp} {t : Tmp} {b : Bool} {ai : AI} {fo : List Tmp} {ow : Option Tmp} (hg : s.ev (.tmp t) = .lit (.bool b)) (h : AReg P (⟨d, none, ai, fo, ow⟩ :: xs) s K) : AReg P (⟨d, some (t, b), ai, fo, ow⟩ :: xs) s K := by
  unfold AReg AOp.go at h ⊢
  simp only [hg, if_true] at h ⊢
  exact h

theorem areg_eq {d : Option Tmp} {t : TypeId} {neg : Bool} {x y : Operand} {fo : List Tmp} {ow : Option Tmp} {u v : AV} (hx : s.ev x = u) (hy : s.ev y = v) {b : Bool} (he : EqAV P t u v b) (h1 : u.isAgg = true) (h2 : v.isAgg = true)
    (h : AReg P xs (s.put d (.lit (.bool (if neg then !b else b)))) K) : AReg P (⟨d, none, .eqv t neg x y, fo, ow⟩ :: xs) s K := by
  subst hx hy
  unfold AReg AOp.go AOp.mine
  simp only [AI.go]
  exact ⟨trivial, b, he, h1, h2, h⟩
end
end Go.Cab
